/- Parts, values, terms in memory. No conditions. -/
import Derived.Test.YtbblgjjomgipfaaGreatRef2
import Derived.Test.YtbblgjjomgipfaaGreatI64
import Derived.Test.YtbblgjjomgipfaaGreatLin
namespace Go.Proofs.YtbblgjjomgipfaaGreat
open Go.RowKit

/-- The cells of a part (and of a value: a variable's number). -/
def EP (w : World) (X : Nat → Prop) (cs : List Value) (p : Int × Z) : Prop := ∃ A c, cs = [.int .i64 p.1, .bool p.2.neg, .slice A p.2.mag.length c] ∧ i64 p.1 ∧ Nl w X A c p.2.mag
instance : Stab EP := ⟨fun ⟨A, c, h, i, k⟩ kp => ⟨A, c, h, i, k.keep kp⟩, fun ⟨A, c, h, i, k⟩ kp => ⟨A, c, h, i, k.widen kp⟩, fun ⟨A, c, h, _, _⟩ => by subst h; simp [Value.oneCell']⟩
/-- A slice of parts. -/
abbrev Pl (w : World) (X : Nat → Prop) (A : Option Addr) (c : Nat) (l : List (Int × Z)) : Prop := Sl 3 EP w X A c l
theorem Pl.keep {w w' : World} {X : Nat → Prop} {A : Option Addr} {c : Nat} {l : List (Int × Z)} (h : Pl w X A c l) (k : Kp X w w') : Pl w' X A c l := Sl.keep h k
theorem Pl.ext {w w' : World} {X : Nat → Prop} {A : Option Addr} {c : Nat} {l : List (Int × Z)} (h : Pl w X A c l) (k : Ext w w') : Pl w' X A c l := Sl.keep h (.of_ext k)
theorem Pl.widen {w : World} {X Y : Nat → Prop} {A : Option Addr} {c : Nat} {l : List (Int × Z)} (h : Pl w X A c l) (k : ∀ b, X b → b < w.heap.size → Y b) : Pl w Y A c l := Sl.widen h (by omega) k
theorem Pl.below {w : World} {X : Nat → Prop} {A : Option Addr} {c : Nat} {l : List (Int × Z)} (h : Pl w X A c l) : Pl w (· < w.heap.size) A c l := h.widen fun _ _ hb => hb
/-- The k-th part. -/
def pth (l : List (Int × Z)) (k : Nat) : Int × Z := l.getD k (0, ⟨false, []⟩)
theorem pth_eq (l : List (Int × Z)) (k : Nat) (h : k < l.length) : pth l k = l[k] := by simp [pth, h]
theorem pth_mem {l : List (Int × Z)} {k : Nat} (h : k < l.length) : pth l k ∈ l := by rw [pth_eq l k h]; exact List.getElem_mem h
theorem drop_pth (l : List (Int × Z)) (k : Nat) (h : k < l.length) : l.drop k = pth l k :: l.drop (k + 1) := by
  rw [pth_eq l k h]; exact List.drop_eq_getElem_cons h
theorem take_pth (l : List (Int × Z)) (k : Nat) (h : k < l.length) : l.take (k + 1) = l.take k ++ [pth l k] := by
  rw [pth_eq l k h]; exact List.take_succ_eq_append_getElem h
theorem Pl.at_ {w : World} {X : Nat → Prop} {A : Option Addr} {c : Nat} {l : List (Int × Z)} (h : Pl w X A c l) {k : Nat} (hk : k < l.length) :
    ∃ b o B d, A = some ⟨b, o, none⟩ ∧ X b ∧ w.cell? ⟨b, o + k * 3, none⟩ = some (.int .i64 (pth l k).1) ∧ w.cell? ⟨b, o + k * 3 + 1, none⟩ = some (.bool (pth l k).2.neg) ∧
      w.cell? ⟨b, o + k * 3 + 2, none⟩ = some (.slice B (pth l k).2.mag.length d) ∧ i64 (pth l k).1 ∧ Nl w X B d (pth l k).2.mag := by
  obtain ⟨b, o, hA, hX, hi⟩ := h.2.2.1 (by omega)
  obtain ⟨cs, _, hc, B, d, rfl, h1, h2⟩ := hi k hk
  rw [pth_eq l k hk]
  exact ⟨b, o, B, d, hA, hX, hc 0 (by simp), hc 1 (by simp), hc 2 (by simp), h1, h2⟩
theorem Pl.lb {w : World} {X : Nat → Prop} {A : Option Addr} {c : Nat} {l : List (Int × Z)} (h : Pl w X A c l) : ∀ p ∈ l, Lb p.2.mag := by
  intro p hp
  obtain ⟨k, hk, rfl⟩ := List.getElem_of_mem hp
  obtain ⟨_, _, _, _, _, _, _, _, _, _, h1⟩ := h.at_ hk
  rw [pth_eq l k hk] at h1
  exact h1.lb
theorem Pl.i64 {w : World} {X : Nat → Prop} {A : Option Addr} {c : Nat} {l : List (Int × Z)} (h : Pl w X A c l) : ∀ p ∈ l, i64 p.1 := by
  intro p hp
  obtain ⟨k, hk, rfl⟩ := List.getElem_of_mem hp
  obtain ⟨_, _, _, _, _, _, _, _, _, h1, _⟩ := h.at_ hk
  rw [pth_eq l k hk] at h1
  exact h1
/-- A term as a value. -/
def Tv (w : World) (X : Nat → Prop) (v : Value) (t : T) : Prop :=
  ∃ A c B d, v = .agg #[.slice A t.ps.length c, .bool t.k.neg, .slice B t.k.mag.length d] ∧ Pl w X A c t.ps ∧ Nl w X B d t.k.mag
theorem Tv.keep {w w' : World} {X : Nat → Prop} {v : Value} {t : T} (h : Tv w X v t) (k : Kp X w w') : Tv w' X v t := let ⟨A, c, B, d, e, h1, h2⟩ := h; ⟨A, c, B, d, e, h1.keep k, h2.keep k⟩
theorem Tv.ext {w w' : World} {X : Nat → Prop} {v : Value} {t : T} (h : Tv w X v t) (k : Ext w w') : Tv w' X v t := h.keep (.of_ext k)
theorem Tv.widen {w : World} {X Y : Nat → Prop} {v : Value} {t : T} (h : Tv w X v t) (k : ∀ b, X b → b < w.heap.size → Y b) : Tv w Y v t := let ⟨A, c, B, d, e, h1, h2⟩ := h; ⟨A, c, B, d, e, h1.widen k, h2.widen k⟩
theorem Tv.below {w : World} {X : Nat → Prop} {v : Value} {t : T} (h : Tv w X v t) : Tv w (· < w.heap.size) v t := h.widen fun _ _ hb => hb
theorem Tv.lb {w : World} {X : Nat → Prop} {v : Value} {t : T} (h : Tv w X v t) : t.lb := let ⟨_, _, _, _, _, h1, h2⟩ := h; ⟨h1.lb, h2.lb⟩
/-- The variable before. -/
def prv (l : List (Int × Z)) : Nat → Option Int
  | 0 => none
  | k + 1 => some (pth l k).1

end Go.Proofs.YtbblgjjomgipfaaGreat
