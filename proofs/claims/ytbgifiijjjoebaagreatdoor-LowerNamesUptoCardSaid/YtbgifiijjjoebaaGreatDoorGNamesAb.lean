/- The words in which the contracts of this seat are said: worlds that extend one another, slices that read as lists. No conditions. Data without addresses: what a value reads as in a world. No conditions. -/
import Derived.Test.YtbgifiijjjoebaaGreatDoorRows
import Derived.Test.YtbgifiijjjoebaaGreatDoorGNamesAa
import Derived.WalkKit
import Derived.WalkSpells
import Derived.Deep.Draws
import Derived.Deep.AppendLies
import Derived.Lib.Hide
import Derived.Maps.AppendAt
import Derived.Deep.QuietTactic
import Derived.BigQuiet
import Derived.Deep.CutRange
import Derived.Deep.DeepCutAuto
import Derived.Deep.RegionHeld3
import Derived.Laws.CopyOwn
namespace Go.Proofs.YtbgifiijjjoebaaGreatDoor
open Go.RowKit

theorem wsz : (∀ (w : World) (o : Obj), (w.alloc o).heap.size = w.heap.size + 1) ∧ (∀ w : World, w.drew.heap.size = w.heap.size) ∧ (∀ (w : World) (a : Addr) (v : Value), (w.setCell a v).heap.size = w.heap.size) ∧ ∀ (w : World) (n : Nat), (w.drewN n).heap = w.heap :=
 ⟨World.size_alloc, World.size_drew, fun w a v => by simp, World.heap_drewN⟩
def Ext (w w' : World) : Prop := Below w.heap.size w w'
theorem Ext.refl (w : World) : Ext w w := Below.refl _ _
theorem Ext.trans {a b c : World} (h : Ext a b) (k : Ext b c) : Ext a c := Below.trans h (Below.mono k h.size)
theorem Ext.size {w w' : World} (h : Ext w w') : w.heap.size ≤ w'.heap.size := Below.size h
theorem Ext.drew {a w : World} (h : Ext a w) : Ext a w.drew := Below.drew h
theorem Ext.drewN {a w : World} (h : Ext a w) (n : Nat) : Ext a (w.drewN n) := ⟨h.os, h.tape, h.output, h.size, h.block⟩
theorem Ext.alloc {a w : World} (h : Ext a w) (o : Obj) : Ext a (w.alloc o) := Below.alloc h h.size o
theorem Ext.setCell {a w : World} (h : Ext a w) {p : Addr} (hp : a.heap.size ≤ p.block) (u : Value) : Ext a (w.setCell p u) := Below.setCell h hp u
theorem Ext.grown {a w w' : World} {row : Option Nat} (h : Ext a w) (hg : w.grownBy w' row) (hr : ∀ k, row = some k → a.heap.size ≤ k) : Ext a w' := Below.grown h hg h.size hr
def Kp (X : Nat → Prop) (w w' : World) : Prop := ∀ b, X b → b < w.heap.size → w'.heap[b]? = w.heap[b]?
theorem Kp.refl {X : Nat → Prop} (w : World) : Kp X w w := fun _ _ _ => rfl
theorem Kp.of_ext {X : Nat → Prop} {w w' : World} (h : Ext w w') : Kp X w w' := fun b _ hb => h.block b hb
theorem lt_of_some {w : World} {b : Nat} {o : Obj} (h : w.heap[b]? = some o) : b < w.heap.size := (Array.getElem?_eq_some_iff.1 h).1
theorem Kp.lt {X : Nat → Prop} {a w : World} (h : Kp X a w) {b : Nat} (hX : X b) (hb : b < a.heap.size) : b < w.heap.size := by
 have h1 := h b hX hb; rw [Array.getElem?_eq_getElem hb] at h1; exact lt_of_some h1
theorem Kp.alloc {X : Nat → Prop} {a w : World} (h : Kp X a w) (o : Obj) : Kp X a (w.alloc o) := fun b hX hb => (Below.heap_alloc w o b (h.lt hX hb)).trans (h b hX hb)
class Stab {α : Type} (E : World → (Nat → Prop) → List Value → α → Prop) : Prop where
 keep : ∀ {w w' : World} {X : Nat → Prop} {cs : List Value} {a : α}, E w X cs a → Kp X w w' → E w' X cs a
 widen : ∀ {w : World} {X Y : Nat → Prop} {cs : List Value} {a : α}, E w X cs a → (∀ b, X b → b < w.heap.size → Y b) → E w Y cs a
 one : ∀ {w : World} {X : Nat → Prop} {cs : List Value} {a : α}, E w X cs a → ∀ u ∈ cs, u.oneCell' = true

section
variable {α : Type} {sz : Nat} {E : World → (Nat → Prop) → List Value → α → Prop}
def Thaw (w : World) (A : Option Addr) (n : Nat) : Prop := ∀ b o, A = some ⟨b, o, none⟩ → ∀ j, j < n → w.frozen? ⟨b, o + j, none⟩ = false
theorem Thaw.zero (w : World) (A : Option Addr) {n : Nat} (h : n = 0) : Thaw w A n := fun _ _ _ j hj => by omega
theorem Thaw.of_heap {w : World} {g : Nat} {c : Array Value} {e : TypeId} (hg : w.heap[g]? = some (.cells c e (0, 0))) (o n : Nat) : Thaw w (some ⟨g, o, none⟩) n := fun b o' hA j _ => by
 injection hA with hA
 injection hA with e1 e2
 subst e1; simp [World.frozen?, hg]
def Sl (sz : Nat) (E : World → (Nat → Prop) → List Value → α → Prop) (w : World) (X : Nat → Prop) (A : Option Addr) (c : Nat) (l : List α) : Prop :=
 l.length ≤ c ∧ c ≤ maxLen ∧ (0 < l.length → ∃ b o, A = some ⟨b, o, none⟩ ∧ X b ∧
  ∀ i (h : i < l.length), ∃ cs : List Value, cs.length = sz ∧ (∀ j (hj : j < cs.length), w.cell? ⟨b, o + i * sz + j, none⟩ = some cs[j]) ∧ E w X cs l[i]) ∧ Thaw w A (l.length * sz)

theorem Sl.nil (w : World) (X : Nat → Prop) (A : Option Addr) (c : Nat) (hc : c ≤ maxLen) : Sl sz E w X A c [] := ⟨Nat.zero_le _, hc, fun h => absurd h (by simp), Thaw.zero _ _ (by simp)⟩
theorem Sl.nil0 (w : World) (X : Nat → Prop) (A : Option Addr) : Sl sz E w X A 0 [] := Sl.nil _ _ _ _ (Nat.zero_le _)
theorem Sl.keep [Stab E] {w w' : World} {X : Nat → Prop} {A : Option Addr} {c : Nat} {l : List α} (h : Sl sz E w X A c l) (k : Kp X w w') : Sl sz E w' X A c l := by
 refine ⟨h.1, h.2.1, fun h0 => ?_, fun b o hA j hj => ?_⟩
 case refine_2 =>
  have h0 : 0 < l.length := by
   rcases Nat.eq_zero_or_pos l.length with h0 | h0
   ·rw [h0] at hj; omega
   ·exact h0
  obtain ⟨b', o', hA', hX, hi⟩ := h.2.2.1 h0; have h4 := h.2.2.2 b o hA j hj
  have e1 : b = b' := by rw [hA] at hA'; injection hA' with hA'; injection hA' with e1
  have hb : b < w.heap.size := by
   obtain ⟨cs, hlen, hc, _⟩ := hi 0 h0; rw [e1]; refine World.block_lt_of_cell? _ _ (hc 0 ?_)
   rcases Nat.eq_zero_or_pos sz with hs | hs
   ·rw [hs] at hj; omega
   ·omega
  exact (World.frozen?_of_block (a := ⟨b, o + j, none⟩) (k b (e1 ▸ hX) hb)).trans h4
 obtain ⟨b, o, hA, hX, hi⟩ := h.2.2.1 h0; refine ⟨b, o, hA, hX, fun i hl => ?_⟩; obtain ⟨cs, hlen, hc, he⟩ := hi i hl; refine ⟨cs, hlen, fun j hj => ?_, Stab.keep he k⟩; have h1 := hc j hj; exact (World.cell?_of_block (a := ⟨b, o + i * sz + j, none⟩) (k b hX (World.block_lt_of_cell? _ _ h1))).trans h1
theorem Sl.widen [Stab E] {w : World} {X Y : Nat → Prop} {A : Option Addr} {c : Nat} {l : List α} (h : Sl sz E w X A c l) (hsz : 0 < sz) (k : ∀ b, X b → b < w.heap.size → Y b) : Sl sz E w Y A c l := by
 refine ⟨h.1, h.2.1, fun h0 => ?_, h.2.2.2⟩; obtain ⟨b, o, hA, hX, hi⟩ := h.2.2.1 h0; obtain ⟨cs0, hlen0, hc0, _⟩ := hi 0 h0; have hb : b < w.heap.size := World.block_lt_of_cell? _ _ (hc0 0 (by omega)); refine ⟨b, o, hA, k b hX hb, fun i hl => ?_⟩; obtain ⟨cs, hlen, hc, he⟩ := hi i hl; exact ⟨cs, hlen, hc, Stab.widen he k⟩
end

section
variable {α : Type} {sz : Nat} {E : World → (Nat → Prop) → List Value → α → Prop}
theorem Sl.take {w : World} {X : Nat → Prop} {A : Option Addr} {c : Nat} {l : List α} (h : Sl sz E w X A c l) {k c' : Nat} (hk : k ≤ l.length) (hc : k ≤ c') (hm : c' ≤ maxLen) : Sl sz E w X A c' (l.take k) := by
 have hlen : (l.take k).length = k := by rw [List.length_take]; omega
 refine ⟨by omega, hm, fun h0 => ?_, fun b o hA j hj => h.2.2.2 b o hA j (Nat.lt_of_lt_of_le hj (Nat.mul_le_mul_right _ (by omega)))⟩; obtain ⟨b, o, hA, hX, hi⟩ := h.2.2.1 (by omega); refine ⟨b, o, hA, hX, fun i hl => ?_⟩; obtain ⟨cs, h1, h2, h3⟩ := hi i (by omega); exact ⟨cs, h1, h2, by rw [List.getElem_take]; exact h3⟩
theorem Sl.drop {w : World} {X : Nat → Prop} {b o : Nat} {c : Nat} {l : List α} (h : Sl sz E w X (some ⟨b, o, none⟩) c l) {k : Nat} : Sl sz E w X (some ⟨b, o + k * sz, none⟩) (c - k) (l.drop k) := by
 have h1 := h.1; have h2 := h.2.1; refine ⟨by rw [List.length_drop]; omega, by omega, fun h0 => ?_, fun b' o' hA j hj => ?_⟩
 case refine_2 =>
  injection hA with hA
  injection hA with e1 e2
  subst e1; subst e2
  rw [List.length_drop, Nat.sub_mul] at hj; rw [Nat.add_assoc]; exact h.2.2.2 b o rfl _ (by omega)
 rw [List.length_drop] at h0; obtain ⟨b', o', hA, hX, hi⟩ := h.2.2.1 (by omega)
 injection hA with hA
 injection hA with e1 e2
 subst e1; subst e2
 refine ⟨b, _, rfl, hX, fun i hl => ?_⟩; rw [List.length_drop] at hl; obtain ⟨cs, h1, h2, h3⟩ := hi (k + i) (by omega); refine ⟨cs, h1, fun j hj => ?_, by rw [List.getElem_drop]; exact h3⟩; have := h2 j hj; rw [Nat.add_mul, ← Nat.add_assoc] at this; exact this
end

def EU (_ : World) (_ : Nat → Prop) (cs : List Value) (x : Nat) : Prop := cs = [.int .u32 x] ∧ x < 4294967296
instance : Stab EU := ⟨fun h _ => h, fun h _ => h, fun h => by obtain ⟨rfl, _⟩ := h; simp [Value.oneCell']⟩

abbrev Nl (w : World) (X : Nat → Prop) (A : Option Addr) (c : Nat) (l : List Nat) : Prop := Sl 1 EU w X A c l
theorem Nl.keep {w w' : World} {X : Nat → Prop} {A : Option Addr} {c : Nat} {l : List Nat} (h : Nl w X A c l) (k : Kp X w w') : Nl w' X A c l := Sl.keep h k
theorem Nl.widen {w : World} {X Y : Nat → Prop} {A : Option Addr} {c : Nat} {l : List Nat} (h : Nl w X A c l) (k : ∀ b, X b → b < w.heap.size → Y b) : Nl w Y A c l := Sl.widen h (by omega) k
theorem Nl.at_ {w : World} {X : Nat → Prop} {A : Option Addr} {c : Nat} {l : List Nat} (h : Nl w X A c l) {k : Nat} (hk : k < l.length) :
  ∃ b o, A = some ⟨b, o, none⟩ ∧ X b ∧ (∀ i, i < l.length → w.cell? ⟨b, o + i, none⟩ = some (.int .u32 (nth l i))) ∧ nth l k < 4294967296 := by
 obtain ⟨b, o, hA, hX, hi⟩ := h.2.2.1 (by omega); refine ⟨b, o, hA, hX, fun i hl => ?_, ?_⟩
 ·obtain ⟨cs, _, hc, rfl, _⟩ := hi i hl; have := hc 0 (by simp)
  simpa [nth_eq l i hl] using this
 ·obtain ⟨cs, _, _, _, hb⟩ := hi k hk
  rw [nth_eq l k hk]; exact hb

structure Ety (P : Program) (t e : TypeId) (sz bytes : Nat) (z : Value) : Prop where
 under : P.underlying t = some (.slice e)
 info : (P.info? e).map (fun i => (i.zero, i.size, i.bytes)) = some (some z, sz, bytes)
 zs : z.cells.size = sz
 pos : 0 < sz

section
variable {α : Type} {sz : Nat} {E : World → (Nat → Prop) → List Value → α → Prop}
def Fl (sz : Nat) (E : World → (Nat → Prop) → List Value → α → Prop) (w : World) (X : Nat → Prop) (xs : List Value) (l : List α) : Prop :=
 xs.length = l.length * sz ∧ ∀ i (h : i < l.length), E w X ((xs.drop (i * sz)).take sz) l[i]

theorem Fl.nil (w : World) (X : Nat → Prop) : Fl sz E w X [] [] := ⟨by simp, fun i h => absurd h (by simp)⟩
theorem Fl.keep [Stab E] {w w' : World} {X : Nat → Prop} {xs : List Value} {l : List α} (h : Fl sz E w X xs l) (k : Kp X w w') : Fl sz E w' X xs l :=
 ⟨h.1, fun i hi => Stab.keep (h.2 i hi) k⟩
theorem Fl.widen [Stab E] {w : World} {X Y : Nat → Prop} {xs : List Value} {l : List α} (h : Fl sz E w X xs l) (k : ∀ b, X b → b < w.heap.size → Y b) : Fl sz E w Y xs l :=
 ⟨h.1, fun i hi => Stab.widen (h.2 i hi) k⟩
theorem Fl.append {w : World} {X : Nat → Prop} {xs ys : List Value} {l m : List α} (h : Fl sz E w X xs l) (k : Fl sz E w X ys m) : Fl sz E w X (xs ++ ys) (l ++ m) := by
 refine ⟨by rw [List.length_append, List.length_append, h.1, k.1, Nat.add_mul], fun i hi => ?_⟩
 rcases Nat.lt_or_ge i l.length with hl | hl
 ·rw [List.getElem_append_left hl]; have h1 := h.2 i hl
  have h2 : i * sz + sz ≤ xs.length := by rw [h.1, ← Nat.succ_mul]; exact Nat.mul_le_mul_right _ hl
  rw [List.drop_append_of_le_length (by omega), List.take_append_of_le_length (by rw [List.length_drop]; omega)]; exact h1
 ·rw [List.getElem_append_right hl]; rw [List.length_append] at hi; have h1 := k.2 (i - l.length) (by omega)
  have e : i * sz = xs.length + (i - l.length) * sz := by rw [h.1, ← Nat.add_mul]; congr 1; omega
  rw [e, List.drop_append]; have e2 : List.drop (xs.length + (i - l.length) * sz) xs = [] := List.drop_eq_nil_of_le (by omega); rw [e2, List.nil_append]
  have e3 : xs.length + (i - l.length) * sz - xs.length = (i - l.length) * sz := by omega
  rw [e3]; exact h1
theorem Fl.one {w : World} {X : Nat → Prop} {cs : List Value} {a : α} (h : E w X cs a) (hl : cs.length = sz) : Fl sz E w X cs [a] :=
 ⟨by simp [hl], fun i hi => by
  have : i = 0 := by simpa using hi
  subst this; simp only [Nat.zero_mul, List.drop_zero, List.getElem_cons_zero]; rw [List.take_of_length_le (by omega)]
  exact h⟩
theorem Fl.ones [Stab E] {w : World} {X : Nat → Prop} {xs : List Value} {l : List α} (h : Fl sz E w X xs l) (hsz : 0 < sz) : ∀ u ∈ xs, u.oneCell' = true := by
 intro u hu; obtain ⟨j, hj, rfl⟩ := List.getElem_of_mem hu
 have hj' : j / sz < l.length := by rw [Nat.div_lt_iff_lt_mul hsz, ← h.1]; exact hj
 have h1 := Stab.one (h.2 (j / sz) hj'); refine h1 _ ?_; have h2 : j % sz < sz := Nat.mod_lt _ hsz
 have h3 : j / sz * sz + j % sz = j := by rw [Nat.mul_comm]; exact Nat.div_add_mod j sz
 refine List.mem_iff_getElem?.2 ⟨j % sz, ?_⟩; rw [List.getElem?_take_of_lt h2, List.getElem?_drop, h3, List.getElem?_eq_getElem hj]

theorem Sl.flat {w : World} {X : Nat → Prop} {A : Option Addr} {c : Nat} {l : List α} (h : Sl sz E w X A c l) :
  ∃ xs, Fl sz E w X xs l ∧ (0 < l.length → ∃ b o, A = some ⟨b, o, none⟩ ∧ X b ∧ ∀ j u, xs[j]? = some u → w.cell? ⟨b, o + j, none⟩ = some u) := by
 rcases Nat.eq_zero_or_pos l.length with h0 | h0
 ·have : l = [] := List.eq_nil_of_length_eq_zero h0; subst this; exact ⟨[], Fl.nil _ _, fun h => absurd h (by simp)⟩
 ·obtain ⟨b, o, hA, hX, hi⟩ := h.2.2.1 h0
  have key : ∀ n, n ≤ l.length → ∃ xs, Fl sz E w X xs (l.take n) ∧ ∀ j u, xs[j]? = some u → w.cell? ⟨b, o + j, none⟩ = some u := by
   intro n
   induction n with
   | zero => intro _; exact ⟨[], Fl.nil _ _, fun j u hj => by simp at hj⟩
   | succ n ih =>
    intro hn; obtain ⟨xs, h1, h2⟩ := ih (by omega); obtain ⟨cs, h3, h4, h5⟩ := hi n (by omega)
    have hlen : xs.length = n * sz := by rw [h1.1, List.length_take, Nat.min_eq_left (by omega)]
    refine ⟨xs ++ cs, ?_, fun j u hj => ?_⟩
    ·rw [List.take_succ_eq_append_getElem (by omega)]; exact h1.append (Fl.one h5 h3)
    ·rcases Nat.lt_or_ge j xs.length with hjl | hjl
     ·rw [List.getElem?_append_left hjl] at hj; exact h2 j u hj
     ·rw [List.getElem?_append_right hjl] at hj; obtain ⟨h6, rfl⟩ := List.getElem?_eq_some_iff.1 hj; have := h4 (j - xs.length) h6
      have e : o + n * sz + (j - xs.length) = o + j := by omega
      rw [e] at this; exact this
  obtain ⟨xs, h1, h2⟩ := key l.length (Nat.le_refl _); rw [List.take_length] at h1; exact ⟨xs, h1, fun _ => ⟨b, o, hA, hX, h2⟩⟩
theorem Sl.of_flat {w : World} {X : Nat → Prop} {A : Option Addr} {c : Nat} {l : List α} {xs : List Value} (hc : l.length ≤ c) (hm : c ≤ maxLen) (ht : Thaw w A (l.length * sz)) (h : Fl sz E w X xs l)
  (hA : 0 < l.length → ∃ b o, A = some ⟨b, o, none⟩ ∧ X b ∧ ∀ j u, xs[j]? = some u → w.cell? ⟨b, o + j, none⟩ = some u) : Sl sz E w X A c l := by
 refine ⟨hc, hm, fun h0 => ?_, ht⟩; obtain ⟨b, o, h1, h2, h3⟩ := hA h0; refine ⟨b, o, h1, h2, fun i hi => ?_⟩
 have hle : i * sz + sz ≤ xs.length := by rw [h.1, ← Nat.succ_mul]; exact Nat.mul_le_mul_right _ hi
 refine ⟨(xs.drop (i * sz)).take sz, by rw [List.length_take, List.length_drop]; omega, fun j hj => ?_, h.2 i hi⟩; rw [List.length_take, List.length_drop] at hj; have := h3 (i * sz + j) _ (List.getElem?_eq_getElem (by omega)); rw [← Nat.add_assoc] at this; rw [this, List.getElem_take, List.getElem_drop]

def Own (sz : Nat) (E : World → (Nat → Prop) → List Value → α → Prop) (w : World) (Z : Nat → Prop) (base : Nat) (e : TypeId) (v : Value) (l : List α) : Prop :=
 ∃ xs, w.ownsRow base e sz v l.length xs ∧ Fl sz E w (fun b => Z b ∧ v.ownBlock ≠ some b) xs l

theorem Own.nil (w : World) (Z : Nat → Prop) (base : Nat) (e : TypeId) : Own sz E w Z base e (.slice none 0 0) [] := ⟨[], World.ownsRow_nil _ _ _ _, Fl.nil _ _⟩
theorem Own.empty (w : World) (Z : Nat → Prop) {base : Nat} (e : TypeId) (hb : base ≤ w.heap.size) : Own sz E (w.alloc (.cells #[] e)) Z base e (.slice (some ⟨w.heap.size, 0, none⟩) 0 0) [] :=
 ⟨[], World.ownsRow_made w #[] 0 hb (Nat.zero_le _) (by simp), Fl.nil _ _⟩
theorem Own.row {w : World} {Z : Nat → Prop} {base : Nat} {e : TypeId} {v : Value} {l : List α} (h : Own sz E w Z base e v l) : ∀ k, v.ownBlock = some k → base ≤ k ∧ k < w.heap.size := by
 obtain ⟨xs, h1, _⟩ := h; exact h1.lt
theorem Own.sl [Stab E] {w : World} {Z X : Nat → Prop} {base : Nat} {e : TypeId} {v : Value} {l : List α} (h : Own sz E w Z base e v l) (_hsz : 0 < sz) (hX : ∀ b, Z b ∨ base ≤ b → X b) :
  ∃ A c, v = .slice A l.length c ∧ Sl sz E w X A c l := by
 obtain ⟨xs, h1, h2⟩ := h
 have h3 : Fl sz E w X xs l := h2.widen fun b hb _ => hX b (.inl hb.1)
 rcases h1.2 with ⟨rfl, hn⟩ | ⟨g, cap, cur, rfl, hb, hg, hnc, hcm, hcs, htake⟩
 ·have : l = [] := List.eq_nil_of_length_eq_zero hn; subst this; exact ⟨none, 0, rfl, Sl.nil0 _ _ _⟩
 ·refine ⟨_, cap, rfl, Sl.of_flat hnc hcm (Thaw.of_heap hg _ _) h3 fun _ => ⟨g, 0, rfl, hX g (.inr hb), fun j u hj => ?_⟩⟩; have := h1.cells (g := g) rfl j u hj
  simpa [Addr.add_lit] using this
theorem Own.keep [Stab E] {w w' : World} {Z : Nat → Prop} {base : Nat} {e : TypeId} {v : Value} {l : List α} (h : Own sz E w Z base e v l) (k : Kp (fun b => Z b ∨ v.ownBlock = some b) w w') : Own sz E w' Z base e v l := by
 obtain ⟨xs, h1, h2⟩ := h; refine ⟨xs, ⟨h1.1, ?_⟩, h2.keep fun b hb hl => k b (.inl hb.1) hl⟩
 rcases h1.2 with hn | ⟨g, cap, cur, rfl, hb, hg, r⟩
 ·exact .inl hn
 ·exact .inr ⟨g, cap, cur, rfl, hb, (k g (.inr rfl) (lt_of_some hg)).trans hg, r⟩
theorem Own.widen [Stab E] {w : World} {Z Z' : Nat → Prop} {base : Nat} {e : TypeId} {v : Value} {l : List α} (h : Own sz E w Z base e v l) (k : ∀ b, Z b → b < w.heap.size → Z' b) : Own sz E w Z' base e v l := by
 obtain ⟨xs, h1, h2⟩ := h; exact ⟨xs, h1, h2.widen fun b hb hl => ⟨k b hb.1 hl, hb.2⟩⟩
theorem run_app [Stab E] {P : Program} {t e : TypeId} {bytes : Nat} {z : Value} (T : Ety P t e sz bytes z) {w : World} {ty : TypeId} {Z : Nat → Prop} {base : Nat} {v : Value} {l m : List α} {A : Option Addr} {c : Nat} {ys : List Value}
  (h : Own sz E w Z base e v l) (h3 : Fl sz E w (fun b => Z b ∧ v.ownBlock ≠ some b) ys m) (h4 : 0 < m.length → ∃ b o, A = some ⟨b, o, none⟩ ∧ ∀ j u, ys[j]? = some u → w.cell? ⟨b, o + j, none⟩ = some u)
  (hlen : (l.length + m.length) * bytes ≤ 140737488355328) (hL : l.length + m.length ≤ maxLen) (hbase : base ≤ w.heap.size) :
  ∃ v' w', (Builtin.append_ #[t, t] ty #[v, .slice A m.length c]).run P w = .ok v' w' ∧ Own sz E w' Z base e v' (l ++ m) ∧ w.grownBy w' v.ownBlock ∧ (v'.ownBlock = v.ownBlock ∨ v'.ownBlock = some w.heap.size) := by
 obtain ⟨i, hi, hz, hsize, hby⟩ := info_parts T.info; obtain ⟨xs, h1, h2⟩ := h
 cases A with
 | none =>
  have h0 : m = [] := by
   rcases Nat.eq_zero_or_pos m.length with h0 | h0
   ·exact List.eq_nil_of_length_eq_zero h0
   ·obtain ⟨b, o, hA, _⟩ := h4 h0
    cases hA
  subst h0; refine ⟨v, w, ?_, by simpa using ⟨xs, h1, h2⟩, World.grownBy.refl _ _, .inl rfl⟩
  rcases h1.2 with ⟨rfl, hn⟩ | ⟨g, cap, cur, rfl, _, _, hnc, _⟩
  ·simp [Builtin.append_, run_underlying T.under, sizeOf, typeInfo, hi, Builtin.lenOf, Builtin.firstCells]
  ·simp [Builtin.append_, run_underlying T.under, sizeOf, typeInfo, hi, Builtin.lenOf, Builtin.firstCells, hnc, storeCells]
 | some ad =>
  have hcells : ∀ j u, ys[j]? = some u → w.cell? (ad.add j) = some u := by
   intro j u hj
   rcases Nat.eq_zero_or_pos m.length with h0 | h0
   ·have : ys = [] := List.eq_nil_of_length_eq_zero (by rw [h3.1, h0, Nat.zero_mul]); subst this; simp at hj
   ·obtain ⟨b, o, hA, hc⟩ := h4 h0
    injection hA with hA
    subst hA; rw [Addr.add_lit]; exact hc j u hj
  obtain ⟨v', w', hrun, h5, h6, _, h7⟩ := run_append_own_at (P := P) w base t ty e i z sz bytes T.under hi hz hsize hby T.zs T.pos v l.length xs h1 ad m.length c ys h3.1 hcells (h3.ones T.pos) hL hlen hbase; refine ⟨v', w', hrun, ⟨xs ++ ys, by rw [List.length_append]; exact h5, ?_⟩, h6, h7⟩
  have kp : Kp (fun b => Z b ∧ v.ownBlock ≠ some b) w w' := fun b hb hl => h6.block b hl (fun e => hb.2 e.symm)
  have w0 : Fl sz E w (fun b => (Z b ∧ v.ownBlock ≠ some b) ∧ b < w.heap.size) (xs ++ ys) (l ++ m) := (h2.append h3).widen fun b hb hl => ⟨hb, hl⟩
  refine (w0.keep fun b hb hl => kp b hb.1 hl).widen fun b hb _ => ⟨hb.1.1, fun e => ?_⟩
  rcases h7 with h7 | h7
  ·exact hb.1.2 (h7 ▸ e)
  ·rw [h7] at e
   injection e with e
   have := hb.2
   omega

end


def Box (w : World) (g : Nat) (t : TypeId) (cs : Array Value) : Prop := w.heap[g]? = some (.cells cs t (0, 0))
section
variable {w w' : World} {g : Nat} {t : TypeId} {cs : Array Value}
theorem Box.lt (h : Box w g t cs) : g < w.heap.size := lt_of_some h
theorem Box.cell (h : Box w g t cs) : ∀ i, w.cell? ⟨g, i, none⟩ = cs[i]? := fun i => cell_of_row w g i cs t (0, 0) h
theorem Box.new (w : World) (t : TypeId) (cs : Array Value) : Box (w.alloc (.cells cs t)) w.heap.size t cs := heap_alloc_new w _
theorem Box.keep {X : Nat → Prop} (h : Box w g t cs) (hg : X g) (k : Kp X w w') : Box w' g t cs := (k g hg h.lt).trans h
end
theorem ret_bool {a b : Bool} (h : a = b) : Ending.returned (.bool a) = .returned (.bool b) := by rw [h]

def EZ (w : World) (X : Nat → Prop) (cs : List Value) (z : Z) : Prop := ∃ A c, cs = [.bool z.neg, .slice A z.mag.length c] ∧ Nl w X A c z.mag
instance : Stab EZ := ⟨fun ⟨A, c, h, k⟩ kp => ⟨A, c, h, k.keep kp⟩, fun ⟨A, c, h, k⟩ kp => ⟨A, c, h, k.widen kp⟩, fun ⟨A, c, h, _⟩ => by subst h; simp [Value.oneCell']⟩
def Zi (w : World) (X : Nat → Prop) (v : Value) (z : Z) : Prop := ∃ A c, v = .agg #[.bool z.neg, .slice A z.mag.length c] ∧ Nl w X A c z.mag
theorem xt {w w' : World} (h : Ext w w' := by repeat (first | with_reducible assumption | with_reducible exact Ext.refl _ | with_reducible refine Ext.drewN ?_ _ | with_reducible refine Ext.drew ?_ | with_reducible refine Ext.alloc ?_ _ | (with_reducible refine Ext.setCell ?_ ?_ _; rotate_left; (first | exact Nat.le_refl _ | (dsimp only; omega) | (simp only [wsz]; omega))) | (with_reducible refine Ext.trans ?_ (by with_reducible assumption)))) : Ext w w' := h
theorem kpt {Y : Nat → Prop} {w w' : World} (h : Kp Y w w' := by repeat (first | with_reducible exact Kp.refl _ | with_reducible refine Kp.drewN ?_ _ | with_reducible refine Kp.drew ?_ | with_reducible refine Kp.alloc ?_ _ | (with_reducible refine Kp.setCell ?_ ?_ _; rotate_left; (first | (dsimp only; omega) | (simp only [wsz]; omega))) | (with_reducible exact Kp.of_ext (by with_reducible assumption)) | (with_reducible refine Kp.ext ?_ (by with_reducible assumption)))) : Kp Y w w' := h
theorem bxt {w : World} {b : Nat} {T : TypeId} {vs : Array Value} (h : Box w b T vs := by repeat (first | with_reducible assumption | with_reducible exact Box.new _ _ _ | (with_reducible refine Box.new_at _ _ _ ?_; (simp only [wsz]; done)) | with_reducible refine Box.drewN ?_ _ | with_reducible refine Box.drew ?_ | with_reducible refine Box.alloc ?_ _ | with_reducible apply Box.drewN | with_reducible apply Box.drew | with_reducible apply Box.alloc | with_reducible refine Box.set_ ?_ _ _ | (with_reducible refine Box.far ?_ ?_ _; rotate_left; (simp only [ne_eq]; omega)) | (with_reducible refine Box.ext ?_ (by with_reducible assumption)) | (refine Box.new_at _ _ _ ?_; simp only [wsz]; done))) : Box w b T vs := h
theorem pt : (∀ (a : Act) (d : Tmp) (v : Value), a.put (some d) v = { a with tmps := a.tmps.setIfInBounds d v }) ∧ (∀ (a : Act) (v : Value), a.put none v = a) ∧ (∀ (l : List Value) (i : Nat) (v : Value), l.toArray.setIfInBounds i v = (l.set i v).toArray) ∧ (∀ (x : Value) (l : List Value) (v : Value), (x :: l).set 0 v = v :: l) ∧ ∀ (x : Value) (l : List Value) (n : Nat) (v : Value), (x :: l).set (n + 1) v = x :: l.set n v :=
 ⟨fun _ _ _ => rfl, fun _ _ => rfl, fun _ _ _ => List.setIfInBounds_toArray .., fun _ _ _ => rfl, fun _ _ _ _ => rfl⟩

end Go.Proofs.YtbgifiijjjoebaaGreatDoor

namespace Go.Proofs.YtbgifiijjjoebaaGreatDoor
open Go.RowKit

inductive D where
 | i (k : IntKind) (n : Int)
 | b (x : Bool)
 | s (x : ByteArray)
 | l (xs : List (List D))
 | p (T : TypeId) (ds : List D)
 | np

inductive Rp (w : World) (X : Nat → Prop) : Value → D → Prop
 | i {k : IntKind} {n : Int} : k.min ≤ n → n ≤ k.max → Rp w X (.int k n) (.i k n)
 | b {x : Bool} : Rp w X (.bool x) (.b x)
 | s {x : ByteArray} : x.size ≤ maxLen → Rp w X (.string x) (.s x)
 | l {A : Option Addr} {b o c sz : Nat} {xs : List (List D)} {cv : Nat → Nat → Value} : 0 < sz →
   xs.length ≤ c → c ≤ maxLen → (0 < xs.length → A = some ⟨b, o, none⟩ ∧ X b) → Thaw w A (xs.length * sz) → (∀ i (hi : i < xs.length), xs[i].length = sz) →
   (∀ i j, i < xs.length → j < sz → w.cell? ⟨b, o + i * sz + j, none⟩ = some (cv i j)) →
   (∀ i (hi : i < xs.length) j (hj : j < xs[i].length), Rp w X (cv i j) (xs[i][j])) → Rp w X (.slice A xs.length c) (.l xs)
 | p {b : Nat} {T : TypeId} {ds : List D} {vs : Array Value} : X b → Box w b T vs → vs.size = ds.length → (∀ i (hi : i < ds.length), Rp w X (vs.getD i undef) (ds[i])) → Rp w X (.pointer (some ⟨b, 0, none⟩)) (.p T ds)
 | np : Rp w X (.pointer none) .np

theorem Rp.one {w : World} {X : Nat → Prop} {v : Value} {d : D} (h : Rp w X v d) : v.oneCell' = true := by
 cases h <;> rfl
theorem Rp.keep {w w' : World} {X : Nat → Prop} {v : Value} {d : D} (h : Rp w X v d) (k : Kp X w w') : Rp w' X v d := by
 induction h with
 | i h1 h2 => exact .i h1 h2
 | b => exact .b
 | s h1 => exact .s h1
 | @l A b o c sz xs cv h0 h1 h2 h3 h4 h5 h6 h7 ih =>
  have hb : 0 < xs.length → X b ∧ b < w.heap.size := fun hp => ⟨(h3 hp).2, World.block_lt_of_cell? _ _ (h6 0 0 hp h0)⟩
  refine .l h0 h1 h2 h3 (fun b' o' hA j hj => ?_) h5 (fun i j hi hj => ?_) ih
  ·have hp : 0 < xs.length := by
    rcases Nat.eq_zero_or_pos xs.length with hz | hz
    ·rw [hz] at hj; omega
    ·exact hz
   have e : b' = b := by
    have := (h3 hp).1; rw [hA] at this; injection this with this; injection this
   exact (World.frozen?_of_block (a := ⟨b', o' + j, none⟩) (k b' (e ▸ (hb hp).1) (e ▸ (hb hp).2))).trans (h4 b' o' hA j hj)
  ·have hp : 0 < xs.length := by omega
   exact (World.cell?_of_block (a := ⟨b, o + i * sz + j, none⟩) (k b (hb hp).1 (hb hp).2)).trans (h6 i j hi hj)
 | @p b T ds vs h1 h2 h3 h4 ih => exact .p h1 (h2.keep h1 k) h3 ih
 | np => exact .np
theorem Rp.widen {w : World} {X Y : Nat → Prop} {v : Value} {d : D} (h : Rp w X v d) (k : ∀ b, X b → b < w.heap.size → Y b) : Rp w Y v d := by
 induction h with
 | i h1 h2 => exact .i h1 h2
 | b => exact .b
 | s h1 => exact .s h1
 | @l A b o c sz xs cv h0 h1 h2 h3 h4 h5 h6 h7 ih =>
  exact .l h0 h1 h2 (fun hp => ⟨(h3 hp).1, k b (h3 hp).2 (World.block_lt_of_cell? _ _ (h6 0 0 hp h0))⟩) h4 h5 h6 ih
 | @p b T ds vs h1 h2 h3 h4 ih => exact .p (k b h1 h2.lt) h2 h3 ih
 | np => exact .np
theorem Rp.there {w : World} {X : Nat → Prop} {v : Value} {d : D} (h : Rp w X v d) : Rp w (fun b => X b ∧ b < w.heap.size) v d := h.widen fun _ h1 h2 => ⟨h1, h2⟩

inductive F2 {α β : Type} (R : α → β → Prop) : List α → List β → Prop
 | nil : F2 R [] []
 | cons {a : α} {b : β} {l : List α} {m : List β} : R a b → F2 R l m → F2 R (a :: l) (b :: m)
def ED (w : World) (X : Nat → Prop) (cs : List Value) (ds : List D) : Prop := F2 (Rp w X) cs ds
theorem forall2_mono {α β : Type} {R S : α → β → Prop} (h : ∀ a b, R a b → S a b) : ∀ {l : List α} {m : List β}, F2 R l m → F2 S l m
 | _, _, .nil => .nil
 | _, _, .cons h1 h2 => .cons (h _ _ h1) (forall2_mono h h2)
theorem forall2_len {α β : Type} {R : α → β → Prop} : ∀ {l : List α} {m : List β}, F2 R l m → l.length = m.length
 | _, _, .nil => rfl
 | _, _, .cons _ h => by simp [forall2_len h]
theorem forall2_get {α β : Type} {R : α → β → Prop} : ∀ {l : List α} {m : List β}, F2 R l m → ∀ i (h : i < l.length) (h' : i < m.length), R l[i] m[i]
 | _, _, .cons h1 _, 0, _, _ => h1
 | _, _, .cons _ h2, i + 1, h, h' => forall2_get h2 i (by simpa using h) (by simpa using h')
theorem forall2_of {α β : Type} {R : α → β → Prop} : ∀ {l : List α} {m : List β}, l.length = m.length → (∀ i (h : i < l.length) (h' : i < m.length), R l[i] m[i]) → F2 R l m
 | [], [], _, _ => .nil
 | a :: l, b :: m, h, k => .cons (k 0 (by simp) (by simp)) (forall2_of (by simpa using h) fun i h1 h2 => k (i + 1) (by simpa using h1) (by simpa using h2))
 | [], _ :: _, h, _ => by simp at h
 | _ :: _, [], h, _ => by simp at h
theorem forall2_take {α β : Type} {R : α → β → Prop} : ∀ {l : List α} {m : List β} (n : Nat), F2 R l m → F2 R (l.take n) (m.take n)
 | _, _, 0, _ => by simp only [List.take_zero]; exact .nil
 | _, _, _ + 1, .nil => .nil
 | _, _, n + 1, .cons h1 h2 => .cons h1 (forall2_take n h2)
theorem forall2_drop {α β : Type} {R : α → β → Prop} : ∀ {l : List α} {m : List β} (n : Nat), F2 R l m → F2 R (l.drop n) (m.drop n)
 | _, _, 0, h => by simpa using h
 | _, _, _ + 1, .nil => .nil
 | _, _, n + 1, .cons _ h2 => by simpa using forall2_drop n h2
theorem forall2_set {α β : Type} {R : α → β → Prop} : ∀ {l : List α} {m : List β} (n : Nat) {a : α} {b : β}, F2 R l m → R a b → F2 R (l.set n a) (m.set n b)
 | _, _, _, _, _, .nil, _ => .nil
 | _, _, 0, _, _, .cons _ h2, h => .cons h h2
 | _, _, n + 1, _, _, .cons h1 h2, h => .cons h1 (forall2_set n h2 h)
theorem forall2_app {α β : Type} {R : α → β → Prop} : ∀ {l : List α} {m : List β} {l' : List α} {m' : List β}, F2 R l m → F2 R l' m' → F2 R (l ++ l') (m ++ m')
 | _, _, _, _, .nil, h => h
 | _, _, _, _, .cons h1 h2, h => .cons h1 (forall2_app h2 h)
instance : Stab ED := ⟨fun h k => forall2_mono (fun _ _ r => r.keep k) h, fun h k => forall2_mono (fun _ _ r => r.widen k) h, fun {w X cs a} h => by
 intro u hu; obtain ⟨i, hi, rfl⟩ := List.getElem_of_mem hu
 exact (forall2_get h i hi (by rw [← forall2_len h]; exact hi)).one⟩

theorem Rp.sl {w : World} {X : Nat → Prop} {v : Value} {xs : List (List D)} (h : Rp w X v (.l xs)) : ∃ A c sz, 0 < sz ∧ v = .slice A xs.length c ∧ Sl sz ED w X A c xs ∧ ∀ e ∈ xs, e.length = sz := by
 cases h with
 | @l A b o c sz _ cv h0 h1 h2 h3 h4 h5 h6 h7 =>
  refine ⟨A, c, sz, h0, rfl, ⟨h1, h2, fun hp => ⟨b, o, (h3 hp).1, (h3 hp).2, fun i hi => ?_⟩, h4⟩, fun e he => ?_⟩
  ·refine ⟨(List.range sz).map (cv i), by simp, fun j hj => ?_, forall2_of (by simp [h5 i hi]) fun j h1 h2 => ?_⟩
   ·simp at hj; simp [h6 i j hi hj]
   ·simp; exact h7 i hi j h2
  ·obtain ⟨i, hi, rfl⟩ := List.getElem_of_mem he; exact h5 i hi
theorem Rp.of_sl {w : World} {X : Nat → Prop} {A : Option Addr} {c sz : Nat} {xs : List (List D)} (h0 : 0 < sz) (h : Sl sz ED w X A c xs) : Rp w X (.slice A xs.length c) (.l xs) := by
 obtain ⟨h1, h2, h3, h4⟩ := h
 rcases Nat.eq_zero_or_pos xs.length with hz | hz
 ·exact .l (b := 0) (o := 0) (cv := fun _ _ => undef) h0 h1 h2 (fun h => absurd h (by omega)) h4 (fun i hi => absurd hi (by omega)) (fun i j hi => absurd hi (by omega)) (fun i hi => absurd hi (by omega))
 ·obtain ⟨b, o, hA, hX, hi⟩ := h3 hz
  have key : ∃ cv : Nat → Nat → Value, ∀ i (h : i < xs.length), xs[i].length = sz ∧ (∀ j, j < sz → w.cell? ⟨b, o + i * sz + j, none⟩ = some (cv i j)) ∧ ∀ j (hj : j < xs[i].length), Rp w X (cv i j) (xs[i][j]) := by
   refine ⟨fun i j => (w.cell? ⟨b, o + i * sz + j, none⟩).getD undef, fun i h => ?_⟩; obtain ⟨cs, hl, hc, he⟩ := hi i h; have hlen := forall2_len he; refine ⟨by omega, fun j hj => ?_, fun j hj => ?_⟩
   ·simp only [hc j (by omega), Option.getD_some]
   ·simp only [hc j (by omega : j < cs.length), Option.getD_some]; exact forall2_get he j (by omega) hj
  obtain ⟨cv, hcv⟩ := key; exact .l h0 h1 h2 (fun _ => ⟨hA, hX⟩) h4 (fun i h => (hcv i h).1) (fun i j h hj => (hcv i h).2.1 j hj) (fun i h => (hcv i h).2.2)

end Go.Proofs.YtbgifiijjjoebaaGreatDoor
