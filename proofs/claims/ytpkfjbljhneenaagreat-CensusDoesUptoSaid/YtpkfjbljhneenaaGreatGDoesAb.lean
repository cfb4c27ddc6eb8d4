/- The words in which the contracts of this seat are said: worlds that extend one another, slices that read as lists. No conditions. -/
import Derived.Test.YtpkfjbljhneenaaGreatRows
import Derived.Test.YtpkfjbljhneenaaGreatGDoesAa
import Derived.WalkKit
import Derived.WalkSpells
import Derived.Deep.Draws
import Derived.Deep.AppendLies
import Derived.Lib.Hide
import Derived.Maps.AppendAt
import Derived.Deep.QuietTactic
import Derived.BigQuiet
import Derived.Deep.CutRange
import Derived.Deep.DeepCutAuto
import Derived.Deep.RegionHeld3
import Derived.Laws.CopyOwn
namespace Go.Proofs.YtpkfjbljhneenaaGreat
open Go.RowKit

theorem wsz : (∀ (w : World) (o : Obj), (w.alloc o).heap.size = w.heap.size + 1) ∧ (∀ w : World, w.drew.heap.size = w.heap.size) ∧ (∀ (w : World) (a : Addr) (v : Value), (w.setCell a v).heap.size = w.heap.size) ∧ ∀ (w : World) (n : Nat), (w.drewN n).heap = w.heap :=
 ⟨World.size_alloc, World.size_drew, fun w a v => by simp, World.heap_drewN⟩
theorem wcd : (∀ w : World, w.drew.heap.size = w.heap.size) ∧ ∀ (w : World) (a : Addr), w.drew.cell? a = w.cell? a := ⟨World.size_drew, World.cell?_drew⟩
def Ext (w w' : World) : Prop := Below w.heap.size w w'
theorem Ext.refl (w : World) : Ext w w := Below.refl _ _
theorem Ext.trans {a b c : World} (h : Ext a b) (k : Ext b c) : Ext a c := Below.trans h (Below.mono k h.size)
theorem Ext.size {w w' : World} (h : Ext w w') : w.heap.size ≤ w'.heap.size := Below.size h
theorem Ext.drew {a w : World} (h : Ext a w) : Ext a w.drew := Below.drew h
theorem Ext.drewN {a w : World} (h : Ext a w) (n : Nat) : Ext a (w.drewN n) := ⟨h.os, h.tape, h.output, h.size, h.block⟩
theorem Ext.alloc {a w : World} (h : Ext a w) (o : Obj) : Ext a (w.alloc o) := Below.alloc h h.size o
theorem Ext.setCell {a w : World} (h : Ext a w) {p : Addr} (hp : a.heap.size ≤ p.block) (u : Value) : Ext a (w.setCell p u) := Below.setCell h hp u
theorem Ext.grown {a w w' : World} {row : Option Nat} (h : Ext a w) (hg : w.grownBy w' row) (hr : ∀ k, row = some k → a.heap.size ≤ k) : Ext a w' := Below.grown h hg h.size hr
theorem Ext.cells {w w' : World} (h : Ext w w') : (∀ b o, b < w.heap.size → w'.cell? ⟨b, o, none⟩ = w.cell? ⟨b, o, none⟩) ∧ (∀ b o, b < w.heap.size → w'.frozen? ⟨b, o, none⟩ = w.frozen? ⟨b, o, none⟩) :=
 ⟨fun b o hb => Below.cell h (p := ⟨b, o, none⟩) hb, fun b o hb => Below.frozen h (p := ⟨b, o, none⟩) hb⟩

def Kp (X : Nat → Prop) (w w' : World) : Prop := ∀ b, X b → b < w.heap.size → w'.heap[b]? = w.heap[b]?
theorem Kp.refl {X : Nat → Prop} (w : World) : Kp X w w := fun _ _ _ => rfl
theorem Kp.of_ext {X : Nat → Prop} {w w' : World} (h : Ext w w') : Kp X w w' := fun b _ hb => h.block b hb
theorem Kp.drew {X : Nat → Prop} {a w : World} (h : Kp X a w) : Kp X a w.drew := h
theorem Kp.drewN {X : Nat → Prop} {a w : World} (h : Kp X a w) (n : Nat) : Kp X a (w.drewN n) := h
theorem lt_of_some {w : World} {b : Nat} {o : Obj} (h : w.heap[b]? = some o) : b < w.heap.size := (Array.getElem?_eq_some_iff.1 h).1
theorem Kp.lt {X : Nat → Prop} {a w : World} (h : Kp X a w) {b : Nat} (hX : X b) (hb : b < a.heap.size) : b < w.heap.size := by
 have h1 := h b hX hb; rw [Array.getElem?_eq_getElem hb] at h1; exact lt_of_some h1
theorem Kp.trans {X : Nat → Prop} {a b c : World} (h : Kp X a b) (k : Kp X b c) : Kp X a c := fun i hX hi => (k i hX (h.lt hX hi)).trans (h i hX hi)
theorem Kp.alloc {X : Nat → Prop} {a w : World} (h : Kp X a w) (o : Obj) : Kp X a (w.alloc o) := fun b hX hb => (Below.heap_alloc w o b (h.lt hX hb)).trans (h b hX hb)
theorem Kp.setCell {X : Nat → Prop} {a w : World} (h : Kp X a w) {p : Addr} (hp : ¬ X p.block) (u : Value) : Kp X a (w.setCell p u) :=
 fun b hX hb => (Below.heap_setCell w p u b (fun e => hp (e ▸ hX))).trans (h b hX hb)
theorem Kp.ext {X : Nat → Prop} {a w w' : World} (h : Kp X a w) (k : Ext w w') : Kp X a w' := h.trans (.of_ext k)
theorem Kp.grown {X : Nat → Prop} {a w w' : World} {row : Option Nat} (h : Kp X a w) (hg : w.grownBy w' row) (hr : ∀ k, row = some k → ¬ X k) : Kp X a w' :=
 fun b hX hb => (hg.block b (h.lt hX hb) (fun e => hr b e.symm hX)).trans (h b hX hb)

class Stab {α : Type} (E : World → (Nat → Prop) → List Value → α → Prop) : Prop where
 keep : ∀ {w w' : World} {X : Nat → Prop} {cs : List Value} {a : α}, E w X cs a → Kp X w w' → E w' X cs a
 widen : ∀ {w : World} {X Y : Nat → Prop} {cs : List Value} {a : α}, E w X cs a → (∀ b, X b → b < w.heap.size → Y b) → E w Y cs a
 one : ∀ {w : World} {X : Nat → Prop} {cs : List Value} {a : α}, E w X cs a → ∀ u ∈ cs, u.oneCell' = true

section
variable {α : Type} {sz : Nat} {E : World → (Nat → Prop) → List Value → α → Prop}
def Thaw (w : World) (A : Option Addr) (n : Nat) : Prop := ∀ b o, A = some ⟨b, o, none⟩ → ∀ j, j < n → w.frozen? ⟨b, o + j, none⟩ = false
theorem Thaw.zero (w : World) (A : Option Addr) {n : Nat} (h : n = 0) : Thaw w A n := fun _ _ _ j hj => by omega
theorem Thaw.of_heap {w : World} {g : Nat} {c : Array Value} {e : TypeId} (hg : w.heap[g]? = some (.cells c e (0, 0))) (o n : Nat) : Thaw w (some ⟨g, o, none⟩) n := fun b o' hA j _ => by
 injection hA with hA
 injection hA with e1 e2
 subst e1; simp [World.frozen?, hg]
theorem Thaw.new {w : World} {g : Nat} {c : Array Value} {e : TypeId} (hg : g = w.heap.size) (o n : Nat) : Thaw (w.alloc (.cells c e)) (some ⟨g, o, none⟩) n :=
 Thaw.of_heap (by subst hg; exact heap_alloc_new w _) o n
def Sl (sz : Nat) (E : World → (Nat → Prop) → List Value → α → Prop) (w : World) (X : Nat → Prop) (A : Option Addr) (c : Nat) (l : List α) : Prop :=
 l.length ≤ c ∧ c ≤ maxLen ∧ (0 < l.length → ∃ b o, A = some ⟨b, o, none⟩ ∧ X b ∧
  ∀ i (h : i < l.length), ∃ cs : List Value, cs.length = sz ∧ (∀ j (hj : j < cs.length), w.cell? ⟨b, o + i * sz + j, none⟩ = some cs[j]) ∧ E w X cs l[i]) ∧ Thaw w A (l.length * sz)

theorem Sl.nil (w : World) (X : Nat → Prop) (A : Option Addr) (c : Nat) (hc : c ≤ maxLen) : Sl sz E w X A c [] := ⟨Nat.zero_le _, hc, fun h => absurd h (by simp), Thaw.zero _ _ (by simp)⟩
theorem Sl.nil0 (w : World) (X : Nat → Prop) (A : Option Addr) : Sl sz E w X A 0 [] := Sl.nil _ _ _ _ (Nat.zero_le _)
theorem Sl.keep [Stab E] {w w' : World} {X : Nat → Prop} {A : Option Addr} {c : Nat} {l : List α} (h : Sl sz E w X A c l) (k : Kp X w w') : Sl sz E w' X A c l := by
 refine ⟨h.1, h.2.1, fun h0 => ?_, fun b o hA j hj => ?_⟩
 case refine_2 =>
  have h0 : 0 < l.length := by
   rcases Nat.eq_zero_or_pos l.length with h0 | h0
   ·rw [h0] at hj; omega
   ·exact h0
  obtain ⟨b', o', hA', hX, hi⟩ := h.2.2.1 h0; have h4 := h.2.2.2 b o hA j hj
  have e1 : b = b' := by rw [hA] at hA'; injection hA' with hA'; injection hA' with e1
  have hb : b < w.heap.size := by
   obtain ⟨cs, hlen, hc, _⟩ := hi 0 h0; rw [e1]; refine World.block_lt_of_cell? _ _ (hc 0 ?_)
   rcases Nat.eq_zero_or_pos sz with hs | hs
   ·rw [hs] at hj; omega
   ·omega
  exact (World.frozen?_of_block (a := ⟨b, o + j, none⟩) (k b (e1 ▸ hX) hb)).trans h4
 obtain ⟨b, o, hA, hX, hi⟩ := h.2.2.1 h0; refine ⟨b, o, hA, hX, fun i hl => ?_⟩; obtain ⟨cs, hlen, hc, he⟩ := hi i hl; refine ⟨cs, hlen, fun j hj => ?_, Stab.keep he k⟩; have h1 := hc j hj; exact (World.cell?_of_block (a := ⟨b, o + i * sz + j, none⟩) (k b hX (World.block_lt_of_cell? _ _ h1))).trans h1
theorem Sl.widen [Stab E] {w : World} {X Y : Nat → Prop} {A : Option Addr} {c : Nat} {l : List α} (h : Sl sz E w X A c l) (hsz : 0 < sz) (k : ∀ b, X b → b < w.heap.size → Y b) : Sl sz E w Y A c l := by
 refine ⟨h.1, h.2.1, fun h0 => ?_, h.2.2.2⟩; obtain ⟨b, o, hA, hX, hi⟩ := h.2.2.1 h0; obtain ⟨cs0, hlen0, hc0, _⟩ := hi 0 h0; have hb : b < w.heap.size := World.block_lt_of_cell? _ _ (hc0 0 (by omega)); refine ⟨b, o, hA, k b hX hb, fun i hl => ?_⟩; obtain ⟨cs, hlen, hc, he⟩ := hi i hl; exact ⟨cs, hlen, hc, Stab.widen he k⟩
end

section
variable {α : Type} {sz : Nat} {E : World → (Nat → Prop) → List Value → α → Prop}
theorem Sl.take {w : World} {X : Nat → Prop} {A : Option Addr} {c : Nat} {l : List α} (h : Sl sz E w X A c l) {k c' : Nat} (hk : k ≤ l.length) (hc : k ≤ c') (hm : c' ≤ maxLen) : Sl sz E w X A c' (l.take k) := by
 have hlen : (l.take k).length = k := by rw [List.length_take]; omega
 refine ⟨by omega, hm, fun h0 => ?_, fun b o hA j hj => h.2.2.2 b o hA j (Nat.lt_of_lt_of_le hj (Nat.mul_le_mul_right _ (by omega)))⟩; obtain ⟨b, o, hA, hX, hi⟩ := h.2.2.1 (by omega); refine ⟨b, o, hA, hX, fun i hl => ?_⟩; obtain ⟨cs, h1, h2, h3⟩ := hi i (by omega); exact ⟨cs, h1, h2, by rw [List.getElem_take]; exact h3⟩
theorem Sl.drop {w : World} {X : Nat → Prop} {b o : Nat} {c : Nat} {l : List α} (h : Sl sz E w X (some ⟨b, o, none⟩) c l) {k : Nat} : Sl sz E w X (some ⟨b, o + k * sz, none⟩) (c - k) (l.drop k) := by
 have h1 := h.1; have h2 := h.2.1; refine ⟨by rw [List.length_drop]; omega, by omega, fun h0 => ?_, fun b' o' hA j hj => ?_⟩
 case refine_2 =>
  injection hA with hA
  injection hA with e1 e2
  subst e1; subst e2
  rw [List.length_drop, Nat.sub_mul] at hj; rw [Nat.add_assoc]; exact h.2.2.2 b o rfl _ (by omega)
 rw [List.length_drop] at h0; obtain ⟨b', o', hA, hX, hi⟩ := h.2.2.1 (by omega)
 injection hA with hA
 injection hA with e1 e2
 subst e1; subst e2
 refine ⟨b, _, rfl, hX, fun i hl => ?_⟩; rw [List.length_drop] at hl; obtain ⟨cs, h1, h2, h3⟩ := hi (k + i) (by omega); refine ⟨cs, h1, fun j hj => ?_, by rw [List.getElem_drop]; exact h3⟩; have := h2 j hj; rw [Nat.add_mul, ← Nat.add_assoc] at this; exact this
end

def EU (_ : World) (_ : Nat → Prop) (cs : List Value) (x : Nat) : Prop := cs = [.int .u32 x] ∧ x < 4294967296
instance : Stab EU := ⟨fun h _ => h, fun h _ => h, fun h => by obtain ⟨rfl, _⟩ := h; simp [Value.oneCell']⟩

abbrev Nl (w : World) (X : Nat → Prop) (A : Option Addr) (c : Nat) (l : List Nat) : Prop := Sl 1 EU w X A c l
theorem Nl.keep {w w' : World} {X : Nat → Prop} {A : Option Addr} {c : Nat} {l : List Nat} (h : Nl w X A c l) (k : Kp X w w') : Nl w' X A c l := Sl.keep h k
theorem Nl.ext {w w' : World} {X : Nat → Prop} {A : Option Addr} {c : Nat} {l : List Nat} (h : Nl w X A c l) (k : Ext w w') : Nl w' X A c l := Sl.keep h (.of_ext k)
theorem Nl.widen {w : World} {X Y : Nat → Prop} {A : Option Addr} {c : Nat} {l : List Nat} (h : Nl w X A c l) (k : ∀ b, X b → b < w.heap.size → Y b) : Nl w Y A c l := Sl.widen h (by omega) k
theorem Nl.at_ {w : World} {X : Nat → Prop} {A : Option Addr} {c : Nat} {l : List Nat} (h : Nl w X A c l) {k : Nat} (hk : k < l.length) :
  ∃ b o, A = some ⟨b, o, none⟩ ∧ X b ∧ (∀ i, i < l.length → w.cell? ⟨b, o + i, none⟩ = some (.int .u32 (nth l i))) ∧ nth l k < 4294967296 := by
 obtain ⟨b, o, hA, hX, hi⟩ := h.2.2.1 (by omega); refine ⟨b, o, hA, hX, fun i hl => ?_, ?_⟩
 ·obtain ⟨cs, _, hc, rfl, _⟩ := hi i hl; have := hc 0 (by simp)
  simpa [nth_eq l i hl] using this
 ·obtain ⟨cs, _, _, _, hb⟩ := hi k hk
  rw [nth_eq l k hk]; exact hb
theorem Nl.lt {w : World} {X : Nat → Prop} {A : Option Addr} {c : Nat} {l : List Nat} (h : Nl w X A c l) : ∀ x ∈ l, x < 4294967296 := by
 intro x hx; obtain ⟨k, hk, rfl⟩ := List.getElem_of_mem hx; obtain ⟨b, o, _, _, hi⟩ := h.2.2.1 (by omega); obtain ⟨cs, _, _, _, hb⟩ := hi k hk; exact hb



structure Ety (P : Program) (t e : TypeId) (sz bytes : Nat) (z : Value) : Prop where
 under : P.underlying t = some (.slice e)
 info : (P.info? e).map (fun i => (i.zero, i.size, i.bytes)) = some (some z, sz, bytes)
 zs : z.cells.size = sz
 pos : 0 < sz

section
variable {α : Type} {sz : Nat} {E : World → (Nat → Prop) → List Value → α → Prop}
def Fl (sz : Nat) (E : World → (Nat → Prop) → List Value → α → Prop) (w : World) (X : Nat → Prop) (xs : List Value) (l : List α) : Prop :=
 xs.length = l.length * sz ∧ ∀ i (h : i < l.length), E w X ((xs.drop (i * sz)).take sz) l[i]

theorem Fl.nil (w : World) (X : Nat → Prop) : Fl sz E w X [] [] := ⟨by simp, fun i h => absurd h (by simp)⟩
theorem Fl.keep [Stab E] {w w' : World} {X : Nat → Prop} {xs : List Value} {l : List α} (h : Fl sz E w X xs l) (k : Kp X w w') : Fl sz E w' X xs l :=
 ⟨h.1, fun i hi => Stab.keep (h.2 i hi) k⟩
theorem Fl.widen [Stab E] {w : World} {X Y : Nat → Prop} {xs : List Value} {l : List α} (h : Fl sz E w X xs l) (k : ∀ b, X b → b < w.heap.size → Y b) : Fl sz E w Y xs l :=
 ⟨h.1, fun i hi => Stab.widen (h.2 i hi) k⟩
theorem Fl.append {w : World} {X : Nat → Prop} {xs ys : List Value} {l m : List α} (h : Fl sz E w X xs l) (k : Fl sz E w X ys m) : Fl sz E w X (xs ++ ys) (l ++ m) := by
 refine ⟨by rw [List.length_append, List.length_append, h.1, k.1, Nat.add_mul], fun i hi => ?_⟩
 rcases Nat.lt_or_ge i l.length with hl | hl
 ·rw [List.getElem_append_left hl]; have h1 := h.2 i hl
  have h2 : i * sz + sz ≤ xs.length := by rw [h.1, ← Nat.succ_mul]; exact Nat.mul_le_mul_right _ hl
  rw [List.drop_append_of_le_length (by omega), List.take_append_of_le_length (by rw [List.length_drop]; omega)]; exact h1
 ·rw [List.getElem_append_right hl]; rw [List.length_append] at hi; have h1 := k.2 (i - l.length) (by omega)
  have e : i * sz = xs.length + (i - l.length) * sz := by rw [h.1, ← Nat.add_mul]; congr 1; omega
  rw [e, List.drop_append]; have e2 : List.drop (xs.length + (i - l.length) * sz) xs = [] := List.drop_eq_nil_of_le (by omega); rw [e2, List.nil_append]
  have e3 : xs.length + (i - l.length) * sz - xs.length = (i - l.length) * sz := by omega
  rw [e3]; exact h1
theorem Fl.one {w : World} {X : Nat → Prop} {cs : List Value} {a : α} (h : E w X cs a) (hl : cs.length = sz) : Fl sz E w X cs [a] :=
 ⟨by simp [hl], fun i hi => by
  have : i = 0 := by simpa using hi
  subst this; simp only [Nat.zero_mul, List.drop_zero, List.getElem_cons_zero]; rw [List.take_of_length_le (by omega)]
  exact h⟩
theorem Fl.ones [Stab E] {w : World} {X : Nat → Prop} {xs : List Value} {l : List α} (h : Fl sz E w X xs l) (hsz : 0 < sz) : ∀ u ∈ xs, u.oneCell' = true := by
 intro u hu; obtain ⟨j, hj, rfl⟩ := List.getElem_of_mem hu
 have hj' : j / sz < l.length := by rw [Nat.div_lt_iff_lt_mul hsz, ← h.1]; exact hj
 have h1 := Stab.one (h.2 (j / sz) hj'); refine h1 _ ?_; have h2 : j % sz < sz := Nat.mod_lt _ hsz
 have h3 : j / sz * sz + j % sz = j := by rw [Nat.mul_comm]; exact Nat.div_add_mod j sz
 refine List.mem_iff_getElem?.2 ⟨j % sz, ?_⟩; rw [List.getElem?_take_of_lt h2, List.getElem?_drop, h3, List.getElem?_eq_getElem hj]

theorem Sl.flat {w : World} {X : Nat → Prop} {A : Option Addr} {c : Nat} {l : List α} (h : Sl sz E w X A c l) :
  ∃ xs, Fl sz E w X xs l ∧ (0 < l.length → ∃ b o, A = some ⟨b, o, none⟩ ∧ X b ∧ ∀ j u, xs[j]? = some u → w.cell? ⟨b, o + j, none⟩ = some u) := by
 rcases Nat.eq_zero_or_pos l.length with h0 | h0
 ·have : l = [] := List.eq_nil_of_length_eq_zero h0; subst this; exact ⟨[], Fl.nil _ _, fun h => absurd h (by simp)⟩
 ·obtain ⟨b, o, hA, hX, hi⟩ := h.2.2.1 h0
  have key : ∀ n, n ≤ l.length → ∃ xs, Fl sz E w X xs (l.take n) ∧ ∀ j u, xs[j]? = some u → w.cell? ⟨b, o + j, none⟩ = some u := by
   intro n
   induction n with
   | zero => intro _; exact ⟨[], Fl.nil _ _, fun j u hj => by simp at hj⟩
   | succ n ih =>
    intro hn; obtain ⟨xs, h1, h2⟩ := ih (by omega); obtain ⟨cs, h3, h4, h5⟩ := hi n (by omega)
    have hlen : xs.length = n * sz := by rw [h1.1, List.length_take, Nat.min_eq_left (by omega)]
    refine ⟨xs ++ cs, ?_, fun j u hj => ?_⟩
    ·rw [List.take_succ_eq_append_getElem (by omega)]; exact h1.append (Fl.one h5 h3)
    ·rcases Nat.lt_or_ge j xs.length with hjl | hjl
     ·rw [List.getElem?_append_left hjl] at hj; exact h2 j u hj
     ·rw [List.getElem?_append_right hjl] at hj; obtain ⟨h6, rfl⟩ := List.getElem?_eq_some_iff.1 hj; have := h4 (j - xs.length) h6
      have e : o + n * sz + (j - xs.length) = o + j := by omega
      rw [e] at this; exact this
  obtain ⟨xs, h1, h2⟩ := key l.length (Nat.le_refl _); rw [List.take_length] at h1; exact ⟨xs, h1, fun _ => ⟨b, o, hA, hX, h2⟩⟩
theorem Sl.of_flat {w : World} {X : Nat → Prop} {A : Option Addr} {c : Nat} {l : List α} {xs : List Value} (hc : l.length ≤ c) (hm : c ≤ maxLen) (ht : Thaw w A (l.length * sz)) (h : Fl sz E w X xs l)
  (hA : 0 < l.length → ∃ b o, A = some ⟨b, o, none⟩ ∧ X b ∧ ∀ j u, xs[j]? = some u → w.cell? ⟨b, o + j, none⟩ = some u) : Sl sz E w X A c l := by
 refine ⟨hc, hm, fun h0 => ?_, ht⟩; obtain ⟨b, o, h1, h2, h3⟩ := hA h0; refine ⟨b, o, h1, h2, fun i hi => ?_⟩
 have hle : i * sz + sz ≤ xs.length := by rw [h.1, ← Nat.succ_mul]; exact Nat.mul_le_mul_right _ hi
 refine ⟨(xs.drop (i * sz)).take sz, by rw [List.length_take, List.length_drop]; omega, fun j hj => ?_, h.2 i hi⟩; rw [List.length_take, List.length_drop] at hj; have := h3 (i * sz + j) _ (List.getElem?_eq_getElem (by omega)); rw [← Nat.add_assoc] at this; rw [this, List.getElem_take, List.getElem_drop]

def Own (sz : Nat) (E : World → (Nat → Prop) → List Value → α → Prop) (w : World) (Z : Nat → Prop) (base : Nat) (e : TypeId) (v : Value) (l : List α) : Prop :=
 ∃ xs, w.ownsRow base e sz v l.length xs ∧ Fl sz E w (fun b => Z b ∧ v.ownBlock ≠ some b) xs l

theorem Own.nil (w : World) (Z : Nat → Prop) (base : Nat) (e : TypeId) : Own sz E w Z base e (.slice none 0 0) [] := ⟨[], World.ownsRow_nil _ _ _ _, Fl.nil _ _⟩
theorem Own.empty (w : World) (Z : Nat → Prop) {base : Nat} (e : TypeId) (hb : base ≤ w.heap.size) : Own sz E (w.alloc (.cells #[] e)) Z base e (.slice (some ⟨w.heap.size, 0, none⟩) 0 0) [] :=
 ⟨[], World.ownsRow_made w #[] 0 hb (Nat.zero_le _) (by simp), Fl.nil _ _⟩
theorem Own.row {w : World} {Z : Nat → Prop} {base : Nat} {e : TypeId} {v : Value} {l : List α} (h : Own sz E w Z base e v l) : ∀ k, v.ownBlock = some k → base ≤ k ∧ k < w.heap.size := by
 obtain ⟨xs, h1, _⟩ := h; exact h1.lt
theorem Own.sl [Stab E] {w : World} {Z X : Nat → Prop} {base : Nat} {e : TypeId} {v : Value} {l : List α} (h : Own sz E w Z base e v l) (_hsz : 0 < sz) (hX : ∀ b, Z b ∨ base ≤ b → X b) :
  ∃ A c, v = .slice A l.length c ∧ Sl sz E w X A c l := by
 obtain ⟨xs, h1, h2⟩ := h
 have h3 : Fl sz E w X xs l := h2.widen fun b hb _ => hX b (.inl hb.1)
 rcases h1.2 with ⟨rfl, hn⟩ | ⟨g, cap, cur, rfl, hb, hg, hnc, hcm, hcs, htake⟩
 ·have : l = [] := List.eq_nil_of_length_eq_zero hn; subst this; exact ⟨none, 0, rfl, Sl.nil0 _ _ _⟩
 ·refine ⟨_, cap, rfl, Sl.of_flat hnc hcm (Thaw.of_heap hg _ _) h3 fun _ => ⟨g, 0, rfl, hX g (.inr hb), fun j u hj => ?_⟩⟩; have := h1.cells (g := g) rfl j u hj
  simpa [Addr.add_lit] using this
theorem Own.keep [Stab E] {w w' : World} {Z : Nat → Prop} {base : Nat} {e : TypeId} {v : Value} {l : List α} (h : Own sz E w Z base e v l) (k : Kp (fun b => Z b ∨ v.ownBlock = some b) w w') : Own sz E w' Z base e v l := by
 obtain ⟨xs, h1, h2⟩ := h; refine ⟨xs, ⟨h1.1, ?_⟩, h2.keep fun b hb hl => k b (.inl hb.1) hl⟩
 rcases h1.2 with hn | ⟨g, cap, cur, rfl, hb, hg, r⟩
 ·exact .inl hn
 ·exact .inr ⟨g, cap, cur, rfl, hb, (k g (.inr rfl) (lt_of_some hg)).trans hg, r⟩
theorem Own.widen [Stab E] {w : World} {Z Z' : Nat → Prop} {base : Nat} {e : TypeId} {v : Value} {l : List α} (h : Own sz E w Z base e v l) (k : ∀ b, Z b → b < w.heap.size → Z' b) : Own sz E w Z' base e v l := by
 obtain ⟨xs, h1, h2⟩ := h; exact ⟨xs, h1, h2.widen fun b hb hl => ⟨k b hb.1 hl, hb.2⟩⟩
theorem Own.ext [Stab E] {w w' : World} {Z : Nat → Prop} {base : Nat} {e : TypeId} {v : Value} {l : List α} (h : Own sz E w Z base e v l) (k : Ext w w') : Own sz E w' Z base e v l := h.keep (.of_ext k)

theorem run_app [Stab E] {P : Program} {t e : TypeId} {bytes : Nat} {z : Value} (T : Ety P t e sz bytes z) {w : World} {ty : TypeId} {Z : Nat → Prop} {base : Nat} {v : Value} {l m : List α} {A : Option Addr} {c : Nat} {ys : List Value}
  (h : Own sz E w Z base e v l) (h3 : Fl sz E w (fun b => Z b ∧ v.ownBlock ≠ some b) ys m) (h4 : 0 < m.length → ∃ b o, A = some ⟨b, o, none⟩ ∧ ∀ j u, ys[j]? = some u → w.cell? ⟨b, o + j, none⟩ = some u)
  (hlen : (l.length + m.length) * bytes ≤ 140737488355328) (hL : l.length + m.length ≤ maxLen) (hbase : base ≤ w.heap.size) :
  ∃ v' w', (Builtin.append_ #[t, t] ty #[v, .slice A m.length c]).run P w = .ok v' w' ∧ Own sz E w' Z base e v' (l ++ m) ∧ w.grownBy w' v.ownBlock ∧ (v'.ownBlock = v.ownBlock ∨ v'.ownBlock = some w.heap.size) := by
 obtain ⟨i, hi, hz, hsize, hby⟩ := info_parts T.info; obtain ⟨xs, h1, h2⟩ := h
 cases A with
 | none =>
  have h0 : m = [] := by
   rcases Nat.eq_zero_or_pos m.length with h0 | h0
   ·exact List.eq_nil_of_length_eq_zero h0
   ·obtain ⟨b, o, hA, _⟩ := h4 h0
    cases hA
  subst h0; refine ⟨v, w, ?_, by simpa using ⟨xs, h1, h2⟩, World.grownBy.refl _ _, .inl rfl⟩
  rcases h1.2 with ⟨rfl, hn⟩ | ⟨g, cap, cur, rfl, _, _, hnc, _⟩
  ·simp [Builtin.append_, run_underlying T.under, sizeOf, typeInfo, hi, Builtin.lenOf, Builtin.firstCells]
  ·simp [Builtin.append_, run_underlying T.under, sizeOf, typeInfo, hi, Builtin.lenOf, Builtin.firstCells, hnc, storeCells]
 | some ad =>
  have hcells : ∀ j u, ys[j]? = some u → w.cell? (ad.add j) = some u := by
   intro j u hj
   rcases Nat.eq_zero_or_pos m.length with h0 | h0
   ·have : ys = [] := List.eq_nil_of_length_eq_zero (by rw [h3.1, h0, Nat.zero_mul]); subst this; simp at hj
   ·obtain ⟨b, o, hA, hc⟩ := h4 h0
    injection hA with hA
    subst hA; rw [Addr.add_lit]; exact hc j u hj
  obtain ⟨v', w', hrun, h5, h6, _, h7⟩ := run_append_own_at (P := P) w base t ty e i z sz bytes T.under hi hz hsize hby T.zs T.pos v l.length xs h1 ad m.length c ys h3.1 hcells (h3.ones T.pos) hL hlen hbase; refine ⟨v', w', hrun, ⟨xs ++ ys, by rw [List.length_append]; exact h5, ?_⟩, h6, h7⟩
  have kp : Kp (fun b => Z b ∧ v.ownBlock ≠ some b) w w' := fun b hb hl => h6.block b hl (fun e => hb.2 e.symm)
  have w0 : Fl sz E w (fun b => (Z b ∧ v.ownBlock ≠ some b) ∧ b < w.heap.size) (xs ++ ys) (l ++ m) := (h2.append h3).widen fun b hb hl => ⟨hb, hl⟩
  refine (w0.keep fun b hb hl => kp b hb.1 hl).widen fun b hb _ => ⟨hb.1.1, fun e => ?_⟩
  rcases h7 with h7 | h7
  ·exact hb.1.2 (h7 ▸ e)
  ·rw [h7] at e
   injection e with e
   have := hb.2
   omega

theorem wpList_app [Stab E] {P : Program} {t e : TypeId} {bytes : Nat} {z : Value} (T : Ety P t e sz bytes z) {w : World} {ops : Array Oper} {rest : List Oper} {o : Oper} {a : Act} {Q : Exit → Act → World → Prop} (s x : Operand)
  {Z : Nat → Prop} {base : Nat} {v : Value} {l m : List α} {A : Option Addr} {c : Nat} {ys : List Value}
  (h : Own sz E w Z base e v l) (h3 : Fl sz E w (fun b => Z b ∧ v.ownBlock ≠ some b) ys m) (h4 : 0 < m.length → ∃ b o, A = some ⟨b, o, none⟩ ∧ ∀ j u, ys[j]? = some u → w.cell? ⟨b, o + j, none⟩ = some u)
  (hlen : (l.length + m.length) * bytes ≤ 140737488355328) (hL : l.length + m.length ≤ maxLen) (hbase : base ≤ w.heap.size)
  (hgd : o.guard = none) (ho : o.op = .call { callee := .builtin .append, args := #[s, x], argTypes := #[t, t] }) (hs : a.eval s = v) (hx : a.eval x = .slice A m.length c)
  (H : ∀ v' w', Own sz E w' Z base e v' (l ++ m) → w.grownBy w' v.ownBlock → (v'.ownBlock = v.ownBlock ∨ v'.ownBlock = some w.heap.size) → wpList P ops Q rest (a.put o.dst v') w') : wpList P ops Q (o :: rest) a w := by
 refine wpList_plain hgd fun K hK => ?_
 obtain ⟨v', w', hrun, h5, h6, h7⟩ := run_app (P := P) (ty := o.type) T (c := c) h h3 h4 hlen hL hbase; unfold Oper.wp execOp; simp only [ho, resolve, invoke, builtin, Sem.run_bind, Sem.run_pure, Result.andThen_ok, List.map_toArray, List.map_cons, List.map_nil, hs, hx, hrun]; exact hK _ _ (H v' w' h5 h6 h7)
end


theorem wrap_u64 (n : Int) : IntKind.u64.wrap n = n % 18446744073709551616 := by simp [IntKind.wrap, IntKind.bits, IntKind.signed]
theorem wrap_muladd (x y z c : Nat) (hx : x < 4294967296) (hy : y < 4294967296) (hz : z < 4294967296) (hc : c < 4294967296) :
  IntKind.u64.wrap ((c : Int) + IntKind.u64.wrap (IntKind.u64.wrap ((x : Int) * y) + z)) = ((c + x * y + z : Nat) : Int) ∧ c + x * y + z < 18446744073709551616 := by
 have h : x * y ≤ 4294967295 * 4294967295 := Nat.mul_le_mul (by omega) (by omega); simp only [wrap_u64]; rw [← Int.natCast_mul]; generalize x * y = p at *
 omega
def Box (w : World) (g : Nat) (t : TypeId) (cs : Array Value) : Prop := w.heap[g]? = some (.cells cs t (0, 0))
section
variable {w w' : World} {g : Nat} {t : TypeId} {cs : Array Value}
theorem Box.lt (h : Box w g t cs) : g < w.heap.size := lt_of_some h
theorem Box.cell (h : Box w g t cs) : ∀ i, w.cell? ⟨g, i, none⟩ = cs[i]? := fun i => cell_of_row w g i cs t (0, 0) h
theorem Box.frozen (h : Box w g t cs) : ∀ i, w.frozen? ⟨g, i, none⟩ = false := fun i => by
 unfold Box at h; simp [World.frozen?, h]
theorem Box.rules (h : Box w g t cs) : (∀ i, w.cell? ⟨g, i, none⟩ = cs[i]?) ∧ (∀ i, w.frozen? ⟨g, i, none⟩ = false) := ⟨h.cell, h.frozen⟩
theorem Box.new (w : World) (t : TypeId) (cs : Array Value) : Box (w.alloc (.cells cs t)) w.heap.size t cs := heap_alloc_new w _
theorem Box.new_at (w : World) (t : TypeId) (cs : Array Value) {g : Nat} (hg : g = w.heap.size) : Box (w.alloc (.cells cs t)) g t cs := by subst hg; exact heap_alloc_new w _
theorem Box.drew (h : Box w g t cs) : Box w.drew g t cs := h
theorem Box.drewN (h : Box w g t cs) (n : Nat) : Box (w.drewN n) g t cs := h
theorem Box.alloc (h : Box w g t cs) (o : Obj) : Box (w.alloc o) g t cs := (Below.heap_alloc w o g h.lt).trans h
theorem Box.set_ (h : Box w g t cs) (i : Nat) (u : Value) : Box (w.setCell ⟨g, i, none⟩ u) g t (cs.setIfInBounds i u) := by
 unfold Box at h ⊢; simp [World.setCell, Array.getElem?_modify, h]
theorem Box.far (h : Box w g t cs) {p : Addr} (hp : g ≠ p.block) (u : Value) : Box (w.setCell p u) g t cs := (Below.heap_setCell w p u g hp).trans h
theorem Box.ext (h : Box w g t cs) (hx : Ext w w') : Box w' g t cs := (Below.block hx g h.lt).trans h
theorem Box.keep {X : Nat → Prop} (h : Box w g t cs) (hg : X g) (k : Kp X w w') : Box w' g t cs := (k g hg h.lt).trans h
theorem Box.grown {row : Option Nat} (h : Box w g t cs) (hb : w.grownBy w' row) (hg : some g ≠ row) : Box w' g t cs := (hb.block g h.lt hg).trans h
end
theorem wp_named {P : Program} {c : Code} {Q : Exit → Act → World → Prop} {a : Act} {w : World} (h : ∀ W, W = w → c.wp P Q a W) : c.wp P Q a w := h w rfl
def uc (l : List Nat) : List Value := l.map fun x : Nat => Value.int .u32 (x : Int)
theorem Fl.u {l : List Nat} (h : Lb l) (w : World) (X : Nat → Prop) : Fl 1 EU w X (uc l) l := by
 refine ⟨by simp [uc], fun i hi => ?_⟩; refine ⟨?_, h _ (List.getElem_mem hi)⟩
 have hi' : i < (uc l).length := by simpa [uc] using hi
 rw [Nat.mul_one, List.drop_eq_getElem_cons hi', List.take_succ_cons, List.take_zero]; simp [uc]
theorem uc_at {w : World} {X : Nat → Prop} {A : Option Addr} {c : Nat} {l : List Nat} (h : Nl w X A c l) : 0 < l.length → ∃ b o, A = some ⟨b, o, none⟩ ∧ ∀ j u, (uc l)[j]? = some u → w.cell? ⟨b, o + j, none⟩ = some u := by
 intro h0; obtain ⟨b, o, hA, _, hc, _⟩ := h.at_ h0; refine ⟨b, o, hA, fun j u hu => ?_⟩
 have hj : j < l.length := by have := (List.getElem?_eq_some_iff.1 hu).1; simpa [uc] using this
 rw [hc j hj]; rw [uc, List.getElem?_map, List.getElem?_eq_getElem hj] at hu; simp only [Option.map_some, Option.some.injEq] at hu; rw [nth_eq l j hj, hu]
theorem Nl.lb {w : World} {X : Nat → Prop} {A : Option Addr} {c : Nat} {l : List Nat} (h : Nl w X A c l) : Lb l := h.lt
abbrev Nown (w : World) (base : Nat) (v : Value) (l : List Nat) : Prop := Own 1 EU w (fun _ => False) base 47 v l
theorem Nown.nl {w : World} {base : Nat} {v : Value} {l : List Nat} (h : Nown w base v l) : ∃ A c, v = .slice A l.length c ∧ Nl w (base ≤ ·) A c l :=
 Own.sl h (by omega) fun _ hb => hb.elim False.elim id
theorem ety_u : Ety Tryz.prog 23 47 1 4 (.int .u32 0) := ⟨Tryz.underlying23, by kernel_rfl, by simp [Value.cells], by omega⟩
theorem Nown.len {w : World} {base g n cap : Nat} {l : List Nat} (h : Nown w base (.slice (some ⟨g, 0, none⟩) n cap) l) : n = l.length := by
 obtain ⟨xs, h1, h2⟩ := h
 rcases h1.2 with ⟨hv, _⟩ | ⟨g', cap', cur, hv, _⟩
 ·cases hv
 ·injection hv
theorem Nown.cell {w : World} {base g n cap : Nat} {l : List Nat} (h : Nown w base (.slice (some ⟨g, 0, none⟩) n cap) l) (k : Nat) (hk : k < l.length) : w.cell? ⟨g, k, none⟩ = some (.int .u32 (nth l k)) ∧ w.frozen? ⟨g, k, none⟩ = false := by
 have hn := h.len; subst hn; obtain ⟨xs, h1, h2⟩ := h; have h3 := h2.2 k hk; refine ⟨?_, h1.frozenAt k⟩; rw [h1.cellAt k (by omega)]
 have hx : k < xs.length := by rw [h2.1]; omega
 have h4 := h3.1; rw [Nat.mul_one, List.drop_eq_getElem_cons hx, List.take_succ_cons, List.take_zero] at h4
 injection h4 with h4 _
 rw [List.getElem?_eq_getElem hx, h4, nth_eq l k hk]
theorem Fl.to_uc {w : World} {X : Nat → Prop} {xs : List Value} {l : List Nat} (h : Fl 1 EU w X xs l) : xs = uc l := by
 apply List.ext_getElem
 ·simp [uc, h.1]
 ·intro i h1 h2
  have hi : i < l.length := by simpa [uc] using h2
  have h4 := (h.2 i hi).1; rw [Nat.mul_one, List.drop_eq_getElem_cons h1, List.take_succ_cons, List.take_zero] at h4
  injection h4 with h4 _
  rw [h4]; simp [uc]
theorem Nown.lb {w : World} {base : Nat} {v : Value} {l : List Nat} (h : Nown w base v l) : Lb l := by
 obtain ⟨xs, _, h2⟩ := h; intro x hx; obtain ⟨k, hk, rfl⟩ := List.getElem_of_mem hx; exact (h2.2 k hk).2
theorem Lb.set {l : List Nat} (h : Lb l) (k : Nat) {x : Nat} (hx : x < 4294967296) : Lb (l.set k x) := by
 intro y hy
 rcases List.mem_or_eq_of_mem_set hy with hy | rfl
 ·exact h y hy
 ·exact hx
theorem Nown.set {w : World} {base g n cap : Nat} {l : List Nat} (h : Nown w base (.slice (some ⟨g, 0, none⟩) n cap) l) (k : Nat) {x : Nat} {y : Int} (hy : y = (x : Int)) (hx : x < 4294967296) :
  Nown (w.setCell ⟨g, k, none⟩ (.int .u32 y)) base (.slice (some ⟨g, 0, none⟩) n cap) (l.set k x) := by
 have hb := h.lb; subst hy; obtain ⟨xs, h1, h2⟩ := h; have e := h2.to_uc; subst e
 have hn : n = l.length := by
  rcases h1.2 with ⟨hv, _⟩ | ⟨g', cap', cur, hv, _⟩
  ·cases hv
  ·injection hv
 subst hn; refine ⟨uc (l.set k x), ?_, Fl.u (hb.set k hx) _ _⟩; have h5 := (h1.stored k (.int .u32 x)).1
 have e2 : (uc l).set k (.int .u32 x) = uc (l.set k x) := by simp [uc, List.map_set]
 rw [e2] at h5
 simpa using h5
theorem wpList_makeu {w : World} {ops : Array Oper} {rest : List Oper} {o : Oper} {a : Act} {Q : Exit → Act → World → Prop} (x y : Operand) (base n : Nat) {L C : Int}
  (hb : base ≤ w.heap.size) (hn : n ≤ 35184372088832) (hL : L = (n : Int)) (hC : C = (n : Int)) (hg : o.guard = none) (hop : o.op = Op.makeSlice 23 x y) (hl : a.eval x = .int .i64 L) (hc : a.eval y = .int .i64 C)
  (hK : ∀ w', Nown w' base (.slice (some ⟨w.heap.size, 0, none⟩) n n) (List.replicate n 0) → Ext w w' → wpList Tryz.prog ops Q rest (a.put o.dst (.slice (some ⟨w.heap.size, 0, none⟩) n n)) w') :
  wpList Tryz.prog ops Q (o :: rest) a w := by
 obtain ⟨i, hi, hz, hsize, hby⟩ := info_parts ety_u.info
 refine wpList_make_full w hg x y _ hop base _ i (.int .u32 0) 1 ety_u.under hi hz hsize .i64 .i64 L C n hl hc hL hC (by rw [hby]; omega) (by simp only [maxLen]; omega) hb fun w' h1 h2 => hK w' ⟨uc (List.replicate n 0), ?_, Fl.u (Lb.rep n) _ _⟩ ?_
 ·have e : (madeCells (Value.cells (.int .u32 0)) (n * 1)).toList = uc (List.replicate n 0) := by
   rw [Nat.mul_one]
   show (madeCells #[Value.int .u32 0] n).toList = _
   rw [toList_madeCells_one]; simp [uc]
  rw [e] at h1
  simpa using h1
 ·exact (Ext.refl w).grown h2 (by simp)
theorem Nown.nl' {w : World} {base n c : Nat} {A : Option Addr} {l : List Nat} (h : Nown w base (.slice A n c) l) : n = l.length ∧ Nl w (base ≤ ·) A c l := by
 obtain ⟨A', c', e, h1⟩ := h.nl
 injection e with e1 e2 e3
 subst e1; subst e2; subst e3
 exact ⟨rfl, h1⟩
theorem grownBy_store {a w : World} {g : Nat} (h : a.grownBy w (some g)) (j : Nat) (u : Value) : a.grownBy (w.setCell ⟨g, j, none⟩ u) (some g) :=
 ⟨h.os, h.tape, h.output, by simpa [World.setCell] using h.size, fun i hi hne => (Below.heap_setCell w ⟨g, j, none⟩ u i (fun e => hne (by rw [e]))).trans (h.block i hi hne)⟩
theorem Kp.of_grown {X : Nat → Prop} {a w : World} {g : Nat} (h : a.grownBy w (some g)) (hX : ¬ X g) : Kp X a w := fun b hb hl => h.block b hl (fun e => hX (by injection e with e; exact e ▸ hb))
theorem Nown.some_ {w : World} {base : Nat} {v : Value} {l : List Nat} (h : Nown w base v l) (hv : v.ownBlock ≠ none) : ∃ g c, v = .slice (some ⟨g, 0, none⟩) l.length c ∧ base ≤ g ∧ g < w.heap.size := by
 have hr := h.row; obtain ⟨xs, h1, _⟩ := h
 rcases h1.2 with ⟨rfl, _⟩ | ⟨g, cap, cur, rfl, _⟩
 ·exact absurd rfl hv
 ·obtain ⟨h2, h3⟩ := hr g rfl; exact ⟨g, cap, rfl, h2, h3⟩
theorem Nl.below {w : World} {X : Nat → Prop} {A : Option Addr} {c : Nat} {l : List Nat} (h : Nl w X A c l) : Nl w (· < w.heap.size) A c l := h.widen fun _ _ hb => hb
theorem Nown.keep {w w' : World} {base : Nat} {v : Value} {l : List Nat} (h : Nown w base v l) (k : Kp (fun b => v.ownBlock = some b) w w') : Nown w' base v l := Own.keep h (fun b hb hl => k b (hb.resolve_left id) hl)
theorem Nown.ext {w w' : World} {base : Nat} {v : Value} {l : List Nat} (h : Nown w base v l) (k : Ext w w') : Nown w' base v l := Own.ext h k
theorem ret_slice {A : Option Addr} {n m c : Nat} (h : n = m) : Ending.returned (.slice A n c) = .returned (.slice A m c) := by rw [h]
theorem ret_int {k : IntKind} {a b : Int} (h : a = b) : Ending.returned (.int k a) = .returned (.int k b) := by rw [h]
theorem ret_bool {a b : Bool} (h : a = b) : Ending.returned (.bool a) = .returned (.bool b) := by rw [h]

theorem Nl.lit2 (w : World) {x y : Int} (p q : Nat) {g : Nat} (hg : g = w.heap.size) (hx : x = (p : Int)) (hy : y = (q : Int)) (hp : p < 4294967296) (hq : q < 4294967296) :
  Nl (w.alloc (.cells #[.int .u32 x, .int .u32 y] 47)) (fun _ => True) (some ⟨g, 0, none⟩) 2 [p, q] :=
 Sl.of_flat (by simp) (by simp [maxLen]) (Thaw.new hg _ _) (Fl.u (Lb.cons hp (Lb.cons hq Lb.nil)) _ _) fun _ => ⟨_, _, rfl, trivial, fun j u hu => by
  subst hx hy; rw [World.cell?_alloc_at (hn := hg)]
  match j, hu with
  | 0, hu => simpa [uc] using hu
  | 1, hu => simpa [uc] using hu⟩
theorem u64_low (a : Nat) (ha : a < 18446744073709551616) : bits .and .u64 (a : Int) 4294967295 = ((a % 4294967296 : Nat) : Int) := by
 have h := u64_and_nat a 4294967295 ha (by omega); rw [show a &&& 4294967295 = a % 4294967296 from Nat.and_two_pow_sub_one_eq_mod a 32] at h; exact h
theorem wpList_appu1 {w : World} {ops : Array Oper} {rest : List Oper} {o : Oper} {a : Act} {Q : Exit → Act → World → Prop} (s x : Operand) {base : Nat} {v : Value} {l : List Nat} {y : Int} (n : Nat)
  (h : Nown w base v l) (hy : y = (n : Int)) (hn : n < 4294967296) (hl : l.length ≤ 8796093022208) (hbase : base ≤ w.heap.size)
  (hgd : o.guard = none) (ho : o.op = .call { callee := .builtin .append, args := #[s, x], argTypes := #[23, 23] }) (hs : a.eval s = v) (hx : a.eval x = .slice (some ⟨w.heap.size, 0, none⟩) 1 1)
  (H : ∀ v' w', Nown w' base v' (l ++ [n]) → (w.alloc (.cells #[.int .u32 y] 47)).grownBy w' v.ownBlock → wpList Tryz.prog ops Q rest (a.put o.dst v') w') : wpList Tryz.prog ops Q (o :: rest) a (w.alloc (.cells #[.int .u32 y] 47)) := by
 refine wpList_app (m := [n]) ety_u s x (Nown.keep h ((Kp.refl w).alloc _)) (Fl.u (Lb.cons hn Lb.nil) _ _) (fun _ => ⟨_, _, rfl, fun j u hu => ?_⟩) ?_ ?_ ?_ hgd ho hs hx fun v' w' h1 h2 _ => H v' w' h1 h2
 ·rw [World.cell?_alloc_at (hn := rfl)]
  match j, hu with
  | 0, hu => simpa [uc, hy] using hu
 ·simp only [List.length_cons, List.length_nil]; omega
 ·simp only [List.length_cons, List.length_nil, maxLen]; omega
 ·simp only [World.size_alloc]; omega
theorem wpList_copyu {w : World} {ops : Array Oper} {rest : List Oper} {o : Oper} {a : Act} {Q : Exit → Act → World → Prop} (d s : Operand) {base g n cap off dLen dCap c k : Nat} {dp A : Option Addr} {out m : List Nat} {X : Nat → Prop}
  (h : Nown w base (.slice (some ⟨g, 0, none⟩) n cap) out) (hm : Nl w X A c m) (hk : k = min m.length dLen) (hdp : 0 < k → dp = some ⟨g, off, none⟩) (hfit : off + k ≤ n)
  (hgd : o.guard = none) (ho : o.op = .call { callee := .builtin .copy, args := #[d, s], argTypes := #[23, 23] }) (hd : a.eval d = .slice dp dLen dCap) (hs : a.eval s = .slice A m.length c)
  (H : ∀ w', Nown w' base (.slice (some ⟨g, 0, none⟩) n cap) (splice out off (m.take k)) → w.grownBy w' (some g) → wpList Tryz.prog ops Q rest (a.put o.dst (.int .i64 (k : Int))) w') : wpList Tryz.prog ops Q (o :: rest) a w := by
 obtain ⟨i, hi, hz, hsize, hby⟩ := info_parts ety_u.info; have hlb := h.lb
 have hk1 : k ≤ m.length := by omega
 have hn := h.len; subst hn; obtain ⟨xs, h1, h2⟩ := h; have e := h2.to_uc; subst e
 rcases h1.2 with ⟨hv, _⟩ | ⟨g', cap', cur, hv, hb, hg, hnc, hcm, hcs, htake⟩
 ·cases hv
 ·injection hv with e1 e2 e3
  injection e1 with e1
  injection e1 with e1
  subst e1; subst e3
  have hlc : (m.take k).length = k := by rw [List.length_take]; omega
  have hucl : (uc (m.take k)).length = k := by rw [uc, List.length_map, hlc]
  have hfin : ∀ w', w'.heap[g]? = some (.cells (splice cur.toList off (uc (m.take k))).toArray 47 (0, 0)) → Nown w' base (.slice (some ⟨g, 0, none⟩) out.length cap) (splice out off (m.take k)) := by
   intro w' hw'; have hlen : (splice out off (m.take k)).length = out.length := length_splice _ _ _ (by omega); refine ⟨uc (splice out off (m.take k)), ⟨by simp [uc], .inr ⟨g, cap, _, by rw [hlen], hb, hw', by rw [hlen]; exact hnc, hcm, ?_, ?_⟩⟩, Fl.u ?_ _ _⟩
   ·simp only [List.size_toArray]; rw [length_splice _ _ _ (by simp only [Array.length_toList]; omega), Array.length_toList, hcs]
   ·show List.take ((splice out off (m.take k)).length * 1) (splice cur.toList off (uc (m.take k))) = _
    rw [hlen, Nat.mul_one]; rw [Nat.mul_one] at htake; unfold splice
    have e1 : (cur.toList.take off) = (uc out).take off := by rw [← htake, List.take_take, Nat.min_eq_left (by omega)]
    have e2 : (List.drop (off + (uc (m.take k)).length) cur.toList).take (out.length - off - k) = (uc out).drop (off + k) := by
     rw [← htake, hucl, List.drop_take, show out.length - (off + k) = out.length - off - k from by omega]
    rw [hucl] at e2
    have l1 : (cur.toList.take off).length = off := by rw [e1, List.length_take]; simp [uc]; omega
    rw [List.take_append, l1, List.take_append, hucl, List.take_of_length_le (l := cur.toList.take off) (by omega), List.take_of_length_le (l := uc (m.take k)) (by omega), e2, e1]; simp only [uc, List.map_append, List.map_take, List.map_drop, hlc]
   ·unfold splice; exact (hlb.take off).append ((hm.lb.take k).append (hlb.drop _))
  have hpos : 0 < k → ∃ ad, A = some ad ∧ ∀ j v, (uc (m.take k))[j]? = some v → w.cell? (ad.add j) = some v := by
   intro h0; obtain ⟨b, o', hA, hc⟩ := uc_at hm (by omega); refine ⟨_, hA, fun j v hv => ?_⟩; rw [Addr.add_lit]; refine hc j v ?_; have hj := (List.getElem?_eq_some_iff.1 hv).1; rw [uc, List.map_take] at hv; rw [hucl] at hj; rw [List.getElem?_take_of_lt hj] at hv; exact hv
  have hsz1 : (Tryz.prog.info? 47).map (·.size) = some 1 := by rw [hi]; simp [hsize]
  rcases Nat.eq_zero_or_pos k with h0 | h0
  ·have hmin : Nat.min m.length dLen = 0 := by show min m.length dLen = 0; omega
   have e0 : splice out off (m.take k) = out := by rw [h0]; simp [splice]
   have e0' : splice cur.toList off (uc (m.take k)) = cur.toList := by rw [h0]; simp [splice, uc]
   refine wpList_copy_nothing hgd d s _ _ ho _ ety_u.under hsz1 _ _ _ _ _ _ hd hs hmin ?_; have := H w (hfin w (by rw [e0']; simpa using hg)) (World.grownBy.refl _ _); rw [h0] at this; exact this
  ·obtain ⟨ad, rfl, hsrc⟩ := hpos h0; rw [hdp h0] at hd; refine wpList_copy_own hgd d s _ _ ho _ ety_u.under hsz1 g off dLen dCap ad m.length c hd hs cur _ hg (uc (m.take k)) (by rw [hucl]; show k = min m.length dLen; exact hk) hsrc (by omega) (Fl.ones (Fl.u (hm.lb.take k) w (fun _ => True)) (by omega)) ?_; have h5 := H (w.setRow g (cur.toList.take off ++ (uc (m.take k) ++ cur.toList.drop (off + (uc (m.take k)).length))).toArray) (hfin _ (setRow_heap w g _ _ _ _ hg)) ⟨rfl, rfl, rfl, by simp, fun i _ hne => setRow_other w g i _ (fun e => hne (by rw [e]))⟩; rw [hucl] at h5 ⊢; exact h5

def EZ (w : World) (X : Nat → Prop) (cs : List Value) (z : Z) : Prop := ∃ A c, cs = [.bool z.neg, .slice A z.mag.length c] ∧ Nl w X A c z.mag
instance : Stab EZ := ⟨fun ⟨A, c, h, k⟩ kp => ⟨A, c, h, k.keep kp⟩, fun ⟨A, c, h, k⟩ kp => ⟨A, c, h, k.widen kp⟩, fun ⟨A, c, h, _⟩ => by subst h; simp [Value.oneCell']⟩
def Zi (w : World) (X : Nat → Prop) (v : Value) (z : Z) : Prop := ∃ A c, v = .agg #[.bool z.neg, .slice A z.mag.length c] ∧ Nl w X A c z.mag
theorem Zi.keep {w w' : World} {X : Nat → Prop} {v : Value} {z : Z} (h : Zi w X v z) (k : Kp X w w') : Zi w' X v z := let ⟨A, c, e, h1⟩ := h; ⟨A, c, e, h1.keep k⟩
theorem Zi.ext {w w' : World} {X : Nat → Prop} {v : Value} {z : Z} (h : Zi w X v z) (k : Ext w w') : Zi w' X v z := h.keep (.of_ext k)
theorem Zi.widen {w : World} {X Y : Nat → Prop} {v : Value} {z : Z} (h : Zi w X v z) (k : ∀ b, X b → b < w.heap.size → Y b) : Zi w Y v z := let ⟨A, c, e, h1⟩ := h; ⟨A, c, e, h1.widen k⟩
theorem Zi.lb {w : World} {X : Nat → Prop} {v : Value} {z : Z} (h : Zi w X v z) : Lb z.mag := let ⟨_, _, _, h1⟩ := h; h1.lb

theorem xt {w w' : World} (h : Ext w w' := by repeat (first | with_reducible assumption | with_reducible exact Ext.refl _ | with_reducible refine Ext.drewN ?_ _ | with_reducible refine Ext.drew ?_ | with_reducible refine Ext.alloc ?_ _ | (with_reducible refine Ext.setCell ?_ ?_ _; rotate_left; (first | exact Nat.le_refl _ | (dsimp only; omega) | (simp only [wsz]; omega))) | (with_reducible refine Ext.trans ?_ (by with_reducible assumption)))) : Ext w w' := h
theorem kpt {Y : Nat → Prop} {w w' : World} (h : Kp Y w w' := by repeat (first | with_reducible exact Kp.refl _ | with_reducible refine Kp.drewN ?_ _ | with_reducible refine Kp.drew ?_ | with_reducible refine Kp.alloc ?_ _ | (with_reducible refine Kp.setCell ?_ ?_ _; rotate_left; (first | (dsimp only; omega) | (simp only [wsz]; omega))) | (with_reducible exact Kp.of_ext (by with_reducible assumption)) | (with_reducible refine Kp.ext ?_ (by with_reducible assumption)))) : Kp Y w w' := h
theorem bxt {w : World} {b : Nat} {T : TypeId} {vs : Array Value} (h : Box w b T vs := by repeat (first | with_reducible assumption | with_reducible exact Box.new _ _ _ | (with_reducible refine Box.new_at _ _ _ ?_; (simp only [wsz]; done)) | with_reducible refine Box.drewN ?_ _ | with_reducible refine Box.drew ?_ | with_reducible refine Box.alloc ?_ _ | with_reducible apply Box.drewN | with_reducible apply Box.drew | with_reducible apply Box.alloc | with_reducible refine Box.set_ ?_ _ _ | (with_reducible refine Box.far ?_ ?_ _; rotate_left; (simp only [ne_eq]; omega)) | (with_reducible refine Box.ext ?_ (by with_reducible assumption)) | (refine Box.new_at _ _ _ ?_; simp only [wsz]; done))) : Box w b T vs := h
theorem pt : (∀ (a : Act) (d : Tmp) (v : Value), a.put (some d) v = { a with tmps := a.tmps.setIfInBounds d v }) ∧ (∀ (a : Act) (v : Value), a.put none v = a) ∧ (∀ (l : List Value) (i : Nat) (v : Value), l.toArray.setIfInBounds i v = (l.set i v).toArray) ∧ (∀ (x : Value) (l : List Value) (v : Value), (x :: l).set 0 v = v :: l) ∧ ∀ (x : Value) (l : List Value) (n : Nat) (v : Value), (x :: l).set (n + 1) v = x :: l.set n v :=
 ⟨fun _ _ _ => rfl, fun _ _ => rfl, fun _ _ _ => List.setIfInBounds_toArray .., fun _ _ _ => rfl, fun _ _ _ _ => rfl⟩

theorem tk2 {p : Prop} (h : p := by intro w' hx'; have hc' := hx'.cells.1; (try simp only [wcd] at hc'); go_simp; (first | done | with_reducible rfl)) : p := h
end Go.Proofs.YtpkfjbljhneenaaGreat
