/- A row of the call's own is cut, and its rest cleared. No conditions. -/
import Derived.Test.YthmjgbkakjpfkaaGreatDoorGLooksAg
import Derived.Shelf.Abstract
namespace Go.Proofs.YthmjgbkakjpfkaaGreatDoor
open Go.RowKit Go.Shelf

theorem nth_of_slice {xs : List Value} {j : Nat} {l : List Value} (h : (xs.drop j).take l.length = l) (r : Nat) (hr : r < l.length) : xs[j + r]? = some l[r] := by
  have h1 : ((xs.drop j).take l.length)[r]? = l[r]? := by rw [h]
  rw [List.getElem?_take_of_lt hr, List.getElem?_drop, List.getElem?_eq_getElem hr] at h1
  exact h1

section
variable {α : Type} {sz : Nat} {E : World → (Nat → Prop) → List Value → α → Prop}
theorem Fl.take {w : World} {X : Nat → Prop} {xs : List Value} {l : List α} (h : Fl sz E w X xs l) (k : Nat) : Fl sz E w X (xs.take (k * sz)) (l.take k) := by
  refine ⟨?_, fun i hi => ?_⟩
  · rw [List.length_take, List.length_take, h.1]
    rcases Nat.le_total k l.length with hk | hk
    · rw [Nat.min_eq_left hk, Nat.min_eq_left (Nat.mul_le_mul_right _ hk)]
    · rw [Nat.min_eq_right hk, Nat.min_eq_right (Nat.mul_le_mul_right _ hk)]
  · rw [List.length_take] at hi
    have h1 := h.2 i (by omega)
    have h2 : i * sz + sz ≤ k * sz := by rw [← Nat.succ_mul]; exact Nat.mul_le_mul_right _ (by omega)
    rw [List.getElem_take, List.drop_take, List.take_take, Nat.min_eq_left (by omega)]
    exact h1
theorem Fl.drop {w : World} {X : Nat → Prop} {xs : List Value} {l : List α} (h : Fl sz E w X xs l) (k : Nat) : Fl sz E w X (xs.drop (k * sz)) (l.drop k) := by
  refine ⟨by rw [List.length_drop, List.length_drop, h.1, Nat.sub_mul], fun i hi => ?_⟩
  rw [List.length_drop] at hi
  have h1 := h.2 (k + i) (by omega)
  rw [List.getElem_drop, List.drop_drop, ← Nat.add_mul]
  exact h1
end

section
variable {α : Type} {sz : Nat} {E : World → (Nat → Prop) → List Value → α → Prop}
end

theorem Own.lower {α : Type} {sz : Nat} {E : World → (Nat → Prop) → List Value → α → Prop} {w : World} {Z : Nat → Prop} {base b2 : Nat} {e : TypeId} {v : Value} {l : List α} (h : Own sz E w Z base e v l) (hb : b2 ≤ base) : Own sz E w Z b2 e v l := by
  obtain ⟨xs, ⟨h1, h2⟩, h3⟩ := h
  refine ⟨xs, ⟨h1, ?_⟩, h3⟩
  rcases h2 with h2 | ⟨g, cap, cur, e1, e2, r⟩
  · exact .inl h2
  · exact .inr ⟨g, cap, cur, e1, Nat.le_trans hb e2, r⟩
theorem grown_then {a b c : World} {row : Option Nat} (h : a.grownBy b row) (k : Ext b c) : a.grownBy c row :=
  ⟨k.os.trans h.os, k.tape.trans h.tape, k.output.trans h.output, Nat.le_trans h.size k.size, fun i hi hn => (k.block i (Nat.lt_of_lt_of_le hi h.size)).trans (h.block i hi hn)⟩
theorem ext_then {a b c : World} {row : Option Nat} (h : Ext a b) (k : b.grownBy c row) : a.grownBy c row :=
  ⟨k.os.trans h.os, k.tape.trans h.tape, k.output.trans h.output, Nat.le_trans h.size k.size, fun i hi hn => (k.block i (Nat.lt_of_lt_of_le hi h.size) hn).trans (h.block i hi)⟩
end Go.Proofs.YthmjgbkakjpfkaaGreatDoor
