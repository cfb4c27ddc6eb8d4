/- A cell of a row of the call's own is written; where the row lies. No conditions. -/
import Derived.Test.YtbblgjjomgipfaaGreatSpare
namespace Go.Proofs.YtbblgjjomgipfaaGreat
open Go.RowKit

section
variable {α : Type} {sz : Nat} {E : World → (Nat → Prop) → List Value → α → Prop}
theorem Fl.setr {w : World} {X : Nat → Prop} {xs : List Value} {l : List α} (h : Fl sz E w X xs l) {k r : Nat} (hk : k < l.length) (hr : r < sz) {u : Value} {a' : α} (hE : E w X (((xs.drop (k * sz)).take sz).set r u) a') :
    Fl sz E w X (xs.set (k * sz + r) u) (l.set k a') := by
  refine ⟨by simp [h.1], fun i hi => ?_⟩
  rw [List.length_set] at hi
  have hsl : ((xs.set (k * sz + r) u).drop (i * sz)).take sz = if i = k then ((xs.drop (k * sz)).take sz).set r u else (xs.drop (i * sz)).take sz := by
    rw [List.drop_set]
    by_cases e : i = k
    · subst e
      rw [if_neg (by omega), if_pos rfl, show i * sz + r - i * sz = r from by omega, List.take_set]
    · rw [if_neg e]
      rcases Nat.lt_or_gt_of_ne e with hlt | hgt
      · have : i * sz + sz ≤ k * sz := by rw [← Nat.succ_mul]; exact Nat.mul_le_mul_right _ hlt
        rw [if_neg (by omega), List.take_set, List.set_eq_of_length_le]
        rw [List.length_take]
        omega
      · have : k * sz + sz ≤ i * sz := by rw [← Nat.succ_mul]; exact Nat.mul_le_mul_right _ hgt
        rw [if_pos (by omega)]
  rw [hsl]
  by_cases e : i = k
  · subst e
    rw [if_pos rfl]
    simpa using hE
  · rw [if_neg e, List.getElem_set_ne (by omega)]
    exact h.2 i hi
theorem Own.put [Stab E] {w : World} {Zp : Nat → Prop} {base g n c : Nat} {e : TypeId} {l : List α} (h : Own sz E w Zp base e (.slice (some ⟨g, 0, none⟩) n c) l) {k r : Nat} (hk : k < l.length) (hr : r < sz) {u : Value} {a' : α}
    (hE : ∀ cs, E w (fun b => Zp b ∧ b ≠ g) cs l[k] → cs.length = sz → E w (fun b => Zp b ∧ b ≠ g) (cs.set r u) a') :
    Own sz E (w.setCell ⟨g, k * sz + r, none⟩ u) Zp base e (.slice (some ⟨g, 0, none⟩) n c) (l.set k a') := by
  obtain ⟨xs, h1, h2⟩ := h
  have hn : n = l.length := by
    rcases h1.2 with ⟨hv, _⟩ | ⟨g', cap', cur, hv, _⟩
    · cases hv
    · injection hv
  subst hn
  have hX : (fun b => Zp b ∧ Value.ownBlock (.slice (some ⟨g, 0, none⟩) l.length c) ≠ some b) = fun b => Zp b ∧ b ≠ g := by
    funext b
    apply propext
    constructor
    · rintro ⟨h3, h4⟩; exact ⟨h3, fun e => h4 (by rw [e]; rfl)⟩
    · rintro ⟨h3, h4⟩; exact ⟨h3, fun e => h4 (by injection e with e; exact e.symm)⟩
  refine ⟨xs.set (k * sz + r) u, ?_, ?_⟩
  · rw [List.length_set]
    exact (h1.stored (k * sz + r) u).1
  · have hle : k * sz + sz ≤ xs.length := by rw [h2.1, ← Nat.succ_mul]; exact Nat.mul_le_mul_right _ hk
    have h3 := h2.2 k hk
    rw [hX] at h2 h3 ⊢
    have h4 : Fl sz E w (fun b => Zp b ∧ b ≠ g) (xs.set (k * sz + r) u) (l.set k a') := h2.setr hk hr (hE _ h3 (by rw [List.length_take, List.length_drop]; omega))
    exact h4.keep ((Kp.refl w).setCell (fun h => h.2 rfl) u)
end

theorem Own.adr {α : Type} {sz : Nat} {E : World → (Nat → Prop) → List Value → α → Prop} {w : World} {Zp : Nat → Prop} {base g o n c : Nat} {e : TypeId} {l : List α} (h : Own sz E w Zp base e (.slice (some ⟨g, o, none⟩) n c) l) :
    o = 0 ∧ n = l.length ∧ base ≤ g ∧ g < w.heap.size := by
  obtain ⟨xs, h1, _⟩ := h
  rcases h1.2 with ⟨hv, _⟩ | ⟨g', cap', cur, hv, hb, hg, _⟩
  · cases hv
  · injection hv with e1 e2 e3
    injection e1 with e1
    injection e1 with e1 e4
    subst e1
    exact ⟨e4, e2, hb, lt_of_some hg⟩
theorem Own.frz {α : Type} {sz : Nat} {E : World → (Nat → Prop) → List Value → α → Prop} {w : World} {Zp : Nat → Prop} {base g n c : Nat} {e : TypeId} {l : List α} (h : Own sz E w Zp base e (.slice (some ⟨g, 0, none⟩) n c) l) (o : Nat) :
    w.frozen? ⟨g, o, none⟩ = false := by
  have hn := h.adr.2.1
  subst hn
  obtain ⟨xs, h1, _⟩ := h
  exact h1.frozenAt o
theorem Own.spare {α : Type} {sz : Nat} {E : World → (Nat → Prop) → List Value → α → Prop} [Stab E] {w : World} {Zp : Nat → Prop} {base g n c j : Nat} {e : TypeId} {l : List α} (h : Own sz E w Zp base e (.slice (some ⟨g, 0, none⟩) n c) l) (hj : n * sz ≤ j) (u : Value) :
    Own sz E (w.setCell ⟨g, j, none⟩ u) Zp base e (.slice (some ⟨g, 0, none⟩) n c) l := by
  have hn := h.adr.2.1
  subst hn
  obtain ⟨xs, h1, h2⟩ := h
  have h3 := (h1.stored j u).1
  rw [List.set_eq_of_length_le (by rw [h2.1]; exact hj)] at h3
  exact ⟨xs, h3, h2.keep ((Kp.refl w).setCell (fun h => h.2 rfl) u)⟩
theorem Own.there {α : Type} {sz : Nat} {E : World → (Nat → Prop) → List Value → α → Prop} {w : World} {Zp : Nat → Prop} {base g n c j : Nat} {e : TypeId} {l : List α} (h : Own sz E w Zp base e (.slice (some ⟨g, 0, none⟩) n c) l) (hj : j < c * sz) :
    ∃ u, w.cell? ⟨g, j, none⟩ = some u := by
  have hn := h.adr.2.1
  subst hn
  obtain ⟨xs, h1, _⟩ := h
  rcases h1.2 with ⟨hv, _⟩ | ⟨g', cap', cur, hv, hb, hg, hnc, hcm, hcs, htake⟩
  · cases hv
  · injection hv with e1 e2 e3
    injection e1 with e1
    injection e1 with e1
    subst e1; subst e3
    rw [cell_of_row w g j cur _ (0, 0) hg]
    exact ⟨cur[j]'(by omega), Array.getElem?_eq_getElem _⟩

end Go.Proofs.YtbblgjjomgipfaaGreat
