/- A region that draws its order, walked in a tree of orders, each step of which leaves what was there at the region's begin as it was. No conditions. -/
import Derived.Test.YtbblgjjomgipfaaReg
namespace Go.Proofs.Ytbblgjjomgipfaa
open Go.RowKit

section
variable {P : Program} {ops : Array Oper} {Q : Exit → Act → World → Prop} {md : Region.Mode}
/-- Orders. -/
inductive Od where
  | done : Od
  | quiet : Nat → Od → Od
  | loud : Nat → Od → Od
  | two : Nat → Nat → Od → Od → Od
def Od.size : Od → Nat
  | .done => 0
  | .quiet _ r => r.size + 1
  | .loud _ r => r.size + 1
  | .two _ _ r _ => r.size + 1
def OdW (P : Program) (ops : Array Oper) (Q : Exit → Act → World → Prop) (w0 : World) : Od → Act → World → Prop
  | .done, a, w => Q .normal a w
  | .quiet i r, a, w => ∃ o v, ops[i]? = some o ∧ YieldsIf P ops (Ext w0) o v a ∧ OdW P ops Q w0 r (a.put o.dst v) w
  | .loud i r, a, w => wpOp P ops Q i (fun a' w' => Ext w0 w' ∧ OdW P ops Q w0 r a' w') a w
  | .two i j ri rj, a, w => wpOp P ops Q i (fun a' w' => Ext w0 w' ∧ OdW P ops Q w0 ri a' w') a w ∧ wpOp P ops Q j (fun a' w' => Ext w0 w' ∧ OdW P ops Q w0 rj a' w') a w
def odOk (md : Region.Mode) (ops : Array Oper) : Od → Array Bool → Bool
  | .done, listed => (Region.ready md ops listed).isEmpty
  | .quiet i r, listed => Region.free md ops listed i && (Region.ready md ops listed).contains i && odOk md ops r (listed.setIfInBounds i true)
  | .loud i r, listed => (Region.ready md ops listed == [i]) && odOk md ops r (listed.setIfInBounds i true)
  | .two i j ri rj, listed => (Region.ready md ops listed == [i, j]) && (ri.size == rj.size) && odOk md ops ri (listed.setIfInBounds i true) && odOk md ops rj (listed.setIfInBounds j true)

theorem od_sound {w0 : World} (hs : Region.noSelect ops = true) (hQ : ∀ c a d v w, Q (.panic c) (Act.put a d v) w → Q (.panic c) a w) :
    ∀ (l : Od) (listed : Array Bool) (a : Act) (w : World), Ext w0 w → odOk md ops l listed = true → OdW P ops Q w0 l a w → wpAnyG P md ops Q ops.size (Ext w0) l.size listed a w
  | .done, listed, a, w, _, hok, h => ⟨by simpa [odOk] using hok, h⟩
  | .quiet i r, listed, a, w, hS, hok, h => by
    simp only [odOk, Bool.and_eq_true] at hok
    obtain ⟨o, v, ho, hy, h⟩ := h
    have h1 := od_sound hs hQ r (listed.setIfInBounds i true) (a.put o.dst v) w hS hok.2 h
    exact wpAnyG_first (L := ops.size) (by simp [waitsAll]) ho (Region.noSelect_spec hs) hQ r.size listed a w (Region.free_spec ho hok.1.1) (by simpa using hok.1.2) hy hS h1
  | .loud i r, listed, a, w, hS, hok, h => by
    simp only [odOk, Bool.and_eq_true, beq_iff_eq] at hok
    refine ⟨fun h0 => (by rw [hok.1] at h0; cases h0), fun j hj => ?_⟩
    rw [hok.1] at hj
    have e : j = i := by simpa using hj
    subst e
    exact wpOp_mono (fun a' w' h' => ⟨.inr h'.1, od_sound hs hQ r _ a' w' h'.1 hok.2 h'.2⟩) h
  | .two i j ri rj, listed, a, w, hS, hok, h => by
    simp only [odOk, Bool.and_eq_true, beq_iff_eq] at hok
    obtain ⟨⟨⟨hr, hsz⟩, hi⟩, hj⟩ := hok
    refine ⟨fun h0 => (by rw [hr] at h0; cases h0), fun k hk => ?_⟩
    rw [hr] at hk
    rcases (by simpa using hk : k = i ∨ k = j) with rfl | rfl
    · exact wpOp_mono (fun a' w' h' => ⟨.inr h'.1, od_sound hs hQ ri _ a' w' h'.1 hi h'.2⟩) h.1
    · refine wpOp_mono (fun a' w' h' => ⟨.inr h'.1, ?_⟩) h.2
      show wpAnyG P md ops Q ops.size (Ext w0) ri.size _ a' w'
      rw [hsz]
      exact od_sound hs hQ rj _ a' w' h'.1 hj h'.2

theorem wp_region_od {id : Nat} {a : Act} {w : World} (l : Od) (hm : P.follows .mixedOrders = true)
    (hok : (odOk .any ops l (Array.replicate ops.size false) && (l.size == ops.size) && Region.noSelect ops) = true)
    (hQ : ∀ c a d v w, Q (.panic c) (Act.put a d v) w → Q (.panic c) a w) (h : OdW P ops Q w.drew l a w.drew) : (Code.region id ops true).wp P Q a w := by
  simp only [Bool.and_eq_true, beq_iff_eq] at hok
  refine wp_region_any hm (wpAny_of_G (L := ops.size) (S := Ext w.drew) _ _ _ _ ?_)
  rw [← hok.1.2]
  have := od_sound (md := .any) hok.2 hQ l (Array.replicate ops.size false) a w.drew (Ext.refl _) hok.1.1 h
  rw [← hok.1.2] at this
  exact this

variable {w0 : World}
theorem od_take {i : Nat} {r : Od} {a : Act} {w : World} {o : Oper} {v : Value} (ho : opAt ops.toList i = some o) (hg : o.guard = none)
    (hv : ∀ w', Ext w0 w' → (execOp a.eval o).run P w' = .ok (.value v) w') (h : OdW P ops Q w0 r (a.put o.dst v) w) : OdW P ops Q w0 (.quiet i r) a w :=
  ⟨o, v, opAt_ops ho, .inl ⟨by simp [Region.wanted, hg], hv⟩, h⟩
theorem od_loud {i : Nat} {r : Od} {a : Act} {w : World} {o : Oper} (ho : opAt ops.toList i = some o) (hg : o.guard = none)
    (h : ∀ K : Act → World → Prop, (∀ a' w', Ext w0 w' → OdW P ops Q w0 r a' w' → K a' w') → o.wp P a w K Q) : OdW P ops Q w0 (.loud i r) a w := by
  unfold OdW wpOp
  simp only [opAt_ops ho, Region.wanted, hg, if_true]
  exact .inl (h _ fun a' w' hx hs => ⟨hx, hs⟩)
theorem od_two {i j : Nat} {ri rj : Od} {a : Act} {w : World} {o o' : Oper} (ho : opAt ops.toList i = some o) (hg : o.guard = none) (ho' : opAt ops.toList j = some o') (hg' : o'.guard = none)
    (h : ∀ K : Act → World → Prop, (∀ a' w', Ext w0 w' → OdW P ops Q w0 ri a' w' → K a' w') → o.wp P a w K Q)
    (h' : ∀ K : Act → World → Prop, (∀ a' w', Ext w0 w' → OdW P ops Q w0 rj a' w' → K a' w') → o'.wp P a w K Q) : OdW P ops Q w0 (.two i j ri rj) a w := by
  unfold OdW wpOp
  simp only [opAt_ops ho, opAt_ops ho', Region.wanted, hg, hg', if_true]
  exact ⟨.inl (h _ fun a' w' hx hs => ⟨hx, hs⟩), .inl (h' _ fun a' w' hx hs => ⟨hx, hs⟩)⟩
theorem od_done {a : Act} {w : World} (h : Q .normal a w) : OdW P ops Q w0 .done a w := h
end

end Go.Proofs.Ytbblgjjomgipfaa
