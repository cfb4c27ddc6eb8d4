/- A region that draws its order, walked in a tree of orders: each step leaves what was there at the region's begin as it was, but for the last ones, which wait for all others. No conditions. -/
import Derived.Test.YtbblgjjomgipfaaGreatLate
namespace Go.Proofs.YtbblgjjomgipfaaGreat
open Go.RowKit

section
variable {P : Program} {ops : Array Oper} {Q : Exit → Act → World → Prop} {md : Region.Mode} {late : Nat → Bool}
/-- Orders. -/
inductive Oe where
  | late : List Nat → Oe
  | quiet : Nat → Oe → Oe
  | loud : Nat → Oe → Oe
  | two : Nat → Nat → Oe → Oe → Oe
def Oe.size : Oe → Nat
  | .late ls => ls.length
  | .quiet _ r => r.size + 1
  | .loud _ r => r.size + 1
  | .two _ _ r _ => r.size + 1
def OeW (P : Program) (ops : Array Oper) (Q : Exit → Act → World → Prop) (w0 : World) : Oe → Act → World → Prop
  | .late ls, a, w => LateW P ops Q ls a w
  | .quiet i r, a, w => ∃ o v, ops[i]? = some o ∧ YieldsIf P ops (Ext w0) o v a ∧ OeW P ops Q w0 r (a.put o.dst v) w
  | .loud i r, a, w => wpOp P ops Q i (fun a' w' => Ext w0 w' ∧ OeW P ops Q w0 r a' w') a w
  | .two i j ri rj, a, w => wpOp P ops Q i (fun a' w' => Ext w0 w' ∧ OeW P ops Q w0 ri a' w') a w ∧ wpOp P ops Q j (fun a' w' => Ext w0 w' ∧ OeW P ops Q w0 rj a' w') a w
def oeOk (md : Region.Mode) (ops : Array Oper) (late : Nat → Bool) : Oe → Array Bool → Bool
  | .late ls, listed => lateOk md ops late ls listed
  | .quiet i r, listed => !late i && Region.free md ops listed i && (Region.ready md ops listed).contains i && oeOk md ops late r (listed.setIfInBounds i true)
  | .loud i r, listed => (Region.ready md ops listed == [i]) && oeOk md ops late r (listed.setIfInBounds i true)
  | .two i j ri rj, listed => (Region.ready md ops listed == [i, j]) && (ri.size == rj.size) && oeOk md ops late ri (listed.setIfInBounds i true) && oeOk md ops late rj (listed.setIfInBounds j true)

theorem oe_sound {w0 : World} (hL : waitsAll3 md ops late = true) (hs : Region.noSelect ops = true) (hQ : ∀ c a d v w, Q (.panic c) (Act.put a d v) w → Q (.panic c) a w) :
    ∀ (l : Oe) (listed : Array Bool) (a : Act) (w : World), Cls md ops listed → Ext w0 w → oeOk md ops late l listed = true → OeW P ops Q w0 l a w → wpAnyH P md ops Q late (Ext w0) l.size listed a w
  | .late ls, listed, a, w, _, _, hok, h => late_sound ls listed a w hok h
  | .quiet i r, listed, a, w, hC, hS, hok, h => by
    simp only [oeOk, Bool.and_eq_true, Bool.not_eq_true'] at hok
    obtain ⟨⟨⟨hil, hfr⟩, hrd⟩, hok⟩ := hok
    obtain ⟨o, v, ho, hy, h⟩ := h
    have hi : i ∈ Region.ready md ops listed := by simpa using hrd
    have h1 := oe_sound hL hs hQ r (listed.setIfInBounds i true) (a.put o.dst v) w (hC.set hi) hS hok h
    exact wpAnyH_first hL hil ho (Region.noSelect_spec hs) hQ r.size listed a w hC (Region.free_spec ho hfr) hi hy hS h1
  | .loud i r, listed, a, w, hC, hS, hok, h => by
    simp only [oeOk, Bool.and_eq_true, beq_iff_eq] at hok
    refine ⟨fun h0 => (by rw [hok.1] at h0; cases h0), fun j hj => ?_⟩
    have hj0 := hj
    rw [hok.1] at hj
    have e : j = i := by simpa using hj
    subst e
    exact wpOp_mono (fun a' w' h' => ⟨.inr h'.1, oe_sound hL hs hQ r _ a' w' (hC.set hj0) h'.1 hok.2 h'.2⟩) h
  | .two i j ri rj, listed, a, w, hC, hS, hok, h => by
    simp only [oeOk, Bool.and_eq_true, beq_iff_eq] at hok
    obtain ⟨⟨⟨hr, hsz⟩, hi⟩, hj⟩ := hok
    refine ⟨fun h0 => (by rw [hr] at h0; cases h0), fun k hk => ?_⟩
    have hk0 := hk
    rw [hr] at hk
    rcases (by simpa using hk : k = i ∨ k = j) with rfl | rfl
    · exact wpOp_mono (fun a' w' h' => ⟨.inr h'.1, oe_sound hL hs hQ ri _ a' w' (hC.set hk0) h'.1 hi h'.2⟩) h.1
    · refine wpOp_mono (fun a' w' h' => ⟨.inr h'.1, ?_⟩) h.2
      show wpAnyH P md ops Q late (Ext w0) ri.size _ a' w'
      rw [hsz]
      exact oe_sound hL hs hQ rj _ a' w' (hC.set hk0) h'.1 hj h'.2

theorem wp_region_oe {id : Nat} {a : Act} {w : World} (ls : List Nat) (l : Oe) (hm : P.follows .mixedOrders = true)
    (hok : (oeOk .any ops (fun i => ls.contains i) l (Array.replicate ops.size false) && (l.size == ops.size) && waitsAll3 .any ops (fun i => ls.contains i) && Region.noSelect ops) = true)
    (hQ : ∀ c a d v w, Q (.panic c) (Act.put a d v) w → Q (.panic c) a w) (h : OeW P ops Q w.drew l a w.drew) : (Code.region id ops true).wp P Q a w := by
  simp only [Bool.and_eq_true, beq_iff_eq] at hok
  refine wp_region_any hm (wpAny_of_H (late := fun i => ls.contains i) (S := Ext w.drew) _ _ _ _ ?_)
  rw [← hok.1.1.2]
  have := oe_sound (md := .any) hok.1.2 hok.2 hQ l (Array.replicate ops.size false) a w.drew Cls.init (Ext.refl _) hok.1.1.1 h
  rw [← hok.1.1.2] at this
  exact this

variable {w0 : World}
theorem oe_take {i : Nat} {r : Oe} {a : Act} {w : World} {o : Oper} {v : Value} (ho : opAt ops.toList i = some o) (hg : o.guard = none)
    (hv : ∀ w', Ext w0 w' → (execOp a.eval o).run P w' = .ok (.value v) w') (h : OeW P ops Q w0 r (a.put o.dst v) w) : OeW P ops Q w0 (.quiet i r) a w :=
  ⟨o, v, opAt_ops ho, .inl ⟨by simp [Region.wanted, hg], hv⟩, h⟩
theorem oe_loud {i : Nat} {r : Oe} {a : Act} {w : World} {o : Oper} (ho : opAt ops.toList i = some o) (hg : o.guard = none)
    (h : ∀ K : Act → World → Prop, (∀ a' w', Ext w0 w' → OeW P ops Q w0 r a' w' → K a' w') → o.wp P a w K Q) : OeW P ops Q w0 (.loud i r) a w := by
  unfold OeW wpOp
  simp only [opAt_ops ho, Region.wanted, hg, if_true]
  exact .inl (h _ fun a' w' hx hs => ⟨hx, hs⟩)
theorem oe_two {i j : Nat} {ri rj : Oe} {a : Act} {w : World} {o o' : Oper} (ho : opAt ops.toList i = some o) (hg : o.guard = none) (ho' : opAt ops.toList j = some o') (hg' : o'.guard = none)
    (h : ∀ K : Act → World → Prop, (∀ a' w', Ext w0 w' → OeW P ops Q w0 ri a' w' → K a' w') → o.wp P a w K Q)
    (h' : ∀ K : Act → World → Prop, (∀ a' w', Ext w0 w' → OeW P ops Q w0 rj a' w' → K a' w') → o'.wp P a w K Q) : OeW P ops Q w0 (.two i j ri rj) a w := by
  unfold OeW wpOp
  simp only [opAt_ops ho, opAt_ops ho', Region.wanted, hg, hg', if_true]
  exact ⟨.inl (h _ fun a' w' hx hs => ⟨hx, hs⟩), .inl (h' _ fun a' w' hx hs => ⟨hx, hs⟩)⟩
theorem oe_late {ls : List Nat} {a : Act} {w : World} (h : LateW P ops Q ls a w) : OeW P ops Q w0 (.late ls) a w := h
end

end Go.Proofs.YtbblgjjomgipfaaGreat
