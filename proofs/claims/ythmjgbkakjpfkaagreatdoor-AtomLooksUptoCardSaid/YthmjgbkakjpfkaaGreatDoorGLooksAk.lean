/- A region that draws its order, the last operations of which (stores) wait for all others. No conditions. A region that draws its order, walked in a tree of orders: each step leaves what was there at the region's begin as it was, but for the last ones, which wait for all others. No conditions. Contracts of package term. No conditions. -/
import Derived.Test.YthmjgbkakjpfkaaGreatDoorGLooksAd
namespace Go.Proofs.YthmjgbkakjpfkaaGreatDoor
open Go.RowKit

section
variable {P : Program} {ops : Array Oper} {Q : Exit → Act → World → Prop} {md : Region.Mode} {late : Nat → Bool}
def reach (md : Region.Mode) (ops : Array Oper) : Nat → Nat → Nat → Bool
  | 0, m, k => direct md ops m k
  | f + 1, m, k => direct md ops m k || (List.range ops.size).any fun j => direct md ops m j && reach md ops f j k
theorem reach_listed {listed : Array Bool} (hC : Cls md ops listed) : ∀ (f m k : Nat), listed.getD m false = true → reach md ops f m k = true → listed.getD k false = true
  | 0, m, k, hm, h => hC m k hm h
  | f + 1, m, k, hm, h => by
    simp only [reach, Bool.or_eq_true, List.any_eq_true, Bool.and_eq_true] at h
    rcases h with h | ⟨j, _, h1, h2⟩
    · exact hC m k hm h
    · exact reach_listed hC f j k (hC m j hm h1) h2
theorem reach_ready {listed : Array Bool} (hC : Cls md ops listed) : ∀ (f m k : Nat), m ∈ Region.ready md ops listed → reach md ops f m k = true → listed.getD k false = true
  | 0, m, k, hm, h => direct_spec h hm
  | f + 1, m, k, hm, h => by
    simp only [reach, Bool.or_eq_true, List.any_eq_true, Bool.and_eq_true] at h
    rcases h with h | ⟨j, _, h1, h2⟩
    · exact direct_spec h hm
    · exact reach_listed hC f j k (direct_spec h1 hm) h2
def waitsAll3 (md : Region.Mode) (ops : Array Oper) (late : Nat → Bool) : Bool :=
  (List.range ops.size).all fun L => !late L || (List.range ops.size).all fun k => late k || reach md ops 6 L k
theorem waitsAll3_spec (h : waitsAll3 md ops late = true) {listed : Array Bool} (hC : Cls md ops listed) {L : Nat} (hL : late L = true) (hr : L ∈ Region.ready md ops listed) {k : Nat} (hk : k < ops.size) (hne : late k = false) : listed.getD k false = true := by
  obtain ⟨_, o, ho, hall⟩ := mem_ready.1 hr
  have hl : L < ops.size := (Array.getElem?_eq_some_iff.1 ho).1
  simp only [waitsAll3, List.all_eq_true, List.mem_range, Bool.or_eq_true, Bool.not_eq_true'] at h
  rcases h L hl with h1 | h1
  · rw [hL] at h1; cases h1
  · rcases h1 k hk with h2 | h2
    · rw [hne] at h2; cases h2
    · exact reach_ready hC 6 L k hr h2
def wpAnyH (P : Program) (md : Region.Mode) (ops : Array Oper) (Q : Exit → Act → World → Prop) (late : Nat → Bool) (S : World → Prop) : Nat → Array Bool → Act → World → Prop
  | 0, listed, a, w => Region.ready md ops listed = [] ∧ Q .normal a w
  | f + 1, listed, a, w =>
    (Region.ready md ops listed = [] → Q .normal a w) ∧
    ∀ i ∈ Region.ready md ops listed, wpOp P ops Q i (fun a' w' => (late i = true ∨ S w') ∧ wpAnyH P md ops Q late S f (listed.setIfInBounds i true) a' w') a w
theorem wpAny_of_H {S : World → Prop} : ∀ (f : Nat) (listed : Array Bool) (a : Act) (w : World), wpAnyH P md ops Q late S f listed a w → wpAny P md ops Q f listed a w
  | 0, _, _, _, h => h
  | _ + 1, _, _, _, h => ⟨h.1, fun i hi => wpOp_mono (fun a' w' h' => wpAny_of_H _ _ a' w' h'.2) (h.2 i hi)⟩
theorem wpAnyH_mono {S S' : World → Prop} (hS : ∀ w, S' w → S w) : ∀ (f : Nat) (listed : Array Bool) (a : Act) (w : World), wpAnyH P md ops Q late S' f listed a w → wpAnyH P md ops Q late S f listed a w
  | 0, _, _, _, h => h
  | _ + 1, _, _, _, h => ⟨h.1, fun i hi => wpOp_mono (fun a' w' h' => ⟨h'.1.imp id (hS w'), wpAnyH_mono hS _ _ a' w' h'.2⟩) (h.2 i hi)⟩

theorem wpAnyH_first {S : World → Prop} (hL : waitsAll3 md ops late = true)  {i : Nat} {oi : Oper} {v : Value} (hil : late i = false) (hi : ops[i]? = some oi) (hsel : ∀ (j : Nat) (o : Oper) cs b, ops[j]? = some o → o.op ≠ .select cs b)
    (hQ : ∀ c a d v w, Q (.panic c) (Act.put a d v) w → Q (.panic c) a w) :
    ∀ (f : Nat) (listed : Array Bool) (a : Act) (w : World), Cls md ops listed →
      (∀ j oj, ops[j]? = some oj → j ≠ i → listed.getD j true = false → (∀ e ∈ oj.after, Region.binds md e = true → e.on ≠ i) → oi.apart ops oj = true) →
      i ∈ Region.ready md ops listed → YieldsIf P ops S oi v a → S w →
      wpAnyH P md ops Q late S f (listed.setIfInBounds i true) (a.put oi.dst v) w → wpAnyH P md ops Q late S (f + 1) listed a w := by
  intro f
  induction f with
  | zero =>
    intro listed a w _ _ hr hy hS H
    refine ⟨fun h => (by rw [h] at hr; cases hr), fun j hj => ?_⟩
    by_cases hji : j = i
    · subst hji; exact hy.wpOp hi hS ⟨.inr hS, H⟩
    · have h := ready_mono hj hji
      rw [H.1] at h
      cases h
  | succ f ih =>
    intro listed a w hC hfree hr hy hS H
    refine ⟨fun h => (by rw [h] at hr; cases hr), fun j hj => ?_⟩
    by_cases hji : j = i
    · subst hji; exact hy.wpOp hi hS ⟨.inr hS, H⟩
    · have h1 := H.2 j (ready_mono hj hji)
      obtain ⟨hjun, oj, hoj, hall⟩ := mem_ready.1 hj
      have hlist : listed.getD i true = false := (mem_ready.1 hr).1
      have hnot : ∀ e ∈ oj.after, Region.binds md e = true → e.on ≠ i := by
        intro e he hb heq
        have h2 := hall e he hb
        rw [heq] at h2
        rcases Nat.lt_or_ge i listed.size with h' | h'
        · simp [h'] at hlist h2; rw [hlist] at h2; cases h2
        · simp [Array.getElem?_eq_none h'] at h2
      have h2 := wpOp_putIf hoj (hfree j oj hoj hji hjun hnot) (fun cs b => hsel i oi cs b hi) (fun cs b => hsel j oj cs b hoj) (fun c a w => hQ c a oi.dst v w) hy h1
      have hfree' : ∀ k ok, ops[k]? = some ok → k ≠ i → (listed.setIfInBounds j true).getD k true = false →
          (∀ e ∈ ok.after, Region.binds md e = true → e.on ≠ i) → oi.apart ops ok = true := by
        intro k ok hk hki hun hno
        refine hfree k ok hk hki ?_ hno
        by_cases hjk : j = k
        · subst hjk; exact hjun
        · rw [getD_set_ne true hjk] at hun; exact hun
      have hjL : ¬ late j = true := by
        intro e
        have h3 := waitsAll3_spec hL hC e hj (k := i) (Array.getElem?_eq_some_iff.1 hi).1 hil
        rcases Nat.lt_or_ge i listed.size with h' | h'
        · simp [h'] at hlist h3; rw [hlist] at h3; cases h3
        · simp [Array.getElem?_eq_none h'] at h3
      refine wpOp_mono (fun a' w' h3 => ⟨?_, ?_⟩) h2
      · exact .inr (h3.2.1.resolve_left hjL)
      · refine ih (listed.setIfInBounds j true) a' w' (hC.set hj) hfree' (ready_mono hr (Ne.symm hji)) h3.1 (h3.2.1.resolve_left hjL) ?_
        rw [Array.setIfInBounds_comm _ _ hji]
        exact h3.2.2


def LateW (P : Program) (ops : Array Oper) (Q : Exit → Act → World → Prop) : List Nat → Act → World → Prop
  | [], a, w => Q .normal a w
  | i :: r, a, w => wpOp P ops Q i (fun a' w' => LateW P ops Q r a' w') a w
def SeqH (P : Program) (ops : Array Oper) (Q : Exit → Act → World → Prop) (ls : List Nat) : List (Nat × Bool) → Act → World → Prop
  | [], a, w => LateW P ops Q ls a w
  | (i, true) :: r, a, w => ∃ o v, ops[i]? = some o ∧ YieldsIf P ops (Ext w) o v a ∧ SeqH P ops Q ls r (a.put o.dst v) w
  | (i, false) :: r, a, w => wpOp P ops Q i (fun a' w' => Ext w w' ∧ SeqH P ops Q ls r a' w') a w
def lateOk (md : Region.Mode) (ops : Array Oper) (late : Nat → Bool) : List Nat → Array Bool → Bool
  | [], listed => (Region.ready md ops listed).isEmpty
  | i :: r, listed => late i && (Region.ready md ops listed == [i]) && lateOk md ops late r (listed.setIfInBounds i true)
def seqHOk (md : Region.Mode) (ops : Array Oper) (late : Nat → Bool) (ls : List Nat) : List (Nat × Bool) → Array Bool → Bool
  | [], listed => lateOk md ops late ls listed
  | (i, true) :: r, listed => !late i && Region.free md ops listed i && (Region.ready md ops listed).contains i && seqHOk md ops late ls r (listed.setIfInBounds i true)
  | (i, false) :: r, listed => (Region.ready md ops listed == [i]) && seqHOk md ops late ls r (listed.setIfInBounds i true)
theorem late_sound {S : World → Prop} : ∀ (l : List Nat) (listed : Array Bool) (a : Act) (w : World), lateOk md ops late l listed = true → LateW P ops Q l a w → wpAnyH P md ops Q late S l.length listed a w
  | [], listed, a, w, hok, h => ⟨by simpa [lateOk] using hok, h⟩
  | i :: r, listed, a, w, hok, h => by
    simp only [lateOk, Bool.and_eq_true, beq_iff_eq] at hok
    refine ⟨fun h0 => (by rw [hok.1.2] at h0; cases h0), fun j hj => ?_⟩
    rw [hok.1.2] at hj
    have e : j = i := by simpa using hj
    subst e
    exact wpOp_mono (fun a' w' h' => ⟨.inl hok.1.1, late_sound r _ a' w' hok.2 h'⟩) h
theorem seqH_sound (hL : waitsAll3 md ops late = true) (hs : Region.noSelect ops = true) (hQ : ∀ c a d v w, Q (.panic c) (Act.put a d v) w → Q (.panic c) a w) {ls : List Nat} :
    ∀ (l : List (Nat × Bool)) (listed : Array Bool) (a : Act) (w : World) (S : World → Prop), Cls md ops listed → (∀ w', Ext w w' → S w') → seqHOk md ops late ls l listed = true → SeqH P ops Q ls l a w → wpAnyH P md ops Q late S (l.length + ls.length) listed a w
  | [], listed, a, w, S, _, _, hok, h => by
    simp only [List.length_nil, Nat.zero_add]
    exact late_sound ls listed a w hok h
  | (i, true) :: r, listed, a, w, S, hC, hS, hok, h => by
    simp only [seqHOk, Bool.and_eq_true, Bool.not_eq_true'] at hok
    obtain ⟨⟨⟨hil, hfr⟩, hrd⟩, hok⟩ := hok
    obtain ⟨o, v, ho, hy, h⟩ := h
    have hi : i ∈ Region.ready md ops listed := by simpa using hrd
    have h1 := seqH_sound hL hs hQ r (listed.setIfInBounds i true) (a.put o.dst v) w (Ext w) (hC.set hi) (fun _ hx => hx) hok h
    have h2 := wpAnyH_first hL hil ho (Region.noSelect_spec hs) hQ (r.length + ls.length) listed a w hC (Region.free_spec ho hfr) hi hy (Ext.refl w) h1
    have e : ((i, true) :: r).length + ls.length = r.length + ls.length + 1 := by simp; omega
    rw [e]
    exact wpAnyH_mono hS _ _ _ _ h2
  | (i, false) :: r, listed, a, w, S, hC, hS, hok, h => by
    simp only [seqHOk, Bool.and_eq_true, beq_iff_eq] at hok
    have e : ((i, false) :: r).length + ls.length = r.length + ls.length + 1 := by simp; omega
    rw [e]
    refine ⟨fun h0 => (by rw [hok.1] at h0; cases h0), fun j hj => ?_⟩
    have hj0 := hj
    rw [hok.1] at hj
    have e : j = i := by simpa using hj
    subst e
    exact wpOp_mono (fun a' w' h' => ⟨.inr (hS w' h'.1), seqH_sound hL hs hQ r _ a' w' S (hC.set hj0) (fun w2 hx => hS w2 (h'.1.trans hx)) hok.2 h'.2⟩) h

theorem wp_region_late {id : Nat} {a : Act} {w : World} (l : List (Nat × Bool)) (ls : List Nat) (hm : P.follows .mixedOrders = true)
    (hok : (seqHOk .any ops (fun i => ls.contains i) ls l (Array.replicate ops.size false) && (l.length + ls.length == ops.size) && waitsAll3 .any ops (fun i => ls.contains i) && Region.noSelect ops) = true)
    (hQ : ∀ c a d v w, Q (.panic c) (Act.put a d v) w → Q (.panic c) a w) (h : SeqH P ops Q ls l a w.drew) : (Code.region id ops true).wp P Q a w := by
  simp only [Bool.and_eq_true, beq_iff_eq] at hok
  refine wp_region_any hm (wpAny_of_H (late := fun i => ls.contains i) (S := Ext w.drew) _ _ _ _ ?_)
  rw [← hok.1.1.2]
  have := seqH_sound hok.1.2 hok.2 hQ l (Array.replicate ops.size false) a w.drew (Ext w.drew) Cls.init (fun _ h => h) hok.1.1.1 h
  rw [← hok.1.1.2] at this
  exact this

theorem sh_take {i : Nat} {ls : List Nat} {r : List (Nat × Bool)} {a : Act} {w : World} {o : Oper} {v : Value} (ho : opAt ops.toList i = some o) (hg : o.guard = none)
    (hv : ∀ w', Ext w w' → (execOp a.eval o).run P w' = .ok (.value v) w') (h : SeqH P ops Q ls r (a.put o.dst v) w) : SeqH P ops Q ls ((i, true) :: r) a w :=
  ⟨o, v, opAt_ops ho, .inl ⟨by simp [Region.wanted, hg], hv⟩, h⟩
theorem sh_loud {i : Nat} {ls : List Nat} {r : List (Nat × Bool)} {a : Act} {w : World} {o : Oper} (ho : opAt ops.toList i = some o) (hg : o.guard = none)
    (h : ∀ K : Act → World → Prop, (∀ a' w', Ext w w' → SeqH P ops Q ls r a' w' → K a' w') → o.wp P a w K Q) : SeqH P ops Q ls ((i, false) :: r) a w := by
  unfold SeqH wpOp
  simp only [opAt_ops ho, Region.wanted, hg, if_true]
  exact .inl (h _ fun a' w' hx hs => ⟨hx, hs⟩)
theorem sh_done {ls : List Nat} {a : Act} {w : World} (h : LateW P ops Q ls a w) : SeqH P ops Q ls [] a w := h
theorem sh_late {i : Nat} {r : List Nat} {a : Act} {w : World} {o : Oper} (ho : opAt ops.toList i = some o) (hg : o.guard = none)
    (h : ∀ K : Act → World → Prop, (∀ a' w', LateW P ops Q r a' w' → K a' w') → o.wp P a w K Q) : LateW P ops Q (i :: r) a w := by
  unfold LateW wpOp
  simp only [opAt_ops ho, Region.wanted, hg, if_true]
  exact .inl (h _ fun a' w' hs => hs)
theorem sh_end {a : Act} {w : World} (h : Q .normal a w) : LateW P ops Q [] a w := h
end

end Go.Proofs.YthmjgbkakjpfkaaGreatDoor

namespace Go.Proofs.YthmjgbkakjpfkaaGreatDoor
open Go.RowKit

section
variable {P : Program} {ops : Array Oper} {Q : Exit → Act → World → Prop} {md : Region.Mode} {late : Nat → Bool}
inductive Oe where
  | late : List Nat → Oe
  | quiet : Nat → Oe → Oe
  | loud : Nat → Oe → Oe
  | two : Nat → Nat → Oe → Oe → Oe
def Oe.size : Oe → Nat
  | .late ls => ls.length
  | .quiet _ r => r.size + 1
  | .loud _ r => r.size + 1
  | .two _ _ r _ => r.size + 1
def OeW (P : Program) (ops : Array Oper) (Q : Exit → Act → World → Prop) (w0 : World) : Oe → Act → World → Prop
  | .late ls, a, w => LateW P ops Q ls a w
  | .quiet i r, a, w => ∃ o v, ops[i]? = some o ∧ YieldsIf P ops (Ext w0) o v a ∧ OeW P ops Q w0 r (a.put o.dst v) w
  | .loud i r, a, w => wpOp P ops Q i (fun a' w' => Ext w0 w' ∧ OeW P ops Q w0 r a' w') a w
  | .two i j ri rj, a, w => wpOp P ops Q i (fun a' w' => Ext w0 w' ∧ OeW P ops Q w0 ri a' w') a w ∧ wpOp P ops Q j (fun a' w' => Ext w0 w' ∧ OeW P ops Q w0 rj a' w') a w
def oeOk (md : Region.Mode) (ops : Array Oper) (late : Nat → Bool) : Oe → Array Bool → Bool
  | .late ls, listed => lateOk md ops late ls listed
  | .quiet i r, listed => !late i && Region.free md ops listed i && (Region.ready md ops listed).contains i && oeOk md ops late r (listed.setIfInBounds i true)
  | .loud i r, listed => (Region.ready md ops listed == [i]) && oeOk md ops late r (listed.setIfInBounds i true)
  | .two i j ri rj, listed => (Region.ready md ops listed == [i, j]) && (ri.size == rj.size) && oeOk md ops late ri (listed.setIfInBounds i true) && oeOk md ops late rj (listed.setIfInBounds j true)

theorem oe_sound {w0 : World} (hL : waitsAll3 md ops late = true) (hs : Region.noSelect ops = true) (hQ : ∀ c a d v w, Q (.panic c) (Act.put a d v) w → Q (.panic c) a w) :
    ∀ (l : Oe) (listed : Array Bool) (a : Act) (w : World), Cls md ops listed → Ext w0 w → oeOk md ops late l listed = true → OeW P ops Q w0 l a w → wpAnyH P md ops Q late (Ext w0) l.size listed a w
  | .late ls, listed, a, w, _, _, hok, h => late_sound ls listed a w hok h
  | .quiet i r, listed, a, w, hC, hS, hok, h => by
    simp only [oeOk, Bool.and_eq_true, Bool.not_eq_true'] at hok
    obtain ⟨⟨⟨hil, hfr⟩, hrd⟩, hok⟩ := hok
    obtain ⟨o, v, ho, hy, h⟩ := h
    have hi : i ∈ Region.ready md ops listed := by simpa using hrd
    have h1 := oe_sound hL hs hQ r (listed.setIfInBounds i true) (a.put o.dst v) w (hC.set hi) hS hok h
    exact wpAnyH_first hL hil ho (Region.noSelect_spec hs) hQ r.size listed a w hC (Region.free_spec ho hfr) hi hy hS h1
  | .loud i r, listed, a, w, hC, hS, hok, h => by
    simp only [oeOk, Bool.and_eq_true, beq_iff_eq] at hok
    refine ⟨fun h0 => (by rw [hok.1] at h0; cases h0), fun j hj => ?_⟩
    have hj0 := hj
    rw [hok.1] at hj
    have e : j = i := by simpa using hj
    subst e
    exact wpOp_mono (fun a' w' h' => ⟨.inr h'.1, oe_sound hL hs hQ r _ a' w' (hC.set hj0) h'.1 hok.2 h'.2⟩) h
  | .two i j ri rj, listed, a, w, hC, hS, hok, h => by
    simp only [oeOk, Bool.and_eq_true, beq_iff_eq] at hok
    obtain ⟨⟨⟨hr, hsz⟩, hi⟩, hj⟩ := hok
    refine ⟨fun h0 => (by rw [hr] at h0; cases h0), fun k hk => ?_⟩
    have hk0 := hk
    rw [hr] at hk
    rcases (by simpa using hk : k = i ∨ k = j) with rfl | rfl
    · exact wpOp_mono (fun a' w' h' => ⟨.inr h'.1, oe_sound hL hs hQ ri _ a' w' (hC.set hk0) h'.1 hi h'.2⟩) h.1
    · refine wpOp_mono (fun a' w' h' => ⟨.inr h'.1, ?_⟩) h.2
      show wpAnyH P md ops Q late (Ext w0) ri.size _ a' w'
      rw [hsz]
      exact oe_sound hL hs hQ rj _ a' w' (hC.set hk0) h'.1 hj h'.2

theorem wp_region_oe {id : Nat} {a : Act} {w : World} (ls : List Nat) (l : Oe) (hm : P.follows .mixedOrders = true)
    (hok : (oeOk .any ops (fun i => ls.contains i) l (Array.replicate ops.size false) && (l.size == ops.size) && waitsAll3 .any ops (fun i => ls.contains i) && Region.noSelect ops) = true)
    (hQ : ∀ c a d v w, Q (.panic c) (Act.put a d v) w → Q (.panic c) a w) (h : OeW P ops Q w.drew l a w.drew) : (Code.region id ops true).wp P Q a w := by
  simp only [Bool.and_eq_true, beq_iff_eq] at hok
  refine wp_region_any hm (wpAny_of_H (late := fun i => ls.contains i) (S := Ext w.drew) _ _ _ _ ?_)
  rw [← hok.1.1.2]
  have := oe_sound (md := .any) hok.1.2 hok.2 hQ l (Array.replicate ops.size false) a w.drew Cls.init (Ext.refl _) hok.1.1.1 h
  rw [← hok.1.1.2] at this
  exact this

variable {w0 : World}
theorem oe_take {i : Nat} {r : Oe} {a : Act} {w : World} {o : Oper} {v : Value} (ho : opAt ops.toList i = some o) (hg : o.guard = none)
    (hv : ∀ w', Ext w0 w' → (execOp a.eval o).run P w' = .ok (.value v) w') (h : OeW P ops Q w0 r (a.put o.dst v) w) : OeW P ops Q w0 (.quiet i r) a w :=
  ⟨o, v, opAt_ops ho, .inl ⟨by simp [Region.wanted, hg], hv⟩, h⟩
theorem oe_late {ls : List Nat} {a : Act} {w : World} (h : LateW P ops Q ls a w) : OeW P ops Q w0 (.late ls) a w := h
end

end Go.Proofs.YthmjgbkakjpfkaaGreatDoor

namespace Go.Proofs.YthmjgbkakjpfkaaGreatDoor
open Go.RowKit

set_option maxHeartbeats 800000 in
theorem tvalid_c {v : Value} {t : T} {w : World} {X : Nat → Prop} (h : Tv w X v t) :
    Calls Tryz.prog 17 #[v] w fun e w' => e = .returned (.bool t.valid) ∧ Ext w w' := by
  obtain ⟨A, c, B, d, rfl, h1, h2⟩ := h
  have hm := h1.2.1; have hl := h1.1
  simp only [maxLen] at hm
  obtain ⟨v, hv⟩ : ∃ v, v = t.valid := ⟨_, rfl⟩
  rw [← hv]
  have Hv := Lib.hid hv; clear hv
  go_enter Tryz.func17, Tryz.ntmps17
  go_wp2_with fail
  refine wp_named fun W hW => ?_
  have hb0 : Box W w.heap.size 27 #[.slice A t.ps.length c, .bool t.k.neg, .slice B t.k.mag.length d] := by rw [hW]; exact bxt
  have hE : Ext w W := by rw [hW]; exact xt
  clear hW
  have hbl := hb0.lt
  go_loopw [8] (fun iv wr => ∃ k : Nat, k ≤ t.ps.length ∧ iv = .int .i64 k ∧ validF none t.ps = validF (prv t.ps k) (t.ps.drop k) ∧ Ext W wr) (fun iv _ => t.ps.length - (intOf iv).toNat)
  case atStart => exact ⟨0, Nat.zero_le _, rfl, rfl, xt⟩
  case round =>
    obtain ⟨k, hk, rfl, hz, hx⟩ := hrel
    have hs := hx.size
    have r0 := (hb0.ext hx).rules
    have r0l := (hb0.ext hx).lt
    by_cases hlt : k < t.ps.length
    · obtain ⟨b, o, B', d', rfl, hX, hc0, hc1, hc2, hi, hN⟩ := (h1.ext (hE.trans hx)).at_ hlt
      have hb := World.block_lt_of_cell? _ _ hc0
      have hd := drop_pth t.ps k hlt
      have Hd := Lib.hid hd; have Hz := Lib.hid hz; clear hd hz
      rcases hok : (pth t.ps k).2.ok with _ | _
      · go_wp2_with fail
        refine wp_region_seq 26 [(0, true), (1, true), (2, false), (3, true), (4, true), (5, true), (6, true), (7, false), (8, true), (9, true), (10, true), (11, true), (12, true), (13, true), (14, true), (15, true), (16, true), (17, true), (18, true), (19, true), (20, true), (21, true), (22, true), (23, true), (24, true), (25, true)] rfl (by kernel_rfl) (by intro _ _ d _ _ h; cases d <;> exact h) ?_
        (repeat (refine sq_take (v := ?_) rfl rfl ?_ ?_; rotate_left; (intro w' hx'; have hc' := hx'.cells.1; (try simp only [wcd] at hc'); go_simp; (first | done | with_reducible rfl)); (try simp only [pt])))
        (refine sq_loud rfl rfl fun K hK => ?_; go_simp)
        refine (zvalid_c (z := (pth t.ps k).2) ⟨_, _, rfl, hN.ext xt⟩).mono ?_
        rintro e w1 ⟨rfl, hx1⟩
        rw [hok]
        (refine hK _ _ xt ?_; clear hK K; (try simp only [pt]))
        (repeat (first | (refine sq_take (v := ?_) rfl rfl ?_ ?_; rotate_left; (intro w' hx'; have hc' := hx'.cells.1; (try simp only [wcd] at hc'); go_simp; (first | done | with_reducible rfl)); (try simp only [pt])) | (refine sq_skip rfl rfl ?_; (try simp only [pt])) | (refine sq_noloud rfl rfl ?_; (try simp only [pt])) | (refine sq_takeg (v := ?_) rfl rfl ?_ ?_; rotate_left; (intro w' hx'; have hc' := hx'.cells.1; (try simp only [wcd] at hc'); go_simp; (first | done | with_reducible rfl)); (try simp only [pt]))))
        refine sq_done ?_
        go_wp2_with fail
        go_ret
        refine ⟨ret_bool ?_, hE.trans (hx.trans xt)⟩
        rw [Hv.out, T.valid, Hz.out, Hd.out]
        simp [validF, hok]
      · by_cases hz0 : (pth t.ps k).2.v = 0
        · have e0 : (sgn (pth t.ps k).2.v == 0) = true := by rw [hz0]; rfl
          go_wp2_with fail
          refine wp_region_seq 26 [(0, true), (1, true), (2, false), (3, true), (4, true), (5, true), (6, true), (7, false), (8, true), (9, true), (10, true), (11, true), (12, true), (13, true), (14, true), (15, true), (16, true), (17, true), (18, true), (19, true), (20, true), (21, true), (22, true), (23, true), (24, true), (25, true)] rfl (by kernel_rfl) (by intro _ _ d _ _ h; cases d <;> exact h) ?_
          (repeat (refine sq_take (v := ?_) rfl rfl ?_ ?_; rotate_left; (intro w' hx'; have hc' := hx'.cells.1; (try simp only [wcd] at hc'); go_simp; (first | done | with_reducible rfl)); (try simp only [pt])))
          (refine sq_loud rfl rfl fun K hK => ?_; go_simp)
          refine (zvalid_c (z := (pth t.ps k).2) ⟨_, _, rfl, hN.ext xt⟩).mono ?_
          rintro e w1 ⟨rfl, hx1⟩
          rw [hok]
          (have b1 := Box.ext (g := wr.heap.size) bxt hx1; have b1r := b1.rules; have b1l := b1.lt)
          (refine hK _ _ xt ?_; clear hK K; (try simp only [pt]))
          (repeat (first | (refine sq_take (v := ?_) rfl rfl ?_ ?_; rotate_left; (intro w' hx'; have hc' := hx'.cells.1; (try simp only [wcd] at hc'); go_simp; (first | done | with_reducible rfl)); (try simp only [pt])) | (refine sq_skip rfl rfl ?_; (try simp only [pt])) | (refine sq_noloud rfl rfl ?_; (try simp only [pt])) | (refine sq_takeg (v := ?_) rfl rfl ?_ ?_; rotate_left; (intro w' hx'; have hc' := hx'.cells.1; (try simp only [wcd] at hc'); go_simp; (first | done | with_reducible rfl)); (try simp only [pt]))))
          (refine sq_loudg rfl rfl fun K hK => ?_; go_simp)
          refine (zsign_c (z := (pth t.ps k).2) ⟨_, _, rfl, hN.ext xt⟩).mono ?_
          rintro e w2 ⟨rfl, hx2⟩
          have b2 := b1.ext hx2
          have b2r := b2.rules
          have b2l := b2.lt
          clear b1r b1l
          have hxx : Ext wr w2 := xt
          have hb2 := Nat.lt_of_lt_of_le hb hxx.size
          have hbw := ((hb0.ext hx).ext hxx).lt
          have hcw := hxx.cells
          (refine hK _ _ xt ?_; clear hK K; (try simp only [pt]))
          (repeat (first | (refine sq_take (v := ?_) rfl rfl ?_ ?_; rotate_left; (intro w' hx'; have hc' := hx'.cells.1; (try simp only [wcd] at hc'); go_simp; (first | done | with_reducible rfl)); (try simp only [pt])) | (refine sq_skip rfl rfl ?_; (try simp only [pt])) | (refine sq_noloud rfl rfl ?_; (try simp only [pt])) | (refine sq_takeg (v := ?_) rfl rfl ?_ ?_; rotate_left; (intro w' hx'; have hc' := hx'.cells.1; (try simp only [wcd] at hc'); go_simp; (first | done | with_reducible rfl)); (try simp only [pt]))))
          refine sq_done ?_
          go_wp2_with fail
          go_ret
          refine ⟨ret_bool ?_, hE.trans (hx.trans xt)⟩
          rw [Hv.out, T.valid, Hz.out, Hd.out]
          simp [validF, prv, hz0]
        · have e0 : (sgn (pth t.ps k).2.v == 0) = false := by rw [beq_eq_false_iff_ne]; exact fun h => hz0 (sgn_zero.1 h)
          cases k with
          | zero =>
            simp only [Nat.zero_mul, Nat.add_zero] at hc0 hc1 hc2
            go_wp2_with fail
            refine wp_region_seq 26 [(0, true), (1, true), (2, false), (3, true), (4, true), (5, true), (6, true), (7, false), (8, true), (9, true), (10, true), (11, true), (12, true), (13, true), (14, true), (15, true), (16, true), (17, true), (18, true), (19, true), (20, true), (21, true), (22, true), (23, true), (24, true), (25, true)] rfl (by kernel_rfl) (by intro _ _ d _ _ h; cases d <;> exact h) ?_
            (repeat (refine sq_take (v := ?_) rfl rfl ?_ ?_; rotate_left; (intro w' hx'; have hc' := hx'.cells.1; (try simp only [wcd] at hc'); go_simp; (first | done | with_reducible rfl)); (try simp only [pt])))
            (refine sq_loud rfl rfl fun K hK => ?_; go_simp)
            refine (zvalid_c (z := (pth t.ps 0).2) ⟨_, _, rfl, hN.ext xt⟩).mono ?_
            rintro e w1 ⟨rfl, hx1⟩
            rw [hok]
            (have b1 := Box.ext (g := wr.heap.size) bxt hx1; have b1r := b1.rules; have b1l := b1.lt)
            (refine hK _ _ xt ?_; clear hK K; (try simp only [pt]))
            (repeat (first | (refine sq_take (v := ?_) rfl rfl ?_ ?_; rotate_left; (intro w' hx'; have hc' := hx'.cells.1; (try simp only [wcd] at hc'); go_simp; (first | done | with_reducible rfl)); (try simp only [pt])) | (refine sq_skip rfl rfl ?_; (try simp only [pt])) | (refine sq_noloud rfl rfl ?_; (try simp only [pt])) | (refine sq_takeg (v := ?_) rfl rfl ?_ ?_; rotate_left; (intro w' hx'; have hc' := hx'.cells.1; (try simp only [wcd] at hc'); go_simp; (first | done | with_reducible rfl)); (try simp only [pt]))))
            (refine sq_loudg rfl rfl fun K hK => ?_; go_simp)
            refine (zsign_c (z := (pth t.ps 0).2) ⟨_, _, rfl, hN.ext xt⟩).mono ?_
            rintro e w2 ⟨rfl, hx2⟩
            have b2 := b1.ext hx2
            have b2r := b2.rules
            have b2l := b2.lt
            clear b1r b1l
            have hxx : Ext wr w2 := xt
            have hb2 := Nat.lt_of_lt_of_le hb hxx.size
            have hbw := ((hb0.ext hx).ext hxx).lt
            have hcw := hxx.cells
            (refine hK _ _ xt ?_; clear hK K; (try simp only [pt]))
            (repeat (first | (refine sq_take (v := ?_) rfl rfl ?_ ?_; rotate_left; (intro w' hx'; have hc' := hx'.cells.1; (try simp only [wcd] at hc'); go_simp; (first | done | with_reducible rfl)); (try simp only [pt])) | (refine sq_skip rfl rfl ?_; (try simp only [pt])) | (refine sq_noloud rfl rfl ?_; (try simp only [pt])) | (refine sq_takeg (v := ?_) rfl rfl ?_ ?_; rotate_left; (intro w' hx'; have hc' := hx'.cells.1; (try simp only [wcd] at hc'); go_simp; (first | done | with_reducible rfl)); (try simp only [pt]))))
            refine sq_done ?_
            go_wp2_with fail
            go_roundw
            case rel =>
              refine ⟨0 + 1, by omega, by go_num, ?_, hx.trans xt⟩
              rw [Hz.out, Hd.out]
              simp [validF, prv, hok, hz0]
            case measure => simp [intOf] <;> omega
          | succ j =>
            obtain ⟨b', o', B2, d2, hA, _, hp0, _, _, hpi, _⟩ := (h1.ext (hE.trans hx)).at_ (k := j) (by omega)
            injection hA with hA
            injection hA with hA1 hA2
            subst hA1; subst hA2
            have hwj := w64n (n := j) (by omega)
            have hjl : j < t.ps.length := by omega
            have hji : (j : Int) < (t.ps.length : Int) := by omega
            by_cases hlt2 : (pth t.ps j).1 < (pth t.ps (j + 1)).1
            · have hlt3 : ¬ (pth t.ps (j + 1)).1 ≤ (pth t.ps j).1 := by omega
              go_wp2_with fail
              refine wp_region_seq 26 [(0, true), (1, true), (2, false), (3, true), (4, true), (5, true), (6, true), (7, false), (8, true), (9, true), (10, true), (11, true), (12, true), (13, true), (14, true), (15, true), (16, true), (17, true), (18, true), (19, true), (20, true), (21, true), (22, true), (23, true), (24, true), (25, true)] rfl (by kernel_rfl) (by intro _ _ d _ _ h; cases d <;> exact h) ?_
              (repeat (refine sq_take (v := ?_) rfl rfl ?_ ?_; rotate_left; (intro w' hx'; have hc' := hx'.cells.1; (try simp only [wcd] at hc'); go_simp; (first | done | with_reducible rfl)); (try simp only [pt])))
              (refine sq_loud rfl rfl fun K hK => ?_; go_simp)
              refine (zvalid_c (z := (pth t.ps (j + 1)).2) ⟨_, _, rfl, hN.ext xt⟩).mono ?_
              rintro e w1 ⟨rfl, hx1⟩
              rw [hok]
              (have b1 := Box.ext (g := wr.heap.size) bxt hx1; have b1r := b1.rules; have b1l := b1.lt)
              (refine hK _ _ xt ?_; clear hK K; (try simp only [pt]))
              (repeat (first | (refine sq_take (v := ?_) rfl rfl ?_ ?_; rotate_left; (intro w' hx'; have hc' := hx'.cells.1; (try simp only [wcd] at hc'); go_simp; (first | done | with_reducible rfl)); (try simp only [pt])) | (refine sq_skip rfl rfl ?_; (try simp only [pt])) | (refine sq_noloud rfl rfl ?_; (try simp only [pt])) | (refine sq_takeg (v := ?_) rfl rfl ?_ ?_; rotate_left; (intro w' hx'; have hc' := hx'.cells.1; (try simp only [wcd] at hc'); go_simp; (first | done | with_reducible rfl)); (try simp only [pt]))))
              (refine sq_loudg rfl rfl fun K hK => ?_; go_simp)
              refine (zsign_c (z := (pth t.ps (j + 1)).2) ⟨_, _, rfl, hN.ext xt⟩).mono ?_
              rintro e w2 ⟨rfl, hx2⟩
              have b2 := b1.ext hx2
              have b2r := b2.rules
              have b2l := b2.lt
              clear b1r b1l
              have hxx : Ext wr w2 := xt
              have hb2 := Nat.lt_of_lt_of_le hb hxx.size
              have hbw := ((hb0.ext hx).ext hxx).lt
              have hcw := hxx.cells
              (refine hK _ _ xt ?_; clear hK K; (try simp only [pt]))
              (repeat (first | (refine sq_take (v := ?_) rfl rfl ?_ ?_; rotate_left; (intro w' hx'; have hc' := hx'.cells.1; (try simp only [wcd] at hc'); go_simp; (first | done | with_reducible rfl)); (try simp only [pt])) | (refine sq_skip rfl rfl ?_; (try simp only [pt])) | (refine sq_noloud rfl rfl ?_; (try simp only [pt])) | (refine sq_takeg (v := ?_) rfl rfl ?_ ?_; rotate_left; (intro w' hx'; have hc' := hx'.cells.1; (try simp only [wcd] at hc'); go_simp; (first | done | with_reducible rfl)); (try simp only [pt]))))
              refine sq_done ?_
              go_wp2_with fail
              go_roundw
              case rel =>
                refine ⟨j + 1 + 1, by omega, by go_num, ?_, hx.trans xt⟩
                rw [Hz.out, Hd.out]
                simp [validF, prv, hok, hz0, hlt2]
              case measure => simp [intOf] <;> omega
            · have hlt3 : (pth t.ps (j + 1)).1 ≤ (pth t.ps j).1 := by omega
              go_wp2_with fail
              refine wp_region_seq 26 [(0, true), (1, true), (2, false), (3, true), (4, true), (5, true), (6, true), (7, false), (8, true), (9, true), (10, true), (11, true), (12, true), (13, true), (14, true), (15, true), (16, true), (17, true), (18, true), (19, true), (20, true), (21, true), (22, true), (23, true), (24, true), (25, true)] rfl (by kernel_rfl) (by intro _ _ d _ _ h; cases d <;> exact h) ?_
              (repeat (refine sq_take (v := ?_) rfl rfl ?_ ?_; rotate_left; (intro w' hx'; have hc' := hx'.cells.1; (try simp only [wcd] at hc'); go_simp; (first | done | with_reducible rfl)); (try simp only [pt])))
              (refine sq_loud rfl rfl fun K hK => ?_; go_simp)
              refine (zvalid_c (z := (pth t.ps (j + 1)).2) ⟨_, _, rfl, hN.ext xt⟩).mono ?_
              rintro e w1 ⟨rfl, hx1⟩
              rw [hok]
              (have b1 := Box.ext (g := wr.heap.size) bxt hx1; have b1r := b1.rules; have b1l := b1.lt)
              (refine hK _ _ xt ?_; clear hK K; (try simp only [pt]))
              (repeat (first | (refine sq_take (v := ?_) rfl rfl ?_ ?_; rotate_left; (intro w' hx'; have hc' := hx'.cells.1; (try simp only [wcd] at hc'); go_simp; (first | done | with_reducible rfl)); (try simp only [pt])) | (refine sq_skip rfl rfl ?_; (try simp only [pt])) | (refine sq_noloud rfl rfl ?_; (try simp only [pt])) | (refine sq_takeg (v := ?_) rfl rfl ?_ ?_; rotate_left; (intro w' hx'; have hc' := hx'.cells.1; (try simp only [wcd] at hc'); go_simp; (first | done | with_reducible rfl)); (try simp only [pt]))))
              (refine sq_loudg rfl rfl fun K hK => ?_; go_simp)
              refine (zsign_c (z := (pth t.ps (j + 1)).2) ⟨_, _, rfl, hN.ext xt⟩).mono ?_
              rintro e w2 ⟨rfl, hx2⟩
              have b2 := b1.ext hx2
              have b2r := b2.rules
              have b2l := b2.lt
              clear b1r b1l
              have hxx : Ext wr w2 := xt
              have hb2 := Nat.lt_of_lt_of_le hb hxx.size
              have hbw := ((hb0.ext hx).ext hxx).lt
              have hcw := hxx.cells
              (refine hK _ _ xt ?_; clear hK K; (try simp only [pt]))
              (repeat (first | (refine sq_take (v := ?_) rfl rfl ?_ ?_; rotate_left; (intro w' hx'; have hc' := hx'.cells.1; (try simp only [wcd] at hc'); go_simp; (first | done | with_reducible rfl)); (try simp only [pt])) | (refine sq_skip rfl rfl ?_; (try simp only [pt])) | (refine sq_noloud rfl rfl ?_; (try simp only [pt])) | (refine sq_takeg (v := ?_) rfl rfl ?_ ?_; rotate_left; (intro w' hx'; have hc' := hx'.cells.1; (try simp only [wcd] at hc'); go_simp; (first | done | with_reducible rfl)); (try simp only [pt]))))
              refine sq_done ?_
              go_wp2_with fail
              go_ret
              refine ⟨ret_bool ?_, hE.trans (hx.trans xt)⟩
              rw [Hv.out, T.valid, Hz.out, Hd.out]
              simp [validF, prv]
              intro _ _ h
              omega
    · obtain rfl : k = t.ps.length := by omega
      have Hz := Lib.hid hz; clear hz
      go_wp2_with fail
      refine (zvalid_c (z := t.k) ⟨_, _, rfl, h2.ext (hE.trans hx)⟩).mono ?_
      rintro e w1 ⟨rfl, hx1⟩
      go_wp2_with fail
      go_ret
      refine ⟨ret_bool ?_, hE.trans (hx.trans xt)⟩
      rw [Hv.out, T.valid, Hz.out, List.drop_length]
      simp [validF]

set_option maxHeartbeats 400000 in
theorem tconst_c {v : Value} {z : Z} {w : World} {X : Nat → Prop} (h : Zi w X v z) (hL : z.mag.length ≤ 4398046511104) :
    Calls Tryz.prog 45 #[v] w fun e w' => ∃ r, e = .returned r ∧ Tv w' (w.heap.size ≤ ·) r (ct [] z.v) ∧ Ext w w' := by
  obtain ⟨A, c, rfl, h⟩ := h
  go_enter Tryz.func45, Tryz.ntmps45
  go_wp2_with fail
  refine (znorm_c (z := z) ⟨_, _, rfl, h.ext xt⟩ hL).mono ?_
  rintro e w1 ⟨r, rfl, ⟨A1, c1, rfl, h1⟩, hx⟩
  have hc := hx.cells
  go_wp2_with fail
  (refine bodyPost_ret (v := ?_) ?_ rfl ?_; rotate_left; (simp only [results, Tryz.results45]; go_simp; (first | done | with_reducible rfl)))
  exact ⟨_, rfl, ⟨none, 0, A1, c1, rfl, Sl.nil0 _ _ _, (h1.keep kpt).widen (fun b hb _ => by first | omega | (dsimp only at hb ⊢; omega) | (dsimp only at hb; omega) | (simp only [wsz] at hb ⊢; omega) | (simp only [wsz] at hb; omega))⟩, xt⟩

set_option maxHeartbeats 400000 in
theorem tvar_c {x : Int} (hi : i64 x) {w : World} :
    Calls Tryz.prog 43 #[.int .i64 x] w fun e w' => ∃ r, e = .returned r ∧ Tv w' (w.heap.size ≤ ·) r (ct [(x, 1)] 0) ∧ Ext w w' := by
  go_enter Tryz.func43, Tryz.ntmps43
  go_wp2_with fail
  refine (zof_c 1 (by omega) (by omega) _).mono ?_
  rintro e w1 ⟨r, rfl, ⟨A1, c1, rfl, h1⟩, hx⟩
  (have hs := Ext.size hx; (try simp only [wsz] at hs))
  (have bx := Box.ext (g := w.heap.size) bxt hx; have bxr := bx.rules; have bxl := bx.lt)
  go_wp2_with fail
  (refine bodyPost_ret (v := ?_) ?_ rfl ?_; rotate_left; (simp only [results, Tryz.results43]; go_simp; (first | done | with_reducible rfl)))
  refine ⟨_, rfl, ⟨_, _, none, 0, rfl, ?_, Sl.nil0 _ _ _⟩, xt⟩
  refine Pl.lit1 (by simp) (by show w.heap.size ≤ _; omega) hi (Nl.widen (h1.keep kpt) (fun b hb _ => by first | omega | (dsimp only at hb ⊢; omega) | (dsimp only at hb; omega) | (simp only [wsz] at hb ⊢; omega) | (simp only [wsz] at hb; omega)))

end Go.Proofs.YthmjgbkakjpfkaaGreatDoor
