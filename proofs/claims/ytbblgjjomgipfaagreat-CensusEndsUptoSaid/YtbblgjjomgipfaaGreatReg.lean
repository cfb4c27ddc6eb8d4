/- A region that draws its order, walked in one order: what only reads first, then the rest, each leaving what was there as it was (but for the last). No conditions. -/
import Derived.Test.YtbblgjjomgipfaaGreatBase
import Derived.OrdersHeld
namespace Go.Proofs.YtbblgjjomgipfaaGreat
open Go.RowKit

section
variable {P : Program} {ops : Array Oper} {Q : Exit → Act → World → Prop} {S S' : World → Prop} {md : Region.Mode} {L : Nat}

/-- Does L wait for all others? -/
def waitsAll (md : Region.Mode) (ops : Array Oper) (L : Nat) : Bool :=
  ((ops[L]?).map fun o => (List.range ops.size).all fun k => k == L || o.after.any fun e => Region.binds md e && e.on == k).getD true
/-- Whatever order is picked from here on; behind every operation but L S holds. -/
def wpAnyG (P : Program) (md : Region.Mode) (ops : Array Oper) (Q : Exit → Act → World → Prop) (L : Nat) (S : World → Prop) : Nat → Array Bool → Act → World → Prop
  | 0, listed, a, w => Region.ready md ops listed = [] ∧ Q .normal a w
  | f + 1, listed, a, w =>
    (Region.ready md ops listed = [] → Q .normal a w) ∧
    ∀ i ∈ Region.ready md ops listed, wpOp P ops Q i (fun a' w' => (i = L ∨ S w') ∧ wpAnyG P md ops Q L S f (listed.setIfInBounds i true) a' w') a w

theorem wpAny_of_G : ∀ (f : Nat) (listed : Array Bool) (a : Act) (w : World), wpAnyG P md ops Q L S f listed a w → wpAny P md ops Q f listed a w
  | 0, _, _, _, h => h
  | _ + 1, _, _, _, h => ⟨h.1, fun i hi => wpOp_mono (fun a' w' h' => wpAny_of_G _ _ a' w' h'.2) (h.2 i hi)⟩
theorem wpAnyG_mono (hS : ∀ w, S' w → S w) : ∀ (f : Nat) (listed : Array Bool) (a : Act) (w : World), wpAnyG P md ops Q L S' f listed a w → wpAnyG P md ops Q L S f listed a w
  | 0, _, _, _, h => h
  | _ + 1, _, _, _, h => ⟨h.1, fun i hi => wpOp_mono (fun a' w' h' => ⟨h'.1.imp id (hS w'), wpAnyG_mono hS _ _ a' w' h'.2⟩) (h.2 i hi)⟩

theorem waitsAll_spec (h : waitsAll md ops L = true) {listed : Array Bool} (hr : L ∈ Region.ready md ops listed) {k : Nat} (hk : k < ops.size) (hne : k ≠ L) : listed.getD k false = true := by
  obtain ⟨_, o, ho, hall⟩ := mem_ready.1 hr
  simp only [waitsAll, ho, Option.map_some, Option.getD_some, List.all_eq_true, List.mem_range, Bool.or_eq_true, beq_iff_eq] at h
  have h1 := (h k hk).resolve_left hne
  rw [Array.any_eq_true] at h1
  obtain ⟨n, hn, he⟩ := h1
  simp only [Bool.and_eq_true, beq_iff_eq] at he
  have := hall _ (Array.getElem_mem hn) he.1
  rwa [he.2] at this

theorem wpAnyG_first (hL : waitsAll md ops L = true) {i : Nat} {oi : Oper} {v : Value} (hi : ops[i]? = some oi) (hsel : ∀ (j : Nat) (o : Oper) cs b, ops[j]? = some o → o.op ≠ .select cs b)
    (hQ : ∀ c a d v w, Q (.panic c) (Act.put a d v) w → Q (.panic c) a w) :
    ∀ (f : Nat) (listed : Array Bool) (a : Act) (w : World),
      (∀ j oj, ops[j]? = some oj → j ≠ i → listed.getD j true = false → (∀ e ∈ oj.after, Region.binds md e = true → e.on ≠ i) → oi.apart ops oj = true) →
      i ∈ Region.ready md ops listed → YieldsIf P ops S oi v a → S w →
      wpAnyG P md ops Q L S f (listed.setIfInBounds i true) (a.put oi.dst v) w → wpAnyG P md ops Q L S (f + 1) listed a w := by
  intro f
  induction f with
  | zero =>
    intro listed a w _ hr hy hS H
    refine ⟨fun h => (by rw [h] at hr; cases hr), fun j hj => ?_⟩
    by_cases hji : j = i
    · subst hji; exact hy.wpOp hi hS ⟨.inr hS, H⟩
    · have h := ready_mono hj hji
      rw [H.1] at h
      cases h
  | succ f ih =>
    intro listed a w hfree hr hy hS H
    refine ⟨fun h => (by rw [h] at hr; cases hr), fun j hj => ?_⟩
    by_cases hji : j = i
    · subst hji; exact hy.wpOp hi hS ⟨.inr hS, H⟩
    · have h1 := H.2 j (ready_mono hj hji)
      obtain ⟨hjun, oj, hoj, hall⟩ := mem_ready.1 hj
      have hlist : listed.getD i true = false := (mem_ready.1 hr).1
      have hnot : ∀ e ∈ oj.after, Region.binds md e = true → e.on ≠ i := by
        intro e he hb heq
        have h2 := hall e he hb
        rw [heq] at h2
        rcases Nat.lt_or_ge i listed.size with h' | h'
        · simp [h'] at hlist h2; rw [hlist] at h2; cases h2
        · simp [Array.getElem?_eq_none h'] at h2
      have h2 := wpOp_putIf hoj (hfree j oj hoj hji hjun hnot) (fun cs b => hsel i oi cs b hi) (fun cs b => hsel j oj cs b hoj) (fun c a w => hQ c a oi.dst v w) hy h1
      have hfree' : ∀ k ok, ops[k]? = some ok → k ≠ i → (listed.setIfInBounds j true).getD k true = false →
          (∀ e ∈ ok.after, Region.binds md e = true → e.on ≠ i) → oi.apart ops ok = true := by
        intro k ok hk hki hun hno
        refine hfree k ok hk hki ?_ hno
        by_cases hjk : j = k
        · subst hjk; exact hjun
        · rw [getD_set_ne true hjk] at hun; exact hun
      have hjL : j ≠ L := by
        intro e
        rw [e] at hj hji
        have h3 := waitsAll_spec hL hj (k := i) (Array.getElem?_eq_some_iff.1 hi).1 (Ne.symm hji)
        rcases Nat.lt_or_ge i listed.size with h' | h'
        · simp [h'] at hlist h3; rw [hlist] at h3; cases h3
        · simp [Array.getElem?_eq_none h'] at h3
      refine wpOp_mono (fun a' w' h3 => ⟨?_, ?_⟩) h2
      · exact .inr (h3.2.1.resolve_left hjL)
      · refine ih (listed.setIfInBounds j true) a' w' hfree' (ready_mono hr (Ne.symm hji)) h3.1 (h3.2.1.resolve_left hjL) ?_
        rw [Array.setIfInBounds_comm _ _ hji]
        exact h3.2.2

/-- The operations in the order in which they are walked; true: it only reads. Behind each but L what was there is as it was. -/
def SeqW (P : Program) (ops : Array Oper) (Q : Exit → Act → World → Prop) (L : Nat) : List (Nat × Bool) → Act → World → Prop
  | [], a, w => Q .normal a w
  | (i, true) :: r, a, w => ∃ o v, ops[i]? = some o ∧ YieldsIf P ops (Ext w) o v a ∧ SeqW P ops Q L r (a.put o.dst v) w
  | (i, false) :: r, a, w => wpOp P ops Q i (fun a' w' => (i = L ∧ r = [] ∨ Ext w w') ∧ SeqW P ops Q L r a' w') a w

/-- May they be walked so? -/
def seqOk (md : Region.Mode) (ops : Array Oper) : List (Nat × Bool) → Array Bool → Bool
  | [], listed => (Region.ready md ops listed).isEmpty
  | (i, true) :: r, listed => Region.free md ops listed i && (Region.ready md ops listed).contains i && seqOk md ops r (listed.setIfInBounds i true)
  | (i, false) :: r, listed => (Region.ready md ops listed == [i]) && seqOk md ops r (listed.setIfInBounds i true)

theorem seq_sound (hL : waitsAll md ops L = true) (hs : Region.noSelect ops = true) (hQ : ∀ c a d v w, Q (.panic c) (Act.put a d v) w → Q (.panic c) a w) :
    ∀ (l : List (Nat × Bool)) (listed : Array Bool) (a : Act) (w : World) (S : World → Prop), (∀ w', Ext w w' → S w') → seqOk md ops l listed = true → SeqW P ops Q L l a w → wpAnyG P md ops Q L S l.length listed a w
  | [], listed, a, w, S, _, hok, h => ⟨by simpa [seqOk] using hok, h⟩
  | (i, true) :: r, listed, a, w, S, hS, hok, h => by
    simp only [seqOk, Bool.and_eq_true] at hok
    obtain ⟨o, v, ho, hy, h⟩ := h
    have h1 := seq_sound hL hs hQ r (listed.setIfInBounds i true) (a.put o.dst v) w (Ext w) (fun _ hx => hx) hok.2 h
    have h2 := wpAnyG_first hL ho (Region.noSelect_spec hs) hQ r.length listed a w (Region.free_spec ho hok.1.1) (by simpa using hok.1.2) hy (Ext.refl w) h1
    exact wpAnyG_mono hS _ _ _ _ h2
  | (i, false) :: r, listed, a, w, S, hS, hok, h => by
    simp only [seqOk, Bool.and_eq_true, beq_iff_eq] at hok
    refine ⟨fun h0 => (by rw [hok.1] at h0; cases h0), fun j hj => ?_⟩
    rw [hok.1] at hj
    have e : j = i := by simpa using hj
    subst e
    refine wpOp_mono (fun a' w' h' => ⟨?_, ?_⟩) h
    · exact h'.1.imp (fun h => h.1) (hS w')
    · rcases h'.1 with h1 | h1
      · obtain ⟨_, h1⟩ := h1
        subst h1
        exact ⟨by simpa [seqOk] using hok.2, h'.2⟩
      · exact seq_sound hL hs hQ r _ a' w' S (fun w2 hx => hS w2 (h1.trans hx)) hok.2 h'.2

/-- THE REGION: l: its operations in the order of the walk. -/
theorem wp_region_seq {id : Nat} {a : Act} {w : World} (L : Nat) (l : List (Nat × Bool)) (hm : P.follows .mixedOrders = true)
    (hok : (seqOk .any ops l (Array.replicate ops.size false) && (l.length == ops.size) && waitsAll .any ops L && Region.noSelect ops) = true)
    (hQ : ∀ c a d v w, Q (.panic c) (Act.put a d v) w → Q (.panic c) a w) (h : SeqW P ops Q L l a w.drew) : (Code.region id ops true).wp P Q a w := by
  simp only [Bool.and_eq_true, beq_iff_eq] at hok
  refine wp_region_any hm (wpAny_of_G (L := L) (S := Ext w.drew) _ _ _ _ ?_)
  rw [← hok.1.1.2]
  have := seq_sound hok.1.2 hok.2 hQ l (Array.replicate ops.size false) a w.drew (Ext w.drew) (fun _ h => h) hok.1.1.1 h
  rw [← hok.1.1.2] at this
  exact this

/-- The operation at a place. -/
def opAt : List Oper → Nat → Option Oper
  | [], _ => none
  | o :: _, 0 => some o
  | _ :: r, n + 1 => opAt r n
theorem opAt_eq : ∀ (l : List Oper) (n : Nat), opAt l n = l[n]?
  | [], _ => by simp [opAt]
  | _ :: _, 0 => rfl
  | _ :: r, n + 1 => by simp [opAt, opAt_eq r n]
theorem opAt_ops {i : Nat} {o : Oper} (h : opAt ops.toList i = some o) : ops[i]? = some o := by
  rw [opAt_eq] at h
  simpa using h
/-! ### The steps -/
/-- It only reads (no guard). -/
theorem sq_take {i : Nat} {r : List (Nat × Bool)} {a : Act} {w : World} {o : Oper} {v : Value} (ho : opAt ops.toList i = some o) (hg : o.guard = none)
    (hv : ∀ w', Ext w w' → (execOp a.eval o).run P w' = .ok (.value v) w') (h : SeqW P ops Q L r (a.put o.dst v) w) : SeqW P ops Q L ((i, true) :: r) a w :=
  ⟨o, v, opAt_ops ho, .inl ⟨by simp [Region.wanted, hg], hv⟩, h⟩
/-- Its guard says yes. -/
theorem sq_takeg {i : Nat} {r : List (Nat × Bool)} {a : Act} {w : World} {o : Oper} {v : Value} (ho : opAt ops.toList i = some o) (hg : Region.wanted o (yielded ops a.tmps) = true)
    (hv : ∀ w', Ext w w' → (execOp a.eval o).run P w' = .ok (.value v) w') (h : SeqW P ops Q L r (a.put o.dst v) w) : SeqW P ops Q L ((i, true) :: r) a w :=
  ⟨o, v, opAt_ops ho, .inl ⟨hg, hv⟩, h⟩
/-- Its guard says no. -/
theorem sq_skip {i : Nat} {r : List (Nat × Bool)} {a : Act} {w : World} {o : Oper} (ho : opAt ops.toList i = some o) (hg : Region.wanted o (yielded ops a.tmps) = false)
    (h : SeqW P ops Q L r (a.put o.dst undef) w) : SeqW P ops Q L ((i, true) :: r) a w :=
  ⟨o, undef, opAt_ops ho, .inr ⟨hg, rfl⟩, h⟩
/-- A call, a block, a store. -/
theorem sq_loud {i : Nat} {r : List (Nat × Bool)} {a : Act} {w : World} {o : Oper} (ho : opAt ops.toList i = some o) (hg : o.guard = none)
    (h : ∀ K : Act → World → Prop, (∀ a' w', Ext w w' → SeqW P ops Q L r a' w' → K a' w') → o.wp P a w K Q) : SeqW P ops Q L ((i, false) :: r) a w := by
  unfold SeqW wpOp
  simp only [opAt_ops ho, Region.wanted, hg, if_true]
  exact .inl (h _ fun a' w' hx hs => ⟨.inr hx, hs⟩)
/-- .. and its guard says yes. -/
theorem sq_loudg {i : Nat} {r : List (Nat × Bool)} {a : Act} {w : World} {o : Oper} (ho : opAt ops.toList i = some o) (hg : Region.wanted o (yielded ops a.tmps) = true)
    (h : ∀ K : Act → World → Prop, (∀ a' w', Ext w w' → SeqW P ops Q L r a' w' → K a' w') → o.wp P a w K Q) : SeqW P ops Q L ((i, false) :: r) a w := by
  unfold SeqW wpOp
  simp only [opAt_ops ho, hg, if_true]
  exact .inl (h _ fun a' w' hx hs => ⟨.inr hx, hs⟩)
/-- .. and its guard says no. -/
theorem sq_noloud {i : Nat} {r : List (Nat × Bool)} {a : Act} {w : World} {o : Oper} (ho : opAt ops.toList i = some o) (hg : Region.wanted o (yielded ops a.tmps) = false)
    (h : SeqW P ops Q L r (a.put o.dst undef) w) : SeqW P ops Q L ((i, false) :: r) a w := by
  unfold SeqW wpOp
  simp only [opAt_ops ho, hg, Bool.false_eq_true, if_false]
  exact ⟨.inr (Ext.refl w), h⟩
/-- The last one, for which nothing waits. -/
theorem sq_last {a : Act} {w : World} {o : Oper} (ho : opAt ops.toList L = some o) (hg : o.guard = none)
    (h : ∀ K : Act → World → Prop, (∀ a' w', Q .normal a' w' → K a' w') → o.wp P a w K Q) : SeqW P ops Q L [(L, false)] a w := by
  unfold SeqW wpOp
  simp only [opAt_ops ho, Region.wanted, hg, if_true]
  exact .inl (h _ fun a' w' hs => ⟨.inl (by simp), hs⟩)
end

end Go.Proofs.YtbblgjjomgipfaaGreat
