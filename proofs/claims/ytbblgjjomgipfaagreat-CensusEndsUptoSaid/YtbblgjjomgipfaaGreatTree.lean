/- A region that draws its order, two of whose operations may come in either order. No conditions. -/
import Derived.Test.YtbblgjjomgipfaaGreatReg
namespace Go.Proofs.YtbblgjjomgipfaaGreat
open Go.RowKit

section
variable {P : Program} {ops : Array Oper} {Q : Exit → Act → World → Prop} {md : Region.Mode} {L : Nat}
/-! ### Waiting through others -/
def direct (md : Region.Mode) (ops : Array Oper) (m k : Nat) : Bool := ((ops[m]?).map fun o => o.after.any fun e => Region.binds md e && e.on == k).getD false
/-- Does L wait for all others, through others? -/
def waitsAll2 (md : Region.Mode) (ops : Array Oper) (L : Nat) : Bool :=
  ((ops[L]?).map fun _ => (List.range ops.size).all fun k => k == L || direct md ops L k || (List.range ops.size).any fun m => direct md ops L m && direct md ops m k).getD true
theorem direct_spec {m k : Nat} (h : direct md ops m k = true) {listed : Array Bool} (hr : m ∈ Region.ready md ops listed) : listed.getD k false = true := by
  obtain ⟨_, o, ho, hall⟩ := mem_ready.1 hr
  simp only [direct, ho, Option.map_some, Option.getD_some, Array.any_eq_true, Bool.and_eq_true, beq_iff_eq] at h
  obtain ⟨n, hn, he⟩ := h
  have := hall _ (Array.getElem_mem hn) he.1
  rwa [he.2] at this
/-- What is listed, that for which it waited is listed. -/
def Cls (md : Region.Mode) (ops : Array Oper) (listed : Array Bool) : Prop := ∀ m k, listed.getD m false = true → direct md ops m k = true → listed.getD k false = true
theorem Cls.init : Cls md ops (Array.replicate ops.size false) := fun m k h _ => by
  rw [Array.getD_eq_getD_getElem?] at h
  rcases hx : (Array.replicate ops.size false)[m]? with _ | b
  · rw [hx] at h; cases h
  · rw [hx] at h
    have := Array.getElem?_eq_some_iff.1 hx
    obtain ⟨h1, h2⟩ := this
    rw [Array.getElem_replicate] at h2
    subst h2
    cases h
theorem getD_set_true {listed : Array Bool} {j k : Nat} (h : listed.getD k false = true) : (listed.setIfInBounds j true).getD k false = true := by
  rw [Array.getD_eq_getD_getElem?] at h ⊢
  rw [Array.getElem?_setIfInBounds]
  split
  · split
    · rfl
    · rename_i e h2
      rw [Array.getElem?_eq_none (by omega)] at h
      exact h
  · exact h
theorem Cls.set {listed : Array Bool} (h : Cls md ops listed) {j : Nat} (hj : j ∈ Region.ready md ops listed) : Cls md ops (listed.setIfInBounds j true) := fun m k hm hd => by
  by_cases e : m = j
  · subst e
    exact getD_set_true (direct_spec hd hj)
  · refine getD_set_true (h m k ?_ hd)
    rw [Array.getD_eq_getD_getElem?] at hm ⊢
    rw [Array.getElem?_setIfInBounds_ne (Ne.symm e)] at hm
    exact hm
theorem waitsAll2_spec (h : waitsAll2 md ops L = true) {listed : Array Bool} (hC : Cls md ops listed) (hr : L ∈ Region.ready md ops listed) {k : Nat} (hk : k < ops.size) (hne : k ≠ L) : listed.getD k false = true := by
  obtain ⟨_, o, ho, hall⟩ := mem_ready.1 hr
  simp only [waitsAll2, ho, Option.map_some, Option.getD_some, List.all_eq_true, List.mem_range, Bool.or_eq_true, beq_iff_eq, List.any_eq_true, Bool.and_eq_true] at h
  rcases h k hk with (h1 | h1) | ⟨m, _, h1, h2⟩
  · exact absurd h1 hne
  · exact direct_spec h1 hr
  · exact hC m k (direct_spec h1 hr) h2

theorem wpAnyG_first2 {S : World → Prop} (hL : waitsAll2 md ops L = true) {i : Nat} {oi : Oper} {v : Value} (hi : ops[i]? = some oi) (hsel : ∀ (j : Nat) (o : Oper) cs b, ops[j]? = some o → o.op ≠ .select cs b)
    (hQ : ∀ c a d v w, Q (.panic c) (Act.put a d v) w → Q (.panic c) a w) :
    ∀ (f : Nat) (listed : Array Bool) (a : Act) (w : World), Cls md ops listed →
      (∀ j oj, ops[j]? = some oj → j ≠ i → listed.getD j true = false → (∀ e ∈ oj.after, Region.binds md e = true → e.on ≠ i) → oi.apart ops oj = true) →
      i ∈ Region.ready md ops listed → YieldsIf P ops S oi v a → S w →
      wpAnyG P md ops Q L S f (listed.setIfInBounds i true) (a.put oi.dst v) w → wpAnyG P md ops Q L S (f + 1) listed a w := by
  intro f
  induction f with
  | zero =>
    intro listed a w _ _ hr hy hS H
    refine ⟨fun h => (by rw [h] at hr; cases hr), fun j hj => ?_⟩
    by_cases hji : j = i
    · subst hji; exact hy.wpOp hi hS ⟨.inr hS, H⟩
    · have h := ready_mono hj hji
      rw [H.1] at h
      cases h
  | succ f ih =>
    intro listed a w hC hfree hr hy hS H
    refine ⟨fun h => (by rw [h] at hr; cases hr), fun j hj => ?_⟩
    by_cases hji : j = i
    · subst hji; exact hy.wpOp hi hS ⟨.inr hS, H⟩
    · have h1 := H.2 j (ready_mono hj hji)
      obtain ⟨hjun, oj, hoj, hall⟩ := mem_ready.1 hj
      have hlist : listed.getD i true = false := (mem_ready.1 hr).1
      have hnot : ∀ e ∈ oj.after, Region.binds md e = true → e.on ≠ i := by
        intro e he hb heq
        have h2 := hall e he hb
        rw [heq] at h2
        rcases Nat.lt_or_ge i listed.size with h' | h'
        · simp [h'] at hlist h2; rw [hlist] at h2; cases h2
        · simp [Array.getElem?_eq_none h'] at h2
      have h2 := wpOp_putIf hoj (hfree j oj hoj hji hjun hnot) (fun cs b => hsel i oi cs b hi) (fun cs b => hsel j oj cs b hoj) (fun c a w => hQ c a oi.dst v w) hy h1
      have hfree' : ∀ k ok, ops[k]? = some ok → k ≠ i → (listed.setIfInBounds j true).getD k true = false →
          (∀ e ∈ ok.after, Region.binds md e = true → e.on ≠ i) → oi.apart ops ok = true := by
        intro k ok hk hki hun hno
        refine hfree k ok hk hki ?_ hno
        by_cases hjk : j = k
        · subst hjk; exact hjun
        · rw [getD_set_ne true hjk] at hun; exact hun
      have hjL : j ≠ L := by
        intro e
        rw [e] at hj hji
        have h3 := waitsAll2_spec hL hC hj (k := i) (Array.getElem?_eq_some_iff.1 hi).1 (Ne.symm hji)
        rcases Nat.lt_or_ge i listed.size with h' | h'
        · simp [h'] at hlist h3; rw [hlist] at h3; cases h3
        · simp [Array.getElem?_eq_none h'] at h3
      refine wpOp_mono (fun a' w' h3 => ⟨?_, ?_⟩) h2
      · exact .inr (h3.2.1.resolve_left hjL)
      · refine ih (listed.setIfInBounds j true) a' w' (hC.set hj) hfree' (ready_mono hr (Ne.symm hji)) h3.1 (h3.2.1.resolve_left hjL) ?_
        rw [Array.setIfInBounds_comm _ _ hji]
        exact h3.2.2

theorem seq_sound2 (hL : waitsAll2 md ops L = true) (hs : Region.noSelect ops = true) (hQ : ∀ c a d v w, Q (.panic c) (Act.put a d v) w → Q (.panic c) a w) :
    ∀ (l : List (Nat × Bool)) (listed : Array Bool) (a : Act) (w : World) (S : World → Prop), Cls md ops listed → (∀ w', Ext w w' → S w') → seqOk md ops l listed = true → SeqW P ops Q L l a w → wpAnyG P md ops Q L S l.length listed a w
  | [], listed, a, w, S, _, _, hok, h => ⟨by simpa [seqOk] using hok, h⟩
  | (i, true) :: r, listed, a, w, S, hC, hS, hok, h => by
    simp only [seqOk, Bool.and_eq_true] at hok
    obtain ⟨o, v, ho, hy, h⟩ := h
    have hi : i ∈ Region.ready md ops listed := by simpa using hok.1.2
    have h1 := seq_sound2 hL hs hQ r (listed.setIfInBounds i true) (a.put o.dst v) w (Ext w) (hC.set hi) (fun _ hx => hx) hok.2 h
    have h2 := wpAnyG_first2 hL ho (Region.noSelect_spec hs) hQ r.length listed a w hC (Region.free_spec ho hok.1.1) hi hy (Ext.refl w) h1
    exact wpAnyG_mono hS _ _ _ _ h2
  | (i, false) :: r, listed, a, w, S, hC, hS, hok, h => by
    simp only [seqOk, Bool.and_eq_true, beq_iff_eq] at hok
    refine ⟨fun h0 => (by rw [hok.1] at h0; cases h0), fun j hj => ?_⟩
    have hj0 := hj
    rw [hok.1] at hj
    have e : j = i := by simpa using hj
    subst e
    refine wpOp_mono (fun a' w' h' => ⟨?_, ?_⟩) h
    · exact h'.1.imp (fun h => h.1) (hS w')
    · rcases h'.1 with h1 | h1
      · obtain ⟨_, h1⟩ := h1
        subst h1
        exact ⟨by simpa [seqOk] using hok.2, h'.2⟩
      · exact seq_sound2 hL hs hQ r _ a' w' S (hC.set hj0) (fun w2 hx => hS w2 (h1.trans hx)) hok.2 h'.2

/-- THE REGION, its last operation waiting for some only through others. -/
theorem wp_region_seq2 {id : Nat} {a : Act} {w : World} (L : Nat) (l : List (Nat × Bool)) (hm : P.follows .mixedOrders = true)
    (hok : (seqOk .any ops l (Array.replicate ops.size false) && (l.length == ops.size) && waitsAll2 .any ops L && Region.noSelect ops) = true)
    (hQ : ∀ c a d v w, Q (.panic c) (Act.put a d v) w → Q (.panic c) a w) (h : SeqW P ops Q L l a w.drew) : (Code.region id ops true).wp P Q a w := by
  simp only [Bool.and_eq_true, beq_iff_eq] at hok
  refine wp_region_any hm (wpAny_of_G (L := L) (S := Ext w.drew) _ _ _ _ ?_)
  rw [← hok.1.1.2]
  have := seq_sound2 hok.1.2 hok.2 hQ l (Array.replicate ops.size false) a w.drew (Ext w.drew) Cls.init (fun _ h => h) hok.1.1.1 h
  rw [← hok.1.1.2] at this
  exact this

/-! ### Two at once -/
/-- Orders: a line; one that only reads, then more; one of two. -/
inductive Ord where
  | line : List (Nat × Bool) → Ord
  | quiet : Nat → Ord → Ord
  | two : Nat → Nat → Ord → Ord → Ord
def Ord.size : Ord → Nat
  | .line l => l.length
  | .quiet _ r => r.size + 1
  | .two _ _ r _ => r.size + 1
def TreeW (P : Program) (ops : Array Oper) (Q : Exit → Act → World → Prop) (L : Nat) : Ord → Act → World → Prop
  | .line l, a, w => SeqW P ops Q L l a w
  | .quiet i r, a, w => ∃ o v, ops[i]? = some o ∧ YieldsIf P ops (Ext w) o v a ∧ TreeW P ops Q L r (a.put o.dst v) w
  | .two i j ri rj, a, w => wpOp P ops Q i (fun a' w' => Ext w w' ∧ TreeW P ops Q L ri a' w') a w ∧ wpOp P ops Q j (fun a' w' => Ext w w' ∧ TreeW P ops Q L rj a' w') a w
def treeOk (md : Region.Mode) (ops : Array Oper) : Ord → Array Bool → Bool
  | .line l, listed => seqOk md ops l listed
  | .quiet i r, listed => Region.free md ops listed i && (Region.ready md ops listed).contains i && treeOk md ops r (listed.setIfInBounds i true)
  | .two i j ri rj, listed => (Region.ready md ops listed == [i, j]) && (ri.size == rj.size) && treeOk md ops ri (listed.setIfInBounds i true) && treeOk md ops rj (listed.setIfInBounds j true)

theorem tree_sound (hL : waitsAll2 md ops L = true) (hs : Region.noSelect ops = true) (hQ : ∀ c a d v w, Q (.panic c) (Act.put a d v) w → Q (.panic c) a w) :
    ∀ (l : Ord) (listed : Array Bool) (a : Act) (w : World) (S : World → Prop), Cls md ops listed → (∀ w', Ext w w' → S w') → treeOk md ops l listed = true → TreeW P ops Q L l a w → wpAnyG P md ops Q L S l.size listed a w
  | .line l, listed, a, w, S, hC, hS, hok, h => seq_sound2 hL hs hQ l listed a w S hC hS hok h
  | .quiet i r, listed, a, w, S, hC, hS, hok, h => by
    simp only [treeOk, Bool.and_eq_true] at hok
    obtain ⟨o, v, ho, hy, h⟩ := h
    have hi : i ∈ Region.ready md ops listed := by simpa using hok.1.2
    have h1 := tree_sound hL hs hQ r (listed.setIfInBounds i true) (a.put o.dst v) w (Ext w) (hC.set hi) (fun _ hx => hx) hok.2 h
    have h2 := wpAnyG_first2 hL ho (Region.noSelect_spec hs) hQ r.size listed a w hC (Region.free_spec ho hok.1.1) hi hy (Ext.refl w) h1
    exact wpAnyG_mono hS _ _ _ _ h2
  | .two i j ri rj, listed, a, w, S, hC, hS, hok, h => by
    simp only [treeOk, Bool.and_eq_true, beq_iff_eq] at hok
    obtain ⟨⟨⟨hr, hsz⟩, hi⟩, hj⟩ := hok
    refine ⟨fun h0 => (by rw [hr] at h0; cases h0), fun k hk => ?_⟩
    have hk0 := hk
    rw [hr] at hk
    rcases (by simpa using hk : k = i ∨ k = j) with rfl | rfl
    · refine wpOp_mono (fun a' w' h' => ⟨.inr (hS w' h'.1), ?_⟩) h.1
      exact tree_sound hL hs hQ ri _ a' w' S (hC.set hk0) (fun w2 hx => hS w2 (h'.1.trans hx)) hi h'.2
    · refine wpOp_mono (fun a' w' h' => ⟨.inr (hS w' h'.1), ?_⟩) h.2
      have := tree_sound hL hs hQ rj _ a' w' S (hC.set hk0) (fun w2 hx => hS w2 (h'.1.trans hx)) hj h'.2
      show wpAnyG P md ops Q L S ri.size _ a' w'
      rw [hsz]
      exact this

theorem wp_region_tree {id : Nat} {a : Act} {w : World} (L : Nat) (l : Ord) (hm : P.follows .mixedOrders = true)
    (hok : (treeOk .any ops l (Array.replicate ops.size false) && (l.size == ops.size) && waitsAll2 .any ops L && Region.noSelect ops) = true)
    (hQ : ∀ c a d v w, Q (.panic c) (Act.put a d v) w → Q (.panic c) a w) (h : TreeW P ops Q L l a w.drew) : (Code.region id ops true).wp P Q a w := by
  simp only [Bool.and_eq_true, beq_iff_eq] at hok
  refine wp_region_any hm (wpAny_of_G (L := L) (S := Ext w.drew) _ _ _ _ ?_)
  rw [← hok.1.1.2]
  have := tree_sound hok.1.2 hok.2 hQ l (Array.replicate ops.size false) a w.drew (Ext w.drew) Cls.init (fun _ h => h) hok.1.1.1 h
  rw [← hok.1.1.2] at this
  exact this

theorem tr_take {i : Nat} {r : Ord} {a : Act} {w : World} {o : Oper} {v : Value} (ho : opAt ops.toList i = some o) (hg : o.guard = none)
    (hv : ∀ w', Ext w w' → (execOp a.eval o).run P w' = .ok (.value v) w') (h : TreeW P ops Q L r (a.put o.dst v) w) : TreeW P ops Q L (.quiet i r) a w :=
  ⟨o, v, opAt_ops ho, .inl ⟨by simp [Region.wanted, hg], hv⟩, h⟩
theorem tr_two {i j : Nat} {ri rj : Ord} {a : Act} {w : World} {o o' : Oper} (ho : opAt ops.toList i = some o) (hg : o.guard = none) (ho' : opAt ops.toList j = some o') (hg' : o'.guard = none)
    (h : ∀ K : Act → World → Prop, (∀ a' w', Ext w w' → TreeW P ops Q L ri a' w' → K a' w') → o.wp P a w K Q)
    (h' : ∀ K : Act → World → Prop, (∀ a' w', Ext w w' → TreeW P ops Q L rj a' w' → K a' w') → o'.wp P a w K Q) : TreeW P ops Q L (.two i j ri rj) a w := by
  unfold TreeW wpOp
  simp only [opAt_ops ho, opAt_ops ho', Region.wanted, hg, hg', if_true]
  exact ⟨.inl (h _ fun a' w' hx hs => ⟨hx, hs⟩), .inl (h' _ fun a' w' hx hs => ⟨hx, hs⟩)⟩
theorem tr_line {l : List (Nat × Bool)} {a : Act} {w : World} (h : SeqW P ops Q L l a w) : TreeW P ops Q L (.line l) a w := h
end

end Go.Proofs.YtbblgjjomgipfaaGreat
