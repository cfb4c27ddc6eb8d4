/- The law AtomLooks: it returns true. Condition: the sizes. -/
import Derived.Test.YthmjgbkakjpfkaaGreatDoorGLooksBs
namespace Go.Proofs.YthmjgbkakjpfkaaGreatDoor
open Go.RowKit

theorem textR_len {a : Ar} {N : Nat} (hs : a.sz N) (hN2 : 2 ≤ N) (hN : N ≤ 4194304) (hd : Lb a.d.mag) (ht : a.t.lb) (hi : ∀ p ∈ a.t.ps, i64 p.1) : (textR a).length ≤ 9223372036854775807 := by
  have hn := normA_sz hN2 hs hd ht
  obtain ⟨-, -, f3, f4, -⟩ := form_facts (normA_form a)
  have hvi := normA_vi (a := a) fun p hp => by obtain ⟨q, hq, rfl⟩ := List.mem_map.1 hp; exact hi q hq
  have hwl := writtenB_len (l := vl (normA a).1.t.ps) (k := (normA a).1.t.k.v) (N := 2 * N) (fun p hp => ⟨zl_vl f3.1 hn.2.2.1 p hp, hvi p hp⟩) (Nat.le_trans (zl_of f3.2) hn.2.2.2)
  have hwl := Nat.le_trans hwl (big_mul (N := 2 * N) (by rw [vl_len]; have := hn.2.1; omega) (by omega) (by omega))
  have hdl := itoa_len (normA a).1.d.v
  have hdz := Nat.le_trans (zl_of f4) hn.1
  unfold textR
  split
  · unfold textA
    split
    · simp
    split
    · simp
    split
    · simp only [List.length_append, List.length_cons, List.length_nil]; omega
    split
    · simp only [List.length_append, List.length_cons, List.length_nil]; omega
    · simp only [List.length_append, List.length_cons, List.length_nil]; omega
  · simp
theorem atext_v (a : Ar) (N : Nat) (hs : a.sz N) (hN2 : 2 ≤ N) (hN : N ≤ 4194304) : Fn Tryz.prog 32 [.g (dA a)] (.c (.s ⟨(textR a).toArray⟩)) := fun w X vs hl _ ha => by
  have hok := RelDs.ok ha
  obtain ⟨b1, b2, b3⟩ := ok_a (hok (.g (dA a)) (by simp))
  have hi := ok_vl (t := a.t) (fun d hd => hok (.g (dA a)) (by simp) d (List.mem_cons_of_mem _ (List.mem_append_right _ hd)))
  have hlen := textR_len hs hN2 hN b2 b3 hi
  obtain ⟨l, rfl⟩ : ∃ l : List Value, vs = l.toArray := ⟨vs.toList, by simp⟩
  cases ha with
  | cons h1 h2 =>
    cases h2
    refine (atext_c (relD_a.1 h1) hs hN2 hN hl.tab).mono fun e w' ⟨h3, h4⟩ => ⟨_, h3, h4, rfl, ?_⟩
    simp only [bs_size, maxLen]
    exact hlen
set_option maxRecDepth 100000 in
set_option maxHeartbeats 6400000 in
theorem lawlooks_v (a b : Ar) (vals : List (Int × Z)) (N : Nat) (ha : a.sz N) (hb : b.sz N) (hv : ∀ p ∈ vals, p.2.mag.length ≤ N) (hN2 : 2 ≤ N) (hN : N ≤ 1048576) : Fn Tryz.prog 5 [.g (dA a), .g (dA b), .c (.l (vals.map dP))] (.c (.b true)) := by
  refine Fn.intro' Tryz.func5 [.tmp 6] 56 fun hok => ?_
  have k1 := aorder_v a b N (by omega) ha hb
  have k2 := aholds_v a vals N ha hv hN2 (by omega)
  have k3 := rholds6_v a vals N ha hv hN2 (by omega)
  have k4 := atext_v a N ha hN2 (by omega)
  have k5 := rorder6_v a b N (by omega) ha hb
  have k6 := rtext6_v a N ha hN2 (by omega)
  generalize ordA a b = o at *
  generalize textR a = x at *
  generalize holdsR a vals = H at *
  (repeat (first | (refine hk_use (by assumption) ?_) | (refine sw_seqk fun _ _ => ?_) | (refine sw_reg ?_) | (refine aops_k fun _ _ => ?_; simp [go_sem]; try go_ints) | refine sw_block ?_ | refine sw_ct rfl ?_ | refine sw_cf rfl ?_ | refine sw_skip ?_ | refine sw_exit ?_ | refine sw_ret ?_ | refine And.intro (by first | omega | rfl) ?_ | simp only [aops, thn, inB, ↓reduceIte, Nat.reduceEqDiff]))
  (refine ⟨.v _, awake6_v, ?_⟩; simp [go_sem]; (repeat (first | (refine hk_use (by assumption) ?_) | (refine sw_seqk fun _ _ => ?_) | (refine sw_reg ?_) | (refine aops_k fun _ _ => ?_; simp [go_sem]; try go_ints) | refine sw_block ?_ | refine sw_ct rfl ?_ | refine sw_cf rfl ?_ | refine sw_skip ?_ | refine sw_exit ?_ | refine sw_ret ?_ | refine And.intro (by first | omega | rfl) ?_ | simp only [aops, thn, inB, ↓reduceIte, Nat.reduceEqDiff])))
  (refine ⟨.v _, k1, ?_⟩; simp [go_sem]; (repeat (first | (refine hk_use (by assumption) ?_) | (refine sw_seqk fun _ _ => ?_) | (refine sw_reg ?_) | (refine aops_k fun _ _ => ?_; simp [go_sem]; try go_ints) | refine sw_block ?_ | refine sw_ct rfl ?_ | refine sw_cf rfl ?_ | refine sw_skip ?_ | refine sw_exit ?_ | refine sw_ret ?_ | refine And.intro (by first | omega | rfl) ?_ | simp only [aops, thn, inB, ↓reduceIte, Nat.reduceEqDiff])))
  (refine ⟨.v _, k2, ?_⟩; simp [go_sem]; (repeat (first | (refine hk_use (by assumption) ?_) | (refine sw_seqk fun _ _ => ?_) | (refine sw_reg ?_) | (refine aops_k fun _ _ => ?_; simp [go_sem]; try go_ints) | refine sw_block ?_ | refine sw_ct rfl ?_ | refine sw_cf rfl ?_ | refine sw_skip ?_ | refine sw_exit ?_ | refine sw_ret ?_ | refine And.intro (by first | omega | rfl) ?_ | simp only [aops, thn, inB, ↓reduceIte, Nat.reduceEqDiff])))
  (refine ⟨.v _, k3, ?_⟩; simp [go_sem]; (repeat (first | (refine hk_use (by assumption) ?_) | (refine sw_seqk fun _ _ => ?_) | (refine sw_reg ?_) | (refine aops_k fun _ _ => ?_; simp [go_sem]; try go_ints) | refine sw_block ?_ | refine sw_ct rfl ?_ | refine sw_cf rfl ?_ | refine sw_skip ?_ | refine sw_exit ?_ | refine sw_ret ?_ | refine And.intro (by first | omega | rfl) ?_ | simp only [aops, thn, inB, ↓reduceIte, Nat.reduceEqDiff])))
  (refine ⟨.v _, k4, ?_⟩; simp [go_sem]; (repeat (first | (refine hk_use (by assumption) ?_) | (refine sw_seqk fun _ _ => ?_) | (refine sw_reg ?_) | (refine aops_k fun _ _ => ?_; simp [go_sem]; try go_ints) | refine sw_block ?_ | refine sw_ct rfl ?_ | refine sw_cf rfl ?_ | refine sw_skip ?_ | refine sw_exit ?_ | refine sw_ret ?_ | refine And.intro (by first | omega | rfl) ?_ | simp only [aops, thn, inB, ↓reduceIte, Nat.reduceEqDiff])))
  (refine ⟨.v _, k5, ?_⟩; simp [go_sem]; (repeat (first | (refine hk_use (by assumption) ?_) | (refine sw_seqk fun _ _ => ?_) | (refine sw_reg ?_) | (refine aops_k fun _ _ => ?_; simp [go_sem]; try go_ints) | refine sw_block ?_ | refine sw_ct rfl ?_ | refine sw_cf rfl ?_ | refine sw_skip ?_ | refine sw_exit ?_ | refine sw_ret ?_ | refine And.intro (by first | omega | rfl) ?_ | simp only [aops, thn, inB, ↓reduceIte, Nat.reduceEqDiff])))
  (refine ⟨.v _, k6, ?_⟩; simp [go_sem]; (repeat (first | (refine hk_use (by assumption) ?_) | (refine sw_seqk fun _ _ => ?_) | (refine sw_reg ?_) | (refine aops_k fun _ _ => ?_; simp [go_sem]; try go_ints) | refine sw_block ?_ | refine sw_ct rfl ?_ | refine sw_cf rfl ?_ | refine sw_skip ?_ | refine sw_exit ?_ | refine sw_ret ?_ | refine And.intro (by first | omega | rfl) ?_ | simp only [aops, thn, inB, ↓reduceIte, Nat.reduceEqDiff])))
  simp [go_sem]

end Go.Proofs.YthmjgbkakjpfkaaGreatDoor
