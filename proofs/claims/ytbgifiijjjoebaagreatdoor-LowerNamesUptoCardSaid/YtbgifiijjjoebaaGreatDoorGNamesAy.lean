/- riddle/syntax: made, Check. No conditions. -/
import Derived.Test.YtbgifiijjjoebaaGreatDoorGNamesAs
import Derived.Test.YtbgifiijjjoebaaGreatDoorGNamesAx
namespace Go.Proofs.YtbgifiijjjoebaaGreatDoor
open Go.RowKit

theorem made1_v (s : ByteArray) (hs : s.size ≤ 9223372036854775807) : Fn Tryz.prog 78 [.c (.s s)] (.c (.b !nameB s)) := by
 refine Fn.intro' Tryz.func78 [.tmp 2] 6 fun _ => ?_
 have k := isname_v s hs; generalize nameB s = p at *
 (repeat first | refine hku ?_ | refine sw_seqk fun _ _ => ?_ | refine sw_reg ?_ | (refine sw_reg2 ?_; conv in reord _ => simp [reord, freeO]) | ((first | refine aops_k fun _ _ => ?_ | with_reducible refine rw_own ?_); simp [go_sem]; try go_ints) | refine sw_block ?_ | refine sw_t ?_ | refine sw_f ?_ | refine sw_e ?_ | refine ai ?_ | simp only [aops, thn, inB, ↓reduceIte, Nat.reduceEqDiff])
 (refine ⟨.v _, k, ?_⟩; simp [go_sem]; (repeat first | refine hku ?_ | refine sw_seqk fun _ _ => ?_ | refine sw_reg ?_ | (refine sw_reg2 ?_; conv in reord _ => simp [reord, freeO]) | ((first | refine aops_k fun _ _ => ?_ | with_reducible refine rw_own ?_); simp [go_sem]; try go_ints) | refine sw_block ?_ | refine sw_t ?_ | refine sw_f ?_ | refine sw_e ?_ | refine ai ?_ | simp only [aops, thn, inB, ↓reduceIte, Nat.reduceEqDiff]))
 simp [go_sem]
theorem made1_ent : enterP Tryz.prog 78 = true := by kernel_rfl
theorem madesB_take (ks : List Tr) (f : Bool) (i : Nat) (h : i < ks.length) : madesB (ks.take (i + 1)) f = (madesB (ks.take i) f && madeB ks[i] f) := by
 rw [madesB_all, madesB_all, List.take_succ_eq_append_getElem h, List.all_append]; simp
theorem madesB_no (ks : List Tr) (f : Bool) (i : Nat) (h : i < ks.length) (hn : madeB ks[i] f = false) : madesB ks f = false := by
 rw [madesB_all]; exact List.all_eq_false.2 ⟨_, List.getElem_mem h, by rw [hn]; decide⟩
set_option maxRecDepth 100000 in
set_option maxHeartbeats 12800000 in
theorem made_v (t : Tr) : ∀ f, Fn Tryz.prog 42 [.g (dTr t), .c (.b f)] (.c (.b (madeB t f))) := by
 refine Tr.ind (P := fun t => ∀ f, Fn Tryz.prog 42 [.g (dTr t), .c (.b f)] (.c (.b (madeB t f)))) (fun k s ns n ks ih f => ?_) t
 refine Fn.intro' Tryz.func42 [.tmp 4] 105 fun hok => ?_
 have hok := hok (.g (dTr (.mk k s ns n ks))) (by simp); have hl := kids_len hok; have hnl := names_len hok; have hsz := name_size hok; have hnz := names_size hok; have k0 := shaped_v k; have k1 := isname_v s hsz
 have k2 := conS_m 78 ns (fun s => !nameB s) hnl made1_ent fun x hx => FnM.of_fn (made1_v x (hnz x hx)) (by intro m; simp [go_sem])
 have k3 := bare_v n; have k4 := zvalid_v n; have h0 := s_ne s
 have hih : ∀ f i (h : i < ks.length), Fn Tryz.prog 42 [.g (dTr ks[i]), .c (.b f)] (.c (.b (madeB ks[i] f))) := fun f i h => ih _ (List.getElem_mem h) f
 have ha : ns.any (fun s => !nameB s) = !ns.all nameB := by
  rw [List.not_all_eq_any_not]
 rw [ha] at k2; clear ha ih hok hsz hnz hnl; obtain ⟨B, hB⟩ : ∃ B, B = madeB (Tr.mk k s ns n ks) f := ⟨_, rfl⟩; rw [← hB, dTr_eq]; simp only [Tr.kind, Tr.name, Tr.names, Tr.n, Tr.kids] at *; simp only [dTr_eq] at hih; rw [madeB] at hB; unfold shC at k0
 cases hs : shp k with
 | none =>
  rw [hs] at k0 hB; simp only at hB; subst hB
  (repeat first | refine hku ?_ | refine sw_seqk fun _ _ => ?_ | refine sw_reg ?_ | (refine sw_reg2 ?_; conv in reord _ => simp [reord, freeO]) | ((first | refine aops_k fun _ _ => ?_ | with_reducible refine rw_own ?_); simp [go_sem]; try go_ints) | refine sw_block ?_ | refine sw_t ?_ | refine sw_f ?_ | refine sw_e ?_ | refine ai ?_ | simp only [aops, thn, inB, ↓reduceIte, Nat.reduceEqDiff])
  (refine ⟨.v _, k0, ?_⟩; simp [go_sem]; (repeat first | refine hku ?_ | refine sw_seqk fun _ _ => ?_ | refine sw_reg ?_ | (refine sw_reg2 ?_; conv in reord _ => simp [reord, freeO]) | ((first | refine aops_k fun _ _ => ?_ | with_reducible refine rw_own ?_); simp [go_sem]; try go_ints) | refine sw_block ?_ | refine sw_t ?_ | refine sw_f ?_ | refine sw_e ?_ | refine ai ?_ | simp only [thn]))
  simp [go_sem]
 | some h =>
  rw [hs] at k0 hB; clear hs; obtain ⟨a1, a2, a3, l1, l2, a6, a7⟩ := h; simp only [Option.isSome_some] at k0 hB; generalize nameB s = p at *; generalize ns.all nameB = q at *; generalize bareB n = b at *; generalize n.ok = v at *
  (repeat first | refine hku ?_ | refine sw_seqk fun _ _ => ?_ | refine sw_reg ?_ | (refine sw_reg2 ?_; conv in reord _ => simp [reord, freeO]) | ((first | refine aops_k fun _ _ => ?_ | with_reducible refine rw_own ?_); simp [go_sem]; try go_ints) | refine sw_block ?_ | refine sw_t ?_ | refine sw_f ?_ | refine sw_e ?_ | refine ai ?_ | simp only [aops, thn, inB, ↓reduceIte, Nat.reduceEqDiff])
  (refine ⟨.v _, k0, ?_⟩; simp [go_sem]; (repeat first | refine hku ?_ | refine sw_seqk fun _ _ => ?_ | refine sw_reg ?_ | (refine sw_reg2 ?_; conv in reord _ => simp [reord, freeO]) | ((first | refine aops_k fun _ _ => ?_ | with_reducible refine rw_own ?_); simp [go_sem]; try go_ints) | refine sw_block ?_ | refine sw_t ?_ | refine sw_f ?_ | refine sw_e ?_ | refine ai ?_ | simp only [aops, thn, inB, ↓reduceIte, Nat.reduceEqDiff]))
  by_cases h7 : ¬ a7 = f
  ·simp [h7]
   (repeat first | refine hku ?_ | refine sw_seqk fun _ _ => ?_ | refine sw_reg ?_ | (refine sw_reg2 ?_; conv in reord _ => simp [reord, freeO]) | ((first | refine aops_k fun _ _ => ?_ | with_reducible refine rw_own ?_); simp [go_sem, h7]; try go_ints) | refine sw_block ?_ | refine sw_t ?_ | refine sw_f ?_ | refine sw_e ?_ | refine ai ?_ | simp only [thn])
   simp [go_sem, hB, h7]
  replace h7 := Classical.not_not.1 h7
  subst h7; simp
  (repeat first | refine hku ?_ | refine sw_seqk fun _ _ => ?_ | refine sw_reg ?_ | (refine sw_reg2 ?_; conv in reord _ => simp [reord, freeO]) | ((first | refine aops_k fun _ _ => ?_ | with_reducible refine rw_own ?_); simp [go_sem]; try go_ints) | refine sw_block ?_ | refine sw_t ?_ | refine sw_f ?_ | refine sw_e ?_ | refine ai ?_ | simp only [aops, thn, inB, ↓reduceIte, Nat.reduceEqDiff])
  by_cases h1 : (ks.length : Int) < l1
  ·simp [h1]
   (repeat first | refine hku ?_ | refine sw_seqk fun _ _ => ?_ | refine sw_reg ?_ | (refine sw_reg2 ?_; conv in reord _ => simp [reord, freeO]) | ((first | refine aops_k fun _ _ => ?_ | with_reducible refine rw_own ?_); simp [go_sem]; try go_ints) | refine sw_block ?_ | refine sw_t ?_ | refine sw_f ?_ | refine sw_e ?_ | refine ai ?_ | simp only [thn])
   have e1 : ¬ l1 ≤ (ks.length : Int) := by omega
   simp [go_sem, hB, e1]
  have e1 : l1 ≤ (ks.length : Int) := by omega
  simp [h1, e1]
  (repeat first | refine hku ?_ | refine sw_seqk fun _ _ => ?_ | refine sw_reg ?_ | (refine sw_reg2 ?_; conv in reord _ => simp [reord, freeO]) | ((first | refine aops_k fun _ _ => ?_ | with_reducible refine rw_own ?_); simp [go_sem]; try go_ints) | refine sw_block ?_ | refine sw_t ?_ | refine sw_f ?_ | refine sw_e ?_ | refine ai ?_ | simp only [aops, thn, inB, ↓reduceIte, Nat.reduceEqDiff])
  replace hB : B = ((decide (l2 < 0) || decide ((ks.length : Int) ≤ l2)) && (a1 == p) && (a1 || decide (s.size = 0)) && (a2 == decide (0 < ns.length)) && q && !n.neg && (a3 || b) && v && madesB ks a6) := by rw [hB]; simp [e1]
  clear e1 h1
  have h23 : (0 ≤ l2 ∧ l2 < (ks.length : Int)) ∨ (0 ≤ l2 ∧ ¬ l2 < (ks.length : Int)) ∨ ¬ 0 ≤ l2 := by omega
  rcases h23 with ⟨h2, h3⟩ | ⟨h2, h3⟩ | h2
  ·have e2 : ¬ l2 < 0 := by omega
   have e3 : ¬ (ks.length : Int) ≤ l2 := by omega
   simp [h2, e2]
   (repeat first | refine hku ?_ | refine sw_seqk fun _ _ => ?_ | refine sw_reg ?_ | (refine sw_reg2 ?_; conv in reord _ => simp [reord, freeO]) | ((first | refine aops_k fun _ _ => ?_ | with_reducible refine rw_own ?_); simp [go_sem, h3]; try go_ints) | refine sw_block ?_ | refine sw_t ?_ | refine sw_f ?_ | refine sw_e ?_ | refine ai ?_ | simp only [thn])
   simp [go_sem, hB, e2, e3]
  have e2 : ¬ l2 < 0 := by omega
  have e3 : (ks.length : Int) ≤ l2 := by omega
  simp [h2, e2]
  (repeat first | refine hku ?_ | refine sw_seqk fun _ _ => ?_ | refine sw_reg ?_ | (refine sw_reg2 ?_; conv in reord _ => simp [reord, freeO]) | ((first | refine aops_k fun _ _ => ?_ | with_reducible refine rw_own ?_); simp [go_sem, h3]; try go_ints) | refine sw_block ?_ | refine sw_t ?_ | refine sw_f ?_ | refine sw_e ?_ | refine ai ?_ | simp only [aops, thn, inB, ↓reduceIte, Nat.reduceEqDiff])
  replace hB : B = ((a1 == p) && (a1 || decide (s.size = 0)) && (a2 == decide (0 < ns.length)) && q && !n.neg && (a3 || b) && v && madesB ks a6) := by
   rw [hB]; simp [e3]
  clear h2 h3 e2 e3
  rotate_left
  have e3 : l2 < 0 := by omega
  simp [h2, e3]
  (repeat first | refine hku ?_ | refine sw_seqk fun _ _ => ?_ | refine sw_reg ?_ | (refine sw_reg2 ?_; conv in reord _ => simp [reord, freeO]) | ((first | refine aops_k fun _ _ => ?_ | with_reducible refine rw_own ?_); simp [go_sem]; try go_ints) | refine sw_block ?_ | refine sw_t ?_ | refine sw_f ?_ | refine sw_e ?_ | refine ai ?_ | simp only [aops, thn, inB, ↓reduceIte, Nat.reduceEqDiff])
  replace hB : B = ((a1 == p) && (a1 || decide (s.size = 0)) && (a2 == decide (0 < ns.length)) && q && !n.neg && (a3 || b) && v && madesB ks a6) := by
   rw [hB]; simp [e3]
  clear h2 e3
  rotate_left
  all_goals
   (refine ⟨.v _, k1, ?_⟩; simp [go_sem]; (repeat first | refine hku ?_ | refine sw_seqk fun _ _ => ?_ | refine sw_reg ?_ | (refine sw_reg2 ?_; conv in reord _ => simp [reord, freeO]) | ((first | refine aops_k fun _ _ => ?_ | with_reducible refine rw_own ?_); simp [go_sem]; try go_ints) | refine sw_block ?_ | refine sw_t ?_ | refine sw_f ?_ | refine sw_e ?_ | refine ai ?_ | simp only [aops, thn, inB, ↓reduceIte, Nat.reduceEqDiff]))
   by_cases h4 : ¬ a1 = p
   ·simp [h4]
    (repeat first | refine hku ?_ | refine sw_seqk fun _ _ => ?_ | refine sw_reg ?_ | (refine sw_reg2 ?_; conv in reord _ => simp [reord, freeO]) | ((first | refine aops_k fun _ _ => ?_ | with_reducible refine rw_own ?_); simp [go_sem, h4]; try go_ints) | refine sw_block ?_ | refine sw_t ?_ | refine sw_f ?_ | refine sw_e ?_ | refine ai ?_ | simp only [thn])
    simp [go_sem, hB, h4]
   replace h4 := Classical.not_not.1 h4
   subst h4; simp
   (repeat first | refine hku ?_ | refine sw_seqk fun _ _ => ?_ | refine sw_reg ?_ | (refine sw_reg2 ?_; conv in reord _ => simp [reord, freeO]) | ((first | refine aops_k fun _ _ => ?_ | with_reducible refine rw_own ?_); simp [go_sem]; try go_ints) | refine sw_block ?_ | refine sw_t ?_ | refine sw_f ?_ | refine sw_e ?_ | refine ai ?_ | simp only [aops, thn, inB, ↓reduceIte, Nat.reduceEqDiff])
   have h5 : (a1 = false ∧ s.size ≠ 0) ∨ (a1 = false ∧ s.size = 0) ∨ a1 = true := by
    cases a1
    ·by_cases h : s.size = 0
     ·exact .inr (.inl ⟨rfl, h⟩)
     ·exact .inl ⟨rfl, h⟩
    ·exact .inr (.inr rfl)
   rcases h5 with ⟨rfl, h5⟩ | ⟨rfl, h5⟩ | rfl
   ·rw [decide_eq_false h5] at h0; simp []
    (repeat first | refine hku ?_ | refine sw_seqk fun _ _ => ?_ | refine sw_reg ?_ | (refine sw_reg2 ?_; conv in reord _ => simp [reord, freeO]) | ((first | refine aops_k fun _ _ => ?_ | with_reducible refine rw_own ?_); simp [go_sem, h0]; try go_ints) | refine sw_block ?_ | refine sw_t ?_ | refine sw_f ?_ | refine sw_e ?_ | refine ai ?_ | simp only [thn])
    simp [go_sem, hB, h5]
   rw [decide_eq_true h5] at h0; simp []
   (repeat first | refine hku ?_ | refine sw_seqk fun _ _ => ?_ | refine sw_reg ?_ | (refine sw_reg2 ?_; conv in reord _ => simp [reord, freeO]) | ((first | refine aops_k fun _ _ => ?_ | with_reducible refine rw_own ?_); simp [go_sem, h0]; try go_ints) | refine sw_block ?_ | refine sw_t ?_ | refine sw_f ?_ | refine sw_e ?_ | refine ai ?_ | simp only [aops, thn, inB, ↓reduceIte, Nat.reduceEqDiff])
   replace hB : B = ((a2 == decide (0 < ns.length)) && q && !n.neg && (a3 || b) && v && madesB ks a6) := by rw [hB]; simp [h5]
   rotate_left
   try simp
   (repeat first | refine hku ?_ | refine sw_seqk fun _ _ => ?_ | refine sw_reg ?_ | (refine sw_reg2 ?_; conv in reord _ => simp [reord, freeO]) | ((first | refine aops_k fun _ _ => ?_ | with_reducible refine rw_own ?_); simp [go_sem]; try go_ints) | refine sw_block ?_ | refine sw_t ?_ | refine sw_f ?_ | refine sw_e ?_ | refine ai ?_ | simp only [aops, thn, inB, ↓reduceIte, Nat.reduceEqDiff])
   replace hB : B = ((a2 == decide (0 < ns.length)) && q && !n.neg && (a3 || b) && v && madesB ks a6) := by rw [hB]; simp
   rotate_left
   all_goals
    clear h0
    by_cases h6 : ¬ a2 = decide (0 < ns.length)
    ·have h7 : (a2 == decide (0 < ns.length)) = false := beq_eq_false_iff_ne.2 h6; rw [h7] at hB
     cases a2
     all_goals
      have h8 : ns = [] ∨ ∃ x r, ns = x :: r := by cases ns with | nil => exact .inl rfl | cons x r => exact .inr ⟨x, r, rfl⟩
      rcases h8 with h8 | ⟨x, r, h8⟩
      all_goals
       simp [h8] at h6
      simp [h8, dSs]
      (repeat first | refine hku ?_ | refine sw_seqk fun _ _ => ?_ | refine sw_reg ?_ | (refine sw_reg2 ?_; conv in reord _ => simp [reord, freeO]) | ((first | refine aops_k fun _ _ => ?_ | with_reducible refine rw_own ?_); simp [go_sem]; try go_ints) | refine sw_block ?_ | refine sw_t ?_ | refine sw_f ?_ | refine sw_e ?_ | refine ai ?_ | simp only [])
      simp [go_sem, hB]
    replace h6 := (Classical.not_not.1 h6).symm
    rw [← dSs_len] at h6 hB; generalize hm : (dSs ns).length = m at h6 hB
    have h10 : decide ((0 : Int) < (m : Int)) = a2 := by rw [← h6]; congr 1; simp
    replace hB : B = (q && !n.neg && (a3 || b) && v && madesB ks a6) := by rw [hB, h6]; simp
    simp [h6]
    (repeat first | refine hku ?_ | refine sw_seqk fun _ _ => ?_ | refine sw_reg ?_ | (refine sw_reg2 ?_; conv in reord _ => simp [reord, freeO]) | ((first | refine aops_k fun _ _ => ?_ | with_reducible refine rw_own ?_); simp [go_sem]; try go_ints) | refine sw_block ?_ | refine sw_t ?_ | refine sw_f ?_ | refine sw_e ?_ | refine ai ?_ | simp only [aops, thn, inB, ↓reduceIte, Nat.reduceEqDiff])
    refine callM_i k2 ?_; simp [go_sem]
    cases q
    ·(repeat first | refine hku ?_ | refine sw_seqk fun _ _ => ?_ | refine sw_reg ?_ | (refine sw_reg2 ?_; conv in reord _ => simp [reord, freeO]) | ((first | refine aops_k fun _ _ => ?_ | with_reducible refine rw_own ?_); simp [go_sem]; try go_ints) | refine sw_block ?_ | refine sw_t ?_ | refine sw_f ?_ | refine sw_e ?_ | refine ai ?_ | simp only [thn])
     simp [go_sem, hB]
    (repeat first | refine hku ?_ | refine sw_seqk fun _ _ => ?_ | refine sw_reg ?_ | (refine sw_reg2 ?_; conv in reord _ => simp [reord, freeO]) | ((first | refine aops_k fun _ _ => ?_ | with_reducible refine rw_own ?_); simp [go_sem]; try go_ints) | refine sw_block ?_ | refine sw_t ?_ | refine sw_f ?_ | refine sw_e ?_ | refine ai ?_ | simp only [aops, thn, inB, ↓reduceIte, Nat.reduceEqDiff])
    replace hB : B = (!n.neg && (a3 || b) && v && madesB ks a6) := by rw [hB]; simp
    clear h6 h10 hm k0 k1 k2 hok; simp only [dZ] at k3 k4
    have h8 : (n.neg = true) ∨ (n.neg = false ∧ a3 = false ∧ b = false) ∨ (n.neg = false ∧ a3 = false ∧ b = true) ∨ (n.neg = false ∧ a3 = true) := by cases n.neg <;> cases a3 <;> cases b <;> simp
    rcases h8 with hn | ⟨hn, rfl, rfl⟩ | ⟨hn, rfl, rfl⟩ | ⟨hn, rfl⟩
    ·simp [hn]
     (repeat first | refine hku ?_ | refine sw_seqk fun _ _ => ?_ | refine sw_reg ?_ | (refine sw_reg2 ?_; conv in reord _ => simp [reord, freeO]) | ((first | refine aops_k fun _ _ => ?_ | with_reducible refine rw_own ?_); simp [go_sem]; try go_ints) | refine sw_block ?_ | refine sw_t ?_ | refine sw_f ?_ | refine sw_e ?_ | refine ai ?_ | simp only [thn])
     simp [go_sem, hB, hn]
    ·rw [hn] at k3; simp [hn]
     (repeat first | refine hku ?_ | refine sw_seqk fun _ _ => ?_ | refine sw_reg ?_ | (refine sw_reg2 ?_; conv in reord _ => simp [reord, freeO]) | ((first | refine aops_k fun _ _ => ?_ | with_reducible refine rw_own ?_); simp [go_sem]; try go_ints) | refine sw_block ?_ | refine sw_t ?_ | refine sw_f ?_ | refine sw_e ?_ | refine ai ?_ | simp only [aops, thn, inB, ↓reduceIte, Nat.reduceEqDiff])
     (refine ⟨.v _, k3, ?_⟩; simp [go_sem]; (repeat first | refine hku ?_ | refine sw_seqk fun _ _ => ?_ | refine sw_reg ?_ | (refine sw_reg2 ?_; conv in reord _ => simp [reord, freeO]) | ((first | refine aops_k fun _ _ => ?_ | with_reducible refine rw_own ?_); simp [go_sem]; try go_ints) | refine sw_block ?_ | refine sw_t ?_ | refine sw_f ?_ | refine sw_e ?_ | refine ai ?_ | simp only [thn]))
     simp [go_sem, hB, hn]
    ·rw [hn] at k3 k4; simp [hn]
     (repeat first | refine hku ?_ | refine sw_seqk fun _ _ => ?_ | refine sw_reg ?_ | (refine sw_reg2 ?_; conv in reord _ => simp [reord, freeO]) | ((first | refine aops_k fun _ _ => ?_ | with_reducible refine rw_own ?_); simp [go_sem]; try go_ints) | refine sw_block ?_ | refine sw_t ?_ | refine sw_f ?_ | refine sw_e ?_ | refine ai ?_ | simp only [aops, thn, inB, ↓reduceIte, Nat.reduceEqDiff])
     (refine ⟨.v _, k3, ?_⟩; simp [go_sem]; (repeat first | refine hku ?_ | refine sw_seqk fun _ _ => ?_ | refine sw_reg ?_ | (refine sw_reg2 ?_; conv in reord _ => simp [reord, freeO]) | ((first | refine aops_k fun _ _ => ?_ | with_reducible refine rw_own ?_); simp [go_sem]; try go_ints) | refine sw_block ?_ | refine sw_t ?_ | refine sw_f ?_ | refine sw_e ?_ | refine ai ?_ | simp only [aops, thn, inB, ↓reduceIte, Nat.reduceEqDiff]))
     (refine ⟨.v _, k4, ?_⟩; simp [go_sem]; (repeat first | refine hku ?_ | refine sw_seqk fun _ _ => ?_ | refine sw_reg ?_ | (refine sw_reg2 ?_; conv in reord _ => simp [reord, freeO]) | ((first | refine aops_k fun _ _ => ?_ | with_reducible refine rw_own ?_); simp [go_sem]; try go_ints) | refine sw_block ?_ | refine sw_t ?_ | refine sw_f ?_ | refine sw_e ?_ | refine ai ?_ | simp only [aops, thn, inB, ↓reduceIte, Nat.reduceEqDiff]))
     cases v
     ·simp
      (repeat first | refine hku ?_ | refine sw_seqk fun _ _ => ?_ | refine sw_reg ?_ | (refine sw_reg2 ?_; conv in reord _ => simp [reord, freeO]) | ((first | refine aops_k fun _ _ => ?_ | with_reducible refine rw_own ?_); simp [go_sem]; try go_ints) | refine sw_block ?_ | refine sw_t ?_ | refine sw_f ?_ | refine sw_e ?_ | refine ai ?_ | simp only [thn])
      simp [go_sem, hB, hn]
     simp
     (repeat first | refine hku ?_ | refine sw_seqk fun _ _ => ?_ | refine sw_reg ?_ | (refine sw_reg2 ?_; conv in reord _ => simp [reord, freeO]) | ((first | refine aops_k fun _ _ => ?_ | with_reducible refine rw_own ?_); simp [go_sem]; try go_ints) | refine sw_block ?_ | refine sw_t ?_ | refine sw_f ?_ | refine sw_e ?_ | refine ai ?_ | simp only [aops, thn, inB, ↓reduceIte, Nat.reduceEqDiff])
     replace hB : B = madesB ks a6 := by rw [hB, hn]; simp
     clear hn
     refine sw_loopv 96 (fun i : Nat => [(95, .c (.i .i64 (i : Int)))]) (fun _ => []) (fun i => i ≤ ks.length ∧ madesB (ks.take i) a6 = true) (fun i => ks.length - i) 0 ⟨Nat.zero_le _, by simp [madesB]⟩ ?_ fun i ⟨hi, ht⟩ => ?_
     ·simp [go_sem]
     ·by_cases hlt : i < ks.length
      ·have k5 := hih a6 i hlt; have h8 := madesB_no ks a6 i hlt; have h9 := madesB_take ks a6 i hlt; generalize madeB ks[i] a6 = e at *
       (repeat first | refine hku ?_ | refine sw_seqk fun _ _ => ?_ | refine sw_reg ?_ | (refine sw_reg2 ?_; conv in reord _ => simp [reord, freeO]) | ((first | refine aops_k fun _ _ => ?_ | with_reducible refine rw_own ?_); simp [go_sem, hlt]; try go_ints) | refine sw_block ?_ | refine sw_t ?_ | refine sw_f ?_ | refine sw_e ?_ | refine ai ?_ | simp only [aops, thn, inB, ↓reduceIte, Nat.reduceEqDiff])
       (refine ⟨.v _, k5, ?_⟩; simp [go_sem]; (repeat first | refine hku ?_ | refine sw_seqk fun _ _ => ?_ | refine sw_reg ?_ | (refine sw_reg2 ?_; conv in reord _ => simp [reord, freeO]) | ((first | refine aops_k fun _ _ => ?_ | with_reducible refine rw_own ?_); simp [go_sem]; try go_ints) | refine sw_block ?_ | refine sw_t ?_ | refine sw_f ?_ | refine sw_e ?_ | refine ai ?_ | simp only [aops, thn, inB, ↓reduceIte, Nat.reduceEqDiff]))
       cases e
       ·simp
        (repeat first | refine hku ?_ | refine sw_seqk fun _ _ => ?_ | refine sw_reg ?_ | (refine sw_reg2 ?_; conv in reord _ => simp [reord, freeO]) | ((first | refine aops_k fun _ _ => ?_ | with_reducible refine rw_own ?_); simp [go_sem]; try go_ints) | refine sw_block ?_ | refine sw_t ?_ | refine sw_f ?_ | refine sw_e ?_ | refine ai ?_ | simp only [thn, inB])
        simp [go_sem, hB, h8 rfl]
       ·simp
        (repeat first | refine hku ?_ | refine sw_seqk fun _ _ => ?_ | refine sw_reg ?_ | (refine sw_reg2 ?_; conv in reord _ => simp [reord, freeO]) | ((first | refine aops_k fun _ _ => ?_ | with_reducible refine rw_own ?_); simp [go_sem]; try go_ints) | refine sw_block ?_ | refine sw_t ?_ | refine sw_f ?_ | refine sw_e ?_ | refine ai ?_ | simp only [aops, thn])
        refine ⟨i + 1, ⟨by omega, by rw [h9, ht]; rfl⟩, by omega, ?_⟩; simp [go_sem]
      ·have : i = ks.length := by omega
       subst this; rw [List.take_length] at ht
       (repeat first | refine hku ?_ | refine sw_seqk fun _ _ => ?_ | refine sw_reg ?_ | (refine sw_reg2 ?_; conv in reord _ => simp [reord, freeO]) | ((first | refine aops_k fun _ _ => ?_ | with_reducible refine rw_own ?_); simp [go_sem]; try go_ints) | refine sw_block ?_ | refine sw_t ?_ | refine sw_f ?_ | refine sw_e ?_ | refine ai ?_ | simp only [aops, thn, inB, ↓reduceIte, Nat.reduceEqDiff])
       simp [go_sem, hB, ht]
    ·rw [hn] at k4; simp [hn]
     (repeat first | refine hku ?_ | refine sw_seqk fun _ _ => ?_ | refine sw_reg ?_ | (refine sw_reg2 ?_; conv in reord _ => simp [reord, freeO]) | ((first | refine aops_k fun _ _ => ?_ | with_reducible refine rw_own ?_); simp [go_sem]; try go_ints) | refine sw_block ?_ | refine sw_t ?_ | refine sw_f ?_ | refine sw_e ?_ | refine ai ?_ | simp only [aops, thn, inB, ↓reduceIte, Nat.reduceEqDiff])
     (refine ⟨.v _, k4, ?_⟩; simp [go_sem]; (repeat first | refine hku ?_ | refine sw_seqk fun _ _ => ?_ | refine sw_reg ?_ | (refine sw_reg2 ?_; conv in reord _ => simp [reord, freeO]) | ((first | refine aops_k fun _ _ => ?_ | with_reducible refine rw_own ?_); simp [go_sem]; try go_ints) | refine sw_block ?_ | refine sw_t ?_ | refine sw_f ?_ | refine sw_e ?_ | refine ai ?_ | simp only [aops, thn, inB, ↓reduceIte, Nat.reduceEqDiff]))
     cases v
     ·simp
      (repeat first | refine hku ?_ | refine sw_seqk fun _ _ => ?_ | refine sw_reg ?_ | (refine sw_reg2 ?_; conv in reord _ => simp [reord, freeO]) | ((first | refine aops_k fun _ _ => ?_ | with_reducible refine rw_own ?_); simp [go_sem]; try go_ints) | refine sw_block ?_ | refine sw_t ?_ | refine sw_f ?_ | refine sw_e ?_ | refine ai ?_ | simp only [thn])
      simp [go_sem, hB, hn]
     simp
     (repeat first | refine hku ?_ | refine sw_seqk fun _ _ => ?_ | refine sw_reg ?_ | (refine sw_reg2 ?_; conv in reord _ => simp [reord, freeO]) | ((first | refine aops_k fun _ _ => ?_ | with_reducible refine rw_own ?_); simp [go_sem]; try go_ints) | refine sw_block ?_ | refine sw_t ?_ | refine sw_f ?_ | refine sw_e ?_ | refine ai ?_ | simp only [aops, thn, inB, ↓reduceIte, Nat.reduceEqDiff])
     replace hB : B = madesB ks a6 := by rw [hB, hn]; simp
     clear hn
     refine sw_loopv 96 (fun i : Nat => [(95, .c (.i .i64 (i : Int)))]) (fun _ => []) (fun i => i ≤ ks.length ∧ madesB (ks.take i) a6 = true) (fun i => ks.length - i) 0 ⟨Nat.zero_le _, by simp [madesB]⟩ ?_ fun i ⟨hi, ht⟩ => ?_
     ·simp [go_sem]
     ·by_cases hlt : i < ks.length
      ·have k5 := hih a6 i hlt; have h8 := madesB_no ks a6 i hlt; have h9 := madesB_take ks a6 i hlt; generalize madeB ks[i] a6 = e at *
       (repeat first | refine hku ?_ | refine sw_seqk fun _ _ => ?_ | refine sw_reg ?_ | (refine sw_reg2 ?_; conv in reord _ => simp [reord, freeO]) | ((first | refine aops_k fun _ _ => ?_ | with_reducible refine rw_own ?_); simp [go_sem, hlt]; try go_ints) | refine sw_block ?_ | refine sw_t ?_ | refine sw_f ?_ | refine sw_e ?_ | refine ai ?_ | simp only [aops, thn, inB, ↓reduceIte, Nat.reduceEqDiff])
       (refine ⟨.v _, k5, ?_⟩; simp [go_sem]; (repeat first | refine hku ?_ | refine sw_seqk fun _ _ => ?_ | refine sw_reg ?_ | (refine sw_reg2 ?_; conv in reord _ => simp [reord, freeO]) | ((first | refine aops_k fun _ _ => ?_ | with_reducible refine rw_own ?_); simp [go_sem]; try go_ints) | refine sw_block ?_ | refine sw_t ?_ | refine sw_f ?_ | refine sw_e ?_ | refine ai ?_ | simp only [aops, thn, inB, ↓reduceIte, Nat.reduceEqDiff]))
       cases e
       ·simp
        (repeat first | refine hku ?_ | refine sw_seqk fun _ _ => ?_ | refine sw_reg ?_ | (refine sw_reg2 ?_; conv in reord _ => simp [reord, freeO]) | ((first | refine aops_k fun _ _ => ?_ | with_reducible refine rw_own ?_); simp [go_sem]; try go_ints) | refine sw_block ?_ | refine sw_t ?_ | refine sw_f ?_ | refine sw_e ?_ | refine ai ?_ | simp only [thn, inB])
        simp [go_sem, hB, h8 rfl]
       ·simp
        (repeat first | refine hku ?_ | refine sw_seqk fun _ _ => ?_ | refine sw_reg ?_ | (refine sw_reg2 ?_; conv in reord _ => simp [reord, freeO]) | ((first | refine aops_k fun _ _ => ?_ | with_reducible refine rw_own ?_); simp [go_sem]; try go_ints) | refine sw_block ?_ | refine sw_t ?_ | refine sw_f ?_ | refine sw_e ?_ | refine ai ?_ | simp only [aops, thn])
        refine ⟨i + 1, ⟨by omega, by rw [h9, ht]; rfl⟩, by omega, ?_⟩; simp [go_sem]
      ·have : i = ks.length := by omega
       subst this; rw [List.take_length] at ht
       (repeat first | refine hku ?_ | refine sw_seqk fun _ _ => ?_ | refine sw_reg ?_ | (refine sw_reg2 ?_; conv in reord _ => simp [reord, freeO]) | ((first | refine aops_k fun _ _ => ?_ | with_reducible refine rw_own ?_); simp [go_sem]; try go_ints) | refine sw_block ?_ | refine sw_t ?_ | refine sw_f ?_ | refine sw_e ?_ | refine ai ?_ | simp only [aops, thn, inB, ↓reduceIte, Nat.reduceEqDiff])
       simp [go_sem, hB, ht]
end Go.Proofs.YtbgifiijjjoebaaGreatDoor
