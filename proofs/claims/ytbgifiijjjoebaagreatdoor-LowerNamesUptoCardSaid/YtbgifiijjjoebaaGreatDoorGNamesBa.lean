/- riddleref04.May: kind 21. No conditions. riddleref04.May: kind 22. No conditions. riddleref04.May: the other kinds. No conditions. riddleref04: in, free. No conditions. -/
import Derived.Test.YtbgifiijjjoebaaGreatDoorGNamesAs
namespace Go.Proofs.YtbgifiijjjoebaaGreatDoor
open Go.RowKit

set_option maxRecDepth 100000 in
set_option maxHeartbeats 12800000 in
theorem rmay_k21 (s : ByteArray) (ns : List ByteArray) (n : Z) (ks : List Tr) (ih : ∀ t ∈ ks, Fn Tryz.prog 37 [.g (dTr t)] (.c (.b (mayR t)))) : Fn Tryz.prog 37 [.g (dTr (.mk 21 s ns n ks))] (.c (.b (mayR (.mk 21 s ns n ks)))) := by
  refine Fn.intro' Tryz.func37 [.tmp 2] 120 fun hok => ?_
  have hok := hok (.g (dTr (.mk 21 s ns n ks))) (by simp); have hl := kids_len hok; have hsz := name_size hok; have k1 := risname_v s hsz; have k2 := rnames_v ns; have k3 := rstands_v n; have k4 := rzero_v n; have k5 := rkids_v 21 (by omega); have h0 := s_em s
  have hih : ∀ i (h : i < ks.length), Fn Tryz.prog 37 [.g (dTr ks[i])] (.c (.b (mayR ks[i]))) := fun i h => ih _ (List.getElem_mem h)
  obtain ⟨B, hB0⟩ : ∃ B, B = mayR (Tr.mk 21 s ns n ks) := ⟨_, rfl⟩; rw [← hB0, dTr_eq]; simp only [Tr.kind, Tr.name, Tr.names, Tr.n, Tr.kids] at *; simp only [dTr_eq] at hih; clear ih hok hsz; obtain ⟨⟨l1, l2, tm⟩, hkd⟩ : ∃ p, kidsR 21 = p := ⟨_, rfl⟩
  have hB : B = (decide (s.size = 0) && (ns.all nameB && decide (0 < ns.length)) && bareB n && decide ((l1 : Int) ≤ (ks.length : Int)) && (decide ((l2 : Int) < 0) || decide ((ks.length : Int) ≤ (l2 : Int))) && maysR ks tm) := by rw [hB0, mayR, hkd]; rfl
  rw [hkd] at k5; simp only at k5; clear hB0
  (repeat first | refine hku ?_ | refine sw_seqk fun _ _ => ?_ | refine sw_reg ?_ | (refine sw_reg2 ?_; conv in reord _ => simp [reord, freeO]) | ((first | refine aops_k fun _ _ => ?_ | with_reducible refine rw_own ?_); simp [go_sem]; try go_ints) | refine sw_block ?_ | refine sw_t ?_ | refine sw_f ?_ | refine sw_e ?_ | refine ai ?_ | simp only [aops, thn, inB, ↓reduceIte, Nat.reduceEqDiff])
  by_cases hs : s.size = 0
  rotate_left
  · rw [decide_eq_false hs] at h0; simp [h0]
    (repeat first | refine hku ?_ | refine sw_seqk fun _ _ => ?_ | refine sw_reg ?_ | (refine sw_reg2 ?_; conv in reord _ => simp [reord, freeO]) | ((first | refine aops_k fun _ _ => ?_ | with_reducible refine rw_own ?_); simp [go_sem]; try go_ints) | refine sw_block ?_ | refine sw_t ?_ | refine sw_f ?_ | refine sw_e ?_ | refine ai ?_ | simp only [thn])
    simp [go_sem, hB, hs]
  rw [decide_eq_true hs] at h0; simp [h0]
  (repeat first | refine hku ?_ | refine sw_seqk fun _ _ => ?_ | refine sw_reg ?_ | (refine sw_reg2 ?_; conv in reord _ => simp [reord, freeO]) | ((first | refine aops_k fun _ _ => ?_ | with_reducible refine rw_own ?_); simp [go_sem]; try go_ints) | refine sw_block ?_ | refine sw_t ?_ | refine sw_f ?_ | refine sw_e ?_ | refine ai ?_ | simp only [aops, thn, inB, ↓reduceIte, Nat.reduceEqDiff])
  generalize (ns.all nameB && decide (0 < ns.length)) = a at k2 hB
  (refine ⟨.v _, k2, ?_⟩; simp [go_sem]; (repeat first | refine hku ?_ | refine sw_seqk fun _ _ => ?_ | refine sw_reg ?_ | (refine sw_reg2 ?_; conv in reord _ => simp [reord, freeO]) | ((first | refine aops_k fun _ _ => ?_ | with_reducible refine rw_own ?_); simp [go_sem]; try go_ints) | refine sw_block ?_ | refine sw_t ?_ | refine sw_f ?_ | refine sw_e ?_ | refine ai ?_ | simp only [aops, thn, inB, ↓reduceIte, Nat.reduceEqDiff]))
  cases a
  · try simp
    (repeat first | refine hku ?_ | refine sw_seqk fun _ _ => ?_ | refine sw_reg ?_ | (refine sw_reg2 ?_; conv in reord _ => simp [reord, freeO]) | ((first | refine aops_k fun _ _ => ?_ | with_reducible refine rw_own ?_); simp [go_sem]; try go_ints) | refine sw_block ?_ | refine sw_t ?_ | refine sw_f ?_ | refine sw_e ?_ | refine ai ?_ | simp only [thn])
    simp [go_sem, hB]
  try simp
  (repeat first | refine hku ?_ | refine sw_seqk fun _ _ => ?_ | refine sw_reg ?_ | (refine sw_reg2 ?_; conv in reord _ => simp [reord, freeO]) | ((first | refine aops_k fun _ _ => ?_ | with_reducible refine rw_own ?_); simp [go_sem]; try go_ints) | refine sw_block ?_ | refine sw_t ?_ | refine sw_f ?_ | refine sw_e ?_ | refine ai ?_ | simp only [aops, thn, inB, ↓reduceIte, Nat.reduceEqDiff])
  generalize bareB n = a at k4 hB
  (refine ⟨.v _, k4, ?_⟩; simp [go_sem]; (repeat first | refine hku ?_ | refine sw_seqk fun _ _ => ?_ | refine sw_reg ?_ | (refine sw_reg2 ?_; conv in reord _ => simp [reord, freeO]) | ((first | refine aops_k fun _ _ => ?_ | with_reducible refine rw_own ?_); simp [go_sem]; try go_ints) | refine sw_block ?_ | refine sw_t ?_ | refine sw_f ?_ | refine sw_e ?_ | refine ai ?_ | simp only [aops, thn, inB, ↓reduceIte, Nat.reduceEqDiff]))
  cases a
  · try simp
    (repeat first | refine hku ?_ | refine sw_seqk fun _ _ => ?_ | refine sw_reg ?_ | (refine sw_reg2 ?_; conv in reord _ => simp [reord, freeO]) | ((first | refine aops_k fun _ _ => ?_ | with_reducible refine rw_own ?_); simp [go_sem]; try go_ints) | refine sw_block ?_ | refine sw_t ?_ | refine sw_f ?_ | refine sw_e ?_ | refine ai ?_ | simp only [thn])
    simp [go_sem, hB]
  try simp
  (repeat first | refine hku ?_ | refine sw_seqk fun _ _ => ?_ | refine sw_reg ?_ | (refine sw_reg2 ?_; conv in reord _ => simp [reord, freeO]) | ((first | refine aops_k fun _ _ => ?_ | with_reducible refine rw_own ?_); simp [go_sem]; try go_ints) | refine sw_block ?_ | refine sw_t ?_ | refine sw_f ?_ | refine sw_e ?_ | refine ai ?_ | simp only [aops, thn, inB, ↓reduceIte, Nat.reduceEqDiff])
  (refine ⟨.v _, k5, ?_⟩; simp [go_sem]; (repeat first | refine hku ?_ | refine sw_seqk fun _ _ => ?_ | refine sw_reg ?_ | (refine sw_reg2 ?_; conv in reord _ => simp [reord, freeO]) | ((first | refine aops_k fun _ _ => ?_ | with_reducible refine rw_own ?_); simp [go_sem]; try go_ints) | refine sw_block ?_ | refine sw_t ?_ | refine sw_f ?_ | refine sw_e ?_ | refine ai ?_ | simp only [aops, thn, inB, ↓reduceIte, Nat.reduceEqDiff]))
  replace hB : B = (decide ((l1 : Int) ≤ (ks.length : Int)) && (decide ((l2 : Int) < 0) || decide ((ks.length : Int) ≤ (l2 : Int))) && maysR ks tm) := by rw [hB]; simp [hs]
  by_cases h1 : (ks.length : Int) < l1
  · first
    | (exfalso; omega)
    | (have e1 : ¬ (l1 : Int) ≤ (ks.length : Int) := by omega
       try simp [h1, e1]
       (repeat first | refine hku ?_ | refine sw_seqk fun _ _ => ?_ | refine sw_reg ?_ | (refine sw_reg2 ?_; conv in reord _ => simp [reord, freeO]) | ((first | refine aops_k fun _ _ => ?_ | with_reducible refine rw_own ?_); simp [go_sem]; try go_ints) | refine sw_block ?_ | refine sw_t ?_ | refine sw_f ?_ | refine sw_e ?_ | refine ai ?_ | simp only [thn])
       simp [go_sem, hB, e1])
  have e1 : (l1 : Int) ≤ (ks.length : Int) := by omega
  try simp [h1, e1]
  (repeat first | refine hku ?_ | refine sw_seqk fun _ _ => ?_ | refine sw_reg ?_ | (refine sw_reg2 ?_; conv in reord _ => simp [reord, freeO]) | ((first | refine aops_k fun _ _ => ?_ | with_reducible refine rw_own ?_); simp [go_sem]; try go_ints) | refine sw_block ?_ | refine sw_t ?_ | refine sw_f ?_ | refine sw_e ?_ | refine ai ?_ | simp only [aops, thn, inB, ↓reduceIte, Nat.reduceEqDiff])
  have h23 : ((0 : Int) ≤ l2 ∧ l2 < (ks.length : Int)) ∨ ((0 : Int) ≤ l2 ∧ ¬ l2 < (ks.length : Int)) ∨ ¬ (0 : Int) ≤ l2 := by omega
  rcases h23 with ⟨h2, h3⟩ | ⟨h2, h3⟩ | h2
  · have e2 : ¬ (l2 : Int) < 0 := by omega
    have e3 : ¬ (ks.length : Int) ≤ l2 := by omega
    have hBf : B = false := by rw [hB, decide_eq_false e2, decide_eq_false e3]; simp
    try simp [h2, e2]
    (repeat first | refine hku ?_ | refine sw_seqk fun _ _ => ?_ | refine sw_reg ?_ | (refine sw_reg2 ?_; conv in reord _ => simp [reord, freeO]) | ((first | refine aops_k fun _ _ => ?_ | with_reducible refine rw_own ?_); simp [go_sem, h3]; try go_ints) | refine sw_block ?_ | refine sw_t ?_ | refine sw_f ?_ | refine sw_e ?_ | refine ai ?_ | simp only [thn])
    simp [go_sem, hBf]
  have e2 : ¬ (l2 : Int) < 0 := by omega
  have e3 : (ks.length : Int) ≤ l2 := by omega
  replace hB : B = maysR ks tm := by rw [hB, decide_eq_true e1, decide_eq_true e3]; simp
  try simp [h2, e2]
  (repeat first | refine hku ?_ | refine sw_seqk fun _ _ => ?_ | refine sw_reg ?_ | (refine sw_reg2 ?_; conv in reord _ => simp [reord, freeO]) | ((first | refine aops_k fun _ _ => ?_ | with_reducible refine rw_own ?_); simp [go_sem, h3]; try go_ints) | refine sw_block ?_ | refine sw_t ?_ | refine sw_f ?_ | refine sw_e ?_ | refine ai ?_ | simp only [aops, thn, inB, ↓reduceIte, Nat.reduceEqDiff])
  rotate_left
  have e2 : (l2 : Int) < 0 := by omega
  replace hB : B = maysR ks tm := by rw [hB, decide_eq_true e1, decide_eq_true e2]; simp
  try simp [h2, e2]
  (repeat first | refine hku ?_ | refine sw_seqk fun _ _ => ?_ | refine sw_reg ?_ | (refine sw_reg2 ?_; conv in reord _ => simp [reord, freeO]) | ((first | refine aops_k fun _ _ => ?_ | with_reducible refine rw_own ?_); simp [go_sem]; try go_ints) | refine sw_block ?_ | refine sw_t ?_ | refine sw_f ?_ | refine sw_e ?_ | refine ai ?_ | simp only [aops, thn, inB, ↓reduceIte, Nat.reduceEqDiff])
  all_goals
    refine sw_loopv 10 (fun i : Nat => [(9, .c (.i .i64 (i : Int)))]) (fun _ => []) (fun i => i ≤ ks.length ∧ maysR (ks.take i) tm = true) (fun i => ks.length - i) 0 ⟨Nat.zero_le _, by simp [maysR]⟩ ?_ fun i ⟨hi, ht⟩ => ?_
    · simp [go_sem]
    · by_cases hlt : i < ks.length
      · have k6 := hih i hlt; have k7 := rterm_v ks[i].kind; have h8 := maysR_no ks tm i hlt; have h9 := maysR_take ks tm i hlt; generalize mayR ks[i] = e at *; generalize termB ks[i].kind = g at *
        (repeat first | refine hku ?_ | refine sw_seqk fun _ _ => ?_ | refine sw_reg ?_ | (refine sw_reg2 ?_; conv in reord _ => simp [reord, freeO]) | ((first | refine aops_k fun _ _ => ?_ | with_reducible refine rw_own ?_); simp [go_sem, hlt]; try go_ints) | refine sw_block ?_ | refine sw_t ?_ | refine sw_f ?_ | refine sw_e ?_ | refine ai ?_ | simp only [aops, thn, inB, ↓reduceIte, Nat.reduceEqDiff])
        (refine ⟨.v _, k7, ?_⟩; simp [go_sem]; (repeat first | refine hku ?_ | refine sw_seqk fun _ _ => ?_ | refine sw_reg ?_ | (refine sw_reg2 ?_; conv in reord _ => simp [reord, freeO]) | ((first | refine aops_k fun _ _ => ?_ | with_reducible refine rw_own ?_); simp [go_sem, hlt]; try go_ints) | refine sw_block ?_ | refine sw_t ?_ | refine sw_f ?_ | refine sw_e ?_ | refine ai ?_ | simp only [aops, thn, inB, ↓reduceIte, Nat.reduceEqDiff]))
        (refine ⟨.v _, k6, ?_⟩; simp [go_sem]; (repeat first | refine hku ?_ | refine sw_seqk fun _ _ => ?_ | refine sw_reg ?_ | (refine sw_reg2 ?_; conv in reord _ => simp [reord, freeO]) | ((first | refine aops_k fun _ _ => ?_ | with_reducible refine rw_own ?_); simp [go_sem]; try go_ints) | refine sw_block ?_ | refine sw_t ?_ | refine sw_f ?_ | refine sw_e ?_ | refine ai ?_ | simp only [aops, thn, inB, ↓reduceIte, Nat.reduceEqDiff]))
        cases e <;> cases g <;> cases tm
        all_goals
          try simp
          (repeat first | refine hku ?_ | refine sw_seqk fun _ _ => ?_ | refine sw_reg ?_ | (refine sw_reg2 ?_; conv in reord _ => simp [reord, freeO]) | ((first | refine aops_k fun _ _ => ?_ | with_reducible refine rw_own ?_); simp [go_sem]; try go_ints) | refine sw_block ?_ | refine sw_t ?_ | refine sw_f ?_ | refine sw_e ?_ | refine ai ?_ | simp only [aops, thn, inB])
          first
          | (refine ⟨i + 1, ⟨by omega, by rw [h9, ht]; rfl⟩, by omega, ?_⟩; simp [go_sem]; done)
          | (simp [go_sem, hB, h8 rfl]; done)
      · have : i = ks.length := by omega
        subst this; rw [List.take_length] at ht
        (repeat first | refine hku ?_ | refine sw_seqk fun _ _ => ?_ | refine sw_reg ?_ | (refine sw_reg2 ?_; conv in reord _ => simp [reord, freeO]) | ((first | refine aops_k fun _ _ => ?_ | with_reducible refine rw_own ?_); simp [go_sem]; try go_ints) | refine sw_block ?_ | refine sw_t ?_ | refine sw_f ?_ | refine sw_e ?_ | refine ai ?_ | simp only [aops, thn, inB, ↓reduceIte, Nat.reduceEqDiff])
        simp [go_sem, hB, ht]
end Go.Proofs.YtbgifiijjjoebaaGreatDoor

namespace Go.Proofs.YtbgifiijjjoebaaGreatDoor
open Go.RowKit

set_option maxRecDepth 100000 in
set_option maxHeartbeats 12800000 in
theorem rmay_k22 (s : ByteArray) (ns : List ByteArray) (n : Z) (ks : List Tr) (ih : ∀ t ∈ ks, Fn Tryz.prog 37 [.g (dTr t)] (.c (.b (mayR t)))) : Fn Tryz.prog 37 [.g (dTr (.mk 22 s ns n ks))] (.c (.b (mayR (.mk 22 s ns n ks)))) := by
  refine Fn.intro' Tryz.func37 [.tmp 2] 120 fun hok => ?_
  have hok := hok (.g (dTr (.mk 22 s ns n ks))) (by simp); have hl := kids_len hok; have hsz := name_size hok; have k1 := risname_v s hsz; have k2 := rnames_v ns; have k3 := rstands_v n; have k4 := rzero_v n; have k5 := rkids_v 22 (by omega); have h0 := s_em s
  have hih : ∀ i (h : i < ks.length), Fn Tryz.prog 37 [.g (dTr ks[i])] (.c (.b (mayR ks[i]))) := fun i h => ih _ (List.getElem_mem h)
  obtain ⟨B, hB0⟩ : ∃ B, B = mayR (Tr.mk 22 s ns n ks) := ⟨_, rfl⟩; rw [← hB0, dTr_eq]; simp only [Tr.kind, Tr.name, Tr.names, Tr.n, Tr.kids] at *; simp only [dTr_eq] at hih; clear ih hok hsz; obtain ⟨⟨l1, l2, tm⟩, hkd⟩ : ∃ p, kidsR 22 = p := ⟨_, rfl⟩
  have hB : B = (decide (s.size = 0) && (ns.all nameB && decide (0 < ns.length)) && bareB n && decide ((l1 : Int) ≤ (ks.length : Int)) && (decide ((l2 : Int) < 0) || decide ((ks.length : Int) ≤ (l2 : Int))) && maysR ks tm) := by rw [hB0, mayR, hkd]; rfl
  rw [hkd] at k5; simp only at k5; clear hB0
  (repeat first | refine hku ?_ | refine sw_seqk fun _ _ => ?_ | refine sw_reg ?_ | (refine sw_reg2 ?_; conv in reord _ => simp [reord, freeO]) | ((first | refine aops_k fun _ _ => ?_ | with_reducible refine rw_own ?_); simp [go_sem]; try go_ints) | refine sw_block ?_ | refine sw_t ?_ | refine sw_f ?_ | refine sw_e ?_ | refine ai ?_ | simp only [aops, thn, inB, ↓reduceIte, Nat.reduceEqDiff])
  by_cases hs : s.size = 0
  rotate_left
  · rw [decide_eq_false hs] at h0; simp [h0]
    (repeat first | refine hku ?_ | refine sw_seqk fun _ _ => ?_ | refine sw_reg ?_ | (refine sw_reg2 ?_; conv in reord _ => simp [reord, freeO]) | ((first | refine aops_k fun _ _ => ?_ | with_reducible refine rw_own ?_); simp [go_sem]; try go_ints) | refine sw_block ?_ | refine sw_t ?_ | refine sw_f ?_ | refine sw_e ?_ | refine ai ?_ | simp only [thn])
    simp [go_sem, hB, hs]
  rw [decide_eq_true hs] at h0; simp [h0]
  (repeat first | refine hku ?_ | refine sw_seqk fun _ _ => ?_ | refine sw_reg ?_ | (refine sw_reg2 ?_; conv in reord _ => simp [reord, freeO]) | ((first | refine aops_k fun _ _ => ?_ | with_reducible refine rw_own ?_); simp [go_sem]; try go_ints) | refine sw_block ?_ | refine sw_t ?_ | refine sw_f ?_ | refine sw_e ?_ | refine ai ?_ | simp only [aops, thn, inB, ↓reduceIte, Nat.reduceEqDiff])
  generalize (ns.all nameB && decide (0 < ns.length)) = a at k2 hB
  (refine ⟨.v _, k2, ?_⟩; simp [go_sem]; (repeat first | refine hku ?_ | refine sw_seqk fun _ _ => ?_ | refine sw_reg ?_ | (refine sw_reg2 ?_; conv in reord _ => simp [reord, freeO]) | ((first | refine aops_k fun _ _ => ?_ | with_reducible refine rw_own ?_); simp [go_sem]; try go_ints) | refine sw_block ?_ | refine sw_t ?_ | refine sw_f ?_ | refine sw_e ?_ | refine ai ?_ | simp only [aops, thn, inB, ↓reduceIte, Nat.reduceEqDiff]))
  cases a
  · try simp
    (repeat first | refine hku ?_ | refine sw_seqk fun _ _ => ?_ | refine sw_reg ?_ | (refine sw_reg2 ?_; conv in reord _ => simp [reord, freeO]) | ((first | refine aops_k fun _ _ => ?_ | with_reducible refine rw_own ?_); simp [go_sem]; try go_ints) | refine sw_block ?_ | refine sw_t ?_ | refine sw_f ?_ | refine sw_e ?_ | refine ai ?_ | simp only [thn])
    simp [go_sem, hB]
  try simp
  (repeat first | refine hku ?_ | refine sw_seqk fun _ _ => ?_ | refine sw_reg ?_ | (refine sw_reg2 ?_; conv in reord _ => simp [reord, freeO]) | ((first | refine aops_k fun _ _ => ?_ | with_reducible refine rw_own ?_); simp [go_sem]; try go_ints) | refine sw_block ?_ | refine sw_t ?_ | refine sw_f ?_ | refine sw_e ?_ | refine ai ?_ | simp only [aops, thn, inB, ↓reduceIte, Nat.reduceEqDiff])
  generalize bareB n = a at k4 hB
  (refine ⟨.v _, k4, ?_⟩; simp [go_sem]; (repeat first | refine hku ?_ | refine sw_seqk fun _ _ => ?_ | refine sw_reg ?_ | (refine sw_reg2 ?_; conv in reord _ => simp [reord, freeO]) | ((first | refine aops_k fun _ _ => ?_ | with_reducible refine rw_own ?_); simp [go_sem]; try go_ints) | refine sw_block ?_ | refine sw_t ?_ | refine sw_f ?_ | refine sw_e ?_ | refine ai ?_ | simp only [aops, thn, inB, ↓reduceIte, Nat.reduceEqDiff]))
  cases a
  · try simp
    (repeat first | refine hku ?_ | refine sw_seqk fun _ _ => ?_ | refine sw_reg ?_ | (refine sw_reg2 ?_; conv in reord _ => simp [reord, freeO]) | ((first | refine aops_k fun _ _ => ?_ | with_reducible refine rw_own ?_); simp [go_sem]; try go_ints) | refine sw_block ?_ | refine sw_t ?_ | refine sw_f ?_ | refine sw_e ?_ | refine ai ?_ | simp only [thn])
    simp [go_sem, hB]
  try simp
  (repeat first | refine hku ?_ | refine sw_seqk fun _ _ => ?_ | refine sw_reg ?_ | (refine sw_reg2 ?_; conv in reord _ => simp [reord, freeO]) | ((first | refine aops_k fun _ _ => ?_ | with_reducible refine rw_own ?_); simp [go_sem]; try go_ints) | refine sw_block ?_ | refine sw_t ?_ | refine sw_f ?_ | refine sw_e ?_ | refine ai ?_ | simp only [aops, thn, inB, ↓reduceIte, Nat.reduceEqDiff])
  (refine ⟨.v _, k5, ?_⟩; simp [go_sem]; (repeat first | refine hku ?_ | refine sw_seqk fun _ _ => ?_ | refine sw_reg ?_ | (refine sw_reg2 ?_; conv in reord _ => simp [reord, freeO]) | ((first | refine aops_k fun _ _ => ?_ | with_reducible refine rw_own ?_); simp [go_sem]; try go_ints) | refine sw_block ?_ | refine sw_t ?_ | refine sw_f ?_ | refine sw_e ?_ | refine ai ?_ | simp only [aops, thn, inB, ↓reduceIte, Nat.reduceEqDiff]))
  replace hB : B = (decide ((l1 : Int) ≤ (ks.length : Int)) && (decide ((l2 : Int) < 0) || decide ((ks.length : Int) ≤ (l2 : Int))) && maysR ks tm) := by rw [hB]; simp [hs]
  by_cases h1 : (ks.length : Int) < l1
  · first
    | (exfalso; omega)
    | (have e1 : ¬ (l1 : Int) ≤ (ks.length : Int) := by omega
       try simp [h1, e1]
       (repeat first | refine hku ?_ | refine sw_seqk fun _ _ => ?_ | refine sw_reg ?_ | (refine sw_reg2 ?_; conv in reord _ => simp [reord, freeO]) | ((first | refine aops_k fun _ _ => ?_ | with_reducible refine rw_own ?_); simp [go_sem]; try go_ints) | refine sw_block ?_ | refine sw_t ?_ | refine sw_f ?_ | refine sw_e ?_ | refine ai ?_ | simp only [thn])
       simp [go_sem, hB, e1])
  have e1 : (l1 : Int) ≤ (ks.length : Int) := by omega
  try simp [h1, e1]
  (repeat first | refine hku ?_ | refine sw_seqk fun _ _ => ?_ | refine sw_reg ?_ | (refine sw_reg2 ?_; conv in reord _ => simp [reord, freeO]) | ((first | refine aops_k fun _ _ => ?_ | with_reducible refine rw_own ?_); simp [go_sem]; try go_ints) | refine sw_block ?_ | refine sw_t ?_ | refine sw_f ?_ | refine sw_e ?_ | refine ai ?_ | simp only [aops, thn, inB, ↓reduceIte, Nat.reduceEqDiff])
  have h23 : ((0 : Int) ≤ l2 ∧ l2 < (ks.length : Int)) ∨ ((0 : Int) ≤ l2 ∧ ¬ l2 < (ks.length : Int)) ∨ ¬ (0 : Int) ≤ l2 := by omega
  rcases h23 with ⟨h2, h3⟩ | ⟨h2, h3⟩ | h2
  · have e2 : ¬ (l2 : Int) < 0 := by omega
    have e3 : ¬ (ks.length : Int) ≤ l2 := by omega
    have hBf : B = false := by rw [hB, decide_eq_false e2, decide_eq_false e3]; simp
    try simp [h2, e2]
    (repeat first | refine hku ?_ | refine sw_seqk fun _ _ => ?_ | refine sw_reg ?_ | (refine sw_reg2 ?_; conv in reord _ => simp [reord, freeO]) | ((first | refine aops_k fun _ _ => ?_ | with_reducible refine rw_own ?_); simp [go_sem, h3]; try go_ints) | refine sw_block ?_ | refine sw_t ?_ | refine sw_f ?_ | refine sw_e ?_ | refine ai ?_ | simp only [thn])
    simp [go_sem, hBf]
  have e2 : ¬ (l2 : Int) < 0 := by omega
  have e3 : (ks.length : Int) ≤ l2 := by omega
  replace hB : B = maysR ks tm := by rw [hB, decide_eq_true e1, decide_eq_true e3]; simp
  try simp [h2, e2]
  (repeat first | refine hku ?_ | refine sw_seqk fun _ _ => ?_ | refine sw_reg ?_ | (refine sw_reg2 ?_; conv in reord _ => simp [reord, freeO]) | ((first | refine aops_k fun _ _ => ?_ | with_reducible refine rw_own ?_); simp [go_sem, h3]; try go_ints) | refine sw_block ?_ | refine sw_t ?_ | refine sw_f ?_ | refine sw_e ?_ | refine ai ?_ | simp only [aops, thn, inB, ↓reduceIte, Nat.reduceEqDiff])
  rotate_left
  have e2 : (l2 : Int) < 0 := by omega
  replace hB : B = maysR ks tm := by rw [hB, decide_eq_true e1, decide_eq_true e2]; simp
  try simp [h2, e2]
  (repeat first | refine hku ?_ | refine sw_seqk fun _ _ => ?_ | refine sw_reg ?_ | (refine sw_reg2 ?_; conv in reord _ => simp [reord, freeO]) | ((first | refine aops_k fun _ _ => ?_ | with_reducible refine rw_own ?_); simp [go_sem]; try go_ints) | refine sw_block ?_ | refine sw_t ?_ | refine sw_f ?_ | refine sw_e ?_ | refine ai ?_ | simp only [aops, thn, inB, ↓reduceIte, Nat.reduceEqDiff])
  all_goals
    refine sw_loopv 10 (fun i : Nat => [(9, .c (.i .i64 (i : Int)))]) (fun _ => []) (fun i => i ≤ ks.length ∧ maysR (ks.take i) tm = true) (fun i => ks.length - i) 0 ⟨Nat.zero_le _, by simp [maysR]⟩ ?_ fun i ⟨hi, ht⟩ => ?_
    · simp [go_sem]
    · by_cases hlt : i < ks.length
      · have k6 := hih i hlt; have k7 := rterm_v ks[i].kind; have h8 := maysR_no ks tm i hlt; have h9 := maysR_take ks tm i hlt; generalize mayR ks[i] = e at *; generalize termB ks[i].kind = g at *
        (repeat first | refine hku ?_ | refine sw_seqk fun _ _ => ?_ | refine sw_reg ?_ | (refine sw_reg2 ?_; conv in reord _ => simp [reord, freeO]) | ((first | refine aops_k fun _ _ => ?_ | with_reducible refine rw_own ?_); simp [go_sem, hlt]; try go_ints) | refine sw_block ?_ | refine sw_t ?_ | refine sw_f ?_ | refine sw_e ?_ | refine ai ?_ | simp only [aops, thn, inB, ↓reduceIte, Nat.reduceEqDiff])
        (refine ⟨.v _, k7, ?_⟩; simp [go_sem]; (repeat first | refine hku ?_ | refine sw_seqk fun _ _ => ?_ | refine sw_reg ?_ | (refine sw_reg2 ?_; conv in reord _ => simp [reord, freeO]) | ((first | refine aops_k fun _ _ => ?_ | with_reducible refine rw_own ?_); simp [go_sem, hlt]; try go_ints) | refine sw_block ?_ | refine sw_t ?_ | refine sw_f ?_ | refine sw_e ?_ | refine ai ?_ | simp only [aops, thn, inB, ↓reduceIte, Nat.reduceEqDiff]))
        (refine ⟨.v _, k6, ?_⟩; simp [go_sem]; (repeat first | refine hku ?_ | refine sw_seqk fun _ _ => ?_ | refine sw_reg ?_ | (refine sw_reg2 ?_; conv in reord _ => simp [reord, freeO]) | ((first | refine aops_k fun _ _ => ?_ | with_reducible refine rw_own ?_); simp [go_sem]; try go_ints) | refine sw_block ?_ | refine sw_t ?_ | refine sw_f ?_ | refine sw_e ?_ | refine ai ?_ | simp only [aops, thn, inB, ↓reduceIte, Nat.reduceEqDiff]))
        cases e <;> cases g <;> cases tm
        all_goals
          try simp
          (repeat first | refine hku ?_ | refine sw_seqk fun _ _ => ?_ | refine sw_reg ?_ | (refine sw_reg2 ?_; conv in reord _ => simp [reord, freeO]) | ((first | refine aops_k fun _ _ => ?_ | with_reducible refine rw_own ?_); simp [go_sem]; try go_ints) | refine sw_block ?_ | refine sw_t ?_ | refine sw_f ?_ | refine sw_e ?_ | refine ai ?_ | simp only [aops, thn, inB])
          first
          | (refine ⟨i + 1, ⟨by omega, by rw [h9, ht]; rfl⟩, by omega, ?_⟩; simp [go_sem]; done)
          | (simp [go_sem, hB, h8 rfl]; done)
      · have : i = ks.length := by omega
        subst this; rw [List.take_length] at ht
        (repeat first | refine hku ?_ | refine sw_seqk fun _ _ => ?_ | refine sw_reg ?_ | (refine sw_reg2 ?_; conv in reord _ => simp [reord, freeO]) | ((first | refine aops_k fun _ _ => ?_ | with_reducible refine rw_own ?_); simp [go_sem]; try go_ints) | refine sw_block ?_ | refine sw_t ?_ | refine sw_f ?_ | refine sw_e ?_ | refine ai ?_ | simp only [aops, thn, inB, ↓reduceIte, Nat.reduceEqDiff])
        simp [go_sem, hB, ht]
end Go.Proofs.YtbgifiijjjoebaaGreatDoor

namespace Go.Proofs.YtbgifiijjjoebaaGreatDoor
open Go.RowKit

set_option maxRecDepth 100000 in
set_option maxHeartbeats 12800000 in
theorem rmay_ko (k : Int) (s : ByteArray) (ns : List ByteArray) (n : Z) (ks : List Tr) (n1 : ¬ k = 1) (n2 : ¬ k = 2) (n3 : ¬ k = 6) (n4 : ¬ k = 15) (n5 : ¬ k = 21) (n6 : ¬ k = 22) (g1 : 1 ≤ k) (g2 : k ≤ 22) (ih : ∀ t ∈ ks, Fn Tryz.prog 37 [.g (dTr t)] (.c (.b (mayR t)))) : Fn Tryz.prog 37 [.g (dTr (.mk k s ns n ks))] (.c (.b (mayR (.mk k s ns n ks)))) := by
  refine Fn.intro' Tryz.func37 [.tmp 2] 120 fun hok => ?_
  have hok := hok (.g (dTr (.mk k s ns n ks))) (by simp); have hl := kids_len hok; have hsz := name_size hok; have k1 := risname_v s hsz; have k2 := rnames_v ns; have k3 := rstands_v n; have k4 := rzero_v n; have k5 := rkids_v k (by omega); have h0 := s_em s
  have hih : ∀ i (h : i < ks.length), Fn Tryz.prog 37 [.g (dTr ks[i])] (.c (.b (mayR ks[i]))) := fun i h => ih _ (List.getElem_mem h)
  obtain ⟨B, hB0⟩ : ∃ B, B = mayR (Tr.mk k s ns n ks) := ⟨_, rfl⟩; rw [← hB0, dTr_eq]; simp only [Tr.kind, Tr.name, Tr.names, Tr.n, Tr.kids] at *; simp only [dTr_eq] at hih; clear ih hok hsz
  have g3 : ¬ k < 1 := by omega
  have g4 : ¬ 22 < k := by omega
  obtain ⟨⟨l1, l2, tm⟩, hkd⟩ : ∃ p, kidsR k = p := ⟨_, rfl⟩
  have hB : B = (decide (s.size = 0) && decide (ns.length = 0) && bareB n && decide ((l1 : Int) ≤ (ks.length : Int)) && (decide ((l2 : Int) < 0) || decide ((ks.length : Int) ≤ (l2 : Int))) && maysR ks tm) := by rw [hB0, mayR, hkd, if_neg n2, if_neg (by omega), if_neg (by omega)]; simp [g1, g2]
  rw [hkd] at k5; clear hB0
  (repeat first | refine hku ?_ | refine sw_seqk fun _ _ => ?_ | refine sw_reg ?_ | (refine sw_reg2 ?_; conv in reord _ => simp [reord, freeO]) | ((first | refine aops_k fun _ _ => ?_ | with_reducible refine rw_own ?_); simp [go_sem, n2, g3, g4]; try go_ints) | refine sw_block ?_ | refine sw_t ?_ | refine sw_f ?_ | refine sw_e ?_ | refine ai ?_ | simp only [aops, thn, inB, ↓reduceIte, Nat.reduceEqDiff])
  by_cases hs : s.size = 0
  rotate_left
  · rw [decide_eq_false hs] at h0; simp [h0]
    (repeat first | refine hku ?_ | refine sw_seqk fun _ _ => ?_ | refine sw_reg ?_ | (refine sw_reg2 ?_; conv in reord _ => simp [reord, freeO]) | ((first | refine aops_k fun _ _ => ?_ | with_reducible refine rw_own ?_); simp [go_sem]; try go_ints) | refine sw_block ?_ | refine sw_t ?_ | refine sw_f ?_ | refine sw_e ?_ | refine ai ?_ | simp only [thn])
    simp [go_sem, hB, hs]
  rw [decide_eq_true hs] at h0; simp [h0]
  (repeat first | refine hku ?_ | refine sw_seqk fun _ _ => ?_ | refine sw_reg ?_ | (refine sw_reg2 ?_; conv in reord _ => simp [reord, freeO]) | ((first | refine aops_k fun _ _ => ?_ | with_reducible refine rw_own ?_); simp [go_sem, n5, n6]; try go_ints) | refine sw_block ?_ | refine sw_t ?_ | refine sw_f ?_ | refine sw_e ?_ | refine ai ?_ | simp only [aops, thn, inB, ↓reduceIte, Nat.reduceEqDiff])
  by_cases hn : ns.length = 0
  rotate_left
  · have hn1 : ¬ (dSs ns).length = 0 := by rw [dSs_len]; exact hn
    have hn2 : 0 < (dSs ns).length := by omega
    have hn3 : (0 : Int) < ((dSs ns).length : Int) := by omega
    simp [hn2]
    (repeat first | refine hku ?_ | refine sw_seqk fun _ _ => ?_ | refine sw_reg ?_ | (refine sw_reg2 ?_; conv in reord _ => simp [reord, freeO]) | ((first | refine aops_k fun _ _ => ?_ | with_reducible refine rw_own ?_); simp [go_sem]; try go_ints) | refine sw_block ?_ | refine sw_t ?_ | refine sw_f ?_ | refine sw_e ?_ | refine ai ?_ | simp only [thn])
    simp [go_sem, hB, hn]
  have hn4 : ns = [] := List.eq_nil_of_length_eq_zero hn; subst hn4; have hn5 : dSs [] = [] := rfl; simp [hn5]
  (repeat first | refine hku ?_ | refine sw_seqk fun _ _ => ?_ | refine sw_reg ?_ | (refine sw_reg2 ?_; conv in reord _ => simp [reord, freeO]) | ((first | refine aops_k fun _ _ => ?_ | with_reducible refine rw_own ?_); simp [go_sem, n1, n3, n4]; try go_ints) | refine sw_block ?_ | refine sw_t ?_ | refine sw_f ?_ | refine sw_e ?_ | refine ai ?_ | simp only [aops, thn, inB, ↓reduceIte, Nat.reduceEqDiff])
  generalize bareB n = a at k4 hB
  (refine ⟨.v _, k4, ?_⟩; simp [go_sem]; (repeat first | refine hku ?_ | refine sw_seqk fun _ _ => ?_ | refine sw_reg ?_ | (refine sw_reg2 ?_; conv in reord _ => simp [reord, freeO]) | ((first | refine aops_k fun _ _ => ?_ | with_reducible refine rw_own ?_); simp [go_sem]; try go_ints) | refine sw_block ?_ | refine sw_t ?_ | refine sw_f ?_ | refine sw_e ?_ | refine ai ?_ | simp only [aops, thn, inB, ↓reduceIte, Nat.reduceEqDiff]))
  cases a
  · try simp
    (repeat first | refine hku ?_ | refine sw_seqk fun _ _ => ?_ | refine sw_reg ?_ | (refine sw_reg2 ?_; conv in reord _ => simp [reord, freeO]) | ((first | refine aops_k fun _ _ => ?_ | with_reducible refine rw_own ?_); simp [go_sem]; try go_ints) | refine sw_block ?_ | refine sw_t ?_ | refine sw_f ?_ | refine sw_e ?_ | refine ai ?_ | simp only [thn])
    simp [go_sem, hB]
  try simp
  (repeat first | refine hku ?_ | refine sw_seqk fun _ _ => ?_ | refine sw_reg ?_ | (refine sw_reg2 ?_; conv in reord _ => simp [reord, freeO]) | ((first | refine aops_k fun _ _ => ?_ | with_reducible refine rw_own ?_); simp [go_sem]; try go_ints) | refine sw_block ?_ | refine sw_t ?_ | refine sw_f ?_ | refine sw_e ?_ | refine ai ?_ | simp only [aops, thn, inB, ↓reduceIte, Nat.reduceEqDiff])
  (refine ⟨.v _, k5, ?_⟩; simp [go_sem]; (repeat first | refine hku ?_ | refine sw_seqk fun _ _ => ?_ | refine sw_reg ?_ | (refine sw_reg2 ?_; conv in reord _ => simp [reord, freeO]) | ((first | refine aops_k fun _ _ => ?_ | with_reducible refine rw_own ?_); simp [go_sem]; try go_ints) | refine sw_block ?_ | refine sw_t ?_ | refine sw_f ?_ | refine sw_e ?_ | refine ai ?_ | simp only [aops, thn, inB, ↓reduceIte, Nat.reduceEqDiff]))
  replace hB : B = (decide ((l1 : Int) ≤ (ks.length : Int)) && (decide ((l2 : Int) < 0) || decide ((ks.length : Int) ≤ (l2 : Int))) && maysR ks tm) := by rw [hB]; simp [hs]
  by_cases h1 : (ks.length : Int) < l1
  · first
    | (exfalso; omega)
    | (have e1 : ¬ (l1 : Int) ≤ (ks.length : Int) := by omega
       try simp [h1, e1]
       (repeat first | refine hku ?_ | refine sw_seqk fun _ _ => ?_ | refine sw_reg ?_ | (refine sw_reg2 ?_; conv in reord _ => simp [reord, freeO]) | ((first | refine aops_k fun _ _ => ?_ | with_reducible refine rw_own ?_); simp [go_sem]; try go_ints) | refine sw_block ?_ | refine sw_t ?_ | refine sw_f ?_ | refine sw_e ?_ | refine ai ?_ | simp only [thn])
       simp [go_sem, hB, e1])
  have e1 : (l1 : Int) ≤ (ks.length : Int) := by omega
  try simp [h1, e1]
  (repeat first | refine hku ?_ | refine sw_seqk fun _ _ => ?_ | refine sw_reg ?_ | (refine sw_reg2 ?_; conv in reord _ => simp [reord, freeO]) | ((first | refine aops_k fun _ _ => ?_ | with_reducible refine rw_own ?_); simp [go_sem]; try go_ints) | refine sw_block ?_ | refine sw_t ?_ | refine sw_f ?_ | refine sw_e ?_ | refine ai ?_ | simp only [aops, thn, inB, ↓reduceIte, Nat.reduceEqDiff])
  have h23 : ((0 : Int) ≤ l2 ∧ l2 < (ks.length : Int)) ∨ ((0 : Int) ≤ l2 ∧ ¬ l2 < (ks.length : Int)) ∨ ¬ (0 : Int) ≤ l2 := by omega
  rcases h23 with ⟨h2, h3⟩ | ⟨h2, h3⟩ | h2
  · have e2 : ¬ (l2 : Int) < 0 := by omega
    have e3 : ¬ (ks.length : Int) ≤ l2 := by omega
    have hBf : B = false := by rw [hB, decide_eq_false e2, decide_eq_false e3]; simp
    try simp [h2, e2]
    (repeat first | refine hku ?_ | refine sw_seqk fun _ _ => ?_ | refine sw_reg ?_ | (refine sw_reg2 ?_; conv in reord _ => simp [reord, freeO]) | ((first | refine aops_k fun _ _ => ?_ | with_reducible refine rw_own ?_); simp [go_sem, h3]; try go_ints) | refine sw_block ?_ | refine sw_t ?_ | refine sw_f ?_ | refine sw_e ?_ | refine ai ?_ | simp only [thn])
    simp [go_sem, hBf]
  have e2 : ¬ (l2 : Int) < 0 := by omega
  have e3 : (ks.length : Int) ≤ l2 := by omega
  replace hB : B = maysR ks tm := by rw [hB, decide_eq_true e1, decide_eq_true e3]; simp
  try simp [h2, e2]
  (repeat first | refine hku ?_ | refine sw_seqk fun _ _ => ?_ | refine sw_reg ?_ | (refine sw_reg2 ?_; conv in reord _ => simp [reord, freeO]) | ((first | refine aops_k fun _ _ => ?_ | with_reducible refine rw_own ?_); simp [go_sem, h3]; try go_ints) | refine sw_block ?_ | refine sw_t ?_ | refine sw_f ?_ | refine sw_e ?_ | refine ai ?_ | simp only [aops, thn, inB, ↓reduceIte, Nat.reduceEqDiff])
  rotate_left
  have e2 : (l2 : Int) < 0 := by omega
  replace hB : B = maysR ks tm := by rw [hB, decide_eq_true e1, decide_eq_true e2]; simp
  try simp [h2, e2]
  (repeat first | refine hku ?_ | refine sw_seqk fun _ _ => ?_ | refine sw_reg ?_ | (refine sw_reg2 ?_; conv in reord _ => simp [reord, freeO]) | ((first | refine aops_k fun _ _ => ?_ | with_reducible refine rw_own ?_); simp [go_sem]; try go_ints) | refine sw_block ?_ | refine sw_t ?_ | refine sw_f ?_ | refine sw_e ?_ | refine ai ?_ | simp only [aops, thn, inB, ↓reduceIte, Nat.reduceEqDiff])
  all_goals
    refine sw_loopv 10 (fun i : Nat => [(9, .c (.i .i64 (i : Int)))]) (fun _ => []) (fun i => i ≤ ks.length ∧ maysR (ks.take i) tm = true) (fun i => ks.length - i) 0 ⟨Nat.zero_le _, by simp [maysR]⟩ ?_ fun i ⟨hi, ht⟩ => ?_
    · simp [go_sem]
    · by_cases hlt : i < ks.length
      · have k6 := hih i hlt; have k7 := rterm_v ks[i].kind; have h8 := maysR_no ks tm i hlt; have h9 := maysR_take ks tm i hlt; generalize mayR ks[i] = e at *; generalize termB ks[i].kind = g at *
        (repeat first | refine hku ?_ | refine sw_seqk fun _ _ => ?_ | refine sw_reg ?_ | (refine sw_reg2 ?_; conv in reord _ => simp [reord, freeO]) | ((first | refine aops_k fun _ _ => ?_ | with_reducible refine rw_own ?_); simp [go_sem, hlt]; try go_ints) | refine sw_block ?_ | refine sw_t ?_ | refine sw_f ?_ | refine sw_e ?_ | refine ai ?_ | simp only [aops, thn, inB, ↓reduceIte, Nat.reduceEqDiff])
        (refine ⟨.v _, k7, ?_⟩; simp [go_sem]; (repeat first | refine hku ?_ | refine sw_seqk fun _ _ => ?_ | refine sw_reg ?_ | (refine sw_reg2 ?_; conv in reord _ => simp [reord, freeO]) | ((first | refine aops_k fun _ _ => ?_ | with_reducible refine rw_own ?_); simp [go_sem, hlt]; try go_ints) | refine sw_block ?_ | refine sw_t ?_ | refine sw_f ?_ | refine sw_e ?_ | refine ai ?_ | simp only [aops, thn, inB, ↓reduceIte, Nat.reduceEqDiff]))
        (refine ⟨.v _, k6, ?_⟩; simp [go_sem]; (repeat first | refine hku ?_ | refine sw_seqk fun _ _ => ?_ | refine sw_reg ?_ | (refine sw_reg2 ?_; conv in reord _ => simp [reord, freeO]) | ((first | refine aops_k fun _ _ => ?_ | with_reducible refine rw_own ?_); simp [go_sem]; try go_ints) | refine sw_block ?_ | refine sw_t ?_ | refine sw_f ?_ | refine sw_e ?_ | refine ai ?_ | simp only [aops, thn, inB, ↓reduceIte, Nat.reduceEqDiff]))
        cases e <;> cases g <;> cases tm
        all_goals
          try simp
          (repeat first | refine hku ?_ | refine sw_seqk fun _ _ => ?_ | refine sw_reg ?_ | (refine sw_reg2 ?_; conv in reord _ => simp [reord, freeO]) | ((first | refine aops_k fun _ _ => ?_ | with_reducible refine rw_own ?_); simp [go_sem]; try go_ints) | refine sw_block ?_ | refine sw_t ?_ | refine sw_f ?_ | refine sw_e ?_ | refine ai ?_ | simp only [aops, thn, inB])
          first
          | (refine ⟨i + 1, ⟨by omega, by rw [h9, ht]; rfl⟩, by omega, ?_⟩; simp [go_sem]; done)
          | (simp [go_sem, hB, h8 rfl]; done)
      · have : i = ks.length := by omega
        subst this; rw [List.take_length] at ht
        (repeat first | refine hku ?_ | refine sw_seqk fun _ _ => ?_ | refine sw_reg ?_ | (refine sw_reg2 ?_; conv in reord _ => simp [reord, freeO]) | ((first | refine aops_k fun _ _ => ?_ | with_reducible refine rw_own ?_); simp [go_sem]; try go_ints) | refine sw_block ?_ | refine sw_t ?_ | refine sw_f ?_ | refine sw_e ?_ | refine ai ?_ | simp only [aops, thn, inB, ↓reduceIte, Nat.reduceEqDiff])
        simp [go_sem, hB, ht]
end Go.Proofs.YtbgifiijjjoebaaGreatDoor

namespace Go.Proofs.YtbgifiijjjoebaaGreatDoor
open Go.RowKit

theorem sb_eq (x y : ByteArray) : (x.toList == y.toList) = decide (x = y) := ba_tl x y
set_option maxHeartbeats 3200000 in
theorem rin_v (l : List ByteArray) (s : ByteArray) : Fn Tryz.prog 74 [.c (.l (dSs l)), .c (.s s)] (.c (.b (decide (s ∈ l)))) := by
 refine Fn.intro' Tryz.func74 [.tmp 4] 18 fun hok => ?_
 have hlm := trs_ok (hok (.c (.l (dSs l))) (by simp)); rw [dSs_len] at hlm; clear hok
 (repeat first | refine hku ?_ | refine sw_seqk fun _ _ => ?_ | refine sw_reg ?_ | (refine sw_reg2 ?_; conv in reord _ => simp [reord, freeO]) | ((first | refine aops_k fun _ _ => ?_ | with_reducible refine rw_own ?_); simp [go_sem]; try go_ints) | refine sw_block ?_ | refine sw_t ?_ | refine sw_f ?_ | refine sw_e ?_ | refine ai ?_ | simp only [aops, thn, inB, ↓reduceIte, Nat.reduceEqDiff])
 refine sw_loopv 6 (fun i : Nat => [(5, .c (.i .i64 (i : Int)))]) (fun _ => []) (fun i => i ≤ l.length ∧ ∀ j (hj : j < l.length), j < i → l[j] ≠ s) (fun i => l.length - i) 0 ⟨Nat.zero_le _, fun j _ h => absurd h (Nat.not_lt_zero _)⟩ ?_ fun i ⟨hi, ht⟩ => ?_
 ·simp [go_sem]
 ·by_cases hlt : i < l.length
  ·by_cases e : l[i] = s
   ·have hs : s ∈ l := e ▸ List.getElem_mem hlt
    have e2 : (l[i].toList == s.toList) = true := by rw [e]; simp
    (repeat first | refine hku ?_ | refine sw_seqk fun _ _ => ?_ | refine sw_reg ?_ | (refine sw_reg2 ?_; conv in reord _ => simp [reord, freeO]) | ((first | refine aops_k fun _ _ => ?_ | with_reducible refine rw_own ?_); simp [go_sem, hlt, dSs_len, dSs_get, e2]; try go_ints) | refine sw_block ?_ | refine sw_t ?_ | refine sw_f ?_ | refine sw_e ?_ | refine ai ?_ | simp only [thn, inB])
    simp [go_sem, hs]
   ·have e2 : (l[i].toList == s.toList) = false := by rw [sb_eq]; exact decide_eq_false e
    (repeat first | refine hku ?_ | refine sw_seqk fun _ _ => ?_ | refine sw_reg ?_ | (refine sw_reg2 ?_; conv in reord _ => simp [reord, freeO]) | ((first | refine aops_k fun _ _ => ?_ | with_reducible refine rw_own ?_); simp [go_sem, hlt, dSs_len, dSs_get, e2]; try go_ints) | refine sw_block ?_ | refine sw_t ?_ | refine sw_f ?_ | refine sw_e ?_ | refine ai ?_ | simp only [aops, thn])
    refine ⟨i + 1, ⟨by omega, fun j hj hji => ?_⟩, by omega, ?_⟩
    ·by_cases q : j = i
     ·subst q; exact e
     ·exact ht j hj (by omega)
    ·simp [go_sem]
  ·have hs : s ∉ l := fun h => by
    obtain ⟨j, hj, h⟩ := List.getElem_of_mem h; exact ht j hj (by omega) h
   (repeat first | refine hku ?_ | refine sw_seqk fun _ _ => ?_ | refine sw_reg ?_ | (refine sw_reg2 ?_; conv in reord _ => simp [reord, freeO]) | ((first | refine aops_k fun _ _ => ?_ | with_reducible refine rw_own ?_); simp [go_sem, hlt, dSs_len]; try go_ints) | refine sw_block ?_ | refine sw_t ?_ | refine sw_f ?_ | refine sw_e ?_ | refine ai ?_ | simp only [aops, thn, inB, ↓reduceIte, Nat.reduceEqDiff])
   simp [go_sem, hs]
theorem dSs_app (l m : List ByteArray) : dSs l ++ dSs m = dSs (l ++ m) := by simp [dSs]
theorem freesR_take : ∀ (ks : List Tr) (b o : List ByteArray) (i : Nat) (h : i < ks.length), freesR (ks.take (i + 1)) b o = freeR ks[i] b (freesR (ks.take i) b o)
 | [], _, _, _, h => by cases h
 | t :: r, b, o, 0, _ => by simp [freesR]
 | t :: r, b, o, i + 1, h => by
  rw [List.take_succ_cons, List.take_succ_cons, freesR, freesR, freesR_take r b _ i (by simpa using h), List.getElem_cons_succ]
mutual
def Tr.nms : Tr → Nat
 | .mk _ _ ns _ ks => ns.length + nmss ks + 1
def nmss : List Tr → Nat
 | [] => 0
 | t :: r => t.nms + nmss r
end
theorem nms_mk (k : Int) (s : ByteArray) (ns : List ByteArray) (n : Z) (ks : List Tr) : (Tr.mk k s ns n ks).nms = ns.length + nmss ks + 1 := by rw [Tr.nms]
theorem nmss_take : ∀ (ks : List Tr) (i : Nat) (h : i < ks.length), nmss (ks.take i) + ks[i].nms ≤ nmss ks
 | [], _, h => by cases h
 | t :: r, 0, _ => by simp [nmss]
 | t :: r, i + 1, h => by
  rw [List.take_succ_cons, nmss, nmss, List.getElem_cons_succ]; have := nmss_take r i (by simpa using h)
  omega
theorem freesR_len' : ∀ (l : List Tr), (∀ t ∈ l, ∀ b o, (freeR t b o).length ≤ o.length + t.nms) → ∀ b o, (freesR l b o).length ≤ o.length + nmss l
 | [], _, b, o => by rw [freesR, nmss]; omega
 | t :: r, h1, b, o => by
  rw [freesR, nmss]; have h2 := h1 t (by simp) b o; have h3 := freesR_len' r (fun t ht => h1 t (by simp [ht])) b (freeR t b o)
  omega
theorem freeR_len (t : Tr) : ∀ b o, (freeR t b o).length ≤ o.length + t.nms := by
 refine Tr.ind (P := fun t => ∀ b o, (freeR t b o).length ≤ o.length + t.nms) (fun k s ns n ks ih b o => ?_) t; rw [freeR, nms_mk]; have := freesR_len' ks ih (if k = 21 ∨ k = 22 then b ++ ns else b) (if k = 2 ∧ s ∉ b ∧ s ∉ o then o ++ [s] else o)
 have h2 : (if k = 2 ∧ s ∉ b ∧ s ∉ o then o ++ [s] else o).length ≤ o.length + 1 := by split <;> simp
 omega
theorem freesR_len (l : List Tr) (b o : List ByteArray) : (freesR l b o).length ≤ o.length + nmss l := freesR_len' l (fun t _ => freeR_len t) b o
end Go.Proofs.YtbgifiijjjoebaaGreatDoor
