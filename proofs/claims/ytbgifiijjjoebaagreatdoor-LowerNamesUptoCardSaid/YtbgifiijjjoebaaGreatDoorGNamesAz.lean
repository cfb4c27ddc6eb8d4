/- riddleref04.May: kind 1. No conditions. riddleref04.May: kind 2. No conditions. riddleref04.May: kind 6. No conditions. riddleref04.May: kind 15. No conditions. -/
import Derived.Test.YtbgifiijjjoebaaGreatDoorGNamesAs
namespace Go.Proofs.YtbgifiijjjoebaaGreatDoor
open Go.RowKit

set_option maxRecDepth 100000 in
set_option maxHeartbeats 12800000 in
theorem rmay_k1 (s : ByteArray) (ns : List ByteArray) (n : Z) (ks : List Tr) (ih : ∀ t ∈ ks, Fn Tryz.prog 37 [.g (dTr t)] (.c (.b (mayR t)))) : Fn Tryz.prog 37 [.g (dTr (.mk 1 s ns n ks))] (.c (.b (mayR (.mk 1 s ns n ks)))) := by
  refine Fn.intro' Tryz.func37 [.tmp 2] 120 fun hok => ?_
  have hok := hok (.g (dTr (.mk 1 s ns n ks))) (by simp); have hl := kids_len hok; have hsz := name_size hok; have k1 := risname_v s hsz; have k2 := rnames_v ns; have k3 := rstands_v n; have k4 := rzero_v n; have k5 := rkids_v 1 (by omega); have h0 := s_em s
  have hih : ∀ i (h : i < ks.length), Fn Tryz.prog 37 [.g (dTr ks[i])] (.c (.b (mayR ks[i]))) := fun i h => ih _ (List.getElem_mem h)
  obtain ⟨B, hB0⟩ : ∃ B, B = mayR (Tr.mk 1 s ns n ks) := ⟨_, rfl⟩; rw [← hB0, dTr_eq]; simp only [Tr.kind, Tr.name, Tr.names, Tr.n, Tr.kids] at *; simp only [dTr_eq] at hih; clear ih hok hsz; obtain ⟨⟨l1, l2, tm⟩, hkd⟩ : ∃ p, kidsR 1 = p := ⟨_, rfl⟩
  have hB : B = (decide (s.size = 0) && decide (ns.length = 0) && (!n.neg && n.ok) && decide ((l1 : Int) ≤ (ks.length : Int)) && (decide ((l2 : Int) < 0) || decide ((ks.length : Int) ≤ (l2 : Int))) && maysR ks tm) := by rw [hB0, mayR, hkd]; rfl
  rw [hkd] at k5; simp only at k5; clear hB0
  (repeat first | refine hku ?_ | refine sw_seqk fun _ _ => ?_ | refine sw_reg ?_ | (refine sw_reg2 ?_; conv in reord _ => simp [reord, freeO]) | ((first | refine aops_k fun _ _ => ?_ | with_reducible refine rw_own ?_); simp [go_sem]; try go_ints) | refine sw_block ?_ | refine sw_t ?_ | refine sw_f ?_ | refine sw_e ?_ | refine ai ?_ | simp only [aops, thn, inB, ↓reduceIte, Nat.reduceEqDiff])
  by_cases hs : s.size = 0
  rotate_left
  · rw [decide_eq_false hs] at h0; simp [h0]
    (repeat first | refine hku ?_ | refine sw_seqk fun _ _ => ?_ | refine sw_reg ?_ | (refine sw_reg2 ?_; conv in reord _ => simp [reord, freeO]) | ((first | refine aops_k fun _ _ => ?_ | with_reducible refine rw_own ?_); simp [go_sem]; try go_ints) | refine sw_block ?_ | refine sw_t ?_ | refine sw_f ?_ | refine sw_e ?_ | refine ai ?_ | simp only [thn])
    simp [go_sem, hB, hs]
  rw [decide_eq_true hs] at h0; simp [h0]
  (repeat first | refine hku ?_ | refine sw_seqk fun _ _ => ?_ | refine sw_reg ?_ | (refine sw_reg2 ?_; conv in reord _ => simp [reord, freeO]) | ((first | refine aops_k fun _ _ => ?_ | with_reducible refine rw_own ?_); simp [go_sem]; try go_ints) | refine sw_block ?_ | refine sw_t ?_ | refine sw_f ?_ | refine sw_e ?_ | refine ai ?_ | simp only [aops, thn, inB, ↓reduceIte, Nat.reduceEqDiff])
  by_cases hn : ns.length = 0
  rotate_left
  · have hn1 : ¬ (dSs ns).length = 0 := by rw [dSs_len]; exact hn
    have hn2 : 0 < (dSs ns).length := by omega
    have hn3 : (0 : Int) < ((dSs ns).length : Int) := by omega
    simp [hn2]
    (repeat first | refine hku ?_ | refine sw_seqk fun _ _ => ?_ | refine sw_reg ?_ | (refine sw_reg2 ?_; conv in reord _ => simp [reord, freeO]) | ((first | refine aops_k fun _ _ => ?_ | with_reducible refine rw_own ?_); simp [go_sem]; try go_ints) | refine sw_block ?_ | refine sw_t ?_ | refine sw_f ?_ | refine sw_e ?_ | refine ai ?_ | simp only [thn])
    simp [go_sem, hB, hn]
  have hn4 : ns = [] := List.eq_nil_of_length_eq_zero hn; subst hn4; have hn5 : dSs [] = [] := rfl; simp [hn5]
  (repeat first | refine hku ?_ | refine sw_seqk fun _ _ => ?_ | refine sw_reg ?_ | (refine sw_reg2 ?_; conv in reord _ => simp [reord, freeO]) | ((first | refine aops_k fun _ _ => ?_ | with_reducible refine rw_own ?_); simp [go_sem]; try go_ints) | refine sw_block ?_ | refine sw_t ?_ | refine sw_f ?_ | refine sw_e ?_ | refine ai ?_ | simp only [aops, thn, inB, ↓reduceIte, Nat.reduceEqDiff])
  generalize (!n.neg && n.ok) = a at k3 hB
  (refine ⟨.v _, k3, ?_⟩; simp [go_sem]; (repeat first | refine hku ?_ | refine sw_seqk fun _ _ => ?_ | refine sw_reg ?_ | (refine sw_reg2 ?_; conv in reord _ => simp [reord, freeO]) | ((first | refine aops_k fun _ _ => ?_ | with_reducible refine rw_own ?_); simp [go_sem]; try go_ints) | refine sw_block ?_ | refine sw_t ?_ | refine sw_f ?_ | refine sw_e ?_ | refine ai ?_ | simp only [aops, thn, inB, ↓reduceIte, Nat.reduceEqDiff]))
  cases a
  · try simp
    (repeat first | refine hku ?_ | refine sw_seqk fun _ _ => ?_ | refine sw_reg ?_ | (refine sw_reg2 ?_; conv in reord _ => simp [reord, freeO]) | ((first | refine aops_k fun _ _ => ?_ | with_reducible refine rw_own ?_); simp [go_sem]; try go_ints) | refine sw_block ?_ | refine sw_t ?_ | refine sw_f ?_ | refine sw_e ?_ | refine ai ?_ | simp only [thn])
    simp [go_sem, hB]
  try simp
  (repeat first | refine hku ?_ | refine sw_seqk fun _ _ => ?_ | refine sw_reg ?_ | (refine sw_reg2 ?_; conv in reord _ => simp [reord, freeO]) | ((first | refine aops_k fun _ _ => ?_ | with_reducible refine rw_own ?_); simp [go_sem]; try go_ints) | refine sw_block ?_ | refine sw_t ?_ | refine sw_f ?_ | refine sw_e ?_ | refine ai ?_ | simp only [aops, thn, inB, ↓reduceIte, Nat.reduceEqDiff])
  (refine ⟨.v _, k5, ?_⟩; simp [go_sem]; (repeat first | refine hku ?_ | refine sw_seqk fun _ _ => ?_ | refine sw_reg ?_ | (refine sw_reg2 ?_; conv in reord _ => simp [reord, freeO]) | ((first | refine aops_k fun _ _ => ?_ | with_reducible refine rw_own ?_); simp [go_sem]; try go_ints) | refine sw_block ?_ | refine sw_t ?_ | refine sw_f ?_ | refine sw_e ?_ | refine ai ?_ | simp only [aops, thn, inB, ↓reduceIte, Nat.reduceEqDiff]))
  replace hB : B = (decide ((l1 : Int) ≤ (ks.length : Int)) && (decide ((l2 : Int) < 0) || decide ((ks.length : Int) ≤ (l2 : Int))) && maysR ks tm) := by rw [hB]; simp [hs]
  by_cases h1 : (ks.length : Int) < l1
  · first
    | (exfalso; omega)
    | (have e1 : ¬ (l1 : Int) ≤ (ks.length : Int) := by omega
       try simp [h1, e1]
       (repeat first | refine hku ?_ | refine sw_seqk fun _ _ => ?_ | refine sw_reg ?_ | (refine sw_reg2 ?_; conv in reord _ => simp [reord, freeO]) | ((first | refine aops_k fun _ _ => ?_ | with_reducible refine rw_own ?_); simp [go_sem]; try go_ints) | refine sw_block ?_ | refine sw_t ?_ | refine sw_f ?_ | refine sw_e ?_ | refine ai ?_ | simp only [thn])
       simp [go_sem, hB, e1])
  have e1 : (l1 : Int) ≤ (ks.length : Int) := by omega
  try simp [h1, e1]
  (repeat first | refine hku ?_ | refine sw_seqk fun _ _ => ?_ | refine sw_reg ?_ | (refine sw_reg2 ?_; conv in reord _ => simp [reord, freeO]) | ((first | refine aops_k fun _ _ => ?_ | with_reducible refine rw_own ?_); simp [go_sem]; try go_ints) | refine sw_block ?_ | refine sw_t ?_ | refine sw_f ?_ | refine sw_e ?_ | refine ai ?_ | simp only [aops, thn, inB, ↓reduceIte, Nat.reduceEqDiff])
  have h23 : ((0 : Int) ≤ l2 ∧ l2 < (ks.length : Int)) ∨ ((0 : Int) ≤ l2 ∧ ¬ l2 < (ks.length : Int)) ∨ ¬ (0 : Int) ≤ l2 := by omega
  rcases h23 with ⟨h2, h3⟩ | ⟨h2, h3⟩ | h2
  · have e2 : ¬ (l2 : Int) < 0 := by omega
    have e3 : ¬ (ks.length : Int) ≤ l2 := by omega
    have hBf : B = false := by rw [hB, decide_eq_false e2, decide_eq_false e3]; simp
    try simp [h2, e2]
    (repeat first | refine hku ?_ | refine sw_seqk fun _ _ => ?_ | refine sw_reg ?_ | (refine sw_reg2 ?_; conv in reord _ => simp [reord, freeO]) | ((first | refine aops_k fun _ _ => ?_ | with_reducible refine rw_own ?_); simp [go_sem, h3]; try go_ints) | refine sw_block ?_ | refine sw_t ?_ | refine sw_f ?_ | refine sw_e ?_ | refine ai ?_ | simp only [thn])
    simp [go_sem, hBf]
  have e2 : ¬ (l2 : Int) < 0 := by omega
  have e3 : (ks.length : Int) ≤ l2 := by omega
  replace hB : B = maysR ks tm := by rw [hB, decide_eq_true e1, decide_eq_true e3]; simp
  try simp [h2, e2]
  (repeat first | refine hku ?_ | refine sw_seqk fun _ _ => ?_ | refine sw_reg ?_ | (refine sw_reg2 ?_; conv in reord _ => simp [reord, freeO]) | ((first | refine aops_k fun _ _ => ?_ | with_reducible refine rw_own ?_); simp [go_sem, h3]; try go_ints) | refine sw_block ?_ | refine sw_t ?_ | refine sw_f ?_ | refine sw_e ?_ | refine ai ?_ | simp only [aops, thn, inB, ↓reduceIte, Nat.reduceEqDiff])
  rotate_left
  have e2 : (l2 : Int) < 0 := by omega
  replace hB : B = maysR ks tm := by rw [hB, decide_eq_true e1, decide_eq_true e2]; simp
  try simp [h2, e2]
  (repeat first | refine hku ?_ | refine sw_seqk fun _ _ => ?_ | refine sw_reg ?_ | (refine sw_reg2 ?_; conv in reord _ => simp [reord, freeO]) | ((first | refine aops_k fun _ _ => ?_ | with_reducible refine rw_own ?_); simp [go_sem]; try go_ints) | refine sw_block ?_ | refine sw_t ?_ | refine sw_f ?_ | refine sw_e ?_ | refine ai ?_ | simp only [aops, thn, inB, ↓reduceIte, Nat.reduceEqDiff])
  all_goals
    refine sw_loopv 10 (fun i : Nat => [(9, .c (.i .i64 (i : Int)))]) (fun _ => []) (fun i => i ≤ ks.length ∧ maysR (ks.take i) tm = true) (fun i => ks.length - i) 0 ⟨Nat.zero_le _, by simp [maysR]⟩ ?_ fun i ⟨hi, ht⟩ => ?_
    · simp [go_sem]
    · by_cases hlt : i < ks.length
      · have k6 := hih i hlt; have k7 := rterm_v ks[i].kind; have h8 := maysR_no ks tm i hlt; have h9 := maysR_take ks tm i hlt; generalize mayR ks[i] = e at *; generalize termB ks[i].kind = g at *
        (repeat first | refine hku ?_ | refine sw_seqk fun _ _ => ?_ | refine sw_reg ?_ | (refine sw_reg2 ?_; conv in reord _ => simp [reord, freeO]) | ((first | refine aops_k fun _ _ => ?_ | with_reducible refine rw_own ?_); simp [go_sem, hlt]; try go_ints) | refine sw_block ?_ | refine sw_t ?_ | refine sw_f ?_ | refine sw_e ?_ | refine ai ?_ | simp only [aops, thn, inB, ↓reduceIte, Nat.reduceEqDiff])
        (refine ⟨.v _, k7, ?_⟩; simp [go_sem]; (repeat first | refine hku ?_ | refine sw_seqk fun _ _ => ?_ | refine sw_reg ?_ | (refine sw_reg2 ?_; conv in reord _ => simp [reord, freeO]) | ((first | refine aops_k fun _ _ => ?_ | with_reducible refine rw_own ?_); simp [go_sem, hlt]; try go_ints) | refine sw_block ?_ | refine sw_t ?_ | refine sw_f ?_ | refine sw_e ?_ | refine ai ?_ | simp only [aops, thn, inB, ↓reduceIte, Nat.reduceEqDiff]))
        (refine ⟨.v _, k6, ?_⟩; simp [go_sem]; (repeat first | refine hku ?_ | refine sw_seqk fun _ _ => ?_ | refine sw_reg ?_ | (refine sw_reg2 ?_; conv in reord _ => simp [reord, freeO]) | ((first | refine aops_k fun _ _ => ?_ | with_reducible refine rw_own ?_); simp [go_sem]; try go_ints) | refine sw_block ?_ | refine sw_t ?_ | refine sw_f ?_ | refine sw_e ?_ | refine ai ?_ | simp only [aops, thn, inB, ↓reduceIte, Nat.reduceEqDiff]))
        cases e <;> cases g <;> cases tm
        all_goals
          try simp
          (repeat first | refine hku ?_ | refine sw_seqk fun _ _ => ?_ | refine sw_reg ?_ | (refine sw_reg2 ?_; conv in reord _ => simp [reord, freeO]) | ((first | refine aops_k fun _ _ => ?_ | with_reducible refine rw_own ?_); simp [go_sem]; try go_ints) | refine sw_block ?_ | refine sw_t ?_ | refine sw_f ?_ | refine sw_e ?_ | refine ai ?_ | simp only [aops, thn, inB])
          first
          | (refine ⟨i + 1, ⟨by omega, by rw [h9, ht]; rfl⟩, by omega, ?_⟩; simp [go_sem]; done)
          | (simp [go_sem, hB, h8 rfl]; done)
      · have : i = ks.length := by omega
        subst this; rw [List.take_length] at ht
        (repeat first | refine hku ?_ | refine sw_seqk fun _ _ => ?_ | refine sw_reg ?_ | (refine sw_reg2 ?_; conv in reord _ => simp [reord, freeO]) | ((first | refine aops_k fun _ _ => ?_ | with_reducible refine rw_own ?_); simp [go_sem]; try go_ints) | refine sw_block ?_ | refine sw_t ?_ | refine sw_f ?_ | refine sw_e ?_ | refine ai ?_ | simp only [aops, thn, inB, ↓reduceIte, Nat.reduceEqDiff])
        simp [go_sem, hB, ht]
end Go.Proofs.YtbgifiijjjoebaaGreatDoor

namespace Go.Proofs.YtbgifiijjjoebaaGreatDoor
open Go.RowKit

set_option maxRecDepth 100000 in
set_option maxHeartbeats 12800000 in
theorem rmay_k2 (s : ByteArray) (ns : List ByteArray) (n : Z) (ks : List Tr) (ih : ∀ t ∈ ks, Fn Tryz.prog 37 [.g (dTr t)] (.c (.b (mayR t)))) : Fn Tryz.prog 37 [.g (dTr (.mk 2 s ns n ks))] (.c (.b (mayR (.mk 2 s ns n ks)))) := by
  refine Fn.intro' Tryz.func37 [.tmp 2] 120 fun hok => ?_
  have hok := hok (.g (dTr (.mk 2 s ns n ks))) (by simp); have hl := kids_len hok; have hsz := name_size hok; have k1 := risname_v s hsz; have k2 := rnames_v ns; have k3 := rstands_v n; have k4 := rzero_v n; have k5 := rkids_v 2 (by omega); have h0 := s_em s
  have hih : ∀ i (h : i < ks.length), Fn Tryz.prog 37 [.g (dTr ks[i])] (.c (.b (mayR ks[i]))) := fun i h => ih _ (List.getElem_mem h)
  obtain ⟨B, hB0⟩ : ∃ B, B = mayR (Tr.mk 2 s ns n ks) := ⟨_, rfl⟩; rw [← hB0, dTr_eq]; simp only [Tr.kind, Tr.name, Tr.names, Tr.n, Tr.kids] at *; simp only [dTr_eq] at hih; clear ih hok hsz; obtain ⟨⟨l1, l2, tm⟩, hkd⟩ : ∃ p, kidsR 2 = p := ⟨_, rfl⟩
  have hB : B = (nameB s && decide (ns.length = 0) && bareB n && decide ((l1 : Int) ≤ (ks.length : Int)) && (decide ((l2 : Int) < 0) || decide ((ks.length : Int) ≤ (l2 : Int))) && maysR ks tm) := by rw [hB0, mayR, hkd]; rfl
  rw [hkd] at k5; simp only at k5; clear hB0
  (repeat first | refine hku ?_ | refine sw_seqk fun _ _ => ?_ | refine sw_reg ?_ | (refine sw_reg2 ?_; conv in reord _ => simp [reord, freeO]) | ((first | refine aops_k fun _ _ => ?_ | with_reducible refine rw_own ?_); simp [go_sem]; try go_ints) | refine sw_block ?_ | refine sw_t ?_ | refine sw_f ?_ | refine sw_e ?_ | refine ai ?_ | simp only [aops, thn, inB, ↓reduceIte, Nat.reduceEqDiff])
  generalize nameB s = p at k1 hB
  (refine ⟨.v _, k1, ?_⟩; simp [go_sem]; (repeat first | refine hku ?_ | refine sw_seqk fun _ _ => ?_ | refine sw_reg ?_ | (refine sw_reg2 ?_; conv in reord _ => simp [reord, freeO]) | ((first | refine aops_k fun _ _ => ?_ | with_reducible refine rw_own ?_); simp [go_sem]; try go_ints) | refine sw_block ?_ | refine sw_t ?_ | refine sw_f ?_ | refine sw_e ?_ | refine ai ?_ | simp only [aops, thn, inB, ↓reduceIte, Nat.reduceEqDiff]))
  cases p
  · try simp
    (repeat first | refine hku ?_ | refine sw_seqk fun _ _ => ?_ | refine sw_reg ?_ | (refine sw_reg2 ?_; conv in reord _ => simp [reord, freeO]) | ((first | refine aops_k fun _ _ => ?_ | with_reducible refine rw_own ?_); simp [go_sem]; try go_ints) | refine sw_block ?_ | refine sw_t ?_ | refine sw_f ?_ | refine sw_e ?_ | refine ai ?_ | simp only [thn])
    simp [go_sem, hB]
  try simp
  (repeat first | refine hku ?_ | refine sw_seqk fun _ _ => ?_ | refine sw_reg ?_ | (refine sw_reg2 ?_; conv in reord _ => simp [reord, freeO]) | ((first | refine aops_k fun _ _ => ?_ | with_reducible refine rw_own ?_); simp [go_sem]; try go_ints) | refine sw_block ?_ | refine sw_t ?_ | refine sw_f ?_ | refine sw_e ?_ | refine ai ?_ | simp only [aops, thn, inB, ↓reduceIte, Nat.reduceEqDiff])
  by_cases hn : ns.length = 0
  rotate_left
  · have hn1 : ¬ (dSs ns).length = 0 := by rw [dSs_len]; exact hn
    have hn2 : 0 < (dSs ns).length := by omega
    have hn3 : (0 : Int) < ((dSs ns).length : Int) := by omega
    simp [hn2]
    (repeat first | refine hku ?_ | refine sw_seqk fun _ _ => ?_ | refine sw_reg ?_ | (refine sw_reg2 ?_; conv in reord _ => simp [reord, freeO]) | ((first | refine aops_k fun _ _ => ?_ | with_reducible refine rw_own ?_); simp [go_sem]; try go_ints) | refine sw_block ?_ | refine sw_t ?_ | refine sw_f ?_ | refine sw_e ?_ | refine ai ?_ | simp only [thn])
    simp [go_sem, hB, hn]
  have hn4 : ns = [] := List.eq_nil_of_length_eq_zero hn; subst hn4; have hn5 : dSs [] = [] := rfl; simp [hn5]
  (repeat first | refine hku ?_ | refine sw_seqk fun _ _ => ?_ | refine sw_reg ?_ | (refine sw_reg2 ?_; conv in reord _ => simp [reord, freeO]) | ((first | refine aops_k fun _ _ => ?_ | with_reducible refine rw_own ?_); simp [go_sem]; try go_ints) | refine sw_block ?_ | refine sw_t ?_ | refine sw_f ?_ | refine sw_e ?_ | refine ai ?_ | simp only [aops, thn, inB, ↓reduceIte, Nat.reduceEqDiff])
  generalize bareB n = a at k4 hB
  (refine ⟨.v _, k4, ?_⟩; simp [go_sem]; (repeat first | refine hku ?_ | refine sw_seqk fun _ _ => ?_ | refine sw_reg ?_ | (refine sw_reg2 ?_; conv in reord _ => simp [reord, freeO]) | ((first | refine aops_k fun _ _ => ?_ | with_reducible refine rw_own ?_); simp [go_sem]; try go_ints) | refine sw_block ?_ | refine sw_t ?_ | refine sw_f ?_ | refine sw_e ?_ | refine ai ?_ | simp only [aops, thn, inB, ↓reduceIte, Nat.reduceEqDiff]))
  cases a
  · try simp
    (repeat first | refine hku ?_ | refine sw_seqk fun _ _ => ?_ | refine sw_reg ?_ | (refine sw_reg2 ?_; conv in reord _ => simp [reord, freeO]) | ((first | refine aops_k fun _ _ => ?_ | with_reducible refine rw_own ?_); simp [go_sem]; try go_ints) | refine sw_block ?_ | refine sw_t ?_ | refine sw_f ?_ | refine sw_e ?_ | refine ai ?_ | simp only [thn])
    simp [go_sem, hB]
  try simp
  (repeat first | refine hku ?_ | refine sw_seqk fun _ _ => ?_ | refine sw_reg ?_ | (refine sw_reg2 ?_; conv in reord _ => simp [reord, freeO]) | ((first | refine aops_k fun _ _ => ?_ | with_reducible refine rw_own ?_); simp [go_sem]; try go_ints) | refine sw_block ?_ | refine sw_t ?_ | refine sw_f ?_ | refine sw_e ?_ | refine ai ?_ | simp only [aops, thn, inB, ↓reduceIte, Nat.reduceEqDiff])
  (refine ⟨.v _, k5, ?_⟩; simp [go_sem]; (repeat first | refine hku ?_ | refine sw_seqk fun _ _ => ?_ | refine sw_reg ?_ | (refine sw_reg2 ?_; conv in reord _ => simp [reord, freeO]) | ((first | refine aops_k fun _ _ => ?_ | with_reducible refine rw_own ?_); simp [go_sem]; try go_ints) | refine sw_block ?_ | refine sw_t ?_ | refine sw_f ?_ | refine sw_e ?_ | refine ai ?_ | simp only [aops, thn, inB, ↓reduceIte, Nat.reduceEqDiff]))
  replace hB : B = (decide ((l1 : Int) ≤ (ks.length : Int)) && (decide ((l2 : Int) < 0) || decide ((ks.length : Int) ≤ (l2 : Int))) && maysR ks tm) := by rw [hB]; simp
  by_cases h1 : (ks.length : Int) < l1
  · first
    | (exfalso; omega)
    | (have e1 : ¬ (l1 : Int) ≤ (ks.length : Int) := by omega
       try simp [h1, e1]
       (repeat first | refine hku ?_ | refine sw_seqk fun _ _ => ?_ | refine sw_reg ?_ | (refine sw_reg2 ?_; conv in reord _ => simp [reord, freeO]) | ((first | refine aops_k fun _ _ => ?_ | with_reducible refine rw_own ?_); simp [go_sem]; try go_ints) | refine sw_block ?_ | refine sw_t ?_ | refine sw_f ?_ | refine sw_e ?_ | refine ai ?_ | simp only [thn])
       simp [go_sem, hB, e1])
  have e1 : (l1 : Int) ≤ (ks.length : Int) := by omega
  try simp [h1, e1]
  (repeat first | refine hku ?_ | refine sw_seqk fun _ _ => ?_ | refine sw_reg ?_ | (refine sw_reg2 ?_; conv in reord _ => simp [reord, freeO]) | ((first | refine aops_k fun _ _ => ?_ | with_reducible refine rw_own ?_); simp [go_sem]; try go_ints) | refine sw_block ?_ | refine sw_t ?_ | refine sw_f ?_ | refine sw_e ?_ | refine ai ?_ | simp only [aops, thn, inB, ↓reduceIte, Nat.reduceEqDiff])
  have h23 : ((0 : Int) ≤ l2 ∧ l2 < (ks.length : Int)) ∨ ((0 : Int) ≤ l2 ∧ ¬ l2 < (ks.length : Int)) ∨ ¬ (0 : Int) ≤ l2 := by omega
  rcases h23 with ⟨h2, h3⟩ | ⟨h2, h3⟩ | h2
  · have e2 : ¬ (l2 : Int) < 0 := by omega
    have e3 : ¬ (ks.length : Int) ≤ l2 := by omega
    have hBf : B = false := by rw [hB, decide_eq_false e2, decide_eq_false e3]; simp
    try simp [h2, e2]
    (repeat first | refine hku ?_ | refine sw_seqk fun _ _ => ?_ | refine sw_reg ?_ | (refine sw_reg2 ?_; conv in reord _ => simp [reord, freeO]) | ((first | refine aops_k fun _ _ => ?_ | with_reducible refine rw_own ?_); simp [go_sem, h3]; try go_ints) | refine sw_block ?_ | refine sw_t ?_ | refine sw_f ?_ | refine sw_e ?_ | refine ai ?_ | simp only [thn])
    simp [go_sem, hBf]
  have e2 : ¬ (l2 : Int) < 0 := by omega
  have e3 : (ks.length : Int) ≤ l2 := by omega
  replace hB : B = maysR ks tm := by rw [hB, decide_eq_true e1, decide_eq_true e3]; simp
  try simp [h2, e2]
  (repeat first | refine hku ?_ | refine sw_seqk fun _ _ => ?_ | refine sw_reg ?_ | (refine sw_reg2 ?_; conv in reord _ => simp [reord, freeO]) | ((first | refine aops_k fun _ _ => ?_ | with_reducible refine rw_own ?_); simp [go_sem, h3]; try go_ints) | refine sw_block ?_ | refine sw_t ?_ | refine sw_f ?_ | refine sw_e ?_ | refine ai ?_ | simp only [aops, thn, inB, ↓reduceIte, Nat.reduceEqDiff])
  rotate_left
  have e2 : (l2 : Int) < 0 := by omega
  replace hB : B = maysR ks tm := by rw [hB, decide_eq_true e1, decide_eq_true e2]; simp
  try simp [h2, e2]
  (repeat first | refine hku ?_ | refine sw_seqk fun _ _ => ?_ | refine sw_reg ?_ | (refine sw_reg2 ?_; conv in reord _ => simp [reord, freeO]) | ((first | refine aops_k fun _ _ => ?_ | with_reducible refine rw_own ?_); simp [go_sem]; try go_ints) | refine sw_block ?_ | refine sw_t ?_ | refine sw_f ?_ | refine sw_e ?_ | refine ai ?_ | simp only [aops, thn, inB, ↓reduceIte, Nat.reduceEqDiff])
  all_goals
    refine sw_loopv 10 (fun i : Nat => [(9, .c (.i .i64 (i : Int)))]) (fun _ => []) (fun i => i ≤ ks.length ∧ maysR (ks.take i) tm = true) (fun i => ks.length - i) 0 ⟨Nat.zero_le _, by simp [maysR]⟩ ?_ fun i ⟨hi, ht⟩ => ?_
    · simp [go_sem]
    · by_cases hlt : i < ks.length
      · have k6 := hih i hlt; have k7 := rterm_v ks[i].kind; have h8 := maysR_no ks tm i hlt; have h9 := maysR_take ks tm i hlt; generalize mayR ks[i] = e at *; generalize termB ks[i].kind = g at *
        (repeat first | refine hku ?_ | refine sw_seqk fun _ _ => ?_ | refine sw_reg ?_ | (refine sw_reg2 ?_; conv in reord _ => simp [reord, freeO]) | ((first | refine aops_k fun _ _ => ?_ | with_reducible refine rw_own ?_); simp [go_sem, hlt]; try go_ints) | refine sw_block ?_ | refine sw_t ?_ | refine sw_f ?_ | refine sw_e ?_ | refine ai ?_ | simp only [aops, thn, inB, ↓reduceIte, Nat.reduceEqDiff])
        (refine ⟨.v _, k7, ?_⟩; simp [go_sem]; (repeat first | refine hku ?_ | refine sw_seqk fun _ _ => ?_ | refine sw_reg ?_ | (refine sw_reg2 ?_; conv in reord _ => simp [reord, freeO]) | ((first | refine aops_k fun _ _ => ?_ | with_reducible refine rw_own ?_); simp [go_sem, hlt]; try go_ints) | refine sw_block ?_ | refine sw_t ?_ | refine sw_f ?_ | refine sw_e ?_ | refine ai ?_ | simp only [aops, thn, inB, ↓reduceIte, Nat.reduceEqDiff]))
        (refine ⟨.v _, k6, ?_⟩; simp [go_sem]; (repeat first | refine hku ?_ | refine sw_seqk fun _ _ => ?_ | refine sw_reg ?_ | (refine sw_reg2 ?_; conv in reord _ => simp [reord, freeO]) | ((first | refine aops_k fun _ _ => ?_ | with_reducible refine rw_own ?_); simp [go_sem]; try go_ints) | refine sw_block ?_ | refine sw_t ?_ | refine sw_f ?_ | refine sw_e ?_ | refine ai ?_ | simp only [aops, thn, inB, ↓reduceIte, Nat.reduceEqDiff]))
        cases e <;> cases g <;> cases tm
        all_goals
          try simp
          (repeat first | refine hku ?_ | refine sw_seqk fun _ _ => ?_ | refine sw_reg ?_ | (refine sw_reg2 ?_; conv in reord _ => simp [reord, freeO]) | ((first | refine aops_k fun _ _ => ?_ | with_reducible refine rw_own ?_); simp [go_sem]; try go_ints) | refine sw_block ?_ | refine sw_t ?_ | refine sw_f ?_ | refine sw_e ?_ | refine ai ?_ | simp only [aops, thn, inB])
          first
          | (refine ⟨i + 1, ⟨by omega, by rw [h9, ht]; rfl⟩, by omega, ?_⟩; simp [go_sem]; done)
          | (simp [go_sem, hB, h8 rfl]; done)
      · have : i = ks.length := by omega
        subst this; rw [List.take_length] at ht
        (repeat first | refine hku ?_ | refine sw_seqk fun _ _ => ?_ | refine sw_reg ?_ | (refine sw_reg2 ?_; conv in reord _ => simp [reord, freeO]) | ((first | refine aops_k fun _ _ => ?_ | with_reducible refine rw_own ?_); simp [go_sem]; try go_ints) | refine sw_block ?_ | refine sw_t ?_ | refine sw_f ?_ | refine sw_e ?_ | refine ai ?_ | simp only [aops, thn, inB, ↓reduceIte, Nat.reduceEqDiff])
        simp [go_sem, hB, ht]
end Go.Proofs.YtbgifiijjjoebaaGreatDoor

namespace Go.Proofs.YtbgifiijjjoebaaGreatDoor
open Go.RowKit

set_option maxRecDepth 100000 in
set_option maxHeartbeats 12800000 in
theorem rmay_k6 (s : ByteArray) (ns : List ByteArray) (n : Z) (ks : List Tr) (ih : ∀ t ∈ ks, Fn Tryz.prog 37 [.g (dTr t)] (.c (.b (mayR t)))) : Fn Tryz.prog 37 [.g (dTr (.mk 6 s ns n ks))] (.c (.b (mayR (.mk 6 s ns n ks)))) := by
  refine Fn.intro' Tryz.func37 [.tmp 2] 120 fun hok => ?_
  have hok := hok (.g (dTr (.mk 6 s ns n ks))) (by simp); have hl := kids_len hok; have hsz := name_size hok; have k1 := risname_v s hsz; have k2 := rnames_v ns; have k3 := rstands_v n; have k4 := rzero_v n; have k5 := rkids_v 6 (by omega); have h0 := s_em s
  have hih : ∀ i (h : i < ks.length), Fn Tryz.prog 37 [.g (dTr ks[i])] (.c (.b (mayR ks[i]))) := fun i h => ih _ (List.getElem_mem h)
  obtain ⟨B, hB0⟩ : ∃ B, B = mayR (Tr.mk 6 s ns n ks) := ⟨_, rfl⟩; rw [← hB0, dTr_eq]; simp only [Tr.kind, Tr.name, Tr.names, Tr.n, Tr.kids] at *; simp only [dTr_eq] at hih; clear ih hok hsz; obtain ⟨⟨l1, l2, tm⟩, hkd⟩ : ∃ p, kidsR 6 = p := ⟨_, rfl⟩
  have hB : B = (decide (s.size = 0) && decide (ns.length = 0) && (!n.neg && n.ok) && decide ((l1 : Int) ≤ (ks.length : Int)) && (decide ((l2 : Int) < 0) || decide ((ks.length : Int) ≤ (l2 : Int))) && maysR ks tm) := by rw [hB0, mayR, hkd]; rfl
  rw [hkd] at k5; simp only at k5; clear hB0
  (repeat first | refine hku ?_ | refine sw_seqk fun _ _ => ?_ | refine sw_reg ?_ | (refine sw_reg2 ?_; conv in reord _ => simp [reord, freeO]) | ((first | refine aops_k fun _ _ => ?_ | with_reducible refine rw_own ?_); simp [go_sem]; try go_ints) | refine sw_block ?_ | refine sw_t ?_ | refine sw_f ?_ | refine sw_e ?_ | refine ai ?_ | simp only [aops, thn, inB, ↓reduceIte, Nat.reduceEqDiff])
  by_cases hs : s.size = 0
  rotate_left
  · rw [decide_eq_false hs] at h0; simp [h0]
    (repeat first | refine hku ?_ | refine sw_seqk fun _ _ => ?_ | refine sw_reg ?_ | (refine sw_reg2 ?_; conv in reord _ => simp [reord, freeO]) | ((first | refine aops_k fun _ _ => ?_ | with_reducible refine rw_own ?_); simp [go_sem]; try go_ints) | refine sw_block ?_ | refine sw_t ?_ | refine sw_f ?_ | refine sw_e ?_ | refine ai ?_ | simp only [thn])
    simp [go_sem, hB, hs]
  rw [decide_eq_true hs] at h0; simp [h0]
  (repeat first | refine hku ?_ | refine sw_seqk fun _ _ => ?_ | refine sw_reg ?_ | (refine sw_reg2 ?_; conv in reord _ => simp [reord, freeO]) | ((first | refine aops_k fun _ _ => ?_ | with_reducible refine rw_own ?_); simp [go_sem]; try go_ints) | refine sw_block ?_ | refine sw_t ?_ | refine sw_f ?_ | refine sw_e ?_ | refine ai ?_ | simp only [aops, thn, inB, ↓reduceIte, Nat.reduceEqDiff])
  by_cases hn : ns.length = 0
  rotate_left
  · have hn1 : ¬ (dSs ns).length = 0 := by rw [dSs_len]; exact hn
    have hn2 : 0 < (dSs ns).length := by omega
    have hn3 : (0 : Int) < ((dSs ns).length : Int) := by omega
    simp [hn2]
    (repeat first | refine hku ?_ | refine sw_seqk fun _ _ => ?_ | refine sw_reg ?_ | (refine sw_reg2 ?_; conv in reord _ => simp [reord, freeO]) | ((first | refine aops_k fun _ _ => ?_ | with_reducible refine rw_own ?_); simp [go_sem]; try go_ints) | refine sw_block ?_ | refine sw_t ?_ | refine sw_f ?_ | refine sw_e ?_ | refine ai ?_ | simp only [thn])
    simp [go_sem, hB, hn]
  have hn4 : ns = [] := List.eq_nil_of_length_eq_zero hn; subst hn4; have hn5 : dSs [] = [] := rfl; simp [hn5]
  (repeat first | refine hku ?_ | refine sw_seqk fun _ _ => ?_ | refine sw_reg ?_ | (refine sw_reg2 ?_; conv in reord _ => simp [reord, freeO]) | ((first | refine aops_k fun _ _ => ?_ | with_reducible refine rw_own ?_); simp [go_sem]; try go_ints) | refine sw_block ?_ | refine sw_t ?_ | refine sw_f ?_ | refine sw_e ?_ | refine ai ?_ | simp only [aops, thn, inB, ↓reduceIte, Nat.reduceEqDiff])
  generalize (!n.neg && n.ok) = a at k3 hB
  (refine ⟨.v _, k3, ?_⟩; simp [go_sem]; (repeat first | refine hku ?_ | refine sw_seqk fun _ _ => ?_ | refine sw_reg ?_ | (refine sw_reg2 ?_; conv in reord _ => simp [reord, freeO]) | ((first | refine aops_k fun _ _ => ?_ | with_reducible refine rw_own ?_); simp [go_sem]; try go_ints) | refine sw_block ?_ | refine sw_t ?_ | refine sw_f ?_ | refine sw_e ?_ | refine ai ?_ | simp only [aops, thn, inB, ↓reduceIte, Nat.reduceEqDiff]))
  cases a
  · try simp
    (repeat first | refine hku ?_ | refine sw_seqk fun _ _ => ?_ | refine sw_reg ?_ | (refine sw_reg2 ?_; conv in reord _ => simp [reord, freeO]) | ((first | refine aops_k fun _ _ => ?_ | with_reducible refine rw_own ?_); simp [go_sem]; try go_ints) | refine sw_block ?_ | refine sw_t ?_ | refine sw_f ?_ | refine sw_e ?_ | refine ai ?_ | simp only [thn])
    simp [go_sem, hB]
  try simp
  (repeat first | refine hku ?_ | refine sw_seqk fun _ _ => ?_ | refine sw_reg ?_ | (refine sw_reg2 ?_; conv in reord _ => simp [reord, freeO]) | ((first | refine aops_k fun _ _ => ?_ | with_reducible refine rw_own ?_); simp [go_sem]; try go_ints) | refine sw_block ?_ | refine sw_t ?_ | refine sw_f ?_ | refine sw_e ?_ | refine ai ?_ | simp only [aops, thn, inB, ↓reduceIte, Nat.reduceEqDiff])
  (refine ⟨.v _, k5, ?_⟩; simp [go_sem]; (repeat first | refine hku ?_ | refine sw_seqk fun _ _ => ?_ | refine sw_reg ?_ | (refine sw_reg2 ?_; conv in reord _ => simp [reord, freeO]) | ((first | refine aops_k fun _ _ => ?_ | with_reducible refine rw_own ?_); simp [go_sem]; try go_ints) | refine sw_block ?_ | refine sw_t ?_ | refine sw_f ?_ | refine sw_e ?_ | refine ai ?_ | simp only [aops, thn, inB, ↓reduceIte, Nat.reduceEqDiff]))
  replace hB : B = (decide ((l1 : Int) ≤ (ks.length : Int)) && (decide ((l2 : Int) < 0) || decide ((ks.length : Int) ≤ (l2 : Int))) && maysR ks tm) := by rw [hB]; simp [hs]
  by_cases h1 : (ks.length : Int) < l1
  · first
    | (exfalso; omega)
    | (have e1 : ¬ (l1 : Int) ≤ (ks.length : Int) := by omega
       try simp [h1, e1]
       (repeat first | refine hku ?_ | refine sw_seqk fun _ _ => ?_ | refine sw_reg ?_ | (refine sw_reg2 ?_; conv in reord _ => simp [reord, freeO]) | ((first | refine aops_k fun _ _ => ?_ | with_reducible refine rw_own ?_); simp [go_sem]; try go_ints) | refine sw_block ?_ | refine sw_t ?_ | refine sw_f ?_ | refine sw_e ?_ | refine ai ?_ | simp only [thn])
       simp [go_sem, hB, e1])
  have e1 : (l1 : Int) ≤ (ks.length : Int) := by omega
  try simp [h1, e1]
  (repeat first | refine hku ?_ | refine sw_seqk fun _ _ => ?_ | refine sw_reg ?_ | (refine sw_reg2 ?_; conv in reord _ => simp [reord, freeO]) | ((first | refine aops_k fun _ _ => ?_ | with_reducible refine rw_own ?_); simp [go_sem]; try go_ints) | refine sw_block ?_ | refine sw_t ?_ | refine sw_f ?_ | refine sw_e ?_ | refine ai ?_ | simp only [aops, thn, inB, ↓reduceIte, Nat.reduceEqDiff])
  have h23 : ((0 : Int) ≤ l2 ∧ l2 < (ks.length : Int)) ∨ ((0 : Int) ≤ l2 ∧ ¬ l2 < (ks.length : Int)) ∨ ¬ (0 : Int) ≤ l2 := by omega
  rcases h23 with ⟨h2, h3⟩ | ⟨h2, h3⟩ | h2
  · have e2 : ¬ (l2 : Int) < 0 := by omega
    have e3 : ¬ (ks.length : Int) ≤ l2 := by omega
    have hBf : B = false := by rw [hB, decide_eq_false e2, decide_eq_false e3]; simp
    try simp [h2, e2]
    (repeat first | refine hku ?_ | refine sw_seqk fun _ _ => ?_ | refine sw_reg ?_ | (refine sw_reg2 ?_; conv in reord _ => simp [reord, freeO]) | ((first | refine aops_k fun _ _ => ?_ | with_reducible refine rw_own ?_); simp [go_sem, h3]; try go_ints) | refine sw_block ?_ | refine sw_t ?_ | refine sw_f ?_ | refine sw_e ?_ | refine ai ?_ | simp only [thn])
    simp [go_sem, hBf]
  have e2 : ¬ (l2 : Int) < 0 := by omega
  have e3 : (ks.length : Int) ≤ l2 := by omega
  replace hB : B = maysR ks tm := by rw [hB, decide_eq_true e1, decide_eq_true e3]; simp
  try simp [h2, e2]
  (repeat first | refine hku ?_ | refine sw_seqk fun _ _ => ?_ | refine sw_reg ?_ | (refine sw_reg2 ?_; conv in reord _ => simp [reord, freeO]) | ((first | refine aops_k fun _ _ => ?_ | with_reducible refine rw_own ?_); simp [go_sem, h3]; try go_ints) | refine sw_block ?_ | refine sw_t ?_ | refine sw_f ?_ | refine sw_e ?_ | refine ai ?_ | simp only [aops, thn, inB, ↓reduceIte, Nat.reduceEqDiff])
  rotate_left
  have e2 : (l2 : Int) < 0 := by omega
  replace hB : B = maysR ks tm := by rw [hB, decide_eq_true e1, decide_eq_true e2]; simp
  try simp [h2, e2]
  (repeat first | refine hku ?_ | refine sw_seqk fun _ _ => ?_ | refine sw_reg ?_ | (refine sw_reg2 ?_; conv in reord _ => simp [reord, freeO]) | ((first | refine aops_k fun _ _ => ?_ | with_reducible refine rw_own ?_); simp [go_sem]; try go_ints) | refine sw_block ?_ | refine sw_t ?_ | refine sw_f ?_ | refine sw_e ?_ | refine ai ?_ | simp only [aops, thn, inB, ↓reduceIte, Nat.reduceEqDiff])
  all_goals
    refine sw_loopv 10 (fun i : Nat => [(9, .c (.i .i64 (i : Int)))]) (fun _ => []) (fun i => i ≤ ks.length ∧ maysR (ks.take i) tm = true) (fun i => ks.length - i) 0 ⟨Nat.zero_le _, by simp [maysR]⟩ ?_ fun i ⟨hi, ht⟩ => ?_
    · simp [go_sem]
    · by_cases hlt : i < ks.length
      · have k6 := hih i hlt; have k7 := rterm_v ks[i].kind; have h8 := maysR_no ks tm i hlt; have h9 := maysR_take ks tm i hlt; generalize mayR ks[i] = e at *; generalize termB ks[i].kind = g at *
        (repeat first | refine hku ?_ | refine sw_seqk fun _ _ => ?_ | refine sw_reg ?_ | (refine sw_reg2 ?_; conv in reord _ => simp [reord, freeO]) | ((first | refine aops_k fun _ _ => ?_ | with_reducible refine rw_own ?_); simp [go_sem, hlt]; try go_ints) | refine sw_block ?_ | refine sw_t ?_ | refine sw_f ?_ | refine sw_e ?_ | refine ai ?_ | simp only [aops, thn, inB, ↓reduceIte, Nat.reduceEqDiff])
        (refine ⟨.v _, k7, ?_⟩; simp [go_sem]; (repeat first | refine hku ?_ | refine sw_seqk fun _ _ => ?_ | refine sw_reg ?_ | (refine sw_reg2 ?_; conv in reord _ => simp [reord, freeO]) | ((first | refine aops_k fun _ _ => ?_ | with_reducible refine rw_own ?_); simp [go_sem, hlt]; try go_ints) | refine sw_block ?_ | refine sw_t ?_ | refine sw_f ?_ | refine sw_e ?_ | refine ai ?_ | simp only [aops, thn, inB, ↓reduceIte, Nat.reduceEqDiff]))
        (refine ⟨.v _, k6, ?_⟩; simp [go_sem]; (repeat first | refine hku ?_ | refine sw_seqk fun _ _ => ?_ | refine sw_reg ?_ | (refine sw_reg2 ?_; conv in reord _ => simp [reord, freeO]) | ((first | refine aops_k fun _ _ => ?_ | with_reducible refine rw_own ?_); simp [go_sem]; try go_ints) | refine sw_block ?_ | refine sw_t ?_ | refine sw_f ?_ | refine sw_e ?_ | refine ai ?_ | simp only [aops, thn, inB, ↓reduceIte, Nat.reduceEqDiff]))
        cases e <;> cases g <;> cases tm
        all_goals
          try simp
          (repeat first | refine hku ?_ | refine sw_seqk fun _ _ => ?_ | refine sw_reg ?_ | (refine sw_reg2 ?_; conv in reord _ => simp [reord, freeO]) | ((first | refine aops_k fun _ _ => ?_ | with_reducible refine rw_own ?_); simp [go_sem]; try go_ints) | refine sw_block ?_ | refine sw_t ?_ | refine sw_f ?_ | refine sw_e ?_ | refine ai ?_ | simp only [aops, thn, inB])
          first
          | (refine ⟨i + 1, ⟨by omega, by rw [h9, ht]; rfl⟩, by omega, ?_⟩; simp [go_sem]; done)
          | (simp [go_sem, hB, h8 rfl]; done)
      · have : i = ks.length := by omega
        subst this; rw [List.take_length] at ht
        (repeat first | refine hku ?_ | refine sw_seqk fun _ _ => ?_ | refine sw_reg ?_ | (refine sw_reg2 ?_; conv in reord _ => simp [reord, freeO]) | ((first | refine aops_k fun _ _ => ?_ | with_reducible refine rw_own ?_); simp [go_sem]; try go_ints) | refine sw_block ?_ | refine sw_t ?_ | refine sw_f ?_ | refine sw_e ?_ | refine ai ?_ | simp only [aops, thn, inB, ↓reduceIte, Nat.reduceEqDiff])
        simp [go_sem, hB, ht]
end Go.Proofs.YtbgifiijjjoebaaGreatDoor

namespace Go.Proofs.YtbgifiijjjoebaaGreatDoor
open Go.RowKit

set_option maxRecDepth 100000 in
set_option maxHeartbeats 12800000 in
theorem rmay_k15 (s : ByteArray) (ns : List ByteArray) (n : Z) (ks : List Tr) (ih : ∀ t ∈ ks, Fn Tryz.prog 37 [.g (dTr t)] (.c (.b (mayR t)))) : Fn Tryz.prog 37 [.g (dTr (.mk 15 s ns n ks))] (.c (.b (mayR (.mk 15 s ns n ks)))) := by
  refine Fn.intro' Tryz.func37 [.tmp 2] 120 fun hok => ?_
  have hok := hok (.g (dTr (.mk 15 s ns n ks))) (by simp); have hl := kids_len hok; have hsz := name_size hok; have k1 := risname_v s hsz; have k2 := rnames_v ns; have k3 := rstands_v n; have k4 := rzero_v n; have k5 := rkids_v 15 (by omega); have h0 := s_em s
  have hih : ∀ i (h : i < ks.length), Fn Tryz.prog 37 [.g (dTr ks[i])] (.c (.b (mayR ks[i]))) := fun i h => ih _ (List.getElem_mem h)
  obtain ⟨B, hB0⟩ : ∃ B, B = mayR (Tr.mk 15 s ns n ks) := ⟨_, rfl⟩; rw [← hB0, dTr_eq]; simp only [Tr.kind, Tr.name, Tr.names, Tr.n, Tr.kids] at *; simp only [dTr_eq] at hih; clear ih hok hsz; obtain ⟨⟨l1, l2, tm⟩, hkd⟩ : ∃ p, kidsR 15 = p := ⟨_, rfl⟩
  have hB : B = (decide (s.size = 0) && decide (ns.length = 0) && (!n.neg && n.ok) && decide ((l1 : Int) ≤ (ks.length : Int)) && (decide ((l2 : Int) < 0) || decide ((ks.length : Int) ≤ (l2 : Int))) && maysR ks tm) := by rw [hB0, mayR, hkd]; rfl
  rw [hkd] at k5; simp only at k5; clear hB0
  (repeat first | refine hku ?_ | refine sw_seqk fun _ _ => ?_ | refine sw_reg ?_ | (refine sw_reg2 ?_; conv in reord _ => simp [reord, freeO]) | ((first | refine aops_k fun _ _ => ?_ | with_reducible refine rw_own ?_); simp [go_sem]; try go_ints) | refine sw_block ?_ | refine sw_t ?_ | refine sw_f ?_ | refine sw_e ?_ | refine ai ?_ | simp only [aops, thn, inB, ↓reduceIte, Nat.reduceEqDiff])
  by_cases hs : s.size = 0
  rotate_left
  · rw [decide_eq_false hs] at h0; simp [h0]
    (repeat first | refine hku ?_ | refine sw_seqk fun _ _ => ?_ | refine sw_reg ?_ | (refine sw_reg2 ?_; conv in reord _ => simp [reord, freeO]) | ((first | refine aops_k fun _ _ => ?_ | with_reducible refine rw_own ?_); simp [go_sem]; try go_ints) | refine sw_block ?_ | refine sw_t ?_ | refine sw_f ?_ | refine sw_e ?_ | refine ai ?_ | simp only [thn])
    simp [go_sem, hB, hs]
  rw [decide_eq_true hs] at h0; simp [h0]
  (repeat first | refine hku ?_ | refine sw_seqk fun _ _ => ?_ | refine sw_reg ?_ | (refine sw_reg2 ?_; conv in reord _ => simp [reord, freeO]) | ((first | refine aops_k fun _ _ => ?_ | with_reducible refine rw_own ?_); simp [go_sem]; try go_ints) | refine sw_block ?_ | refine sw_t ?_ | refine sw_f ?_ | refine sw_e ?_ | refine ai ?_ | simp only [aops, thn, inB, ↓reduceIte, Nat.reduceEqDiff])
  by_cases hn : ns.length = 0
  rotate_left
  · have hn1 : ¬ (dSs ns).length = 0 := by rw [dSs_len]; exact hn
    have hn2 : 0 < (dSs ns).length := by omega
    have hn3 : (0 : Int) < ((dSs ns).length : Int) := by omega
    simp [hn2]
    (repeat first | refine hku ?_ | refine sw_seqk fun _ _ => ?_ | refine sw_reg ?_ | (refine sw_reg2 ?_; conv in reord _ => simp [reord, freeO]) | ((first | refine aops_k fun _ _ => ?_ | with_reducible refine rw_own ?_); simp [go_sem]; try go_ints) | refine sw_block ?_ | refine sw_t ?_ | refine sw_f ?_ | refine sw_e ?_ | refine ai ?_ | simp only [thn])
    simp [go_sem, hB, hn]
  have hn4 : ns = [] := List.eq_nil_of_length_eq_zero hn; subst hn4; have hn5 : dSs [] = [] := rfl; simp [hn5]
  (repeat first | refine hku ?_ | refine sw_seqk fun _ _ => ?_ | refine sw_reg ?_ | (refine sw_reg2 ?_; conv in reord _ => simp [reord, freeO]) | ((first | refine aops_k fun _ _ => ?_ | with_reducible refine rw_own ?_); simp [go_sem]; try go_ints) | refine sw_block ?_ | refine sw_t ?_ | refine sw_f ?_ | refine sw_e ?_ | refine ai ?_ | simp only [aops, thn, inB, ↓reduceIte, Nat.reduceEqDiff])
  generalize (!n.neg && n.ok) = a at k3 hB
  (refine ⟨.v _, k3, ?_⟩; simp [go_sem]; (repeat first | refine hku ?_ | refine sw_seqk fun _ _ => ?_ | refine sw_reg ?_ | (refine sw_reg2 ?_; conv in reord _ => simp [reord, freeO]) | ((first | refine aops_k fun _ _ => ?_ | with_reducible refine rw_own ?_); simp [go_sem]; try go_ints) | refine sw_block ?_ | refine sw_t ?_ | refine sw_f ?_ | refine sw_e ?_ | refine ai ?_ | simp only [aops, thn, inB, ↓reduceIte, Nat.reduceEqDiff]))
  cases a
  · try simp
    (repeat first | refine hku ?_ | refine sw_seqk fun _ _ => ?_ | refine sw_reg ?_ | (refine sw_reg2 ?_; conv in reord _ => simp [reord, freeO]) | ((first | refine aops_k fun _ _ => ?_ | with_reducible refine rw_own ?_); simp [go_sem]; try go_ints) | refine sw_block ?_ | refine sw_t ?_ | refine sw_f ?_ | refine sw_e ?_ | refine ai ?_ | simp only [thn])
    simp [go_sem, hB]
  try simp
  (repeat first | refine hku ?_ | refine sw_seqk fun _ _ => ?_ | refine sw_reg ?_ | (refine sw_reg2 ?_; conv in reord _ => simp [reord, freeO]) | ((first | refine aops_k fun _ _ => ?_ | with_reducible refine rw_own ?_); simp [go_sem]; try go_ints) | refine sw_block ?_ | refine sw_t ?_ | refine sw_f ?_ | refine sw_e ?_ | refine ai ?_ | simp only [aops, thn, inB, ↓reduceIte, Nat.reduceEqDiff])
  (refine ⟨.v _, k5, ?_⟩; simp [go_sem]; (repeat first | refine hku ?_ | refine sw_seqk fun _ _ => ?_ | refine sw_reg ?_ | (refine sw_reg2 ?_; conv in reord _ => simp [reord, freeO]) | ((first | refine aops_k fun _ _ => ?_ | with_reducible refine rw_own ?_); simp [go_sem]; try go_ints) | refine sw_block ?_ | refine sw_t ?_ | refine sw_f ?_ | refine sw_e ?_ | refine ai ?_ | simp only [aops, thn, inB, ↓reduceIte, Nat.reduceEqDiff]))
  replace hB : B = (decide ((l1 : Int) ≤ (ks.length : Int)) && (decide ((l2 : Int) < 0) || decide ((ks.length : Int) ≤ (l2 : Int))) && maysR ks tm) := by rw [hB]; simp [hs]
  by_cases h1 : (ks.length : Int) < l1
  · first
    | (exfalso; omega)
    | (have e1 : ¬ (l1 : Int) ≤ (ks.length : Int) := by omega
       try simp [h1, e1]
       (repeat first | refine hku ?_ | refine sw_seqk fun _ _ => ?_ | refine sw_reg ?_ | (refine sw_reg2 ?_; conv in reord _ => simp [reord, freeO]) | ((first | refine aops_k fun _ _ => ?_ | with_reducible refine rw_own ?_); simp [go_sem]; try go_ints) | refine sw_block ?_ | refine sw_t ?_ | refine sw_f ?_ | refine sw_e ?_ | refine ai ?_ | simp only [thn])
       simp [go_sem, hB, e1])
  have e1 : (l1 : Int) ≤ (ks.length : Int) := by omega
  try simp [h1, e1]
  (repeat first | refine hku ?_ | refine sw_seqk fun _ _ => ?_ | refine sw_reg ?_ | (refine sw_reg2 ?_; conv in reord _ => simp [reord, freeO]) | ((first | refine aops_k fun _ _ => ?_ | with_reducible refine rw_own ?_); simp [go_sem]; try go_ints) | refine sw_block ?_ | refine sw_t ?_ | refine sw_f ?_ | refine sw_e ?_ | refine ai ?_ | simp only [aops, thn, inB, ↓reduceIte, Nat.reduceEqDiff])
  have h23 : ((0 : Int) ≤ l2 ∧ l2 < (ks.length : Int)) ∨ ((0 : Int) ≤ l2 ∧ ¬ l2 < (ks.length : Int)) ∨ ¬ (0 : Int) ≤ l2 := by omega
  rcases h23 with ⟨h2, h3⟩ | ⟨h2, h3⟩ | h2
  · have e2 : ¬ (l2 : Int) < 0 := by omega
    have e3 : ¬ (ks.length : Int) ≤ l2 := by omega
    have hBf : B = false := by rw [hB, decide_eq_false e2, decide_eq_false e3]; simp
    try simp [h2, e2]
    (repeat first | refine hku ?_ | refine sw_seqk fun _ _ => ?_ | refine sw_reg ?_ | (refine sw_reg2 ?_; conv in reord _ => simp [reord, freeO]) | ((first | refine aops_k fun _ _ => ?_ | with_reducible refine rw_own ?_); simp [go_sem, h3]; try go_ints) | refine sw_block ?_ | refine sw_t ?_ | refine sw_f ?_ | refine sw_e ?_ | refine ai ?_ | simp only [thn])
    simp [go_sem, hBf]
  have e2 : ¬ (l2 : Int) < 0 := by omega
  have e3 : (ks.length : Int) ≤ l2 := by omega
  replace hB : B = maysR ks tm := by rw [hB, decide_eq_true e1, decide_eq_true e3]; simp
  try simp [h2, e2]
  (repeat first | refine hku ?_ | refine sw_seqk fun _ _ => ?_ | refine sw_reg ?_ | (refine sw_reg2 ?_; conv in reord _ => simp [reord, freeO]) | ((first | refine aops_k fun _ _ => ?_ | with_reducible refine rw_own ?_); simp [go_sem, h3]; try go_ints) | refine sw_block ?_ | refine sw_t ?_ | refine sw_f ?_ | refine sw_e ?_ | refine ai ?_ | simp only [aops, thn, inB, ↓reduceIte, Nat.reduceEqDiff])
  rotate_left
  have e2 : (l2 : Int) < 0 := by omega
  replace hB : B = maysR ks tm := by rw [hB, decide_eq_true e1, decide_eq_true e2]; simp
  try simp [h2, e2]
  (repeat first | refine hku ?_ | refine sw_seqk fun _ _ => ?_ | refine sw_reg ?_ | (refine sw_reg2 ?_; conv in reord _ => simp [reord, freeO]) | ((first | refine aops_k fun _ _ => ?_ | with_reducible refine rw_own ?_); simp [go_sem]; try go_ints) | refine sw_block ?_ | refine sw_t ?_ | refine sw_f ?_ | refine sw_e ?_ | refine ai ?_ | simp only [aops, thn, inB, ↓reduceIte, Nat.reduceEqDiff])
  all_goals
    refine sw_loopv 10 (fun i : Nat => [(9, .c (.i .i64 (i : Int)))]) (fun _ => []) (fun i => i ≤ ks.length ∧ maysR (ks.take i) tm = true) (fun i => ks.length - i) 0 ⟨Nat.zero_le _, by simp [maysR]⟩ ?_ fun i ⟨hi, ht⟩ => ?_
    · simp [go_sem]
    · by_cases hlt : i < ks.length
      · have k6 := hih i hlt; have k7 := rterm_v ks[i].kind; have h8 := maysR_no ks tm i hlt; have h9 := maysR_take ks tm i hlt; generalize mayR ks[i] = e at *; generalize termB ks[i].kind = g at *
        (repeat first | refine hku ?_ | refine sw_seqk fun _ _ => ?_ | refine sw_reg ?_ | (refine sw_reg2 ?_; conv in reord _ => simp [reord, freeO]) | ((first | refine aops_k fun _ _ => ?_ | with_reducible refine rw_own ?_); simp [go_sem, hlt]; try go_ints) | refine sw_block ?_ | refine sw_t ?_ | refine sw_f ?_ | refine sw_e ?_ | refine ai ?_ | simp only [aops, thn, inB, ↓reduceIte, Nat.reduceEqDiff])
        (refine ⟨.v _, k7, ?_⟩; simp [go_sem]; (repeat first | refine hku ?_ | refine sw_seqk fun _ _ => ?_ | refine sw_reg ?_ | (refine sw_reg2 ?_; conv in reord _ => simp [reord, freeO]) | ((first | refine aops_k fun _ _ => ?_ | with_reducible refine rw_own ?_); simp [go_sem, hlt]; try go_ints) | refine sw_block ?_ | refine sw_t ?_ | refine sw_f ?_ | refine sw_e ?_ | refine ai ?_ | simp only [aops, thn, inB, ↓reduceIte, Nat.reduceEqDiff]))
        (refine ⟨.v _, k6, ?_⟩; simp [go_sem]; (repeat first | refine hku ?_ | refine sw_seqk fun _ _ => ?_ | refine sw_reg ?_ | (refine sw_reg2 ?_; conv in reord _ => simp [reord, freeO]) | ((first | refine aops_k fun _ _ => ?_ | with_reducible refine rw_own ?_); simp [go_sem]; try go_ints) | refine sw_block ?_ | refine sw_t ?_ | refine sw_f ?_ | refine sw_e ?_ | refine ai ?_ | simp only [aops, thn, inB, ↓reduceIte, Nat.reduceEqDiff]))
        cases e <;> cases g <;> cases tm
        all_goals
          try simp
          (repeat first | refine hku ?_ | refine sw_seqk fun _ _ => ?_ | refine sw_reg ?_ | (refine sw_reg2 ?_; conv in reord _ => simp [reord, freeO]) | ((first | refine aops_k fun _ _ => ?_ | with_reducible refine rw_own ?_); simp [go_sem]; try go_ints) | refine sw_block ?_ | refine sw_t ?_ | refine sw_f ?_ | refine sw_e ?_ | refine ai ?_ | simp only [aops, thn, inB])
          first
          | (refine ⟨i + 1, ⟨by omega, by rw [h9, ht]; rfl⟩, by omega, ?_⟩; simp [go_sem]; done)
          | (simp [go_sem, hB, h8 rfl]; done)
      · have : i = ks.length := by omega
        subst this; rw [List.take_length] at ht
        (repeat first | refine hku ?_ | refine sw_seqk fun _ _ => ?_ | refine sw_reg ?_ | (refine sw_reg2 ?_; conv in reord _ => simp [reord, freeO]) | ((first | refine aops_k fun _ _ => ?_ | with_reducible refine rw_own ?_); simp [go_sem]; try go_ints) | refine sw_block ?_ | refine sw_t ?_ | refine sw_f ?_ | refine sw_e ?_ | refine ai ?_ | simp only [aops, thn, inB, ↓reduceIte, Nat.reduceEqDiff])
        simp [go_sem, hB, ht]
end Go.Proofs.YtbgifiijjjoebaaGreatDoor
