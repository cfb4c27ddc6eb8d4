/- riddleref10: quantifier, bound, Names. No conditions. riddleref10.Names. No conditions. riddle/lower.Names. No conditions. The law LowerNames, its known() given. No conditions. -/
import Derived.Test.YtbgifiijjjoebaaGreatDoorGNamesBf
import Derived.Test.YtbgifiijjjoebaaGreatDoorGNamesBb
import Derived.Test.YtbgifiijjjoebaaGreatDoorGNamesBj
import Derived.Test.YtbgifiijjjoebaaGreatDoorGNamesBk
namespace Go.Proofs.YtbgifiijjjoebaaGreatDoor
open Go.RowKit

theorem rquant_v (t : Tr) : Fn Tryz.prog 40 [.g (dTr t)] (.c (.b (decide (t.kind = 21) || decide (t.kind = 22)))) := by
 refine Fn.intro' Tryz.func40 [.tmp 2] 11 fun _ => ?_
 rw [dTr_eq]
 by_cases h : t.kind = 21
 ·(repeat first | refine hku ?_ | refine sw_seqk fun _ _ => ?_ | refine sw_reg ?_ | (refine sw_reg2 ?_; conv in reord _ => simp [reord, freeO]) | ((first | refine aops_k fun _ _ => ?_ | with_reducible refine rw_own ?_); simp [go_sem, h]; try go_ints) | refine sw_block ?_ | refine sw_t ?_ | refine sw_f ?_ | refine sw_e ?_ | refine ai ?_ | simp only [aops, thn, inB, ↓reduceIte, Nat.reduceEqDiff])
  simp [go_sem, h]
 ·by_cases h2 : t.kind = 22
  ·(repeat first | refine hku ?_ | refine sw_seqk fun _ _ => ?_ | refine sw_reg ?_ | (refine sw_reg2 ?_; conv in reord _ => simp [reord, freeO]) | ((first | refine aops_k fun _ _ => ?_ | with_reducible refine rw_own ?_); simp [go_sem, h2]; try go_ints) | refine sw_block ?_ | refine sw_t ?_ | refine sw_f ?_ | refine sw_e ?_ | refine ai ?_ | simp only [aops, thn, inB, ↓reduceIte, Nat.reduceEqDiff])
   simp [go_sem, h2]
  ·(repeat first | refine hku ?_ | refine sw_seqk fun _ _ => ?_ | refine sw_reg ?_ | (refine sw_reg2 ?_; conv in reord _ => simp [reord, freeO]) | ((first | refine aops_k fun _ _ => ?_ | with_reducible refine rw_own ?_); simp [go_sem, h, h2]; try go_ints) | refine sw_block ?_ | refine sw_t ?_ | refine sw_f ?_ | refine sw_e ?_ | refine ai ?_ | simp only [aops, thn, inB, ↓reduceIte, Nat.reduceEqDiff])
   simp [go_sem, h, h2]
mutual
def bndR : Tr → List ByteArray → List ByteArray
 | .mk k _ ns _ ks, o => bndsR ks (if k = 21 ∨ k = 22 then o ++ ns else o)
def bndsR : List Tr → List ByteArray → List ByteArray
 | [], o => o
 | t :: r, o => bndsR r (bndR t o)
end
theorem bndsR_take : ∀ (ks : List Tr) (o : List ByteArray) (i : Nat) (h : i < ks.length), bndsR (ks.take (i + 1)) o = bndR ks[i] (bndsR (ks.take i) o)
 | [], _, _, h => by cases h
 | t :: r, o, 0, _ => by simp [bndsR]
 | t :: r, o, i + 1, h => by
  rw [List.take_succ_cons, List.take_succ_cons, bndsR, bndsR, bndsR_take r _ i (by simpa using h), List.getElem_cons_succ]
theorem bndsR_len' : ∀ (l : List Tr), (∀ t ∈ l, ∀ o, (bndR t o).length ≤ o.length + t.nms) → ∀ o, (bndsR l o).length ≤ o.length + nmss l
 | [], _, o => by rw [bndsR, nmss]; omega
 | t :: r, h1, o => by
  rw [bndsR, nmss]; have h2 := h1 t (by simp) o; have h3 := bndsR_len' r (fun t ht => h1 t (by simp [ht])) (bndR t o)
  omega
theorem bndR_len (t : Tr) : ∀ o, (bndR t o).length ≤ o.length + t.nms := by
 refine Tr.ind (P := fun t => ∀ o, (bndR t o).length ≤ o.length + t.nms) (fun k s ns n ks ih o => ?_) t; rw [bndR, nms_mk]; have := bndsR_len' ks ih (if k = 21 ∨ k = 22 then o ++ ns else o)
 have h2 : (if k = 21 ∨ k = 22 then o ++ ns else o).length ≤ o.length + ns.length := by split <;> simp
 omega
theorem bndsR_len (l : List Tr) (o : List ByteArray) : (bndsR l o).length ≤ o.length + nmss l := bndsR_len' l (fun t _ => bndR_len t) o
set_option maxHeartbeats 12800000 in
theorem rbound_m (t : Tr) : ∀ (o : List ByteArray) (fr : Bool), o.length + t.nms ≤ 4398046511104 →
  FnM Tryz.prog 19 [.g ((dTr t).map (toC false)), .c (.r 1001 o.length)] (rowS fr o) (.c (.r 1001 (bndR t o).length)) (rowS false (bndR t o)) := by
 refine Tr.ind (P := fun t => ∀ (o : List ByteArray) (fr : Bool), o.length + t.nms ≤ 4398046511104 →
  FnM Tryz.prog 19 [.g ((dTr t).map (toC false)), .c (.r 1001 o.length)] (rowS fr o) (.c (.r 1001 (bndR t o).length)) (rowS false (bndR t o))) (fun k s ns n ks ih o fr ho => ?_) t
 rw [nms_mk] at ho; obtain ⟨o', hoo⟩ : ∃ o', o' = (if k = 21 ∨ k = 22 then o ++ ns else o) := ⟨_, rfl⟩
 have hbr : bndR (.mk k s ns n ks) o = bndsR ks o' := by rw [bndR, ← hoo]
 have hoo1 : o'.length ≤ o.length + ns.length := by rw [hoo]; split <;> simp
 have hih0 : ∀ i (h : i < ks.length), FnM Tryz.prog 19 [.g ((dTr ks[i]).map (toC false)), .c (.r 1001 (bndsR (ks.take i) o').length)] (rowS false (bndsR (ks.take i) o')) (.c (.r 1001 (bndsR (ks.take (i + 1)) o').length)) (rowS false (bndsR (ks.take (i + 1)) o')) := fun i h => by
  rw [bndsR_take ks o' i h]; have h1 := nmss_take ks i h; have h2 := bndsR_len (ks.take i) o'; exact ih _ (List.getElem_mem h) _ false (by omega)
 rw [hbr, dTr_eq]
 have hz0 : bndsR (ks.take 0) o' = o' := by rw [List.take_zero, bndsR]
 have hend0 : bndsR (ks.take ks.length) o' = bndsR ks o' := by rw [List.take_length]
 obtain ⟨fo, hfo⟩ : ∃ fo : Nat → List ByteArray, fo = fun i => bndsR (ks.take i) o' := ⟨_, rfl⟩
 have hz : fo 0 = o' := by rw [hfo]; exact hz0
 have hend : bndsR ks o' = fo ks.length := by rw [hfo]; exact hend0.symm
 have hih : ∀ i (h : i < ks.length), FnM Tryz.prog 19 [.g ((dTr ks[i]).map (toC false)), .c (.r 1001 (fo i).length)] (rowS false (fo i)) (.c (.r 1001 (fo (i + 1)).length)) (rowS false (fo (i + 1))) := by rw [hfo]; exact hih0
 have hksl := nmss_len ks
 have hksl : ks.length ≤ 4398046511104 := by omega
 rw [hend]; clear ih hend hfo hbr hih0 hz0 hend0; have k1 := rquant_v (.mk k s ns n ks); simp only [Tr.kind, Tr.name, Tr.names, Tr.n, Tr.kids, dTr_eq] at *
 refine FnM.intro' Tryz.func19 [.tmp 4] 29 fun R hR => ?_
 have r1 := hR.hi; have r2 := hR.it; unfold rowS at *; have r0 : mat R 1001 = none := hR.off _ (by simp [keys])
 have q1 : ∀ a b, chkM ((2, a) :: (1001, b) :: R) R := fun a b => chkM_up (r1 2 (by decide)) (chkM_up r0 hR.cm)
 have q2 : ∀ a b, chkM ((1001, a) :: (2, b) :: R) R := fun a b => chkM_up r0 (chkM_up (r1 2 (by decide)) hR.cm)
 have q3 : mdel R 1001 = R := hR.del (.inr (by simp [keys]))
 have q4 : ∀ a b, chkK R ((2, a) :: (1001, b) :: R) := fun a b => chkK_up (chkK_up (chkK_self R))
 have q5 : ∀ a b, chkK R ((1001, a) :: (2, b) :: R) := fun a b => chkK_up (chkK_up (chkK_self R))
 have q6 : ∀ m, chkB m R := fun m => hR.cb m
 by_cases h2 : k = 21
 ·rw [if_pos (.inl h2)] at hoo; subst hoo
  (repeat first | refine hku ?_ | refine sw_seqk fun _ _ => ?_ | refine sw_reg ?_ | (refine sw_reg2 ?_; conv in reord _ => simp [reord, freeO]) | ((first | refine aops_k fun _ _ => ?_ | with_reducible refine rw_own ?_); simp [go_sem, r1]; try go_ints) | refine sw_block ?_ | refine sw_t ?_ | refine sw_f ?_ | refine sw_e ?_ | refine ai ?_ | simp only [aops, thn, inB, ↓reduceIte, Nat.reduceEqDiff])
  (refine ⟨.v _, k1, ?_⟩; simp [go_sem]; (repeat first | refine hku ?_ | refine sw_seqk fun _ _ => ?_ | refine sw_reg ?_ | (refine sw_reg2 ?_; conv in reord _ => simp [reord, freeO]) | ((first | refine aops_k fun _ _ => ?_ | with_reducible refine rw_own ?_); simp [go_sem]; try go_ints) | refine sw_block ?_ | refine sw_t ?_ | refine sw_f ?_ | refine sw_e ?_ | refine ai ?_ | simp only [aops, thn, inB, ↓reduceIte, Nat.reduceEqDiff]))
  simp [h2]
  (repeat first | refine hku ?_ | refine sw_seqk fun _ _ => ?_ | refine sw_reg ?_ | (refine sw_reg2 ?_; conv in reord _ => simp [reord, freeO]) | ((first | refine aops_k fun _ _ => ?_ | with_reducible refine rw_own ?_); simp [go_sem, dSs_in1]; try go_ints) | refine sw_block ?_ | refine sw_t ?_ | refine sw_f ?_ | refine sw_e ?_ | refine ai ?_ | simp only [aops, thn, inB, ↓reduceIte, Nat.reduceEqDiff])
  refine sw_loopv 7 (fun i : Nat => [(1, .c (.r 1001 (fo i).length)), (6, .c (.i .i64 (i : Int)))]) (fun i => [(1001, .r false 1 9 (dSs (fo i)))]) (fun i => i ≤ ks.length) (fun i => ks.length - i) 0 (Nat.zero_le _) ?_ fun i hi => ?_
  ·simp [go_sem, hz, q1, q4, q6, dSs_app]
  ·by_cases hlt : i < ks.length
   ·have k3 := hih i hlt
    (repeat first | refine hku ?_ | refine sw_seqk fun _ _ => ?_ | refine sw_reg ?_ | (refine sw_reg2 ?_; conv in reord _ => simp [reord, freeO]) | ((first | refine aops_k fun _ _ => ?_ | with_reducible refine rw_own ?_); simp [go_sem, hlt]; try go_ints) | refine sw_block ?_ | refine sw_t ?_ | refine sw_f ?_ | refine sw_e ?_ | refine ai ?_ | simp only [aops, thn, inB, ↓reduceIte, Nat.reduceEqDiff])
    refine callM_i k3 ?_; simp [go_sem, r2, q3]
    (repeat first | refine hku ?_ | refine sw_seqk fun _ _ => ?_ | refine sw_reg ?_ | (refine sw_reg2 ?_; conv in reord _ => simp [reord, freeO]) | ((first | refine aops_k fun _ _ => ?_ | with_reducible refine rw_own ?_); simp [go_sem]; try go_ints) | refine sw_block ?_ | refine sw_t ?_ | refine sw_f ?_ | refine sw_e ?_ | refine ai ?_ | simp only [aops, thn])
    refine ⟨i + 1, by omega, by omega, ?_⟩; simp [go_sem, q2, q4, q6]
   ·have : i = ks.length := by omega
    subst this
    (repeat first | refine hku ?_ | refine sw_seqk fun _ _ => ?_ | refine sw_reg ?_ | (refine sw_reg2 ?_; conv in reord _ => simp [reord, freeO]) | ((first | refine aops_k fun _ _ => ?_ | with_reducible refine rw_own ?_); simp [go_sem]; try go_ints) | refine sw_block ?_ | refine sw_t ?_ | refine sw_f ?_ | refine sw_e ?_ | refine ai ?_ | simp only [aops, thn, inB, ↓reduceIte, Nat.reduceEqDiff])
    simp [go_sem, q1, q6]
 ·by_cases h3 : k = 22
  ·rw [if_pos (.inr h3)] at hoo; subst hoo
   (repeat first | refine hku ?_ | refine sw_seqk fun _ _ => ?_ | refine sw_reg ?_ | (refine sw_reg2 ?_; conv in reord _ => simp [reord, freeO]) | ((first | refine aops_k fun _ _ => ?_ | with_reducible refine rw_own ?_); simp [go_sem, r1]; try go_ints) | refine sw_block ?_ | refine sw_t ?_ | refine sw_f ?_ | refine sw_e ?_ | refine ai ?_ | simp only [aops, thn, inB, ↓reduceIte, Nat.reduceEqDiff])
   (refine ⟨.v _, k1, ?_⟩; simp [go_sem]; (repeat first | refine hku ?_ | refine sw_seqk fun _ _ => ?_ | refine sw_reg ?_ | (refine sw_reg2 ?_; conv in reord _ => simp [reord, freeO]) | ((first | refine aops_k fun _ _ => ?_ | with_reducible refine rw_own ?_); simp [go_sem]; try go_ints) | refine sw_block ?_ | refine sw_t ?_ | refine sw_f ?_ | refine sw_e ?_ | refine ai ?_ | simp only [aops, thn, inB, ↓reduceIte, Nat.reduceEqDiff]))
   simp [h3]
   (repeat first | refine hku ?_ | refine sw_seqk fun _ _ => ?_ | refine sw_reg ?_ | (refine sw_reg2 ?_; conv in reord _ => simp [reord, freeO]) | ((first | refine aops_k fun _ _ => ?_ | with_reducible refine rw_own ?_); simp [go_sem, dSs_in1]; try go_ints) | refine sw_block ?_ | refine sw_t ?_ | refine sw_f ?_ | refine sw_e ?_ | refine ai ?_ | simp only [aops, thn, inB, ↓reduceIte, Nat.reduceEqDiff])
   refine sw_loopv 7 (fun i : Nat => [(1, .c (.r 1001 (fo i).length)), (6, .c (.i .i64 (i : Int)))]) (fun i => [(1001, .r false 1 9 (dSs (fo i)))]) (fun i => i ≤ ks.length) (fun i => ks.length - i) 0 (Nat.zero_le _) ?_ fun i hi => ?_
   ·simp [go_sem, hz, q1, q4, q6, dSs_app]
   ·by_cases hlt : i < ks.length
    ·have k3 := hih i hlt
     (repeat first | refine hku ?_ | refine sw_seqk fun _ _ => ?_ | refine sw_reg ?_ | (refine sw_reg2 ?_; conv in reord _ => simp [reord, freeO]) | ((first | refine aops_k fun _ _ => ?_ | with_reducible refine rw_own ?_); simp [go_sem, hlt]; try go_ints) | refine sw_block ?_ | refine sw_t ?_ | refine sw_f ?_ | refine sw_e ?_ | refine ai ?_ | simp only [aops, thn, inB, ↓reduceIte, Nat.reduceEqDiff])
     refine callM_i k3 ?_; simp [go_sem, r2, q3]
     (repeat first | refine hku ?_ | refine sw_seqk fun _ _ => ?_ | refine sw_reg ?_ | (refine sw_reg2 ?_; conv in reord _ => simp [reord, freeO]) | ((first | refine aops_k fun _ _ => ?_ | with_reducible refine rw_own ?_); simp [go_sem]; try go_ints) | refine sw_block ?_ | refine sw_t ?_ | refine sw_f ?_ | refine sw_e ?_ | refine ai ?_ | simp only [aops, thn])
     refine ⟨i + 1, by omega, by omega, ?_⟩; simp [go_sem, q2, q4, q6]
    ·have : i = ks.length := by omega
     subst this
     (repeat first | refine hku ?_ | refine sw_seqk fun _ _ => ?_ | refine sw_reg ?_ | (refine sw_reg2 ?_; conv in reord _ => simp [reord, freeO]) | ((first | refine aops_k fun _ _ => ?_ | with_reducible refine rw_own ?_); simp [go_sem]; try go_ints) | refine sw_block ?_ | refine sw_t ?_ | refine sw_f ?_ | refine sw_e ?_ | refine ai ?_ | simp only [aops, thn, inB, ↓reduceIte, Nat.reduceEqDiff])
     simp [go_sem, q1, q6]
  ·rw [if_neg (fun h => h.elim h2 h3)] at hoo; subst hoo
   (repeat first | refine hku ?_ | refine sw_seqk fun _ _ => ?_ | refine sw_reg ?_ | (refine sw_reg2 ?_; conv in reord _ => simp [reord, freeO]) | ((first | refine aops_k fun _ _ => ?_ | with_reducible refine rw_own ?_); simp [go_sem, r1]; try go_ints) | refine sw_block ?_ | refine sw_t ?_ | refine sw_f ?_ | refine sw_e ?_ | refine ai ?_ | simp only [aops, thn, inB, ↓reduceIte, Nat.reduceEqDiff])
   (refine ⟨.v _, k1, ?_⟩; simp [go_sem]; (repeat first | refine hku ?_ | refine sw_seqk fun _ _ => ?_ | refine sw_reg ?_ | (refine sw_reg2 ?_; conv in reord _ => simp [reord, freeO]) | ((first | refine aops_k fun _ _ => ?_ | with_reducible refine rw_own ?_); simp [go_sem]; try go_ints) | refine sw_block ?_ | refine sw_t ?_ | refine sw_f ?_ | refine sw_e ?_ | refine ai ?_ | simp only [aops, thn, inB, ↓reduceIte, Nat.reduceEqDiff]))
   simp [h2, h3]
   (repeat first | refine hku ?_ | refine sw_seqk fun _ _ => ?_ | refine sw_reg ?_ | (refine sw_reg2 ?_; conv in reord _ => simp [reord, freeO]) | ((first | refine aops_k fun _ _ => ?_ | with_reducible refine rw_own ?_); simp [go_sem]; try go_ints) | refine sw_block ?_ | refine sw_t ?_ | refine sw_f ?_ | refine sw_e ?_ | refine ai ?_ | simp only [aops, thn, inB, ↓reduceIte, Nat.reduceEqDiff])
   refine sw_loopv 7 (fun i : Nat => [(1, .c (.r 1001 (fo i).length)), (6, .c (.i .i64 (i : Int)))]) (fun i => [(1001, .r false 1 9 (dSs (fo i)))]) (fun i => i ≤ ks.length) (fun i => ks.length - i) 0 (Nat.zero_le _) ?_ fun i hi => ?_
   ·simp [go_sem, hz, q1, q4, q6]
   ·by_cases hlt : i < ks.length
    ·have k3 := hih i hlt
     (repeat first | refine hku ?_ | refine sw_seqk fun _ _ => ?_ | refine sw_reg ?_ | (refine sw_reg2 ?_; conv in reord _ => simp [reord, freeO]) | ((first | refine aops_k fun _ _ => ?_ | with_reducible refine rw_own ?_); simp [go_sem, hlt]; try go_ints) | refine sw_block ?_ | refine sw_t ?_ | refine sw_f ?_ | refine sw_e ?_ | refine ai ?_ | simp only [aops, thn, inB, ↓reduceIte, Nat.reduceEqDiff])
     refine callM_i k3 ?_; simp [go_sem, r2, q3]
     (repeat first | refine hku ?_ | refine sw_seqk fun _ _ => ?_ | refine sw_reg ?_ | (refine sw_reg2 ?_; conv in reord _ => simp [reord, freeO]) | ((first | refine aops_k fun _ _ => ?_ | with_reducible refine rw_own ?_); simp [go_sem]; try go_ints) | refine sw_block ?_ | refine sw_t ?_ | refine sw_f ?_ | refine sw_e ?_ | refine ai ?_ | simp only [aops, thn])
     refine ⟨i + 1, by omega, by omega, ?_⟩; simp [go_sem, q2, q4, q6]
    ·have : i = ks.length := by omega
     subst this
     (repeat first | refine hku ?_ | refine sw_seqk fun _ _ => ?_ | refine sw_reg ?_ | (refine sw_reg2 ?_; conv in reord _ => simp [reord, freeO]) | ((first | refine aops_k fun _ _ => ?_ | with_reducible refine rw_own ?_); simp [go_sem]; try go_ints) | refine sw_block ?_ | refine sw_t ?_ | refine sw_f ?_ | refine sw_e ?_ | refine ai ?_ | simp only [aops, thn, inB, ↓reduceIte, Nat.reduceEqDiff])
     simp [go_sem, q1, q6]
def namesR (t : Tr) : List ByteArray := if chkI t = 0 then bndR t (bsort (freeR t [] [])) else []
end Go.Proofs.YtbgifiijjjoebaaGreatDoor

namespace Go.Proofs.YtbgifiijjjoebaaGreatDoor
open Go.RowKit

set_option maxHeartbeats 3200000 in
theorem rNames_v (t : Tr) (ht : t.tall ≤ 4611686018427387904) (hn : t.nms ≤ 1099511627776) : Fn Tryz.prog 7 [.g (dTr t)] (.c (.l false (dSs (namesR t)))) := by
 unfold namesR; have k1 := rcheck_v t ht; have k2 := rFree_m t hn; have hl1 := freeR_len t [] []; have hl0 := bsort_len (freeR t [] []); generalize freeR t [] [] = l at *; simp only [List.length_nil, Nat.zero_add] at hl1; have k3 := rbound_m t (bsort l) true (by omega); have hl2 := bndR_len t (bsort l); rw [hl0] at k3; generalize chkI t = e at *; generalize bsort l = L at *; generalize bndR t L = B at *
 cases t with
 | mk k s ns n ks =>
 simp only [Tr.kind, Tr.name, Tr.names, Tr.n, Tr.kids, dTr_eq, List.map, toC] at k1 k2 k3 ⊢; unfold rowS at *
 refine Fn.intro' Tryz.func7 [.tmp 2] 12 fun _ => ?_
 (repeat first | refine hku ?_ | refine sw_seqk fun _ _ => ?_ | refine sw_reg ?_ | (refine sw_reg2 ?_; conv in reord _ => simp [reord, freeO]) | ((first | refine aops_k fun _ _ => ?_ | with_reducible refine rw_own ?_); simp [go_sem]; try go_ints) | refine sw_block ?_ | refine sw_t ?_ | refine sw_f ?_ | refine sw_e ?_ | refine ai ?_ | simp only [aops, thn, inB, ↓reduceIte, Nat.reduceEqDiff])
 (refine ⟨.v _, k1, ?_⟩; simp [go_sem]; (repeat first | refine hku ?_ | refine sw_seqk fun _ _ => ?_ | refine sw_reg ?_ | (refine sw_reg2 ?_; conv in reord _ => simp [reord, freeO]) | ((first | refine aops_k fun _ _ => ?_ | with_reducible refine rw_own ?_); simp [go_sem]; try go_ints) | refine sw_block ?_ | refine sw_t ?_ | refine sw_f ?_ | refine sw_e ?_ | refine ai ?_ | simp only [aops, thn, inB, ↓reduceIte, Nat.reduceEqDiff]))
 by_cases he : e = 0
 ·simp [he]
  (repeat ((fail_if_success (first | (show SW _ (Code.region 4 _ _) _ _) | (show SW _ (Code.seq (Code.region 4 _ _) _) _ _))); first | refine hku ?_ | refine sw_seqk fun _ _ => ?_ | refine sw_reg ?_ | (refine sw_reg2 ?_; conv in reord _ => simp [reord, freeO]) | ((first | refine aops_k fun _ _ => ?_ | with_reducible refine rw_own ?_); simp [go_sem, he]; try go_ints) | refine sw_block ?_ | refine sw_t ?_ | refine sw_f ?_ | refine sw_e ?_ | refine ai ?_ | simp only [aops, thn, inB, ↓reduceIte, Nat.reduceEqDiff]))
  refine sw_seqk fun _ _ => ?_
  refine sw_region4 follows (by kernel_rfl) (fun t' ht' => ?_) ?_
  ·generalize hLs : lateS _ = Ls at ht'
   have hL2 : Ls = [1, 1] := by rw [← hLs]; kernel_rfl
   have ht2 : t' ∈ ([1, 1] : List Nat) := hL2 ▸ ht'
   have : t' = 1 := by simpa using ht2
   subst this; exact ⟨1, 0, by simp [go_sem], by decide, by simp [go_sem]⟩
  (repeat first | refine hku ?_ | refine sw_seqk fun _ _ => ?_ | refine sw_reg ?_ | (refine sw_reg2 ?_; conv in reord _ => simp [reord, freeO]) | ((first | refine aops_k fun _ _ => ?_ | with_reducible refine rw_own ?_); simp [go_sem]; try go_ints) | refine sw_block ?_ | refine sw_t ?_ | refine sw_f ?_ | refine sw_e ?_ | refine ai ?_ | simp only [aops, thn, inB, ↓reduceIte, Nat.reduceEqDiff])
  refine callM_i k2 ?_; simp [go_sem]
  (repeat first | refine hku ?_ | refine sw_seqk fun _ _ => ?_ | refine sw_reg ?_ | (refine sw_reg2 ?_; conv in reord _ => simp [reord, freeO]) | ((first | refine aops_k fun _ _ => ?_ | with_reducible refine rw_own ?_); simp [go_sem]; try go_ints) | refine sw_block ?_ | refine sw_t ?_ | refine sw_f ?_ | refine sw_e ?_ | refine ai ?_ | simp only [aops, thn, inB, ↓reduceIte, Nat.reduceEqDiff])
  refine callM_i k3 ?_; simp [go_sem]
  (repeat first | refine hku ?_ | refine sw_seqk fun _ _ => ?_ | refine sw_reg ?_ | (refine sw_reg2 ?_; conv in reord _ => simp [reord, freeO]) | ((first | refine aops_k fun _ _ => ?_ | with_reducible refine rw_own ?_); simp [go_sem]; try go_ints) | refine sw_block ?_ | refine sw_t ?_ | refine sw_f ?_ | refine sw_e ?_ | refine ai ?_ | simp only [aops, thn, inB, ↓reduceIte, Nat.reduceEqDiff])
  simp [go_sem, he]
 ·simp [he]
  (repeat first | refine hku ?_ | refine sw_seqk fun _ _ => ?_ | refine sw_reg ?_ | (refine sw_reg2 ?_; conv in reord _ => simp [reord, freeO]) | ((first | refine aops_k fun _ _ => ?_ | with_reducible refine rw_own ?_); simp [go_sem]; try go_ints) | refine sw_block ?_ | refine sw_t ?_ | refine sw_f ?_ | refine sw_e ?_ | refine ai ?_ | simp only [thn])
  simp [go_sem, dSs]
end Go.Proofs.YtbgifiijjjoebaaGreatDoor

namespace Go.Proofs.YtbgifiijjjoebaaGreatDoor
open Go.RowKit

def walkS (fr : Bool) (o : List ByteArray) : Mem := [(1001, .x [.r 1003 o.length]), (1002, .x [.f 23 [(1001, 0), (1002, 0)]]), (1003, .r fr 1 9 (dSs o))]
set_option maxRecDepth 100000 in
set_option maxHeartbeats 12800000 in
theorem walk_m (t : Tr) : ∀ (o : List ByteArray) (fr : Bool), o.length + t.nms ≤ 4398046511104 →
  FnM Tryz.prog 23 [.g ((dTr t).map (toC false)), .c (.p 1001 0), .c (.p 1002 0)] (walkS fr o) (.t []) (walkS false (bndR t o)) := by
 refine Tr.ind (P := fun t => ∀ (o : List ByteArray) (fr : Bool), o.length + t.nms ≤ 4398046511104 →
  FnM Tryz.prog 23 [.g ((dTr t).map (toC false)), .c (.p 1001 0), .c (.p 1002 0)] (walkS fr o) (.t []) (walkS false (bndR t o))) (fun k s ns n ks ih o fr ho => ?_) t
 rw [nms_mk] at ho; obtain ⟨o', hoo⟩ : ∃ o', o' = (if k = 21 ∨ k = 22 then o ++ ns else o) := ⟨_, rfl⟩
 have hbr : bndR (.mk k s ns n ks) o = bndsR ks o' := by rw [bndR, ← hoo]
 have hoo1 : o'.length ≤ o.length + ns.length := by rw [hoo]; split <;> simp
 have hih0 : ∀ i (h : i < ks.length), FnM Tryz.prog 23 [.g ((dTr ks[i]).map (toC false)), .c (.p 1001 0), .c (.p 1002 0)] (walkS false (bndsR (ks.take i) o')) (.t []) (walkS false (bndsR (ks.take (i + 1)) o')) := fun i h => by
  rw [bndsR_take ks o' i h]; have h1 := nmss_take ks i h; have h2 := bndsR_len (ks.take i) o'; exact ih _ (List.getElem_mem h) _ false (by omega)
 rw [hbr, dTr_eq]
 have hz0 : bndsR (ks.take 0) o' = o' := by rw [List.take_zero, bndsR]
 have hend0 : bndsR (ks.take ks.length) o' = bndsR ks o' := by rw [List.take_length]
 obtain ⟨fo, hfo⟩ : ∃ fo : Nat → List ByteArray, fo = fun i => bndsR (ks.take i) o' := ⟨_, rfl⟩
 have hz : fo 0 = o' := by rw [hfo]; exact hz0
 have hend : bndsR ks o' = fo ks.length := by rw [hfo]; exact hend0.symm
 have hih : ∀ i (h : i < ks.length), FnM Tryz.prog 23 [.g ((dTr ks[i]).map (toC false)), .c (.p 1001 0), .c (.p 1002 0)] (walkS false (fo i)) (.t []) (walkS false (fo (i + 1))) := by rw [hfo]; exact hih0
 have hksl := nmss_len ks
 have hksl : ks.length ≤ 4398046511104 := by omega
 rw [hend]; clear ih hend hfo hbr hih0 hz0 hend0; simp only [Tr.kind, Tr.name, Tr.names, Tr.n, Tr.kids, dTr_eq] at *
 refine FnM.intro' Tryz.func23 [] 29 fun R hR => ?_
 have r1 := hR.hi; have r2 := hR.it; unfold walkS at *; have r0 : mat R 1001 = none := hR.off _ (by simp [keys]); have r0' : mat R 1002 = none := hR.off _ (by simp [keys]); have r0'' : mat R 1003 = none := hR.off _ (by simp [keys]); have q3 : mdel R 1001 = R := hR.del (.inr (by simp [keys])); have q3' : mdel R 1002 = R := hR.del (.inr (by simp [keys])); have q3'' : mdel R 1003 = R := hR.del (.inr (by simp [keys]))
 have q6 : ∀ m, chkB m R := fun m => hR.cb m
 have q7 := hR.cm
 have q1 : ∀ a b c e, chkM ((3, a) :: (1001, b) :: (1002, c) :: (1003, e) :: R) R := fun a b c e => chkM_up (r1 3 (by decide)) (chkM_up r0 (chkM_up r0' (chkM_up r0'' hR.cm)))
 have q2 : ∀ a b c e, chkM ((1001, a) :: (1002, b) :: (1003, e) :: (3, c) :: R) R := fun a b c e => chkM_up r0 (chkM_up r0' (chkM_up r0'' (chkM_up (r1 3 (by decide)) hR.cm)))
 have q1' : ∀ a b c d e, chkM ((5, d) :: (3, a) :: (1001, b) :: (1002, c) :: (1003, e) :: R) R := fun a b c d e => chkM_up (r1 5 (by decide)) (q1 a b c e)
 have q2' : ∀ a b c d e, chkM ((1001, a) :: (1002, b) :: (1003, e) :: (5, d) :: (3, c) :: R) R := fun a b c d e => chkM_up r0 (chkM_up r0' (chkM_up r0'' (chkM_up (r1 5 (by decide)) (chkM_up (r1 3 (by decide)) hR.cm))))
 have q4 : ∀ a b c e, chkK R ((3, a) :: (1001, b) :: (1002, c) :: (1003, e) :: R) := fun a b c e => chkK_up (chkK_up (chkK_up (chkK_up (chkK_self R))))
 have q5 : ∀ a b c e, chkK R ((1001, a) :: (1002, b) :: (1003, e) :: (3, c) :: R) := fun a b c e => chkK_up (chkK_up (chkK_up (chkK_up (chkK_self R))))
 have q4' : ∀ a b c d e, chkK R ((5, d) :: (3, a) :: (1001, b) :: (1002, c) :: (1003, e) :: R) := fun a b c d e => chkK_up (q4 a b c e)
 have q5' : ∀ a b c d e, chkK R ((1001, a) :: (1002, b) :: (1003, e) :: (5, d) :: (3, c) :: R) := fun a b c d e => chkK_up (chkK_up (chkK_up (chkK_up (chkK_up (chkK_self R)))))
 have q9 : ∀ a b c, chkK R ((1001, a) :: (1002, b) :: (1003, c) :: R) := fun a b c => chkK_up (chkK_up (chkK_up (chkK_self R)))
 by_cases h2 : k = 21
 ·rw [if_pos (.inl h2)] at hoo; subst hoo
  (repeat first | refine hku ?_ | refine sw_seqk fun _ _ => ?_ | refine sw_reg ?_ | (refine sw_reg2 ?_; conv in reord _ => simp [reord, freeO]) | ((first | refine aops_k fun _ _ => ?_ | with_reducible refine rw_own ?_); simp [go_sem, h2, r1, dSs_in1]; try go_ints) | refine sw_block ?_ | refine sw_t ?_ | refine sw_f ?_ | refine sw_e ?_ | refine ai ?_ | simp only [aops, thn, inB, ↓reduceIte, Nat.reduceEqDiff])
  refine sw_loopv 22 (fun i : Nat => [(4, .u), (5, .u), (21, .c (.i .i64 (i : Int)))]) (fun i => [(1001, .x [.r 1003 (fo i).length]), (1003, .r false 1 9 (dSs (fo i)))]) (fun i => i ≤ ks.length) (fun i => ks.length - i) 0 (Nat.zero_le _) ?_ fun i hi => ?_
  ·simp [go_sem, hz, q1, q4, q6, dSs_app]
  ·by_cases hlt : i < ks.length
   ·have k3 := hih i hlt
    (repeat first | refine hku ?_ | refine sw_seqk fun _ _ => ?_ | refine sw_reg ?_ | (refine sw_reg2 ?_; conv in reord _ => simp [reord, freeO]) | ((first | refine aops_k fun _ _ => ?_ | with_reducible refine rw_own ?_); simp [go_sem, hlt, r1, dSs_app]; try go_ints) | refine sw_block ?_ | refine sw_t ?_ | refine sw_f ?_ | refine sw_e ?_ | refine ai ?_ | simp only [aops, thn, inB, ↓reduceIte, Nat.reduceEqDiff])
    refine callM_i k3 ?_; simp [go_sem, r2, q3, q3', q3'']
    (repeat first | refine hku ?_ | refine sw_seqk fun _ _ => ?_ | refine sw_reg ?_ | (refine sw_reg2 ?_; conv in reord _ => simp [reord, freeO]) | ((first | refine aops_k fun _ _ => ?_ | with_reducible refine rw_own ?_); simp [go_sem]; try go_ints) | refine sw_block ?_ | refine sw_t ?_ | refine sw_f ?_ | refine sw_e ?_ | refine ai ?_ | simp only [aops, thn])
    refine ⟨i + 1, by omega, by omega, ?_⟩; simp [go_sem, q2', q4, q6, dSs_app]
   ·have : i = ks.length := by omega
    subst this
    (repeat first | refine hku ?_ | refine sw_seqk fun _ _ => ?_ | refine sw_reg ?_ | (refine sw_reg2 ?_; conv in reord _ => simp [reord, freeO]) | ((first | refine aops_k fun _ _ => ?_ | with_reducible refine rw_own ?_); simp [go_sem]; try go_ints) | refine sw_block ?_ | refine sw_t ?_ | refine sw_f ?_ | refine sw_e ?_ | refine ai ?_ | simp only [thn, inB, ↓reduceIte])
    simp [go_sem, q1, q6, q9]
 ·by_cases h3 : k = 22
  ·rw [if_pos (.inr h3)] at hoo; subst hoo
   (repeat first | refine hku ?_ | refine sw_seqk fun _ _ => ?_ | refine sw_reg ?_ | (refine sw_reg2 ?_; conv in reord _ => simp [reord, freeO]) | ((first | refine aops_k fun _ _ => ?_ | with_reducible refine rw_own ?_); simp [go_sem, h3, r1, dSs_in1]; try go_ints) | refine sw_block ?_ | refine sw_t ?_ | refine sw_f ?_ | refine sw_e ?_ | refine ai ?_ | simp only [aops, thn, inB, ↓reduceIte, Nat.reduceEqDiff])
   refine sw_loopv 22 (fun i : Nat => [(4, .u), (5, .u), (21, .c (.i .i64 (i : Int)))]) (fun i => [(1001, .x [.r 1003 (fo i).length]), (1003, .r false 1 9 (dSs (fo i)))]) (fun i => i ≤ ks.length) (fun i => ks.length - i) 0 (Nat.zero_le _) ?_ fun i hi => ?_
   ·simp [go_sem, hz, q1, q4, q6, dSs_app]
   ·by_cases hlt : i < ks.length
    ·have k3 := hih i hlt
     (repeat first | refine hku ?_ | refine sw_seqk fun _ _ => ?_ | refine sw_reg ?_ | (refine sw_reg2 ?_; conv in reord _ => simp [reord, freeO]) | ((first | refine aops_k fun _ _ => ?_ | with_reducible refine rw_own ?_); simp [go_sem, hlt, r1, dSs_app]; try go_ints) | refine sw_block ?_ | refine sw_t ?_ | refine sw_f ?_ | refine sw_e ?_ | refine ai ?_ | simp only [aops, thn, inB, ↓reduceIte, Nat.reduceEqDiff])
     refine callM_i k3 ?_; simp [go_sem, r2, q3, q3', q3'']
     (repeat first | refine hku ?_ | refine sw_seqk fun _ _ => ?_ | refine sw_reg ?_ | (refine sw_reg2 ?_; conv in reord _ => simp [reord, freeO]) | ((first | refine aops_k fun _ _ => ?_ | with_reducible refine rw_own ?_); simp [go_sem]; try go_ints) | refine sw_block ?_ | refine sw_t ?_ | refine sw_f ?_ | refine sw_e ?_ | refine ai ?_ | simp only [aops, thn])
     refine ⟨i + 1, by omega, by omega, ?_⟩; simp [go_sem, q2', q4, q6, dSs_app]
    ·have : i = ks.length := by omega
     subst this
     (repeat first | refine hku ?_ | refine sw_seqk fun _ _ => ?_ | refine sw_reg ?_ | (refine sw_reg2 ?_; conv in reord _ => simp [reord, freeO]) | ((first | refine aops_k fun _ _ => ?_ | with_reducible refine rw_own ?_); simp [go_sem]; try go_ints) | refine sw_block ?_ | refine sw_t ?_ | refine sw_f ?_ | refine sw_e ?_ | refine ai ?_ | simp only [thn, inB, ↓reduceIte])
     simp [go_sem, q1, q6, q9]
  ·rw [if_neg (fun h => h.elim h2 h3)] at hoo; subst hoo
   (repeat first | refine hku ?_ | refine sw_seqk fun _ _ => ?_ | refine sw_reg ?_ | (refine sw_reg2 ?_; conv in reord _ => simp [reord, freeO]) | ((first | refine aops_k fun _ _ => ?_ | with_reducible refine rw_own ?_); simp [go_sem, h2, h3, r1]; try go_ints) | refine sw_block ?_ | refine sw_t ?_ | refine sw_f ?_ | refine sw_e ?_ | refine ai ?_ | simp only [aops, thn, inB, ↓reduceIte, Nat.reduceEqDiff])
   refine sw_loopv 22 (fun i : Nat => [(4, .u), (5, .u), (21, .c (.i .i64 (i : Int)))]) (fun i => [(1001, .x [.r 1003 (fo i).length]), (1003, .r false 1 9 (dSs (fo i)))]) (fun i => i ≤ ks.length) (fun i => ks.length - i) 0 (Nat.zero_le _) ?_ fun i hi => ?_
   ·simp [go_sem, hz, q1, q4, q6]
   ·by_cases hlt : i < ks.length
    ·have k3 := hih i hlt
     (repeat first | refine hku ?_ | refine sw_seqk fun _ _ => ?_ | refine sw_reg ?_ | (refine sw_reg2 ?_; conv in reord _ => simp [reord, freeO]) | ((first | refine aops_k fun _ _ => ?_ | with_reducible refine rw_own ?_); simp [go_sem, hlt, r1]; try go_ints) | refine sw_block ?_ | refine sw_t ?_ | refine sw_f ?_ | refine sw_e ?_ | refine ai ?_ | simp only [aops, thn, inB, ↓reduceIte, Nat.reduceEqDiff])
     refine callM_i k3 ?_; simp [go_sem, r2, q3, q3', q3'']
     (repeat first | refine hku ?_ | refine sw_seqk fun _ _ => ?_ | refine sw_reg ?_ | (refine sw_reg2 ?_; conv in reord _ => simp [reord, freeO]) | ((first | refine aops_k fun _ _ => ?_ | with_reducible refine rw_own ?_); simp [go_sem]; try go_ints) | refine sw_block ?_ | refine sw_t ?_ | refine sw_f ?_ | refine sw_e ?_ | refine ai ?_ | simp only [aops, thn])
     refine ⟨i + 1, by omega, by omega, ?_⟩; simp [go_sem, q2', q4, q6]
    ·have : i = ks.length := by omega
     subst this
     (repeat first | refine hku ?_ | refine sw_seqk fun _ _ => ?_ | refine sw_reg ?_ | (refine sw_reg2 ?_; conv in reord _ => simp [reord, freeO]) | ((first | refine aops_k fun _ _ => ?_ | with_reducible refine rw_own ?_); simp [go_sem]; try go_ints) | refine sw_block ?_ | refine sw_t ?_ | refine sw_f ?_ | refine sw_e ?_ | refine ai ?_ | simp only [thn, inB, ↓reduceIte])
     simp [go_sem, q1, q6, q9]
set_option maxHeartbeats 3200000 in
theorem names_v (t : Tr) (ht : t.tall ≤ 4611686018427387904) (hn : t.nms ≤ 1099511627776) : Fn Tryz.prog 8 [.g (dTr t)] (.c (.l false (dSs (namesR t)))) := by
 unfold namesR; have k1 := check_v t ht; have k2 := free_o t hn; have hl1 := freeR_len t [] []; have hl0 := bsort_len (freeR t [] []); generalize freeR t [] [] = l at *; simp only [List.length_nil, Nat.zero_add] at hl1; have k3 := walk_m t (bsort l) true (by omega); generalize chkI t = e at *; generalize bsort l = L at *; generalize bndR t L = B at *
 cases t with
 | mk k s ns n ks =>
 simp only [Tr.kind, Tr.name, Tr.names, Tr.n, Tr.kids, dTr_eq, List.map, toC] at k1 k2 k3 ⊢; unfold walkS at *
 refine Fn.intro' Tryz.func8 [.tmp 2] 15 fun _ => ?_
 (repeat first | refine hku ?_ | refine sw_seqk fun _ _ => ?_ | refine sw_reg ?_ | (refine sw_reg2 ?_; conv in reord _ => simp [reord, freeO]) | ((first | refine aops_k fun _ _ => ?_ | with_reducible refine rw_own ?_); simp [go_sem]; try go_ints) | refine sw_block ?_ | refine sw_t ?_ | refine sw_f ?_ | refine sw_e ?_ | refine ai ?_ | simp only [aops, thn, inB, ↓reduceIte, Nat.reduceEqDiff])
 (refine ⟨.v _, k1, ?_⟩; simp [go_sem]; (repeat first | refine hku ?_ | refine sw_seqk fun _ _ => ?_ | refine sw_reg ?_ | (refine sw_reg2 ?_; conv in reord _ => simp [reord, freeO]) | ((first | refine aops_k fun _ _ => ?_ | with_reducible refine rw_own ?_); simp [go_sem]; try go_ints) | refine sw_block ?_ | refine sw_t ?_ | refine sw_f ?_ | refine sw_e ?_ | refine ai ?_ | simp only [aops, thn, inB, ↓reduceIte, Nat.reduceEqDiff]))
 by_cases he : e = 0
 ·simp [he]
  (repeat first | refine hku ?_ | refine sw_seqk fun _ _ => ?_ | refine sw_reg ?_ | (refine sw_reg2 ?_; conv in reord _ => simp [reord, freeO]) | ((first | refine aops_k fun _ _ => ?_ | with_reducible refine rw_own ?_); simp [go_sem]; try go_ints) | refine sw_block ?_ | refine sw_t ?_ | refine sw_f ?_ | refine sw_e ?_ | refine ai ?_ | simp only [aops, thn, inB, ↓reduceIte, Nat.reduceEqDiff])
  refine ⟨.o _ _ _ _, k2, ?_⟩; simp [go_sem]
  (repeat ((fail_if_success (first | (show SW _ (Code.region 6 _ _) _ _) | (show SW _ (Code.seq (Code.region 6 _ _) _) _ _))); first | refine hku ?_ | refine sw_seqk fun _ _ => ?_ | refine sw_reg ?_ | (refine sw_reg2 ?_; conv in reord _ => simp [reord, freeO]) | ((first | refine aops_k fun _ _ => ?_ | with_reducible refine rw_own ?_); simp [go_sem]; try go_ints) | refine sw_block ?_ | refine sw_t ?_ | refine sw_f ?_ | refine sw_e ?_ | refine ai ?_ | simp only [aops, thn, inB, ↓reduceIte, Nat.reduceEqDiff]))
  refine sw_ren 3 1001 (by simp [go_sem]) ?_; refine sw_ren 4 1002 (by simp [go_sem]) ?_; refine sw_ren 9 1003 (by simp [go_sem]) ?_; refine sw_restate [(1, .c (.p 1 0)), (2, .c .nl), (3, .c (.p 1001 0)), (4, .c (.p 1002 0))] [(1, .x [.i .i64 k, .s s, .l false (dSs ns), .b n.neg, .l false (dN n.mag), .l false (ks.map dTr)]), (1001, .x [.r 1003 L.length]), (1002, .x [.f 23 [(1001, 0), (1002, 0)]]), (1003, .r true 1 9 (dSs L))] ?_ ?_
  ·simp [go_sem, lst, rnM, rnR, one]
  (repeat first | refine hku ?_ | refine sw_seqk fun _ _ => ?_ | refine sw_reg ?_ | (refine sw_reg2 ?_; conv in reord _ => simp [reord, freeO]) | ((first | refine aops_k fun _ _ => ?_ | with_reducible refine rw_own ?_); simp [go_sem]; try go_ints) | refine sw_block ?_ | refine sw_t ?_ | refine sw_f ?_ | refine sw_e ?_ | refine ai ?_ | simp only [aops, thn, inB, ↓reduceIte, Nat.reduceEqDiff])
  refine callM_i k3 ?_; simp [go_sem]
  (repeat ((fail_if_success (first | (show SW _ (Code.region 7 _ _) _ _) | (show SW _ (Code.seq (Code.region 7 _ _) _) _ _))); first | refine hku ?_ | refine sw_seqk fun _ _ => ?_ | refine sw_reg ?_ | (refine sw_reg2 ?_; conv in reord _ => simp [reord, freeO]) | ((first | refine aops_k fun _ _ => ?_ | with_reducible refine rw_own ?_); simp [go_sem]; try go_ints) | refine sw_block ?_ | refine sw_t ?_ | refine sw_f ?_ | refine sw_e ?_ | refine ai ?_ | simp only [aops, thn, inB, ↓reduceIte, Nat.reduceEqDiff]))
  refine sw_frz 1003 (by rfl) ?_
  (repeat first | refine hku ?_ | refine sw_seqk fun _ _ => ?_ | refine sw_reg ?_ | (refine sw_reg2 ?_; conv in reord _ => simp [reord, freeO]) | ((first | refine aops_k fun _ _ => ?_ | with_reducible refine rw_own ?_); simp [go_sem]; try go_ints) | refine sw_block ?_ | refine sw_t ?_ | refine sw_f ?_ | refine sw_e ?_ | refine ai ?_ | simp only [aops, thn, inB, ↓reduceIte, Nat.reduceEqDiff])
  simp [go_sem, he]
 ·simp [he]
  (repeat first | refine hku ?_ | refine sw_seqk fun _ _ => ?_ | refine sw_reg ?_ | (refine sw_reg2 ?_; conv in reord _ => simp [reord, freeO]) | ((first | refine aops_k fun _ _ => ?_ | with_reducible refine rw_own ?_); simp [go_sem]; try go_ints) | refine sw_block ?_ | refine sw_t ?_ | refine sw_f ?_ | refine sw_e ?_ | refine ai ?_ | simp only [thn])
  simp [go_sem, dSs]
end Go.Proofs.YtbgifiijjjoebaaGreatDoor

namespace Go.Proofs.YtbgifiijjjoebaaGreatDoor
open Go.RowKit

theorem namesR_len (t : Tr) : (namesR t).length ≤ t.nms + t.nms := by
 unfold namesR
 split
 ·have h1 := bndR_len t (bsort (freeR t [] [])); have h2 := bsort_len (freeR t [] []); have h3 := freeR_len t [] []; simp only [List.length_nil] at h3
  omega
 ·simp
set_option maxHeartbeats 6400000 in
theorem lowernames_v (t : Tr) (hb : t.bulk ≤ 1099511627776) (ht : t.tall ≤ 4611686018427387904) (hn : t.nms ≤ 1099511627776) (hk : Fn Tryz.prog 10 [] (.c (.b true))) :
  Fn Tryz.prog 3 [.g (dTr t)] (.c (.b true)) := by
 have k1 := own_v t hb; have k2 := rNames_v t ht hn; have k3 := names_v t ht hn; have k4 := same_v t hb; have hL := namesR_len t
 have hL : (namesR t).length ≤ 2199023255552 := by omega
 generalize namesR t = L at *
 cases t with
 | mk k s ns n ks =>
 simp only [Tr.kind, Tr.name, Tr.names, Tr.n, Tr.kids, dTr_eq, List.map, toC] at k1 k2 k3 k4 ⊢
 refine Fn.intro' Tryz.func3 [.tmp 2] 40 fun _ => ?_
 (repeat first | refine hku ?_ | refine sw_seqk fun _ _ => ?_ | refine sw_reg ?_ | (refine sw_reg2 ?_; conv in reord _ => simp [reord, freeO]) | ((first | refine aops_k fun _ _ => ?_ | with_reducible refine rw_own ?_); simp [go_sem]; try go_ints) | refine sw_block ?_ | refine sw_t ?_ | refine sw_f ?_ | refine sw_e ?_ | refine ai ?_ | simp only [aops, thn, inB, ↓reduceIte, Nat.reduceEqDiff])
 (refine ⟨.v _, k1, ?_⟩; simp [go_sem]; (repeat first | refine hku ?_ | refine sw_seqk fun _ _ => ?_ | refine sw_reg ?_ | (refine sw_reg2 ?_; conv in reord _ => simp [reord, freeO]) | ((first | refine aops_k fun _ _ => ?_ | with_reducible refine rw_own ?_); simp [go_sem]; try go_ints) | refine sw_block ?_ | refine sw_t ?_ | refine sw_f ?_ | refine sw_e ?_ | refine ai ?_ | simp only [aops, thn, inB, ↓reduceIte, Nat.reduceEqDiff]))
 (refine ⟨.v _, k2, ?_⟩; simp [go_sem]; (repeat first | refine hku ?_ | refine sw_seqk fun _ _ => ?_ | refine sw_reg ?_ | (refine sw_reg2 ?_; conv in reord _ => simp [reord, freeO]) | ((first | refine aops_k fun _ _ => ?_ | with_reducible refine rw_own ?_); simp [go_sem]; try go_ints) | refine sw_block ?_ | refine sw_t ?_ | refine sw_f ?_ | refine sw_e ?_ | refine ai ?_ | simp only [aops, thn, inB, ↓reduceIte, Nat.reduceEqDiff]))
 (refine ⟨.v _, k3, ?_⟩; simp [go_sem]; (repeat first | refine hku ?_ | refine sw_seqk fun _ _ => ?_ | refine sw_reg ?_ | (refine sw_reg2 ?_; conv in reord _ => simp [reord, freeO]) | ((first | refine aops_k fun _ _ => ?_ | with_reducible refine rw_own ?_); simp [go_sem]; try go_ints) | refine sw_block ?_ | refine sw_t ?_ | refine sw_f ?_ | refine sw_e ?_ | refine ai ?_ | simp only [aops, thn, inB, ↓reduceIte, Nat.reduceEqDiff]))
 (refine ⟨.v _, k4, ?_⟩; simp [go_sem]; (repeat first | refine hku ?_ | refine sw_seqk fun _ _ => ?_ | refine sw_reg ?_ | (refine sw_reg2 ?_; conv in reord _ => simp [reord, freeO]) | ((first | refine aops_k fun _ _ => ?_ | with_reducible refine rw_own ?_); simp [go_sem]; try go_ints) | refine sw_block ?_ | refine sw_t ?_ | refine sw_f ?_ | refine sw_e ?_ | refine ai ?_ | simp only [aops, thn, inB, ↓reduceIte, Nat.reduceEqDiff]))
 refine sw_loopv 7 (fun i : Nat => [(6, .c (.i .i64 (i : Int)))]) (fun _ => []) (fun i => i ≤ L.length) (fun i => L.length - i) 0 (Nat.zero_le _) ?_ fun i hi => ?_
 ·simp [go_sem]
 ·by_cases hlt : i < L.length
  ·(repeat first | refine hku ?_ | refine sw_seqk fun _ _ => ?_ | refine sw_reg ?_ | (refine sw_reg2 ?_; conv in reord _ => simp [reord, freeO]) | ((first | refine aops_k fun _ _ => ?_ | with_reducible refine rw_own ?_); simp [go_sem, hlt, dSs_len, dSs_get]; try go_ints) | refine sw_block ?_ | refine sw_t ?_ | refine sw_f ?_ | refine sw_e ?_ | refine ai ?_ | simp only [aops, thn])
   refine ⟨i + 1, by omega, by omega, ?_⟩; simp [go_sem]
  ·(repeat first | refine hku ?_ | refine sw_seqk fun _ _ => ?_ | refine sw_reg ?_ | (refine sw_reg2 ?_; conv in reord _ => simp [reord, freeO]) | ((first | refine aops_k fun _ _ => ?_ | with_reducible refine rw_own ?_); simp [go_sem, hlt, dSs_len]; try go_ints) | refine sw_block ?_ | refine sw_t ?_ | refine sw_f ?_ | refine sw_e ?_ | refine ai ?_ | simp only [aops, thn, inB, ↓reduceIte, Nat.reduceEqDiff])
   (refine ⟨.v _, hk, ?_⟩; simp [go_sem]; (repeat first | refine hku ?_ | refine sw_seqk fun _ _ => ?_ | refine sw_reg ?_ | (refine sw_reg2 ?_; conv in reord _ => simp [reord, freeO]) | ((first | refine aops_k fun _ _ => ?_ | with_reducible refine rw_own ?_); simp [go_sem]; try go_ints) | refine sw_block ?_ | refine sw_t ?_ | refine sw_f ?_ | refine sw_e ?_ | refine ai ?_ | simp only [aops, thn, inB, ↓reduceIte, Nat.reduceEqDiff]))
   simp [go_sem]
end Go.Proofs.YtbgifiijjjoebaaGreatDoor
