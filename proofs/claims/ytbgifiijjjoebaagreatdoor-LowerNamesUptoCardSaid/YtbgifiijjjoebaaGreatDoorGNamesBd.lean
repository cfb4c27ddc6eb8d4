/- riddleref04.free, over a row of the caller's. No conditions. Names in order, in plain words. No conditions. -/
import Derived.Test.YtbgifiijjjoebaaGreatDoorGNamesBa
import Derived.Test.YtbgifiijjjoebaaGreatDoorGNamesAp
namespace Go.Proofs.YtbgifiijjjoebaaGreatDoor
open Go.RowKit

attribute [go_sem] dSs_len
def rowS (fr : Bool) (o : List ByteArray) : Mem := [(1001, .r fr 1 9 (dSs o))]
theorem dSs_snoc (o : List ByteArray) (s : ByteArray) : dSs (o ++ [s]) = dSs o ++ [[.s s]] := by simp [dSs]
theorem dSs_in (l : List ByteArray) : ∀ y ∈ dSs l, y.length = 1 := fun y hy => by
  simp only [dSs, List.mem_map] at hy; obtain ⟨s, _, rfl⟩ := hy
  rfl
theorem dSs_in1 (l : List ByteArray) : (∀ y ∈ dSs l, y.length = 1) ↔ True := ⟨fun _ => trivial, fun _ => dSs_in l⟩
theorem dSs_in2 (l m : List ByteArray) : (∀ y ∈ dSs l ++ dSs m, y.length = 1) ↔ True := ⟨fun _ => trivial, fun _ => by rw [dSs_app]; exact dSs_in _⟩
attribute [go_sem] dSs_in1 dSs_in2
set_option maxRecDepth 100000 in
set_option maxHeartbeats 12800000 in
theorem rfree_m (t : Tr) : ∀ (bl o : List ByteArray) (fr : Bool), bl.length + t.nms ≤ 1099511627776 → o.length + t.nms ≤ 1099511627776 →
    FnM Tryz.prog 41 [.g ((dTr t).map (toC false)), .c (.l false (dSs bl)), .c (.r 1001 o.length)] (rowS fr o) (.c (.r 1001 (freeR t bl o).length)) (rowS fr (freeR t bl o)) := by
  refine Tr.ind (P := fun t => ∀ (bl o : List ByteArray) (fr : Bool), bl.length + t.nms ≤ 1099511627776 → o.length + t.nms ≤ 1099511627776 →
    FnM Tryz.prog 41 [.g ((dTr t).map (toC false)), .c (.l false (dSs bl)), .c (.r 1001 o.length)] (rowS fr o) (.c (.r 1001 (freeR t bl o).length)) (rowS fr (freeR t bl o))) (fun k s ns n ks ih bl o fr hb ho => ?_) t
  rw [nms_mk] at hb ho; obtain ⟨bl', hbl⟩ : ∃ bl', bl' = (if k = 21 ∨ k = 22 then bl ++ ns else bl) := ⟨_, rfl⟩; obtain ⟨o', hoo⟩ : ∃ o', o' = (if k = 2 ∧ s ∉ bl ∧ s ∉ o then o ++ [s] else o) := ⟨_, rfl⟩
  have hfr : freeR (.mk k s ns n ks) bl o = freesR ks bl' o' := by rw [freeR, ← hbl, ← hoo]
  have hbl1 : bl'.length ≤ bl.length + ns.length := by rw [hbl]; split <;> simp
  have hoo1 : o'.length ≤ o.length + 1 := by rw [hoo]; split <;> simp
  have hlen : ∀ i, i ≤ ks.length → (freesR (ks.take i) bl' o').length ≤ o'.length + nmss (ks.take i) := fun i _ => freesR_len (ks.take i) bl' o'
  have hih0 : ∀ i (h : i < ks.length), FnM Tryz.prog 41 [.g ((dTr ks[i]).map (toC false)), .c (.l false (dSs bl')), .c (.r 1001 (freesR (ks.take i) bl' o').length)] (rowS fr (freesR (ks.take i) bl' o')) (.c (.r 1001 (freesR (ks.take (i + 1)) bl' o').length)) (rowS fr (freesR (ks.take (i + 1)) bl' o')) := fun i h => by
    rw [freesR_take ks bl' o' i h]; have h1 := nmss_take ks i h; have h2 := hlen i (by omega); exact ih _ (List.getElem_mem h) bl' _ fr (by omega) (by omega)
  rw [hfr, dTr_eq]
  have hz0 : freesR (ks.take 0) bl' o' = o' := by rw [List.take_zero, freesR]
  have hend0 : freesR (ks.take ks.length) bl' o' = freesR ks bl' o' := by rw [List.take_length]
  obtain ⟨fo, hfo⟩ : ∃ fo : Nat → List ByteArray, fo = fun i => freesR (ks.take i) bl' o' := ⟨_, rfl⟩
  have hz : fo 0 = o' := by rw [hfo]; exact hz0
  have hend : freesR ks bl' o' = fo ks.length := by rw [hfo]; exact hend0.symm
  have hih : ∀ i (h : i < ks.length), FnM Tryz.prog 41 [.g ((dTr ks[i]).map (toC false)), .c (.l false (dSs bl')), .c (.r 1001 (fo i).length)] (rowS fr (fo i)) (.c (.r 1001 (fo (i + 1)).length)) (rowS fr (fo (i + 1))) := by rw [hfo]; exact hih0
  have hksl : ks.length ≤ 1099511627776 := by
    have : ∀ l : List Tr, l.length ≤ nmss l := fun l => by
      induction l with
      | nil => simp [nmss]
      | cons t r ih => rw [nmss]; have : 1 ≤ t.nms := by (cases t; rw [nms_mk]; omega)
                       simp only [List.length_cons]; omega
    have := this ks
    omega
  rw [hend]; clear hlen ih hend hfo hfr hih0 hz0 hend0; have k1 := rin_v bl s; have k2 := rin_v o s; simp only [Tr.kind, Tr.name, Tr.names, Tr.n, Tr.kids, dTr_eq] at *
  refine FnM.intro' Tryz.func41 [.tmp 6] 63 fun R hR => ?_
  have r1 := hR.hi; have r2 := hR.it; unfold rowS at *; have r0 : mat R 1001 = none := hR.off _ (by simp [keys])
  have q1 : ∀ a b, chkM ((3, a) :: (1001, b) :: R) R := fun a b => chkM_up (r1 3 (by decide)) (chkM_up r0 hR.cm)
  have q2 : ∀ a b, chkM ((1001, a) :: (3, b) :: R) R := fun a b => chkM_up r0 (chkM_up (r1 3 (by decide)) hR.cm)
  have q7 : ∀ a b c, chkM ((29, a) :: (3, b) :: (1001, c) :: R) R := fun a b c => chkM_up (r1 29 (by decide)) (q1 b c)
  have q8 : ∀ a b c, chkM ((1001, a) :: (29, b) :: (3, c) :: R) R := fun a b c => chkM_up r0 (chkM_up (r1 29 (by decide)) (chkM_up (r1 3 (by decide)) hR.cm))
  have q9 : ∀ a b c, chkK R ((29, a) :: (3, b) :: (1001, c) :: R) := fun a b c => chkK_up (chkK_up (chkK_up (chkK_self R)))
  have qa : ∀ a b c, chkK R ((1001, a) :: (29, b) :: (3, c) :: R) := fun a b c => chkK_up (chkK_up (chkK_up (chkK_self R)))
  have q0 : ∀ fr xs, frM 42 fr xs R = R := fun fr xs => hR.frm (by decide)
  have q3 : mdel R 1001 = R := hR.del (.inr (by simp [keys]))
  have q4 : ∀ a b, chkK R ((3, a) :: (1001, b) :: R) := fun a b => chkK_up (chkK_up (chkK_self R))
  have q5 : ∀ a b, chkK R ((1001, a) :: (3, b) :: R) := fun a b => chkK_up (chkK_up (chkK_self R))
  have q6 : ∀ m, chkB m R := fun m => hR.cb m
  by_cases h2 : k = 2
  · have hb2 : bl' = bl := by rw [hbl, if_neg (by omega)]
    subst hb2; clear hbl
    by_cases c1 : s ∈ bl'
    · rw [if_neg (fun h => h.2.1 c1)] at hoo; subst hoo
      (repeat first | refine hku ?_ | refine sw_seqk fun _ _ => ?_ | refine sw_reg ?_ | (refine sw_reg2 ?_; conv in reord _ => simp [reord, freeO]) | ((first | refine aops_k fun _ _ => ?_ | with_reducible refine rw_own ?_); simp [go_sem, h2, r1]; try go_ints) | refine sw_block ?_ | refine sw_t ?_ | refine sw_f ?_ | refine sw_e ?_ | refine ai ?_ | simp only [aops, thn, inB, ↓reduceIte, Nat.reduceEqDiff])
      (refine ⟨.v _, k1, ?_⟩; simp [go_sem]; (repeat first | refine hku ?_ | refine sw_seqk fun _ _ => ?_ | refine sw_reg ?_ | (refine sw_reg2 ?_; conv in reord _ => simp [reord, freeO]) | ((first | refine aops_k fun _ _ => ?_ | with_reducible refine rw_own ?_); simp [go_sem]; try go_ints) | refine sw_block ?_ | refine sw_t ?_ | refine sw_f ?_ | refine sw_e ?_ | refine ai ?_ | simp only [aops, thn, inB, ↓reduceIte, Nat.reduceEqDiff]))
      simp [c1]
      (repeat ((fail_if_success (first | (show SW _ (Code.region 8 _ _) _ _) | (show SW _ (Code.seq (Code.region 8 _ _) _) _ _))); first | refine hku ?_ | refine sw_seqk fun _ _ => ?_ | refine sw_reg ?_ | (refine sw_reg2 ?_; conv in reord _ => simp [reord, freeO]) | ((first | refine aops_k fun _ _ => ?_ | with_reducible refine rw_own ?_); simp [go_sem]; try go_ints) | refine sw_block ?_ | refine sw_t ?_ | refine sw_f ?_ | refine sw_e ?_ | refine ai ?_ | simp only [aops, thn, inB, ↓reduceIte, Nat.reduceEqDiff]))
      (repeat ((fail_if_success (first | (show SW _ (Code.region 9 _ _) _ _) | (show SW _ (Code.seq (Code.region 9 _ _) _) _ _))); first | refine hku ?_ | refine sw_seqk fun _ _ => ?_ | refine sw_reg ?_ | (refine sw_reg2 ?_; conv in reord _ => simp [reord, freeO]) | ((first | refine aops_k fun _ _ => ?_ | with_reducible refine rw_own ?_); simp [go_sem]; try go_ints) | refine sw_block ?_ | refine sw_t ?_ | refine sw_f ?_ | refine sw_e ?_ | refine ai ?_ | simp only [aops, thn, inB, ↓reduceIte, Nat.reduceEqDiff]))
      refine sw_loopv 9 (fun i : Nat => [(2, .c (.r 1001 (fo i).length)), (8, .c (.i .i64 (i : Int)))]) (fun i => [(1001, .r fr 1 9 (dSs (fo i)))]) (fun i => i ≤ ks.length) (fun i => ks.length - i) 0 (Nat.zero_le _) ?_ fun i hi => ?_
      · simp [go_sem, hz, q1, q4, q6]
      · by_cases hlt : i < ks.length
        · have k3 := hih i hlt
          (repeat first | refine hku ?_ | refine sw_seqk fun _ _ => ?_ | refine sw_reg ?_ | (refine sw_reg2 ?_; conv in reord _ => simp [reord, freeO]) | ((first | refine aops_k fun _ _ => ?_ | with_reducible refine rw_own ?_); simp [go_sem, hlt]; try go_ints) | refine sw_block ?_ | refine sw_t ?_ | refine sw_f ?_ | refine sw_e ?_ | refine ai ?_ | simp only [aops, thn, inB, ↓reduceIte, Nat.reduceEqDiff])
          refine callM_i k3 ?_; simp [go_sem, r2, q3]
          (repeat first | refine hku ?_ | refine sw_seqk fun _ _ => ?_ | refine sw_reg ?_ | (refine sw_reg2 ?_; conv in reord _ => simp [reord, freeO]) | ((first | refine aops_k fun _ _ => ?_ | with_reducible refine rw_own ?_); simp [go_sem]; try go_ints) | refine sw_block ?_ | refine sw_t ?_ | refine sw_f ?_ | refine sw_e ?_ | refine ai ?_ | simp only [aops, thn])
          refine ⟨i + 1, by omega, by omega, ?_⟩; simp [go_sem, q2, q4, q6]
        · have : i = ks.length := by omega
          subst this
          (repeat first | refine hku ?_ | refine sw_seqk fun _ _ => ?_ | refine sw_reg ?_ | (refine sw_reg2 ?_; conv in reord _ => simp [reord, freeO]) | ((first | refine aops_k fun _ _ => ?_ | with_reducible refine rw_own ?_); simp [go_sem]; try go_ints) | refine sw_block ?_ | refine sw_t ?_ | refine sw_f ?_ | refine sw_e ?_ | refine ai ?_ | simp only [aops, thn, inB, ↓reduceIte, Nat.reduceEqDiff])
          simp [go_sem, q1, q6]
    · by_cases c2 : s ∈ o
      · rw [if_neg (fun h => h.2.2 c2)] at hoo; subst hoo
        (repeat first | refine hku ?_ | refine sw_seqk fun _ _ => ?_ | refine sw_reg ?_ | (refine sw_reg2 ?_; conv in reord _ => simp [reord, freeO]) | ((first | refine aops_k fun _ _ => ?_ | with_reducible refine rw_own ?_); simp [go_sem, h2, r1]; try go_ints) | refine sw_block ?_ | refine sw_t ?_ | refine sw_f ?_ | refine sw_e ?_ | refine ai ?_ | simp only [aops, thn, inB, ↓reduceIte, Nat.reduceEqDiff])
        (refine ⟨.v _, k1, ?_⟩; simp [go_sem]; (repeat first | refine hku ?_ | refine sw_seqk fun _ _ => ?_ | refine sw_reg ?_ | (refine sw_reg2 ?_; conv in reord _ => simp [reord, freeO]) | ((first | refine aops_k fun _ _ => ?_ | with_reducible refine rw_own ?_); simp [go_sem]; try go_ints) | refine sw_block ?_ | refine sw_t ?_ | refine sw_f ?_ | refine sw_e ?_ | refine ai ?_ | simp only [aops, thn, inB, ↓reduceIte, Nat.reduceEqDiff]))
        simp [c1]
        (repeat first | refine hku ?_ | refine sw_seqk fun _ _ => ?_ | refine sw_reg ?_ | (refine sw_reg2 ?_; conv in reord _ => simp [reord, freeO]) | ((first | refine aops_k fun _ _ => ?_ | with_reducible refine rw_own ?_); simp [go_sem]; try go_ints) | refine sw_block ?_ | refine sw_t ?_ | refine sw_f ?_ | refine sw_e ?_ | refine ai ?_ | simp only [aops, thn, inB, ↓reduceIte, Nat.reduceEqDiff])
        (refine ⟨.v _, k2, ?_⟩; simp [go_sem]; (repeat first | refine hku ?_ | refine sw_seqk fun _ _ => ?_ | refine sw_reg ?_ | (refine sw_reg2 ?_; conv in reord _ => simp [reord, freeO]) | ((first | refine aops_k fun _ _ => ?_ | with_reducible refine rw_own ?_); simp [go_sem]; try go_ints) | refine sw_block ?_ | refine sw_t ?_ | refine sw_f ?_ | refine sw_e ?_ | refine ai ?_ | simp only [aops, thn, inB, ↓reduceIte, Nat.reduceEqDiff]))
        simp [c2]
        (repeat ((fail_if_success (first | (show SW _ (Code.region 8 _ _) _ _) | (show SW _ (Code.seq (Code.region 8 _ _) _) _ _))); first | refine hku ?_ | refine sw_seqk fun _ _ => ?_ | refine sw_reg ?_ | (refine sw_reg2 ?_; conv in reord _ => simp [reord, freeO]) | ((first | refine aops_k fun _ _ => ?_ | with_reducible refine rw_own ?_); simp [go_sem]; try go_ints) | refine sw_block ?_ | refine sw_t ?_ | refine sw_f ?_ | refine sw_e ?_ | refine ai ?_ | simp only [aops, thn, inB, ↓reduceIte, Nat.reduceEqDiff]))
        (repeat ((fail_if_success (first | (show SW _ (Code.region 9 _ _) _ _) | (show SW _ (Code.seq (Code.region 9 _ _) _) _ _))); first | refine hku ?_ | refine sw_seqk fun _ _ => ?_ | refine sw_reg ?_ | (refine sw_reg2 ?_; conv in reord _ => simp [reord, freeO]) | ((first | refine aops_k fun _ _ => ?_ | with_reducible refine rw_own ?_); simp [go_sem]; try go_ints) | refine sw_block ?_ | refine sw_t ?_ | refine sw_f ?_ | refine sw_e ?_ | refine ai ?_ | simp only [aops, thn, inB, ↓reduceIte, Nat.reduceEqDiff]))
        refine sw_loopv 9 (fun i : Nat => [(2, .c (.r 1001 (fo i).length)), (8, .c (.i .i64 (i : Int)))]) (fun i => [(1001, .r fr 1 9 (dSs (fo i)))]) (fun i => i ≤ ks.length) (fun i => ks.length - i) 0 (Nat.zero_le _) ?_ fun i hi => ?_
        · simp [go_sem, hz, q1, q4, q6]
        · by_cases hlt : i < ks.length
          · have k3 := hih i hlt
            (repeat first | refine hku ?_ | refine sw_seqk fun _ _ => ?_ | refine sw_reg ?_ | (refine sw_reg2 ?_; conv in reord _ => simp [reord, freeO]) | ((first | refine aops_k fun _ _ => ?_ | with_reducible refine rw_own ?_); simp [go_sem, hlt]; try go_ints) | refine sw_block ?_ | refine sw_t ?_ | refine sw_f ?_ | refine sw_e ?_ | refine ai ?_ | simp only [aops, thn, inB, ↓reduceIte, Nat.reduceEqDiff])
            refine callM_i k3 ?_; simp [go_sem, r2, q3]
            (repeat first | refine hku ?_ | refine sw_seqk fun _ _ => ?_ | refine sw_reg ?_ | (refine sw_reg2 ?_; conv in reord _ => simp [reord, freeO]) | ((first | refine aops_k fun _ _ => ?_ | with_reducible refine rw_own ?_); simp [go_sem]; try go_ints) | refine sw_block ?_ | refine sw_t ?_ | refine sw_f ?_ | refine sw_e ?_ | refine ai ?_ | simp only [aops, thn])
            refine ⟨i + 1, by omega, by omega, ?_⟩; simp [go_sem, q2, q4, q6]
          · have : i = ks.length := by omega
            subst this
            (repeat first | refine hku ?_ | refine sw_seqk fun _ _ => ?_ | refine sw_reg ?_ | (refine sw_reg2 ?_; conv in reord _ => simp [reord, freeO]) | ((first | refine aops_k fun _ _ => ?_ | with_reducible refine rw_own ?_); simp [go_sem]; try go_ints) | refine sw_block ?_ | refine sw_t ?_ | refine sw_f ?_ | refine sw_e ?_ | refine ai ?_ | simp only [aops, thn, inB, ↓reduceIte, Nat.reduceEqDiff])
            simp [go_sem, q1, q6]
      · rw [if_pos ⟨h2, c1, c2⟩] at hoo; subst hoo
        (repeat first | refine hku ?_ | refine sw_seqk fun _ _ => ?_ | refine sw_reg ?_ | (refine sw_reg2 ?_; conv in reord _ => simp [reord, freeO]) | ((first | refine aops_k fun _ _ => ?_ | with_reducible refine rw_own ?_); simp [go_sem, h2, r1]; try go_ints) | refine sw_block ?_ | refine sw_t ?_ | refine sw_f ?_ | refine sw_e ?_ | refine ai ?_ | simp only [aops, thn, inB, ↓reduceIte, Nat.reduceEqDiff])
        (refine ⟨.v _, k1, ?_⟩; simp [go_sem]; (repeat first | refine hku ?_ | refine sw_seqk fun _ _ => ?_ | refine sw_reg ?_ | (refine sw_reg2 ?_; conv in reord _ => simp [reord, freeO]) | ((first | refine aops_k fun _ _ => ?_ | with_reducible refine rw_own ?_); simp [go_sem]; try go_ints) | refine sw_block ?_ | refine sw_t ?_ | refine sw_f ?_ | refine sw_e ?_ | refine ai ?_ | simp only [aops, thn, inB, ↓reduceIte, Nat.reduceEqDiff]))
        simp [c1]
        (repeat first | refine hku ?_ | refine sw_seqk fun _ _ => ?_ | refine sw_reg ?_ | (refine sw_reg2 ?_; conv in reord _ => simp [reord, freeO]) | ((first | refine aops_k fun _ _ => ?_ | with_reducible refine rw_own ?_); simp [go_sem]; try go_ints) | refine sw_block ?_ | refine sw_t ?_ | refine sw_f ?_ | refine sw_e ?_ | refine ai ?_ | simp only [aops, thn, inB, ↓reduceIte, Nat.reduceEqDiff])
        (refine ⟨.v _, k2, ?_⟩; simp [go_sem]; (repeat first | refine hku ?_ | refine sw_seqk fun _ _ => ?_ | refine sw_reg ?_ | (refine sw_reg2 ?_; conv in reord _ => simp [reord, freeO]) | ((first | refine aops_k fun _ _ => ?_ | with_reducible refine rw_own ?_); simp [go_sem]; try go_ints) | refine sw_block ?_ | refine sw_t ?_ | refine sw_f ?_ | refine sw_e ?_ | refine ai ?_ | simp only [aops, thn, inB, ↓reduceIte, Nat.reduceEqDiff]))
        simp [c2]
        (repeat ((fail_if_success (first | (show SW _ (Code.region 8 _ _) _ _) | (show SW _ (Code.seq (Code.region 8 _ _) _) _ _))); first | refine hku ?_ | refine sw_seqk fun _ _ => ?_ | refine sw_reg ?_ | (refine sw_reg2 ?_; conv in reord _ => simp [reord, freeO]) | ((first | refine aops_k fun _ _ => ?_ | with_reducible refine rw_own ?_); simp [go_sem, r1]; try go_ints) | refine sw_block ?_ | refine sw_t ?_ | refine sw_f ?_ | refine sw_e ?_ | refine ai ?_ | simp only [aops, thn, inB, ↓reduceIte, Nat.reduceEqDiff]))
        (repeat ((fail_if_success (first | (show SW _ (Code.region 9 _ _) _ _) | (show SW _ (Code.seq (Code.region 9 _ _) _) _ _))); first | refine hku ?_ | refine sw_seqk fun _ _ => ?_ | refine sw_reg ?_ | (refine sw_reg2 ?_; conv in reord _ => simp [reord, freeO]) | ((first | refine aops_k fun _ _ => ?_ | with_reducible refine rw_own ?_); simp [go_sem]; try go_ints) | refine sw_block ?_ | refine sw_t ?_ | refine sw_f ?_ | refine sw_e ?_ | refine ai ?_ | simp only [aops, thn, inB, ↓reduceIte, Nat.reduceEqDiff]))
        refine sw_loopv 9 (fun i : Nat => [(2, .c (.r 1001 (fo i).length)), (8, .c (.i .i64 (i : Int)))]) (fun i => [(1001, .r fr 1 9 (dSs (fo i)))]) (fun i => i ≤ ks.length) (fun i => ks.length - i) 0 (Nat.zero_le _) ?_ fun i hi => ?_
        · simp [go_sem, hz, q6, q7, q9, dSs_snoc]
        · by_cases hlt : i < ks.length
          · have k3 := hih i hlt
            (repeat first | refine hku ?_ | refine sw_seqk fun _ _ => ?_ | refine sw_reg ?_ | (refine sw_reg2 ?_; conv in reord _ => simp [reord, freeO]) | ((first | refine aops_k fun _ _ => ?_ | with_reducible refine rw_own ?_); simp [go_sem, hlt]; try go_ints) | refine sw_block ?_ | refine sw_t ?_ | refine sw_f ?_ | refine sw_e ?_ | refine ai ?_ | simp only [aops, thn, inB, ↓reduceIte, Nat.reduceEqDiff])
            refine callM_i k3 ?_; simp [go_sem, r2, q3]
            (repeat first | refine hku ?_ | refine sw_seqk fun _ _ => ?_ | refine sw_reg ?_ | (refine sw_reg2 ?_; conv in reord _ => simp [reord, freeO]) | ((first | refine aops_k fun _ _ => ?_ | with_reducible refine rw_own ?_); simp [go_sem]; try go_ints) | refine sw_block ?_ | refine sw_t ?_ | refine sw_f ?_ | refine sw_e ?_ | refine ai ?_ | simp only [aops, thn])
            refine ⟨i + 1, by omega, by omega, ?_⟩; simp [go_sem, q6, q8, q9]
          · have : i = ks.length := by omega
            subst this
            (repeat first | refine hku ?_ | refine sw_seqk fun _ _ => ?_ | refine sw_reg ?_ | (refine sw_reg2 ?_; conv in reord _ => simp [reord, freeO]) | ((first | refine aops_k fun _ _ => ?_ | with_reducible refine rw_own ?_); simp [go_sem]; try go_ints) | refine sw_block ?_ | refine sw_t ?_ | refine sw_f ?_ | refine sw_e ?_ | refine ai ?_ | simp only [aops, thn, inB, ↓reduceIte, Nat.reduceEqDiff])
            simp [go_sem, q6, q7]
  · rw [if_neg (fun h => h2 h.1)] at hoo; subst hoo
    by_cases h3 : k = 21
    · rw [if_pos (.inl h3)] at hbl; subst hbl
      (repeat ((fail_if_success (first | (show SW _ (Code.region 8 _ _) _ _) | (show SW _ (Code.seq (Code.region 8 _ _) _) _ _))); first | refine hku ?_ | refine sw_seqk fun _ _ => ?_ | refine sw_reg ?_ | (refine sw_reg2 ?_; conv in reord _ => simp [reord, freeO]) | ((first | refine aops_k fun _ _ => ?_ | with_reducible refine rw_own ?_); simp [go_sem, h3, r1, dSs_in1]; try go_ints) | refine sw_block ?_ | refine sw_t ?_ | refine sw_f ?_ | refine sw_e ?_ | refine ai ?_ | simp only [aops, thn, inB, ↓reduceIte, Nat.reduceEqDiff]))
      refine sw_frz 42 (by rfl) ?_; simp only [frM, dSs_app, q0]
      (repeat ((fail_if_success (first | (show SW _ (Code.region 9 _ _) _ _) | (show SW _ (Code.seq (Code.region 9 _ _) _) _ _))); first | refine hku ?_ | refine sw_seqk fun _ _ => ?_ | refine sw_reg ?_ | (refine sw_reg2 ?_; conv in reord _ => simp [reord, freeO]) | ((first | refine aops_k fun _ _ => ?_ | with_reducible refine rw_own ?_); simp [go_sem]; try go_ints) | refine sw_block ?_ | refine sw_t ?_ | refine sw_f ?_ | refine sw_e ?_ | refine ai ?_ | simp only [aops, thn, inB, ↓reduceIte, Nat.reduceEqDiff]))
      refine sw_loopv 9 (fun i : Nat => [(2, .c (.r 1001 (fo i).length)), (8, .c (.i .i64 (i : Int)))]) (fun i => [(1001, .r fr 1 9 (dSs (fo i)))]) (fun i => i ≤ ks.length) (fun i => ks.length - i) 0 (Nat.zero_le _) ?_ fun i hi => ?_
      · simp [go_sem, hz, q1, q4, q6]
      · by_cases hlt : i < ks.length
        · have k3 := hih i hlt
          (repeat first | refine hku ?_ | refine sw_seqk fun _ _ => ?_ | refine sw_reg ?_ | (refine sw_reg2 ?_; conv in reord _ => simp [reord, freeO]) | ((first | refine aops_k fun _ _ => ?_ | with_reducible refine rw_own ?_); simp [go_sem, hlt]; try go_ints) | refine sw_block ?_ | refine sw_t ?_ | refine sw_f ?_ | refine sw_e ?_ | refine ai ?_ | simp only [aops, thn, inB, ↓reduceIte, Nat.reduceEqDiff])
          refine callM_i k3 ?_; simp [go_sem, r2, q3]
          (repeat first | refine hku ?_ | refine sw_seqk fun _ _ => ?_ | refine sw_reg ?_ | (refine sw_reg2 ?_; conv in reord _ => simp [reord, freeO]) | ((first | refine aops_k fun _ _ => ?_ | with_reducible refine rw_own ?_); simp [go_sem]; try go_ints) | refine sw_block ?_ | refine sw_t ?_ | refine sw_f ?_ | refine sw_e ?_ | refine ai ?_ | simp only [aops, thn])
          refine ⟨i + 1, by omega, by omega, ?_⟩; simp [go_sem, q2, q4, q6]
        · have : i = ks.length := by omega
          subst this
          (repeat first | refine hku ?_ | refine sw_seqk fun _ _ => ?_ | refine sw_reg ?_ | (refine sw_reg2 ?_; conv in reord _ => simp [reord, freeO]) | ((first | refine aops_k fun _ _ => ?_ | with_reducible refine rw_own ?_); simp [go_sem]; try go_ints) | refine sw_block ?_ | refine sw_t ?_ | refine sw_f ?_ | refine sw_e ?_ | refine ai ?_ | simp only [aops, thn, inB, ↓reduceIte, Nat.reduceEqDiff])
          simp [go_sem, q1, q6]
    · by_cases h4 : k = 22
      · rw [if_pos (.inr h4)] at hbl; subst hbl
        (repeat first | refine hku ?_ | refine sw_seqk fun _ _ => ?_ | refine sw_reg ?_ | (refine sw_reg2 ?_; conv in reord _ => simp [reord, freeO]) | ((first | refine aops_k fun _ _ => ?_ | with_reducible refine rw_own ?_); simp [go_sem, h4, r1]; try go_ints) | refine sw_block ?_ | refine sw_t ?_ | refine sw_f ?_ | refine sw_e ?_ | refine ai ?_ | simp only [aops, thn, inB, ↓reduceIte, Nat.reduceEqDiff])
        (repeat ((fail_if_success (first | (show SW _ (Code.region 8 _ _) _ _) | (show SW _ (Code.seq (Code.region 8 _ _) _) _ _))); first | refine hku ?_ | refine sw_seqk fun _ _ => ?_ | refine sw_reg ?_ | (refine sw_reg2 ?_; conv in reord _ => simp [reord, freeO]) | ((first | refine aops_k fun _ _ => ?_ | with_reducible refine rw_own ?_); simp [go_sem, h2, h3, r1]; try go_ints) | refine sw_block ?_ | refine sw_t ?_ | refine sw_f ?_ | refine sw_e ?_ | refine ai ?_ | simp only [aops, thn, inB, ↓reduceIte, Nat.reduceEqDiff]))
        refine sw_frz 42 (by rfl) ?_; simp only [frM, dSs_app, q0]
        (repeat ((fail_if_success (first | (show SW _ (Code.region 9 _ _) _ _) | (show SW _ (Code.seq (Code.region 9 _ _) _) _ _))); first | refine hku ?_ | refine sw_seqk fun _ _ => ?_ | refine sw_reg ?_ | (refine sw_reg2 ?_; conv in reord _ => simp [reord, freeO]) | ((first | refine aops_k fun _ _ => ?_ | with_reducible refine rw_own ?_); simp [go_sem]; try go_ints) | refine sw_block ?_ | refine sw_t ?_ | refine sw_f ?_ | refine sw_e ?_ | refine ai ?_ | simp only [↓reduceIte, Nat.reduceEqDiff]))
        refine sw_loopv 9 (fun i : Nat => [(2, .c (.r 1001 (fo i).length)), (8, .c (.i .i64 (i : Int)))]) (fun i => [(1001, .r fr 1 9 (dSs (fo i)))]) (fun i => i ≤ ks.length) (fun i => ks.length - i) 0 (Nat.zero_le _) ?_ fun i hi => ?_
        · simp [go_sem, hz, q1, q4, q6]
        · by_cases hlt : i < ks.length
          · have k3 := hih i hlt
            (repeat first | refine hku ?_ | refine sw_seqk fun _ _ => ?_ | refine sw_reg ?_ | (refine sw_reg2 ?_; conv in reord _ => simp [reord, freeO]) | ((first | refine aops_k fun _ _ => ?_ | with_reducible refine rw_own ?_); simp [go_sem, hlt]; try go_ints) | refine sw_block ?_ | refine sw_t ?_ | refine sw_f ?_ | refine sw_e ?_ | refine ai ?_ | simp only [aops, thn, inB, ↓reduceIte, Nat.reduceEqDiff])
            refine callM_i k3 ?_; simp [go_sem, r2, q3]
            (repeat first | refine hku ?_ | refine sw_seqk fun _ _ => ?_ | refine sw_reg ?_ | (refine sw_reg2 ?_; conv in reord _ => simp [reord, freeO]) | ((first | refine aops_k fun _ _ => ?_ | with_reducible refine rw_own ?_); simp [go_sem]; try go_ints) | refine sw_block ?_ | refine sw_t ?_ | refine sw_f ?_ | refine sw_e ?_ | refine ai ?_ | simp only [aops, thn])
            refine ⟨i + 1, by omega, by omega, ?_⟩; simp [go_sem, q2, q4, q6]
          · have : i = ks.length := by omega
            subst this
            (repeat first | refine hku ?_ | refine sw_seqk fun _ _ => ?_ | refine sw_reg ?_ | (refine sw_reg2 ?_; conv in reord _ => simp [reord, freeO]) | ((first | refine aops_k fun _ _ => ?_ | with_reducible refine rw_own ?_); simp [go_sem]; try go_ints) | refine sw_block ?_ | refine sw_t ?_ | refine sw_f ?_ | refine sw_e ?_ | refine ai ?_ | simp only [aops, thn, inB, ↓reduceIte, Nat.reduceEqDiff])
            simp [go_sem, q1, q6]
      · rw [if_neg (by omega)] at hbl; subst hbl
        (repeat first | refine hku ?_ | refine sw_seqk fun _ _ => ?_ | refine sw_reg ?_ | (refine sw_reg2 ?_; conv in reord _ => simp [reord, freeO]) | ((first | refine aops_k fun _ _ => ?_ | with_reducible refine rw_own ?_); simp [go_sem, h2, h3, h4, r1]; try go_ints) | refine sw_block ?_ | refine sw_t ?_ | refine sw_f ?_ | refine sw_e ?_ | refine ai ?_ | simp only [aops, thn, inB, ↓reduceIte, Nat.reduceEqDiff])
        (repeat ((fail_if_success (first | (show SW _ (Code.region 8 _ _) _ _) | (show SW _ (Code.seq (Code.region 8 _ _) _) _ _))); first | refine hku ?_ | refine sw_seqk fun _ _ => ?_ | refine sw_reg ?_ | (refine sw_reg2 ?_; conv in reord _ => simp [reord, freeO]) | ((first | refine aops_k fun _ _ => ?_ | with_reducible refine rw_own ?_); simp [go_sem, h2, h3, h4, r1]; try go_ints) | refine sw_block ?_ | refine sw_t ?_ | refine sw_f ?_ | refine sw_e ?_ | refine ai ?_ | simp only [aops, thn, inB, ↓reduceIte, Nat.reduceEqDiff]))
        (repeat ((fail_if_success (first | (show SW _ (Code.region 9 _ _) _ _) | (show SW _ (Code.seq (Code.region 9 _ _) _) _ _))); first | refine hku ?_ | refine sw_seqk fun _ _ => ?_ | refine sw_reg ?_ | (refine sw_reg2 ?_; conv in reord _ => simp [reord, freeO]) | ((first | refine aops_k fun _ _ => ?_ | with_reducible refine rw_own ?_); simp [go_sem]; try go_ints) | refine sw_block ?_ | refine sw_t ?_ | refine sw_f ?_ | refine sw_e ?_ | refine ai ?_ | simp only [aops, thn, inB, ↓reduceIte, Nat.reduceEqDiff]))
        refine sw_loopv 9 (fun i : Nat => [(2, .c (.r 1001 (fo i).length)), (8, .c (.i .i64 (i : Int)))]) (fun i => [(1001, .r fr 1 9 (dSs (fo i)))]) (fun i => i ≤ ks.length) (fun i => ks.length - i) 0 (Nat.zero_le _) ?_ fun i hi => ?_
        · simp [go_sem, hz, q1, q4, q6]
        · by_cases hlt : i < ks.length
          · have k3 := hih i hlt
            (repeat first | refine hku ?_ | refine sw_seqk fun _ _ => ?_ | refine sw_reg ?_ | (refine sw_reg2 ?_; conv in reord _ => simp [reord, freeO]) | ((first | refine aops_k fun _ _ => ?_ | with_reducible refine rw_own ?_); simp [go_sem, hlt]; try go_ints) | refine sw_block ?_ | refine sw_t ?_ | refine sw_f ?_ | refine sw_e ?_ | refine ai ?_ | simp only [aops, thn, inB, ↓reduceIte, Nat.reduceEqDiff])
            refine callM_i k3 ?_; simp [go_sem, r2, q3]
            (repeat first | refine hku ?_ | refine sw_seqk fun _ _ => ?_ | refine sw_reg ?_ | (refine sw_reg2 ?_; conv in reord _ => simp [reord, freeO]) | ((first | refine aops_k fun _ _ => ?_ | with_reducible refine rw_own ?_); simp [go_sem]; try go_ints) | refine sw_block ?_ | refine sw_t ?_ | refine sw_f ?_ | refine sw_e ?_ | refine ai ?_ | simp only [aops, thn])
            refine ⟨i + 1, by omega, by omega, ?_⟩; simp [go_sem, q2, q4, q6]
          · have : i = ks.length := by omega
            subst this
            (repeat first | refine hku ?_ | refine sw_seqk fun _ _ => ?_ | refine sw_reg ?_ | (refine sw_reg2 ?_; conv in reord _ => simp [reord, freeO]) | ((first | refine aops_k fun _ _ => ?_ | with_reducible refine rw_own ?_); simp [go_sem]; try go_ints) | refine sw_block ?_ | refine sw_t ?_ | refine sw_f ?_ | refine sw_e ?_ | refine ai ?_ | simp only [aops, thn, inB, ↓reduceIte, Nat.reduceEqDiff])
            simp [go_sem, q1, q6]
end Go.Proofs.YtbgifiijjjoebaaGreatDoor

namespace Go.Proofs.YtbgifiijjjoebaaGreatDoor
open Go.RowKit

def sLt (x y : ByteArray) : Prop := x.data.toList < y.data.toList
theorem sLt_irrefl (x : ByteArray) : ¬ sLt x x := List.lt_irrefl _
theorem sLt_trans {x y z : ByteArray} (h : sLt x y) (k : sLt y z) : sLt x z := List.lt_trans h k
theorem ba_ext {x y : ByteArray} (h : x.data.toList = y.data.toList) : x = y := by
 cases x with
 | mk a =>
  cases y with
  | mk b => exact congrArg _ (Array.toList_inj.1 h)
theorem sLt_tri {x y : ByteArray} (h : ¬ sLt x y) (k : ¬ sLt y x) : x = y := ba_ext (List.le_antisymm (List.not_lt.1 k) (List.not_lt.1 h))
theorem sLt_asymm {x y : ByteArray} (h : sLt x y) : ¬ sLt y x := fun k => sLt_irrefl x (sLt_trans h k)
abbrev SRis (l : List ByteArray) : Prop := l.Pairwise sLt
theorem sris_eq : ∀ {l m : List ByteArray}, l.Perm m → SRis l → SRis m → l = m
 | [], m, h, _, _ => (List.nil_perm.1 h).symm
 | a :: l, [], h, _, _ => by have := h.length_eq; simp at this
 | a :: l, b :: m, h, h1, h2 => by
  have h1 := List.pairwise_cons.1 h1; have h2 := List.pairwise_cons.1 h2
  have e : a = b := by
   have ha : a ∈ b :: m := h.subset (by simp); have hb : b ∈ a :: l := h.symm.subset (by simp)
   rcases List.mem_cons.1 ha with e | ha
   ·exact e
   ·rcases List.mem_cons.1 hb with e | hb
    ·exact e.symm
    ·exact absurd (h1.1 b hb) (sLt_asymm (h2.1 a ha))
  subst e; rw [sris_eq (List.Perm.cons_inv h) h1.2 h2.2]
theorem sris_of {l : List ByteArray} (h : l.Pairwise fun x y => ¬ sLt y x) (k : l.Nodup) : SRis l := by
 induction l with
 | nil => exact List.Pairwise.nil
 | cons a r ih =>
  rw [List.pairwise_cons] at h; rw [List.nodup_cons] at k; refine List.pairwise_cons.2 ⟨fun b hb => ?_, ih h.2 k.2⟩
  rcases Classical.em (sLt a b) with h1 | h1
  ·exact h1
  ·exact absurd (sLt_tri h1 (h.1 b hb)) fun e => k.1 (e ▸ hb)
theorem nodup_add {l : List ByteArray} {s : ByteArray} (h : l.Nodup) (hs : s ∉ l) : (l ++ [s]).Nodup := by
 rw [List.nodup_append]; exact ⟨h, by simp, fun a ha b hb e => by simp at hb; subst hb; subst e; exact hs ha⟩
theorem freeR_nodup (t : Tr) : ∀ b o, o.Nodup → (freeR t b o).Nodup := by
 refine Tr.ind (P := fun t => ∀ b o, o.Nodup → (freeR t b o).Nodup) (fun k s ns n ks ih b o h => ?_) t
 have hs : ∀ (l : List Tr), (∀ t ∈ l, ∀ b o, o.Nodup → (freeR t b o).Nodup) → ∀ b o, o.Nodup → (freesR l b o).Nodup := by
  intro l
  induction l with
  | nil => intro _ b o h; rw [freesR]; exact h
  | cons t r ih2 => intro h1 b o h; rw [freesR]; exact ih2 (fun t ht => h1 t (by simp [ht])) _ _ (h1 t (by simp) _ _ h)
 rw [freeR]; refine hs ks ih _ _ ?_
 split
 ·rename_i h1
  exact nodup_add h h1.2.2
 ·exact h
end Go.Proofs.YtbgifiijjjoebaaGreatDoor
