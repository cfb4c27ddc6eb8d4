/- riddle/syntax.free. No conditions. riddle/syntax.Free; riddle/lower.Names. No conditions. -/
import Derived.Test.YtbgifiijjjoebaaGreatDoorGNamesBf
import Derived.Test.YtbgifiijjjoebaaGreatDoorGNamesBe
import Derived.Sort.OwnSorted
namespace Go.Proofs.YtbgifiijjjoebaaGreatDoor
open Go.RowKit

attribute [go_sem] adR adA
def eB (b : List (ByteArray × Int)) : List (D × AD) := b.map fun p => (D.s p.1, AD.c (.i .i64 p.2))
def eF (f : List ByteArray) : List (D × AD) := f.map fun s => (D.s s, AD.g [])
theorem dEq_s (x y : ByteArray) : dEq (.s x) (.s y) = decide (x = y) := ba_beq x y
@[go_sem] theorem mlook_eB (s : ByteArray) : ∀ b : List (ByteArray × Int), (mlook (eB b) (.s s)).getD (.c (.i .i64 0)) = .c (.i .i64 (bget b s))
 | [] => rfl
 | (k, n) :: r => by
  have ih := mlook_eB s r
  by_cases h : s = k
  ·simp [eB, mlook, dEq_s, bget, h]
  ·simp only [eB, List.map_cons, mlook, dEq_s, bget, h, decide_false, Bool.false_eq_true, if_false]; exact ih
theorem mput_cons {k d : D} {v u : AD} {r : List (D × AD)} : mput ((k, v) :: r) d u = if dEq d k then (d, u) :: r else (k, v) :: mput r d u := by
 unfold mput
 by_cases h : dEq d k
 ·simp [midx, h]
 ·simp only [midx, h, Bool.false_eq_true, if_false, List.length_cons, Nat.add_lt_add_iff_right, List.set_cons_succ, List.cons_append]
  split <;> rfl
@[go_sem] theorem mput_eB (s : ByteArray) (n : Int) : ∀ b : List (ByteArray × Int), mput (eB b) (.s s) (.c (.i .i64 n)) = eB (bset b s n)
 | [] => rfl
 | (k, m) :: r => by
  have ih := mput_eB s n r; unfold eB at ih ⊢; rw [List.map_cons, mput_cons, dEq_s, bset]
  by_cases h : s = k
  ·simp [h]
  ·simp only [h, decide_false, Bool.false_eq_true, if_false, List.map_cons]; rw [ih]
@[go_sem] theorem mput_eF (s : ByteArray) : ∀ f : List ByteArray, mput (eF f) (.s s) (.g []) = eF (fadd f s)
 | [] => rfl
 | k :: r => by
  have ih := mput_eF s r; unfold eF at ih ⊢; rw [List.map_cons, mput_cons, dEq_s]
  by_cases h : s = k
  ·simp [h, fadd]
  ·simp only [h, decide_false, Bool.false_eq_true, if_false]; rw [ih]; unfold fadd
   by_cases h2 : s ∈ r
   ·simp [h2]
   ·simp [h2, h]
theorem bincs_take (d : Int) (ns : List ByteArray) (b : List (ByteArray × Int)) (i : Nat) (h : i < ns.length) : bincs b d (ns.take (i + 1)) = binc (bincs b d (ns.take i)) d ns[i] := by
 unfold bincs; rw [List.take_succ_eq_append_getElem h, List.foldl_append]; rfl
theorem freesM_take : ∀ (ks : List Tr) (b : List (ByteArray × Int)) (f : List ByteArray) (i : Nat) (h : i < ks.length), freesM (ks.take (i + 1)) b f = freeM ks[i] (freesM (ks.take i) b f).1 (freesM (ks.take i) b f).2
 | [], _, _, _, h => by cases h
 | t :: r, b, f, 0, _ => by simp [freesM]
 | t :: r, b, f, i + 1, h => by
  rw [List.take_succ_cons, List.take_succ_cons, freesM, freesM, freesM_take r _ _ i (by simpa using h), List.getElem_cons_succ]
theorem frees_law (bl : List ByteArray) : ∀ (l : List Tr) (bm : List (ByteArray × Int)) (f : List ByteArray), (∀ n, bget bm n = (bl.count n : Int)) → ∀ n, bget (freesM l bm f).1 n = (bl.count n : Int)
 | [], bm, f, h, n => by rw [freesM]; exact h n
 | t :: r, bm, f, h, n => by
  rw [freesM]; exact frees_law bl r _ _ (fun n => ((free_law t bm bl f h).1 n).trans (h n)) n
def mapS (b : List (ByteArray × Int)) (f : List ByteArray) : Mem := [(1001, .m true none (eB b)), (1002, .m true none (eF f))]
set_option maxRecDepth 100000 in
set_option maxHeartbeats 25600000 in
theorem free_m (t : Tr) : ∀ (bm : List (ByteArray × Int)) (bl f : List ByteArray), (∀ n, bget bm n = (bl.count n : Int)) → bl.length + t.nms ≤ 4398046511104 →
  FnM Tryz.prog 45 [.g ((dTr t).map (toC false)), .c (.m 1001), .c (.m 1002)] (mapS bm f) (.t []) (mapS (freeM t bm f).1 (freeM t bm f).2) := by
 refine Tr.ind (P := fun t => ∀ (bm : List (ByteArray × Int)) (bl f : List ByteArray), (∀ n, bget bm n = (bl.count n : Int)) → bl.length + t.nms ≤ 4398046511104 →
  FnM Tryz.prog 45 [.g ((dTr t).map (toC false)), .c (.m 1001), .c (.m 1002)] (mapS bm f) (.t []) (mapS (freeM t bm f).1 (freeM t bm f).2)) (fun k s ns n ks ih bm bl f hbm hb => ?_) t
 rw [nms_mk] at hb
 -- what the kids find and leave
 obtain ⟨b0, hb0⟩ : ∃ b0, b0 = (if k = 21 ∨ k = 22 then bincs bm 1 ns else bm) := ⟨_, rfl⟩; obtain ⟨bl0, hbl0⟩ : ∃ bl0, bl0 = (if k = 21 ∨ k = 22 then bl ++ ns else bl) := ⟨_, rfl⟩; obtain ⟨f0, hf0⟩ : ∃ f0, f0 = (if k = 2 ∧ bget bm s = 0 then fadd f s else f) := ⟨_, rfl⟩
 have hbc : ∀ n, bget b0 n = (bl0.count n : Int) := fun n => by
  rw [hb0, hbl0]
  split
  ·rw [bget_bincs, hbm n, List.count_append]; omega
  ·exact hbm n
 have hbll : bl0.length ≤ bl.length + ns.length := by rw [hbl0]; split <;> simp
 have hih0 : ∀ i (h : i < ks.length), FnM Tryz.prog 45 [.g ((dTr ks[i]).map (toC false)), .c (.m 1001), .c (.m 1002)] (mapS (freesM (ks.take i) b0 f0).1 (freesM (ks.take i) b0 f0).2) (.t []) (mapS (freesM (ks.take (i + 1)) b0 f0).1 (freesM (ks.take (i + 1)) b0 f0).2) := fun i h => by
  rw [freesM_take ks b0 f0 i h]; have h1 := nmss_take ks i h; exact ih _ (List.getElem_mem h) _ bl0 _ (frees_law bl0 _ _ _ hbc) (by omega)
 obtain ⟨fb, hfb⟩ : ∃ fb : Nat → List (ByteArray × Int), fb = fun i => (freesM (ks.take i) b0 f0).1 := ⟨_, rfl⟩
 obtain ⟨ff, hff⟩ : ∃ ff : Nat → List ByteArray, ff = fun i => (freesM (ks.take i) b0 f0).2 := ⟨_, rfl⟩
 have hzb : fb 0 = b0 := by rw [hfb]; simp [freesM]
 have hzf : ff 0 = f0 := by rw [hff]; simp [freesM]
 have heb : (freesM ks b0 f0).1 = fb ks.length := by rw [hfb]; simp
 have hef : (freesM ks b0 f0).2 = ff ks.length := by rw [hff]; simp
 have hih : ∀ i (h : i < ks.length), FnM Tryz.prog 45 [.g ((dTr ks[i]).map (toC false)), .c (.m 1001), .c (.m 1002)] (mapS (fb i) (ff i)) (.t []) (mapS (fb (i + 1)) (ff (i + 1))) := by rw [hfb, hff]; exact hih0
 have hend1 : ∀ n, bget (fb ks.length) n = (bl0.count n : Int) := fun n => by rw [hfb]; exact frees_law bl0 _ _ _ hbc n
 have hbr : freeM (.mk k s ns n ks) bm f = (if k = 21 ∨ k = 22 then bincs (fb ks.length) (-1) ns else fb ks.length, ff ks.length) := by
  rw [freeM]; simp only [← hb0, ← hf0, heb, hef]
 have hksl := nmss_len ks
 have hksl : ks.length ≤ 4398046511104 := by omega
 have hnsl : ns.length ≤ 4398046511104 := by omega
 -- the counts in the loops over the names
 obtain ⟨ni, hni⟩ : ∃ ni : Nat → List (ByteArray × Int), ni = fun i => bincs bm 1 (ns.take i) := ⟨_, rfl⟩
 obtain ⟨nd, hnd⟩ : ∃ nd : Nat → List (ByteArray × Int), nd = fun i => bincs (fb ks.length) (-1) (ns.take i) := ⟨_, rfl⟩
 have ni0 : ni 0 = bm := by rw [hni]; simp [bincs]
 have nd0 : nd 0 = fb ks.length := by rw [hnd]; simp [bincs]
 have niE : bincs bm 1 ns = ni ns.length := by rw [hni]; simp
 have ndE : bincs (fb ks.length) (-1) ns = nd ns.length := by rw [hnd]; simp
 have niS : ∀ i (h : i < ns.length), ni (i + 1) = bset (ni i) ns[i] (bget (ni i) ns[i] + 1) ∧ 0 ≤ bget (ni i) ns[i] ∧ bget (ni i) ns[i] ≤ 8796093022208 := fun i h => by
  rw [hni]; refine ⟨bincs_take 1 ns bm i h, ?_, ?_⟩
  ·simp only; rw [bget_bincs, hbm]; omega
  ·simp only; rw [bget_bincs, hbm]
   have h1 := List.count_le_length (a := ns[i]) (l := bl); have h2 := List.count_le_length (a := ns[i]) (l := ns.take i)
   have h3 : (ns.take i).length ≤ ns.length := by simp; omega
   omega
 have ndS : ∀ i (h : i < ns.length), nd (i + 1) = bset (nd i) ns[i] (bget (nd i) ns[i] - 1) ∧ -8796093022208 ≤ bget (nd i) ns[i] ∧ bget (nd i) ns[i] ≤ 8796093022208 := fun i h => by
  rw [hnd]; refine ⟨bincs_take (-1) ns _ i h, ?_, ?_⟩
  ·simp only; rw [bget_bincs, hend1]
   have h2 := List.count_le_length (a := ns[i]) (l := ns.take i)
   have h3 : (ns.take i).length ≤ ns.length := by simp; omega
   omega
  ·simp only; rw [bget_bincs, hend1]
   have h1 := List.count_le_length (a := ns[i]) (l := bl0)
   omega
 rw [hbr, dTr_eq]
 have hbs : ∃ v, bget bm s = v ∧ 0 ≤ v ∧ v ≤ 8796093022208 := ⟨_, rfl, by rw [hbm]; omega, by
  rw [hbm]; have h1 := List.count_le_length (a := s) (l := bl)
  omega⟩
 clear ih hih0 hend1 hfb hff hbr heb hef hni hnd hbc hbll hbl0 hb; simp only [Tr.kind, Tr.name, Tr.names, Tr.n, Tr.kids, dTr_eq] at *; obtain ⟨v, hv, hv0, hv1⟩ := hbs
 refine FnM.intro' Tryz.func45 [] 73 fun R hR => ?_
 have r1 := hR.hi; have r2 := hR.it; unfold mapS at *; have r0 : mat R 1001 = none := hR.off _ (by simp [keys]); have r0' : mat R 1002 = none := hR.off _ (by simp [keys]); have q3 : mdel R 1001 = R := hR.del (.inr (by simp [keys])); have q3' : mdel R 1002 = R := hR.del (.inr (by simp [keys]))
 have q6 : ∀ m, chkB m R := fun m => hR.cb m
 have q7 := hR.cm
 have q1 : ∀ a b c, chkM ((3, a) :: (1001, b) :: (1002, c) :: R) R := fun a b c => chkM_up (r1 3 (by decide)) (chkM_up r0 (chkM_up r0' hR.cm))
 have q2 : ∀ a b c, chkM ((1001, a) :: (1002, b) :: (3, c) :: R) R := fun a b c => chkM_up r0 (chkM_up r0' (chkM_up (r1 3 (by decide)) hR.cm))
 have q1' : ∀ a b c d, chkM ((10, d) :: (3, a) :: (1001, b) :: (1002, c) :: R) R := fun a b c d => chkM_up (r1 10 (by decide)) (q1 a b c)
 have q2' : ∀ a b c d, chkM ((1001, a) :: (1002, b) :: (10, d) :: (3, c) :: R) R := fun a b c d => chkM_up r0 (chkM_up r0' (chkM_up (r1 10 (by decide)) (chkM_up (r1 3 (by decide)) hR.cm)))
 have q4 : ∀ a b c, chkK R ((3, a) :: (1001, b) :: (1002, c) :: R) := fun a b c => chkK_up (chkK_up (chkK_up (chkK_self R)))
 have q5 : ∀ a b c, chkK R ((1001, a) :: (1002, b) :: (3, c) :: R) := fun a b c => chkK_up (chkK_up (chkK_up (chkK_self R)))
 have q4' : ∀ a b c d, chkK R ((10, d) :: (3, a) :: (1001, b) :: (1002, c) :: R) := fun a b c d => chkK_up (q4 a b c)
 have q5' : ∀ a b c d, chkK R ((1001, a) :: (1002, b) :: (10, d) :: (3, c) :: R) := fun a b c d => chkK_up (chkK_up (chkK_up (chkK_up (chkK_self R))))
 by_cases h2 : k = 2
 ·have hq : ¬ (k = 21 ∨ k = 22) := by omega
  rw [if_neg hq] at hb0; simp only [if_neg hq]
  by_cases h0 : v = 0
  ·rw [if_pos ⟨h2, by rw [hv]; exact h0⟩] at hf0; subst h0; rw [hb0] at hzb; rw [hf0] at hzf; clear hb0 hf0
   (repeat first | refine hku ?_ | refine sw_seqk fun _ _ => ?_ | refine sw_reg ?_ | (refine sw_reg2 ?_; conv in reord _ => simp [reord, freeO]) | ((first | refine aops_k fun _ _ => ?_ | with_reducible refine rw_own ?_); simp [go_sem, h2, r1, hv]; try go_ints) | refine sw_block ?_ | refine sw_t ?_ | refine sw_f ?_ | refine sw_e ?_ | refine ai ?_ | simp only [])
   refine ⟨freeIt_no (by simp [go_sem, noIt, isIt, r2]), ?_⟩
   (repeat first | refine hku ?_ | refine sw_seqk fun _ _ => ?_ | refine sw_reg ?_ | (refine sw_reg2 ?_; conv in reord _ => simp [reord, freeO]) | ((first | refine aops_k fun _ _ => ?_ | with_reducible refine rw_own ?_); simp [go_sem]; try go_ints) | refine sw_block ?_ | refine sw_t ?_ | refine sw_f ?_ | refine sw_e ?_ | refine ai ?_ | simp only [aops, thn, inB, ↓reduceIte, Nat.reduceEqDiff])
   refine sw_loopv 52 (fun i : Nat => [(4, .u), (5, .u), (7, .u), (8, .u), (9, .u), (10, .u), (11, .u), (12, .u), (51, .c (.i .i64 (i : Int)))]) (fun i => [(1001, .m true none (eB (fb i))), (1002, .m true none (eF (ff i)))]) (fun i => i ≤ ks.length) (fun i => ks.length - i) 0 (Nat.zero_le _) ?_ fun i hi => ?_
   ·simp [go_sem, hzb, hzf, q1, q4, q6]
   ·by_cases hlt : i < ks.length
    ·have k3 := hih i hlt
     (repeat first | refine hku ?_ | refine sw_seqk fun _ _ => ?_ | refine sw_reg ?_ | (refine sw_reg2 ?_; conv in reord _ => simp [reord, freeO]) | ((first | refine aops_k fun _ _ => ?_ | with_reducible refine rw_own ?_); simp [go_sem, hlt, r1]; try go_ints) | refine sw_block ?_ | refine sw_t ?_ | refine sw_f ?_ | refine sw_e ?_ | refine ai ?_ | simp only [aops, thn, inB, ↓reduceIte, Nat.reduceEqDiff])
     refine callM_i k3 ?_; simp [go_sem, r2, q3, q3']
     (repeat first | refine hku ?_ | refine sw_seqk fun _ _ => ?_ | refine sw_reg ?_ | (refine sw_reg2 ?_; conv in reord _ => simp [reord, freeO]) | ((first | refine aops_k fun _ _ => ?_ | with_reducible refine rw_own ?_); simp [go_sem]; try go_ints) | refine sw_block ?_ | refine sw_t ?_ | refine sw_f ?_ | refine sw_e ?_ | refine ai ?_ | simp only [aops, thn])
     refine ⟨i + 1, by omega, by omega, ?_⟩; simp [go_sem, q2', q4, q6]
    ·have : i = ks.length := by omega
     subst this
     (repeat first | refine hku ?_ | refine sw_seqk fun _ _ => ?_ | refine sw_reg ?_ | (refine sw_reg2 ?_; conv in reord _ => simp [reord, freeO]) | ((first | refine aops_k fun _ _ => ?_ | with_reducible refine rw_own ?_); simp [go_sem]; try go_ints) | refine sw_block ?_ | refine sw_t ?_ | refine sw_f ?_ | refine sw_e ?_ | refine ai ?_ | simp only [aops, thn, inB, ↓reduceIte, Nat.reduceEqDiff])
     simp [go_sem, q1, q6]
  ·rw [if_neg (fun h => h0 (by rw [← hv]; exact h.2))] at hf0; rw [hb0] at hzb; rw [hf0] at hzf; clear hb0 hf0
   (repeat first | refine hku ?_ | refine sw_seqk fun _ _ => ?_ | refine sw_reg ?_ | (refine sw_reg2 ?_; conv in reord _ => simp [reord, freeO]) | ((first | refine aops_k fun _ _ => ?_ | with_reducible refine rw_own ?_); simp [go_sem, h2, r1, hv, h0]; try go_ints) | refine sw_block ?_ | refine sw_t ?_ | refine sw_f ?_ | refine sw_e ?_ | refine ai ?_ | simp only [aops, thn, inB, ↓reduceIte, Nat.reduceEqDiff])
   refine sw_loopv 52 (fun i : Nat => [(4, .u), (5, .u), (7, .u), (8, .u), (9, .u), (10, .u), (11, .u), (12, .u), (51, .c (.i .i64 (i : Int)))]) (fun i => [(1001, .m true none (eB (fb i))), (1002, .m true none (eF (ff i)))]) (fun i => i ≤ ks.length) (fun i => ks.length - i) 0 (Nat.zero_le _) ?_ fun i hi => ?_
   ·simp [go_sem, hzb, hzf, q1, q4, q6]
   ·by_cases hlt : i < ks.length
    ·have k3 := hih i hlt
     (repeat first | refine hku ?_ | refine sw_seqk fun _ _ => ?_ | refine sw_reg ?_ | (refine sw_reg2 ?_; conv in reord _ => simp [reord, freeO]) | ((first | refine aops_k fun _ _ => ?_ | with_reducible refine rw_own ?_); simp [go_sem, hlt, r1]; try go_ints) | refine sw_block ?_ | refine sw_t ?_ | refine sw_f ?_ | refine sw_e ?_ | refine ai ?_ | simp only [aops, thn, inB, ↓reduceIte, Nat.reduceEqDiff])
     refine callM_i k3 ?_; simp [go_sem, r2, q3, q3']
     (repeat first | refine hku ?_ | refine sw_seqk fun _ _ => ?_ | refine sw_reg ?_ | (refine sw_reg2 ?_; conv in reord _ => simp [reord, freeO]) | ((first | refine aops_k fun _ _ => ?_ | with_reducible refine rw_own ?_); simp [go_sem]; try go_ints) | refine sw_block ?_ | refine sw_t ?_ | refine sw_f ?_ | refine sw_e ?_ | refine ai ?_ | simp only [aops, thn])
     refine ⟨i + 1, by omega, by omega, ?_⟩; simp [go_sem, q2', q4, q6]
    ·have : i = ks.length := by omega
     subst this
     (repeat first | refine hku ?_ | refine sw_seqk fun _ _ => ?_ | refine sw_reg ?_ | (refine sw_reg2 ?_; conv in reord _ => simp [reord, freeO]) | ((first | refine aops_k fun _ _ => ?_ | with_reducible refine rw_own ?_); simp [go_sem]; try go_ints) | refine sw_block ?_ | refine sw_t ?_ | refine sw_f ?_ | refine sw_e ?_ | refine ai ?_ | simp only [aops, thn, inB, ↓reduceIte, Nat.reduceEqDiff])
     simp [go_sem, q1, q6]
 ·rw [if_neg (fun h => h2 h.1)] at hf0; rw [hf0] at hzf; clear hf0
  by_cases h3 : k = 21
  ·have hq : k = 21 ∨ k = 22 := .inl h3; rw [if_pos hq, niE] at hb0; rw [hb0] at hzb; simp only [if_pos hq, ndE]; clear hb0
   (repeat first | refine hku ?_ | refine sw_seqk fun _ _ => ?_ | refine sw_reg ?_ | (refine sw_reg2 ?_; conv in reord _ => simp [reord, freeO]) | ((first | refine aops_k fun _ _ => ?_ | with_reducible refine rw_own ?_); simp [go_sem, h3, r1]; try go_ints) | refine sw_block ?_ | refine sw_t ?_ | refine sw_f ?_ | refine sw_e ?_ | refine ai ?_ | simp only [aops, thn, inB, ↓reduceIte, Nat.reduceEqDiff])
   refine sw_loopv 40 (fun i : Nat => [(7, .u), (8, .u), (39, .c (.i .i64 (i : Int)))]) (fun i => [(1001, .m true none (eB (ni i)))]) (fun i => i ≤ ns.length) (fun i => ns.length - i) 0 (Nat.zero_le _) ?_ fun i hi => ?_
   ·simp [go_sem, ni0, q1, q4, q6]
   ·by_cases hlt : i < ns.length
    ·obtain ⟨e1, e2, e3⟩ := niS i hlt; generalize hv2 : bget (ni i) ns[i] = v2 at e1 e2 e3
     (repeat first | refine hku ?_ | refine sw_seqk fun _ _ => ?_ | refine sw_reg ?_ | (refine sw_reg2 ?_; conv in reord _ => simp [reord, freeO]) | ((first | refine aops_k fun _ _ => ?_ | with_reducible refine rw_own ?_); simp [go_sem, hlt, dSs_len, dSs_get, hv2]; try go_ints) | refine sw_block ?_ | refine sw_t ?_ | refine sw_f ?_ | refine sw_e ?_ | refine ai ?_ | simp only [])
     refine ⟨freeIt_no (by simp [go_sem, noIt, isIt, r2]), ?_⟩
     (repeat first | refine hku ?_ | refine sw_seqk fun _ _ => ?_ | refine sw_reg ?_ | (refine sw_reg2 ?_; conv in reord _ => simp [reord, freeO]) | ((first | refine aops_k fun _ _ => ?_ | with_reducible refine rw_own ?_); simp [go_sem]; try go_ints) | refine sw_block ?_ | refine sw_t ?_ | refine sw_f ?_ | refine sw_e ?_ | refine ai ?_ | simp only [aops, thn])
     refine ⟨i + 1, by omega, by omega, ?_⟩; simp [go_sem, e1, q1, q4, q6]
    ·have : i = ns.length := by omega
     subst this
     (repeat first | refine hku ?_ | refine sw_seqk fun _ _ => ?_ | refine sw_reg ?_ | (refine sw_reg2 ?_; conv in reord _ => simp [reord, freeO]) | ((first | refine aops_k fun _ _ => ?_ | with_reducible refine rw_own ?_); simp [go_sem]; try go_ints) | refine sw_block ?_ | refine sw_t ?_ | refine sw_f ?_ | refine sw_e ?_ | refine ai ?_ | simp only [aops, thn, inB, ↓reduceIte, Nat.reduceEqDiff])
     refine sw_loopv 52 (fun i : Nat => [(4, .u), (5, .u), (7, .u), (8, .u), (9, .u), (10, .u), (11, .u), (12, .u), (51, .c (.i .i64 (i : Int)))]) (fun i => [(1001, .m true none (eB (fb i))), (1002, .m true none (eF (ff i)))]) (fun i => i ≤ ks.length) (fun i => ks.length - i) 0 (Nat.zero_le _) ?_ fun i hi => ?_
     ·simp [go_sem, hzb, hzf, q1, q4, q6]
     ·by_cases hlt : i < ks.length
      ·have k3 := hih i hlt
       (repeat first | refine hku ?_ | refine sw_seqk fun _ _ => ?_ | refine sw_reg ?_ | (refine sw_reg2 ?_; conv in reord _ => simp [reord, freeO]) | ((first | refine aops_k fun _ _ => ?_ | with_reducible refine rw_own ?_); simp [go_sem, hlt, r1]; try go_ints) | refine sw_block ?_ | refine sw_t ?_ | refine sw_f ?_ | refine sw_e ?_ | refine ai ?_ | simp only [aops, thn, inB, ↓reduceIte, Nat.reduceEqDiff])
       refine callM_i k3 ?_; simp [go_sem, r2, q3, q3']
       (repeat first | refine hku ?_ | refine sw_seqk fun _ _ => ?_ | refine sw_reg ?_ | (refine sw_reg2 ?_; conv in reord _ => simp [reord, freeO]) | ((first | refine aops_k fun _ _ => ?_ | with_reducible refine rw_own ?_); simp [go_sem]; try go_ints) | refine sw_block ?_ | refine sw_t ?_ | refine sw_f ?_ | refine sw_e ?_ | refine ai ?_ | simp only [aops, thn])
       refine ⟨i + 1, by omega, by omega, ?_⟩; simp [go_sem, q2', q4, q6]
      ·have : i = ks.length := by omega
       subst this
       (repeat first | refine hku ?_ | refine sw_seqk fun _ _ => ?_ | refine sw_reg ?_ | (refine sw_reg2 ?_; conv in reord _ => simp [reord, freeO]) | ((first | refine aops_k fun _ _ => ?_ | with_reducible refine rw_own ?_); simp [go_sem]; try go_ints) | refine sw_block ?_ | refine sw_t ?_ | refine sw_f ?_ | refine sw_e ?_ | refine ai ?_ | simp only [aops, thn, inB, ↓reduceIte, Nat.reduceEqDiff])
       refine sw_loopv 65 (fun i : Nat => [(11, .u), (12, .u), (64, .c (.i .i64 (i : Int)))]) (fun i => [(1001, .m true none (eB (nd i)))]) (fun i => i ≤ ns.length) (fun i => ns.length - i) 0 (Nat.zero_le _) ?_ fun i hi => ?_
       ·simp [go_sem, nd0, q1, q4, q6]
       ·by_cases hlt2 : i < ns.length
        ·obtain ⟨e1, e2, e3⟩ := ndS i hlt2; generalize hv2 : bget (nd i) ns[i] = v2 at e1 e2 e3
         (repeat first | refine hku ?_ | refine sw_seqk fun _ _ => ?_ | refine sw_reg ?_ | (refine sw_reg2 ?_; conv in reord _ => simp [reord, freeO]) | ((first | refine aops_k fun _ _ => ?_ | with_reducible refine rw_own ?_); simp [go_sem, hlt2, dSs_len, dSs_get, hv2]; try go_ints) | refine sw_block ?_ | refine sw_t ?_ | refine sw_f ?_ | refine sw_e ?_ | refine ai ?_ | simp only [])
         refine ⟨freeIt_no (by simp [go_sem, noIt, isIt, r2]), ?_⟩
         (repeat first | refine hku ?_ | refine sw_seqk fun _ _ => ?_ | refine sw_reg ?_ | (refine sw_reg2 ?_; conv in reord _ => simp [reord, freeO]) | ((first | refine aops_k fun _ _ => ?_ | with_reducible refine rw_own ?_); simp [go_sem]; try go_ints) | refine sw_block ?_ | refine sw_t ?_ | refine sw_f ?_ | refine sw_e ?_ | refine ai ?_ | simp only [aops, thn])
         refine ⟨i + 1, by omega, by omega, ?_⟩; simp [go_sem, e1, q1, q4, q6]
        ·have : i = ns.length := by omega
         subst this
         (repeat first | refine hku ?_ | refine sw_seqk fun _ _ => ?_ | refine sw_reg ?_ | (refine sw_reg2 ?_; conv in reord _ => simp [reord, freeO]) | ((first | refine aops_k fun _ _ => ?_ | with_reducible refine rw_own ?_); simp [go_sem]; try go_ints) | refine sw_block ?_ | refine sw_t ?_ | refine sw_f ?_ | refine sw_e ?_ | refine ai ?_ | simp only [thn, inB, ↓reduceIte])
         simp [go_sem, q1, q6]
  ·by_cases h4 : k = 22
   ·have hq : k = 21 ∨ k = 22 := .inr h4; rw [if_pos hq, niE] at hb0; rw [hb0] at hzb; simp only [if_pos hq, ndE]; clear hb0
    (repeat first | refine hku ?_ | refine sw_seqk fun _ _ => ?_ | refine sw_reg ?_ | (refine sw_reg2 ?_; conv in reord _ => simp [reord, freeO]) | ((first | refine aops_k fun _ _ => ?_ | with_reducible refine rw_own ?_); simp [go_sem, h4, r1]; try go_ints) | refine sw_block ?_ | refine sw_t ?_ | refine sw_f ?_ | refine sw_e ?_ | refine ai ?_ | simp only [aops, thn, inB, ↓reduceIte, Nat.reduceEqDiff])
    refine sw_loopv 40 (fun i : Nat => [(7, .u), (8, .u), (39, .c (.i .i64 (i : Int)))]) (fun i => [(1001, .m true none (eB (ni i)))]) (fun i => i ≤ ns.length) (fun i => ns.length - i) 0 (Nat.zero_le _) ?_ fun i hi => ?_
    ·simp [go_sem, ni0, q1, q4, q6]
    ·by_cases hlt : i < ns.length
     ·obtain ⟨e1, e2, e3⟩ := niS i hlt; generalize hv2 : bget (ni i) ns[i] = v2 at e1 e2 e3
      (repeat first | refine hku ?_ | refine sw_seqk fun _ _ => ?_ | refine sw_reg ?_ | (refine sw_reg2 ?_; conv in reord _ => simp [reord, freeO]) | ((first | refine aops_k fun _ _ => ?_ | with_reducible refine rw_own ?_); simp [go_sem, hlt, dSs_len, dSs_get, hv2]; try go_ints) | refine sw_block ?_ | refine sw_t ?_ | refine sw_f ?_ | refine sw_e ?_ | refine ai ?_ | simp only [])
      refine ⟨freeIt_no (by simp [go_sem, noIt, isIt, r2]), ?_⟩
      (repeat first | refine hku ?_ | refine sw_seqk fun _ _ => ?_ | refine sw_reg ?_ | (refine sw_reg2 ?_; conv in reord _ => simp [reord, freeO]) | ((first | refine aops_k fun _ _ => ?_ | with_reducible refine rw_own ?_); simp [go_sem]; try go_ints) | refine sw_block ?_ | refine sw_t ?_ | refine sw_f ?_ | refine sw_e ?_ | refine ai ?_ | simp only [aops, thn])
      refine ⟨i + 1, by omega, by omega, ?_⟩; simp [go_sem, e1, q1, q4, q6]
     ·have : i = ns.length := by omega
      subst this
      (repeat first | refine hku ?_ | refine sw_seqk fun _ _ => ?_ | refine sw_reg ?_ | (refine sw_reg2 ?_; conv in reord _ => simp [reord, freeO]) | ((first | refine aops_k fun _ _ => ?_ | with_reducible refine rw_own ?_); simp [go_sem]; try go_ints) | refine sw_block ?_ | refine sw_t ?_ | refine sw_f ?_ | refine sw_e ?_ | refine ai ?_ | simp only [aops, thn, inB, ↓reduceIte, Nat.reduceEqDiff])
      refine sw_loopv 52 (fun i : Nat => [(4, .u), (5, .u), (7, .u), (8, .u), (9, .u), (10, .u), (11, .u), (12, .u), (51, .c (.i .i64 (i : Int)))]) (fun i => [(1001, .m true none (eB (fb i))), (1002, .m true none (eF (ff i)))]) (fun i => i ≤ ks.length) (fun i => ks.length - i) 0 (Nat.zero_le _) ?_ fun i hi => ?_
      ·simp [go_sem, hzb, hzf, q1, q4, q6]
      ·by_cases hlt : i < ks.length
       ·have k3 := hih i hlt
        (repeat first | refine hku ?_ | refine sw_seqk fun _ _ => ?_ | refine sw_reg ?_ | (refine sw_reg2 ?_; conv in reord _ => simp [reord, freeO]) | ((first | refine aops_k fun _ _ => ?_ | with_reducible refine rw_own ?_); simp [go_sem, hlt, r1]; try go_ints) | refine sw_block ?_ | refine sw_t ?_ | refine sw_f ?_ | refine sw_e ?_ | refine ai ?_ | simp only [aops, thn, inB, ↓reduceIte, Nat.reduceEqDiff])
        refine callM_i k3 ?_; simp [go_sem, r2, q3, q3']
        (repeat first | refine hku ?_ | refine sw_seqk fun _ _ => ?_ | refine sw_reg ?_ | (refine sw_reg2 ?_; conv in reord _ => simp [reord, freeO]) | ((first | refine aops_k fun _ _ => ?_ | with_reducible refine rw_own ?_); simp [go_sem]; try go_ints) | refine sw_block ?_ | refine sw_t ?_ | refine sw_f ?_ | refine sw_e ?_ | refine ai ?_ | simp only [aops, thn])
        refine ⟨i + 1, by omega, by omega, ?_⟩; simp [go_sem, q2', q4, q6]
       ·have : i = ks.length := by omega
        subst this
        (repeat first | refine hku ?_ | refine sw_seqk fun _ _ => ?_ | refine sw_reg ?_ | (refine sw_reg2 ?_; conv in reord _ => simp [reord, freeO]) | ((first | refine aops_k fun _ _ => ?_ | with_reducible refine rw_own ?_); simp [go_sem]; try go_ints) | refine sw_block ?_ | refine sw_t ?_ | refine sw_f ?_ | refine sw_e ?_ | refine ai ?_ | simp only [aops, thn, inB, ↓reduceIte, Nat.reduceEqDiff])
        refine sw_loopv 65 (fun i : Nat => [(11, .u), (12, .u), (64, .c (.i .i64 (i : Int)))]) (fun i => [(1001, .m true none (eB (nd i)))]) (fun i => i ≤ ns.length) (fun i => ns.length - i) 0 (Nat.zero_le _) ?_ fun i hi => ?_
        ·simp [go_sem, nd0, q1, q4, q6]
        ·by_cases hlt2 : i < ns.length
         ·obtain ⟨e1, e2, e3⟩ := ndS i hlt2; generalize hv2 : bget (nd i) ns[i] = v2 at e1 e2 e3
          (repeat first | refine hku ?_ | refine sw_seqk fun _ _ => ?_ | refine sw_reg ?_ | (refine sw_reg2 ?_; conv in reord _ => simp [reord, freeO]) | ((first | refine aops_k fun _ _ => ?_ | with_reducible refine rw_own ?_); simp [go_sem, hlt2, dSs_len, dSs_get, hv2]; try go_ints) | refine sw_block ?_ | refine sw_t ?_ | refine sw_f ?_ | refine sw_e ?_ | refine ai ?_ | simp only [])
          refine ⟨freeIt_no (by simp [go_sem, noIt, isIt, r2]), ?_⟩
          (repeat first | refine hku ?_ | refine sw_seqk fun _ _ => ?_ | refine sw_reg ?_ | (refine sw_reg2 ?_; conv in reord _ => simp [reord, freeO]) | ((first | refine aops_k fun _ _ => ?_ | with_reducible refine rw_own ?_); simp [go_sem]; try go_ints) | refine sw_block ?_ | refine sw_t ?_ | refine sw_f ?_ | refine sw_e ?_ | refine ai ?_ | simp only [aops, thn])
          refine ⟨i + 1, by omega, by omega, ?_⟩; simp [go_sem, e1, q1, q4, q6]
         ·have : i = ns.length := by omega
          subst this
          (repeat first | refine hku ?_ | refine sw_seqk fun _ _ => ?_ | refine sw_reg ?_ | (refine sw_reg2 ?_; conv in reord _ => simp [reord, freeO]) | ((first | refine aops_k fun _ _ => ?_ | with_reducible refine rw_own ?_); simp [go_sem]; try go_ints) | refine sw_block ?_ | refine sw_t ?_ | refine sw_f ?_ | refine sw_e ?_ | refine ai ?_ | simp only [thn, inB, ↓reduceIte])
          simp [go_sem, q1, q6]
   ·have hq : ¬ (k = 21 ∨ k = 22) := by omega
    rw [if_neg hq] at hb0; rw [hb0] at hzb; simp only [if_neg hq]; clear hb0
    (repeat first | refine hku ?_ | refine sw_seqk fun _ _ => ?_ | refine sw_reg ?_ | (refine sw_reg2 ?_; conv in reord _ => simp [reord, freeO]) | ((first | refine aops_k fun _ _ => ?_ | with_reducible refine rw_own ?_); simp [go_sem, h2, h3, h4, r1]; try go_ints) | refine sw_block ?_ | refine sw_t ?_ | refine sw_f ?_ | refine sw_e ?_ | refine ai ?_ | simp only [aops, thn, inB, ↓reduceIte, Nat.reduceEqDiff])
    refine sw_loopv 52 (fun i : Nat => [(4, .u), (5, .u), (7, .u), (8, .u), (9, .u), (10, .u), (11, .u), (12, .u), (51, .c (.i .i64 (i : Int)))]) (fun i => [(1001, .m true none (eB (fb i))), (1002, .m true none (eF (ff i)))]) (fun i => i ≤ ks.length) (fun i => ks.length - i) 0 (Nat.zero_le _) ?_ fun i hi => ?_
    ·simp [go_sem, hzb, hzf, q1, q4, q6]
    ·by_cases hlt : i < ks.length
     ·have k3 := hih i hlt
      (repeat first | refine hku ?_ | refine sw_seqk fun _ _ => ?_ | refine sw_reg ?_ | (refine sw_reg2 ?_; conv in reord _ => simp [reord, freeO]) | ((first | refine aops_k fun _ _ => ?_ | with_reducible refine rw_own ?_); simp [go_sem, hlt, r1]; try go_ints) | refine sw_block ?_ | refine sw_t ?_ | refine sw_f ?_ | refine sw_e ?_ | refine ai ?_ | simp only [aops, thn, inB, ↓reduceIte, Nat.reduceEqDiff])
      refine callM_i k3 ?_; simp [go_sem, r2, q3, q3']
      (repeat first | refine hku ?_ | refine sw_seqk fun _ _ => ?_ | refine sw_reg ?_ | (refine sw_reg2 ?_; conv in reord _ => simp [reord, freeO]) | ((first | refine aops_k fun _ _ => ?_ | with_reducible refine rw_own ?_); simp [go_sem]; try go_ints) | refine sw_block ?_ | refine sw_t ?_ | refine sw_f ?_ | refine sw_e ?_ | refine ai ?_ | simp only [aops, thn])
      refine ⟨i + 1, by omega, by omega, ?_⟩; simp [go_sem, q2', q4, q6]
     ·have : i = ks.length := by omega
      subst this
      (repeat first | refine hku ?_ | refine sw_seqk fun _ _ => ?_ | refine sw_reg ?_ | (refine sw_reg2 ?_; conv in reord _ => simp [reord, freeO]) | ((first | refine aops_k fun _ _ => ?_ | with_reducible refine rw_own ?_); simp [go_sem]; try go_ints) | refine sw_block ?_ | refine sw_t ?_ | refine sw_f ?_ | refine sw_e ?_ | refine ai ?_ | simp only [aops, thn, inB, ↓reduceIte, Nat.reduceEqDiff])
      simp [go_sem, q1, q6]
end Go.Proofs.YtbgifiijjjoebaaGreatDoor

namespace Go.Proofs.YtbgifiijjjoebaaGreatDoor
open Go.RowKit Go.Sort

theorem sort_own {w : World} {Z : Nat → Prop} {n0 : Nat} {T : TypeId} {v : Value} {l : List ByteArray} (hn : l.length ≤ 1099511627776) (h : Own 1 ED w Z n0 T v (dSs l)) :
  Calls Tryz.prog 46 #[v] w fun e w' => e = .returned (.tuple #[]) ∧ Own 1 ED w' Z n0 T v (dSs (bsort l)) ∧ w.grownBy w' v.ownBlock := by
 have hsl := bsort_len l; obtain ⟨ys, h1, h2⟩ := h; obtain ⟨rfl, hsz⟩ := fl_s h2
 rcases h1.2 with ⟨rfl, h3⟩ | ⟨g, cap, cur, rfl, hb, hg, k1, k2, k3, k4⟩
 ·have hl : l = [] := by simpa [dSs] using h3
  subst hl
  refine (Tryz.slices_Sort_string_none none 0 w).mono fun e w' ⟨he, hw⟩ => ⟨he, ?_, ?_⟩
  ·subst hw; have e : bsort [] = [] := List.eq_nil_of_length_eq_zero (by rw [bsort_len]; rfl)
   rw [e]; exact ⟨_, h1, h2⟩
  ·subst hw; exact World.grownBy.refl _ _
 ·have hdl : (dSs l).length = l.length := by simp [dSs]
  rw [hdl] at k1 k4 ⊢
  have e1 : (l.map bl).map encStr = l.map Value.string := by
   rw [List.map_map]; rfl
  have hH := holds_of_block (ss := l.map bl) hg (by rw [e1, List.length_map]; simpa using k4); have hc := Tryz.slices_Sort_string g 0 cap (l.map bl) w hH (Array.getElem?_eq_some_iff.1 hg).1 (by simp; omega); rw [List.length_map] at hc
  refine hc.mono fun e w' ⟨he, n, os, hw⟩ => ⟨he, ?_, ?_⟩
  ·subst hw
   have e2 : ((l.map bl).mergeSort fun x y => decide (x ≤ y)).map encStr = (bsort l).map Value.string := by
    unfold bsort; rw [List.map_map]; rfl
   have h5 := ownsRow_sorted (n := n) (os := os) (ss := l.map bl) (ts := (l.map bl).mergeSort fun x y => decide (x ≤ y)) (by simp) hb hg (by simpa using k1) k2 (by simpa using k3); rw [e2] at h5; refine ⟨(bsort l).map Value.string, ?_, fl_s_mk fun s hs => hsz s ((bsort_perm l).mem_iff.1 hs)⟩
   have h6 : (dSs (bsort l)).length = l.length := by simp [dSs, bsort_len]
   rw [h6]
   simpa using h5
  ·subst hw; exact grownBy_sorted _
theorem sort_s (fr : Bool) (l : List ByteArray) (hn : l.length ≤ 1099511627776) : FnM Tryz.prog 46 [.c (.r 1001 l.length)] [(1001, .r fr 1 9 (dSs l))] (.t []) [(1001, .r fr 1 9 (dSs (bsort l)))] := by
 have h := row_m (P := Tryz.prog) (f := 46) (fr := fr) (T := 9) (xs := dSs l) (ys := dSs (bsort l)) (by simp [dSs, bsort_len]) rfl (fun w Z n0 v hO => sort_own hn hO) (dSs_in _)
 simpa [dSs] using h
theorem eF_perm {f rem o : List ByteArray} (h : (o ++ rem).Perm f) {p : D × AD} {l1 l2 : List (D × AD)} (e : eF rem = l1 ++ p :: l2) : ∃ s r2, p = (.s s, .g []) ∧ l1 ++ l2 = eF r2 ∧ (o ++ [s] ++ r2).Perm f ∧ r2.length < rem.length := by
 unfold eF at e; obtain ⟨a, b, e1, e2, e3⟩ := List.map_eq_append_iff.1 e; obtain ⟨s, c, e4, e5, e6⟩ := List.map_eq_cons_iff.1 e3; refine ⟨s, a ++ c, e5.symm, by rw [← e2, ← e6, ← List.map_append]; rfl, ?_, ?_⟩
 ·subst e4; subst e1
  refine List.Perm.trans ?_ h; rw [List.append_assoc]; refine List.Perm.append_left _ ?_; exact (List.perm_middle (l₁ := a) (l₂ := c) (a := s)).symm
 ·subst e4; subst e1
  simp
set_option maxRecDepth 100000 in
set_option maxHeartbeats 12800000 in
theorem free_o (t : Tr) (ht : t.nms ≤ 1099511627776) : FnR Tryz.prog 22 [.g (dTr t)] true 1 9 (dSs (bsort (freeR t [] []))) := by
 obtain ⟨hl1, hl2⟩ := free_law t [] [] [] (fun n => by simp [bget]); have k0 := free_m t [] [] [] (fun n => by simp [bget]) (by simp; omega); have hnd : (freeR t [] []).Nodup := freeR_nodup t [] [] .nil; have hlen := freeR_len t [] []; rw [hl2] at k0; generalize freeR t [] [] = F at *; generalize (freeM t [] []).1 = B at *; simp only [List.length_nil, Nat.zero_add] at hlen
 have hsort : ∀ o : List ByteArray, o.Perm F → FnM Tryz.prog 46 [.c (.r 1001 o.length)] [(1001, .r true 1 9 (dSs o))] (.t []) [(1001, .r true 1 9 (dSs (bsort F)))] := fun o ho => by
  have := sort_s true o (by rw [ho.length_eq]; omega)
  rwa [bsort_perm_eq ho hnd] at this
 cases t with
 | mk k s ns n ks =>
 simp only [Tr.kind, Tr.name, Tr.names, Tr.n, Tr.kids, dTr_eq, List.map, toC] at k0 ⊢; unfold mapS at *
 refine FnR.intro' Tryz.func22 [.tmp 2] 26 fun _ => ?_
 (repeat ((fail_if_success (first | (show SW _ (Code.region 3 _ _) _ _) | (show SW _ (Code.seq (Code.region 3 _ _) _) _ _))); first | refine hku ?_ | refine sw_seqk fun _ _ => ?_ | refine sw_reg ?_ | (refine sw_reg2 ?_; conv in reord _ => simp [reord, freeO]) | ((first | refine aops_k fun _ _ => ?_ | with_reducible refine rw_own ?_); simp [go_sem]; try go_ints) | refine sw_block ?_ | refine sw_t ?_ | refine sw_f ?_ | refine sw_e ?_ | refine ai ?_ | simp only [aops, thn, inB, ↓reduceIte, Nat.reduceEqDiff]))
 refine sw_ren 8 1001 (by simp [go_sem]) ?_; refine sw_ren 7 1002 (by simp [go_sem]) ?_; refine sw_restate [(1, .c (.p 1 0)), (2, .c .nl), (3, .c (.m 1002)), (4, .c (.m 1001))] [(1, .x [.i .i64 k, .s s, .l false (dSs ns), .b n.neg, .l false (dN n.mag), .l false (ks.map dTr)]), (1001, .m true none (eB [])), (1002, .m true none (eF []))] ?_ ?_
 ·simp [go_sem, lst, rnM, rnR, one, eB, eF]
 (repeat first | refine hku ?_ | refine sw_seqk fun _ _ => ?_ | refine sw_reg ?_ | (refine sw_reg2 ?_; conv in reord _ => simp [reord, freeO]) | ((first | refine aops_k fun _ _ => ?_ | with_reducible refine rw_own ?_); simp [go_sem]; try go_ints) | refine sw_block ?_ | refine sw_t ?_ | refine sw_f ?_ | refine sw_e ?_ | refine ai ?_ | simp only [aops, thn, inB, ↓reduceIte, Nat.reduceEqDiff])
 refine callM_i k0 ?_; simp [go_sem]
 (repeat ((fail_if_success (first | (show SW _ (Code.region 5 _ _) _ _) | (show SW _ (Code.seq (Code.region 5 _ _) _) _ _))); first | refine hku ?_ | refine sw_seqk fun _ _ => ?_ | refine sw_reg ?_ | (refine sw_reg2 ?_; conv in reord _ => simp [reord, freeO]) | ((first | refine aops_k fun _ _ => ?_ | with_reducible refine rw_own ?_); simp [go_sem]; try go_ints) | refine sw_block ?_ | refine sw_t ?_ | refine sw_f ?_ | refine sw_e ?_ | refine ai ?_ | simp only [aops, thn, inB, ↓reduceIte, Nat.reduceEqDiff]))
 refine sw_ren 1001 8 (by simp [go_sem]) ?_; refine sw_ren 1002 7 (by simp [go_sem]) ?_; refine sw_restate [(2, .c .nl), (3, .c (.m 7)), (5, .c .nl)] [(7, .m true none (eF F))] ?_ ?_
 ·simp [go_sem, lst, rnM, rnR, one]
 refine sw_weak (le_own 5 1001 1 9 rfl rfl (by decide)) ?_
 (repeat first | refine hku ?_ | refine sw_seqk fun _ _ => ?_ | refine sw_reg ?_ | (refine sw_reg2 ?_; conv in reord _ => simp [reord, freeO]) | ((first | refine aops_k fun _ _ => ?_ | with_reducible refine rw_own ?_); simp [go_sem]; try go_ints) | refine sw_block ?_ | refine sw_t ?_ | refine sw_f ?_ | refine sw_e ?_ | refine ai ?_ | simp only [aops, thn, inB, ↓reduceIte, Nat.reduceEqDiff])
 refine sw_loopv 15 (fun x : List ByteArray × List ByteArray × Option (D × AD) => [(5, .c (.r 1001 x.1.length)), (6, .u)]) (fun x => [(14, .it true 7 (eF x.2.1) x.2.2), (1001, .r true 1 9 (dSs x.1))]) (fun x => (x.1 ++ x.2.1).Perm F) (fun x => x.2.1.length) ([], F, none) (.refl _) ?_ fun ⟨o, rem, la⟩ hp => ?_
 ·simp [go_sem, dSs]
 ·have hol : o.length ≤ F.length := by
   have := hp.length_eq; simp only [List.length_append] at this
   omega
  simp only at hp
  (repeat first | refine hku ?_ | refine sw_seqk fun _ _ => ?_ | refine sw_reg ?_ | (refine sw_reg2 ?_; conv in reord _ => simp [reord, freeO]) | ((first | refine aops_k fun _ _ => ?_ | with_reducible refine rw_own ?_); simp [go_sem]; try go_ints) | refine sw_block ?_ | refine sw_t ?_ | refine sw_f ?_ | refine sw_e ?_ | refine ai ?_ | simp only [aops, thn, inB, ↓reduceIte, Nat.reduceEqDiff])
  refine ⟨fun h => ?_, fun p l1 l2 h => ?_⟩
  ·have hr : rem = [] := by simpa [eF] using h
   subst hr; rw [List.append_nil] at hp; have k2 := hsort o hp
   (repeat ((fail_if_success (first | (show SW _ (Code.region 9 _ _) _ _) | (show SW _ (Code.seq (Code.region 9 _ _) _) _ _))); first | refine hku ?_ | refine sw_seqk fun _ _ => ?_ | refine sw_reg ?_ | (refine sw_reg2 ?_; conv in reord _ => simp [reord, freeO]) | ((first | refine aops_k fun _ _ => ?_ | with_reducible refine rw_own ?_); simp [go_sem]; try go_ints) | refine sw_block ?_ | refine sw_t ?_ | refine sw_f ?_ | refine sw_e ?_ | refine ai ?_ | simp only [aops, thn, inB, ↓reduceIte, Nat.reduceEqDiff]))
   refine sw_restate [(2, .c .nl), (5, .c (.r 1001 o.length))] [(1001, .r true 1 9 (dSs o))] ?_ ?_
   ·simp [go_sem, lst]
   (repeat first | refine hku ?_ | refine sw_seqk fun _ _ => ?_ | refine sw_reg ?_ | (refine sw_reg2 ?_; conv in reord _ => simp [reord, freeO]) | ((first | refine aops_k fun _ _ => ?_ | with_reducible refine rw_own ?_); simp [go_sem]; try go_ints) | refine sw_block ?_ | refine sw_t ?_ | refine sw_f ?_ | refine sw_e ?_ | refine ai ?_ | simp only [aops, thn, inB, ↓reduceIte, Nat.reduceEqDiff])
   refine callM_i k2 ?_; simp [go_sem]
   (repeat first | refine hku ?_ | refine sw_seqk fun _ _ => ?_ | refine sw_reg ?_ | (refine sw_reg2 ?_; conv in reord _ => simp [reord, freeO]) | ((first | refine aops_k fun _ _ => ?_ | with_reducible refine rw_own ?_); simp [go_sem]; try go_ints) | refine sw_block ?_ | refine sw_t ?_ | refine sw_f ?_ | refine sw_e ?_ | refine ai ?_ | simp only [aops, thn, inB, ↓reduceIte, Nat.reduceEqDiff])
   simp [go_sem, dSs_len, bsort_len, hp.length_eq]
  ·obtain ⟨s, r2, rfl, e2, e3, e4⟩ := eF_perm hp h; simp [go_sem, e2]
   (repeat first | refine hku ?_ | refine sw_seqk fun _ _ => ?_ | refine sw_reg ?_ | (refine sw_reg2 ?_; conv in reord _ => simp [reord, freeO]) | ((first | refine aops_k fun _ _ => ?_ | with_reducible refine rw_own ?_); simp [go_sem]; try go_ints) | refine sw_block ?_ | refine sw_t ?_ | refine sw_f ?_ | refine sw_e ?_ | refine ai ?_ | simp only [aops, thn, inB])
   refine ⟨(o ++ [s], r2, some (.s s, .g [])), e3, e4, ?_⟩; simp [go_sem, dSs_snoc]
end Go.Proofs.YtbgifiijjjoebaaGreatDoor
