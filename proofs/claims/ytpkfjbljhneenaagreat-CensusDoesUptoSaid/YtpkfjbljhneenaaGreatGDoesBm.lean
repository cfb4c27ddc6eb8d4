/- riddleref18: Meet, Join, Class, Rest. No conditions. riddleref18.Do, over a shared row (a trial). No conditions. riddleref18: Above. No conditions. riddleref18: Do, all kinds; Build. No conditions. -/
import Derived.Test.YtpkfjbljhneenaaGreatGDoesBl
import Derived.Test.YtpkfjbljhneenaaGreatGDoesBh
namespace Go.Proofs.YtpkfjbljhneenaaGreat
open Go.RowKit

theorem jf_t : jf true = and := rfl
theorem jf_f : jf false = or := rfl
theorem rmeet_v (s o : Ps) (N : Nat) (hN : N ≤ 549755813888) (hs : s.ok N) (ho : o.ok N) (hcl : s.cuts.length + o.cuts.length ≤ 1048576) (hq : Nat.lcm s.per o.per ≤ 4096) :
  Fn Tryz.prog 57 [.g (dS s), .g (dS o)] (.t [aS false false (meetP s o), .c (.i .i64 0)]) := by
 refine Fn.intro' Tryz.func57 [.cell 4 38, .tmp 5] 11 fun _ => ?_
 have k := rjoin_v s o true N hN hs ho hcl hq; unfold meetP; rw [jf_t] at k; generalize joinP and s o (mg s.cuts o.cuts) = r at k ⊢
 (repeat first | refine hku ?_ | refine sw_seqk fun _ _ => ?_ | refine sw_reg ?_ | ((first | refine aops_k fun _ _ => ?_ | with_reducible refine rw_own ?_); simp [go_sem]; try go_ints) | refine sw_block ?_ | refine sw_t ?_ | refine sw_f ?_ | refine sw_e ?_ | refine ai ?_ | simp only [aops, thn, inB, ↓reduceIte, Nat.reduceEqDiff])
 (refine ⟨.v _, k, ?_⟩; simp [go_sem]; (repeat first | refine hku ?_ | refine sw_seqk fun _ _ => ?_ | refine sw_reg ?_ | ((first | refine aops_k fun _ _ => ?_ | with_reducible refine rw_own ?_); simp [go_sem]; try go_ints) | refine sw_block ?_ | refine sw_t ?_ | refine sw_f ?_ | refine sw_e ?_ | refine ai ?_ | simp only [aops, thn, inB, ↓reduceIte, Nat.reduceEqDiff]))
 simp [go_sem]
theorem rmeet_no_v (s o : Ps) (N : Nat) (hs : s.ok N) (ho : o.ok N) (hq : ¬ Nat.lcm s.per o.per ≤ 4096) : Fn Tryz.prog 57 [.g (dS s), .g (dS o)] (.t [.g [.i .i64 0, .nl, .nl], .c (.i .i64 180)]) := by
 refine Fn.intro' Tryz.func57 [.cell 4 38, .tmp 5] 11 fun _ => ?_
 have k := rjoin_no_v s o true N hs ho hq
 (repeat first | refine hku ?_ | refine sw_seqk fun _ _ => ?_ | refine sw_reg ?_ | ((first | refine aops_k fun _ _ => ?_ | with_reducible refine rw_own ?_); simp [go_sem]; try go_ints) | refine sw_block ?_ | refine sw_t ?_ | refine sw_f ?_ | refine sw_e ?_ | refine ai ?_ | simp only [aops, thn, inB, ↓reduceIte, Nat.reduceEqDiff])
 (refine ⟨.v _, k, ?_⟩; simp [go_sem]; (repeat first | refine hku ?_ | refine sw_seqk fun _ _ => ?_ | refine sw_reg ?_ | ((first | refine aops_k fun _ _ => ?_ | with_reducible refine rw_own ?_); simp [go_sem]; try go_ints) | refine sw_block ?_ | refine sw_t ?_ | refine sw_f ?_ | refine sw_e ?_ | refine ai ?_ | simp only [aops, thn, inB, ↓reduceIte, Nat.reduceEqDiff]))
 simp [go_sem]
theorem rjn_v (s o : Ps) (N : Nat) (hN : N ≤ 549755813888) (hs : s.ok N) (ho : o.ok N) (hcl : s.cuts.length + o.cuts.length ≤ 1048576) (hq : Nat.lcm s.per o.per ≤ 4096) :
  Fn Tryz.prog 58 [.g (dS s), .g (dS o)] (.t [aS false false (jnP s o), .c (.i .i64 0)]) := by
 refine Fn.intro' Tryz.func58 [.cell 4 38, .tmp 5] 11 fun _ => ?_
 have k := rjoin_v s o false N hN hs ho hcl hq; unfold jnP; rw [jf_f] at k; generalize joinP or s o (mg s.cuts o.cuts) = r at k ⊢
 (repeat first | refine hku ?_ | refine sw_seqk fun _ _ => ?_ | refine sw_reg ?_ | ((first | refine aops_k fun _ _ => ?_ | with_reducible refine rw_own ?_); simp [go_sem]; try go_ints) | refine sw_block ?_ | refine sw_t ?_ | refine sw_f ?_ | refine sw_e ?_ | refine ai ?_ | simp only [aops, thn, inB, ↓reduceIte, Nat.reduceEqDiff])
 (refine ⟨.v _, k, ?_⟩; simp [go_sem]; (repeat first | refine hku ?_ | refine sw_seqk fun _ _ => ?_ | refine sw_reg ?_ | ((first | refine aops_k fun _ _ => ?_ | with_reducible refine rw_own ?_); simp [go_sem]; try go_ints) | refine sw_block ?_ | refine sw_t ?_ | refine sw_f ?_ | refine sw_e ?_ | refine ai ?_ | simp only [aops, thn, inB, ↓reduceIte, Nat.reduceEqDiff]))
 simp [go_sem]
theorem rjn_no_v (s o : Ps) (N : Nat) (hs : s.ok N) (ho : o.ok N) (hq : ¬ Nat.lcm s.per o.per ≤ 4096) : Fn Tryz.prog 58 [.g (dS s), .g (dS o)] (.t [.g [.i .i64 0, .nl, .nl], .c (.i .i64 180)]) := by
 refine Fn.intro' Tryz.func58 [.cell 4 38, .tmp 5] 11 fun _ => ?_
 have k := rjoin_no_v s o false N hs ho hq
 (repeat first | refine hku ?_ | refine sw_seqk fun _ _ => ?_ | refine sw_reg ?_ | ((first | refine aops_k fun _ _ => ?_ | with_reducible refine rw_own ?_); simp [go_sem]; try go_ints) | refine sw_block ?_ | refine sw_t ?_ | refine sw_f ?_ | refine sw_e ?_ | refine ai ?_ | simp only [aops, thn, inB, ↓reduceIte, Nat.reduceEqDiff])
 (refine ⟨.v _, k, ?_⟩; simp [go_sem]; (repeat first | refine hku ?_ | refine sw_seqk fun _ _ => ?_ | refine sw_reg ?_ | ((first | refine aops_k fun _ _ => ?_ | with_reducible refine rw_own ?_); simp [go_sem]; try go_ints) | refine sw_block ?_ | refine sw_t ?_ | refine sw_f ?_ | refine sw_e ?_ | refine ai ?_ | simp only [aops, thn, inB, ↓reduceIte, Nat.reduceEqDiff]))
 simp [go_sem]
theorem rclass0_v (d r : Z) (h : d.mag.length ≤ 4398046511104) (h0 : d.v = 0) : Fn Tryz.prog 55 [.g (dZ d), .g (dZ r)] (.t [.g [.i .i64 0, .nl, .nl], .c (.i .i64 11)]) := by
 refine Fn.intro' Tryz.func55 [.cell 4 38, .tmp 5] 30 fun _ => ?_
 have k := rsign_v d h; rw [sgn_zero.2 h0] at k
 (repeat first | refine hku ?_ | refine sw_seqk fun _ _ => ?_ | refine sw_reg ?_ | ((first | refine aops_k fun _ _ => ?_ | with_reducible refine rw_own ?_); simp [go_sem]; try go_ints) | refine sw_block ?_ | refine sw_t ?_ | refine sw_f ?_ | refine sw_e ?_ | refine ai ?_ | simp only [aops, thn, inB, ↓reduceIte, Nat.reduceEqDiff])
 (refine ⟨.v _, k, ?_⟩; simp [go_sem]; (repeat first | refine hku ?_ | refine sw_seqk fun _ _ => ?_ | refine sw_reg ?_ | ((first | refine aops_k fun _ _ => ?_ | with_reducible refine rw_own ?_); simp [go_sem]; try go_ints) | refine sw_block ?_ | refine sw_t ?_ | refine sw_f ?_ | refine sw_e ?_ | refine ai ?_ | simp only [aops, thn, inB, ↓reduceIte, Nat.reduceEqDiff]))
 simp [go_sem]
theorem rclassl_v (d r : Z) (h : d.mag.length ≤ 4398046511104) (h0 : d.v ≠ 0) (h1 : ¬ d.v.natAbs ≤ 4096) : Fn Tryz.prog 55 [.g (dZ d), .g (dZ r)] (.t [.g [.i .i64 0, .nl, .nl], .c (.i .i64 180)]) := by
 refine Fn.intro' Tryz.func55 [.cell 4 38, .tmp 5] 30 fun _ => ?_
 have k := rsign_v d h
 have hs : ¬ sgn d.v = 0 := fun e => h0 (sgn_zero.1 e)
 have k2 := rperiod_v d h; rw [decide_eq_false h1] at k2
 (repeat first | refine hku ?_ | refine sw_seqk fun _ _ => ?_ | refine sw_reg ?_ | ((first | refine aops_k fun _ _ => ?_ | with_reducible refine rw_own ?_); simp [go_sem]; try go_ints) | refine sw_block ?_ | refine sw_t ?_ | refine sw_f ?_ | refine sw_e ?_ | refine ai ?_ | simp only [aops, thn, inB, ↓reduceIte, Nat.reduceEqDiff])
 (refine ⟨.v _, k, ?_⟩; simp [go_sem]; (repeat first | refine hku ?_ | refine sw_seqk fun _ _ => ?_ | refine sw_reg ?_ | ((first | refine aops_k fun _ _ => ?_ | with_reducible refine rw_own ?_); simp [go_sem, hs]; try go_ints) | refine sw_block ?_ | refine sw_t ?_ | refine sw_f ?_ | refine sw_e ?_ | refine ai ?_ | simp only [aops, thn, inB, ↓reduceIte, Nat.reduceEqDiff]))
 (refine ⟨.v _, k2, ?_⟩; simp [go_sem]; (repeat first | refine hku ?_ | refine sw_seqk fun _ _ => ?_ | refine sw_reg ?_ | ((first | refine aops_k fun _ _ => ?_ | with_reducible refine rw_own ?_); simp [go_sem]; try go_ints) | refine sw_block ?_ | refine sw_t ?_ | refine sw_f ?_ | refine sw_e ?_ | refine ai ?_ | simp only [aops, thn, inB, ↓reduceIte, Nat.reduceEqDiff]))
 simp [go_sem]
theorem rclass_v (d r : Z) (h : d.mag.length ≤ 4398046511104) (hr : r.mag.length ≤ 274877906943) (h0 : d.v ≠ 0) (h1 : d.v.natAbs ≤ 4096) : Fn Tryz.prog 55 [.g (dZ d), .g (dZ r)] (.t [aS true false (classP d.v.natAbs r.v), .c (.i .i64 0)]) := by
 refine Fn.intro' Tryz.func55 [.cell 4 38, .tmp 5] 30 fun _ => ?_
 have k := rsign_v d h
 have hs : ¬ sgn d.v = 0 := fun e => h0 (sgn_zero.1 e)
 have k2 := rperiod_v d h; rw [decide_eq_true h1, perN_ok h1] at k2
 have hp0 : 0 < d.v.natAbs := by omega
 have k3 := rrest_v r d.v.natAbs hp0 (by omega) hr; obtain ⟨p, hp⟩ : ∃ p, p = d.v.natAbs := ⟨_, rfl⟩; rw [← hp] at k2 k3 hp0 h1 ⊢; have r1 := Int.emod_nonneg r.v (show (p : Int) ≠ 0 by omega); have r2 := Int.emod_lt_of_pos r.v (show (0 : Int) < (p : Int) by omega); obtain ⟨u, hu⟩ : ∃ u : Nat, (u : Int) = r.v % (p : Int) := ⟨(r.v % (p : Int)).toNat, by omega⟩
 have hup : u < p := by omega
 have hul : (r.v % (p : Int)).toNat = u := by omega
 unfold classP; rw [hul]; rw [← hu] at k3; clear hu hul r1 r2 hp; have k4 := rwhole_v ((List.replicate p false).set u true) false (by simp; omega)
 (repeat first | refine hku ?_ | refine sw_seqk fun _ _ => ?_ | refine sw_reg ?_ | ((first | refine aops_k fun _ _ => ?_ | with_reducible refine rw_own ?_); simp [go_sem]; try go_ints) | refine sw_block ?_ | refine sw_t ?_ | refine sw_f ?_ | refine sw_e ?_ | refine ai ?_ | simp only [aops, thn, inB, ↓reduceIte, Nat.reduceEqDiff])
 (refine ⟨.v _, k, ?_⟩; simp [go_sem]; (repeat first | refine hku ?_ | refine sw_seqk fun _ _ => ?_ | refine sw_reg ?_ | ((first | refine aops_k fun _ _ => ?_ | with_reducible refine rw_own ?_); simp [go_sem, hs]; try go_ints) | refine sw_block ?_ | refine sw_t ?_ | refine sw_f ?_ | refine sw_e ?_ | refine ai ?_ | simp only [aops, thn, inB, ↓reduceIte, Nat.reduceEqDiff]))
 (refine ⟨.v _, k2, ?_⟩; simp [go_sem]; (repeat first | refine hku ?_ | refine sw_seqk fun _ _ => ?_ | refine sw_reg ?_ | ((first | refine aops_k fun _ _ => ?_ | with_reducible refine rw_own ?_); simp [go_sem]; try go_ints) | refine sw_block ?_ | refine sw_t ?_ | refine sw_f ?_ | refine sw_e ?_ | refine ai ?_ | simp only [aops, thn, inB, ↓reduceIte, Nat.reduceEqDiff]))
 have e : dB ((List.replicate p false).set u true) = (List.replicate p [D.b false]).set u [D.b true] := by simp [dB, List.map_set]
 rw [e] at k4; refine ⟨.v _, k3, ?_⟩; simp [go_sem]
 (repeat ((fail_if_success (first | (show SW _ (Code.region 8 _ _) _ _) | (show SW _ (Code.seq (Code.region 8 _ _) _) _ _))); first | refine hku ?_ | refine sw_seqk fun _ _ => ?_ | refine sw_reg ?_ | ((first | refine aops_k fun _ _ => ?_ | with_reducible refine rw_own ?_); simp [go_sem, hup]; try go_ints) | refine sw_block ?_ | refine sw_t ?_ | refine sw_f ?_ | refine sw_e ?_ | refine ai ?_ | simp only [aops, thn, inB, ↓reduceIte, Nat.reduceEqDiff]))
 refine sw_frz 22 (by rfl) ?_
 (repeat first | refine hku ?_ | refine sw_seqk fun _ _ => ?_ | refine sw_reg ?_ | ((first | refine aops_k fun _ _ => ?_ | with_reducible refine rw_own ?_); simp [go_sem]; try go_ints) | refine sw_block ?_ | refine sw_t ?_ | refine sw_f ?_ | refine sw_e ?_ | refine ai ?_ | simp only [aops, thn, inB, ↓reduceIte, Nat.reduceEqDiff])
 (refine ⟨.v _, k4, ?_⟩; simp [go_sem]; (repeat first | refine hku ?_ | refine sw_seqk fun _ _ => ?_ | refine sw_reg ?_ | ((first | refine aops_k fun _ _ => ?_ | with_reducible refine rw_own ?_); simp [go_sem]; try go_ints) | refine sw_block ?_ | refine sw_t ?_ | refine sw_f ?_ | refine sw_e ?_ | refine ai ?_ | simp only [aops, thn, inB, ↓reduceIte, Nat.reduceEqDiff]))
 simp [go_sem, List.map_set]
set_option maxHeartbeats 1600000 in
theorem rrest18_v (s : Ps) (N : Nat) (hs : s.ok N) : Fn Tryz.prog 56 [.g (dS s)] (gS false true (restP s)) := by
 refine Fn.intro' Tryz.func56 [.cell 2 38] 51 fun _ => ?_
 have hcl := hs.len; have hrl := hs.rows; have hpl := hs.per1
 have hrow : ∀ i (h : i < s.rows.length), (s.rows[i]).length = s.per := fun i h => hs.row _ (List.getElem_mem h)
 unfold restP
 (repeat first | refine hku ?_ | refine sw_seqk fun _ _ => ?_ | refine sw_reg ?_ | ((first | refine aops_k fun _ _ => ?_ | with_reducible refine rw_own ?_); simp [go_sem]; try go_ints) | refine sw_block ?_ | refine sw_t ?_ | refine sw_f ?_ | refine sw_e ?_ | refine ai ?_ | simp only [aops, thn, inB, ↓reduceIte, Nat.reduceEqDiff])
 refine sw_weak (le_ownx 3 2 1003 1 75 rfl rfl rfl (by decide)) ?_
 refine sw_loopv 4 (fun i : Nat => [(4, .c (.i .i64 (i : Int)))]) (fun i => [(3, .x [.i .i64 (s.per : Int), .r 14 s.cuts.length, .r 1003 i]), (1003, .r true 1 75 (dR ((s.rows.map notL).take i)))]) (fun i => i ≤ s.rows.length) (fun i => s.rows.length - i) 0 (Nat.zero_le _) ?_ fun i hi => ?_
 ·simp [go_sem]
 ·by_cases hlt : i < s.rows.length
  ·have hrl2 := hrow i hlt
   (repeat first | refine hku ?_ | refine sw_seqk fun _ _ => ?_ | refine sw_reg ?_ | ((first | refine aops_k fun _ _ => ?_ | with_reducible refine rw_own ?_); simp [go_sem, hlt]; try go_ints) | refine sw_block ?_ | refine sw_t ?_ | refine sw_f ?_ | refine sw_e ?_ | refine ai ?_ | simp only [aops, thn, inB, ↓reduceIte, Nat.reduceEqDiff])
   refine sw_loopv 6 (fun k : Nat => [(6, .c (.i .i64 (k : Int)))]) (fun k => [(25, .r true 1 4 (dB ((notL s.rows[i]).take k ++ List.replicate (s.per - k) false)))]) (fun k => k ≤ s.per) (fun k => s.per - k) 0 (Nat.zero_le _) ?_ fun k hk => ?_
   ·simp [go_sem]
   ·by_cases hkl : k < s.per
    ·have hkr : k < (s.rows[i]).length := by omega
     have h4 := fill_step (X := dB (notL s.rows[i])) (d := [D.b false]) (n := s.per) (i := k) (by rw [dB_len, notL_len]; omega) (by rw [dB_len, notL_len]; omega); have h5 := fill_at (X := dB (notL s.rows[i])) (d := [D.b false]) (n := s.per) (i := k) (by rw [dB_len, notL_len]; omega) (by rw [dB_len, notL_len]; omega); simp only [dB, notL, List.getElem_map, List.map_map] at h4 h5
     (repeat first | refine hku ?_ | refine sw_seqk fun _ _ => ?_ | refine sw_reg ?_ | ((first | refine aops_k fun _ _ => ?_ | with_reducible refine rw_own ?_); simp [go_sem, hlt, hkl, hkr, notL, h5]; try go_ints) | refine sw_block ?_ | refine sw_t ?_ | refine sw_f ?_ | refine sw_e ?_ | refine ai ?_ | simp only [aops, thn, inB, ↓reduceIte, Nat.reduceEqDiff])
     refine ⟨k + 1, by omega, by omega, ?_⟩; simp [go_sem, notL]; exact h4.symm
    ·have hke : k = s.per := by omega
     have hx : (notL s.rows[i]).take k ++ List.replicate (s.per - k) false = notL s.rows[i] := by rw [hke, Nat.sub_self, List.replicate_zero, List.append_nil, List.take_of_length_le (by rw [notL_len]; omega)]
     simp only [hx]
     (repeat ((fail_if_success (first | (show SW _ (Code.region 11 _ _) _ _) | (show SW _ (Code.seq (Code.region 11 _ _) _) _ _))); first | refine hku ?_ | refine sw_seqk fun _ _ => ?_ | refine sw_reg ?_ | ((first | refine aops_k fun _ _ => ?_ | with_reducible refine rw_own ?_); simp [go_sem, hkl]; try go_ints) | refine sw_block ?_ | refine sw_t ?_ | refine sw_f ?_ | refine sw_e ?_ | refine ai ?_ | simp only [aops, thn, inB, ↓reduceIte, Nat.reduceEqDiff]))
     refine sw_frz 25 (by rfl) ?_
     have hnl : s.per = (notL s.rows[i]).length := by rw [notL_len]; omega
     have hel : s.per = (s.rows[i]).length := by omega
     (repeat first | refine hku ?_ | refine sw_seqk fun _ _ => ?_ | refine sw_reg ?_ | ((first | refine aops_k fun _ _ => ?_ | with_reducible refine rw_own ?_); simp [go_sem, hnl, notL_len]; try go_ints) | refine sw_block ?_ | refine sw_t ?_ | refine sw_f ?_ | refine sw_e ?_ | refine ai ?_ | simp only [aops, thn, inB, ↓reduceIte, Nat.reduceEqDiff])
     refine ⟨i + 1, by omega, by omega, ?_⟩; simp [go_sem]; rw [List.take_succ_eq_append_getElem (by simpa using hlt)]; simp [go_sem]
     refine ⟨?_, ⟨?_, ?_⟩, ?_⟩ <;> omega
  ·(repeat first | refine hku ?_ | refine sw_seqk fun _ _ => ?_ | refine sw_reg ?_ | ((first | refine aops_k fun _ _ => ?_ | with_reducible refine rw_own ?_); simp [go_sem, hlt]; try go_ints) | refine sw_block ?_ | refine sw_t ?_ | refine sw_f ?_ | refine sw_e ?_ | refine ai ?_ | simp only [aops, thn, inB, ↓reduceIte, Nat.reduceEqDiff])
   have : i = s.rows.length := by omega
   simp [go_sem, this, List.take_of_length_le]

end Go.Proofs.YtpkfjbljhneenaaGreat

namespace Go.Proofs.YtpkfjbljhneenaaGreat
open Go.RowKit

def rowM (l : List Ps) : Mem := [(1001, .r false 3 38 (l.map dS))]
set_option maxHeartbeats 1600000 in
theorem rdo4_m (m : Mk) (l : List Ps) (N : Nat) (hl0 : 0 < l.length) (hl : l.length ≤ 13) (hok : ∀ s ∈ l, s.ok N) (i1 : i64 m.kind) (i2 : i64 m.a) (i3 : i64 m.b) (hk : pickN m.kind 8 = 4) :
  FnM Tryz.prog 24 [.g ((dM m).map (toC false)), .c (.r 1001 l.length)] (rowM l) (.t [aS false true (restP (sth l (pickN m.a l.length))), .c (.i .i64 0)]) (rowM l) := by
 refine FnM.intro' Tryz.func24 [.cell 4 38, .tmp 5] 60 fun R hR => ?_
 have k1 := rpick_v m.a i2 l.length hl0 (by omega); have k2 := rpick_v m.b i3 l.length hl0 (by omega); have k3 := rpick_v m.kind i1 8 (by omega) (by omega); rw [hk] at k3; have h1 := pickN_lt m.a hl0; have h2 := pickN_lt m.b hl0; have k4 := rrest18_v (sth l (pickN m.a l.length)) N (hok _ (sth_mem h1)); rw [sth_eq l _ h1] at k4 ⊢; generalize pickN m.a l.length = u at *; generalize pickN m.b l.length = v at *; unfold rowM; have r1 := hR.hi; have r2 := hR.it
 (repeat first | refine hku ?_ | refine sw_seqk fun _ _ => ?_ | refine sw_reg ?_ | ((first | refine aops_k fun _ _ => ?_ | with_reducible refine rw_own ?_); simp [go_sem, r1, dM]; try go_ints) | refine sw_block ?_ | refine sw_t ?_ | refine sw_f ?_ | refine sw_e ?_ | refine ai ?_ | simp only [aops, thn, inB, ↓reduceIte, Nat.reduceEqDiff])
 (refine ⟨.v _, k1, ?_⟩; simp [go_sem]; (repeat first | refine hku ?_ | refine sw_seqk fun _ _ => ?_ | refine sw_reg ?_ | ((first | refine aops_k fun _ _ => ?_ | with_reducible refine rw_own ?_); simp [go_sem, h1, r1]; try go_ints) | refine sw_block ?_ | refine sw_t ?_ | refine sw_f ?_ | refine sw_e ?_ | refine ai ?_ | simp only [aops, thn, inB, ↓reduceIte, Nat.reduceEqDiff]))
 (refine ⟨.v _, k2, ?_⟩; simp [go_sem]; (repeat first | refine hku ?_ | refine sw_seqk fun _ _ => ?_ | refine sw_reg ?_ | ((first | refine aops_k fun _ _ => ?_ | with_reducible refine rw_own ?_); simp [go_sem, h2, r1]; try go_ints) | refine sw_block ?_ | refine sw_t ?_ | refine sw_f ?_ | refine sw_e ?_ | refine ai ?_ | simp only [aops, thn, inB, ↓reduceIte, Nat.reduceEqDiff]))
 (refine ⟨.v _, k3, ?_⟩; simp [go_sem]; (repeat first | refine hku ?_ | refine sw_seqk fun _ _ => ?_ | refine sw_reg ?_ | ((first | refine aops_k fun _ _ => ?_ | with_reducible refine rw_own ?_); simp [go_sem, r1]; try go_ints) | refine sw_block ?_ | refine sw_t ?_ | refine sw_f ?_ | refine sw_e ?_ | refine ai ?_ | simp only [aops, thn, inB, ↓reduceIte, Nat.reduceEqDiff]))
 (refine ⟨.v _, k4, ?_⟩; simp [go_sem]; (repeat first | refine hku ?_ | refine sw_seqk fun _ _ => ?_ | refine sw_reg ?_ | ((first | refine aops_k fun _ _ => ?_ | with_reducible refine rw_own ?_); simp [go_sem, r1]; try go_ints) | refine sw_block ?_ | refine sw_t ?_ | refine sw_f ?_ | refine sw_e ?_ | refine ai ?_ | simp only [aops, thn, inB, ↓reduceIte, Nat.reduceEqDiff]))
 simp [go_sem, hR.no, hR.cm, hR.cb, chkM_up, chkK_self, chkK_up, r1]
 repeat (first | exact hR.cm | refine chkM_up (by first | exact r1 _ (by decide) | exact hR.off _ (by simp [rowM, keys])) ?_)
set_option maxHeartbeats 1600000 in
theorem rdo5_m (m : Mk) (l : List Ps) (N : Nat) (hl0 : 0 < l.length) (hl : l.length ≤ 13) (hok : ∀ s ∈ l, s.ok N) (i1 : i64 m.kind) (i2 : i64 m.a) (i3 : i64 m.b) (hk : pickN m.kind 8 = 5 ∨ pickN m.kind 8 = 6) (hN : N ≤ 549755813888) (hcl : (sth l (pickN m.a l.length)).cuts.length + (sth l (pickN m.b l.length)).cuts.length ≤ 1048576) (hq : Nat.lcm (sth l (pickN m.a l.length)).per (sth l (pickN m.b l.length)).per ≤ 4096) :
  FnM Tryz.prog 24 [.g ((dM m).map (toC false)), .c (.r 1001 l.length)] (rowM l) (.t [aS false false (meetP (sth l (pickN m.a l.length)) (sth l (pickN m.b l.length))), .c (.i .i64 0)]) (rowM l) := by
 refine FnM.intro' Tryz.func24 [.cell 4 38, .tmp 5] 60 fun R hR => ?_
 have k1 := rpick_v m.a i2 l.length hl0 (by omega); have k2 := rpick_v m.b i3 l.length hl0 (by omega); have k3 := rpick_v m.kind i1 8 (by omega) (by omega); have h1 := pickN_lt m.a hl0; have h2 := pickN_lt m.b hl0; have k4 := rmeet_v (sth l (pickN m.a l.length)) (sth l (pickN m.b l.length)) N hN (hok _ (sth_mem h1)) (hok _ (sth_mem h2)) hcl hq; clear hcl hq; rw [sth_eq l _ h1, sth_eq l _ h2] at k4 ⊢; generalize meetP l[pickN m.a l.length] l[pickN m.b l.length] = q at k4 ⊢; generalize pickN m.a l.length = u at *; generalize pickN m.b l.length = v at *; have r1 := hR.hi; have r2 := hR.it; unfold rowM
 rcases hk with hk | hk <;> rw [hk] at k3
 all_goals
  (repeat first | refine hku ?_ | refine sw_seqk fun _ _ => ?_ | refine sw_reg ?_ | ((first | refine aops_k fun _ _ => ?_ | with_reducible refine rw_own ?_); simp [go_sem, r1, dM]; try go_ints) | refine sw_block ?_ | refine sw_t ?_ | refine sw_f ?_ | refine sw_e ?_ | refine ai ?_ | simp only [aops, thn, inB, ↓reduceIte, Nat.reduceEqDiff])
  (refine ⟨.v _, k1, ?_⟩; simp [go_sem]; (repeat first | refine hku ?_ | refine sw_seqk fun _ _ => ?_ | refine sw_reg ?_ | ((first | refine aops_k fun _ _ => ?_ | with_reducible refine rw_own ?_); simp [go_sem, h1, r1]; try go_ints) | refine sw_block ?_ | refine sw_t ?_ | refine sw_f ?_ | refine sw_e ?_ | refine ai ?_ | simp only [aops, thn, inB, ↓reduceIte, Nat.reduceEqDiff]))
  (refine ⟨.v _, k2, ?_⟩; simp [go_sem]; (repeat first | refine hku ?_ | refine sw_seqk fun _ _ => ?_ | refine sw_reg ?_ | ((first | refine aops_k fun _ _ => ?_ | with_reducible refine rw_own ?_); simp [go_sem, h2, r1]; try go_ints) | refine sw_block ?_ | refine sw_t ?_ | refine sw_f ?_ | refine sw_e ?_ | refine ai ?_ | simp only [aops, thn, inB, ↓reduceIte, Nat.reduceEqDiff]))
  (refine ⟨.v _, k3, ?_⟩; simp [go_sem]; (repeat first | refine hku ?_ | refine sw_seqk fun _ _ => ?_ | refine sw_reg ?_ | ((first | refine aops_k fun _ _ => ?_ | with_reducible refine rw_own ?_); simp [go_sem, r1]; try go_ints) | refine sw_block ?_ | refine sw_t ?_ | refine sw_f ?_ | refine sw_e ?_ | refine ai ?_ | simp only [aops, thn, inB, ↓reduceIte, Nat.reduceEqDiff]))
  (refine ⟨.v _, k4, ?_⟩; simp [go_sem]; (repeat first | refine hku ?_ | refine sw_seqk fun _ _ => ?_ | refine sw_reg ?_ | ((first | refine aops_k fun _ _ => ?_ | with_reducible refine rw_own ?_); simp [go_sem, r1]; try go_ints) | refine sw_block ?_ | refine sw_t ?_ | refine sw_f ?_ | refine sw_e ?_ | refine ai ?_ | simp only [aops, thn, inB, ↓reduceIte, Nat.reduceEqDiff]))
  simp [go_sem, hR.no, hR.cm, hR.cb, chkM_up, chkK_self, chkK_up, r1]
  repeat (first | exact hR.cm | refine chkM_up (by first | exact r1 _ (by decide) | exact hR.off _ (by simp [rowM, keys])) ?_)
set_option maxHeartbeats 1600000 in
theorem rdo5n_m (m : Mk) (l : List Ps) (N : Nat) (hl0 : 0 < l.length) (hl : l.length ≤ 13) (hok : ∀ s ∈ l, s.ok N) (i1 : i64 m.kind) (i2 : i64 m.a) (i3 : i64 m.b) (hk : pickN m.kind 8 = 5 ∨ pickN m.kind 8 = 6) (hq : ¬ Nat.lcm (sth l (pickN m.a l.length)).per (sth l (pickN m.b l.length)).per ≤ 4096) :
  FnM Tryz.prog 24 [.g ((dM m).map (toC false)), .c (.r 1001 l.length)] (rowM l) (.t [.g [.i .i64 0, .nl, .nl], .c (.i .i64 180)]) (rowM l) := by
 refine FnM.intro' Tryz.func24 [.cell 4 38, .tmp 5] 60 fun R hR => ?_
 have k1 := rpick_v m.a i2 l.length hl0 (by omega); have k2 := rpick_v m.b i3 l.length hl0 (by omega); have k3 := rpick_v m.kind i1 8 (by omega) (by omega); have h1 := pickN_lt m.a hl0; have h2 := pickN_lt m.b hl0; have k4 := rmeet_no_v (sth l (pickN m.a l.length)) (sth l (pickN m.b l.length)) N (hok _ (sth_mem h1)) (hok _ (sth_mem h2)) hq; clear hq; rw [sth_eq l _ h1, sth_eq l _ h2] at k4; generalize pickN m.a l.length = u at *; generalize pickN m.b l.length = v at *; have r1 := hR.hi; have r2 := hR.it; unfold rowM
 rcases hk with hk | hk <;> rw [hk] at k3
 all_goals
  (repeat first | refine hku ?_ | refine sw_seqk fun _ _ => ?_ | refine sw_reg ?_ | ((first | refine aops_k fun _ _ => ?_ | with_reducible refine rw_own ?_); simp [go_sem, r1, dM]; try go_ints) | refine sw_block ?_ | refine sw_t ?_ | refine sw_f ?_ | refine sw_e ?_ | refine ai ?_ | simp only [aops, thn, inB, ↓reduceIte, Nat.reduceEqDiff])
  (refine ⟨.v _, k1, ?_⟩; simp [go_sem]; (repeat first | refine hku ?_ | refine sw_seqk fun _ _ => ?_ | refine sw_reg ?_ | ((first | refine aops_k fun _ _ => ?_ | with_reducible refine rw_own ?_); simp [go_sem, h1, r1]; try go_ints) | refine sw_block ?_ | refine sw_t ?_ | refine sw_f ?_ | refine sw_e ?_ | refine ai ?_ | simp only [aops, thn, inB, ↓reduceIte, Nat.reduceEqDiff]))
  (refine ⟨.v _, k2, ?_⟩; simp [go_sem]; (repeat first | refine hku ?_ | refine sw_seqk fun _ _ => ?_ | refine sw_reg ?_ | ((first | refine aops_k fun _ _ => ?_ | with_reducible refine rw_own ?_); simp [go_sem, h2, r1]; try go_ints) | refine sw_block ?_ | refine sw_t ?_ | refine sw_f ?_ | refine sw_e ?_ | refine ai ?_ | simp only [aops, thn, inB, ↓reduceIte, Nat.reduceEqDiff]))
  (refine ⟨.v _, k3, ?_⟩; simp [go_sem]; (repeat first | refine hku ?_ | refine sw_seqk fun _ _ => ?_ | refine sw_reg ?_ | ((first | refine aops_k fun _ _ => ?_ | with_reducible refine rw_own ?_); simp [go_sem, r1]; try go_ints) | refine sw_block ?_ | refine sw_t ?_ | refine sw_f ?_ | refine sw_e ?_ | refine ai ?_ | simp only [aops, thn, inB, ↓reduceIte, Nat.reduceEqDiff]))
  (refine ⟨.v _, k4, ?_⟩; simp [go_sem]; (repeat first | refine hku ?_ | refine sw_seqk fun _ _ => ?_ | refine sw_reg ?_ | ((first | refine aops_k fun _ _ => ?_ | with_reducible refine rw_own ?_); simp [go_sem, r1]; try go_ints) | refine sw_block ?_ | refine sw_t ?_ | refine sw_f ?_ | refine sw_e ?_ | refine ai ?_ | simp only [aops, thn, inB, ↓reduceIte, Nat.reduceEqDiff]))
  simp [go_sem, hR.no, hR.cm, hR.cb, chkM_up, chkK_self, chkK_up, r1]
  repeat (first | exact hR.cm | refine chkM_up (by first | exact r1 _ (by decide) | exact hR.off _ (by simp [rowM, keys])) ?_)
set_option maxHeartbeats 1600000 in
theorem rdo7_m (m : Mk) (l : List Ps) (N : Nat) (hl0 : 0 < l.length) (hl : l.length ≤ 13) (hok : ∀ s ∈ l, s.ok N) (i1 : i64 m.kind) (i2 : i64 m.a) (i3 : i64 m.b) (hk : pickN m.kind 8 = 7) (hN : N ≤ 549755813888) (hcl : (sth l (pickN m.a l.length)).cuts.length + (sth l (pickN m.b l.length)).cuts.length ≤ 1048576) (hq : Nat.lcm (sth l (pickN m.a l.length)).per (sth l (pickN m.b l.length)).per ≤ 4096) :
  FnM Tryz.prog 24 [.g ((dM m).map (toC false)), .c (.r 1001 l.length)] (rowM l) (.t [aS false false (jnP (sth l (pickN m.a l.length)) (sth l (pickN m.b l.length))), .c (.i .i64 0)]) (rowM l) := by
 refine FnM.intro' Tryz.func24 [.cell 4 38, .tmp 5] 60 fun R hR => ?_
 have k1 := rpick_v m.a i2 l.length hl0 (by omega); have k2 := rpick_v m.b i3 l.length hl0 (by omega); have k3 := rpick_v m.kind i1 8 (by omega) (by omega); have h1 := pickN_lt m.a hl0; have h2 := pickN_lt m.b hl0; have k4 := rjn_v (sth l (pickN m.a l.length)) (sth l (pickN m.b l.length)) N hN (hok _ (sth_mem h1)) (hok _ (sth_mem h2)) hcl hq; clear hcl hq; rw [sth_eq l _ h1, sth_eq l _ h2] at k4 ⊢; generalize jnP l[pickN m.a l.length] l[pickN m.b l.length] = q at k4 ⊢; generalize pickN m.a l.length = u at *; generalize pickN m.b l.length = v at *; have r1 := hR.hi; have r2 := hR.it; unfold rowM; rw [hk] at k3
 (repeat first | refine hku ?_ | refine sw_seqk fun _ _ => ?_ | refine sw_reg ?_ | ((first | refine aops_k fun _ _ => ?_ | with_reducible refine rw_own ?_); simp [go_sem, r1, dM]; try go_ints) | refine sw_block ?_ | refine sw_t ?_ | refine sw_f ?_ | refine sw_e ?_ | refine ai ?_ | simp only [aops, thn, inB, ↓reduceIte, Nat.reduceEqDiff])
 (refine ⟨.v _, k1, ?_⟩; simp [go_sem]; (repeat first | refine hku ?_ | refine sw_seqk fun _ _ => ?_ | refine sw_reg ?_ | ((first | refine aops_k fun _ _ => ?_ | with_reducible refine rw_own ?_); simp [go_sem, h1, r1]; try go_ints) | refine sw_block ?_ | refine sw_t ?_ | refine sw_f ?_ | refine sw_e ?_ | refine ai ?_ | simp only [aops, thn, inB, ↓reduceIte, Nat.reduceEqDiff]))
 (refine ⟨.v _, k2, ?_⟩; simp [go_sem]; (repeat first | refine hku ?_ | refine sw_seqk fun _ _ => ?_ | refine sw_reg ?_ | ((first | refine aops_k fun _ _ => ?_ | with_reducible refine rw_own ?_); simp [go_sem, h2, r1]; try go_ints) | refine sw_block ?_ | refine sw_t ?_ | refine sw_f ?_ | refine sw_e ?_ | refine ai ?_ | simp only [aops, thn, inB, ↓reduceIte, Nat.reduceEqDiff]))
 (refine ⟨.v _, k3, ?_⟩; simp [go_sem]; (repeat first | refine hku ?_ | refine sw_seqk fun _ _ => ?_ | refine sw_reg ?_ | ((first | refine aops_k fun _ _ => ?_ | with_reducible refine rw_own ?_); simp [go_sem, r1]; try go_ints) | refine sw_block ?_ | refine sw_t ?_ | refine sw_f ?_ | refine sw_e ?_ | refine ai ?_ | simp only [aops, thn, inB, ↓reduceIte, Nat.reduceEqDiff]))
 (refine ⟨.v _, k4, ?_⟩; simp [go_sem]; (repeat first | refine hku ?_ | refine sw_seqk fun _ _ => ?_ | refine sw_reg ?_ | ((first | refine aops_k fun _ _ => ?_ | with_reducible refine rw_own ?_); simp [go_sem, r1]; try go_ints) | refine sw_block ?_ | refine sw_t ?_ | refine sw_f ?_ | refine sw_e ?_ | refine ai ?_ | simp only [aops, thn, inB, ↓reduceIte, Nat.reduceEqDiff]))
 simp [go_sem, hR.no, hR.cm, hR.cb, chkM_up, chkK_self, chkK_up, r1]
 repeat (first | exact hR.cm | refine chkM_up (by first | exact r1 _ (by decide) | exact hR.off _ (by simp [rowM, keys])) ?_)
set_option maxHeartbeats 1600000 in
theorem rdo7n_m (m : Mk) (l : List Ps) (N : Nat) (hl0 : 0 < l.length) (hl : l.length ≤ 13) (hok : ∀ s ∈ l, s.ok N) (i1 : i64 m.kind) (i2 : i64 m.a) (i3 : i64 m.b) (hk : pickN m.kind 8 = 7) (hq : ¬ Nat.lcm (sth l (pickN m.a l.length)).per (sth l (pickN m.b l.length)).per ≤ 4096) :
  FnM Tryz.prog 24 [.g ((dM m).map (toC false)), .c (.r 1001 l.length)] (rowM l) (.t [.g [.i .i64 0, .nl, .nl], .c (.i .i64 180)]) (rowM l) := by
 refine FnM.intro' Tryz.func24 [.cell 4 38, .tmp 5] 60 fun R hR => ?_
 have k1 := rpick_v m.a i2 l.length hl0 (by omega); have k2 := rpick_v m.b i3 l.length hl0 (by omega); have k3 := rpick_v m.kind i1 8 (by omega) (by omega); have h1 := pickN_lt m.a hl0; have h2 := pickN_lt m.b hl0; have k4 := rjn_no_v (sth l (pickN m.a l.length)) (sth l (pickN m.b l.length)) N (hok _ (sth_mem h1)) (hok _ (sth_mem h2)) hq; clear hq; rw [sth_eq l _ h1, sth_eq l _ h2] at k4; generalize pickN m.a l.length = u at *; generalize pickN m.b l.length = v at *; have r1 := hR.hi; have r2 := hR.it; unfold rowM; rw [hk] at k3
 (repeat first | refine hku ?_ | refine sw_seqk fun _ _ => ?_ | refine sw_reg ?_ | ((first | refine aops_k fun _ _ => ?_ | with_reducible refine rw_own ?_); simp [go_sem, r1, dM]; try go_ints) | refine sw_block ?_ | refine sw_t ?_ | refine sw_f ?_ | refine sw_e ?_ | refine ai ?_ | simp only [aops, thn, inB, ↓reduceIte, Nat.reduceEqDiff])
 (refine ⟨.v _, k1, ?_⟩; simp [go_sem]; (repeat first | refine hku ?_ | refine sw_seqk fun _ _ => ?_ | refine sw_reg ?_ | ((first | refine aops_k fun _ _ => ?_ | with_reducible refine rw_own ?_); simp [go_sem, h1, r1]; try go_ints) | refine sw_block ?_ | refine sw_t ?_ | refine sw_f ?_ | refine sw_e ?_ | refine ai ?_ | simp only [aops, thn, inB, ↓reduceIte, Nat.reduceEqDiff]))
 (refine ⟨.v _, k2, ?_⟩; simp [go_sem]; (repeat first | refine hku ?_ | refine sw_seqk fun _ _ => ?_ | refine sw_reg ?_ | ((first | refine aops_k fun _ _ => ?_ | with_reducible refine rw_own ?_); simp [go_sem, h2, r1]; try go_ints) | refine sw_block ?_ | refine sw_t ?_ | refine sw_f ?_ | refine sw_e ?_ | refine ai ?_ | simp only [aops, thn, inB, ↓reduceIte, Nat.reduceEqDiff]))
 (refine ⟨.v _, k3, ?_⟩; simp [go_sem]; (repeat first | refine hku ?_ | refine sw_seqk fun _ _ => ?_ | refine sw_reg ?_ | ((first | refine aops_k fun _ _ => ?_ | with_reducible refine rw_own ?_); simp [go_sem, r1]; try go_ints) | refine sw_block ?_ | refine sw_t ?_ | refine sw_f ?_ | refine sw_e ?_ | refine ai ?_ | simp only [aops, thn, inB, ↓reduceIte, Nat.reduceEqDiff]))
 (refine ⟨.v _, k4, ?_⟩; simp [go_sem]; (repeat first | refine hku ?_ | refine sw_seqk fun _ _ => ?_ | refine sw_reg ?_ | ((first | refine aops_k fun _ _ => ?_ | with_reducible refine rw_own ?_); simp [go_sem, r1]; try go_ints) | refine sw_block ?_ | refine sw_t ?_ | refine sw_f ?_ | refine sw_e ?_ | refine ai ?_ | simp only [aops, thn, inB, ↓reduceIte, Nat.reduceEqDiff]))
 simp [go_sem, hR.no, hR.cm, hR.cb, chkM_up, chkK_self, chkK_up, r1]
 repeat (first | exact hR.cm | refine chkM_up (by first | exact r1 _ (by decide) | exact hR.off _ (by simp [rowM, keys])) ?_)
set_option maxHeartbeats 1600000 in
theorem rdo2z_m (m : Mk) (l : List Ps) (hl0 : 0 < l.length) (hl : l.length ≤ 13) (i1 : i64 m.kind) (i2 : i64 m.a) (i3 : i64 m.b) (hk : pickN m.kind 8 = 2 ∨ pickN m.kind 8 = 3) (hd : m.d.mag.length ≤ 4398046511104) (h0 : m.d.v = 0) :
  FnM Tryz.prog 24 [.g ((dM m).map (toC false)), .c (.r 1001 l.length)] (rowM l) (.t [.g [.i .i64 0, .nl, .nl], .c (.i .i64 11)]) (rowM l) := by
 refine FnM.intro' Tryz.func24 [.cell 4 38, .tmp 5] 60 fun R hR => ?_
 have k1 := rpick_v m.a i2 l.length hl0 (by omega); have k2 := rpick_v m.b i3 l.length hl0 (by omega); have k3 := rpick_v m.kind i1 8 (by omega) (by omega); have h1 := pickN_lt m.a hl0; have h2 := pickN_lt m.b hl0; have k4 := rclass0_v m.d m.k hd h0; generalize pickN m.a l.length = u at *; generalize pickN m.b l.length = v at *; have r1 := hR.hi; have r2 := hR.it; unfold rowM
 rcases hk with hk | hk <;> rw [hk] at k3
 all_goals
  (repeat first | refine hku ?_ | refine sw_seqk fun _ _ => ?_ | refine sw_reg ?_ | ((first | refine aops_k fun _ _ => ?_ | with_reducible refine rw_own ?_); simp [go_sem, r1, dM]; try go_ints) | refine sw_block ?_ | refine sw_t ?_ | refine sw_f ?_ | refine sw_e ?_ | refine ai ?_ | simp only [aops, thn, inB, ↓reduceIte, Nat.reduceEqDiff])
  (refine ⟨.v _, k1, ?_⟩; simp [go_sem]; (repeat first | refine hku ?_ | refine sw_seqk fun _ _ => ?_ | refine sw_reg ?_ | ((first | refine aops_k fun _ _ => ?_ | with_reducible refine rw_own ?_); simp [go_sem, h1, r1]; try go_ints) | refine sw_block ?_ | refine sw_t ?_ | refine sw_f ?_ | refine sw_e ?_ | refine ai ?_ | simp only [aops, thn, inB, ↓reduceIte, Nat.reduceEqDiff]))
  (refine ⟨.v _, k2, ?_⟩; simp [go_sem]; (repeat first | refine hku ?_ | refine sw_seqk fun _ _ => ?_ | refine sw_reg ?_ | ((first | refine aops_k fun _ _ => ?_ | with_reducible refine rw_own ?_); simp [go_sem, h2, r1]; try go_ints) | refine sw_block ?_ | refine sw_t ?_ | refine sw_f ?_ | refine sw_e ?_ | refine ai ?_ | simp only [aops, thn, inB, ↓reduceIte, Nat.reduceEqDiff]))
  (refine ⟨.v _, k3, ?_⟩; simp [go_sem]; (repeat first | refine hku ?_ | refine sw_seqk fun _ _ => ?_ | refine sw_reg ?_ | ((first | refine aops_k fun _ _ => ?_ | with_reducible refine rw_own ?_); simp [go_sem, r1]; try go_ints) | refine sw_block ?_ | refine sw_t ?_ | refine sw_f ?_ | refine sw_e ?_ | refine ai ?_ | simp only [aops, thn, inB, ↓reduceIte, Nat.reduceEqDiff]))
  (refine ⟨.v _, k4, ?_⟩; simp [go_sem]; (repeat first | refine hku ?_ | refine sw_seqk fun _ _ => ?_ | refine sw_reg ?_ | ((first | refine aops_k fun _ _ => ?_ | with_reducible refine rw_own ?_); simp [go_sem, r1]; try go_ints) | refine sw_block ?_ | refine sw_t ?_ | refine sw_f ?_ | refine sw_e ?_ | refine ai ?_ | simp only [aops, thn, inB, ↓reduceIte, Nat.reduceEqDiff]))
  simp [go_sem, hR.no, hR.cm, hR.cb, chkM_up, chkK_self, chkK_up, r1]
  repeat (first | exact hR.cm | refine chkM_up (by first | exact r1 _ (by decide) | exact hR.off _ (by simp [rowM, keys])) ?_)
set_option maxHeartbeats 1600000 in
theorem rdo2l_m (m : Mk) (l : List Ps) (hl0 : 0 < l.length) (hl : l.length ≤ 13) (i1 : i64 m.kind) (i2 : i64 m.a) (i3 : i64 m.b) (hk : pickN m.kind 8 = 2 ∨ pickN m.kind 8 = 3) (hd : m.d.mag.length ≤ 4398046511104) (h0 : m.d.v ≠ 0) (hp : ¬ m.d.v.natAbs ≤ 4096) :
  FnM Tryz.prog 24 [.g ((dM m).map (toC false)), .c (.r 1001 l.length)] (rowM l) (.t [.g [.i .i64 0, .nl, .nl], .c (.i .i64 180)]) (rowM l) := by
 refine FnM.intro' Tryz.func24 [.cell 4 38, .tmp 5] 60 fun R hR => ?_
 have k1 := rpick_v m.a i2 l.length hl0 (by omega); have k2 := rpick_v m.b i3 l.length hl0 (by omega); have k3 := rpick_v m.kind i1 8 (by omega) (by omega); have h1 := pickN_lt m.a hl0; have h2 := pickN_lt m.b hl0; have k4 := rclassl_v m.d m.k hd h0 hp; generalize pickN m.a l.length = u at *; generalize pickN m.b l.length = v at *; have r1 := hR.hi; have r2 := hR.it; unfold rowM
 rcases hk with hk | hk <;> rw [hk] at k3
 all_goals
  (repeat first | refine hku ?_ | refine sw_seqk fun _ _ => ?_ | refine sw_reg ?_ | ((first | refine aops_k fun _ _ => ?_ | with_reducible refine rw_own ?_); simp [go_sem, r1, dM]; try go_ints) | refine sw_block ?_ | refine sw_t ?_ | refine sw_f ?_ | refine sw_e ?_ | refine ai ?_ | simp only [aops, thn, inB, ↓reduceIte, Nat.reduceEqDiff])
  (refine ⟨.v _, k1, ?_⟩; simp [go_sem]; (repeat first | refine hku ?_ | refine sw_seqk fun _ _ => ?_ | refine sw_reg ?_ | ((first | refine aops_k fun _ _ => ?_ | with_reducible refine rw_own ?_); simp [go_sem, h1, r1]; try go_ints) | refine sw_block ?_ | refine sw_t ?_ | refine sw_f ?_ | refine sw_e ?_ | refine ai ?_ | simp only [aops, thn, inB, ↓reduceIte, Nat.reduceEqDiff]))
  (refine ⟨.v _, k2, ?_⟩; simp [go_sem]; (repeat first | refine hku ?_ | refine sw_seqk fun _ _ => ?_ | refine sw_reg ?_ | ((first | refine aops_k fun _ _ => ?_ | with_reducible refine rw_own ?_); simp [go_sem, h2, r1]; try go_ints) | refine sw_block ?_ | refine sw_t ?_ | refine sw_f ?_ | refine sw_e ?_ | refine ai ?_ | simp only [aops, thn, inB, ↓reduceIte, Nat.reduceEqDiff]))
  (refine ⟨.v _, k3, ?_⟩; simp [go_sem]; (repeat first | refine hku ?_ | refine sw_seqk fun _ _ => ?_ | refine sw_reg ?_ | ((first | refine aops_k fun _ _ => ?_ | with_reducible refine rw_own ?_); simp [go_sem, r1]; try go_ints) | refine sw_block ?_ | refine sw_t ?_ | refine sw_f ?_ | refine sw_e ?_ | refine ai ?_ | simp only [aops, thn, inB, ↓reduceIte, Nat.reduceEqDiff]))
  (refine ⟨.v _, k4, ?_⟩; simp [go_sem]; (repeat first | refine hku ?_ | refine sw_seqk fun _ _ => ?_ | refine sw_reg ?_ | ((first | refine aops_k fun _ _ => ?_ | with_reducible refine rw_own ?_); simp [go_sem, r1]; try go_ints) | refine sw_block ?_ | refine sw_t ?_ | refine sw_f ?_ | refine sw_e ?_ | refine ai ?_ | simp only [aops, thn, inB, ↓reduceIte, Nat.reduceEqDiff]))
  simp [go_sem, hR.no, hR.cm, hR.cb, chkM_up, chkK_self, chkK_up, r1]
  repeat (first | exact hR.cm | refine chkM_up (by first | exact r1 _ (by decide) | exact hR.off _ (by simp [rowM, keys])) ?_)
set_option maxHeartbeats 1600000 in
theorem rdo2_m (m : Mk) (l : List Ps) (hl0 : 0 < l.length) (hl : l.length ≤ 13) (i1 : i64 m.kind) (i2 : i64 m.a) (i3 : i64 m.b) (hk : pickN m.kind 8 = 2 ∨ pickN m.kind 8 = 3) (hd : m.d.mag.length ≤ 4398046511104) (hr : m.k.mag.length ≤ 274877906943) (h0 : m.d.v ≠ 0) (hp : m.d.v.natAbs ≤ 4096) :
  FnM Tryz.prog 24 [.g ((dM m).map (toC false)), .c (.r 1001 l.length)] (rowM l) (.t [aS true false (classP m.d.v.natAbs m.k.v), .c (.i .i64 0)]) (rowM l) := by
 refine FnM.intro' Tryz.func24 [.cell 4 38, .tmp 5] 60 fun R hR => ?_
 have k1 := rpick_v m.a i2 l.length hl0 (by omega); have k2 := rpick_v m.b i3 l.length hl0 (by omega); have k3 := rpick_v m.kind i1 8 (by omega) (by omega); have h1 := pickN_lt m.a hl0; have h2 := pickN_lt m.b hl0; have k4 := rclass_v m.d m.k hd hr h0 hp; clear hp; generalize classP m.d.v.natAbs m.k.v = q at *; generalize pickN m.a l.length = u at *; generalize pickN m.b l.length = v at *; have r1 := hR.hi; have r2 := hR.it; unfold rowM
 rcases hk with hk | hk <;> rw [hk] at k3
 all_goals
  (repeat first | refine hku ?_ | refine sw_seqk fun _ _ => ?_ | refine sw_reg ?_ | ((first | refine aops_k fun _ _ => ?_ | with_reducible refine rw_own ?_); simp [go_sem, r1, dM]; try go_ints) | refine sw_block ?_ | refine sw_t ?_ | refine sw_f ?_ | refine sw_e ?_ | refine ai ?_ | simp only [aops, thn, inB, ↓reduceIte, Nat.reduceEqDiff])
  (refine ⟨.v _, k1, ?_⟩; simp [go_sem]; (repeat first | refine hku ?_ | refine sw_seqk fun _ _ => ?_ | refine sw_reg ?_ | ((first | refine aops_k fun _ _ => ?_ | with_reducible refine rw_own ?_); simp [go_sem, h1, r1]; try go_ints) | refine sw_block ?_ | refine sw_t ?_ | refine sw_f ?_ | refine sw_e ?_ | refine ai ?_ | simp only [aops, thn, inB, ↓reduceIte, Nat.reduceEqDiff]))
  (refine ⟨.v _, k2, ?_⟩; simp [go_sem]; (repeat first | refine hku ?_ | refine sw_seqk fun _ _ => ?_ | refine sw_reg ?_ | ((first | refine aops_k fun _ _ => ?_ | with_reducible refine rw_own ?_); simp [go_sem, h2, r1]; try go_ints) | refine sw_block ?_ | refine sw_t ?_ | refine sw_f ?_ | refine sw_e ?_ | refine ai ?_ | simp only [aops, thn, inB, ↓reduceIte, Nat.reduceEqDiff]))
  (refine ⟨.v _, k3, ?_⟩; simp [go_sem]; (repeat first | refine hku ?_ | refine sw_seqk fun _ _ => ?_ | refine sw_reg ?_ | ((first | refine aops_k fun _ _ => ?_ | with_reducible refine rw_own ?_); simp [go_sem, r1]; try go_ints) | refine sw_block ?_ | refine sw_t ?_ | refine sw_f ?_ | refine sw_e ?_ | refine ai ?_ | simp only [aops, thn, inB, ↓reduceIte, Nat.reduceEqDiff]))
  (refine ⟨.v _, k4, ?_⟩; simp [go_sem]; (repeat first | refine hku ?_ | refine sw_seqk fun _ _ => ?_ | refine sw_reg ?_ | ((first | refine aops_k fun _ _ => ?_ | with_reducible refine rw_own ?_); simp [go_sem, r1]; try go_ints) | refine sw_block ?_ | refine sw_t ?_ | refine sw_f ?_ | refine sw_e ?_ | refine ai ?_ | simp only [aops, thn, inB, ↓reduceIte, Nat.reduceEqDiff]))
  simp [go_sem, hR.no, hR.cm, hR.cb, chkM_up, chkK_self, chkK_up, r1]
  repeat (first | exact hR.cm | refine chkM_up (by first | exact r1 _ (by decide) | exact hR.off _ (by simp [rowM, keys])) ?_)

end Go.Proofs.YtpkfjbljhneenaaGreat

namespace Go.Proofs.YtpkfjbljhneenaaGreat
open Go.RowKit

set_option maxHeartbeats 800000 in
theorem rabove_v (k : Z) (hk : k.mag.length ≤ 1099511627776) : Fn Tryz.prog 54 [.g (dZ k)] (gS true true (aboveP k.v)) := by
 refine Fn.intro' Tryz.func54 [.cell 2 38] 13 fun _ => ?_
 have k1 := rof_v 1 ⟨by omega, by omega⟩; have k2 := radd_v k (cz 1) hk (by decide); rw [cz_v] at k2; unfold aboveP; generalize cz (k.v + 1) = z at k2 ⊢; generalize cz 1 = o at k1 k2
 (repeat first | refine hku ?_ | refine sw_seqk fun _ _ => ?_ | refine sw_reg ?_ | ((first | refine aops_k fun _ _ => ?_ | with_reducible refine rw_own ?_); simp [go_sem]; try go_ints) | refine sw_block ?_ | refine sw_t ?_ | refine sw_f ?_ | refine sw_e ?_ | refine ai ?_ | simp only [aops, thn, inB, ↓reduceIte, Nat.reduceEqDiff])
 (refine ⟨.v _, k1, ?_⟩; simp [go_sem]; (repeat first | refine hku ?_ | refine sw_seqk fun _ _ => ?_ | refine sw_reg ?_ | ((first | refine aops_k fun _ _ => ?_ | with_reducible refine rw_own ?_); simp [go_sem]; try go_ints) | refine sw_block ?_ | refine sw_t ?_ | refine sw_f ?_ | refine sw_e ?_ | refine ai ?_ | simp only [aops, thn, inB, ↓reduceIte, Nat.reduceEqDiff]))
 (refine ⟨.v _, k2, ?_⟩; simp [go_sem]; (repeat first | refine hku ?_ | refine sw_seqk fun _ _ => ?_ | refine sw_reg ?_ | ((first | refine aops_k fun _ _ => ?_ | with_reducible refine rw_dat ?_); simp [go_sem]; try go_ints) | refine sw_block ?_ | refine sw_t ?_ | refine sw_f ?_ | refine sw_e ?_ | refine ai ?_ | simp only [aops, thn, inB, ↓reduceIte, Nat.reduceEqDiff]))
 simp [go_sem]

end Go.Proofs.YtpkfjbljhneenaaGreat

namespace Go.Proofs.YtpkfjbljhneenaaGreat
open Go.RowKit

theorem FnM.le {P : Program} {f : FuncId} {al : List SV} {m0 m1 : Mem} {r r' : SV} (h : FnM P f al m0 r m1) (k : ∀ (c : Cx) (m : Mem) (w : World) (v : Value), RelR c m w v r → RelR c m w v r') : FnM P f al m0 r' m1 := fun R hR w0 c w vs h1 h2 => (h R hR w0 c w vs h1 h2).mono fun _ _ ⟨v, c', e1, e2, e3⟩ => ⟨v, c', e1, e2, k _ _ _ _ e3⟩
theorem aS_le {f g : Bool} {s : Ps} {y : AV} {c : Cx} {m : Mem} {w : World} {v : Value} (h : RelR c m w v (.t [aS f g s, y])) : RelR c m w v (.t [aS false false s, y]) := by
 obtain ⟨vs, e, h⟩ := h; refine ⟨vs, e, ?_⟩; generalize vs.toList = lv at h
 cases h with
 | cons h1 h2 =>
  refine .cons ?_ h2; obtain ⟨us, e, h1⟩ := h1; refine ⟨us, e, ?_⟩; generalize us.toList = lu at h1
  cases h1 with
  | cons q1 h1 =>
   cases h1 with
   | cons q2 h1 =>
    cases h1 with
    | cons q3 h1 => exact .cons q1 (.cons (Rp.le q2 (fun h => by cases h)) (.cons (Rp.le q3 (fun h => by cases h)) h1))
set_option maxHeartbeats 1600000 in
theorem rdo0_m (m : Mk) (l : List Ps) (hl0 : 0 < l.length) (hl : l.length ≤ 13) (i1 : i64 m.kind) (i2 : i64 m.a) (i3 : i64 m.b) (hk : pickN m.kind 8 = 0 ∨ pickN m.kind 8 = 1) (hs : m.k.mag.length ≤ 1099511627776) :
  FnM Tryz.prog 24 [.g ((dM m).map (toC false)), .c (.r 1001 l.length)] (rowM l) (.t [aS true true (aboveP m.k.v), .c (.i .i64 0)]) (rowM l) := by
 refine FnM.intro' Tryz.func24 [.cell 4 38, .tmp 5] 60 fun R hR => ?_
 have k1 := rpick_v m.a i2 l.length hl0 (by omega); have k2 := rpick_v m.b i3 l.length hl0 (by omega); have k3 := rpick_v m.kind i1 8 (by omega) (by omega); have h1 := pickN_lt m.a hl0; have h2 := pickN_lt m.b hl0; have k4 := rabove_v m.k hs; generalize aboveP m.k.v = q at *; generalize pickN m.a l.length = u at *; generalize pickN m.b l.length = v at *; have r1 := hR.hi; have r2 := hR.it; unfold rowM
 rcases hk with hk | hk <;> rw [hk] at k3
 all_goals
  (repeat first | refine hku ?_ | refine sw_seqk fun _ _ => ?_ | refine sw_reg ?_ | ((first | refine aops_k fun _ _ => ?_ | with_reducible refine rw_own ?_); simp [go_sem, r1, dM]; try go_ints) | refine sw_block ?_ | refine sw_t ?_ | refine sw_f ?_ | refine sw_e ?_ | refine ai ?_ | simp only [aops, thn, inB, ↓reduceIte, Nat.reduceEqDiff])
  (refine ⟨.v _, k1, ?_⟩; simp [go_sem]; (repeat first | refine hku ?_ | refine sw_seqk fun _ _ => ?_ | refine sw_reg ?_ | ((first | refine aops_k fun _ _ => ?_ | with_reducible refine rw_own ?_); simp [go_sem, h1, r1]; try go_ints) | refine sw_block ?_ | refine sw_t ?_ | refine sw_f ?_ | refine sw_e ?_ | refine ai ?_ | simp only [aops, thn, inB, ↓reduceIte, Nat.reduceEqDiff]))
  (refine ⟨.v _, k2, ?_⟩; simp [go_sem]; (repeat first | refine hku ?_ | refine sw_seqk fun _ _ => ?_ | refine sw_reg ?_ | ((first | refine aops_k fun _ _ => ?_ | with_reducible refine rw_own ?_); simp [go_sem, h2, r1]; try go_ints) | refine sw_block ?_ | refine sw_t ?_ | refine sw_f ?_ | refine sw_e ?_ | refine ai ?_ | simp only [aops, thn, inB, ↓reduceIte, Nat.reduceEqDiff]))
  (refine ⟨.v _, k3, ?_⟩; simp [go_sem]; (repeat first | refine hku ?_ | refine sw_seqk fun _ _ => ?_ | refine sw_reg ?_ | ((first | refine aops_k fun _ _ => ?_ | with_reducible refine rw_own ?_); simp [go_sem, r1]; try go_ints) | refine sw_block ?_ | refine sw_t ?_ | refine sw_f ?_ | refine sw_e ?_ | refine ai ?_ | simp only [aops, thn, inB, ↓reduceIte, Nat.reduceEqDiff]))
  (refine ⟨.v _, k4, ?_⟩; simp [go_sem]; (repeat first | refine hku ?_ | refine sw_seqk fun _ _ => ?_ | refine sw_reg ?_ | ((first | refine aops_k fun _ _ => ?_ | with_reducible refine rw_own ?_); simp [go_sem, r1]; try go_ints) | refine sw_block ?_ | refine sw_t ?_ | refine sw_f ?_ | refine sw_e ?_ | refine ai ?_ | simp only [aops, thn, inB, ↓reduceIte, Nat.reduceEqDiff]))
  simp [go_sem, hR.no, hR.cm, hR.cb, chkM_up, chkK_self, chkK_up, r1]
  repeat (first | exact hR.cm | refine chkM_up (by first | exact r1 _ (by decide) | exact hR.off _ (by simp [rowM, keys])) ?_)
def doA (m : Mk) (l : List Ps) : SV := match doF m l with
 | .ok s => .t [aS false false s, .c (.i .i64 0)]
 | .error e => .t [.g [.i .i64 0, .nl, .nl], .c (.i .i64 e)]
theorem rdo_m (m : Mk) (l : List Ps) (N j : Nat) (hl : LOk N j l) (hj : j ≤ 12) (hN : N ≤ 549755813888) (i1 : i64 m.kind) (i2 : i64 m.a) (i3 : i64 m.b) (hd : m.d.mag.length ≤ 4398046511104) (hr : m.k.mag.length ≤ 274877906943) :
  FnM Tryz.prog 24 [.g ((dM m).map (toC false)), .c (.r 1001 l.length)] (rowM l) (doA m l) (rowM l) := by
 have h4 : 2 ^ j ≤ 4096 := Nat.pow_le_pow_right (by omega) (show j ≤ 12 from hj)
 have ma := sth_mem (pickN_lt m.a hl.pos); have mb := sth_mem (pickN_lt m.b hl.pos)
 have ca := hl.cut _ ma; have cb := hl.cut _ mb
 have hp := hl.pos; have hlen := hl.len; have hk8 : pickN m.kind 8 < 8 := pickN_lt m.kind (by omega); unfold doA doF
 by_cases c1 : pickN m.kind 8 ≤ 1
 ·rw [if_pos c1]
  exact (rdo0_m m l hp (by omega) i1 i2 i3 (by omega) (by omega)).le fun _ _ _ _ => aS_le
 ·rw [if_neg c1]
  by_cases c2 : pickN m.kind 8 ≤ 3
  ·rw [if_pos c2]
   by_cases c3 : m.d.v = 0
   ·rw [if_pos c3]; exact rdo2z_m m l hp (by omega) i1 i2 i3 (by omega) hd c3
   ·rw [if_neg c3]
    by_cases c4 : m.d.v.natAbs ≤ 4096
    ·rw [if_pos c4]
     exact (rdo2_m m l hp (by omega) i1 i2 i3 (by omega) hd hr c3 c4).le fun _ _ _ _ => aS_le
    ·rw [if_neg c4]; exact rdo2l_m m l hp (by omega) i1 i2 i3 (by omega) hd c3 c4
  ·rw [if_neg c2]
   by_cases c3 : pickN m.kind 8 = 4
   ·rw [if_pos c3]
    exact (rdo4_m m l N hp (by omega) hl.ok i1 i2 i3 c3).le fun _ _ _ _ => aS_le
   ·rw [if_neg c3]
    by_cases c4 : Nat.lcm (sth l (pickN m.a l.length)).per (sth l (pickN m.b l.length)).per ≤ 4096
    ·rw [if_pos c4]
     by_cases c5 : pickN m.kind 8 ≤ 6
     ·rw [if_pos c5]; exact rdo5_m m l N hp (by omega) hl.ok i1 i2 i3 (by omega) hN (by omega) c4
     ·rw [if_neg c5]; exact rdo7_m m l N hp (by omega) hl.ok i1 i2 i3 (by omega) hN (by omega) c4
    ·rw [if_neg c4]
     by_cases c5 : pickN m.kind 8 ≤ 6
     ·exact rdo5n_m m l N hp (by omega) hl.ok i1 i2 i3 (by omega) c4
     ·exact rdo7n_m m l N hp (by omega) hl.ok i1 i2 i3 (by omega) c4
theorem doF_err {m : Mk} {l : List Ps} {e : Int} (h : doF m l = .error e) : ¬ e = 0 := by
 unfold doF at h
 split at h
 ·cases h
 ·split at h
  ·split at h
   ·injection h with h; omega
   ·split at h
    ·cases h
    ·injection h with h; omega
  ·split at h
   ·cases h
   ·split at h
    ·cases h
    ·injection h with h; omega
set_option maxHeartbeats 3200000 in
theorem rbuild_v (ms : List Mk) (N : Nat) (hN : 1 ≤ N) (hN2 : N ≤ 4294967296) (hsz : ∀ m ∈ ms, m.sz N) (hz : ∀ m ∈ ms, zl (m.k.v + 1) ≤ N + 1) (hlen : ms.length ≤ 9223372036854775807) :
  Fn Tryz.prog 5 [.c (.l (ms.map dM))] (.c (.l false ((buildF ms).map dS))) := by
 refine Fn.intro' Tryz.func5 [.tmp 2] 35 fun _ => ?_
 have k0 := rnone_v
 obtain ⟨bk, hbk⟩ : ∃ bk : Nat → List Ps, bk = fun k => (ms.take k).foldl addF [noneP] := ⟨_, rfl⟩
 have hb0 : bk 0 = [noneP] := by rw [hbk]; rfl
 have hok : ∀ k, k ≤ ms.length → k ≤ 12 → LOk (N + 1) k (bk k) := fun k h1 h2 => by rw [hbk]; exact buildK_ok hz h1 h2
 have hst : ∀ k (h : k < ms.length), bk (k + 1) = addF (bk k) ms[k] := fun k h => by rw [hbk]; exact buildF_step h
 have hend : ∀ k, k ≤ ms.length → k ≤ 12 → ¬ (k < ms.length ∧ k < 12) → buildF ms = bk k := fun k h1 h2 h3 => by
  rw [hbk]; unfold buildF
  by_cases h : k = 12
  ·rw [h]
  ·have h2 : k = ms.length := by omega
   simp only; rw [List.take_of_length_le (by omega), List.take_of_length_le (by omega)]
 have hdo : ∀ k (h : k < ms.length), k ≤ 12 → FnM Tryz.prog 24 [.g ((dM ms[k]).map (toC false)), .c (.r 1001 (bk k).length)] (rowM (bk k)) (doA ms[k] (bk k)) (rowM (bk k)) := fun k h h12 => by
  obtain ⟨q1, q2, q3, q4, q5⟩ := hsz _ (List.getElem_mem h); exact rdo_m _ _ (N + 1) k (hok k (by omega) h12) h12 (by omega) q1 q2 q3 (by omega) (by omega)
 generalize hB : buildF ms = B at hend ⊢; clear hB hbk
 (repeat first | refine hku ?_ | refine sw_seqk fun _ _ => ?_ | refine sw_reg ?_ | ((first | refine aops_k fun _ _ => ?_ | with_reducible refine rw_own ?_); simp [go_sem]; try go_ints) | refine sw_block ?_ | refine sw_t ?_ | refine sw_f ?_ | refine sw_e ?_ | refine ai ?_ | simp only [aops, thn, inB, ↓reduceIte, Nat.reduceEqDiff])
 (refine ⟨.v _, k0, ?_⟩; simp [go_sem]; (repeat ((fail_if_success (first | (show SW _ (Code.region 2 _ _) _ _) | (show SW _ (Code.seq (Code.region 2 _ _) _) _ _))); first | refine hku ?_ | refine sw_seqk fun _ _ => ?_ | refine sw_reg ?_ | ((first | refine aops_k fun _ _ => ?_ | with_reducible refine rw_own ?_); simp [go_sem]; try go_ints) | refine sw_block ?_ | refine sw_t ?_ | refine sw_f ?_ | refine sw_e ?_ | refine ai ?_ | simp only [aops, thn, inB, ↓reduceIte, Nat.reduceEqDiff])))
 refine sw_ren 8 1001 (by simp [go_sem]) ?_; refine sw_restate [(0, .c (.l false (ms.map dM))), (2, .c .nl), (3, .c (.r 1001 1))] [(1001, .r true 3 38 [dS noneP])] ?_ ?_
 ·simp [go_sem, lst]
 (repeat first | refine hku ?_ | refine sw_seqk fun _ _ => ?_ | refine sw_reg ?_ | ((first | refine aops_k fun _ _ => ?_ | with_reducible refine rw_own ?_); simp [go_sem]; try go_ints) | refine sw_block ?_ | refine sw_t ?_ | refine sw_f ?_ | refine sw_e ?_ | refine ai ?_ | simp only [aops, thn, inB, ↓reduceIte, Nat.reduceEqDiff])
 refine sw_loopv 5 (fun k : Nat => [(3, .c (.r 1001 (bk k).length)), (4, .c (.i .i64 (k : Int)))]) (fun k => [(1001, .r false 3 38 ((bk k).map dS))]) (fun k => k ≤ ms.length ∧ k ≤ 12) (fun k => ms.length - k) 0 ⟨by omega, by omega⟩ ?_ fun k hk => ?_
 ·simp [go_sem, hb0]
 ·obtain ⟨hk1, hk2⟩ := hk; have ho := hok k hk1 hk2; have hl1 := ho.len
  by_cases h1 : k < ms.length
  ·by_cases h2 : k < 12
   ·have hd := hdo k h1 hk2; have hs := hst k h1
    have h2' : (k : Int) < 12 := by omega
    have q7 : (dM ms[k]).length = 7 := rfl; have t7 : List.take 7 ((dM ms[k]).map (toC false)) = (dM ms[k]).map (toC false) := rfl
    (repeat first | refine hku ?_ | refine sw_seqk fun _ _ => ?_ | refine sw_reg ?_ | ((first | refine aops_k fun _ _ => ?_ | with_reducible refine rw_own ?_); simp [go_sem, h1, h2', q7, t7]; try go_ints) | refine sw_block ?_ | refine sw_t ?_ | refine sw_f ?_ | refine sw_e ?_ | refine ai ?_ | simp only [aops, thn, inB, ↓reduceIte, Nat.reduceEqDiff])
    have q9 : ([SV.g ((dM ms[k]).map (toC false)), SV.c (.r 1001 (bk k).length)].flatMap nmR) = [1001] := rfl; refine callM_i hd ?_; rw [q9]
    cases hdf : doF ms[k] (bk k) with
    | ok s =>
     have hs' : bk (k + 1) = bk k ++ [s] := by rw [hs]; unfold addF; rw [hdf]
     have hne : (bk k).length ≤ 12 := by omega
     simp [go_sem, rowM, doA, hdf]
     (repeat first | refine hku ?_ | refine sw_seqk fun _ _ => ?_ | refine sw_reg ?_ | ((first | refine aops_k fun _ _ => ?_ | with_reducible refine rw_own ?_); simp [go_sem]; try go_ints) | refine sw_block ?_ | refine sw_t ?_ | refine sw_f ?_ | refine sw_e ?_ | refine ai ?_ | simp only [aops, thn, inB, ↓reduceIte, Nat.reduceEqDiff])
     refine ⟨k + 1, ⟨by omega, by omega⟩, by omega, ?_⟩; rw [hs']; simp [go_sem]
    | error e =>
     have hs' : bk (k + 1) = bk k := by rw [hs]; unfold addF; rw [hdf]
     have he0 := doF_err hdf; simp [go_sem, rowM, doA, hdf]
     (repeat first | refine hku ?_ | refine sw_seqk fun _ _ => ?_ | refine sw_reg ?_ | ((first | refine aops_k fun _ _ => ?_ | with_reducible refine rw_own ?_); simp [go_sem, he0]; try go_ints) | refine sw_block ?_ | refine sw_t ?_ | refine sw_f ?_ | refine sw_e ?_ | refine ai ?_ | simp only [aops, thn, inB, ↓reduceIte, Nat.reduceEqDiff])
     refine ⟨k + 1, ⟨by omega, by omega⟩, by omega, ?_⟩; rw [hs']; simp [go_sem]
   ·have he := hend k hk1 hk2 (by omega); subst he
    have h2' : ¬ (k : Int) < 12 := by omega
    (repeat first | refine hku ?_ | refine sw_seqk fun _ _ => ?_ | refine sw_reg ?_ | ((first | refine aops_k fun _ _ => ?_ | with_reducible refine rw_own ?_); simp [go_sem, h1, h2']; try go_ints) | refine sw_block ?_ | refine sw_t ?_ | refine sw_f ?_ | refine sw_e ?_ | refine ai ?_ | simp only [aops, thn, inB, ↓reduceIte, Nat.reduceEqDiff])
    simp [go_sem]
  ·have he := hend k hk1 hk2 (by omega); subst he
   (repeat first | refine hku ?_ | refine sw_seqk fun _ _ => ?_ | refine sw_reg ?_ | ((first | refine aops_k fun _ _ => ?_ | with_reducible refine rw_own ?_); simp [go_sem, h1]; try go_ints) | refine sw_block ?_ | refine sw_t ?_ | refine sw_f ?_ | refine sw_e ?_ | refine ai ?_ | simp only [aops, thn, inB, ↓reduceIte, Nat.reduceEqDiff])
   simp [go_sem]

end Go.Proofs.YtpkfjbljhneenaaGreat
