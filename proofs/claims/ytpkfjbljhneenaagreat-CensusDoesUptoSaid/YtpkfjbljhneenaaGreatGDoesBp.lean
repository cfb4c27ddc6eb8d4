/- riddleref19: num, below, modulo, where, empty, part. No conditions. riddleref19: part. No conditions. riddleref19: Count. No conditions. riddleref19: Finite. No conditions. -/
import Derived.Test.YtpkfjbljhneenaaGreatGDoesBl
namespace Go.Proofs.YtpkfjbljhneenaaGreat
open Go.RowKit

theorem nnum_v (n : Int) (h : i64 n) : Fn Tryz.prog 38 [.c (.i .i64 n)] (gZ true (cz n)) := by
 refine Fn.intro' Tryz.func38 [.cell 2 25] 5 fun _ => ?_
 have k := rof_v n h; generalize cz n = z at k ⊢
 (repeat first | refine hku ?_ | refine sw_seqk fun _ _ => ?_ | refine sw_reg ?_ | ((first | refine aops_k fun _ _ => ?_ | with_reducible refine rw_own ?_); simp [go_sem]; try go_ints) | refine sw_block ?_ | refine sw_t ?_ | refine sw_f ?_ | refine sw_e ?_ | refine ai ?_ | simp only [aops, thn, inB, ↓reduceIte, Nat.reduceEqDiff])
 (refine ⟨.v _, k, ?_⟩; simp [go_sem]; (repeat first | refine hku ?_ | refine sw_seqk fun _ _ => ?_ | refine sw_reg ?_ | ((first | refine aops_k fun _ _ => ?_ | with_reducible refine rw_own ?_); simp [go_sem]; try go_ints) | refine sw_block ?_ | refine sw_t ?_ | refine sw_f ?_ | refine sw_e ?_ | refine ai ?_ | simp only [aops, thn, inB, ↓reduceIte, Nat.reduceEqDiff]))
 simp [go_sem]
theorem nbelow_v (a b : Z) (h : a.mag.length ≤ 4398046511104) (h' : b.mag.length ≤ 4398046511104) : Fn Tryz.prog 40 [.g (dZ a), .g (dZ b)] (.c (.b (decide (a.v < b.v)))) := by
 refine Fn.intro' Tryz.func40 [.tmp 4] 9 fun _ => ?_
 have k := rcmp_v a b h h'
 have e : decide (cmpI a.v b.v < 0) = decide (a.v < b.v) := by
  refine decide_eq_decide.2 ?_
  unfold cmpI; split <;> (try split) <;> omega
 rw [← e]; clear e; generalize cmpI a.v b.v = c at k ⊢
 (repeat first | refine hku ?_ | refine sw_seqk fun _ _ => ?_ | refine sw_reg ?_ | ((first | refine aops_k fun _ _ => ?_ | with_reducible refine rw_own ?_); simp [go_sem]; try go_ints) | refine sw_block ?_ | refine sw_t ?_ | refine sw_f ?_ | refine sw_e ?_ | refine ai ?_ | simp only [aops, thn, inB, ↓reduceIte, Nat.reduceEqDiff])
 (refine ⟨.v _, k, ?_⟩; simp [go_sem]; (repeat first | refine hku ?_ | refine sw_seqk fun _ _ => ?_ | refine sw_reg ?_ | ((first | refine aops_k fun _ _ => ?_ | with_reducible refine rw_own ?_); simp [go_sem]; try go_ints) | refine sw_block ?_ | refine sw_t ?_ | refine sw_f ?_ | refine sw_e ?_ | refine ai ?_ | simp only [aops, thn, inB, ↓reduceIte, Nat.reduceEqDiff]))
 simp [go_sem]
theorem nmod_v (x : Z) (p : Nat) (hp0 : 0 < p) (hp : p ≤ 16777216) (hx : x.mag.length ≤ 274877906943) : Fn Tryz.prog 46 [.g (dZ x), .c (.i .i64 (p : Nat))] (.c (.i .i64 (x.v % (p : Int)))) := by
 refine Fn.intro' Tryz.func46 [.tmp 4] 16 fun _ => ?_
 have h1 := nnum_v (p : Int) ⟨by omega, by omega⟩; obtain ⟨a, ha, hav, hal⟩ := czf (p : Int); have hal1 : zl (p : Int) ≤ 1 := zl_small (by omega); have h2 := rmod_v x a (by omega) hx (by omega); rw [hav, Int.fmod_eq_emod_of_nonneg _ (by omega)] at h2; obtain ⟨b, hb, hbv, hbl⟩ := czf (x.v % (p : Int)); have r1 := Int.emod_nonneg x.v (show (p : Int) ≠ 0 by omega); have r2 := Int.emod_lt_of_pos x.v (show (0 : Int) < (p : Int) by omega); have hbl1 : zl (x.v % (p : Int)) ≤ 1 := zl_small (by omega); have h3 := rint64_v b (by omega)
 have hf : fits64 (x.v % (p : Int)) = true := by unfold fits64; simp; omega
 rw [← ha] at h1; rw [← hb] at h2; rw [hbv, hf, if_pos rfl] at h3; clear ha hal hal1 hav hb hbv hbl hbl1 hf; generalize x.v % (p : Int) = r at *
 (repeat first | refine hku ?_ | refine sw_seqk fun _ _ => ?_ | refine sw_reg ?_ | ((first | refine aops_k fun _ _ => ?_ | with_reducible refine rw_own ?_); simp [go_sem]; try go_ints) | refine sw_block ?_ | refine sw_t ?_ | refine sw_f ?_ | refine sw_e ?_ | refine ai ?_ | simp only [aops, thn, inB, ↓reduceIte, Nat.reduceEqDiff])
 (refine ⟨.v _, h1, ?_⟩; simp [go_sem]; (repeat first | refine hku ?_ | refine sw_seqk fun _ _ => ?_ | refine sw_reg ?_ | ((first | refine aops_k fun _ _ => ?_ | with_reducible refine rw_own ?_); simp [go_sem]; try go_ints) | refine sw_block ?_ | refine sw_t ?_ | refine sw_f ?_ | refine sw_e ?_ | refine ai ?_ | simp only [aops, thn, inB, ↓reduceIte, Nat.reduceEqDiff]))
 (refine ⟨.v _, h2, ?_⟩; simp [go_sem]; (repeat first | refine hku ?_ | refine sw_seqk fun _ _ => ?_ | refine sw_reg ?_ | ((first | refine aops_k fun _ _ => ?_ | with_reducible refine rw_own ?_); simp [go_sem]; try go_ints) | refine sw_block ?_ | refine sw_t ?_ | refine sw_f ?_ | refine sw_e ?_ | refine ai ?_ | simp only [aops, thn, inB, ↓reduceIte, Nat.reduceEqDiff]))
 (refine ⟨.v _, h3, ?_⟩; simp [go_sem]; (repeat first | refine hku ?_ | refine sw_seqk fun _ _ => ?_ | refine sw_reg ?_ | ((first | refine aops_k fun _ _ => ?_ | with_reducible refine rw_own ?_); simp [go_sem]; try go_ints) | refine sw_block ?_ | refine sw_t ?_ | refine sw_f ?_ | refine sw_e ?_ | refine ai ?_ | simp only [aops, thn, inB, ↓reduceIte, Nat.reduceEqDiff]))
 simp [go_sem]
theorem nwhere_v (s : Ps) (N : Nat) (hs : s.ok N) (hN : N ≤ 1099511627776) (x : Z) (hx : x.mag.length ≤ 1099511627776) : Fn Tryz.prog 41 [.g (dS s), .g (dZ x)] (.c (.i .i64 (plc (zv s.cuts) x.v : Nat))) := by
 refine Fn.intro' Tryz.func41 [.tmp 4] 27 fun _ => ?_
 have hl := hs.len; have hzl := zv_len s.cuts
 have step : ∀ i (h : i < s.cuts.length), plc ((zv s.cuts).take (i + 1)) x.v = if (s.cuts[i]).v ≤ x.v then i + 1 else plc ((zv s.cuts).take i) x.v := fun i h => by
  have := plc_step hs.ris x.v (i := i) (by omega)
  simpa [zv] using this
 have hle : ∀ i, plc ((zv s.cuts).take i) x.v ≤ s.cuts.length := fun i => Nat.le_trans (plc_len _ _) (by simp [hzl]; omega)
 have hcm : ∀ i (h : i < s.cuts.length), Fn Tryz.prog 40 [.g (dZ x), .g (dZ s.cuts[i])] (.c (.b (decide (x.v < (s.cuts[i]).v)))) := fun i h => nbelow_v _ _ (by omega) (by have := (hs.cut _ (List.getElem_mem h)).1; omega)
 have e0 : plc (zv s.cuts) x.v = plc ((zv s.cuts).take s.cuts.length) x.v := by rw [← hzl, List.take_length]
 rw [e0]; generalize zv s.cuts = zc at step hle; clear e0 hzl
 (repeat first | refine hku ?_ | refine sw_seqk fun _ _ => ?_ | refine sw_reg ?_ | ((first | refine aops_k fun _ _ => ?_ | with_reducible refine rw_own ?_); simp [go_sem]; try go_ints) | refine sw_block ?_ | refine sw_t ?_ | refine sw_f ?_ | refine sw_e ?_ | refine ai ?_ | simp only [aops, thn, inB, ↓reduceIte, Nat.reduceEqDiff])
 refine sw_loopv 5 (fun i : Nat => [(5, .c (.i .i64 (plc (zc.take i) x.v : Nat))), (6, .c (.i .i64 (i : Int)))]) (fun _ => []) (fun i => i ≤ s.cuts.length) (fun i => s.cuts.length - i) 0 (Nat.zero_le _) ?_ fun i hi => ?_
 ·simp [go_sem]
  rfl
 ·by_cases hlt : i < s.cuts.length
  ·have h1 := step i hlt
   by_cases hc : x.v < (s.cuts[i]).v
   ·rw [if_neg (by omega)] at h1
    (repeat first | refine hku ?_ | refine sw_seqk fun _ _ => ?_ | refine sw_reg ?_ | ((first | refine aops_k fun _ _ => ?_ | with_reducible refine rw_own ?_); simp [go_sem, hlt]; try go_ints) | refine sw_block ?_ | refine sw_t ?_ | refine sw_f ?_ | refine sw_e ?_ | refine ai ?_ | simp only [aops, thn, inB, ↓reduceIte, Nat.reduceEqDiff])
    (refine ⟨.v _, hcm i hlt, ?_⟩; simp [go_sem]; (repeat first | refine hku ?_ | refine sw_seqk fun _ _ => ?_ | refine sw_reg ?_ | ((first | refine aops_k fun _ _ => ?_ | with_reducible refine rw_own ?_); simp [go_sem, hc]; try go_ints) | refine sw_block ?_ | refine sw_t ?_ | refine sw_f ?_ | refine sw_e ?_ | refine ai ?_ | simp only [aops, thn, inB, ↓reduceIte, Nat.reduceEqDiff]))
    refine ⟨i + 1, by omega, by omega, ?_⟩; simp [go_sem, h1]
   ·rw [if_pos (by omega)] at h1
    (repeat first | refine hku ?_ | refine sw_seqk fun _ _ => ?_ | refine sw_reg ?_ | ((first | refine aops_k fun _ _ => ?_ | with_reducible refine rw_own ?_); simp [go_sem, hlt]; try go_ints) | refine sw_block ?_ | refine sw_t ?_ | refine sw_f ?_ | refine sw_e ?_ | refine ai ?_ | simp only [aops, thn, inB, ↓reduceIte, Nat.reduceEqDiff])
    (refine ⟨.v _, hcm i hlt, ?_⟩; simp [go_sem]; (repeat first | refine hku ?_ | refine sw_seqk fun _ _ => ?_ | refine sw_reg ?_ | ((first | refine aops_k fun _ _ => ?_ | with_reducible refine rw_own ?_); simp [go_sem, hc]; try go_ints) | refine sw_block ?_ | refine sw_t ?_ | refine sw_f ?_ | refine sw_e ?_ | refine ai ?_ | simp only [aops, thn, inB, ↓reduceIte, Nat.reduceEqDiff]))
    refine ⟨i + 1, by omega, by omega, ?_⟩; simp [go_sem, h1]
  ·(repeat first | refine hku ?_ | refine sw_seqk fun _ _ => ?_ | refine sw_reg ?_ | ((first | refine aops_k fun _ _ => ?_ | with_reducible refine rw_own ?_); simp [go_sem, hlt]; try go_ints) | refine sw_block ?_ | refine sw_t ?_ | refine sw_f ?_ | refine sw_e ?_ | refine ai ?_ | simp only [aops, thn, inB, ↓reduceIte, Nat.reduceEqDiff])
   have : i = s.cuts.length := by omega
   subst this; simp [go_sem]
theorem nempty_v (r : List Bool) (hr : r.length ≤ 16777216) : Fn Tryz.prog 49 [.c (.l (dB r))] (.c (.b (emp r))) := by
 refine Fn.intro' Tryz.func49 [.tmp 2] 14 fun _ => ?_
 (repeat first | refine hku ?_ | refine sw_seqk fun _ _ => ?_ | refine sw_reg ?_ | ((first | refine aops_k fun _ _ => ?_ | with_reducible refine rw_own ?_); simp [go_sem]; try go_ints) | refine sw_block ?_ | refine sw_t ?_ | refine sw_f ?_ | refine sw_e ?_ | refine ai ?_ | simp only [aops, thn, inB, ↓reduceIte, Nat.reduceEqDiff])
 refine sw_loopv 3 (fun i : Nat => [(3, .c (.i .i64 (i : Int)))]) (fun _ => []) (fun i => i ≤ r.length ∧ ∀ j, j < i → bth r j = false) (fun i => r.length - i) 0 ⟨Nat.zero_le _, fun j h => absurd h (Nat.not_lt_zero _)⟩ ?_ fun i ⟨hi, ht⟩ => ?_
 ·simp [go_sem]
 ·by_cases hlt : i < r.length
  ·cases hb : r[i] with
   | true =>
    have he : emp r = false := emp_false.2 ⟨i, hlt, by rw [bth_eq _ _ hlt]; exact hb⟩
    (repeat first | refine hku ?_ | refine sw_seqk fun _ _ => ?_ | refine sw_reg ?_ | ((first | refine aops_k fun _ _ => ?_ | with_reducible refine rw_own ?_); simp [go_sem, hlt, hb]; try go_ints) | refine sw_block ?_ | refine sw_t ?_ | refine sw_f ?_ | refine sw_e ?_ | refine ai ?_ | simp only [aops, thn, inB, ↓reduceIte, Nat.reduceEqDiff])
    simp [go_sem, he]
   | false =>
    (repeat first | refine hku ?_ | refine sw_seqk fun _ _ => ?_ | refine sw_reg ?_ | ((first | refine aops_k fun _ _ => ?_ | with_reducible refine rw_own ?_); simp [go_sem, hlt, hb]; try go_ints) | refine sw_block ?_ | refine sw_t ?_ | refine sw_f ?_ | refine sw_e ?_ | refine ai ?_ | simp only [aops, thn, inB, ↓reduceIte, Nat.reduceEqDiff])
    refine ⟨i + 1, ⟨by omega, fun j hj => ?_⟩, by omega, ?_⟩
    ·by_cases e : j = i
     ·subst e; rw [bth_eq _ _ hlt]; exact hb
     ·exact ht j (by omega)
    ·simp [go_sem]
  ·have he : emp r = true := by
    cases h : emp r with
    | true => rfl
    | false => obtain ⟨j, hj, h2⟩ := emp_false.1 h; have := ht j (by omega); rw [h2] at this; cases this
   (repeat first | refine hku ?_ | refine sw_seqk fun _ _ => ?_ | refine sw_reg ?_ | ((first | refine aops_k fun _ _ => ?_ | with_reducible refine rw_own ?_); simp [go_sem, hlt]; try go_ints) | refine sw_block ?_ | refine sw_t ?_ | refine sw_f ?_ | refine sw_e ?_ | refine ai ?_ | simp only [aops, thn, inB, ↓reduceIte, Nat.reduceEqDiff])
   simp [go_sem, he]

end Go.Proofs.YtpkfjbljhneenaaGreat

namespace Go.Proofs.YtpkfjbljhneenaaGreat
open Go.RowKit

set_option maxHeartbeats 1600000 in
theorem npart_v (s : Ps) (N : Nat) (hs : s.ok N) (hN : N ≤ 1099511627776) (a n : Z) (hn0 : 0 ≤ n.v) (ha : a.mag.length ≤ 274877906940) (hn : n.mag.length ≤ 274877906940) : Fn Tryz.prog 42 [.g (dS s), .g (dZ a), .g (dZ n)] (gZ true (cz (partR s a.v n.v))) := by
 refine Fn.intro' Tryz.func42 [.cell 6 25] 68 fun hok => ?_
 have hza := zl_of (ok_z (hok (.g (dZ a)) (by simp))); have hzn := zl_of (ok_z (hok (.g (dZ n)) (by simp))); clear hok
 have hp0 := hs.per0; have hp1 := hs.per1
 have hrows := hs.rows; obtain ⟨pz, e1, e1v, e1l⟩ := czf (s.per : Int); have z1 : zl (s.per : Int) ≤ 1 := zl_small (by omega); have k1 := nnum_v (s.per : Int) ⟨by omega, by omega⟩; rw [← e1] at k1; obtain ⟨fz, e2, e2v, e2l⟩ := czf (n.v / (s.per : Int)); have k2 := rfloor_v n pz (by omega) (by omega) (by omega)
 have z2 : zl (n.v / (s.per : Int)) ≤ 274877906940 := by
  rw [← Int.fdiv_eq_ediv_of_nonneg _ (by omega)]; exact fdiv_zl (by omega) (by omega)
 rw [e1v, Int.fdiv_eq_ediv_of_nonneg _ (by omega), ← e2] at k2; obtain ⟨mz, e3, e3v, e3l⟩ := czf (n.v % (s.per : Int)); have k3 := rmod_v n pz (by omega) (by omega) (by omega); rw [e1v, Int.fmod_eq_emod_of_nonneg _ (by omega), ← e3] at k3; have r1 := Int.emod_nonneg n.v (show (s.per : Int) ≠ 0 by omega); have r2 := Int.emod_lt_of_pos n.v (show (0 : Int) < (s.per : Int) by omega); have z3 : zl (n.v % (s.per : Int)) ≤ 1 := zl_small (by omega); have k4 := rint64_v mz (by omega)
 have hf : fits64 (n.v % (s.per : Int)) = true := by unfold fits64; simp; omega
 rw [e3v, hf, if_pos rfl] at k4; have k5 := nwhere_v s N hs hN a (by omega); have hul := plc_len (zv s.cuts) a.v; rw [zv_len] at hul
 have hur : plc (zv s.cuts) a.v < s.rows.length := by omega
 have hrl : (s.rows[plc (zv s.cuts) a.v]).length = s.per := hs.row _ (List.getElem_mem hur)
 have kI : ∀ i : Nat, i < s.per → ∃ iz jz : Z, ∃ w : Nat, ∃ hw : w < (s.rows[plc (zv s.cuts) a.v]).length,
   Fn Tryz.prog 38 [.c (.i .i64 (i : Int))] (gZ true iz) ∧ Fn Tryz.prog 37 [.g (dZ a), .g (dZ iz)] (gZ true jz) ∧
   Fn Tryz.prog 46 [.g (dZ jz), .c (.i .i64 (s.per : Int))] (.c (.i .i64 (w : Int))) ∧ rowC s a.v (i + 1) = rowC s a.v i + if (s.rows[plc (zv s.cuts) a.v])[w] then 1 else 0 := fun i hi => by
  have zi : zl (i : Int) ≤ 1 := zl_small (by omega); have zj : zl (a.v + (i : Int)) ≤ 274877906941 := zl_add (Nat.le_trans hza ha) (by omega); have q1 := Int.emod_nonneg (a.v + (i : Int)) (show (s.per : Int) ≠ 0 by omega); have q2 := Int.emod_lt_of_pos (a.v + (i : Int)) (show (0 : Int) < (s.per : Int) by omega); have m1 := radd_v a (cz (i : Int)) (by omega) (by rw [cz_len]; omega); rw [cz_v] at m1; have m2 := nmod_v (cz (a.v + (i : Int))) s.per hp0 (by omega) (by rw [cz_len]; omega); rw [cz_v] at m2; refine ⟨cz (i : Int), cz (a.v + (i : Int)), ((a.v + (i : Int)) % (s.per : Int)).toNat, by omega, nnum_v (i : Int) ⟨by omega, by omega⟩, m1, by rw [Int.toNat_of_nonneg q1]; exact m2, ?_⟩; rw [rowC_step, rth_eq _ _ hur, bth_eq _ _ (by omega)]
 have hEl := rowC_le s a.v; have hE0 : rowC s a.v 0 = 0 := rfl; obtain ⟨L, hL⟩ : ∃ L : Nat, (L : Int) = n.v % (s.per : Int) := ⟨(n.v % (s.per : Int)).toNat, by omega⟩
 have hLp : L < s.per := by omega
 have hR : partR s a.v n.v = fz.v * (rowC s a.v s.per : Nat) + (rowC s a.v L : Nat) := by
  unfold partR; rw [e2v, ← hL]; rfl
 rw [hR]; rw [← hL] at k4; have kE := nnum_v ((rowC s a.v s.per : Nat) : Int) ⟨by omega, by have := hEl s.per; omega⟩; have kL := nnum_v ((rowC s a.v L : Nat) : Int) ⟨by omega, by have := hEl L; omega⟩; have zE : zl ((rowC s a.v s.per : Nat) : Int) ≤ 1 := zl_small (by have := hEl s.per; omega); have zL : zl ((rowC s a.v L : Nat) : Int) ≤ 1 := zl_small (by have := hEl L; omega); have kM := rmul_v fz (cz ((rowC s a.v s.per : Nat) : Int)) (by omega) (by rw [cz_len]; omega); rw [cz_v] at kM; have zM := zl_mul fz.v ((rowC s a.v s.per : Nat) : Int); have kA := radd_v (cz (fz.v * ((rowC s a.v s.per : Nat) : Int))) (cz ((rowC s a.v L : Nat) : Int)) (by rw [cz_len]; rw [e2v] at zM ⊢; omega) (by rw [cz_len]; omega); rw [cz_v, cz_v] at kA; clear hR zE zL zM z1 z2 z3 hf e2v e2l e3v e3l e1v e1l e1 e2 e3 hL r1 r2 hza hzn hn0
 generalize cz (fz.v * ((rowC s a.v s.per : Nat) : Int) + ((rowC s a.v L : Nat) : Int)) = rz at *; generalize cz (fz.v * ((rowC s a.v s.per : Nat) : Int)) = mulz at *; generalize cz ((rowC s a.v s.per : Nat) : Int) = ez' at *; generalize cz ((rowC s a.v L : Nat) : Int) = lz' at *; generalize rowC s a.v = C at *; generalize plc (zv s.cuts) a.v = u at *
 (repeat first | refine hku ?_ | refine sw_seqk fun _ _ => ?_ | refine sw_reg ?_ | ((first | refine aops_k fun _ _ => ?_ | with_reducible refine rw_own ?_); simp [go_sem]; try go_ints) | refine sw_block ?_ | refine sw_t ?_ | refine sw_f ?_ | refine sw_e ?_ | refine ai ?_ | simp only [aops, thn, inB, ↓reduceIte, Nat.reduceEqDiff])
 (refine ⟨.v _, k1, ?_⟩; simp [go_sem]; (repeat first | refine hku ?_ | refine sw_seqk fun _ _ => ?_ | refine sw_reg ?_ | ((first | refine aops_k fun _ _ => ?_ | with_reducible refine rw_own ?_); simp [go_sem]; try go_ints) | refine sw_block ?_ | refine sw_t ?_ | refine sw_f ?_ | refine sw_e ?_ | refine ai ?_ | simp only [aops, thn, inB, ↓reduceIte, Nat.reduceEqDiff]))
 (refine ⟨.v _, k2, ?_⟩; simp [go_sem]; (repeat first | refine hku ?_ | refine sw_seqk fun _ _ => ?_ | refine sw_reg ?_ | ((first | refine aops_k fun _ _ => ?_ | with_reducible refine rw_own ?_); simp [go_sem]; try go_ints) | refine sw_block ?_ | refine sw_t ?_ | refine sw_f ?_ | refine sw_e ?_ | refine ai ?_ | simp only [aops, thn, inB, ↓reduceIte, Nat.reduceEqDiff]))
 (refine ⟨.v _, k3, ?_⟩; simp [go_sem]; (repeat first | refine hku ?_ | refine sw_seqk fun _ _ => ?_ | refine sw_reg ?_ | ((first | refine aops_k fun _ _ => ?_ | with_reducible refine rw_own ?_); simp [go_sem]; try go_ints) | refine sw_block ?_ | refine sw_t ?_ | refine sw_f ?_ | refine sw_e ?_ | refine ai ?_ | simp only [aops, thn, inB, ↓reduceIte, Nat.reduceEqDiff]))
 (refine ⟨.v _, k4, ?_⟩; simp [go_sem]; (repeat first | refine hku ?_ | refine sw_seqk fun _ _ => ?_ | refine sw_reg ?_ | ((first | refine aops_k fun _ _ => ?_ | with_reducible refine rw_own ?_); simp [go_sem]; try go_ints) | refine sw_block ?_ | refine sw_t ?_ | refine sw_f ?_ | refine sw_e ?_ | refine ai ?_ | simp only [aops, thn, inB, ↓reduceIte, Nat.reduceEqDiff]))
 refine sw_loopv 11 (fun i : Nat => [(11, .c (.i .i64 (C i : Nat))), (12, .c (.i .i64 (C (min i L) : Nat))), (13, .c (.i .i64 (i : Int)))]) (fun _ => []) (fun i => i ≤ s.per) (fun i => s.per - i) 0 (Nat.zero_le _) ?_ fun i hi => ?_
 ·simp [go_sem, hE0]
 ·by_cases hlt : i < s.per
  ·obtain ⟨iz, jz, w, hw, m1, m2, m3, m4⟩ := kI i hlt; have c1 := hEl i; have c2 := hEl (min i L)
   (repeat first | refine hku ?_ | refine sw_seqk fun _ _ => ?_ | refine sw_reg ?_ | ((first | refine aops_k fun _ _ => ?_ | with_reducible refine rw_own ?_); simp [go_sem, hlt]; try go_ints) | refine sw_block ?_ | refine sw_t ?_ | refine sw_f ?_ | refine sw_e ?_ | refine ai ?_ | simp only [aops, thn, inB, ↓reduceIte, Nat.reduceEqDiff])
   (refine ⟨.v _, k5, ?_⟩; simp [go_sem]; (repeat first | refine hku ?_ | refine sw_seqk fun _ _ => ?_ | refine sw_reg ?_ | ((first | refine aops_k fun _ _ => ?_ | with_reducible refine rw_own ?_); simp [go_sem, hur]; try go_ints) | refine sw_block ?_ | refine sw_t ?_ | refine sw_f ?_ | refine sw_e ?_ | refine ai ?_ | simp only [aops, thn, inB, ↓reduceIte, Nat.reduceEqDiff]))
   (refine ⟨.v _, m1, ?_⟩; simp [go_sem]; (repeat first | refine hku ?_ | refine sw_seqk fun _ _ => ?_ | refine sw_reg ?_ | ((first | refine aops_k fun _ _ => ?_ | with_reducible refine rw_own ?_); simp [go_sem]; try go_ints) | refine sw_block ?_ | refine sw_t ?_ | refine sw_f ?_ | refine sw_e ?_ | refine ai ?_ | simp only [aops, thn, inB, ↓reduceIte, Nat.reduceEqDiff]))
   (refine ⟨.v _, m2, ?_⟩; simp [go_sem]; (repeat first | refine hku ?_ | refine sw_seqk fun _ _ => ?_ | refine sw_reg ?_ | ((first | refine aops_k fun _ _ => ?_ | with_reducible refine rw_own ?_); simp [go_sem]; try go_ints) | refine sw_block ?_ | refine sw_t ?_ | refine sw_f ?_ | refine sw_e ?_ | refine ai ?_ | simp only [aops, thn, inB, ↓reduceIte, Nat.reduceEqDiff]))
   cases hb : (s.rows[u])[w] with
   | true =>
    rw [hb, if_pos rfl] at m4
    by_cases hiL : i < L
    ·have e4 : C (min (i + 1) L) = C (min i L) + 1 := by rw [Nat.min_eq_left (by omega), Nat.min_eq_left (by omega), m4]
     (refine ⟨.v _, m3, ?_⟩; simp [go_sem]; (repeat first | refine hku ?_ | refine sw_seqk fun _ _ => ?_ | refine sw_reg ?_ | ((first | refine aops_k fun _ _ => ?_ | with_reducible refine rw_own ?_); simp [go_sem, hur, hw, hb, hiL]; try go_ints) | refine sw_block ?_ | refine sw_t ?_ | refine sw_f ?_ | refine sw_e ?_ | refine ai ?_ | simp only [aops, thn, inB, ↓reduceIte, Nat.reduceEqDiff]))
     refine ⟨i + 1, by omega, by omega, ?_⟩; simp [go_sem, m4, e4]
    ·have e4 : C (min (i + 1) L) = C (min i L) := by rw [Nat.min_eq_right (by omega), Nat.min_eq_right (by omega)]
     (refine ⟨.v _, m3, ?_⟩; simp [go_sem]; (repeat first | refine hku ?_ | refine sw_seqk fun _ _ => ?_ | refine sw_reg ?_ | ((first | refine aops_k fun _ _ => ?_ | with_reducible refine rw_own ?_); simp [go_sem, hur, hw, hb, hiL]; try go_ints) | refine sw_block ?_ | refine sw_t ?_ | refine sw_f ?_ | refine sw_e ?_ | refine ai ?_ | simp only [aops, thn, inB, ↓reduceIte, Nat.reduceEqDiff]))
     refine ⟨i + 1, by omega, by omega, ?_⟩; simp [go_sem, m4, e4]
   | false =>
    rw [hb, if_neg (by simp)] at m4
    have e4 : C (min (i + 1) L) = C (min i L) := by
     rcases Nat.lt_or_ge i L with h | h
     ·rw [Nat.min_eq_left (by omega), Nat.min_eq_left (by omega), m4]; rfl
     ·rw [Nat.min_eq_right (by omega), Nat.min_eq_right (by omega)]
    (refine ⟨.v _, m3, ?_⟩; simp [go_sem]; (repeat first | refine hku ?_ | refine sw_seqk fun _ _ => ?_ | refine sw_reg ?_ | ((first | refine aops_k fun _ _ => ?_ | with_reducible refine rw_own ?_); simp [go_sem, hur, hw, hb]; try go_ints) | refine sw_block ?_ | refine sw_t ?_ | refine sw_f ?_ | refine sw_e ?_ | refine ai ?_ | simp only [aops, thn, inB, ↓reduceIte, Nat.reduceEqDiff]))
    refine ⟨i + 1, by omega, by omega, ?_⟩; simp [go_sem, m4, e4]
  ·have hie : i = s.per := by omega
   have hmn : min s.per L = L := Nat.min_eq_right (by omega); subst hie; simp only [hmn]
   (repeat first | refine hku ?_ | refine sw_seqk fun _ _ => ?_ | refine sw_reg ?_ | ((first | refine aops_k fun _ _ => ?_ | with_reducible refine rw_own ?_); simp [go_sem, hlt]; try go_ints) | refine sw_block ?_ | refine sw_t ?_ | refine sw_f ?_ | refine sw_e ?_ | refine ai ?_ | simp only [aops, thn, inB, ↓reduceIte, Nat.reduceEqDiff])
   (refine ⟨.v _, kE, ?_⟩; simp [go_sem]; (repeat first | refine hku ?_ | refine sw_seqk fun _ _ => ?_ | refine sw_reg ?_ | ((first | refine aops_k fun _ _ => ?_ | with_reducible refine rw_own ?_); simp [go_sem]; try go_ints) | refine sw_block ?_ | refine sw_t ?_ | refine sw_f ?_ | refine sw_e ?_ | refine ai ?_ | simp only [aops, thn, inB, ↓reduceIte, Nat.reduceEqDiff]))
   (refine ⟨.v _, kM, ?_⟩; simp [go_sem]; (repeat first | refine hku ?_ | refine sw_seqk fun _ _ => ?_ | refine sw_reg ?_ | ((first | refine aops_k fun _ _ => ?_ | with_reducible refine rw_own ?_); simp [go_sem]; try go_ints) | refine sw_block ?_ | refine sw_t ?_ | refine sw_f ?_ | refine sw_e ?_ | refine ai ?_ | simp only [aops, thn, inB, ↓reduceIte, Nat.reduceEqDiff]))
   (refine ⟨.v _, kL, ?_⟩; simp [go_sem]; (repeat first | refine hku ?_ | refine sw_seqk fun _ _ => ?_ | refine sw_reg ?_ | ((first | refine aops_k fun _ _ => ?_ | with_reducible refine rw_own ?_); simp [go_sem]; try go_ints) | refine sw_block ?_ | refine sw_t ?_ | refine sw_f ?_ | refine sw_e ?_ | refine ai ?_ | simp only [aops, thn, inB, ↓reduceIte, Nat.reduceEqDiff]))
   (refine ⟨.v _, kA, ?_⟩; simp [go_sem]; (repeat first | refine hku ?_ | refine sw_seqk fun _ _ => ?_ | refine sw_reg ?_ | ((first | refine aops_k fun _ _ => ?_ | with_reducible refine rw_own ?_); simp [go_sem]; try go_ints) | refine sw_block ?_ | refine sw_t ?_ | refine sw_f ?_ | refine sw_e ?_ | refine ai ?_ | simp only [aops, thn, inB, ↓reduceIte, Nat.reduceEqDiff]))
   simp [go_sem]

end Go.Proofs.YtpkfjbljhneenaaGreat

namespace Go.Proofs.YtpkfjbljhneenaaGreat
open Go.RowKit

theorem nin_zl {s : Ps} {a x : Int} {B : Nat} (h : zl (x - a) ≤ B) : zl ((nin s a (x - a).toNat : Nat) : Int) ≤ B := by
 refine Nat.le_trans (zl_mono ?_) h; have := nin_le s a (x - a).toNat
 omega
set_option maxHeartbeats 1600000 in
theorem ncount_v (s : Ps) (N : Nat) (hs : s.ok N) (hN : N ≤ 137438953472) (lo hi : Z) (hlo : lo.mag.length ≤ 137438953472) (hhi : hi.mag.length ≤ 137438953472) : Fn Tryz.prog 10 [.g (dS s), .g (dZ lo), .g (dZ hi)] (gZ true (cz (cntV s lo hi.v))) := by
 refine Fn.intro' Tryz.func10 [.cell 6 25] 54 fun hok => ?_
 have hzl := zl_of (ok_z (hok (.g (dZ lo)) (by simp))); have hzh := zl_of (ok_z (hok (.g (dZ hi)) (by simp))); clear hok; rw [cnt_nin hs]; obtain ⟨one, e1, e1v, e1l⟩ := czf 1
 have z1 : zl 1 ≤ 1 := by decide
 have k1 := nnum_v 1 ⟨by omega, by omega⟩; rw [← e1] at k1; obtain ⟨ez, e2, e2v, e2l⟩ := czf (hi.v + 1); have z2 : zl (hi.v + 1) ≤ 137438953473 := zl_add (Nat.le_trans hzh hhi) (by omega); have k2 := radd_v hi one (by omega) (by omega); rw [e1v, ← e2] at k2; obtain ⟨lz, e3, e3v, e3l⟩ := czf lo.v; have k3 := rnorm_v lo (by omega); rw [← e3] at k3; have k4 := nnum_v 0 ⟨by omega, by omega⟩; rw [← e2v]
 obtain ⟨A, hA⟩ : ∃ A : Int → Z, A = fun x => cz ((nin s lo.v (x - lo.v).toNat : Nat) : Int) := ⟨_, rfl⟩
 have hA0 : cz 0 = A lz.v := by rw [hA]; simp [e3v, nin]
 have hAe : cz ((nin s lo.v (ez.v - lo.v).toNat : Nat) : Int) = A ez.v := by rw [hA]
 rw [hA0] at k4; rw [hAe]
 -- a round
 have kR : ∀ x t : Z, lo.v ≤ x.v → x.v < ez.v → t.v = stopR s x.v ez.v → x.mag.length ≤ 137438953473 → zl x.v ≤ 137438953473 → t.mag.length ≤ 137438953473 → zl t.v ≤ 137438953473 → ∃ d p : Z,
   Fn Tryz.prog 43 [.g (dZ t), .g (dZ x)] (gZ true d) ∧ Fn Tryz.prog 42 [.g (dS s), .g (dZ x), .g (dZ d)] (gZ true p) ∧ Fn Tryz.prog 37 [.g (dZ (A x.v)), .g (dZ p)] (gZ true (A t.v)) := fun x t h1 h2 h3 h4 h5 h6 h7 => by
  obtain ⟨g1, g2, g3⟩ := stop_ok hs h2; have c := count_step hs h1 h2; rw [← h3] at g1 g2 g3 c; have zd : zl (t.v - x.v) ≤ 137438953474 := zl_sub h7 h5; have zx : zl (x.v - lo.v) ≤ 137438953474 := zl_sub h5 (by omega)
  have e : t.v - x.v = ((t.v - x.v).toNat : Nat) := by omega
  have zp : zl (partR s x.v (t.v - x.v)) ≤ 137438953474 := by
   rw [e, partR_nin (g3.mono (Int.le_refl _) (by omega))]; exact nin_zl zd
  have m1 := rsub_v t x (by omega) (by omega); have m2 := npart_v s N hs (by omega) x (cz (t.v - x.v)) (by rw [cz_v]; omega) (by omega) (by rw [cz_len]; omega); rw [cz_v] at m2; have m3 := radd_v (A x.v) (cz (partR s x.v (t.v - x.v))) (by rw [hA]; simp only [cz_len]; have := nin_zl (s := s) zx; omega) (by rw [cz_len]; omega)
  have e4 : (A x.v).v + (cz (partR s x.v (t.v - x.v))).v = ((nin s lo.v (t.v - lo.v).toNat : Nat) : Int) := by rw [hA]; simp only [cz_v]; exact c
  rw [e4] at m3; refine ⟨_, _, m1, m2, ?_⟩
  have e5 : A t.v = cz ((nin s lo.v (t.v - lo.v).toNat : Nat) : Int) := by rw [hA]
  rw [e5]; exact m3
 have hcz : ∀ z ∈ s.cuts, z.mag.length ≤ 137438953473 ∧ zl z.v ≤ 137438953473 := fun z hz => by
  obtain ⟨h1, h2⟩ := hs.cut z hz; refine ⟨by omega, ?_⟩
  rw [← cz_len, h2]; omega
 have hpl := plc_len (zv s.cuts)
 have hst : ∀ x : Z, x.v < ez.v → x.v < stopR s x.v ez.v ∧ stopR s x.v ez.v ≤ ez.v := fun x h => ⟨(stop_ok hs h).1, (stop_ok hs h).2.1⟩
 have hlz : lz.mag.length ≤ 137438953473 ∧ zl lz.v ≤ 137438953473 ∧ lo.v ≤ lz.v ∧ (lz.v = lo.v ∨ lz.v ≤ ez.v) := ⟨by omega, by rw [e3v]; omega, by omega, .inl (by omega)⟩
 have hend : ∀ x : Z, (x.v = lo.v ∨ x.v ≤ ez.v) → lo.v ≤ x.v → ¬ x.v < ez.v → A x.v = A ez.v := fun x h1 h2 h3 => by
  rw [hA]; simp only
  rcases h1 with h1 | h1
  ·rw [show (x.v - lo.v).toNat = (ez.v - lo.v).toNat by omega]
  ·rw [show x.v = ez.v by omega]
 have hez : ez.mag.length ≤ 137438953473 ∧ zl ez.v ≤ 137438953473 := ⟨by omega, by rw [e2v]; omega⟩; clear hA hA0 hAe e1 e1v e1l e2 e2v e2l e3 e3v e3l z1 z2 hzl hzh
 (repeat first | refine hku ?_ | refine sw_seqk fun _ _ => ?_ | refine sw_reg ?_ | ((first | refine aops_k fun _ _ => ?_ | with_reducible refine rw_own ?_); simp [go_sem]; try go_ints) | refine sw_block ?_ | refine sw_t ?_ | refine sw_f ?_ | refine sw_e ?_ | refine ai ?_ | simp only [aops, thn, inB, ↓reduceIte, Nat.reduceEqDiff])
 (refine ⟨.v _, k1, ?_⟩; simp [go_sem]; (repeat first | refine hku ?_ | refine sw_seqk fun _ _ => ?_ | refine sw_reg ?_ | ((first | refine aops_k fun _ _ => ?_ | with_reducible refine rw_own ?_); simp [go_sem]; try go_ints) | refine sw_block ?_ | refine sw_t ?_ | refine sw_f ?_ | refine sw_e ?_ | refine ai ?_ | simp only [aops, thn, inB, ↓reduceIte, Nat.reduceEqDiff]))
 (refine ⟨.v _, k2, ?_⟩; simp [go_sem]; (repeat first | refine hku ?_ | refine sw_seqk fun _ _ => ?_ | refine sw_reg ?_ | ((first | refine aops_k fun _ _ => ?_ | with_reducible refine rw_own ?_); simp [go_sem]; try go_ints) | refine sw_block ?_ | refine sw_t ?_ | refine sw_f ?_ | refine sw_e ?_ | refine ai ?_ | simp only [aops, thn, inB, ↓reduceIte, Nat.reduceEqDiff]))
 (refine ⟨.v _, k3, ?_⟩; simp [go_sem]; (repeat first | refine hku ?_ | refine sw_seqk fun _ _ => ?_ | refine sw_reg ?_ | ((first | refine aops_k fun _ _ => ?_ | with_reducible refine rw_own ?_); simp [go_sem]; try go_ints) | refine sw_block ?_ | refine sw_t ?_ | refine sw_f ?_ | refine sw_e ?_ | refine ai ?_ | simp only [aops, thn, inB, ↓reduceIte, Nat.reduceEqDiff]))
 (refine ⟨.v _, k4, ?_⟩; simp [go_sem]; (repeat first | refine hku ?_ | refine sw_seqk fun _ _ => ?_ | refine sw_reg ?_ | ((first | refine aops_k fun _ _ => ?_ | with_reducible refine rw_own ?_); simp [go_sem]; try go_ints) | refine sw_block ?_ | refine sw_t ?_ | refine sw_f ?_ | refine sw_e ?_ | refine ai ?_ | simp only [aops, thn, inB, ↓reduceIte, Nat.reduceEqDiff]))
 refine sw_loopv 10 (fun _ : Z => []) (fun x => [(8, .x [.b x.neg, .l false (dN x.mag)]), (9, .x [.b (A x.v).neg, .l true (dN (A x.v).mag)])]) (fun x => x.mag.length ≤ 137438953473 ∧ zl x.v ≤ 137438953473 ∧ lo.v ≤ x.v ∧ (x.v = lo.v ∨ x.v ≤ ez.v)) (fun x => (ez.v - x.v).toNat) lz hlz ?_ fun x ⟨x1, x2, x3, x4⟩ => ?_
 ·simp [go_sem]
 ·have c1 := nbelow_v x ez (by omega) (by omega)
  by_cases hlt : x.v < ez.v
  ·obtain ⟨s1, s2⟩ := hst x hlt; have c2 := nwhere_v s N hs (by omega) x (by omega); have hu := hpl x.v; rw [zv_len] at hu; obtain ⟨u, hue⟩ : ∃ u, u = plc (zv s.cuts) x.v := ⟨_, rfl⟩; rw [← hue] at c2 hu; rw [decide_eq_true hlt] at c1
   (repeat first | refine hku ?_ | refine sw_seqk fun _ _ => ?_ | refine sw_reg ?_ | ((first | refine aops_k fun _ _ => ?_ | with_reducible refine rw_own ?_); simp [go_sem]; try go_ints) | refine sw_block ?_ | refine sw_t ?_ | refine sw_f ?_ | refine sw_e ?_ | refine ai ?_ | simp only [aops, thn, inB, ↓reduceIte, Nat.reduceEqDiff])
   (refine ⟨.v _, c1, ?_⟩; simp [go_sem]; (repeat first | refine hku ?_ | refine sw_seqk fun _ _ => ?_ | refine sw_reg ?_ | ((first | refine aops_k fun _ _ => ?_ | with_reducible refine rw_own ?_); simp [go_sem]; try go_ints) | refine sw_block ?_ | refine sw_t ?_ | refine sw_f ?_ | refine sw_e ?_ | refine ai ?_ | simp only [aops, thn, inB, ↓reduceIte, Nat.reduceEqDiff]))
   by_cases hul : u < s.cuts.length
   ·have c3 := nbelow_v s.cuts[u] ez (by have := (hcz _ (List.getElem_mem hul)).1; omega) (by omega)
    by_cases hce : (s.cuts[u]).v < ez.v
    ·have ht : (s.cuts[u]).v = stopR s x.v ez.v := by
      unfold stopR; rw [← hue, zth_eq _ _ hul, if_pos ⟨hul, hce⟩]
     obtain ⟨d, p, m1, m2, m3⟩ := kR x s.cuts[u] x3 hlt ht x1 x2 (hcz _ (List.getElem_mem hul)).1 (hcz _ (List.getElem_mem hul)).2
     (refine ⟨.v _, c2, ?_⟩; simp [go_sem]; (repeat first | refine hku ?_ | refine sw_seqk fun _ _ => ?_ | refine sw_reg ?_ | ((first | refine aops_k fun _ _ => ?_ | with_reducible refine rw_own ?_); simp [go_sem, hul]; try go_ints) | refine sw_block ?_ | refine sw_t ?_ | refine sw_f ?_ | refine sw_e ?_ | refine ai ?_ | simp only [aops, thn, inB, ↓reduceIte, Nat.reduceEqDiff]))
     (refine ⟨.v _, c3, ?_⟩; simp [go_sem]; (repeat first | refine hku ?_ | refine sw_seqk fun _ _ => ?_ | refine sw_reg ?_ | ((first | refine aops_k fun _ _ => ?_ | with_reducible refine rw_own ?_); simp [go_sem, hce, hul]; try go_ints) | refine sw_block ?_ | refine sw_t ?_ | refine sw_f ?_ | refine sw_e ?_ | refine ai ?_ | simp only [aops, thn, inB, ↓reduceIte, Nat.reduceEqDiff]))
     (refine ⟨.v _, m1, ?_⟩; simp [go_sem]; (repeat first | refine hku ?_ | refine sw_seqk fun _ _ => ?_ | refine sw_reg ?_ | ((first | refine aops_k fun _ _ => ?_ | with_reducible refine rw_own ?_); simp [go_sem]; try go_ints) | refine sw_block ?_ | refine sw_t ?_ | refine sw_f ?_ | refine sw_e ?_ | refine ai ?_ | simp only [aops, thn, inB, ↓reduceIte, Nat.reduceEqDiff]))
     (refine ⟨.v _, m2, ?_⟩; simp [go_sem]; (repeat first | refine hku ?_ | refine sw_seqk fun _ _ => ?_ | refine sw_reg ?_ | ((first | refine aops_k fun _ _ => ?_ | with_reducible refine rw_own ?_); simp [go_sem]; try go_ints) | refine sw_block ?_ | refine sw_t ?_ | refine sw_f ?_ | refine sw_e ?_ | refine ai ?_ | simp only [aops, thn, inB, ↓reduceIte, Nat.reduceEqDiff]))
     (refine ⟨.v _, m3, ?_⟩; simp [go_sem]; (repeat first | refine hku ?_ | refine sw_seqk fun _ _ => ?_ | refine sw_reg ?_ | ((first | refine aops_k fun _ _ => ?_ | with_reducible refine rw_own ?_); simp [go_sem]; try go_ints) | refine sw_block ?_ | refine sw_t ?_ | refine sw_f ?_ | refine sw_e ?_ | refine ai ?_ | simp only [aops, thn, inB, ↓reduceIte, Nat.reduceEqDiff]))
     refine ⟨s.cuts[u], ⟨(hcz _ (List.getElem_mem hul)).1, (hcz _ (List.getElem_mem hul)).2, by omega, .inr (by omega)⟩, by omega, ?_⟩; simp [go_sem]
    ·have ht : ez.v = stopR s x.v ez.v := by
      unfold stopR; rw [← hue, zth_eq _ _ hul, if_neg fun h => hce h.2]
     obtain ⟨d, p, m1, m2, m3⟩ := kR x ez x3 hlt ht x1 x2 hez.1 hez.2
     (refine ⟨.v _, c2, ?_⟩; simp [go_sem]; (repeat first | refine hku ?_ | refine sw_seqk fun _ _ => ?_ | refine sw_reg ?_ | ((first | refine aops_k fun _ _ => ?_ | with_reducible refine rw_own ?_); simp [go_sem, hul]; try go_ints) | refine sw_block ?_ | refine sw_t ?_ | refine sw_f ?_ | refine sw_e ?_ | refine ai ?_ | simp only [aops, thn, inB, ↓reduceIte, Nat.reduceEqDiff]))
     (refine ⟨.v _, c3, ?_⟩; simp [go_sem]; (repeat first | refine hku ?_ | refine sw_seqk fun _ _ => ?_ | refine sw_reg ?_ | ((first | refine aops_k fun _ _ => ?_ | with_reducible refine rw_own ?_); simp [go_sem, hce, hul]; try go_ints) | refine sw_block ?_ | refine sw_t ?_ | refine sw_f ?_ | refine sw_e ?_ | refine ai ?_ | simp only [aops, thn, inB, ↓reduceIte, Nat.reduceEqDiff]))
     (refine ⟨.v _, m1, ?_⟩; simp [go_sem]; (repeat first | refine hku ?_ | refine sw_seqk fun _ _ => ?_ | refine sw_reg ?_ | ((first | refine aops_k fun _ _ => ?_ | with_reducible refine rw_own ?_); simp [go_sem]; try go_ints) | refine sw_block ?_ | refine sw_t ?_ | refine sw_f ?_ | refine sw_e ?_ | refine ai ?_ | simp only [aops, thn, inB, ↓reduceIte, Nat.reduceEqDiff]))
     (refine ⟨.v _, m2, ?_⟩; simp [go_sem]; (repeat first | refine hku ?_ | refine sw_seqk fun _ _ => ?_ | refine sw_reg ?_ | ((first | refine aops_k fun _ _ => ?_ | with_reducible refine rw_own ?_); simp [go_sem]; try go_ints) | refine sw_block ?_ | refine sw_t ?_ | refine sw_f ?_ | refine sw_e ?_ | refine ai ?_ | simp only [aops, thn, inB, ↓reduceIte, Nat.reduceEqDiff]))
     (refine ⟨.v _, m3, ?_⟩; simp [go_sem]; (repeat first | refine hku ?_ | refine sw_seqk fun _ _ => ?_ | refine sw_reg ?_ | ((first | refine aops_k fun _ _ => ?_ | with_reducible refine rw_own ?_); simp [go_sem]; try go_ints) | refine sw_block ?_ | refine sw_t ?_ | refine sw_f ?_ | refine sw_e ?_ | refine ai ?_ | simp only [aops, thn, inB, ↓reduceIte, Nat.reduceEqDiff]))
     refine ⟨ez, ⟨hez.1, hez.2, by omega, .inr (Int.le_refl _)⟩, by omega, ?_⟩; simp [go_sem]
   ·have ht : ez.v = stopR s x.v ez.v := by
     unfold stopR; rw [← hue, if_neg fun h => hul h.1]
    obtain ⟨d, p, m1, m2, m3⟩ := kR x ez x3 hlt ht x1 x2 hez.1 hez.2
    (refine ⟨.v _, c2, ?_⟩; simp [go_sem]; (repeat first | refine hku ?_ | refine sw_seqk fun _ _ => ?_ | refine sw_reg ?_ | ((first | refine aops_k fun _ _ => ?_ | with_reducible refine rw_own ?_); simp [go_sem, hul]; try go_ints) | refine sw_block ?_ | refine sw_t ?_ | refine sw_f ?_ | refine sw_e ?_ | refine ai ?_ | simp only [aops, thn, inB, ↓reduceIte, Nat.reduceEqDiff]))
    (refine ⟨.v _, m1, ?_⟩; simp [go_sem]; (repeat first | refine hku ?_ | refine sw_seqk fun _ _ => ?_ | refine sw_reg ?_ | ((first | refine aops_k fun _ _ => ?_ | with_reducible refine rw_own ?_); simp [go_sem]; try go_ints) | refine sw_block ?_ | refine sw_t ?_ | refine sw_f ?_ | refine sw_e ?_ | refine ai ?_ | simp only [aops, thn, inB, ↓reduceIte, Nat.reduceEqDiff]))
    (refine ⟨.v _, m2, ?_⟩; simp [go_sem]; (repeat first | refine hku ?_ | refine sw_seqk fun _ _ => ?_ | refine sw_reg ?_ | ((first | refine aops_k fun _ _ => ?_ | with_reducible refine rw_own ?_); simp [go_sem]; try go_ints) | refine sw_block ?_ | refine sw_t ?_ | refine sw_f ?_ | refine sw_e ?_ | refine ai ?_ | simp only [aops, thn, inB, ↓reduceIte, Nat.reduceEqDiff]))
    (refine ⟨.v _, m3, ?_⟩; simp [go_sem]; (repeat first | refine hku ?_ | refine sw_seqk fun _ _ => ?_ | refine sw_reg ?_ | ((first | refine aops_k fun _ _ => ?_ | with_reducible refine rw_own ?_); simp [go_sem]; try go_ints) | refine sw_block ?_ | refine sw_t ?_ | refine sw_f ?_ | refine sw_e ?_ | refine ai ?_ | simp only [aops, thn, inB, ↓reduceIte, Nat.reduceEqDiff]))
    refine ⟨ez, ⟨hez.1, hez.2, by omega, .inr (Int.le_refl _)⟩, by omega, ?_⟩; simp [go_sem]
  ·have he := hend x x4 x3 hlt; rw [decide_eq_false hlt] at c1
   (repeat first | refine hku ?_ | refine sw_seqk fun _ _ => ?_ | refine sw_reg ?_ | ((first | refine aops_k fun _ _ => ?_ | with_reducible refine rw_own ?_); simp [go_sem]; try go_ints) | refine sw_block ?_ | refine sw_t ?_ | refine sw_f ?_ | refine sw_e ?_ | refine ai ?_ | simp only [aops, thn, inB, ↓reduceIte, Nat.reduceEqDiff])
   (refine ⟨.v _, c1, ?_⟩; simp [go_sem]; (repeat first | refine hku ?_ | refine sw_seqk fun _ _ => ?_ | refine sw_reg ?_ | ((first | refine aops_k fun _ _ => ?_ | with_reducible refine rw_own ?_); simp [go_sem]; try go_ints) | refine sw_block ?_ | refine sw_t ?_ | refine sw_f ?_ | refine sw_e ?_ | refine ai ?_ | simp only [aops, thn, inB, ↓reduceIte, Nat.reduceEqDiff]))
   simp [go_sem, he]

end Go.Proofs.YtpkfjbljhneenaaGreat

namespace Go.Proofs.YtpkfjbljhneenaaGreat
open Go.RowKit

theorem cz0 : cz 0 = ⟨false, []⟩ := rfl
set_option maxHeartbeats 800000 in
theorem nfin_v (s : Ps) (N : Nat) (hs : s.ok N) (hN : N ≤ 137438953472) : Fn Tryz.prog 20 [.g (dS s)] (.t [aZ true (cz ((finV s).getD 0)), .c (.b (finV s).isSome)]) := by
 refine Fn.intro' Tryz.func20 [.cell 2 25, .tmp 3] 46 fun _ => ?_
 have hr := hs.rows; have hp1 := hs.per1; have hcl := hs.len
 have hr1 : s.rows.length ≤ 1048577 := by omega
 have hr0 : 0 < s.rows.length := by omega
 have hrn : s.rows.length - 1 < s.rows.length := by omega
 have k1 := nempty_v s.rows[0] (by rw [hs.row _ (List.getElem_mem hr0)]; omega); have k2 := nempty_v s.rows[s.rows.length - 1] (by rw [hs.row _ (List.getElem_mem hrn)]; omega); rw [finR hs, rth_eq _ _ hr0, rth_eq _ _ hrn]; obtain ⟨n, hn⟩ : ∃ n, s.rows.length = n + 1 := ⟨_, hr⟩; have hRl : s.rows[s.rows.length - 1]? = some s.rows[s.rows.length - 1] := List.getElem?_eq_getElem hrn; generalize hR : s.rows[s.rows.length - 1] = R at *
 cases h1 : emp s.rows[0] with
 | false =>
  rw [h1] at k1; simp only [Bool.not_false, Bool.true_or, if_true, Option.getD_none, Option.isSome_none, cz0]
  cases h2 : emp R <;> (
   rw [h2] at k2
   (repeat first | refine hku ?_ | refine sw_seqk fun _ _ => ?_ | refine sw_reg ?_ | ((first | refine aops_k fun _ _ => ?_ | with_reducible refine rw_own ?_); simp [go_sem, hr0]; try go_ints) | refine sw_block ?_ | refine sw_t ?_ | refine sw_f ?_ | refine sw_e ?_ | refine ai ?_ | simp only [aops, thn, inB, ↓reduceIte, Nat.reduceEqDiff])
   (refine ⟨.v _, k1, ?_⟩; simp [go_sem]; (repeat first | refine hku ?_ | refine sw_seqk fun _ _ => ?_ | refine sw_reg ?_ | ((first | refine aops_k fun _ _ => ?_ | with_reducible refine rw_own ?_); simp [go_sem, hRl]; try go_ints) | refine sw_block ?_ | refine sw_t ?_ | refine sw_f ?_ | refine sw_e ?_ | refine ai ?_ | simp only [aops, thn, inB, ↓reduceIte, Nat.reduceEqDiff]))
   (refine ⟨.v _, k2, ?_⟩; simp [go_sem]; (repeat first | refine hku ?_ | refine sw_seqk fun _ _ => ?_ | refine sw_reg ?_ | ((first | refine aops_k fun _ _ => ?_ | with_reducible refine rw_own ?_); simp [go_sem]; try go_ints) | refine sw_block ?_ | refine sw_t ?_ | refine sw_f ?_ | refine sw_e ?_ | refine ai ?_ | simp only [aops, thn, inB, ↓reduceIte, Nat.reduceEqDiff]))
   simp [go_sem, dN])
 | true =>
  rw [h1] at k1
  cases h2 : emp R with
  | false =>
   rw [h2] at k2; simp only [Bool.not_false, Bool.not_true, Bool.or_true, Bool.true_or, if_true, Option.getD_none, Option.isSome_none, cz0]
   (repeat first | refine hku ?_ | refine sw_seqk fun _ _ => ?_ | refine sw_reg ?_ | ((first | refine aops_k fun _ _ => ?_ | with_reducible refine rw_own ?_); simp [go_sem, hr0]; try go_ints) | refine sw_block ?_ | refine sw_t ?_ | refine sw_f ?_ | refine sw_e ?_ | refine ai ?_ | simp only [aops, thn, inB, ↓reduceIte, Nat.reduceEqDiff])
   (refine ⟨.v _, k1, ?_⟩; simp [go_sem]; (repeat first | refine hku ?_ | refine sw_seqk fun _ _ => ?_ | refine sw_reg ?_ | ((first | refine aops_k fun _ _ => ?_ | with_reducible refine rw_own ?_); simp [go_sem, hRl]; try go_ints) | refine sw_block ?_ | refine sw_t ?_ | refine sw_f ?_ | refine sw_e ?_ | refine ai ?_ | simp only [aops, thn, inB, ↓reduceIte, Nat.reduceEqDiff]))
   (refine ⟨.v _, k2, ?_⟩; simp [go_sem]; (repeat first | refine hku ?_ | refine sw_seqk fun _ _ => ?_ | refine sw_reg ?_ | ((first | refine aops_k fun _ _ => ?_ | with_reducible refine rw_own ?_); simp [go_sem]; try go_ints) | refine sw_block ?_ | refine sw_t ?_ | refine sw_f ?_ | refine sw_e ?_ | refine ai ?_ | simp only [aops, thn, inB, ↓reduceIte, Nat.reduceEqDiff]))
   simp [go_sem, dN]
  | true =>
   rw [h2] at k2
   by_cases h0 : s.cuts.length = 0
   ·have k3 := nnum_v 0 ⟨by omega, by omega⟩; have he : s.cuts = [] := List.eq_nil_of_length_eq_zero h0; simp only [Bool.not_true, Bool.or_false, Bool.false_eq_true, if_false, h0, if_true, Option.getD_some, Option.isSome_some]; generalize cz 0 = z at *
    (repeat first | refine hku ?_ | refine sw_seqk fun _ _ => ?_ | refine sw_reg ?_ | ((first | refine aops_k fun _ _ => ?_ | with_reducible refine rw_own ?_); simp [go_sem, hr0]; try go_ints) | refine sw_block ?_ | refine sw_t ?_ | refine sw_f ?_ | refine sw_e ?_ | refine ai ?_ | simp only [aops, thn, inB, ↓reduceIte, Nat.reduceEqDiff])
    (refine ⟨.v _, k1, ?_⟩; simp [go_sem]; (repeat first | refine hku ?_ | refine sw_seqk fun _ _ => ?_ | refine sw_reg ?_ | ((first | refine aops_k fun _ _ => ?_ | with_reducible refine rw_own ?_); simp [go_sem, hRl]; try go_ints) | refine sw_block ?_ | refine sw_t ?_ | refine sw_f ?_ | refine sw_e ?_ | refine ai ?_ | simp only [aops, thn, inB, ↓reduceIte, Nat.reduceEqDiff]))
    (refine ⟨.v _, k2, ?_⟩; simp [go_sem]; (repeat first | refine hku ?_ | refine sw_seqk fun _ _ => ?_ | refine sw_reg ?_ | ((first | refine aops_k fun _ _ => ?_ | with_reducible refine rw_own ?_); simp [go_sem, he]; try go_ints) | refine sw_block ?_ | refine sw_t ?_ | refine sw_f ?_ | refine sw_e ?_ | refine ai ?_ | simp only [aops, thn, inB, ↓reduceIte, Nat.reduceEqDiff]))
    (refine ⟨.v _, k3, ?_⟩; simp [go_sem]; (repeat first | refine hku ?_ | refine sw_seqk fun _ _ => ?_ | refine sw_reg ?_ | ((first | refine aops_k fun _ _ => ?_ | with_reducible refine rw_own ?_); simp [go_sem]; try go_ints) | refine sw_block ?_ | refine sw_t ?_ | refine sw_f ?_ | refine sw_e ?_ | refine ai ?_ | simp only [aops, thn, inB, ↓reduceIte, Nat.reduceEqDiff]))
    simp [go_sem]
   ·have hne : ¬ s.cuts = [] := fun e => h0 (by rw [e]; rfl)
    have hc0 : 0 < s.cuts.length := by omega
    have hcn : s.cuts.length - 1 < s.cuts.length := by omega
    have k3 := ncount_v s N hs hN s.cuts[0] s.cuts[s.cuts.length - 1] (by have := (hs.cut _ (List.getElem_mem hc0)).1; omega) (by have := (hs.cut _ (List.getElem_mem hcn)).1; omega); have hCl : s.cuts[s.cuts.length - 1]? = some s.cuts[s.cuts.length - 1] := List.getElem?_eq_getElem hcn; simp only [Bool.not_true, Bool.or_false, Bool.false_eq_true, if_false, h0, Option.getD_some, Option.isSome_some, zth_eq _ _ hc0, zth_eq _ _ hcn]; generalize hC : s.cuts[s.cuts.length - 1] = C at *; generalize cz (cntV s s.cuts[0] C.v) = z at *
    (repeat first | refine hku ?_ | refine sw_seqk fun _ _ => ?_ | refine sw_reg ?_ | ((first | refine aops_k fun _ _ => ?_ | with_reducible refine rw_own ?_); simp [go_sem, hr0]; try go_ints) | refine sw_block ?_ | refine sw_t ?_ | refine sw_f ?_ | refine sw_e ?_ | refine ai ?_ | simp only [aops, thn, inB, ↓reduceIte, Nat.reduceEqDiff])
    (refine ⟨.v _, k1, ?_⟩; simp [go_sem]; (repeat first | refine hku ?_ | refine sw_seqk fun _ _ => ?_ | refine sw_reg ?_ | ((first | refine aops_k fun _ _ => ?_ | with_reducible refine rw_own ?_); simp [go_sem, hRl]; try go_ints) | refine sw_block ?_ | refine sw_t ?_ | refine sw_f ?_ | refine sw_e ?_ | refine ai ?_ | simp only [aops, thn, inB, ↓reduceIte, Nat.reduceEqDiff]))
    (refine ⟨.v _, k2, ?_⟩; simp [go_sem]; (repeat first | refine hku ?_ | refine sw_seqk fun _ _ => ?_ | refine sw_reg ?_ | ((first | refine aops_k fun _ _ => ?_ | with_reducible refine rw_own ?_); simp [go_sem, hne, hc0, hCl]; try go_ints) | refine sw_block ?_ | refine sw_t ?_ | refine sw_f ?_ | refine sw_e ?_ | refine ai ?_ | simp only [aops, thn, inB, ↓reduceIte, Nat.reduceEqDiff]))
    (refine ⟨.v _, k3, ?_⟩; simp [go_sem]; (repeat first | refine hku ?_ | refine sw_seqk fun _ _ => ?_ | refine sw_reg ?_ | ((first | refine aops_k fun _ _ => ?_ | with_reducible refine rw_own ?_); simp [go_sem]; try go_ints) | refine sw_block ?_ | refine sw_t ?_ | refine sw_f ?_ | refine sw_e ?_ | refine ai ?_ | simp only [aops, thn, inB, ↓reduceIte, Nat.reduceEqDiff]))
    simp [go_sem]

end Go.Proofs.YtpkfjbljhneenaaGreat
