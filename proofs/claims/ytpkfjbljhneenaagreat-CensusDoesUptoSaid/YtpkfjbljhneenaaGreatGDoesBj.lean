/- riddleref01, riddleref02 in the new words. No conditions. riddleref02: Neg, Abs, Sub, DivMod, Floor, Mod. No conditions. -/
import Derived.Test.YtpkfjbljhneenaaGreatGDoesBh
import Derived.Test.YtpkfjbljhneenaaGreatGDoesBi
import Derived.Test.YtpkfjbljhneenaaGreatGDoesAc
import Derived.Test.YtpkfjbljhneenaaGreatGDoesBk
import Derived.Test.YtpkfjbljhneenaaGreatGDoesAe
namespace Go.Proofs.YtpkfjbljhneenaaGreat
open Go.RowKit

theorem cI {c : Cx} {w : World} {n : Int} (h : i64 n) : RelR c [] w (.int .i64 n) (.c (.i .i64 n)) := ⟨rfl, by simp only [z_min]; exact h.1, by simp only [z_min]; exact h.2⟩
theorem cmp64 (a b : Int) : i64 (cmpI a b) := by have := cmpI_bd a b; exact ⟨by omega, by omega⟩
theorem rnorm_v (z : Z) (h : z.mag.length ≤ 4398046511104) : Fn Tryz.prog 39 [.g (dZ z)] (gZ true (cz z.v)) :=
 fn1 fun _ _ _ hv => (rnorm_c (relD_z.1 hv) h).mono fun _ _ ⟨r, e, h, x⟩ => ⟨r, e, ans_z h, x⟩
theorem rof_v (n : Int) (h : i64 n) : Fn Tryz.prog 62 [.c (.i .i64 n)] (gZ true (cz n)) :=
 fn1 fun w _ v hv => by
  obtain ⟨rfl, _⟩ := relD_i hv
  exact (rof_c n h.1 h.2 w).mono fun _ _ ⟨r, e, h, x⟩ => ⟨r, e, ans_z h, x⟩
theorem rsign_v (z : Z) (h : z.mag.length ≤ 4398046511104) : Fn Tryz.prog 91 [.g (dZ z)] (.c (.i .i64 (sgn z.v))) :=
 fn1 fun _ _ _ hv => (rsign_c (relD_z.1 hv) h).mono fun _ _ ⟨e, x⟩ => ⟨_, e, cI (cmp64 _ _), x⟩
theorem rcmp_v (x y : Z) (h : x.mag.length ≤ 4398046511104) (h' : y.mag.length ≤ 4398046511104) : Fn Tryz.prog 81 [.g (dZ x), .g (dZ y)] (.c (.i .i64 (cmpI x.v y.v))) :=
 fn2 fun _ _ _ _ hu hv => (rcmpz_c (relD_z.1 hu) (relD_z.1 hv) h h').mono fun _ _ ⟨e, x⟩ => ⟨_, e, cI (cmp64 _ _), x⟩
theorem radd_v (x y : Z) (h : x.mag.length ≤ 1099511627776) (h' : y.mag.length ≤ 1099511627776) : Fn Tryz.prog 37 [.g (dZ x), .g (dZ y)] (gZ true (cz (x.v + y.v))) :=
 fn2 fun _ _ _ _ hu hv => (raddz_c (relD_z.1 hu) (relD_z.1 hv) h h').mono fun _ _ ⟨r, e, h, x⟩ => ⟨r, e, ans_z h, x⟩
theorem rmul_v (x y : Z) (h : x.mag.length ≤ 549755813888) (h' : y.mag.length ≤ 549755813888) : Fn Tryz.prog 85 [.g (dZ x), .g (dZ y)] (gZ true (cz (x.v * y.v))) :=
 fn2 fun _ _ _ _ hu hv => (rmulz_c (relD_z.1 hu) (relD_z.1 hv) h h').mono fun _ _ ⟨r, e, h, x⟩ => ⟨r, e, ans_z h, x⟩
theorem rtrim_v (a : List Nat) (hL : a.length ≤ 4398046511104) : Fn Tryz.prog 80 [.c (.l (dN a))] (.c (.l true (dN (lim (nv a))))) :=
 fn1 fun _ _ _ hu => by
  obtain ⟨A, c, rfl, h⟩ := relD_n.1 hu
  exact (rtrim_c h hL).mono fun _ _ ⟨A', c', e, h, x⟩ => ⟨_, e, ans_n h, x⟩
theorem rdivm_v (a b : List Nat) (h0 : 0 < nv b) (hL : a.length ≤ 549755813888) (hLb : b.length ≤ 549755813888) : Fn Tryz.prog 129 [.c (.l (dN a)), .c (.l (dN b))] (.t [.c (.l true (dN (lim (nv a / nv b)))), .c (.l true (dN (lim (nv a % nv b))))]) :=
 fn2 fun _ _ _ _ hu hv => by
  obtain ⟨A, c, rfl, h⟩ := relD_n.1 hu; obtain ⟨B, d, rfl, h'⟩ := relD_n.1 hv
  exact (rdivm_c h h' h0 hL hLb).mono fun _ _ ⟨A1, c1, A2, c2, e, h1, h2, x⟩ => ⟨_, e, ⟨_, rfl, .cons (ans_n h1) (.cons (ans_n h2) .nil)⟩, x⟩
end Go.Proofs.YtpkfjbljhneenaaGreat

namespace Go.Proofs.YtpkfjbljhneenaaGreat
open Go.RowKit

theorem czn (x : Int) : (cz x).neg = decide (x < 0) := rfl
theorem v_not (n : Bool) (l : List Nat) : Z.v ⟨!n, l⟩ = -Z.v ⟨n, l⟩ := by
 cases n <;> simp [Z.v]
theorem v_abs (n : Bool) (l : List Nat) : Z.v ⟨false, l⟩ = ((Z.v ⟨n, l⟩).natAbs : Nat) := by
 rw [natAbs_v]; simp [Z.v]
theorem rneg_v (z : Z) (h : z.mag.length ≤ 4398046511104) : Fn Tryz.prog 86 [.g (dZ z)] (gZ true (cz (-z.v))) := by
 refine Fn.intro' Tryz.func86 [.cell 2 25] 10 fun _ => ?_
 (repeat first | refine hku ?_ | refine sw_seqk fun _ _ => ?_ | refine sw_reg ?_ | ((first | refine aops_k fun _ _ => ?_ | with_reducible refine rw_own ?_); simp [go_sem]; try go_ints) | refine sw_block ?_ | refine sw_t ?_ | refine sw_f ?_ | refine sw_e ?_ | refine ai ?_ | simp only [aops, thn, inB, ↓reduceIte, Nat.reduceEqDiff])
 (refine ⟨.v _, rnorm_v ⟨!z.neg, z.mag⟩ h, ?_⟩; simp [go_sem]; (repeat first | refine hku ?_ | refine sw_seqk fun _ _ => ?_ | refine sw_reg ?_ | ((first | refine aops_k fun _ _ => ?_ | with_reducible refine rw_own ?_); simp [go_sem]; try go_ints) | refine sw_block ?_ | refine sw_t ?_ | refine sw_f ?_ | refine sw_e ?_ | refine ai ?_ | simp only [aops, thn, inB, ↓reduceIte, Nat.reduceEqDiff]))
 rw [v_not]; simp [go_sem]
theorem rabs_v (z : Z) (h : z.mag.length ≤ 4398046511104) : Fn Tryz.prog 112 [.g (dZ z)] (gZ true (cz (z.v.natAbs : Nat))) := by
 refine Fn.intro' Tryz.func112 [.cell 2 25] 7 fun _ => ?_
 (repeat first | refine hku ?_ | refine sw_seqk fun _ _ => ?_ | refine sw_reg ?_ | ((first | refine aops_k fun _ _ => ?_ | with_reducible refine rw_own ?_); simp [go_sem]; try go_ints) | refine sw_block ?_ | refine sw_t ?_ | refine sw_f ?_ | refine sw_e ?_ | refine ai ?_ | simp only [aops, thn, inB, ↓reduceIte, Nat.reduceEqDiff])
 (refine ⟨.v _, rnorm_v ⟨false, z.mag⟩ h, ?_⟩; simp [go_sem]; (repeat first | refine hku ?_ | refine sw_seqk fun _ _ => ?_ | refine sw_reg ?_ | ((first | refine aops_k fun _ _ => ?_ | with_reducible refine rw_own ?_); simp [go_sem]; try go_ints) | refine sw_block ?_ | refine sw_t ?_ | refine sw_f ?_ | refine sw_e ?_ | refine ai ?_ | simp only [aops, thn, inB, ↓reduceIte, Nat.reduceEqDiff]))
 rw [v_abs z.neg]; simp [go_sem]
theorem rsub_v (x y : Z) (h : x.mag.length ≤ 1099511627776) (h' : y.mag.length ≤ 1099511627775) : Fn Tryz.prog 43 [.g (dZ x), .g (dZ y)] (gZ true (cz (x.v - y.v))) := by
 refine Fn.intro' Tryz.func43 [.cell 4 25] 9 fun hok => ?_
 have hl : (cz (-y.v)).mag.length ≤ 1099511627776 := by
  rw [cz_len, zl_neg]; exact Nat.le_trans (zl_of (ok_z (hok (.g (dZ y)) (by simp)))) (by omega)
 (repeat first | refine hku ?_ | refine sw_seqk fun _ _ => ?_ | refine sw_reg ?_ | ((first | refine aops_k fun _ _ => ?_ | with_reducible refine rw_own ?_); simp [go_sem]; try go_ints) | refine sw_block ?_ | refine sw_t ?_ | refine sw_f ?_ | refine sw_e ?_ | refine ai ?_ | simp only [aops, thn, inB, ↓reduceIte, Nat.reduceEqDiff])
 (refine ⟨.v _, rneg_v y (by omega), ?_⟩; simp [go_sem]; (repeat first | refine hku ?_ | refine sw_seqk fun _ _ => ?_ | refine sw_reg ?_ | ((first | refine aops_k fun _ _ => ?_ | with_reducible refine rw_own ?_); simp [go_sem]; try go_ints) | refine sw_block ?_ | refine sw_t ?_ | refine sw_f ?_ | refine sw_e ?_ | refine ai ?_ | simp only [aops, thn, inB, ↓reduceIte, Nat.reduceEqDiff]))
 (refine ⟨.v _, radd_v x (cz (-y.v)) h hl, ?_⟩; simp [go_sem]; (repeat first | refine hku ?_ | refine sw_seqk fun _ _ => ?_ | refine sw_reg ?_ | ((first | refine aops_k fun _ _ => ?_ | with_reducible refine rw_own ?_); simp [go_sem]; try go_ints) | refine sw_block ?_ | refine sw_t ?_ | refine sw_f ?_ | refine sw_e ?_ | refine ai ?_ | simp only [aops, thn, inB, ↓reduceIte, Nat.reduceEqDiff]))
 rw [cz_v]; simp [go_sem, Int.sub_eq_add_neg]
theorem rdm_law (x y : Int) (hy : y ≠ 0) :
  ((decide (x < 0) = decide (y < 0) ∨ x.natAbs % y.natAbs = 0) → x.fdiv y = Z.v ⟨!(decide (x < 0) == decide (y < 0)), lim (x.natAbs / y.natAbs)⟩) ∧
  (decide (x < 0) ≠ decide (y < 0) → x.natAbs % y.natAbs ≠ 0 → x.fdiv y = Z.v ⟨!(decide (x < 0) == decide (y < 0)), lim (x.natAbs / y.natAbs)⟩ - 1) := by
 obtain ⟨l1, l2⟩ := fdivg_law x y hy
 have hm : Z.v ⟨decide (x < 0), lim (x.natAbs % y.natAbs)⟩ = if x < 0 then -((x.natAbs % y.natAbs : Nat) : Int) else ((x.natAbs % y.natAbs : Nat) : Int) := by
  simp only [Z.v, nv_lim, decide_eq_true_eq]
 rw [hm] at l1 l2; generalize x.natAbs % y.natAbs = R at l1 l2 ⊢
 have hsg : R ≠ 0 → decide ((if x < 0 then -(R : Int) else (R : Int)) < 0) = decide (x < 0) := by
  intro h; rw [decide_eq_decide]
  split <;> omega
 have hz : (if x < 0 then -(R : Int) else (R : Int)) = 0 ↔ R = 0 := by split <;> omega
 constructor
 ·intro h; refine (l1 ?_).1
  by_cases h0 : R = 0
  ·exact .inl (hz.2 h0)
  ·refine .inr ?_; rw [hsg h0]; exact h.resolve_right h0
 ·intro h h0; refine (l2 (fun e => h0 (hz.1 e)) ?_).1
  rw [hsg h0]; exact h
theorem rdivmod_v (x y : Z) (h0 : 0 < y.v) (h : x.mag.length ≤ 274877906943) (h' : y.mag.length ≤ 274877906943) : Fn Tryz.prog 110 [.g (dZ x), .g (dZ y)] (.t [aZ true (cz (x.v.fdiv y.v)), aZ true (cz (x.v.fmod y.v)), .c (.i .i64 0)]) := by
 refine Fn.intro' Tryz.func110 [.cell 4 25, .cell 5 25, .tmp 6] 59 fun hok => ?_
 have hbx : Lb x.mag := ok_z (hok (.g (dZ x)) (by simp)); have hby : Lb y.mag := ok_z (hok (.g (dZ y)) (by simp)); have hxl := zl_of hbx; have hyl := zl_of hby
 have hy0 : y.v ≠ 0 := by omega
 have hql : zl (x.v.fdiv y.v) ≤ 274877906943 := fdiv_zl h0 (by omega); have hpl := zl_mul (x.v.fdiv y.v) y.v; have hq : (lim (x.v.natAbs / y.v.natAbs)).length ≤ 4398046511104 := Nat.le_trans (Nat.le_trans (lim_mono (Nat.div_le_self _ _)) hxl) (by omega)
 (repeat first | refine hku ?_ | refine sw_seqk fun _ _ => ?_ | refine sw_reg ?_ | ((first | refine aops_k fun _ _ => ?_ | with_reducible refine rw_own ?_); simp [go_sem]; try go_ints) | refine sw_block ?_ | refine sw_t ?_ | refine sw_f ?_ | refine sw_e ?_ | refine ai ?_ | simp only [aops, thn, inB, ↓reduceIte, Nat.reduceEqDiff])
 (refine ⟨.v _, rsign_v y (by omega), ?_⟩; simp [go_sem]; (repeat first | refine hku ?_ | refine sw_seqk fun _ _ => ?_ | refine sw_reg ?_ | ((first | refine aops_k fun _ _ => ?_ | with_reducible refine rw_own ?_); simp [go_sem, sgn_zero, hy0]; try go_ints) | refine sw_block ?_ | refine sw_t ?_ | refine sw_f ?_ | refine sw_e ?_ | refine ai ?_ | simp only [aops, thn, inB, ↓reduceIte, Nat.reduceEqDiff]))
 (refine ⟨.v _, rnorm_v x (by omega), ?_⟩; simp [go_sem]; (repeat first | refine hku ?_ | refine sw_seqk fun _ _ => ?_ | refine sw_reg ?_ | ((first | refine aops_k fun _ _ => ?_ | with_reducible refine rw_own ?_); simp [go_sem, czn, cz_mag]; try go_ints) | refine sw_block ?_ | refine sw_t ?_ | refine sw_f ?_ | refine sw_e ?_ | refine ai ?_ | simp only [aops, thn, inB, ↓reduceIte, Nat.reduceEqDiff]))
 (refine ⟨.v _, rnorm_v y (by omega), ?_⟩; simp [go_sem]; (repeat first | refine hku ?_ | refine sw_seqk fun _ _ => ?_ | refine sw_reg ?_ | ((first | refine aops_k fun _ _ => ?_ | with_reducible refine rw_own ?_); simp [go_sem, czn, cz_mag]; try go_ints) | refine sw_block ?_ | refine sw_t ?_ | refine sw_f ?_ | refine sw_e ?_ | refine ai ?_ | simp only [aops, thn, inB, ↓reduceIte, Nat.reduceEqDiff]))
 (refine ⟨.v _, rdivm_v (lim x.v.natAbs) (lim y.v.natAbs) (by simp only [nv_lim]; omega) (by unfold zl at hxl; omega) (by unfold zl at hyl; omega), ?_⟩; simp [go_sem]; (repeat first | refine hku ?_ | refine sw_seqk fun _ _ => ?_ | refine sw_reg ?_ | ((first | refine aops_k fun _ _ => ?_ | with_reducible refine rw_own ?_); simp [go_sem, nv_lim]; try go_ints) | refine sw_block ?_ | refine sw_t ?_ | refine sw_f ?_ | refine sw_e ?_ | refine ai ?_ | simp only [aops, thn, inB, ↓reduceIte, Nat.reduceEqDiff]))
 have law : ((decide (x.v < 0) == decide (y.v < 0)) = true ∨ x.v.natAbs % y.v.natAbs = 0 → x.v.fdiv y.v = Z.v ⟨!(decide (x.v < 0) == decide (y.v < 0)), lim (x.v.natAbs / y.v.natAbs)⟩) ∧ ((decide (x.v < 0) == decide (y.v < 0)) = false → x.v.natAbs % y.v.natAbs ≠ 0 → x.v.fdiv y.v = Z.v ⟨!(decide (x.v < 0) == decide (y.v < 0)), lim (x.v.natAbs / y.v.natAbs)⟩ - 1) := by
  have := rdm_law x.v y.v hy0; exact ⟨fun h => this.1 (h.imp_left fun h => by simpa using h), fun h => this.2 (by simpa using h)⟩
 have ht := rtrim_v (lim (x.v.natAbs % y.v.natAbs)) (by have := Nat.mod_lt x.v.natAbs (show 0 < y.v.natAbs by omega); have := lim_mono (Nat.le_of_lt this); unfold zl at hyl; omega); have hm := rmul_v (cz (x.v.fdiv y.v)) (cz y.v) (by rw [cz_len]; omega) (by rw [cz_len]; omega); have hs := rsub_v (cz x.v) (cz (x.v.fdiv y.v * y.v)) (by rw [cz_len]; omega) (by rw [cz_len]; omega); have ho := rof_v 1 ⟨by omega, by omega⟩; rw [cz_v, cz_v] at hm hs; simp only [dZ, czn, cz_mag] at hm hs; generalize decide (x.v < 0) = p at law hs ⊢; generalize decide (y.v < 0) = q at law hm ⊢
 (refine ⟨.v _, rnorm_v ⟨_, lim (x.v.natAbs / y.v.natAbs)⟩ hq, ?_⟩; simp [go_sem]; (repeat first | refine hku ?_ | refine sw_seqk fun _ _ => ?_ | refine sw_reg ?_ | ((first | refine aops_k fun _ _ => ?_ | with_reducible refine rw_own ?_); simp [go_sem, czn, cz_mag]; try go_ints) | refine sw_block ?_ | refine sw_t ?_ | refine sw_f ?_ | refine sw_e ?_ | refine ai ?_ | simp only [aops, thn, inB, ↓reduceIte, Nat.reduceEqDiff]))
 by_cases hb : (p == q) = false
 ·have hb' : p ≠ q := by simpa using hb
  simp [hb, hb']
  (repeat first | refine hku ?_ | refine sw_seqk fun _ _ => ?_ | refine sw_reg ?_ | ((first | refine aops_k fun _ _ => ?_ | with_reducible refine rw_own ?_); simp [go_sem]; try go_ints) | refine sw_block ?_ | refine sw_t ?_ | refine sw_f ?_ | refine sw_e ?_ | refine ai ?_ | simp only [aops, thn, inB, ↓reduceIte, Nat.reduceEqDiff])
  by_cases hr : x.v.natAbs % y.v.natAbs = 0
  ·have e := (law.1 (.inr hr)).symm; rw [hb, Bool.not_false] at e
   (refine ⟨.v _, ht, ?_⟩; simp [go_sem]; (repeat first | refine hku ?_ | refine sw_seqk fun _ _ => ?_ | refine sw_reg ?_ | ((first | refine aops_k fun _ _ => ?_ | with_reducible refine rw_own ?_); simp [go_sem, nv_lim, hr, e]; try go_ints) | refine sw_block ?_ | refine sw_t ?_ | refine sw_f ?_ | refine sw_e ?_ | refine ai ?_ | simp only [aops, thn, inB, ↓reduceIte, Nat.reduceEqDiff]))
   (refine ⟨.v _, hm, ?_⟩; simp [go_sem]; (repeat first | refine hku ?_ | refine sw_seqk fun _ _ => ?_ | refine sw_reg ?_ | ((first | refine aops_k fun _ _ => ?_ | with_reducible refine rw_own ?_); simp [go_sem, czn, cz_mag]; try go_ints) | refine sw_block ?_ | refine sw_t ?_ | refine sw_f ?_ | refine sw_e ?_ | refine ai ?_ | simp only [aops, thn, inB, ↓reduceIte, Nat.reduceEqDiff]))
   (refine ⟨.v _, hs, ?_⟩; simp [go_sem]; (repeat first | refine hku ?_ | refine sw_seqk fun _ _ => ?_ | refine sw_reg ?_ | ((first | refine aops_k fun _ _ => ?_ | with_reducible refine rw_own ?_); simp [go_sem, czn, cz_mag]; try go_ints) | refine sw_block ?_ | refine sw_t ?_ | refine sw_f ?_ | refine sw_e ?_ | refine ai ?_ | simp only [aops, thn, inB, ↓reduceIte, Nat.reduceEqDiff]))
   simp [go_sem, czn, cz_mag, Int.fmod_def, Int.mul_comm]
  ·have e := (law.2 hb hr).symm
   have hlen : 0 < (dN (lim (x.v.natAbs % y.v.natAbs))).length := by simpa [dN] using (lim_len_pos _).2 hr
   rw [hb, Bool.not_false] at e
   (refine ⟨.v _, ht, ?_⟩; simp [go_sem]; (repeat first | refine hku ?_ | refine sw_seqk fun _ _ => ?_ | refine sw_reg ?_ | ((first | refine aops_k fun _ _ => ?_ | with_reducible refine rw_own ?_); simp [go_sem, nv_lim, hlen]; try go_ints) | refine sw_block ?_ | refine sw_t ?_ | refine sw_f ?_ | refine sw_e ?_ | refine ai ?_ | simp only [aops, thn, inB, ↓reduceIte, Nat.reduceEqDiff]))
   have h1 := rsub_v (cz (Z.v ⟨true, lim (x.v.natAbs / y.v.natAbs)⟩)) (cz 1) (by rw [cz_len]; have := zl_of (z := ⟨true, lim (x.v.natAbs / y.v.natAbs)⟩) (lb_lim _); simp only at this; have h2 := Nat.le_trans (lim_mono (Nat.div_le_self x.v.natAbs y.v.natAbs)) hxl; omega) (by rw [cz_len]; have := zl_small (x := 1) (by decide); omega); rw [cz_v, cz_v, e] at h1
   (refine ⟨.v _, ho, ?_⟩; simp [go_sem]; (repeat first | refine hku ?_ | refine sw_seqk fun _ _ => ?_ | refine sw_reg ?_ | ((first | refine aops_k fun _ _ => ?_ | with_reducible refine rw_own ?_); simp [go_sem, czn, cz_mag]; try go_ints) | refine sw_block ?_ | refine sw_t ?_ | refine sw_f ?_ | refine sw_e ?_ | refine ai ?_ | simp only [aops, thn, inB, ↓reduceIte, Nat.reduceEqDiff]))
   (refine ⟨.v _, h1, ?_⟩; simp [go_sem]; (repeat first | refine hku ?_ | refine sw_seqk fun _ _ => ?_ | refine sw_reg ?_ | ((first | refine aops_k fun _ _ => ?_ | with_reducible refine rw_own ?_); simp [go_sem, czn, cz_mag]; try go_ints) | refine sw_block ?_ | refine sw_t ?_ | refine sw_f ?_ | refine sw_e ?_ | refine ai ?_ | simp only [aops, thn, inB, ↓reduceIte, Nat.reduceEqDiff]))
   (refine ⟨.v _, hm, ?_⟩; simp [go_sem]; (repeat first | refine hku ?_ | refine sw_seqk fun _ _ => ?_ | refine sw_reg ?_ | ((first | refine aops_k fun _ _ => ?_ | with_reducible refine rw_own ?_); simp [go_sem, czn, cz_mag]; try go_ints) | refine sw_block ?_ | refine sw_t ?_ | refine sw_f ?_ | refine sw_e ?_ | refine ai ?_ | simp only [aops, thn, inB, ↓reduceIte, Nat.reduceEqDiff]))
   (refine ⟨.v _, hs, ?_⟩; simp [go_sem]; (repeat first | refine hku ?_ | refine sw_seqk fun _ _ => ?_ | refine sw_reg ?_ | ((first | refine aops_k fun _ _ => ?_ | with_reducible refine rw_own ?_); simp [go_sem, czn, cz_mag]; try go_ints) | refine sw_block ?_ | refine sw_t ?_ | refine sw_f ?_ | refine sw_e ?_ | refine ai ?_ | simp only [aops, thn, inB, ↓reduceIte, Nat.reduceEqDiff]))
   simp [go_sem, czn, cz_mag, Int.fmod_def, Int.mul_comm]
 ·have hb' : p = q := by simpa using hb
  subst hb'; have e := (law.1 (.inl (by simp))).symm; simp only [beq_self_eq_true, Bool.not_true] at e; simp [e]
  (repeat first | refine hku ?_ | refine sw_seqk fun _ _ => ?_ | refine sw_reg ?_ | ((first | refine aops_k fun _ _ => ?_ | with_reducible refine rw_own ?_); simp [go_sem]; try go_ints) | refine sw_block ?_ | refine sw_t ?_ | refine sw_f ?_ | refine sw_e ?_ | refine ai ?_ | simp only [aops, thn, inB, ↓reduceIte, Nat.reduceEqDiff])
  (refine ⟨.v _, hm, ?_⟩; simp [go_sem]; (repeat first | refine hku ?_ | refine sw_seqk fun _ _ => ?_ | refine sw_reg ?_ | ((first | refine aops_k fun _ _ => ?_ | with_reducible refine rw_own ?_); simp [go_sem, czn, cz_mag]; try go_ints) | refine sw_block ?_ | refine sw_t ?_ | refine sw_f ?_ | refine sw_e ?_ | refine ai ?_ | simp only [aops, thn, inB, ↓reduceIte, Nat.reduceEqDiff]))
  (refine ⟨.v _, hs, ?_⟩; simp [go_sem]; (repeat first | refine hku ?_ | refine sw_seqk fun _ _ => ?_ | refine sw_reg ?_ | ((first | refine aops_k fun _ _ => ?_ | with_reducible refine rw_own ?_); simp [go_sem, czn, cz_mag]; try go_ints) | refine sw_block ?_ | refine sw_t ?_ | refine sw_f ?_ | refine sw_e ?_ | refine ai ?_ | simp only [aops, thn, inB, ↓reduceIte, Nat.reduceEqDiff]))
  simp [go_sem, czn, cz_mag, Int.fmod_def, Int.mul_comm]
theorem rfloor_v (x y : Z) (h0 : 0 < y.v) (h : x.mag.length ≤ 274877906943) (h' : y.mag.length ≤ 274877906943) : Fn Tryz.prog 82 [.g (dZ x), .g (dZ y)] (gZ true (cz (x.v.fdiv y.v))) := by
 refine Fn.intro' Tryz.func82 [.cell 4 25] 16 fun _ => ?_
 (repeat first | refine hku ?_ | refine sw_seqk fun _ _ => ?_ | refine sw_reg ?_ | ((first | refine aops_k fun _ _ => ?_ | with_reducible refine rw_own ?_); simp [go_sem]; try go_ints) | refine sw_block ?_ | refine sw_t ?_ | refine sw_f ?_ | refine sw_e ?_ | refine ai ?_ | simp only [aops, thn, inB, ↓reduceIte, Nat.reduceEqDiff])
 (refine ⟨.v _, rdivmod_v x y h0 h h', ?_⟩; simp [go_sem]; (repeat first | refine hku ?_ | refine sw_seqk fun _ _ => ?_ | refine sw_reg ?_ | ((first | refine aops_k fun _ _ => ?_ | with_reducible refine rw_own ?_); simp [go_sem, czn, cz_mag]; try go_ints) | refine sw_block ?_ | refine sw_t ?_ | refine sw_f ?_ | refine sw_e ?_ | refine ai ?_ | simp only [aops, thn, inB, ↓reduceIte, Nat.reduceEqDiff]))
 simp [go_sem, czn, cz_mag]
theorem rmod_v (x y : Z) (h0 : 0 < y.v) (h : x.mag.length ≤ 274877906943) (h' : y.mag.length ≤ 274877906943) : Fn Tryz.prog 84 [.g (dZ x), .g (dZ y)] (gZ true (cz (x.v.fmod y.v))) := by
 refine Fn.intro' Tryz.func84 [.cell 4 25] 16 fun _ => ?_
 (repeat first | refine hku ?_ | refine sw_seqk fun _ _ => ?_ | refine sw_reg ?_ | ((first | refine aops_k fun _ _ => ?_ | with_reducible refine rw_own ?_); simp [go_sem]; try go_ints) | refine sw_block ?_ | refine sw_t ?_ | refine sw_f ?_ | refine sw_e ?_ | refine ai ?_ | simp only [aops, thn, inB, ↓reduceIte, Nat.reduceEqDiff])
 (refine ⟨.v _, rdivmod_v x y h0 h h', ?_⟩; simp [go_sem]; (repeat first | refine hku ?_ | refine sw_seqk fun _ _ => ?_ | refine sw_reg ?_ | ((first | refine aops_k fun _ _ => ?_ | with_reducible refine rw_own ?_); simp [go_sem, czn, cz_mag]; try go_ints) | refine sw_block ?_ | refine sw_t ?_ | refine sw_f ?_ | refine sw_e ?_ | refine ai ?_ | simp only [aops, thn, inB, ↓reduceIte, Nat.reduceEqDiff]))
 simp [go_sem, czn, cz_mag]

end Go.Proofs.YtpkfjbljhneenaaGreat
