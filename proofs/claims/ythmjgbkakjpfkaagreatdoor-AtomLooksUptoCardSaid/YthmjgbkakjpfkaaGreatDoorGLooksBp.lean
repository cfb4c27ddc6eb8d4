/- riddleref02: Neg, Abs, Sub, DivMod, Floor, Mod. No conditions. riddleref02.Gcd. No conditions. riddleref06: coefs, constant, Less, modulo. No conditions. -/
import Derived.Test.YthmjgbkakjpfkaaGreatDoorGLooksBo
import Derived.Test.YthmjgbkakjpfkaaGreatDoorGLooksBj
import Derived.Test.YthmjgbkakjpfkaaGreatDoorGLooksAp
import Derived.Test.YthmjgbkakjpfkaaGreatDoorGLooksBa
import Derived.Test.YthmjgbkakjpfkaaGreatDoorGLooksAq
import Derived.Test.YthmjgbkakjpfkaaGreatDoorGLooksBq
import Derived.Test.YthmjgbkakjpfkaaGreatDoorGLooksBc
import Derived.Test.YthmjgbkakjpfkaaGreatDoorGLooksBm
namespace Go.Proofs.YthmjgbkakjpfkaaGreatDoor
open Go.RowKit

theorem czn (x : Int) : (cz x).neg = decide (x < 0) := rfl
theorem v_not (n : Bool) (l : List Nat) : Z.v ⟨!n, l⟩ = -Z.v ⟨n, l⟩ := by
  cases n <;> simp [Z.v]
theorem v_abs (n : Bool) (l : List Nat) : Z.v ⟨false, l⟩ = ((Z.v ⟨n, l⟩).natAbs : Nat) := by
  rw [natAbs_v]; simp [Z.v]
theorem rneg_v (z : Z) (h : z.mag.length ≤ 4398046511104) : Fn Tryz.prog 117 [.g (dZ z)] (gZ true (cz (-z.v))) := by
  refine Fn.intro' Tryz.func117 [.cell 2 24] 10 fun _ => ?_
  (repeat (first | (refine hk_use (by assumption) ?_) | (refine sw_seqk fun _ _ => ?_) | (refine sw_reg ?_) | (refine aops_k fun _ _ => ?_; simp [go_sem]; try go_ints) | refine sw_block ?_ | refine sw_ct rfl ?_ | refine sw_cf rfl ?_ | refine sw_skip ?_ | refine sw_exit ?_ | refine sw_ret ?_ | refine And.intro (by first | omega | rfl) ?_ | simp only [aops, thn, inB, ↓reduceIte, Nat.reduceEqDiff]))
  (refine ⟨.v _, rnorm_v ⟨!z.neg, z.mag⟩ h, ?_⟩; simp [go_sem]; (repeat (first | (refine hk_use (by assumption) ?_) | (refine sw_seqk fun _ _ => ?_) | (refine sw_reg ?_) | (refine aops_k fun _ _ => ?_; simp [go_sem]; try go_ints) | refine sw_block ?_ | refine sw_ct rfl ?_ | refine sw_cf rfl ?_ | refine sw_skip ?_ | refine sw_exit ?_ | refine sw_ret ?_ | refine And.intro (by first | omega | rfl) ?_ | simp only [aops, thn, inB, ↓reduceIte, Nat.reduceEqDiff])))
  rw [v_not]
  simp [go_sem]
theorem rabs_v (z : Z) (h : z.mag.length ≤ 4398046511104) : Fn Tryz.prog 106 [.g (dZ z)] (gZ true (cz (z.v.natAbs : Nat))) := by
  refine Fn.intro' Tryz.func106 [.cell 2 24] 7 fun _ => ?_
  (repeat (first | (refine hk_use (by assumption) ?_) | (refine sw_seqk fun _ _ => ?_) | (refine sw_reg ?_) | (refine aops_k fun _ _ => ?_; simp [go_sem]; try go_ints) | refine sw_block ?_ | refine sw_ct rfl ?_ | refine sw_cf rfl ?_ | refine sw_skip ?_ | refine sw_exit ?_ | refine sw_ret ?_ | refine And.intro (by first | omega | rfl) ?_ | simp only [aops, thn, inB, ↓reduceIte, Nat.reduceEqDiff]))
  (refine ⟨.v _, rnorm_v ⟨false, z.mag⟩ h, ?_⟩; simp [go_sem]; (repeat (first | (refine hk_use (by assumption) ?_) | (refine sw_seqk fun _ _ => ?_) | (refine sw_reg ?_) | (refine aops_k fun _ _ => ?_; simp [go_sem]; try go_ints) | refine sw_block ?_ | refine sw_ct rfl ?_ | refine sw_cf rfl ?_ | refine sw_skip ?_ | refine sw_exit ?_ | refine sw_ret ?_ | refine And.intro (by first | omega | rfl) ?_ | simp only [aops, thn, inB, ↓reduceIte, Nat.reduceEqDiff])))
  rw [v_abs z.neg]
  simp [go_sem]
theorem rsub_v (x y : Z) (h : x.mag.length ≤ 1099511627776) (h' : y.mag.length ≤ 1099511627775) : Fn Tryz.prog 74 [.g (dZ x), .g (dZ y)] (gZ true (cz (x.v - y.v))) := by
  refine Fn.intro' Tryz.func74 [.cell 4 24] 9 fun hok => ?_
  have hl : (cz (-y.v)).mag.length ≤ 1099511627776 := by
    rw [cz_len, zl_neg]
    exact Nat.le_trans (zl_of (ok_z (hok (.g (dZ y)) (by simp)))) (by omega)
  (repeat (first | (refine hk_use (by assumption) ?_) | (refine sw_seqk fun _ _ => ?_) | (refine sw_reg ?_) | (refine aops_k fun _ _ => ?_; simp [go_sem]; try go_ints) | refine sw_block ?_ | refine sw_ct rfl ?_ | refine sw_cf rfl ?_ | refine sw_skip ?_ | refine sw_exit ?_ | refine sw_ret ?_ | refine And.intro (by first | omega | rfl) ?_ | simp only [aops, thn, inB, ↓reduceIte, Nat.reduceEqDiff]))
  (refine ⟨.v _, rneg_v y (by omega), ?_⟩; simp [go_sem]; (repeat (first | (refine hk_use (by assumption) ?_) | (refine sw_seqk fun _ _ => ?_) | (refine sw_reg ?_) | (refine aops_k fun _ _ => ?_; simp [go_sem]; try go_ints) | refine sw_block ?_ | refine sw_ct rfl ?_ | refine sw_cf rfl ?_ | refine sw_skip ?_ | refine sw_exit ?_ | refine sw_ret ?_ | refine And.intro (by first | omega | rfl) ?_ | simp only [aops, thn, inB, ↓reduceIte, Nat.reduceEqDiff])))
  (refine ⟨.v _, radd_v x (cz (-y.v)) h hl, ?_⟩; simp [go_sem]; (repeat (first | (refine hk_use (by assumption) ?_) | (refine sw_seqk fun _ _ => ?_) | (refine sw_reg ?_) | (refine aops_k fun _ _ => ?_; simp [go_sem]; try go_ints) | refine sw_block ?_ | refine sw_ct rfl ?_ | refine sw_cf rfl ?_ | refine sw_skip ?_ | refine sw_exit ?_ | refine sw_ret ?_ | refine And.intro (by first | omega | rfl) ?_ | simp only [aops, thn, inB, ↓reduceIte, Nat.reduceEqDiff])))
  rw [cz_v]
  simp [go_sem, Int.sub_eq_add_neg]
theorem rdm_law (x y : Int) (hy : y ≠ 0) :
    ((decide (x < 0) = decide (y < 0) ∨ x.natAbs % y.natAbs = 0) → x.fdiv y = Z.v ⟨!(decide (x < 0) == decide (y < 0)), lim (x.natAbs / y.natAbs)⟩) ∧
    (decide (x < 0) ≠ decide (y < 0) → x.natAbs % y.natAbs ≠ 0 → x.fdiv y = Z.v ⟨!(decide (x < 0) == decide (y < 0)), lim (x.natAbs / y.natAbs)⟩ - 1) := by
  obtain ⟨l1, l2⟩ := fdivg_law x y hy
  have hm : Z.v ⟨decide (x < 0), lim (x.natAbs % y.natAbs)⟩ = if x < 0 then -((x.natAbs % y.natAbs : Nat) : Int) else ((x.natAbs % y.natAbs : Nat) : Int) := by
    simp only [Z.v, nv_lim, decide_eq_true_eq]
  rw [hm] at l1 l2
  generalize x.natAbs % y.natAbs = R at l1 l2 ⊢
  have hsg : R ≠ 0 → decide ((if x < 0 then -(R : Int) else (R : Int)) < 0) = decide (x < 0) := by
    intro h
    rw [decide_eq_decide]
    split <;> omega
  have hz : (if x < 0 then -(R : Int) else (R : Int)) = 0 ↔ R = 0 := by split <;> omega
  constructor
  · intro h
    refine (l1 ?_).1
    by_cases h0 : R = 0
    · exact .inl (hz.2 h0)
    · refine .inr ?_
      rw [hsg h0]
      exact h.resolve_right h0
  · intro h h0
    refine (l2 (fun e => h0 (hz.1 e)) ?_).1
    rw [hsg h0]; exact h
theorem rdivmod_v (x y : Z) (h0 : 0 < y.v) (h : x.mag.length ≤ 274877906943) (h' : y.mag.length ≤ 274877906943) : Fn Tryz.prog 116 [.g (dZ x), .g (dZ y)] (.t [aZ true (cz (x.v.fdiv y.v)), aZ true (cz (x.v.fmod y.v)), .c (.i .i64 0)]) := by
  refine Fn.intro' Tryz.func116 [.cell 4 24, .cell 5 24, .tmp 6] 59 fun hok => ?_
  have hbx : Lb x.mag := ok_z (hok (.g (dZ x)) (by simp))
  have hby : Lb y.mag := ok_z (hok (.g (dZ y)) (by simp))
  have hxl := zl_of hbx
  have hyl := zl_of hby
  have hy0 : y.v ≠ 0 := by omega
  have hql : zl (x.v.fdiv y.v) ≤ 274877906943 := fdiv_zl h0 (by omega)
  have hpl := zl_mul (x.v.fdiv y.v) y.v
  have hq : (lim (x.v.natAbs / y.v.natAbs)).length ≤ 4398046511104 := Nat.le_trans (Nat.le_trans (lim_mono (Nat.div_le_self _ _)) hxl) (by omega)
  (repeat (first | (refine hk_use (by assumption) ?_) | (refine sw_seqk fun _ _ => ?_) | (refine sw_reg ?_) | (refine aops_k fun _ _ => ?_; simp [go_sem]; try go_ints) | refine sw_block ?_ | refine sw_ct rfl ?_ | refine sw_cf rfl ?_ | refine sw_skip ?_ | refine sw_exit ?_ | refine sw_ret ?_ | refine And.intro (by first | omega | rfl) ?_ | simp only [aops, thn, inB, ↓reduceIte, Nat.reduceEqDiff]))
  (refine ⟨.v _, rsign_v y (by omega), ?_⟩; simp [go_sem]; (repeat (first | (refine hk_use (by assumption) ?_) | (refine sw_seqk fun _ _ => ?_) | (refine sw_reg ?_) | (refine aops_k fun _ _ => ?_; simp [go_sem, sgn_zero, hy0]; try go_ints) | refine sw_block ?_ | refine sw_ct rfl ?_ | refine sw_cf rfl ?_ | refine sw_skip ?_ | refine sw_exit ?_ | refine sw_ret ?_ | refine And.intro (by first | omega | rfl) ?_ | simp only [aops, thn, inB, ↓reduceIte, Nat.reduceEqDiff])))
  (refine ⟨.v _, rnorm_v x (by omega), ?_⟩; simp [go_sem]; (repeat (first | (refine hk_use (by assumption) ?_) | (refine sw_seqk fun _ _ => ?_) | (refine sw_reg ?_) | (refine aops_k fun _ _ => ?_; simp [go_sem, czn, cz_mag]; try go_ints) | refine sw_block ?_ | refine sw_ct rfl ?_ | refine sw_cf rfl ?_ | refine sw_skip ?_ | refine sw_exit ?_ | refine sw_ret ?_ | refine And.intro (by first | omega | rfl) ?_ | simp only [aops, thn, inB, ↓reduceIte, Nat.reduceEqDiff])))
  (refine ⟨.v _, rnorm_v y (by omega), ?_⟩; simp [go_sem]; (repeat (first | (refine hk_use (by assumption) ?_) | (refine sw_seqk fun _ _ => ?_) | (refine sw_reg ?_) | (refine aops_k fun _ _ => ?_; simp [go_sem, czn, cz_mag]; try go_ints) | refine sw_block ?_ | refine sw_ct rfl ?_ | refine sw_cf rfl ?_ | refine sw_skip ?_ | refine sw_exit ?_ | refine sw_ret ?_ | refine And.intro (by first | omega | rfl) ?_ | simp only [aops, thn, inB, ↓reduceIte, Nat.reduceEqDiff])))
  (refine ⟨.v _, rdivm_v (lim x.v.natAbs) (lim y.v.natAbs) (by simp only [nv_lim]; omega) (by unfold zl at hxl; omega) (by unfold zl at hyl; omega), ?_⟩; simp [go_sem]; (repeat (first | (refine hk_use (by assumption) ?_) | (refine sw_seqk fun _ _ => ?_) | (refine sw_reg ?_) | (refine aops_k fun _ _ => ?_; simp [go_sem, nv_lim]; try go_ints) | refine sw_block ?_ | refine sw_ct rfl ?_ | refine sw_cf rfl ?_ | refine sw_skip ?_ | refine sw_exit ?_ | refine sw_ret ?_ | refine And.intro (by first | omega | rfl) ?_ | simp only [aops, thn, inB, ↓reduceIte, Nat.reduceEqDiff])))
  have law : ((decide (x.v < 0) == decide (y.v < 0)) = true ∨ x.v.natAbs % y.v.natAbs = 0 → x.v.fdiv y.v = Z.v ⟨!(decide (x.v < 0) == decide (y.v < 0)), lim (x.v.natAbs / y.v.natAbs)⟩) ∧ ((decide (x.v < 0) == decide (y.v < 0)) = false → x.v.natAbs % y.v.natAbs ≠ 0 → x.v.fdiv y.v = Z.v ⟨!(decide (x.v < 0) == decide (y.v < 0)), lim (x.v.natAbs / y.v.natAbs)⟩ - 1) := by
    have := rdm_law x.v y.v hy0
    exact ⟨fun h => this.1 (h.imp_left fun h => by simpa using h), fun h => this.2 (by simpa using h)⟩
  have ht := rtrim_v (lim (x.v.natAbs % y.v.natAbs)) (by have := Nat.mod_lt x.v.natAbs (show 0 < y.v.natAbs by omega); have := lim_mono (Nat.le_of_lt this); unfold zl at hyl; omega)
  have hm := rmul_v (cz (x.v.fdiv y.v)) (cz y.v) (by rw [cz_len]; omega) (by rw [cz_len]; omega)
  have hs := rsub_v (cz x.v) (cz (x.v.fdiv y.v * y.v)) (by rw [cz_len]; omega) (by rw [cz_len]; omega)
  have ho := rof_v 1 ⟨by omega, by omega⟩
  rw [cz_v, cz_v] at hm hs
  simp only [dZ, czn, cz_mag] at hm hs
  generalize decide (x.v < 0) = p at law hs ⊢
  generalize decide (y.v < 0) = q at law hm ⊢
  (refine ⟨.v _, rnorm_v ⟨_, lim (x.v.natAbs / y.v.natAbs)⟩ hq, ?_⟩; simp [go_sem]; (repeat (first | (refine hk_use (by assumption) ?_) | (refine sw_seqk fun _ _ => ?_) | (refine sw_reg ?_) | (refine aops_k fun _ _ => ?_; simp [go_sem, czn, cz_mag]; try go_ints) | refine sw_block ?_ | refine sw_ct rfl ?_ | refine sw_cf rfl ?_ | refine sw_skip ?_ | refine sw_exit ?_ | refine sw_ret ?_ | refine And.intro (by first | omega | rfl) ?_ | simp only [aops, thn, inB, ↓reduceIte, Nat.reduceEqDiff])))
  by_cases hb : (p == q) = false
  · have hb' : p ≠ q := by simpa using hb
    simp [hb, hb']
    (repeat (first | (refine hk_use (by assumption) ?_) | (refine sw_seqk fun _ _ => ?_) | (refine sw_reg ?_) | (refine aops_k fun _ _ => ?_; simp [go_sem]; try go_ints) | refine sw_block ?_ | refine sw_ct rfl ?_ | refine sw_cf rfl ?_ | refine sw_skip ?_ | refine sw_exit ?_ | refine sw_ret ?_ | refine And.intro (by first | omega | rfl) ?_ | simp only [aops, thn, inB, ↓reduceIte, Nat.reduceEqDiff]))
    by_cases hr : x.v.natAbs % y.v.natAbs = 0
    · have e := (law.1 (.inr hr)).symm
      rw [hb, Bool.not_false] at e
      (refine ⟨.v _, ht, ?_⟩; simp [go_sem]; (repeat (first | (refine hk_use (by assumption) ?_) | (refine sw_seqk fun _ _ => ?_) | (refine sw_reg ?_) | (refine aops_k fun _ _ => ?_; simp [go_sem, nv_lim, hr, e]; try go_ints) | refine sw_block ?_ | refine sw_ct rfl ?_ | refine sw_cf rfl ?_ | refine sw_skip ?_ | refine sw_exit ?_ | refine sw_ret ?_ | refine And.intro (by first | omega | rfl) ?_ | simp only [aops, thn, inB, ↓reduceIte, Nat.reduceEqDiff])))
      (refine ⟨.v _, hm, ?_⟩; simp [go_sem]; (repeat (first | (refine hk_use (by assumption) ?_) | (refine sw_seqk fun _ _ => ?_) | (refine sw_reg ?_) | (refine aops_k fun _ _ => ?_; simp [go_sem, czn, cz_mag]; try go_ints) | refine sw_block ?_ | refine sw_ct rfl ?_ | refine sw_cf rfl ?_ | refine sw_skip ?_ | refine sw_exit ?_ | refine sw_ret ?_ | refine And.intro (by first | omega | rfl) ?_ | simp only [aops, thn, inB, ↓reduceIte, Nat.reduceEqDiff])))
      (refine ⟨.v _, hs, ?_⟩; simp [go_sem]; (repeat (first | (refine hk_use (by assumption) ?_) | (refine sw_seqk fun _ _ => ?_) | (refine sw_reg ?_) | (refine aops_k fun _ _ => ?_; simp [go_sem, czn, cz_mag]; try go_ints) | refine sw_block ?_ | refine sw_ct rfl ?_ | refine sw_cf rfl ?_ | refine sw_skip ?_ | refine sw_exit ?_ | refine sw_ret ?_ | refine And.intro (by first | omega | rfl) ?_ | simp only [aops, thn, inB, ↓reduceIte, Nat.reduceEqDiff])))
      simp [go_sem, czn, cz_mag, Int.fmod_def, Int.mul_comm]
    · have e := (law.2 hb hr).symm
      have hlen : 0 < (dN (lim (x.v.natAbs % y.v.natAbs))).length := by simpa [dN] using (lim_len_pos _).2 hr
      rw [hb, Bool.not_false] at e
      (refine ⟨.v _, ht, ?_⟩; simp [go_sem]; (repeat (first | (refine hk_use (by assumption) ?_) | (refine sw_seqk fun _ _ => ?_) | (refine sw_reg ?_) | (refine aops_k fun _ _ => ?_; simp [go_sem, nv_lim, hlen]; try go_ints) | refine sw_block ?_ | refine sw_ct rfl ?_ | refine sw_cf rfl ?_ | refine sw_skip ?_ | refine sw_exit ?_ | refine sw_ret ?_ | refine And.intro (by first | omega | rfl) ?_ | simp only [aops, thn, inB, ↓reduceIte, Nat.reduceEqDiff])))
      have h1 := rsub_v (cz (Z.v ⟨true, lim (x.v.natAbs / y.v.natAbs)⟩)) (cz 1) (by rw [cz_len]; have := zl_of (z := ⟨true, lim (x.v.natAbs / y.v.natAbs)⟩) (lb_lim _); simp only at this; have h2 := Nat.le_trans (lim_mono (Nat.div_le_self x.v.natAbs y.v.natAbs)) hxl; omega) (by rw [cz_len]; have := zl_small (x := 1) (by decide); omega)
      rw [cz_v, cz_v, e] at h1
      (refine ⟨.v _, ho, ?_⟩; simp [go_sem]; (repeat (first | (refine hk_use (by assumption) ?_) | (refine sw_seqk fun _ _ => ?_) | (refine sw_reg ?_) | (refine aops_k fun _ _ => ?_; simp [go_sem, czn, cz_mag]; try go_ints) | refine sw_block ?_ | refine sw_ct rfl ?_ | refine sw_cf rfl ?_ | refine sw_skip ?_ | refine sw_exit ?_ | refine sw_ret ?_ | refine And.intro (by first | omega | rfl) ?_ | simp only [aops, thn, inB, ↓reduceIte, Nat.reduceEqDiff])))
      (refine ⟨.v _, h1, ?_⟩; simp [go_sem]; (repeat (first | (refine hk_use (by assumption) ?_) | (refine sw_seqk fun _ _ => ?_) | (refine sw_reg ?_) | (refine aops_k fun _ _ => ?_; simp [go_sem, czn, cz_mag]; try go_ints) | refine sw_block ?_ | refine sw_ct rfl ?_ | refine sw_cf rfl ?_ | refine sw_skip ?_ | refine sw_exit ?_ | refine sw_ret ?_ | refine And.intro (by first | omega | rfl) ?_ | simp only [aops, thn, inB, ↓reduceIte, Nat.reduceEqDiff])))
      (refine ⟨.v _, hm, ?_⟩; simp [go_sem]; (repeat (first | (refine hk_use (by assumption) ?_) | (refine sw_seqk fun _ _ => ?_) | (refine sw_reg ?_) | (refine aops_k fun _ _ => ?_; simp [go_sem, czn, cz_mag]; try go_ints) | refine sw_block ?_ | refine sw_ct rfl ?_ | refine sw_cf rfl ?_ | refine sw_skip ?_ | refine sw_exit ?_ | refine sw_ret ?_ | refine And.intro (by first | omega | rfl) ?_ | simp only [aops, thn, inB, ↓reduceIte, Nat.reduceEqDiff])))
      (refine ⟨.v _, hs, ?_⟩; simp [go_sem]; (repeat (first | (refine hk_use (by assumption) ?_) | (refine sw_seqk fun _ _ => ?_) | (refine sw_reg ?_) | (refine aops_k fun _ _ => ?_; simp [go_sem, czn, cz_mag]; try go_ints) | refine sw_block ?_ | refine sw_ct rfl ?_ | refine sw_cf rfl ?_ | refine sw_skip ?_ | refine sw_exit ?_ | refine sw_ret ?_ | refine And.intro (by first | omega | rfl) ?_ | simp only [aops, thn, inB, ↓reduceIte, Nat.reduceEqDiff])))
      simp [go_sem, czn, cz_mag, Int.fmod_def, Int.mul_comm]
  · have hb' : p = q := by simpa using hb
    subst hb'
    have e := (law.1 (.inl (by simp))).symm
    simp only [beq_self_eq_true, Bool.not_true] at e
    simp [e]
    (repeat (first | (refine hk_use (by assumption) ?_) | (refine sw_seqk fun _ _ => ?_) | (refine sw_reg ?_) | (refine aops_k fun _ _ => ?_; simp [go_sem]; try go_ints) | refine sw_block ?_ | refine sw_ct rfl ?_ | refine sw_cf rfl ?_ | refine sw_skip ?_ | refine sw_exit ?_ | refine sw_ret ?_ | refine And.intro (by first | omega | rfl) ?_ | simp only [aops, thn, inB, ↓reduceIte, Nat.reduceEqDiff]))
    (refine ⟨.v _, hm, ?_⟩; simp [go_sem]; (repeat (first | (refine hk_use (by assumption) ?_) | (refine sw_seqk fun _ _ => ?_) | (refine sw_reg ?_) | (refine aops_k fun _ _ => ?_; simp [go_sem, czn, cz_mag]; try go_ints) | refine sw_block ?_ | refine sw_ct rfl ?_ | refine sw_cf rfl ?_ | refine sw_skip ?_ | refine sw_exit ?_ | refine sw_ret ?_ | refine And.intro (by first | omega | rfl) ?_ | simp only [aops, thn, inB, ↓reduceIte, Nat.reduceEqDiff])))
    (refine ⟨.v _, hs, ?_⟩; simp [go_sem]; (repeat (first | (refine hk_use (by assumption) ?_) | (refine sw_seqk fun _ _ => ?_) | (refine sw_reg ?_) | (refine aops_k fun _ _ => ?_; simp [go_sem, czn, cz_mag]; try go_ints) | refine sw_block ?_ | refine sw_ct rfl ?_ | refine sw_cf rfl ?_ | refine sw_skip ?_ | refine sw_exit ?_ | refine sw_ret ?_ | refine And.intro (by first | omega | rfl) ?_ | simp only [aops, thn, inB, ↓reduceIte, Nat.reduceEqDiff])))
    simp [go_sem, czn, cz_mag, Int.fmod_def, Int.mul_comm]
theorem rfloor_v (x y : Z) (h0 : 0 < y.v) (h : x.mag.length ≤ 274877906943) (h' : y.mag.length ≤ 274877906943) : Fn Tryz.prog 73 [.g (dZ x), .g (dZ y)] (gZ true (cz (x.v.fdiv y.v))) := by
  refine Fn.intro' Tryz.func73 [.cell 4 24] 16 fun _ => ?_
  (repeat (first | (refine hk_use (by assumption) ?_) | (refine sw_seqk fun _ _ => ?_) | (refine sw_reg ?_) | (refine aops_k fun _ _ => ?_; simp [go_sem]; try go_ints) | refine sw_block ?_ | refine sw_ct rfl ?_ | refine sw_cf rfl ?_ | refine sw_skip ?_ | refine sw_exit ?_ | refine sw_ret ?_ | refine And.intro (by first | omega | rfl) ?_ | simp only [aops, thn, inB, ↓reduceIte, Nat.reduceEqDiff]))
  (refine ⟨.v _, rdivmod_v x y h0 h h', ?_⟩; simp [go_sem]; (repeat (first | (refine hk_use (by assumption) ?_) | (refine sw_seqk fun _ _ => ?_) | (refine sw_reg ?_) | (refine aops_k fun _ _ => ?_; simp [go_sem, czn, cz_mag]; try go_ints) | refine sw_block ?_ | refine sw_ct rfl ?_ | refine sw_cf rfl ?_ | refine sw_skip ?_ | refine sw_exit ?_ | refine sw_ret ?_ | refine And.intro (by first | omega | rfl) ?_ | simp only [aops, thn, inB, ↓reduceIte, Nat.reduceEqDiff])))
  simp [go_sem, czn, cz_mag]
theorem rmod_v (x y : Z) (h0 : 0 < y.v) (h : x.mag.length ≤ 274877906943) (h' : y.mag.length ≤ 274877906943) : Fn Tryz.prog 108 [.g (dZ x), .g (dZ y)] (gZ true (cz (x.v.fmod y.v))) := by
  refine Fn.intro' Tryz.func108 [.cell 4 24] 16 fun _ => ?_
  (repeat (first | (refine hk_use (by assumption) ?_) | (refine sw_seqk fun _ _ => ?_) | (refine sw_reg ?_) | (refine aops_k fun _ _ => ?_; simp [go_sem]; try go_ints) | refine sw_block ?_ | refine sw_ct rfl ?_ | refine sw_cf rfl ?_ | refine sw_skip ?_ | refine sw_exit ?_ | refine sw_ret ?_ | refine And.intro (by first | omega | rfl) ?_ | simp only [aops, thn, inB, ↓reduceIte, Nat.reduceEqDiff]))
  (refine ⟨.v _, rdivmod_v x y h0 h h', ?_⟩; simp [go_sem]; (repeat (first | (refine hk_use (by assumption) ?_) | (refine sw_seqk fun _ _ => ?_) | (refine sw_reg ?_) | (refine aops_k fun _ _ => ?_; simp [go_sem, czn, cz_mag]; try go_ints) | refine sw_block ?_ | refine sw_ct rfl ?_ | refine sw_cf rfl ?_ | refine sw_skip ?_ | refine sw_exit ?_ | refine sw_ret ?_ | refine And.intro (by first | omega | rfl) ?_ | simp only [aops, thn, inB, ↓reduceIte, Nat.reduceEqDiff])))
  simp [go_sem, czn, cz_mag]

end Go.Proofs.YthmjgbkakjpfkaaGreatDoor

namespace Go.Proofs.YthmjgbkakjpfkaaGreatDoor
open Go.RowKit

theorem gcdL_zl {l : List Int} {N : Nat} (h : ∀ x ∈ l, zl x ≤ N) : zl (gcdL l : Int) ≤ N := by
  have key : ∀ (l : List Int) (g : Nat), zl (g : Int) ≤ N → (∀ x ∈ l, zl x ≤ N) → zl ((l.foldl (fun g x => Nat.gcd g x.natAbs) g : Nat) : Int) ≤ N := by
    intro l
    induction l with
    | nil => exact fun g hg _ => hg
    | cons x l ih => exact fun g hg h => ih _ (gcd_zl hg (h x (List.mem_cons_self ..))) fun y hy => h y (List.mem_cons_of_mem _ hy)
  exact key l 0 (Nat.zero_le _) h
theorem take_snoc {α : Type} {l : List α} {i : Nat} (h : i < l.length) : l.take (i + 1) = l.take i ++ [l[i]] := by rw [List.take_succ_eq_append_getElem h]
theorem gcdL_next {l : List Int} {i : Nat} (h : i < l.length) : gcdL (l.take (i + 1)) = Nat.gcd (gcdL (l.take i)) (l[i]).natAbs := by rw [take_snoc h, gcdL_snoc]
theorem rgcd_v (zs : List Z) (hs : ∀ z ∈ zs, z.mag.length ≤ 549755813888) (hl : zs.length ≤ 4398046511104) : Fn Tryz.prog 69 [.c (.l (zs.map dZ))] (gZ true (cz (gcdL (zs.map Z.v) : Nat))) := by
  refine Fn.intro' Tryz.func69 [.cell 2 24] 21 fun hok => ?_
  have hb : ∀ z ∈ zs, Lb z.mag := fun z hz => ok_z ((ok_l.1 (hok (.c (.l (zs.map dZ))) (by simp))).2 (dZ z) (List.mem_map.2 ⟨z, hz, rfl⟩))
  have hg : ∀ i, zl (gcdL ((zs.map Z.v).take i) : Nat) ≤ 549755813888 := fun i => gcdL_zl fun x hx => by
    obtain ⟨z, hz, rfl⟩ := List.mem_map.1 (List.mem_of_mem_take hx)
    exact Nat.le_trans (zl_of (hb z hz)) (hs z hz)
  (repeat (first | (refine hk_use (by assumption) ?_) | (refine sw_seqk fun _ _ => ?_) | (refine sw_reg ?_) | (refine aops_k fun _ _ => ?_; simp [go_sem]; try go_ints) | refine sw_block ?_ | refine sw_ct rfl ?_ | refine sw_cf rfl ?_ | refine sw_skip ?_ | refine sw_exit ?_ | refine sw_ret ?_ | refine And.intro (by first | omega | rfl) ?_ | simp only [aops, thn, inB, ↓reduceIte, Nat.reduceEqDiff]))
  refine sw_loopw 3 (fun i : Nat => [(3, .c (.l true (dN (lim (gcdL ((zs.map Z.v).take i)))))), (4, .c (.i .i64 i))]) (fun i => [(2, .x [.b false, .nl])]) (fun i => i ≤ zs.length) (fun i => zs.length - i) 0 (Nat.zero_le _) ?_ fun i hi => ?_
  · simp [go_sem, gcdL, show lim 0 = [] from rfl, dN]
  · by_cases hlt : i < zs.length
    · have hzi : zs[i] ∈ zs := List.getElem_mem hlt
      have hgi := hg i
      unfold zl at hgi
      rw [Int.natAbs_natCast] at hgi
      have hn : gcdL ((zs.map Z.v).take (i + 1)) = Nat.gcd (nv (lim (gcdL ((zs.map Z.v).take i)))) (nv zs[i].mag) := by
        rw [gcdL_next (by simpa using hlt), nv_lim, List.getElem_map, natAbs_v]
      (repeat (first | (refine hk_use (by assumption) ?_) | (refine sw_seqk fun _ _ => ?_) | (refine sw_reg ?_) | (refine aops_k fun _ _ => ?_; simp [go_sem, hlt]; try go_ints) | refine sw_block ?_ | refine sw_ct rfl ?_ | refine sw_cf rfl ?_ | refine sw_skip ?_ | refine sw_exit ?_ | refine sw_ret ?_ | refine And.intro (by first | omega | rfl) ?_ | simp only [aops, thn, inB, ↓reduceIte, Nat.reduceEqDiff]))
      (refine ⟨.v _, rgcd1_v _ zs[i].mag hgi (hs _ hzi), ?_⟩; simp [go_sem]; (repeat (first | (refine hk_use (by assumption) ?_) | (refine sw_seqk fun _ _ => ?_) | (refine sw_reg ?_) | (refine aops_k fun _ _ => ?_; simp [go_sem]; try go_ints) | refine sw_block ?_ | refine sw_ct rfl ?_ | refine sw_cf rfl ?_ | refine sw_skip ?_ | refine sw_exit ?_ | refine sw_ret ?_ | refine And.intro (by first | omega | rfl) ?_ | simp only [aops, thn, inB, ↓reduceIte, Nat.reduceEqDiff])))
      refine ⟨i + 1, by omega, by omega, ?_⟩
      simp [go_sem, hn]
    · have : i = zs.length := by omega
      subst this
      have hgi := hg zs.length
      unfold zl at hgi
      rw [Int.natAbs_natCast] at hgi
      have hv : Z.v ⟨false, lim (gcdL ((zs.map Z.v).take zs.length))⟩ = (gcdL (zs.map Z.v) : Nat) := by
        simp [Z.v, nv_lim, List.take_of_length_le]
      (repeat (first | (refine hk_use (by assumption) ?_) | (refine sw_seqk fun _ _ => ?_) | (refine sw_reg ?_) | (refine aops_k fun _ _ => ?_; simp [go_sem]; try go_ints) | refine sw_block ?_ | refine sw_ct rfl ?_ | refine sw_cf rfl ?_ | refine sw_skip ?_ | refine sw_exit ?_ | refine sw_ret ?_ | refine And.intro (by first | omega | rfl) ?_ | simp only [aops, thn, inB, ↓reduceIte, Nat.reduceEqDiff]))
      (refine ⟨.v _, rnorm_v ⟨false, lim (gcdL ((zs.map Z.v).take zs.length))⟩ (Nat.le_trans hgi (by omega)), ?_⟩; simp [go_sem]; (repeat (first | (refine hk_use (by assumption) ?_) | (refine sw_seqk fun _ _ => ?_) | (refine sw_reg ?_) | (refine aops_k fun _ _ => ?_; simp [go_sem, hv]; try go_ints) | refine sw_block ?_ | refine sw_ct rfl ?_ | refine sw_cf rfl ?_ | refine sw_skip ?_ | refine sw_exit ?_ | refine sw_ret ?_ | refine And.intro (by first | omega | rfl) ?_ | simp only [aops, thn, inB, ↓reduceIte, Nat.reduceEqDiff])))
      simp [go_sem, hv]

end Go.Proofs.YthmjgbkakjpfkaaGreatDoor

namespace Go.Proofs.YthmjgbkakjpfkaaGreatDoor
open Go.RowKit

theorem coefs_o (t : T) (hs : t.ps.length ≤ 4398046511104) : FnR Tryz.prog 70 [.g (dT t)] false 2 24 (t.ps.map fun p => dZ p.2) := by
  refine FnR.intro' Tryz.func70 [.tmp 2] 22 fun _ => ?_
  (repeat (first | (refine hk_use (by assumption) ?_) | (refine sw_seqk fun _ _ => ?_) | (refine sw_reg ?_) | (refine aops_k fun _ _ => ?_; simp [go_sem]; try go_ints) | refine sw_block ?_ | refine sw_ct rfl ?_ | refine sw_cf rfl ?_ | refine sw_skip ?_ | refine sw_exit ?_ | refine sw_ret ?_ | refine And.intro (by first | omega | rfl) ?_ | simp only [aops, thn, inB, ↓reduceIte, Nat.reduceEqDiff]))
  refine sw_weak (le_own 3 1003 2 24 rfl rfl (by decide)) ?_
  refine sw_loopw 3 (fun i : Nat => [(3, .c (.r 1003 i)), (4, .c (.i .i64 i))]) (fun i => [(1, .x ((dT t).map (toC false))), (1003, .r false 2 24 ((t.ps.map fun p => dZ p.2).take i))]) (fun i => i ≤ t.ps.length) (fun i => t.ps.length - i) 0 (Nat.zero_le _) ?_ fun i hi => ?_
  · simp [go_sem]
  · by_cases hlt : i < t.ps.length
    · (repeat (first | (refine hk_use (by assumption) ?_) | (refine sw_seqk fun _ _ => ?_) | (refine sw_reg ?_) | (refine aops_k fun _ _ => ?_; simp [go_sem, hlt, Nat.min_eq_left hi]; try go_ints) | refine sw_block ?_ | refine sw_ct rfl ?_ | refine sw_cf rfl ?_ | refine sw_skip ?_ | refine sw_exit ?_ | refine sw_ret ?_ | refine And.intro (by first | omega | rfl) ?_ | simp only [aops, thn, inB, ↓reduceIte, Nat.reduceEqDiff]))
      refine ⟨i + 1, by omega, by omega, ?_⟩
      simp [go_sem]
      rw [List.take_succ_eq_append_getElem (by simpa using hlt)]
      simp
    · (repeat (first | (refine hk_use (by assumption) ?_) | (refine sw_seqk fun _ _ => ?_) | (refine sw_reg ?_) | (refine aops_k fun _ _ => ?_; simp [go_sem, hlt]; try go_ints) | refine sw_block ?_ | refine sw_ct rfl ?_ | refine sw_cf rfl ?_ | refine sw_skip ?_ | refine sw_exit ?_ | refine sw_ret ?_ | refine And.intro (by first | omega | rfl) ?_ | simp only [aops, thn, inB, ↓reduceIte, Nat.reduceEqDiff]))
      have : i = t.ps.length := by omega
      subst this
      simp [go_sem, List.take_of_length_le]
theorem const6_v (b : Bool) : Fn Tryz.prog 68 [.c (.b b)] (gA true (constA b)) := by
  refine Fn.intro' Tryz.func68 [.cell 2 29] 6 fun _ => ?_
  cases b <;> (repeat (first | (refine hk_use (by assumption) ?_) | (refine sw_seqk fun _ _ => ?_) | (refine sw_reg ?_) | (refine aops_k fun _ _ => ?_; simp [go_sem]; try go_ints) | refine sw_block ?_ | refine sw_ct rfl ?_ | refine sw_cf rfl ?_ | refine sw_skip ?_ | refine sw_exit ?_ | refine sw_ret ?_ | refine And.intro (by first | omega | rfl) ?_ | simp only [aops, thn, inB, ↓reduceIte, Nat.reduceEqDiff])) <;> simp [go_sem, constA, cz, ct, cl, dN, show lim 0 = [] from rfl, show cn [] = [] from rfl]
theorem cz_facts (x : Int) : ∃ z : Z, z = cz x ∧ z.v = x ∧ z.mag.length = zl x := ⟨_, rfl, cz_v x, cz_len x⟩
theorem rless_v (t : T) (N : Nat) (hN2 : 2 ≤ N) (hN : N ≤ 536870912) (hs : t.sz N) : Fn Tryz.prog 27 [.g (dT t)] (gA true (lessA (vl t.ps) t.k.v)) := by
  refine Fn.intro' Tryz.func27 [.cell 2 29] 63 fun hok => ?_
  have hlb : t.lb := ok_t (hok (.g (dT t)) (by simp))
  have hns := nf_sz hs hlb
  have hnlb : t.nf.lb := ct_lb _ _
  have hnc : (t.nf.ps.map Prod.snd).map Z.v = (cn (vl t.ps)).map Prod.snd := by rw [nf_ps, cl_snd]
  have hno := rnorm5_v t N (by omega) hs
  have hcan := canon_cn (vl t.ps)
  have hnl : t.nf.ps.length = (cn (vl t.ps)).length := by rw [nf_ps, cl_len]
  have hnk : t.nf.k.v = t.k.v := by rw [nf_k, cz_v]
  have hnp : t.nf.ps = cl (cn (vl t.ps)) := rfl
  obtain ⟨R, hR⟩ : ∃ R, R = lessA (vl t.ps) t.k.v := ⟨_, rfl⟩
  rw [← hR]
  unfold lessA at hR
  generalize cn (vl t.ps) = l at *
  rw [← hnk] at hR
  clear hnk
  generalize t.nf = n at *
  obtain ⟨s1, s2, s3⟩ := hns
  (repeat (first | (refine hk_use (by assumption) ?_) | (refine sw_seqk fun _ _ => ?_) | (refine sw_reg ?_) | (refine aops_k fun _ _ => ?_; simp [go_sem]; try go_ints) | refine sw_block ?_ | refine sw_ct rfl ?_ | refine sw_cf rfl ?_ | refine sw_skip ?_ | refine sw_exit ?_ | refine sw_ret ?_ | refine And.intro (by first | omega | rfl) ?_ | simp only [aops, thn, inB, ↓reduceIte, Nat.reduceEqDiff]))
  (refine ⟨.v _, hno, ?_⟩; simp [go_sem]; (repeat (first | (refine hk_use (by assumption) ?_) | (refine sw_seqk fun _ _ => ?_) | (refine sw_reg ?_) | (refine aops_k fun _ _ => ?_; simp [go_sem]; try go_ints) | refine sw_block ?_ | refine sw_ct rfl ?_ | refine sw_cf rfl ?_ | refine sw_skip ?_ | refine sw_exit ?_ | refine sw_ret ?_ | refine And.intro (by first | omega | rfl) ?_ | simp only [aops, thn, inB, ↓reduceIte, Nat.reduceEqDiff])))
  by_cases h0 : l.length = 0
  · have h1 : n.ps = [] := List.eq_nil_of_length_eq_zero (by omega)
    have hsg : decide (0 < sgn n.k.v) = decide (0 < n.k.v) := decide_eq_decide.2 cmpI_pos
    rw [if_pos h0] at hR
    simp [h1]
    (repeat (first | (refine hk_use (by assumption) ?_) | (refine sw_seqk fun _ _ => ?_) | (refine sw_reg ?_) | (refine aops_k fun _ _ => ?_; simp [go_sem]; try go_ints) | refine sw_block ?_ | refine sw_ct rfl ?_ | refine sw_cf rfl ?_ | refine sw_skip ?_ | refine sw_exit ?_ | refine sw_ret ?_ | refine And.intro (by first | omega | rfl) ?_ | simp only [aops, thn, inB, ↓reduceIte, Nat.reduceEqDiff]))
    (refine ⟨.v _, rsign_v n.k (by omega), ?_⟩; simp [go_sem]; (repeat (first | (refine hk_use (by assumption) ?_) | (refine sw_seqk fun _ _ => ?_) | (refine sw_reg ?_) | (refine aops_k fun _ _ => ?_; simp [go_sem]; try go_ints) | refine sw_block ?_ | refine sw_ct rfl ?_ | refine sw_cf rfl ?_ | refine sw_skip ?_ | refine sw_exit ?_ | refine sw_ret ?_ | refine And.intro (by first | omega | rfl) ?_ | simp only [aops, thn, inB, ↓reduceIte, Nat.reduceEqDiff])))
    (refine ⟨.v _, const6_v (decide (0 < sgn n.k.v)), ?_⟩; simp [go_sem]; (repeat (first | (refine hk_use (by assumption) ?_) | (refine sw_seqk fun _ _ => ?_) | (refine sw_reg ?_) | (refine aops_k fun _ _ => ?_; simp [go_sem]; try go_ints) | refine sw_block ?_ | refine sw_ct rfl ?_ | refine sw_cf rfl ?_ | refine sw_skip ?_ | refine sw_exit ?_ | refine sw_ret ?_ | refine And.intro (by first | omega | rfl) ?_ | simp only [aops, thn, inB, ↓reduceIte, Nat.reduceEqDiff])))
    simp [go_sem, hsg, hR]
  · have h1 : n.ps ≠ [] := fun e => h0 (by rw [← hnl, e]; rfl)
    rw [if_neg h0] at hR
    obtain ⟨g, hg⟩ : ∃ g, g = gcdL (l.map Prod.snd) := ⟨_, rfl⟩
    have hg0 : 0 < g := by
      obtain ⟨p, hp⟩ := List.exists_mem_of_ne_nil l (fun e => h0 (by rw [e]; rfl))
      rw [hg]; exact gcdL_pos (List.mem_map.2 ⟨p, hp, rfl⟩) (hcan.2 p hp)
    have hzs : ∀ z ∈ n.ps.map Prod.snd, z.mag.length ≤ N + N := fun z hz => by
      obtain ⟨q, hq, rfl⟩ := List.mem_map.1 hz; exact s2 q hq
    have hgl : zl (g : Int) ≤ N + N := by
      rw [hg, ← hnc]
      exact gcdL_zl fun x hx => by
        obtain ⟨z, hz, rfl⟩ := List.mem_map.1 hx
        obtain ⟨q, hq, rfl⟩ := List.mem_map.1 hz
        exact Nat.le_trans (zl_of (hnlb.1 q hq)) (s2 q hq)
    have k1 := rgcd_v (n.ps.map Prod.snd) (fun z hz => Nat.le_trans (hzs z hz) (by omega)) (by rw [List.length_map]; omega)
    rw [List.map_map, hnc, ← hg] at k1
    obtain ⟨one, ho1, ho2, ho3⟩ := cz_facts 1
    obtain ⟨gz, hg1, hg2, hg3⟩ := cz_facts g
    obtain ⟨a1, a11, a12, a13⟩ := cz_facts (n.k.v - 1)
    obtain ⟨a2, a21, a22, a23⟩ := cz_facts ((n.k.v - 1).fdiv g)
    obtain ⟨a3, a31, a32, a33⟩ := cz_facts ((n.k.v - 1).fdiv g + 1)
    have hz1 : zl 1 ≤ 1 := by decide
    have hnz := Nat.le_trans (zl_of hnlb.2) s3
    have e1 : zl (n.k.v - 1) ≤ N + N + 1 := zl_sub hnz (by omega)
    have e2 : zl ((n.k.v - 1).fdiv g) ≤ N + N + 1 := fdiv_zl (by omega) e1
    have k2 := rof_v 1 ⟨by omega, by omega⟩
    have k3 := rsub_v n.k one (by omega) (by omega)
    have k4 := rfloor_v a1 gz (by omega) (by omega) (by omega)
    have k5 := radd_v a2 one (by omega) (by omega)
    rw [← hg1] at k1
    rw [← ho1] at k2
    rw [ho2, ← a11] at k3
    rw [a12, hg2, ← a21] at k4
    rw [a22, ho2, ← a31] at k5
    obtain ⟨qs, hq⟩ : ∃ qs, qs = n.ps.map fun p => (p.1, cz (p.2.v.fdiv g)) := ⟨_, rfl⟩
    have hql : qs.length = n.ps.length := by rw [hq, List.length_map]
    have hT : ct (fm (·.fdiv (g : Int)) l) ((n.k.v - 1).fdiv g + 1) = ⟨qs, a3⟩ := by
      unfold ct
      rw [cn_canon (canon_fm hcan fun q hq e => ?_), hq, a31, hnp]
      · simp [cl, fm, Function.comp_def, cz_v]
      · obtain ⟨y, hy⟩ : (g : Int) ∣ q.2 := by rw [hg]; exact gcdL_mem (List.mem_map.2 ⟨q, hq, rfl⟩)
        have h3 : q.2.fdiv (g : Int) = y := by rw [hy]; exact Int.mul_fdiv_cancel_left _ (by omega)
        exact hcan.2 q hq (by rw [hy, ← h3, e, Int.mul_zero])
    rw [← hg, hT] at hR
    simp [h1]
    (repeat (first | (refine hk_use (by assumption) ?_) | (refine sw_seqk fun _ _ => ?_) | (refine sw_reg ?_) | (refine aops_k fun _ _ => ?_; simp [go_sem]; try go_ints) | refine sw_block ?_ | refine sw_ct rfl ?_ | refine sw_cf rfl ?_ | refine sw_skip ?_ | refine sw_exit ?_ | refine sw_ret ?_ | refine And.intro (by first | omega | rfl) ?_ | simp only [aops, thn, inB, ↓reduceIte, Nat.reduceEqDiff]))
    (refine ⟨.v _, coefs_v n (by omega), ?_⟩; simp [go_sem]; (repeat (first | (refine hk_use (by assumption) ?_) | (refine sw_seqk fun _ _ => ?_) | (refine sw_reg ?_) | (refine aops_k fun _ _ => ?_; simp [go_sem]; try go_ints) | refine sw_block ?_ | refine sw_ct rfl ?_ | refine sw_cf rfl ?_ | refine sw_skip ?_ | refine sw_exit ?_ | refine sw_ret ?_ | refine And.intro (by first | omega | rfl) ?_ | simp only [aops, thn, inB, ↓reduceIte, Nat.reduceEqDiff])))
    (refine ⟨.v _, k1, ?_⟩; simp [go_sem]; (repeat (first | (refine hk_use (by assumption) ?_) | (refine sw_seqk fun _ _ => ?_) | (refine sw_reg ?_) | (refine aops_k fun _ _ => ?_; simp [go_sem]; try go_ints) | refine sw_block ?_ | refine sw_ct rfl ?_ | refine sw_cf rfl ?_ | refine sw_skip ?_ | refine sw_exit ?_ | refine sw_ret ?_ | refine And.intro (by first | omega | rfl) ?_ | simp only [aops, thn, inB, ↓reduceIte, Nat.reduceEqDiff])))
    (refine ⟨.v _, k2, ?_⟩; simp [go_sem]; (repeat (first | (refine hk_use (by assumption) ?_) | (refine sw_seqk fun _ _ => ?_) | (refine sw_reg ?_) | (refine aops_k fun _ _ => ?_; simp [go_sem]; try go_ints) | refine sw_block ?_ | refine sw_ct rfl ?_ | refine sw_cf rfl ?_ | refine sw_skip ?_ | refine sw_exit ?_ | refine sw_ret ?_ | refine And.intro (by first | omega | rfl) ?_ | simp only [aops, thn, inB, ↓reduceIte, Nat.reduceEqDiff])))
    (refine ⟨.v _, k3, ?_⟩; simp [go_sem]; (repeat (first | (refine hk_use (by assumption) ?_) | (refine sw_seqk fun _ _ => ?_) | (refine sw_reg ?_) | (refine aops_k fun _ _ => ?_; simp [go_sem]; try go_ints) | refine sw_block ?_ | refine sw_ct rfl ?_ | refine sw_cf rfl ?_ | refine sw_skip ?_ | refine sw_exit ?_ | refine sw_ret ?_ | refine And.intro (by first | omega | rfl) ?_ | simp only [aops, thn, inB, ↓reduceIte, Nat.reduceEqDiff])))
    (refine ⟨.v _, k4, ?_⟩; simp [go_sem]; (repeat (first | (refine hk_use (by assumption) ?_) | (refine sw_seqk fun _ _ => ?_) | (refine sw_reg ?_) | (refine aops_k fun _ _ => ?_; simp [go_sem]; try go_ints) | refine sw_block ?_ | refine sw_ct rfl ?_ | refine sw_cf rfl ?_ | refine sw_skip ?_ | refine sw_exit ?_ | refine sw_ret ?_ | refine And.intro (by first | omega | rfl) ?_ | simp only [aops, thn, inB, ↓reduceIte, Nat.reduceEqDiff])))
    (refine ⟨.v _, k5, ?_⟩; simp [go_sem]; (repeat (first | (refine hk_use (by assumption) ?_) | (refine sw_seqk fun _ _ => ?_) | (refine sw_reg ?_) | (refine aops_k fun _ _ => ?_; simp [go_sem]; try go_ints) | refine sw_block ?_ | refine sw_ct rfl ?_ | refine sw_cf rfl ?_ | refine sw_skip ?_ | refine sw_exit ?_ | refine sw_ret ?_ | refine And.intro (by first | omega | rfl) ?_ | simp only [aops, thn, inB, ↓reduceIte, Nat.reduceEqDiff])))
    refine sw_weak (le_ownx 7 0 1007 3 37 rfl rfl rfl (by decide)) ?_
    refine sw_loopv 8 (fun i : Nat => [(8, .c (.i .i64 i))]) (fun i => [(7, .x [.r 1007 i, .b a3.neg, .l true (dN a3.mag)]), (1007, .r true 3 37 ((qs.map dP).take i))]) (fun i => i ≤ n.ps.length) (fun i => n.ps.length - i) 0 (Nat.zero_le _) ?_ fun i hi => ?_
    · simp [go_sem]
    · by_cases hlt : i < n.ps.length
      · (repeat (first | (refine hk_use (by assumption) ?_) | (refine sw_seqk fun _ _ => ?_) | (refine sw_reg ?_) | (refine aops_k fun _ _ => ?_; simp [go_sem, hlt]; try go_ints) | refine sw_block ?_ | refine sw_ct rfl ?_ | refine sw_cf rfl ?_ | refine sw_skip ?_ | refine sw_exit ?_ | refine sw_ret ?_ | refine And.intro (by first | omega | rfl) ?_ | simp only [aops, thn, inB, ↓reduceIte, Nat.reduceEqDiff]))
        have hi2 : n.ps[i] ∈ n.ps := List.getElem_mem hlt
        have k6 := rfloor_v n.ps[i].2 gz (by omega) (by have := s2 _ hi2; omega) (by omega)
        rw [hg2] at k6
        (refine ⟨.v _, k6, ?_⟩; simp [go_sem]; (repeat (first | (refine hk_use (by assumption) ?_) | (refine sw_seqk fun _ _ => ?_) | (refine sw_reg ?_) | (refine aops_k fun _ _ => ?_; simp [go_sem, hql]; try go_ints) | refine sw_block ?_ | refine sw_ct rfl ?_ | refine sw_cf rfl ?_ | refine sw_skip ?_ | refine sw_exit ?_ | refine sw_ret ?_ | refine And.intro (by first | omega | rfl) ?_ | simp only [aops, thn, inB, ↓reduceIte, Nat.reduceEqDiff])))
        refine ⟨i + 1, by omega, by omega, ?_⟩
        rw [take_snoc (l := qs.map dP) (by simpa [hql] using hlt)]
        simp [go_sem, hq]
        omega
      · (repeat (first | (refine hk_use (by assumption) ?_) | (refine sw_seqk fun _ _ => ?_) | (refine sw_reg ?_) | (refine aops_k fun _ _ => ?_; simp [go_sem, hlt]; try go_ints) | refine sw_block ?_ | refine sw_ct rfl ?_ | refine sw_cf rfl ?_ | refine sw_skip ?_ | refine sw_exit ?_ | refine sw_ret ?_ | refine And.intro (by first | omega | rfl) ?_ | simp only [aops, thn, inB, ↓reduceIte, Nat.reduceEqDiff]))
        have : i = n.ps.length := by omega
        subst this
        simp [go_sem, hR, hql, cz, dN, show lim 0 = [] from rfl, List.take_of_length_le]
theorem rmodulo_v (t : T) (d : Z) (h0 : 0 < d.v) (N : Nat) (hN : N ≤ 536870912) (hs : t.sz N) (hd : d.mag.length ≤ N) : Fn Tryz.prog 107 [.g (dT t), .g (dZ d)] (gT true (ct (fm (·.fmod d.v) (vl t.ps)) (t.k.v.fmod d.v))) := by
  refine Fn.intro' Tryz.func107 [.cell 4 27] 41 fun hok => ?_
  have hdb : Lb d.mag := ok_z (hok (.g (dZ d)) (by simp))
  have hdl := Nat.le_trans (zl_of hdb) hd
  obtain ⟨s1, s2, s3⟩ := hs
  obtain ⟨a1, a11, a12, a13⟩ := cz_facts (t.k.v.fmod d.v)
  have k1 := rmod_v t.k d h0 (by omega) (by omega)
  rw [← a11] at k1
  obtain ⟨qs, hq⟩ : ∃ qs, qs = t.ps.map fun p => (p.1, cz (p.2.v.fmod d.v)) := ⟨_, rfl⟩
  have hql : qs.length = t.ps.length := by rw [hq, List.length_map]
  have hsq : T.sz ⟨qs, a1⟩ N := by
    refine ⟨by show qs.length ≤ N; omega, fun p hp => ?_, by show a1.mag.length ≤ N; rw [a13]; exact fmod_zl h0 hdl⟩
    have hp : p ∈ qs := hp
    rw [hq] at hp
    obtain ⟨q, _, rfl⟩ := List.mem_map.1 hp
    rw [cz_len]; exact fmod_zl h0 hdl
  have k2 := rnorm5_v ⟨qs, a1⟩ N (by omega) hsq
  have hT : T.nf ⟨qs, a1⟩ = ct (fm (·.fmod d.v) (vl t.ps)) (t.k.v.fmod d.v) := by
    show ct (vl qs) a1.v = _
    rw [a12, hq]
    congr 1
    simp [vl, fm, Function.comp_def, cz_v]
  rw [hT] at k2
  generalize ct (fm (·.fmod d.v) (vl t.ps)) (t.k.v.fmod d.v) = R at k2 ⊢
  (repeat (first | (refine hk_use (by assumption) ?_) | (refine sw_seqk fun _ _ => ?_) | (refine sw_reg ?_) | (refine aops_k fun _ _ => ?_; simp [go_sem]; try go_ints) | refine sw_block ?_ | refine sw_ct rfl ?_ | refine sw_cf rfl ?_ | refine sw_skip ?_ | refine sw_exit ?_ | refine sw_ret ?_ | refine And.intro (by first | omega | rfl) ?_ | simp only [aops, thn, inB, ↓reduceIte, Nat.reduceEqDiff]))
  (refine ⟨.v _, k1, ?_⟩; simp [go_sem]; (repeat (first | (refine hk_use (by assumption) ?_) | (refine sw_seqk fun _ _ => ?_) | (refine sw_reg ?_) | (refine aops_k fun _ _ => ?_; simp [go_sem]; try go_ints) | refine sw_block ?_ | refine sw_ct rfl ?_ | refine sw_cf rfl ?_ | refine sw_skip ?_ | refine sw_exit ?_ | refine sw_ret ?_ | refine And.intro (by first | omega | rfl) ?_ | simp only [aops, thn, inB, ↓reduceIte, Nat.reduceEqDiff])))
  refine sw_weak (le_ownx 5 0 1005 3 37 rfl rfl rfl (by decide)) ?_
  refine sw_loopv 6 (fun i : Nat => [(6, .c (.i .i64 i))]) (fun i => [(5, .x [.r 1005 i, .b a1.neg, .l true (dN a1.mag)]), (1005, .r true 3 37 ((qs.map dP).take i))]) (fun i => i ≤ t.ps.length) (fun i => t.ps.length - i) 0 (Nat.zero_le _) ?_ fun i hi => ?_
  · simp [go_sem]
  · by_cases hlt : i < t.ps.length
    · (repeat (first | (refine hk_use (by assumption) ?_) | (refine sw_seqk fun _ _ => ?_) | (refine sw_reg ?_) | (refine aops_k fun _ _ => ?_; simp [go_sem, hlt]; try go_ints) | refine sw_block ?_ | refine sw_ct rfl ?_ | refine sw_cf rfl ?_ | refine sw_skip ?_ | refine sw_exit ?_ | refine sw_ret ?_ | refine And.intro (by first | omega | rfl) ?_ | simp only [aops, thn, inB, ↓reduceIte, Nat.reduceEqDiff]))
      have hi2 : t.ps[i] ∈ t.ps := List.getElem_mem hlt
      have k6 := rmod_v t.ps[i].2 d h0 (by have := s2 _ hi2; omega) (by omega)
      (refine ⟨.v _, k6, ?_⟩; simp [go_sem]; (repeat (first | (refine hk_use (by assumption) ?_) | (refine sw_seqk fun _ _ => ?_) | (refine sw_reg ?_) | (refine aops_k fun _ _ => ?_; simp [go_sem, hql]; try go_ints) | refine sw_block ?_ | refine sw_ct rfl ?_ | refine sw_cf rfl ?_ | refine sw_skip ?_ | refine sw_exit ?_ | refine sw_ret ?_ | refine And.intro (by first | omega | rfl) ?_ | simp only [aops, thn, inB, ↓reduceIte, Nat.reduceEqDiff])))
      refine ⟨i + 1, by omega, by omega, ?_⟩
      rw [take_snoc (l := qs.map dP) (by simpa [hql] using hlt)]
      simp [go_sem, hq]
      omega
    · (repeat (first | (refine hk_use (by assumption) ?_) | (refine sw_seqk fun _ _ => ?_) | (refine sw_reg ?_) | (refine aops_k fun _ _ => ?_; simp [go_sem, hlt]; try go_ints) | refine sw_block ?_ | refine sw_ct rfl ?_ | refine sw_cf rfl ?_ | refine sw_skip ?_ | refine sw_exit ?_ | refine sw_ret ?_ | refine And.intro (by first | omega | rfl) ?_ | simp only [aops, thn, inB, ↓reduceIte, Nat.reduceEqDiff]))
      have : i = t.ps.length := by omega
      subst this
      have e2 : (qs.map dP).take t.ps.length = qs.map dP := List.take_of_length_le (by simp [hql])
      simp [e2]
      (refine ⟨.v _, k2, ?_⟩; simp [go_sem]; (repeat (first | (refine hk_use (by assumption) ?_) | (refine sw_seqk fun _ _ => ?_) | (refine sw_reg ?_) | (refine aops_k fun _ _ => ?_; simp [go_sem]; try go_ints) | refine sw_block ?_ | refine sw_ct rfl ?_ | refine sw_cf rfl ?_ | refine sw_skip ?_ | refine sw_exit ?_ | refine sw_ret ?_ | refine And.intro (by first | omega | rfl) ?_ | simp only [aops, thn, inB, ↓reduceIte, Nat.reduceEqDiff])))
      simp [go_sem]

end Go.Proofs.YthmjgbkakjpfkaaGreatDoor
