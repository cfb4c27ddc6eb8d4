/- Contracts of package riddleref02. No conditions. -/
import Derived.Test.YtbblgjjomgipfaaGreatRef1
namespace Go.Proofs.YtbblgjjomgipfaaGreat
open Go.RowKit

set_option maxHeartbeats 400000 in
theorem rnorm_c {v : Value} {z : Z} {w : World} {X : Nat → Prop} (h : Zi w X v z) (hL : z.mag.length ≤ 4398046511104) :
    Calls Tryz.prog 48 #[v] w fun e w' => ∃ r, e = .returned r ∧ Zi w' (w.heap.size ≤ ·) r (cz z.v) ∧ Ext w w' := by
  obtain ⟨A, c, rfl, h⟩ := h
  obtain ⟨n, l⟩ := z
  have hcz := Lib.hid (cz_made n l)
  go_enter Tryz.func48, Tryz.ntmps48
  go_wp2_with fail
  refine (rtrim_c (h.ext (by repeat (first | with_reducible assumption | with_reducible exact Ext.refl _ | with_reducible refine Ext.drewN ?_ _ | with_reducible refine Ext.drew ?_ | with_reducible refine Ext.alloc ?_ _ | (with_reducible refine Ext.setCell ?_ ?_ _; rotate_left; (first | exact Nat.le_refl _ | (dsimp only; omega) | (simp only [wsz]; omega))) | (with_reducible refine Ext.trans ?_ (by with_reducible assumption))))) hL).mono ?_
  rintro e w1 ⟨A1, c1, rfl, h1, hx⟩
  have hc := hx.cells
  cases n <;> go_wp2_with fail
  · (refine bodyPost_ret (v := ?_) ?_ rfl ?_; rotate_left; (simp only [results, Tryz.results48]; go_simp; (first | done | with_reducible rfl)))
    refine ⟨_, rfl, ?_, (by repeat (first | with_reducible assumption | with_reducible exact Ext.refl _ | with_reducible refine Ext.drewN ?_ _ | with_reducible refine Ext.drew ?_ | with_reducible refine Ext.alloc ?_ _ | (with_reducible refine Ext.setCell ?_ ?_ _; rotate_left; (first | exact Nat.le_refl _ | (dsimp only; omega) | (simp only [wsz]; omega))) | (with_reducible refine Ext.trans ?_ (by with_reducible assumption))))⟩
    rw [hcz.out]
    exact ⟨A1, c1, rfl, (h1.keep (by repeat (first | with_reducible exact Kp.refl _ | with_reducible refine Kp.drewN ?_ _ | with_reducible refine Kp.drew ?_ | with_reducible refine Kp.alloc ?_ _ | (with_reducible refine Kp.setCell ?_ ?_ _; rotate_left; (first | (dsimp only; omega) | (simp only [wsz]; omega))) | (with_reducible exact Kp.of_ext (by with_reducible assumption)) | (with_reducible refine Kp.ext ?_ (by with_reducible assumption))))).widen (fun b hb _ => by first | omega | (dsimp only at hb ⊢; omega) | (dsimp only at hb; omega) | (simp only [wsz] at hb ⊢; omega) | (simp only [wsz] at hb; omega))⟩
  · (refine bodyPost_ret (v := ?_) ?_ rfl ?_; rotate_left; (simp only [results, Tryz.results48]; go_simp; (first | done | with_reducible rfl)))
    refine ⟨_, rfl, ?_, (by repeat (first | with_reducible assumption | with_reducible exact Ext.refl _ | with_reducible refine Ext.drewN ?_ _ | with_reducible refine Ext.drew ?_ | with_reducible refine Ext.alloc ?_ _ | (with_reducible refine Ext.setCell ?_ ?_ _; rotate_left; (first | exact Nat.le_refl _ | (dsimp only; omega) | (simp only [wsz]; omega))) | (with_reducible refine Ext.trans ?_ (by with_reducible assumption))))⟩
    rw [hcz.out]
    exact ⟨A1, c1, by rw [Bool.true_and], (h1.keep (by repeat (first | with_reducible exact Kp.refl _ | with_reducible refine Kp.drewN ?_ _ | with_reducible refine Kp.drew ?_ | with_reducible refine Kp.alloc ?_ _ | (with_reducible refine Kp.setCell ?_ ?_ _; rotate_left; (first | (dsimp only; omega) | (simp only [wsz]; omega))) | (with_reducible exact Kp.of_ext (by with_reducible assumption)) | (with_reducible refine Kp.ext ?_ (by with_reducible assumption))))).widen (fun b hb _ => by first | omega | (dsimp only at hb ⊢; omega) | (dsimp only at hb; omega) | (simp only [wsz] at hb ⊢; omega) | (simp only [wsz] at hb; omega))⟩

set_option maxHeartbeats 400000 in
theorem rsign_c {v : Value} {z : Z} {w : World} {X : Nat → Prop} (h : Zi w X v z) (hL : z.mag.length ≤ 4398046511104) :
    Calls Tryz.prog 38 #[v] w fun e w' => e = .returned (.int .i64 (sgn z.v)) ∧ Ext w w' := by
  obtain ⟨A, c, rfl, h⟩ := h
  go_enter Tryz.func38, Tryz.ntmps38
  go_wp2_with fail
  refine (rnorm_c ⟨A, c, rfl, h.ext (by repeat (first | with_reducible assumption | with_reducible exact Ext.refl _ | with_reducible refine Ext.drewN ?_ _ | with_reducible refine Ext.drew ?_ | with_reducible refine Ext.alloc ?_ _ | (with_reducible refine Ext.setCell ?_ ?_ _; rotate_left; (first | exact Nat.le_refl _ | (dsimp only; omega) | (simp only [wsz]; omega))) | (with_reducible refine Ext.trans ?_ (by with_reducible assumption))))⟩ hL).mono ?_
  rintro e w1 ⟨r, rfl, ⟨A1, c1, rfl, h1⟩, hx⟩
  have hc := hx.cells
  (have hs := Ext.size hx; (try simp only [wsz] at hs))
  have hz := lim_len_pos z.v.natAbs
  have hlen := cz_len z.v
  unfold zl at hlen
  rcases Int.lt_trichotomy z.v 0 with h0 | h0 | h0
  · have e0 : sgn z.v = -1 := cmpI_lt h0
    have e1 : (cz z.v).neg = true := by simp [cz, h0]
    have i1 : ((((cz z.v).mag.length : Nat) : Int) == 0) = false := beq_eq_false_iff_ne.2 (by omega)
    have E0 := Lib.hid e0
    clear hlen hz e0
    go_wp2_with fail
    go_ret
    exact ⟨ret_int E0.out.symm, (by repeat (first | with_reducible assumption | with_reducible exact Ext.refl _ | with_reducible refine Ext.drewN ?_ _ | with_reducible refine Ext.drew ?_ | with_reducible refine Ext.alloc ?_ _ | (with_reducible refine Ext.setCell ?_ ?_ _; rotate_left; (first | exact Nat.le_refl _ | (dsimp only; omega) | (simp only [wsz]; omega))) | (with_reducible refine Ext.trans ?_ (by with_reducible assumption))))⟩
  · have e0 : sgn z.v = 0 := cmpI_eq h0
    have i1 : ((((cz z.v).mag.length : Nat) : Int) == 0) = true := by rw [beq_iff_eq, hlen, h0]; rfl
    have E0 := Lib.hid e0
    clear hlen hz e0 h0
    go_wp2_with fail
    go_ret
    exact ⟨ret_int E0.out.symm, (by repeat (first | with_reducible assumption | with_reducible exact Ext.refl _ | with_reducible refine Ext.drewN ?_ _ | with_reducible refine Ext.drew ?_ | with_reducible refine Ext.alloc ?_ _ | (with_reducible refine Ext.setCell ?_ ?_ _; rotate_left; (first | exact Nat.le_refl _ | (dsimp only; omega) | (simp only [wsz]; omega))) | (with_reducible refine Ext.trans ?_ (by with_reducible assumption))))⟩
  · have e0 : sgn z.v = 1 := cmpI_gt h0
    have e1 : (cz z.v).neg = false := by simp [cz]; omega
    have i1 : ((((cz z.v).mag.length : Nat) : Int) == 0) = false := beq_eq_false_iff_ne.2 (by omega)
    have E0 := Lib.hid e0
    clear hlen hz e0
    go_wp2_with fail
    go_ret
    exact ⟨ret_int E0.out.symm, (by repeat (first | with_reducible assumption | with_reducible exact Ext.refl _ | with_reducible refine Ext.drewN ?_ _ | with_reducible refine Ext.drew ?_ | with_reducible refine Ext.alloc ?_ _ | (with_reducible refine Ext.setCell ?_ ?_ _; rotate_left; (first | exact Nat.le_refl _ | (dsimp only; omega) | (simp only [wsz]; omega))) | (with_reducible refine Ext.trans ?_ (by with_reducible assumption))))⟩

set_option maxHeartbeats 800000 in
theorem rcmpz_c {u v : Value} {x y : Z} {w : World} {X Y : Nat → Prop} (hx : Zi w X u x) (hy : Zi w Y v y) (hLx : x.mag.length ≤ 4398046511104) (hLy : y.mag.length ≤ 4398046511104) :
    Calls Tryz.prog 10 #[u, v] w fun e w' => e = .returned (.int .i64 (cmpI x.v y.v)) ∧ Ext w w' := by
  obtain ⟨A, c, rfl, h1⟩ := hx
  obtain ⟨B, d, rfl, h2⟩ := hy
  have hs1 := fun (W : World) (h : Nl W X A c x.mag) => rsign_c (v := .agg #[.bool x.neg, .slice A x.mag.length c]) (z := x) ⟨A, c, rfl, h⟩ hLx
  have hs2 := fun (W : World) (h : Nl W Y B d y.mag) => rsign_c (v := .agg #[.bool y.neg, .slice B y.mag.length d]) (z := y) ⟨B, d, rfl, h⟩ hLy
  have hlt := @sgn_lt x.v y.v
  have hgt := @sgn_lt y.v x.v
  have heq := @cmp_mags x y
  have b1 := sgn_bd x.v
  have b2 := sgn_bd y.v
  generalize sgn x.v = s at *
  generalize sgn y.v = t at *
  have Hs1 := Lib.hid hs1; have Hs2 := Lib.hid hs2; have Hlt := Lib.hid hlt; have Hgt := Lib.hid hgt; have Heq := Lib.hid heq
  clear hs1 hs2 hlt hgt heq
  obtain ⟨b1, b1'⟩ := b1
  obtain ⟨b2, b2'⟩ := b2
  go_enter Tryz.func10, Tryz.ntmps10
  go_wp2_with fail
  refine (Hs1.out _ (h1.ext (by repeat (first | with_reducible assumption | with_reducible exact Ext.refl _ | with_reducible refine Ext.drewN ?_ _ | with_reducible refine Ext.drew ?_ | with_reducible refine Ext.alloc ?_ _ | (with_reducible refine Ext.setCell ?_ ?_ _; rotate_left; (first | exact Nat.le_refl _ | (dsimp only; omega) | (simp only [wsz]; omega))) | (with_reducible refine Ext.trans ?_ (by with_reducible assumption)))))).mono ?_
  rintro e w1 ⟨rfl, hx⟩
  have hc := hx.cells
  go_wp2_with fail
  refine (Hs2.out _ (h2.ext (by repeat (first | with_reducible assumption | with_reducible exact Ext.refl _ | with_reducible refine Ext.drewN ?_ _ | with_reducible refine Ext.drew ?_ | with_reducible refine Ext.alloc ?_ _ | (with_reducible refine Ext.setCell ?_ ?_ _; rotate_left; (first | exact Nat.le_refl _ | (dsimp only; omega) | (simp only [wsz]; omega))) | (with_reducible refine Ext.trans ?_ (by with_reducible assumption)))))).mono ?_
  rintro e w2 ⟨rfl, hx2⟩
  (replace hx := Ext.trans hx hx2; clear hx2; have hc2 := Ext.cells hx)
  have hw : ∀ W, Ext w2 W → Ext w W := fun W h => Ext.trans (by repeat (first | with_reducible assumption | with_reducible exact Ext.refl _ | with_reducible refine Ext.drewN ?_ _ | with_reducible refine Ext.drew ?_ | with_reducible refine Ext.alloc ?_ _ | (with_reducible refine Ext.setCell ?_ ?_ _; rotate_left; (first | exact Nat.le_refl _ | (dsimp only; omega) | (simp only [wsz]; omega))) | (with_reducible refine Ext.trans ?_ (by with_reducible assumption)))) h
  rcases Int.lt_trichotomy s t with hst | hst | hst
  · have hne : (s != t) = true := by rw [bne_iff_ne]; omega
    have hcm := Lib.hid (cmpI_lt (Hlt.out hst))
    go_wp2_with fail
    go_ret
    exact ⟨ret_int (by rw [hcm.out] <;> omega), hw _ (by repeat (first | with_reducible assumption | with_reducible exact Ext.refl _ | with_reducible refine Ext.drewN ?_ _ | with_reducible refine Ext.drew ?_ | with_reducible refine Ext.alloc ?_ _ | (with_reducible refine Ext.setCell ?_ ?_ _; rotate_left; (first | exact Nat.le_refl _ | (dsimp only; omega) | (simp only [wsz]; omega))) | (with_reducible refine Ext.trans ?_ (by with_reducible assumption))))⟩
  · have hne : (s != t) = false := by simp [hst]
    have Hst := Lib.hid hst
    clear hst
    go_wp2_with fail
    refine (rcmp_c (h1.ext (hw _ (by repeat (first | with_reducible assumption | with_reducible exact Ext.refl _ | with_reducible refine Ext.drewN ?_ _ | with_reducible refine Ext.drew ?_ | with_reducible refine Ext.alloc ?_ _ | (with_reducible refine Ext.setCell ?_ ?_ _; rotate_left; (first | exact Nat.le_refl _ | (dsimp only; omega) | (simp only [wsz]; omega))) | (with_reducible refine Ext.trans ?_ (by with_reducible assumption)))))) (h2.ext (hw _ (by repeat (first | with_reducible assumption | with_reducible exact Ext.refl _ | with_reducible refine Ext.drewN ?_ _ | with_reducible refine Ext.drew ?_ | with_reducible refine Ext.alloc ?_ _ | (with_reducible refine Ext.setCell ?_ ?_ _; rotate_left; (first | exact Nat.le_refl _ | (dsimp only; omega) | (simp only [wsz]; omega))) | (with_reducible refine Ext.trans ?_ (by with_reducible assumption)))))) (by omega) (by omega)).mono ?_
    rintro e w3 ⟨rfl, rfl⟩
    have hbd := cmpN_I (nv x.mag) (nv y.mag)
    have hbd2 := cmpI_bd (nv x.mag) (nv y.mag)
    have hsw : cmpN (nv y.mag) (nv x.mag) = -cmpN (nv x.mag) (nv y.mag) := by rw [cmpN_I, cmpN_I]; exact cmpI_swap _ _
    rw [← hbd] at hbd2
    clear hbd
    generalize cmpN (nv x.mag) (nv y.mag) = q at *
    obtain ⟨q1, q2⟩ := hbd2
    have Hsw := Lib.hid hsw
    clear hsw
    by_cases h0 : s < 0
    · have hcm := Lib.hid ((Heq.out Hst.out).1 h0)
      go_wp2_with fail
      go_ret
      exact ⟨ret_int (by rw [hcm.out, Hsw.out]), hw _ (by repeat (first | with_reducible assumption | with_reducible exact Ext.refl _ | with_reducible refine Ext.drewN ?_ _ | with_reducible refine Ext.drew ?_ | with_reducible refine Ext.alloc ?_ _ | (with_reducible refine Ext.setCell ?_ ?_ _; rotate_left; (first | exact Nat.le_refl _ | (dsimp only; omega) | (simp only [wsz]; omega))) | (with_reducible refine Ext.trans ?_ (by with_reducible assumption))))⟩
    · have hcm := Lib.hid ((Heq.out Hst.out).2 (by omega))
      go_wp2_with fail
      go_ret
      exact ⟨ret_int hcm.out.symm, hw _ (by repeat (first | with_reducible assumption | with_reducible exact Ext.refl _ | with_reducible refine Ext.drewN ?_ _ | with_reducible refine Ext.drew ?_ | with_reducible refine Ext.alloc ?_ _ | (with_reducible refine Ext.setCell ?_ ?_ _; rotate_left; (first | exact Nat.le_refl _ | (dsimp only; omega) | (simp only [wsz]; omega))) | (with_reducible refine Ext.trans ?_ (by with_reducible assumption))))⟩
  · have hne : (s != t) = true := by rw [bne_iff_ne]; omega
    have hcm := Lib.hid (cmpI_gt (Hgt.out hst))
    have hnl : ¬ s < t := by omega
    go_wp2_with fail
    go_ret
    exact ⟨ret_int (by rw [hcm.out] <;> omega), hw _ (by repeat (first | with_reducible assumption | with_reducible exact Ext.refl _ | with_reducible refine Ext.drewN ?_ _ | with_reducible refine Ext.drew ?_ | with_reducible refine Ext.alloc ?_ _ | (with_reducible refine Ext.setCell ?_ ?_ _; rotate_left; (first | exact Nat.le_refl _ | (dsimp only; omega) | (simp only [wsz]; omega))) | (with_reducible refine Ext.trans ?_ (by with_reducible assumption))))⟩

set_option maxHeartbeats 800000 in
theorem rmulz_c {u v : Value} {x y : Z} {w : World} {X Y : Nat → Prop} (hx : Zi w X u x) (hy : Zi w Y v y) (hLx : x.mag.length ≤ 549755813888) (hLy : y.mag.length ≤ 549755813888) :
    Calls Tryz.prog 97 #[u, v] w fun e w' => ∃ r, e = .returned r ∧ Zi w' (w.heap.size ≤ ·) r (cz (x.v * y.v)) ∧ Ext w w' := by
  obtain ⟨A, c, rfl, h1⟩ := hx
  obtain ⟨B, d, rfl, h2⟩ := hy
  obtain ⟨nx, a⟩ := x
  obtain ⟨ny, b⟩ := y
  rw [← v_mul]
  have hlen : (lim (nv a * nv b)).length ≤ 4398046511104 := by
    have := zl_mul (nv a) (nv b)
    unfold zl at this
    rw [Int.natAbs_mul, Int.natAbs_natCast, Int.natAbs_natCast] at this
    have h3 : (lim (nv a)).length ≤ a.length := lim_len_le h1.lb
    have h4 : (lim (nv b)).length ≤ b.length := lim_len_le h2.lb
    simp only at hLx hLy
    omega
  go_enter Tryz.func97, Tryz.ntmps97
  go_wp2_with fail
  refine wp_region_seq 12 [(0, true), (1, true), (2, true), (3, true), (4, true), (5, true), (6, true), (7, true), (8, true), (9, false), (10, true), (11, false), (12, false)] rfl (by kernel_rfl) (by intro _ _ d _ _ h; cases d <;> exact h) ?_
  (repeat (refine sq_take (v := ?_) rfl rfl ?_ ?_; rotate_left; (intro w' hx'; have hc' := hx'.cells.1; (try simp only [wcd] at hc'); go_simp; (first | done | with_reducible rfl)); (try simp only [Act.put, List.setIfInBounds_toArray, List.set_cons_zero, List.set_cons_succ])))
  (refine sq_loud rfl rfl fun K hK => ?_; go_simp)
  refine (rmul_c (h1.ext (by repeat (first | with_reducible assumption | with_reducible exact Ext.refl _ | with_reducible refine Ext.drewN ?_ _ | with_reducible refine Ext.drew ?_ | with_reducible refine Ext.alloc ?_ _ | (with_reducible refine Ext.setCell ?_ ?_ _; rotate_left; (first | exact Nat.le_refl _ | (dsimp only; omega) | (simp only [wsz]; omega))) | (with_reducible refine Ext.trans ?_ (by with_reducible assumption))))) (h2.ext (by repeat (first | with_reducible assumption | with_reducible exact Ext.refl _ | with_reducible refine Ext.drewN ?_ _ | with_reducible refine Ext.drew ?_ | with_reducible refine Ext.alloc ?_ _ | (with_reducible refine Ext.setCell ?_ ?_ _; rotate_left; (first | exact Nat.le_refl _ | (dsimp only; omega) | (simp only [wsz]; omega))) | (with_reducible refine Ext.trans ?_ (by with_reducible assumption))))) hLx hLy).mono ?_
  rintro e w1 ⟨A1, c1, rfl, h3, hx⟩
  (refine hK _ _ (by repeat (first | with_reducible assumption | with_reducible exact Ext.refl _ | with_reducible refine Ext.drewN ?_ _ | with_reducible refine Ext.drew ?_ | with_reducible refine Ext.alloc ?_ _ | (with_reducible refine Ext.setCell ?_ ?_ _; rotate_left; (first | exact Nat.le_refl _ | (dsimp only; omega) | (simp only [wsz]; omega))) | (with_reducible refine Ext.trans ?_ (by with_reducible assumption)))) ?_; clear hK K; (try simp only [Act.put, List.setIfInBounds_toArray, List.set_cons_zero, List.set_cons_succ]))
  (repeat (refine sq_take (v := ?_) rfl rfl ?_ ?_; rotate_left; (intro w' hx'; have hc' := hx'.cells.1; (try simp only [wcd] at hc'); go_simp; (first | done | with_reducible rfl)); (try simp only [Act.put, List.setIfInBounds_toArray, List.set_cons_zero, List.set_cons_succ])))
  (refine sq_loud rfl rfl fun K hK => ?_; go_simp)
  refine (rnorm_c (z := ⟨!(nx == ny), lim (nv a * nv b)⟩) ⟨A1, c1, rfl, h3⟩ hlen).mono ?_
  rintro e w2 ⟨r, rfl, ⟨A2, c2, rfl, h4⟩, hx2⟩
  (refine hK _ _ (by repeat (first | with_reducible assumption | with_reducible exact Ext.refl _ | with_reducible refine Ext.drewN ?_ _ | with_reducible refine Ext.drew ?_ | with_reducible refine Ext.alloc ?_ _ | (with_reducible refine Ext.setCell ?_ ?_ _; rotate_left; (first | exact Nat.le_refl _ | (dsimp only; omega) | (simp only [wsz]; omega))) | (with_reducible refine Ext.trans ?_ (by with_reducible assumption)))) ?_; clear hK K; (try simp only [Act.put, List.setIfInBounds_toArray, List.set_cons_zero, List.set_cons_succ]))
  (have hs := Ext.size hx; (try simp only [wsz] at hs))
  (replace hx := Ext.trans hx hx2; clear hx2; have hc := Ext.cells hx)
  (refine sq_last rfl rfl fun K hK => ?_; go_simp; refine hK _ _ ?_; clear hK K)
  go_wp2_with fail
  (refine bodyPost_ret (v := ?_) ?_ rfl ?_; rotate_left; (simp only [results, Tryz.results97]; go_simp; (first | done | with_reducible rfl)))
  exact ⟨_, rfl, ⟨A2, c2, rfl, (h4.keep (by repeat (first | with_reducible exact Kp.refl _ | with_reducible refine Kp.drewN ?_ _ | with_reducible refine Kp.drew ?_ | with_reducible refine Kp.alloc ?_ _ | (with_reducible refine Kp.setCell ?_ ?_ _; rotate_left; (first | (dsimp only; omega) | (simp only [wsz]; omega))) | (with_reducible exact Kp.of_ext (by with_reducible assumption)) | (with_reducible refine Kp.ext ?_ (by with_reducible assumption))))).widen (fun b hb _ => by first | omega | (dsimp only at hb ⊢; omega) | (dsimp only at hb; omega) | (simp only [wsz] at hb ⊢; omega) | (simp only [wsz] at hb; omega))⟩, (by repeat (first | with_reducible assumption | with_reducible exact Ext.refl _ | with_reducible refine Ext.drewN ?_ _ | with_reducible refine Ext.drew ?_ | with_reducible refine Ext.alloc ?_ _ | (with_reducible refine Ext.setCell ?_ ?_ _; rotate_left; (first | exact Nat.le_refl _ | (dsimp only; omega) | (simp only [wsz]; omega))) | (with_reducible refine Ext.trans ?_ (by with_reducible assumption))))⟩

set_option maxHeartbeats 1600000 in
theorem raddz_c {u v : Value} {x y : Z} {w : World} {X Y : Nat → Prop} (hx : Zi w X u x) (hy : Zi w Y v y) (hLx : x.mag.length ≤ 1099511627776) (hLy : y.mag.length ≤ 1099511627776) :
    Calls Tryz.prog 13 #[u, v] w fun e w' => ∃ r, e = .returned r ∧ Zi w' (w.heap.size ≤ ·) r (cz (x.v + y.v)) ∧ Ext w w' := by
  obtain ⟨A, c, rfl, h1⟩ := hx
  obtain ⟨B, d, rfl, h2⟩ := hy
  obtain ⟨nx, a⟩ := x
  obtain ⟨ny, b⟩ := y
  have ha : (lim (nv a)).length ≤ a.length := lim_len_le h1.lb
  have hb : (lim (nv b)).length ≤ b.length := lim_len_le h2.lb
  simp only at hLx hLy
  go_enter Tryz.func13, Tryz.ntmps13
  by_cases hn : nx = ny
  · subst hn
    have hlen : (lim (nv a + nv b)).length ≤ 4398046511104 := by
      have := zl_add (x := nv a) (y := nv b) (k := 1099511627776) (by unfold zl; rw [Int.natAbs_natCast]; omega) (by unfold zl; rw [Int.natAbs_natCast]; omega)
      unfold zl at this
      have e : ((nv a : Int) + nv b).natAbs = nv a + nv b := by omega
      rw [e] at this
      omega
    have e := Lib.hid (v_add_same nx a b)
    go_wp2_with fail
    refine wp_region_seq 9 [(0, true), (1, true), (2, true), (3, true), (4, true), (5, true), (6, false), (7, true), (8, false), (9, false)] rfl (by kernel_rfl) (by intro _ _ d _ _ h; cases d <;> exact h) ?_
    (repeat (refine sq_take (v := ?_) rfl rfl ?_ ?_; rotate_left; (intro w' hx'; have hc' := hx'.cells.1; (try simp only [wcd] at hc'); go_simp; (first | done | with_reducible rfl)); (try simp only [Act.put, List.setIfInBounds_toArray, List.set_cons_zero, List.set_cons_succ])))
    (refine sq_loud rfl rfl fun K hK => ?_; go_simp)
    refine (radd_c (h1.ext (by repeat (first | with_reducible assumption | with_reducible exact Ext.refl _ | with_reducible refine Ext.drewN ?_ _ | with_reducible refine Ext.drew ?_ | with_reducible refine Ext.alloc ?_ _ | (with_reducible refine Ext.setCell ?_ ?_ _; rotate_left; (first | exact Nat.le_refl _ | (dsimp only; omega) | (simp only [wsz]; omega))) | (with_reducible refine Ext.trans ?_ (by with_reducible assumption))))) (h2.ext (by repeat (first | with_reducible assumption | with_reducible exact Ext.refl _ | with_reducible refine Ext.drewN ?_ _ | with_reducible refine Ext.drew ?_ | with_reducible refine Ext.alloc ?_ _ | (with_reducible refine Ext.setCell ?_ ?_ _; rotate_left; (first | exact Nat.le_refl _ | (dsimp only; omega) | (simp only [wsz]; omega))) | (with_reducible refine Ext.trans ?_ (by with_reducible assumption))))) hLx hLy).mono ?_
    rintro e w1 ⟨A1, c1, rfl, h3, hx⟩
    (refine hK _ _ (by repeat (first | with_reducible assumption | with_reducible exact Ext.refl _ | with_reducible refine Ext.drewN ?_ _ | with_reducible refine Ext.drew ?_ | with_reducible refine Ext.alloc ?_ _ | (with_reducible refine Ext.setCell ?_ ?_ _; rotate_left; (first | exact Nat.le_refl _ | (dsimp only; omega) | (simp only [wsz]; omega))) | (with_reducible refine Ext.trans ?_ (by with_reducible assumption)))) ?_; clear hK K; (try simp only [Act.put, List.setIfInBounds_toArray, List.set_cons_zero, List.set_cons_succ]))
    (repeat (refine sq_take (v := ?_) rfl rfl ?_ ?_; rotate_left; (intro w' hx'; have hc' := hx'.cells.1; (try simp only [wcd] at hc'); go_simp; (first | done | with_reducible rfl)); (try simp only [Act.put, List.setIfInBounds_toArray, List.set_cons_zero, List.set_cons_succ])))
    (refine sq_loud rfl rfl fun K hK => ?_; go_simp)
    refine (rnorm_c (z := ⟨nx, lim (nv a + nv b)⟩) ⟨A1, c1, rfl, h3⟩ hlen).mono ?_
    rintro e w2 ⟨r, rfl, ⟨A2, c2, rfl, h4⟩, hx2⟩
    (refine hK _ _ (by repeat (first | with_reducible assumption | with_reducible exact Ext.refl _ | with_reducible refine Ext.drewN ?_ _ | with_reducible refine Ext.drew ?_ | with_reducible refine Ext.alloc ?_ _ | (with_reducible refine Ext.setCell ?_ ?_ _; rotate_left; (first | exact Nat.le_refl _ | (dsimp only; omega) | (simp only [wsz]; omega))) | (with_reducible refine Ext.trans ?_ (by with_reducible assumption)))) ?_; clear hK K; (try simp only [Act.put, List.setIfInBounds_toArray, List.set_cons_zero, List.set_cons_succ]))
    (have hs := Ext.size hx; (try simp only [wsz] at hs))
    (replace hx := Ext.trans hx hx2; clear hx2; have hc := Ext.cells hx)
    (refine sq_last rfl rfl fun K hK => ?_; go_simp; refine hK _ _ ?_; clear hK K)
    go_wp2_with fail
    (refine bodyPost_ret (v := ?_) ?_ rfl ?_; rotate_left; (simp only [results, Tryz.results13]; go_simp; (first | done | with_reducible rfl)))
    exact ⟨_, rfl, e.out ▸ ⟨A2, c2, rfl, (h4.keep (by repeat (first | with_reducible exact Kp.refl _ | with_reducible refine Kp.drewN ?_ _ | with_reducible refine Kp.drew ?_ | with_reducible refine Kp.alloc ?_ _ | (with_reducible refine Kp.setCell ?_ ?_ _; rotate_left; (first | (dsimp only; omega) | (simp only [wsz]; omega))) | (with_reducible exact Kp.of_ext (by with_reducible assumption)) | (with_reducible refine Kp.ext ?_ (by with_reducible assumption))))).widen (fun b hb _ => by first | omega | (dsimp only at hb ⊢; omega) | (dsimp only at hb; omega) | (simp only [wsz] at hb ⊢; omega) | (simp only [wsz] at hb; omega))⟩, (by repeat (first | with_reducible assumption | with_reducible exact Ext.refl _ | with_reducible refine Ext.drewN ?_ _ | with_reducible refine Ext.drew ?_ | with_reducible refine Ext.alloc ?_ _ | (with_reducible refine Ext.setCell ?_ ?_ _; rotate_left; (first | exact Nat.le_refl _ | (dsimp only; omega) | (simp only [wsz]; omega))) | (with_reducible refine Ext.trans ?_ (by with_reducible assumption))))⟩
  · have hne : (nx == ny) = false := by cases nx <;> cases ny <;> simp at hn ⊢
    go_wp2_with fail
    refine (rcmp_c (h1.ext (by repeat (first | with_reducible assumption | with_reducible exact Ext.refl _ | with_reducible refine Ext.drewN ?_ _ | with_reducible refine Ext.drew ?_ | with_reducible refine Ext.alloc ?_ _ | (with_reducible refine Ext.setCell ?_ ?_ _; rotate_left; (first | exact Nat.le_refl _ | (dsimp only; omega) | (simp only [wsz]; omega))) | (with_reducible refine Ext.trans ?_ (by with_reducible assumption))))) (h2.ext (by repeat (first | with_reducible assumption | with_reducible exact Ext.refl _ | with_reducible refine Ext.drewN ?_ _ | with_reducible refine Ext.drew ?_ | with_reducible refine Ext.alloc ?_ _ | (with_reducible refine Ext.setCell ?_ ?_ _; rotate_left; (first | exact Nat.le_refl _ | (dsimp only; omega) | (simp only [wsz]; omega))) | (with_reducible refine Ext.trans ?_ (by with_reducible assumption))))) (by omega) (by omega)).mono ?_
    rintro e w1 ⟨rfl, rfl⟩
    rcases Nat.lt_or_ge (nv a) (nv b) with hlt | hlt
    · have h0 : cmpN (nv a) (nv b) < 0 := by rw [cmpN_lt hlt]; omega
      have e := v_add_other ny nx b a (Ne.symm hn) (by omega)
      rw [Int.add_comm] at e
      have E := Lib.hid e; clear e
      have hlen : (lim (nv b - nv a)).length ≤ 4398046511104 := by
        have := lim_pw (n := nv b - nv a) (k := b.length) (by have := nv_lt h2.lb; omega)
        omega
      go_wp2_with fail
      refine wp_region_seq 9 [(0, true), (1, true), (2, true), (3, true), (4, true), (5, true), (6, false), (7, true), (8, false), (9, false)] rfl (by kernel_rfl) (by intro _ _ d _ _ h; cases d <;> exact h) ?_
      (repeat (refine sq_take (v := ?_) rfl rfl ?_ ?_; rotate_left; (intro w' hx'; have hc' := hx'.cells.1; (try simp only [wcd] at hc'); go_simp; (first | done | with_reducible rfl)); (try simp only [Act.put, List.setIfInBounds_toArray, List.set_cons_zero, List.set_cons_succ])))
      (refine sq_loud rfl rfl fun K hK => ?_; go_simp)
      refine (rsub_c (h2.ext (by repeat (first | with_reducible assumption | with_reducible exact Ext.refl _ | with_reducible refine Ext.drewN ?_ _ | with_reducible refine Ext.drew ?_ | with_reducible refine Ext.alloc ?_ _ | (with_reducible refine Ext.setCell ?_ ?_ _; rotate_left; (first | exact Nat.le_refl _ | (dsimp only; omega) | (simp only [wsz]; omega))) | (with_reducible refine Ext.trans ?_ (by with_reducible assumption))))) (h1.ext (by repeat (first | with_reducible assumption | with_reducible exact Ext.refl _ | with_reducible refine Ext.drewN ?_ _ | with_reducible refine Ext.drew ?_ | with_reducible refine Ext.alloc ?_ _ | (with_reducible refine Ext.setCell ?_ ?_ _; rotate_left; (first | exact Nat.le_refl _ | (dsimp only; omega) | (simp only [wsz]; omega))) | (with_reducible refine Ext.trans ?_ (by with_reducible assumption))))) (by omega) hLy).mono ?_
      rintro e w1 ⟨A1, c1, rfl, h3, hx⟩
      (refine hK _ _ (by repeat (first | with_reducible assumption | with_reducible exact Ext.refl _ | with_reducible refine Ext.drewN ?_ _ | with_reducible refine Ext.drew ?_ | with_reducible refine Ext.alloc ?_ _ | (with_reducible refine Ext.setCell ?_ ?_ _; rotate_left; (first | exact Nat.le_refl _ | (dsimp only; omega) | (simp only [wsz]; omega))) | (with_reducible refine Ext.trans ?_ (by with_reducible assumption)))) ?_; clear hK K; (try simp only [Act.put, List.setIfInBounds_toArray, List.set_cons_zero, List.set_cons_succ]))
      (repeat (refine sq_take (v := ?_) rfl rfl ?_ ?_; rotate_left; (intro w' hx'; have hc' := hx'.cells.1; (try simp only [wcd] at hc'); go_simp; (first | done | with_reducible rfl)); (try simp only [Act.put, List.setIfInBounds_toArray, List.set_cons_zero, List.set_cons_succ])))
      (refine sq_loud rfl rfl fun K hK => ?_; go_simp)
      refine (rnorm_c (z := ⟨ny, lim (nv b - nv a)⟩) ⟨A1, c1, rfl, h3⟩ hlen).mono ?_
      rintro e w2 ⟨r, rfl, ⟨A2, c2, rfl, h4⟩, hx2⟩
      (refine hK _ _ (by repeat (first | with_reducible assumption | with_reducible exact Ext.refl _ | with_reducible refine Ext.drewN ?_ _ | with_reducible refine Ext.drew ?_ | with_reducible refine Ext.alloc ?_ _ | (with_reducible refine Ext.setCell ?_ ?_ _; rotate_left; (first | exact Nat.le_refl _ | (dsimp only; omega) | (simp only [wsz]; omega))) | (with_reducible refine Ext.trans ?_ (by with_reducible assumption)))) ?_; clear hK K; (try simp only [Act.put, List.setIfInBounds_toArray, List.set_cons_zero, List.set_cons_succ]))
      (have hs := Ext.size hx; (try simp only [wsz] at hs))
      (replace hx := Ext.trans hx hx2; clear hx2; have hc := Ext.cells hx)
      (refine sq_last rfl rfl fun K hK => ?_; go_simp; refine hK _ _ ?_; clear hK K)
      go_wp2_with fail
      (refine bodyPost_ret (v := ?_) ?_ rfl ?_; rotate_left; (simp only [results, Tryz.results13]; go_simp; (first | done | with_reducible rfl)))
      exact ⟨_, rfl, E.out ▸ ⟨A2, c2, rfl, (h4.keep (by repeat (first | with_reducible exact Kp.refl _ | with_reducible refine Kp.drewN ?_ _ | with_reducible refine Kp.drew ?_ | with_reducible refine Kp.alloc ?_ _ | (with_reducible refine Kp.setCell ?_ ?_ _; rotate_left; (first | (dsimp only; omega) | (simp only [wsz]; omega))) | (with_reducible exact Kp.of_ext (by with_reducible assumption)) | (with_reducible refine Kp.ext ?_ (by with_reducible assumption))))).widen (fun b hb _ => by first | omega | (dsimp only at hb ⊢; omega) | (dsimp only at hb; omega) | (simp only [wsz] at hb ⊢; omega) | (simp only [wsz] at hb; omega))⟩, (by repeat (first | with_reducible assumption | with_reducible exact Ext.refl _ | with_reducible refine Ext.drewN ?_ _ | with_reducible refine Ext.drew ?_ | with_reducible refine Ext.alloc ?_ _ | (with_reducible refine Ext.setCell ?_ ?_ _; rotate_left; (first | exact Nat.le_refl _ | (dsimp only; omega) | (simp only [wsz]; omega))) | (with_reducible refine Ext.trans ?_ (by with_reducible assumption))))⟩
    · have h0 : ¬ cmpN (nv a) (nv b) < 0 := by unfold cmpN; rw [if_neg (by omega)]; split <;> omega
      have e := v_add_other nx ny a b hn hlt
      have E := Lib.hid e; clear e
      have hlen : (lim (nv a - nv b)).length ≤ 4398046511104 := by
        have := lim_pw (n := nv a - nv b) (k := a.length) (by have := nv_lt h1.lb; omega)
        omega
      go_wp2_with fail
      refine wp_region_seq 9 [(0, true), (1, true), (2, true), (3, true), (4, true), (5, true), (6, false), (7, true), (8, false), (9, false)] rfl (by kernel_rfl) (by intro _ _ d _ _ h; cases d <;> exact h) ?_
      (repeat (refine sq_take (v := ?_) rfl rfl ?_ ?_; rotate_left; (intro w' hx'; have hc' := hx'.cells.1; (try simp only [wcd] at hc'); go_simp; (first | done | with_reducible rfl)); (try simp only [Act.put, List.setIfInBounds_toArray, List.set_cons_zero, List.set_cons_succ])))
      (refine sq_loud rfl rfl fun K hK => ?_; go_simp)
      refine (rsub_c (h1.ext (by repeat (first | with_reducible assumption | with_reducible exact Ext.refl _ | with_reducible refine Ext.drewN ?_ _ | with_reducible refine Ext.drew ?_ | with_reducible refine Ext.alloc ?_ _ | (with_reducible refine Ext.setCell ?_ ?_ _; rotate_left; (first | exact Nat.le_refl _ | (dsimp only; omega) | (simp only [wsz]; omega))) | (with_reducible refine Ext.trans ?_ (by with_reducible assumption))))) (h2.ext (by repeat (first | with_reducible assumption | with_reducible exact Ext.refl _ | with_reducible refine Ext.drewN ?_ _ | with_reducible refine Ext.drew ?_ | with_reducible refine Ext.alloc ?_ _ | (with_reducible refine Ext.setCell ?_ ?_ _; rotate_left; (first | exact Nat.le_refl _ | (dsimp only; omega) | (simp only [wsz]; omega))) | (with_reducible refine Ext.trans ?_ (by with_reducible assumption))))) (by omega) hLx).mono ?_
      rintro e w1 ⟨A1, c1, rfl, h3, hx⟩
      (refine hK _ _ (by repeat (first | with_reducible assumption | with_reducible exact Ext.refl _ | with_reducible refine Ext.drewN ?_ _ | with_reducible refine Ext.drew ?_ | with_reducible refine Ext.alloc ?_ _ | (with_reducible refine Ext.setCell ?_ ?_ _; rotate_left; (first | exact Nat.le_refl _ | (dsimp only; omega) | (simp only [wsz]; omega))) | (with_reducible refine Ext.trans ?_ (by with_reducible assumption)))) ?_; clear hK K; (try simp only [Act.put, List.setIfInBounds_toArray, List.set_cons_zero, List.set_cons_succ]))
      (repeat (refine sq_take (v := ?_) rfl rfl ?_ ?_; rotate_left; (intro w' hx'; have hc' := hx'.cells.1; (try simp only [wcd] at hc'); go_simp; (first | done | with_reducible rfl)); (try simp only [Act.put, List.setIfInBounds_toArray, List.set_cons_zero, List.set_cons_succ])))
      (refine sq_loud rfl rfl fun K hK => ?_; go_simp)
      refine (rnorm_c (z := ⟨nx, lim (nv a - nv b)⟩) ⟨A1, c1, rfl, h3⟩ hlen).mono ?_
      rintro e w2 ⟨r, rfl, ⟨A2, c2, rfl, h4⟩, hx2⟩
      (refine hK _ _ (by repeat (first | with_reducible assumption | with_reducible exact Ext.refl _ | with_reducible refine Ext.drewN ?_ _ | with_reducible refine Ext.drew ?_ | with_reducible refine Ext.alloc ?_ _ | (with_reducible refine Ext.setCell ?_ ?_ _; rotate_left; (first | exact Nat.le_refl _ | (dsimp only; omega) | (simp only [wsz]; omega))) | (with_reducible refine Ext.trans ?_ (by with_reducible assumption)))) ?_; clear hK K; (try simp only [Act.put, List.setIfInBounds_toArray, List.set_cons_zero, List.set_cons_succ]))
      (have hs := Ext.size hx; (try simp only [wsz] at hs))
      (replace hx := Ext.trans hx hx2; clear hx2; have hc := Ext.cells hx)
      (refine sq_last rfl rfl fun K hK => ?_; go_simp; refine hK _ _ ?_; clear hK K)
      go_wp2_with fail
      (refine bodyPost_ret (v := ?_) ?_ rfl ?_; rotate_left; (simp only [results, Tryz.results13]; go_simp; (first | done | with_reducible rfl)))
      exact ⟨_, rfl, E.out ▸ ⟨A2, c2, rfl, (h4.keep (by repeat (first | with_reducible exact Kp.refl _ | with_reducible refine Kp.drewN ?_ _ | with_reducible refine Kp.drew ?_ | with_reducible refine Kp.alloc ?_ _ | (with_reducible refine Kp.setCell ?_ ?_ _; rotate_left; (first | (dsimp only; omega) | (simp only [wsz]; omega))) | (with_reducible exact Kp.of_ext (by with_reducible assumption)) | (with_reducible refine Kp.ext ?_ (by with_reducible assumption))))).widen (fun b hb _ => by first | omega | (dsimp only at hb ⊢; omega) | (dsimp only at hb; omega) | (simp only [wsz] at hb ⊢; omega) | (simp only [wsz] at hb; omega))⟩, (by repeat (first | with_reducible assumption | with_reducible exact Ext.refl _ | with_reducible refine Ext.drewN ?_ _ | with_reducible refine Ext.drew ?_ | with_reducible refine Ext.alloc ?_ _ | (with_reducible refine Ext.setCell ?_ ?_ _; rotate_left; (first | exact Nat.le_refl _ | (dsimp only; omega) | (simp only [wsz]; omega))) | (with_reducible refine Ext.trans ?_ (by with_reducible assumption))))⟩

set_option maxHeartbeats 400000 in
theorem rof_c (n : Int) (hn : -9223372036854775808 ≤ n) (hn2 : n ≤ 9223372036854775807) (w : World) :
    Calls Tryz.prog 40 #[.int .i64 n] w fun e w' => ∃ r, e = .returned r ∧ Zi w' (w.heap.size ≤ ·) r (cz n) ∧ Ext w w' := by
  by_cases h0 : n < 0
  · have e1 : -(n + 1) + 1 = ((n.natAbs : Nat) : Int) := by omega
    have e2 := u64_low n.natAbs (by omega)
    have e3 : nv [n.natAbs % 4294967296, n.natAbs / 4294967296] = n.natAbs := by simp only [nv]; omega
    have e4 : Z.v ⟨true, [n.natAbs % 4294967296, n.natAbs / 4294967296]⟩ = n := by unfold Z.v; rw [e3]; simp; omega
    have E1 := Lib.hid e1; have E2 := Lib.hid e2; have E4 := Lib.hid e4; clear e1 e2 e3 e4
    go_enter Tryz.func40, Tryz.ntmps40
    go_wp2_with fail
    have hr := rnorm_c (z := ⟨true, [n.natAbs % 4294967296, n.natAbs / 4294967296]⟩) ⟨_, _, rfl, Nl.lit2 (w.alloc (.cells #[.bool false, .slice none 0 0] 25)) (x := bits BinOp.and IntKind.u64 (-(n + 1) + 1) 4294967295 % 4294967296) (y := (-(n + 1) + 1) / 4294967296) (g := w.heap.size + 1) _ _ (by simp) (by rw [E1.out, E2.out]; omega) (by rw [E1.out]; omega) (by omega) (by omega)⟩ (by simp)
    refine hr.mono ?_
    rw [E4.out]
    clear hr
    rintro e w1 ⟨r, rfl, ⟨A1, c1, rfl, h1⟩, hx⟩
    have r1 := (Box.ext (Box.alloc (Box.new w _ _) _) hx).rules
    (have hs := Ext.size hx; (try simp only [wsz] at hs))
    go_wp2_with fail
    (refine bodyPost_ret (v := ?_) ?_ rfl ?_; rotate_left; (simp only [results, Tryz.results40]; go_simp; (first | done | with_reducible rfl)))
    exact ⟨_, rfl, ⟨A1, c1, rfl, (h1.keep (by repeat (first | with_reducible exact Kp.refl _ | with_reducible refine Kp.drewN ?_ _ | with_reducible refine Kp.drew ?_ | with_reducible refine Kp.alloc ?_ _ | (with_reducible refine Kp.setCell ?_ ?_ _; rotate_left; (first | (dsimp only; omega) | (simp only [wsz]; omega))) | (with_reducible exact Kp.of_ext (by with_reducible assumption)) | (with_reducible refine Kp.ext ?_ (by with_reducible assumption))))).widen (fun b hb _ => by first | omega | (dsimp only at hb ⊢; omega) | (dsimp only at hb; omega) | (simp only [wsz] at hb ⊢; omega) | (simp only [wsz] at hb; omega))⟩, (by repeat (first | with_reducible assumption | with_reducible exact Ext.refl _ | with_reducible refine Ext.drewN ?_ _ | with_reducible refine Ext.drew ?_ | with_reducible refine Ext.alloc ?_ _ | (with_reducible refine Ext.setCell ?_ ?_ _; rotate_left; (first | exact Nat.le_refl _ | (dsimp only; omega) | (simp only [wsz]; omega))) | (with_reducible refine Ext.trans ?_ (by with_reducible assumption))))⟩
  · obtain ⟨m, rfl⟩ := Int.eq_ofNat_of_zero_le (by omega : 0 ≤ n)
    have e2 := u64_low m (by omega)
    have e3 : nv [m % 4294967296, m / 4294967296] = m := by simp only [nv]; omega
    have e4 : Z.v ⟨false, [m % 4294967296, m / 4294967296]⟩ = (m : Int) := by unfold Z.v; rw [e3]; simp
    have E2 := Lib.hid e2; have E4 := Lib.hid e4; clear e2 e3 e4
    go_enter Tryz.func40, Tryz.ntmps40
    go_wp2_with fail
    have hr := rnorm_c (z := ⟨false, [m % 4294967296, m / 4294967296]⟩) ⟨_, _, rfl, Nl.lit2 (w.alloc (.cells #[.bool false, .slice none 0 0] 25)) (x := bits BinOp.and IntKind.u64 (m : Int) 4294967295 % 4294967296) (y := (m : Int) / 4294967296) (g := w.heap.size + 1) _ _ (by simp) (by rw [E2.out]; omega) (by omega) (by omega) (by omega)⟩ (by simp)
    refine hr.mono ?_
    rw [E4.out]
    clear hr
    rintro e w1 ⟨r, rfl, ⟨A1, c1, rfl, h1⟩, hx⟩
    have r1 := (Box.ext (Box.alloc (Box.new w _ _) _) hx).rules
    (have hs := Ext.size hx; (try simp only [wsz] at hs))
    go_wp2_with fail
    (refine bodyPost_ret (v := ?_) ?_ rfl ?_; rotate_left; (simp only [results, Tryz.results40]; go_simp; (first | done | with_reducible rfl)))
    exact ⟨_, rfl, ⟨A1, c1, rfl, (h1.keep (by repeat (first | with_reducible exact Kp.refl _ | with_reducible refine Kp.drewN ?_ _ | with_reducible refine Kp.drew ?_ | with_reducible refine Kp.alloc ?_ _ | (with_reducible refine Kp.setCell ?_ ?_ _; rotate_left; (first | (dsimp only; omega) | (simp only [wsz]; omega))) | (with_reducible exact Kp.of_ext (by with_reducible assumption)) | (with_reducible refine Kp.ext ?_ (by with_reducible assumption))))).widen (fun b hb _ => by first | omega | (dsimp only at hb ⊢; omega) | (dsimp only at hb; omega) | (simp only [wsz] at hb ⊢; omega) | (simp only [wsz] at hb; omega))⟩, (by repeat (first | with_reducible assumption | with_reducible exact Ext.refl _ | with_reducible refine Ext.drewN ?_ _ | with_reducible refine Ext.drew ?_ | with_reducible refine Ext.alloc ?_ _ | (with_reducible refine Ext.setCell ?_ ?_ _; rotate_left; (first | exact Nat.le_refl _ | (dsimp only; omega) | (simp only [wsz]; omega))) | (with_reducible refine Ext.trans ?_ (by with_reducible assumption))))⟩

end Go.Proofs.YtbblgjjomgipfaaGreat
