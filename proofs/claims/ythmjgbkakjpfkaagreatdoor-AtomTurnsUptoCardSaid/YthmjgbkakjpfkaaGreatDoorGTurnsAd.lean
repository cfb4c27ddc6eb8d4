/- Contracts of package riddleref02. No conditions. An int's bounds. No conditions. Parts, values, terms in memory. No conditions. Contracts of package zint. No conditions. -/
import Derived.Test.YthmjgbkakjpfkaaGreatDoorGTurnsAc
import Derived.Test.YthmjgbkakjpfkaaGreatDoorGTurnsAa
import Derived.Test.YthmjgbkakjpfkaaGreatDoorGTurnsAg
namespace Go.Proofs.YthmjgbkakjpfkaaGreatDoor
open Go.RowKit

set_option maxHeartbeats 400000 in
theorem rnorm_c {v : Value} {z : Z} {w : World} {X : Nat → Prop} (h : Zi w X v z) (hL : z.mag.length ≤ 4398046511104) :
    Calls Tryz.prog 100 #[v] w fun e w' => ∃ r, e = .returned r ∧ Zi w' (w.heap.size ≤ ·) r (cz z.v) ∧ Ext w w' := by
  obtain ⟨A, c, rfl, h⟩ := h; obtain ⟨n, l⟩ := z; have hcz := Lib.hid (cz_made n l)
  go_enter Tryz.func100, Tryz.ntmps100
  go_wp2_with fail
  refine (rtrim_c (h.ext xt) hL).mono ?_; rintro e w1 ⟨A1, c1, rfl, h1, hx⟩; have hc := hx.cells
  cases n <;> go_wp2_with fail
  · (refine bodyPost_ret (v := ?_) ?_ rfl ?_; rotate_left; (simp only [results, Tryz.results100]; go_simp; (first | done | with_reducible rfl)))
    refine ⟨_, rfl, ?_, xt⟩; rw [hcz.out]; exact ⟨A1, c1, rfl, (h1.keep kpt).widen (fun b hb _ => by first | omega | (dsimp only at hb ⊢; omega) | (dsimp only at hb; omega) | (simp only [wsz] at hb ⊢; omega) | (simp only [wsz] at hb; omega))⟩
  · (refine bodyPost_ret (v := ?_) ?_ rfl ?_; rotate_left; (simp only [results, Tryz.results100]; go_simp; (first | done | with_reducible rfl)))
    refine ⟨_, rfl, ?_, xt⟩; rw [hcz.out]; exact ⟨A1, c1, by rw [Bool.true_and], (h1.keep kpt).widen (fun b hb _ => by first | omega | (dsimp only at hb ⊢; omega) | (dsimp only at hb; omega) | (simp only [wsz] at hb ⊢; omega) | (simp only [wsz] at hb; omega))⟩

set_option maxHeartbeats 400000 in
theorem rvalid_c {v : Value} {z : Z} {w : World} {X : Nat → Prop} (h : Zi w X v z) (hL : z.mag.length ≤ 4398046511104) :
    Calls Tryz.prog 54 #[v] w fun e w' => e = .returned (.bool z.ok) ∧ Ext w w' := by
  have hk := Lib.hid (rok h.lb); obtain ⟨A, c, rfl, h⟩ := h
  go_enter Tryz.func54, Tryz.ntmps54
  go_wp2_with fail
  refine (rnorm_c ⟨A, c, rfl, h.ext xt⟩ hL).mono ?_; rintro e w1 ⟨r, rfl, ⟨A1, c1, rfl, h1⟩, hx⟩; have hc := hx.cells
  (have hs := Ext.size hx; (try simp only [wsz] at hs))
  have l0 : w.heap.size < w1.heap.size := by omega
  generalize cz z.v = y at *; obtain ⟨n, l⟩ := z; obtain ⟨m, k⟩ := y
  by_cases hn : m = n
  · subst hn
    by_cases hl : k.length = l.length
    · have i1 : (((k.length : Nat) : Int) == ((l.length : Nat) : Int)) = true := by rw [beq_iff_eq]; omega
      have Hl := Lib.hid hl; clear hl
      go_wp2_with fail
      go_ret
      exact ⟨ret_bool (by rw [← hk.out]; simp [Hl.out]), xt⟩
    · have i1 : (((k.length : Nat) : Int) == ((l.length : Nat) : Int)) = false := beq_eq_false_iff_ne.2 (by omega)
      go_wp2_with fail
      go_ret
      exact ⟨ret_bool (by rw [← hk.out]; simp [hl]), xt⟩
  · have i1 : (m == n) = false := by simp [hn]
    go_wp2_with fail
    go_ret
    exact ⟨ret_bool (by rw [← hk.out]; simp [hn]), xt⟩

set_option maxHeartbeats 400000 in
theorem rsign_c {v : Value} {z : Z} {w : World} {X : Nat → Prop} (h : Zi w X v z) (hL : z.mag.length ≤ 4398046511104) :
    Calls Tryz.prog 55 #[v] w fun e w' => e = .returned (.int .i64 (sgn z.v)) ∧ Ext w w' := by
  obtain ⟨A, c, rfl, h⟩ := h
  go_enter Tryz.func55, Tryz.ntmps55
  go_wp2_with fail
  refine (rnorm_c ⟨A, c, rfl, h.ext xt⟩ hL).mono ?_; rintro e w1 ⟨r, rfl, ⟨A1, c1, rfl, h1⟩, hx⟩; have hc := hx.cells
  (have hs := Ext.size hx; (try simp only [wsz] at hs))
  have hz := lim_len_pos z.v.natAbs; have hlen := cz_len z.v; unfold zl at hlen
  rcases Int.lt_trichotomy z.v 0 with h0 | h0 | h0
  · have e0 : sgn z.v = -1 := cmpI_lt h0
    have e1 : (cz z.v).neg = true := by simp [cz, h0]
    have i1 : ((((cz z.v).mag.length : Nat) : Int) == 0) = false := beq_eq_false_iff_ne.2 (by omega); have E0 := Lib.hid e0; clear hlen hz e0
    go_wp2_with fail
    go_ret
    exact ⟨ret_int E0.out.symm, xt⟩
  · have e0 : sgn z.v = 0 := cmpI_eq h0
    have i1 : ((((cz z.v).mag.length : Nat) : Int) == 0) = true := by rw [beq_iff_eq, hlen, h0]; rfl
    have E0 := Lib.hid e0; clear hlen hz e0 h0
    go_wp2_with fail
    go_ret
    exact ⟨ret_int E0.out.symm, xt⟩
  · have e0 : sgn z.v = 1 := cmpI_gt h0
    have e1 : (cz z.v).neg = false := by simp [cz]; omega
    have i1 : ((((cz z.v).mag.length : Nat) : Int) == 0) = false := beq_eq_false_iff_ne.2 (by omega); have E0 := Lib.hid e0; clear hlen hz e0
    go_wp2_with fail
    go_ret
    exact ⟨ret_int E0.out.symm, xt⟩

set_option maxHeartbeats 800000 in
theorem rcmpz_c {u v : Value} {x y : Z} {w : World} {X Y : Nat → Prop} (hx : Zi w X u x) (hy : Zi w Y v y) (hLx : x.mag.length ≤ 4398046511104) (hLy : y.mag.length ≤ 4398046511104) :
    Calls Tryz.prog 81 #[u, v] w fun e w' => e = .returned (.int .i64 (cmpI x.v y.v)) ∧ Ext w w' := by
  obtain ⟨A, c, rfl, h1⟩ := hx; obtain ⟨B, d, rfl, h2⟩ := hy
  have hs1 := fun (W : World) (h : Nl W X A c x.mag) => rsign_c (v := .agg #[.bool x.neg, .slice A x.mag.length c]) (z := x) ⟨A, c, rfl, h⟩ hLx
  have hs2 := fun (W : World) (h : Nl W Y B d y.mag) => rsign_c (v := .agg #[.bool y.neg, .slice B y.mag.length d]) (z := y) ⟨B, d, rfl, h⟩ hLy
  have hlt := @sgn_lt x.v y.v; have hgt := @sgn_lt y.v x.v; have heq := @cmp_mags x y; have b1 := sgn_bd x.v; have b2 := sgn_bd y.v; generalize sgn x.v = s at *; generalize sgn y.v = t at *
  have Hs1 := Lib.hid hs1; have Hs2 := Lib.hid hs2; have Hlt := Lib.hid hlt; have Hgt := Lib.hid hgt; have Heq := Lib.hid heq
  clear hs1 hs2 hlt hgt heq; obtain ⟨b1, b1'⟩ := b1; obtain ⟨b2, b2'⟩ := b2
  go_enter Tryz.func81, Tryz.ntmps81
  go_wp2_with fail
  refine (Hs1.out _ (h1.ext xt)).mono ?_; rintro e w1 ⟨rfl, hx⟩; have hc := hx.cells
  go_wp2_with fail
  refine (Hs2.out _ (h2.ext xt)).mono ?_; rintro e w2 ⟨rfl, hx2⟩
  (replace hx := Ext.trans hx hx2; clear hx2; have hc2 := Ext.cells hx)
  have hw : ∀ W, Ext w2 W → Ext w W := fun W h => Ext.trans xt h
  rcases Int.lt_trichotomy s t with hst | hst | hst
  · have hne : (s != t) = true := by rw [bne_iff_ne]; omega
    have hcm := Lib.hid (cmpI_lt (Hlt.out hst))
    go_wp2_with fail
    go_ret
    exact ⟨ret_int (by rw [hcm.out] <;> omega), hw _ xt⟩
  · have hne : (s != t) = false := by simp [hst]
    have Hst := Lib.hid hst; clear hst
    go_wp2_with fail
    refine (rcmp_c (h1.ext (hw _ xt)) (h2.ext (hw _ xt)) (by omega) (by omega)).mono ?_; rintro e w3 ⟨rfl, rfl⟩; have hbd := cmpN_I (nv x.mag) (nv y.mag); have hbd2 := cmpI_bd (nv x.mag) (nv y.mag)
    have hsw : cmpN (nv y.mag) (nv x.mag) = -cmpN (nv x.mag) (nv y.mag) := by rw [cmpN_I, cmpN_I]; exact cmpI_swap _ _
    rw [← hbd] at hbd2; clear hbd; generalize cmpN (nv x.mag) (nv y.mag) = q at *; obtain ⟨q1, q2⟩ := hbd2; have Hsw := Lib.hid hsw; clear hsw
    by_cases h0 : s < 0
    · have hcm := Lib.hid ((Heq.out Hst.out).1 h0)
      go_wp2_with fail
      go_ret
      exact ⟨ret_int (by rw [hcm.out, Hsw.out]), hw _ xt⟩
    · have hcm := Lib.hid ((Heq.out Hst.out).2 (by omega))
      go_wp2_with fail
      go_ret
      exact ⟨ret_int hcm.out.symm, hw _ xt⟩
  · have hne : (s != t) = true := by rw [bne_iff_ne]; omega
    have hcm := Lib.hid (cmpI_gt (Hgt.out hst))
    have hnl : ¬ s < t := by omega
    go_wp2_with fail
    go_ret
    exact ⟨ret_int (by rw [hcm.out] <;> omega), hw _ xt⟩

set_option maxHeartbeats 400000 in
theorem rsame_c {u v : Value} {x y : Z} {w : World} {X Y : Nat → Prop} (hx : Zi w X u x) (hy : Zi w Y v y) (hLx : x.mag.length ≤ 4398046511104) (hLy : y.mag.length ≤ 4398046511104) :
    Calls Tryz.prog 109 #[u, v] w fun e w' => e = .returned (.bool (decide (x.v = y.v))) ∧ Ext w w' := by
  obtain ⟨A, c, rfl, h1⟩ := hx; obtain ⟨B, d, rfl, h2⟩ := hy
  go_enter Tryz.func109, Tryz.ntmps109
  go_wp2_with fail
  refine (rcmpz_c ⟨A, c, rfl, h1.ext xt⟩ ⟨B, d, rfl, h2.ext xt⟩ hLx hLy).mono ?_; rintro e w1 ⟨rfl, hx⟩
  go_wp2_with fail
  go_ret
  refine ⟨ret_bool ?_, xt⟩; rw [Bool.eq_iff_iff]; simp [cmpI_zero]

set_option maxHeartbeats 400000 in
theorem ris_c {u v : Value} {x y : Z} {w : World} {X Y : Nat → Prop} (hx : Zi w X u x) (hy : Zi w Y v y) (hLx : x.mag.length ≤ 4398046511104) (hLy : y.mag.length ≤ 4398046511104) :
    Calls Tryz.prog 65 #[u, v] w fun e w' => e = .returned (.bool (x.ok && decide (x.v = y.v))) ∧ Ext w w' := by
  obtain ⟨A, c, rfl, h1⟩ := hx; obtain ⟨B, d, rfl, h2⟩ := hy
  go_enter Tryz.func65, Tryz.ntmps65
  go_wp2_with fail
  refine (rvalid_c ⟨A, c, rfl, h1.ext xt⟩ hLx).mono ?_; rintro e w1 ⟨rfl, hx⟩; have hc := hx.cells
  go_wp2_with fail
  refine (rsame_c ⟨A, c, rfl, h1.ext xt⟩ ⟨B, d, rfl, h2.ext xt⟩ hLx hLy).mono ?_; rintro e w2 ⟨rfl, hx2⟩; have hw := hx.trans hx2; clear hc
  cases hok : x.ok
  · go_wp2_with fail
    go_ret
    exact ⟨ret_bool (by simp [hok]), xt⟩
  · go_wp2_with fail
    go_ret
    exact ⟨ret_bool (by simp [hok]), xt⟩

set_option maxHeartbeats 800000 in
theorem rmulz_c {u v : Value} {x y : Z} {w : World} {X Y : Nat → Prop} (hx : Zi w X u x) (hy : Zi w Y v y) (hLx : x.mag.length ≤ 549755813888) (hLy : y.mag.length ≤ 549755813888) :
    Calls Tryz.prog 121 #[u, v] w fun e w' => ∃ r, e = .returned r ∧ Zi w' (w.heap.size ≤ ·) r (cz (x.v * y.v)) ∧ Ext w w' := by
  obtain ⟨A, c, rfl, h1⟩ := hx; obtain ⟨B, d, rfl, h2⟩ := hy; obtain ⟨nx, a⟩ := x; obtain ⟨ny, b⟩ := y; rw [← v_mul]
  have hlen : (lim (nv a * nv b)).length ≤ 4398046511104 := by
    have := zl_mul (nv a) (nv b); unfold zl at this; rw [Int.natAbs_mul, Int.natAbs_natCast, Int.natAbs_natCast] at this; have h3 : (lim (nv a)).length ≤ a.length := lim_len_le h1.lb; have h4 : (lim (nv b)).length ≤ b.length := lim_len_le h2.lb; simp only at hLx hLy
    omega
  go_enter Tryz.func121, Tryz.ntmps121
  go_wp2_with fail
  refine wp_region_seq 12 [(0, true), (1, true), (2, true), (3, true), (4, true), (5, true), (6, true), (7, true), (8, true), (9, false), (10, true), (11, false), (12, false)] rfl (by kernel_rfl) (by intro _ _ d _ _ h; cases d <;> exact h) ?_
  (repeat (refine sq_take (v := ?_) rfl rfl ?_ ?_; rotate_left; (intro w' hx'; have hc' := hx'.cells.1; (try simp only [wcd] at hc'); go_simp; (first | done | with_reducible rfl)); (try simp only [pt])))
  (refine sq_loud rfl rfl fun K hK => ?_; go_simp)
  refine (rmul_c (h1.ext xt) (h2.ext xt) hLx hLy).mono ?_; rintro e w1 ⟨A1, c1, rfl, h3, hx⟩
  (refine hK _ _ xt ?_; clear hK K; (try simp only [pt]))
  (repeat (refine sq_take (v := ?_) rfl rfl ?_ ?_; rotate_left; (intro w' hx'; have hc' := hx'.cells.1; (try simp only [wcd] at hc'); go_simp; (first | done | with_reducible rfl)); (try simp only [pt])))
  (refine sq_loud rfl rfl fun K hK => ?_; go_simp)
  refine (rnorm_c (z := ⟨!(nx == ny), lim (nv a * nv b)⟩) ⟨A1, c1, rfl, h3⟩ hlen).mono ?_; rintro e w2 ⟨r, rfl, ⟨A2, c2, rfl, h4⟩, hx2⟩
  (refine hK _ _ xt ?_; clear hK K; (try simp only [pt]))
  (have hs := Ext.size hx; (try simp only [wsz] at hs))
  (replace hx := Ext.trans hx hx2; clear hx2; have hc := Ext.cells hx)
  (refine sq_last rfl rfl fun K hK => ?_; go_simp; refine hK _ _ ?_; clear hK K)
  go_wp2_with fail
  (refine bodyPost_ret (v := ?_) ?_ rfl ?_; rotate_left; (simp only [results, Tryz.results121]; go_simp; (first | done | with_reducible rfl)))
  exact ⟨_, rfl, ⟨A2, c2, rfl, (h4.keep kpt).widen (fun b hb _ => by first | omega | (dsimp only at hb ⊢; omega) | (dsimp only at hb; omega) | (simp only [wsz] at hb ⊢; omega) | (simp only [wsz] at hb; omega))⟩, xt⟩

set_option maxHeartbeats 1600000 in
theorem raddz_c {u v : Value} {x y : Z} {w : World} {X Y : Nat → Prop} (hx : Zi w X u x) (hy : Zi w Y v y) (hLx : x.mag.length ≤ 1099511627776) (hLy : y.mag.length ≤ 1099511627776) :
    Calls Tryz.prog 72 #[u, v] w fun e w' => ∃ r, e = .returned r ∧ Zi w' (w.heap.size ≤ ·) r (cz (x.v + y.v)) ∧ Ext w w' := by
  obtain ⟨A, c, rfl, h1⟩ := hx; obtain ⟨B, d, rfl, h2⟩ := hy; obtain ⟨nx, a⟩ := x; obtain ⟨ny, b⟩ := y; have ha : (lim (nv a)).length ≤ a.length := lim_len_le h1.lb; have hb : (lim (nv b)).length ≤ b.length := lim_len_le h2.lb; simp only at hLx hLy
  go_enter Tryz.func72, Tryz.ntmps72
  by_cases hn : nx = ny
  · subst hn
    have hlen : (lim (nv a + nv b)).length ≤ 4398046511104 := by
      have := zl_add (x := nv a) (y := nv b) (k := 1099511627776) (by unfold zl; rw [Int.natAbs_natCast]; omega) (by unfold zl; rw [Int.natAbs_natCast]; omega); unfold zl at this
      have e : ((nv a : Int) + nv b).natAbs = nv a + nv b := by omega
      rw [e] at this
      omega
    have e := Lib.hid (v_add_same nx a b)
    go_wp2_with fail
    refine wp_region_seq 9 [(0, true), (1, true), (2, true), (3, true), (4, true), (5, true), (6, false), (7, true), (8, false), (9, false)] rfl (by kernel_rfl) (by intro _ _ d _ _ h; cases d <;> exact h) ?_
    (repeat (refine sq_take (v := ?_) rfl rfl ?_ ?_; rotate_left; (intro w' hx'; have hc' := hx'.cells.1; (try simp only [wcd] at hc'); go_simp; (first | done | with_reducible rfl)); (try simp only [pt])))
    (refine sq_loud rfl rfl fun K hK => ?_; go_simp)
    refine (radd_c (h1.ext xt) (h2.ext xt) hLx hLy).mono ?_; rintro e w1 ⟨A1, c1, rfl, h3, hx⟩
    (refine hK _ _ xt ?_; clear hK K; (try simp only [pt]))
    (repeat (refine sq_take (v := ?_) rfl rfl ?_ ?_; rotate_left; (intro w' hx'; have hc' := hx'.cells.1; (try simp only [wcd] at hc'); go_simp; (first | done | with_reducible rfl)); (try simp only [pt])))
    (refine sq_loud rfl rfl fun K hK => ?_; go_simp)
    refine (rnorm_c (z := ⟨nx, lim (nv a + nv b)⟩) ⟨A1, c1, rfl, h3⟩ hlen).mono ?_; rintro e w2 ⟨r, rfl, ⟨A2, c2, rfl, h4⟩, hx2⟩
    (refine hK _ _ xt ?_; clear hK K; (try simp only [pt]))
    (have hs := Ext.size hx; (try simp only [wsz] at hs))
    (replace hx := Ext.trans hx hx2; clear hx2; have hc := Ext.cells hx)
    (refine sq_last rfl rfl fun K hK => ?_; go_simp; refine hK _ _ ?_; clear hK K)
    go_wp2_with fail
    (refine bodyPost_ret (v := ?_) ?_ rfl ?_; rotate_left; (simp only [results, Tryz.results72]; go_simp; (first | done | with_reducible rfl)))
    exact ⟨_, rfl, e.out ▸ ⟨A2, c2, rfl, (h4.keep kpt).widen (fun b hb _ => by first | omega | (dsimp only at hb ⊢; omega) | (dsimp only at hb; omega) | (simp only [wsz] at hb ⊢; omega) | (simp only [wsz] at hb; omega))⟩, xt⟩
  · have hne : (nx == ny) = false := by cases nx <;> cases ny <;> simp at hn ⊢
    go_wp2_with fail
    refine (rcmp_c (h1.ext xt) (h2.ext xt) (by omega) (by omega)).mono ?_; rintro e w1 ⟨rfl, rfl⟩
    rcases Nat.lt_or_ge (nv a) (nv b) with hlt | hlt
    · have h0 : cmpN (nv a) (nv b) < 0 := by rw [cmpN_lt hlt]; omega
      have e := v_add_other ny nx b a (Ne.symm hn) (by omega); rw [Int.add_comm] at e
      have E := Lib.hid e; clear e
      have hlen : (lim (nv b - nv a)).length ≤ 4398046511104 := by
        have := lim_pw (n := nv b - nv a) (k := b.length) (by have := nv_lt h2.lb; omega)
        omega
      go_wp2_with fail
      refine wp_region_seq 9 [(0, true), (1, true), (2, true), (3, true), (4, true), (5, true), (6, false), (7, true), (8, false), (9, false)] rfl (by kernel_rfl) (by intro _ _ d _ _ h; cases d <;> exact h) ?_
      (repeat (refine sq_take (v := ?_) rfl rfl ?_ ?_; rotate_left; (intro w' hx'; have hc' := hx'.cells.1; (try simp only [wcd] at hc'); go_simp; (first | done | with_reducible rfl)); (try simp only [pt])))
      (refine sq_loud rfl rfl fun K hK => ?_; go_simp)
      refine (rsub_c (h2.ext xt) (h1.ext xt) (by omega) hLy).mono ?_; rintro e w1 ⟨A1, c1, rfl, h3, hx⟩
      (refine hK _ _ xt ?_; clear hK K; (try simp only [pt]))
      (repeat (refine sq_take (v := ?_) rfl rfl ?_ ?_; rotate_left; (intro w' hx'; have hc' := hx'.cells.1; (try simp only [wcd] at hc'); go_simp; (first | done | with_reducible rfl)); (try simp only [pt])))
      (refine sq_loud rfl rfl fun K hK => ?_; go_simp)
      refine (rnorm_c (z := ⟨ny, lim (nv b - nv a)⟩) ⟨A1, c1, rfl, h3⟩ hlen).mono ?_; rintro e w2 ⟨r, rfl, ⟨A2, c2, rfl, h4⟩, hx2⟩
      (refine hK _ _ xt ?_; clear hK K; (try simp only [pt]))
      (have hs := Ext.size hx; (try simp only [wsz] at hs))
      (replace hx := Ext.trans hx hx2; clear hx2; have hc := Ext.cells hx)
      (refine sq_last rfl rfl fun K hK => ?_; go_simp; refine hK _ _ ?_; clear hK K)
      go_wp2_with fail
      (refine bodyPost_ret (v := ?_) ?_ rfl ?_; rotate_left; (simp only [results, Tryz.results72]; go_simp; (first | done | with_reducible rfl)))
      exact ⟨_, rfl, E.out ▸ ⟨A2, c2, rfl, (h4.keep kpt).widen (fun b hb _ => by first | omega | (dsimp only at hb ⊢; omega) | (dsimp only at hb; omega) | (simp only [wsz] at hb ⊢; omega) | (simp only [wsz] at hb; omega))⟩, xt⟩
    · have h0 : ¬ cmpN (nv a) (nv b) < 0 := by unfold cmpN; rw [if_neg (by omega)]; split <;> omega
      have e := v_add_other nx ny a b hn hlt
      have E := Lib.hid e; clear e
      have hlen : (lim (nv a - nv b)).length ≤ 4398046511104 := by
        have := lim_pw (n := nv a - nv b) (k := a.length) (by have := nv_lt h1.lb; omega)
        omega
      go_wp2_with fail
      refine wp_region_seq 9 [(0, true), (1, true), (2, true), (3, true), (4, true), (5, true), (6, false), (7, true), (8, false), (9, false)] rfl (by kernel_rfl) (by intro _ _ d _ _ h; cases d <;> exact h) ?_
      (repeat (refine sq_take (v := ?_) rfl rfl ?_ ?_; rotate_left; (intro w' hx'; have hc' := hx'.cells.1; (try simp only [wcd] at hc'); go_simp; (first | done | with_reducible rfl)); (try simp only [pt])))
      (refine sq_loud rfl rfl fun K hK => ?_; go_simp)
      refine (rsub_c (h1.ext xt) (h2.ext xt) (by omega) hLx).mono ?_; rintro e w1 ⟨A1, c1, rfl, h3, hx⟩
      (refine hK _ _ xt ?_; clear hK K; (try simp only [pt]))
      (repeat (refine sq_take (v := ?_) rfl rfl ?_ ?_; rotate_left; (intro w' hx'; have hc' := hx'.cells.1; (try simp only [wcd] at hc'); go_simp; (first | done | with_reducible rfl)); (try simp only [pt])))
      (refine sq_loud rfl rfl fun K hK => ?_; go_simp)
      refine (rnorm_c (z := ⟨nx, lim (nv a - nv b)⟩) ⟨A1, c1, rfl, h3⟩ hlen).mono ?_; rintro e w2 ⟨r, rfl, ⟨A2, c2, rfl, h4⟩, hx2⟩
      (refine hK _ _ xt ?_; clear hK K; (try simp only [pt]))
      (have hs := Ext.size hx; (try simp only [wsz] at hs))
      (replace hx := Ext.trans hx hx2; clear hx2; have hc := Ext.cells hx)
      (refine sq_last rfl rfl fun K hK => ?_; go_simp; refine hK _ _ ?_; clear hK K)
      go_wp2_with fail
      (refine bodyPost_ret (v := ?_) ?_ rfl ?_; rotate_left; (simp only [results, Tryz.results72]; go_simp; (first | done | with_reducible rfl)))
      exact ⟨_, rfl, E.out ▸ ⟨A2, c2, rfl, (h4.keep kpt).widen (fun b hb _ => by first | omega | (dsimp only at hb ⊢; omega) | (dsimp only at hb; omega) | (simp only [wsz] at hb ⊢; omega) | (simp only [wsz] at hb; omega))⟩, xt⟩

set_option maxHeartbeats 400000 in
theorem rof_c (n : Int) (hn : -9223372036854775808 ≤ n) (hn2 : n ≤ 9223372036854775807) (w : World) :
    Calls Tryz.prog 71 #[.int .i64 n] w fun e w' => ∃ r, e = .returned r ∧ Zi w' (w.heap.size ≤ ·) r (cz n) ∧ Ext w w' := by
  by_cases h0 : n < 0
  · have e1 : -(n + 1) + 1 = ((n.natAbs : Nat) : Int) := by omega
    have e2 := u64_low n.natAbs (by omega)
    have e3 : nv [n.natAbs % 4294967296, n.natAbs / 4294967296] = n.natAbs := by simp only [nv]; omega
    have e4 : Z.v ⟨true, [n.natAbs % 4294967296, n.natAbs / 4294967296]⟩ = n := by unfold Z.v; rw [e3]; simp; omega
    have E1 := Lib.hid e1; have E2 := Lib.hid e2; have E4 := Lib.hid e4; clear e1 e2 e3 e4
    go_enter Tryz.func71, Tryz.ntmps71
    go_wp2_with fail
    have hr := rnorm_c (z := ⟨true, [n.natAbs % 4294967296, n.natAbs / 4294967296]⟩) ⟨_, _, rfl, Nl.lit2 (w.alloc (.cells #[.bool false, .slice none 0 0] 24)) (x := bits BinOp.and IntKind.u64 (-(n + 1) + 1) 4294967295 % 4294967296) (y := (-(n + 1) + 1) / 4294967296) (g := w.heap.size + 1) _ _ (by simp) (by rw [E1.out, E2.out]; omega) (by rw [E1.out]; omega) (by omega) (by omega)⟩ (by simp); refine hr.mono ?_; rw [E4.out]; clear hr; rintro e w1 ⟨r, rfl, ⟨A1, c1, rfl, h1⟩, hx⟩; have r1 := (Box.ext (Box.alloc (Box.new w _ _) _) hx).rules
    (have hs := Ext.size hx; (try simp only [wsz] at hs))
    go_wp2_with fail
    (refine bodyPost_ret (v := ?_) ?_ rfl ?_; rotate_left; (simp only [results, Tryz.results71]; go_simp; (first | done | with_reducible rfl)))
    exact ⟨_, rfl, ⟨A1, c1, rfl, (h1.keep kpt).widen (fun b hb _ => by first | omega | (dsimp only at hb ⊢; omega) | (dsimp only at hb; omega) | (simp only [wsz] at hb ⊢; omega) | (simp only [wsz] at hb; omega))⟩, xt⟩
  · obtain ⟨m, rfl⟩ := Int.eq_ofNat_of_zero_le (by omega : 0 ≤ n); have e2 := u64_low m (by omega)
    have e3 : nv [m % 4294967296, m / 4294967296] = m := by simp only [nv]; omega
    have e4 : Z.v ⟨false, [m % 4294967296, m / 4294967296]⟩ = (m : Int) := by unfold Z.v; rw [e3]; simp
    have E2 := Lib.hid e2; have E4 := Lib.hid e4; clear e2 e3 e4
    go_enter Tryz.func71, Tryz.ntmps71
    go_wp2_with fail
    have hr := rnorm_c (z := ⟨false, [m % 4294967296, m / 4294967296]⟩) ⟨_, _, rfl, Nl.lit2 (w.alloc (.cells #[.bool false, .slice none 0 0] 24)) (x := bits BinOp.and IntKind.u64 (m : Int) 4294967295 % 4294967296) (y := (m : Int) / 4294967296) (g := w.heap.size + 1) _ _ (by simp) (by rw [E2.out]; omega) (by omega) (by omega) (by omega)⟩ (by simp); refine hr.mono ?_; rw [E4.out]; clear hr; rintro e w1 ⟨r, rfl, ⟨A1, c1, rfl, h1⟩, hx⟩; have r1 := (Box.ext (Box.alloc (Box.new w _ _) _) hx).rules
    (have hs := Ext.size hx; (try simp only [wsz] at hs))
    go_wp2_with fail
    (refine bodyPost_ret (v := ?_) ?_ rfl ?_; rotate_left; (simp only [results, Tryz.results71]; go_simp; (first | done | with_reducible rfl)))
    exact ⟨_, rfl, ⟨A1, c1, rfl, (h1.keep kpt).widen (fun b hb _ => by first | omega | (dsimp only at hb ⊢; omega) | (dsimp only at hb; omega) | (simp only [wsz] at hb ⊢; omega) | (simp only [wsz] at hb; omega))⟩, xt⟩

end Go.Proofs.YthmjgbkakjpfkaaGreatDoor

namespace Go.Proofs.YthmjgbkakjpfkaaGreatDoor
open Go.RowKit

theorem sq_done {P : Program} {ops : Array Oper} {Q : Exit → Act → World → Prop} {L : Nat} {a : Act} {w : World} (h : Q .normal a w) : SeqW P ops Q L [] a w := h
def i64 (x : Int) : Prop := -9223372036854775808 ≤ x ∧ x ≤ 9223372036854775807
theorem w64 {n : Int} (h : i64 n) : IntKind.i64.wrap n = n := by
  obtain ⟨h1, h2⟩ := h; simp [IntKind.wrap, IntKind.bits, IntKind.signed]
  omega
theorem w64n {n : Nat} (h : n ≤ 9223372036854775807) : IntKind.i64.wrap (n : Int) = n := w64 ⟨by omega, by omega⟩

end Go.Proofs.YthmjgbkakjpfkaaGreatDoor

namespace Go.Proofs.YthmjgbkakjpfkaaGreatDoor
open Go.RowKit

def EP (w : World) (X : Nat → Prop) (cs : List Value) (p : Int × Z) : Prop := ∃ A c, cs = [.int .i64 p.1, .bool p.2.neg, .slice A p.2.mag.length c] ∧ i64 p.1 ∧ Nl w X A c p.2.mag
instance : Stab EP := ⟨fun ⟨A, c, h, i, k⟩ kp => ⟨A, c, h, i, k.keep kp⟩, fun ⟨A, c, h, i, k⟩ kp => ⟨A, c, h, i, k.widen kp⟩, fun ⟨A, c, h, _, _⟩ => by subst h; simp [Value.oneCell']⟩
abbrev Pl (w : World) (X : Nat → Prop) (A : Option Addr) (c : Nat) (l : List (Int × Z)) : Prop := Sl 3 EP w X A c l
theorem Pl.keep {w w' : World} {X : Nat → Prop} {A : Option Addr} {c : Nat} {l : List (Int × Z)} (h : Pl w X A c l) (k : Kp X w w') : Pl w' X A c l := Sl.keep h k
theorem Pl.ext {w w' : World} {X : Nat → Prop} {A : Option Addr} {c : Nat} {l : List (Int × Z)} (h : Pl w X A c l) (k : Ext w w') : Pl w' X A c l := Sl.keep h (.of_ext k)
theorem Pl.widen {w : World} {X Y : Nat → Prop} {A : Option Addr} {c : Nat} {l : List (Int × Z)} (h : Pl w X A c l) (k : ∀ b, X b → b < w.heap.size → Y b) : Pl w Y A c l := Sl.widen h (by omega) k
theorem Pl.below {w : World} {X : Nat → Prop} {A : Option Addr} {c : Nat} {l : List (Int × Z)} (h : Pl w X A c l) : Pl w (· < w.heap.size) A c l := h.widen fun _ _ hb => hb
def pth (l : List (Int × Z)) (k : Nat) : Int × Z := l.getD k (0, ⟨false, []⟩)
theorem pth_eq (l : List (Int × Z)) (k : Nat) (h : k < l.length) : pth l k = l[k] := by simp [pth, h]
theorem pth_mem {l : List (Int × Z)} {k : Nat} (h : k < l.length) : pth l k ∈ l := by rw [pth_eq l k h]; exact List.getElem_mem h
theorem drop_pth (l : List (Int × Z)) (k : Nat) (h : k < l.length) : l.drop k = pth l k :: l.drop (k + 1) := by
  rw [pth_eq l k h]; exact List.drop_eq_getElem_cons h
theorem take_pth (l : List (Int × Z)) (k : Nat) (h : k < l.length) : l.take (k + 1) = l.take k ++ [pth l k] := by
  rw [pth_eq l k h]; exact List.take_succ_eq_append_getElem h
theorem Pl.at_ {w : World} {X : Nat → Prop} {A : Option Addr} {c : Nat} {l : List (Int × Z)} (h : Pl w X A c l) {k : Nat} (hk : k < l.length) :
    ∃ b o B d, A = some ⟨b, o, none⟩ ∧ X b ∧ w.cell? ⟨b, o + k * 3, none⟩ = some (.int .i64 (pth l k).1) ∧ w.cell? ⟨b, o + k * 3 + 1, none⟩ = some (.bool (pth l k).2.neg) ∧
      w.cell? ⟨b, o + k * 3 + 2, none⟩ = some (.slice B (pth l k).2.mag.length d) ∧ i64 (pth l k).1 ∧ Nl w X B d (pth l k).2.mag := by
  obtain ⟨b, o, hA, hX, hi⟩ := h.2.2.1 (by omega); obtain ⟨cs, _, hc, B, d, rfl, h1, h2⟩ := hi k hk; rw [pth_eq l k hk]; exact ⟨b, o, B, d, hA, hX, hc 0 (by simp), hc 1 (by simp), hc 2 (by simp), h1, h2⟩
theorem Pl.lb {w : World} {X : Nat → Prop} {A : Option Addr} {c : Nat} {l : List (Int × Z)} (h : Pl w X A c l) : ∀ p ∈ l, Lb p.2.mag := by
  intro p hp; obtain ⟨k, hk, rfl⟩ := List.getElem_of_mem hp; obtain ⟨_, _, _, _, _, _, _, _, _, _, h1⟩ := h.at_ hk; rw [pth_eq l k hk] at h1; exact h1.lb
theorem Pl.i64 {w : World} {X : Nat → Prop} {A : Option Addr} {c : Nat} {l : List (Int × Z)} (h : Pl w X A c l) : ∀ p ∈ l, i64 p.1 := by
  intro p hp; obtain ⟨k, hk, rfl⟩ := List.getElem_of_mem hp; obtain ⟨_, _, _, _, _, _, _, _, _, h1, _⟩ := h.at_ hk; rw [pth_eq l k hk] at h1; exact h1
theorem Pl.lit1 {w : World} {X : Nat → Prop} {g : Nat} {x : Int} {z : Z} {A : Option Addr} {c : Nat} (hg : g = w.heap.size) (hX : X g) (hi : Go.Proofs.YthmjgbkakjpfkaaGreatDoor.i64 x) (h : Nl w X A c z.mag) :
    Pl (w.alloc (.cells #[.int .i64 x, .bool z.neg, .slice A z.mag.length c] 37)) X (some ⟨g, 0, none⟩) 1 [(x, z)] :=
  Sl.of_flat (by simp) (by simp [maxLen]) (Thaw.new hg _ _) (Fl.one ⟨A, c, rfl, hi, h.keep ((Kp.refl w).alloc _)⟩ rfl) fun _ => ⟨_, _, rfl, hX, fun j u hu => by
    rw [World.cell?_alloc_at (hn := hg)]
    match j, hu with
    | 0, hu => simpa using hu
    | 1, hu => simpa using hu
    | 2, hu => simpa using hu⟩
def Tv (w : World) (X : Nat → Prop) (v : Value) (t : T) : Prop :=
  ∃ A c B d, v = .agg #[.slice A t.ps.length c, .bool t.k.neg, .slice B t.k.mag.length d] ∧ Pl w X A c t.ps ∧ Nl w X B d t.k.mag
theorem Tv.keep {w w' : World} {X : Nat → Prop} {v : Value} {t : T} (h : Tv w X v t) (k : Kp X w w') : Tv w' X v t := let ⟨A, c, B, d, e, h1, h2⟩ := h; ⟨A, c, B, d, e, h1.keep k, h2.keep k⟩
theorem Tv.ext {w w' : World} {X : Nat → Prop} {v : Value} {t : T} (h : Tv w X v t) (k : Ext w w') : Tv w' X v t := h.keep (.of_ext k)
theorem Tv.widen {w : World} {X Y : Nat → Prop} {v : Value} {t : T} (h : Tv w X v t) (k : ∀ b, X b → b < w.heap.size → Y b) : Tv w Y v t := let ⟨A, c, B, d, e, h1, h2⟩ := h; ⟨A, c, B, d, e, h1.widen k, h2.widen k⟩
theorem Tv.lb {w : World} {X : Nat → Prop} {v : Value} {t : T} (h : Tv w X v t) : t.lb := let ⟨_, _, _, _, _, h1, h2⟩ := h; ⟨h1.lb, h2.lb⟩
theorem ety_p : Ety Tryz.prog 25 37 3 40 (.agg #[.int .i64 0, .bool false, .slice none 0 0]) := ⟨Tryz.underlying25, by kernel_rfl, by simp [Value.cells], by omega⟩
def prv (l : List (Int × Z)) : Nat → Option Int
  | 0 => none
  | k + 1 => some (pth l k).1

end Go.Proofs.YthmjgbkakjpfkaaGreatDoor

namespace Go.Proofs.YthmjgbkakjpfkaaGreatDoor
open Go.RowKit

set_option maxHeartbeats 400000 in
theorem cloneu_c {A : Option Addr} {c : Nat} {l : List Nat} {w : World} {X : Nat → Prop} (h : Nl w X A c l) (hL : l.length ≤ 4398046511104) :
    Calls Tryz.prog 133 #[.slice A l.length c] w fun e w' => ∃ A' c', e = .returned (.slice A' l.length c') ∧ Nl w' (w.heap.size ≤ ·) A' c' l ∧ Ext w w' := by
  have hn := fun (W : World) (A : Option Addr) (n c : Nat) => Lib.run_eql_slice_nil (P := Tryz.prog) W 22 75 A n c 0 0 Tryz.underlying22
  cases A with
  | none =>
    have h0 : l = [] := by
      rcases Nat.eq_zero_or_pos l.length with h0 | h0
      · exact List.eq_nil_of_length_eq_zero h0
      · obtain ⟨b, o, hA, _⟩ := h.2.2.1 h0
        cases hA
    subst h0
    go_enter Tryz.func133, Tryz.ntmps133
    go_wp2
    go_ret
    exact ⟨none, 0, rfl, Sl.nil0 _ _ _, Ext.refl _⟩
  | some ad =>
    go_enter Tryz.func133, Tryz.ntmps133
    go_wp2_with (first
      | (at_builtin
         refine wpList_app ety_u (.tmp 5) (.tmp 6) (base := w.heap.size) (Z := fun _ => False) (Own.empty w _ _ (Nat.le_refl _)) (Fl.u h.lb _ _) (uc_at (h.keep ((Kp.refl w).alloc _))) (by simp; omega) (by simp [maxLen]; omega) (by simp) rfl rfl rfl rfl ?_
         intro v1 w2 hown hg hat))
    go_ret
    obtain ⟨A2, c2, rfl, h2⟩ := Nown.nl hown; exact ⟨A2, c2, by simp, by simpa using h2, ((Ext.refl w).alloc _).grown hg (by simp [Value.ownBlock])⟩

set_option maxHeartbeats 800000 in
theorem trim_c {A : Option Addr} {c : Nat} {l : List Nat} {w : World} {X : Nat → Prop} (h : Nl w X A c l) (hL : l.length ≤ 4398046511104) :
    Calls Tryz.prog 96 #[.slice A l.length c] w fun e w' => ∃ A' c', e = .returned (.slice A' (lim (nv l)).length c') ∧ Nl w' (w.heap.size ≤ ·) A' c' (lim (nv l)) ∧ Ext w w' := by
  have hlc := h.1; have hcm := h.2.1; have hb := h.lt; simp only [maxLen] at hcm
  have fin : ∀ k, k ≤ l.length → (∀ j, k ≤ j → j < l.length → nth l j = 0) → (0 < k → nth l (k - 1) ≠ 0) → ∀ wr, Ext w wr → (lim (nv l)).length = k ∧ Nl wr X A c (lim (nv l)) := by
    intro k hk hz hl wr hx; have e := take_lim hb hk hz hl; rw [← e]; exact ⟨by rw [List.length_take]; omega, Sl.take (h.ext hx) hk (by omega) h.2.1⟩
  have Fin := Lib.hid fin; clear fin
  go_enter Tryz.func96, Tryz.ntmps96
  go_wp2
  go_loopw [0] (fun v wr => ∃ k : Nat, k ≤ l.length ∧ v = .slice A k c ∧ (∀ j, k ≤ j → j < l.length → nth l j = 0) ∧ Ext w wr) (fun v _ => match v with | .slice _ n _ => n | _ => 0)
  case atStart => exact ⟨l.length, Nat.le_refl _, rfl, fun j h1 h2 => by omega, Ext.refl _⟩
  case round =>
    obtain ⟨k, hk, rfl, hz, hx⟩ := hrel
    have Hz := Lib.hid hz; clear hz
    by_cases h0 : 0 < k
    · obtain ⟨b, o, rfl, hX, hcell, _⟩ := (h.ext hx).at_ (k := k - 1) (by omega); have hc1 := hcell (k - 1) (by omega)
      have i0 : (0 : Int) < (k : Int) := by omega
      by_cases hn : nth l (k - 1) = 0
      · have hn' : (((nth l (k - 1) : Nat) : Int) == 0) = true := by simp [hn]
        clear hcell
        go_wp2
        go_roundw
        case rel =>
          refine ⟨k - 1, by omega, rfl, fun j h1 h2 => ?_, hx⟩
          rcases Nat.eq_or_lt_of_le h1 with e | e
          · rw [← e]; exact hn
          · exact Hz.out j (by omega) h2
        case measure => show k - 1 < k; omega
      · have hn' : (((nth l (k - 1) : Nat) : Int) == 0) = false := by simp [hn]
        clear hcell; obtain ⟨e1, h2⟩ := Fin.out k hk Hz.out (fun _ => hn) wr hx; have hc := cloneu_c h2 (by omega); rw [e1] at hc
        have E1 := Lib.hid e1; clear e1
        go_wp2_with fail
        refine hc.mono ?_; rintro e w2 ⟨A2, c2, rfl, h3, hx2⟩
        go_wp2
        go_ret
        have := hx.size; exact ⟨A2, c2, ret_slice E1.out.symm, h3.widen fun b hb _ => by omega, hx.trans hx2⟩
    · obtain ⟨e1, h2⟩ := Fin.out k hk Hz.out (fun h => absurd h h0) wr hx; have hc := cloneu_c h2 (by omega); rw [e1] at hc
      have E1 := Lib.hid e1; clear e1
      go_wp2_with fail
      refine hc.mono ?_; rintro e w2 ⟨A2, c2, rfl, h3, hx2⟩
      go_wp2
      go_ret
      have := hx.size; exact ⟨A2, c2, ret_slice E1.out.symm, h3.widen fun b hb _ => by omega, hx.trans hx2⟩

set_option maxHeartbeats 400000 in
theorem made_c {A : Option Addr} {c : Nat} {neg : Bool} {l : List Nat} {w : World} {X : Nat → Prop} (h : Nl w X A c l) (hL : l.length ≤ 4398046511104) :
    Calls Tryz.prog 47 #[.bool neg, .slice A l.length c] w fun e w' => ∃ r, e = .returned r ∧ Zi w' (w.heap.size ≤ ·) r (cz (Z.v ⟨neg, l⟩)) ∧ Ext w w' := by
  have hcz := Lib.hid (cz_made neg l)
  go_enter Tryz.func47, Tryz.ntmps47
  go_wp2_with fail
  refine (trim_c (h.ext xt) hL).mono ?_; rintro e w1 ⟨A1, c1, rfl, h1, hx⟩; have hc := hx.cells
  cases neg <;> go_wp2_with fail
  · (refine bodyPost_ret (v := ?_) ?_ rfl ?_; rotate_left; (simp only [results, Tryz.results47]; go_simp; (first | done | with_reducible rfl)))
    refine ⟨_, rfl, ?_, xt⟩; rw [hcz.out]; exact ⟨A1, c1, rfl, (h1.keep kpt).widen (fun b hb _ => by first | omega | (dsimp only at hb ⊢; omega) | (dsimp only at hb; omega) | (simp only [wsz] at hb ⊢; omega) | (simp only [wsz] at hb; omega))⟩
  · (refine bodyPost_ret (v := ?_) ?_ rfl ?_; rotate_left; (simp only [results, Tryz.results47]; go_simp; (first | done | with_reducible rfl)))
    refine ⟨_, rfl, ?_, xt⟩; rw [hcz.out]; exact ⟨A1, c1, by rw [Bool.true_and], (h1.keep kpt).widen (fun b hb _ => by first | omega | (dsimp only at hb ⊢; omega) | (dsimp only at hb; omega) | (simp only [wsz] at hb ⊢; omega) | (simp only [wsz] at hb; omega))⟩

set_option maxHeartbeats 400000 in
theorem znorm_c {v : Value} {z : Z} {w : World} {X : Nat → Prop} (h : Zi w X v z) (hL : z.mag.length ≤ 4398046511104) :
    Calls Tryz.prog 95 #[v] w fun e w' => ∃ r, e = .returned r ∧ Zi w' (w.heap.size ≤ ·) r (cz z.v) ∧ Ext w w' := by
  obtain ⟨A, c, rfl, h⟩ := h
  go_enter Tryz.func95, Tryz.ntmps95
  go_wp2_with fail
  refine (made_c (h.ext xt) hL).mono ?_; rintro e w1 ⟨r, rfl, ⟨A1, c1, rfl, h1⟩, hx⟩; have hc := hx.cells
  go_wp2_with fail
  (refine bodyPost_ret (v := ?_) ?_ rfl ?_; rotate_left; (simp only [results, Tryz.results95]; go_simp; (first | done | with_reducible rfl)))
  exact ⟨_, rfl, ⟨A1, c1, rfl, (h1.keep kpt).widen (fun b hb _ => by first | omega | (dsimp only at hb ⊢; omega) | (dsimp only at hb; omega) | (simp only [wsz] at hb ⊢; omega) | (simp only [wsz] at hb; omega))⟩, xt⟩

set_option maxHeartbeats 400000 in
theorem zneg_c {v : Value} {z : Z} {w : World} {X : Nat → Prop} (h : Zi w X v z) (hL : z.mag.length ≤ 4398046511104) :
    Calls Tryz.prog 105 #[v] w fun e w' => ∃ r, e = .returned r ∧ Zi w' (w.heap.size ≤ ·) r (cz (-z.v)) ∧ Ext w w' := by
  have ez : (-z.v) = Z.v ⟨!z.neg, z.mag⟩ := by unfold Z.v; cases z.neg <;> simp
  rw [ez]; clear ez; obtain ⟨A, c, rfl, h⟩ := h
  go_enter Tryz.func105, Tryz.ntmps105
  go_wp2_with fail
  refine (made_c (h.ext xt) hL).mono ?_; rintro e w1 ⟨r, rfl, ⟨A1, c1, rfl, h1⟩, hx⟩; have hc := hx.cells
  go_wp2_with fail
  (refine bodyPost_ret (v := ?_) ?_ rfl ?_; rotate_left; (simp only [results, Tryz.results105]; go_simp; (first | done | with_reducible rfl)))
  exact ⟨_, rfl, ⟨A1, c1, rfl, (h1.keep kpt).widen (fun b hb _ => by first | omega | (dsimp only at hb ⊢; omega) | (dsimp only at hb; omega) | (simp only [wsz] at hb ⊢; omega) | (simp only [wsz] at hb; omega))⟩, xt⟩

set_option maxHeartbeats 400000 in
theorem zvalid_c {v : Value} {z : Z} {w : World} {X : Nat → Prop} (h : Zi w X v z) :
    Calls Tryz.prog 53 #[v] w fun e w' => e = .returned (.bool z.ok) ∧ Ext w w' := by
  obtain ⟨A, c, rfl, h⟩ := h
  have hm := h.2.1; have hl := h.1
  simp only [maxLen] at hm
  rcases Nat.eq_zero_or_pos z.mag.length with h0 | h0
  · have hok : z.ok = !z.neg := by unfold Z.ok; rw [if_pos h0]
    have h1 : (((z.mag.length : Nat) : Int) == 0) = true := by simp [h0]
    have Hok := Lib.hid hok; clear hok h0
    go_enter Tryz.func53, Tryz.ntmps53
    go_wp2_with fail
    go_ret
    exact ⟨ret_bool Hok.out.symm, xt⟩
  · have hok : z.ok = (nth z.mag (z.mag.length - 1) != 0) := by unfold Z.ok; rw [if_neg (by omega)]
    have h1 : (((z.mag.length : Nat) : Int) == 0) = false := beq_eq_false_iff_ne.2 (by omega)
    have Hok := Lib.hid hok; clear hok
    obtain ⟨b, o, rfl, hX, hcell, _⟩ := h.at_ (k := z.mag.length - 1) (by omega); have hc1 := hcell (z.mag.length - 1) (by omega); have hlt := World.block_lt_of_cell? _ _ hc1; clear hcell
    go_enter Tryz.func53, Tryz.ntmps53
    go_wp2_with fail
    go_ret
    refine ⟨ret_bool ?_, xt⟩; rw [Hok.out, Bool.eq_iff_iff, bne_iff_ne, bne_iff_ne]
    omega

set_option maxHeartbeats 400000 in
theorem zof_c (n : Int) (hn : -9223372036854775808 ≤ n) (hn2 : n ≤ 9223372036854775807) (w : World) :
    Calls Tryz.prog 16 #[.int .i64 n] w fun e w' => ∃ r, e = .returned r ∧ Zi w' (w.heap.size ≤ ·) r (cz n) ∧ Ext w w' := by
  have hsmall := zl_word (x := n) (by omega); unfold zl at hsmall
  by_cases h0 : n < 0
  · have ew : IntKind.u64.wrap (-IntKind.u64.wrap n) = ((n.natAbs : Nat) : Int) := by simp only [wrap_u64]; omega
    have ev : Z.v ⟨true, lim n.natAbs⟩ = n := by simp only [Z.v, nv_lim, if_true]; omega
    have Ew := Lib.hid ew; have Ev := Lib.hid ev; clear ew ev
    go_enter Tryz.func16, Tryz.ntmps16
    go_wp2_with fail
    rw [Ew.out]; refine (of_c n.natAbs (by omega) _).mono ?_; rintro e w1 ⟨A1, c1, rfl, h1, hx⟩
    go_wp2_with fail
    refine (made_c h1 (by omega)).mono ?_; rw [Ev.out]; rintro e w2 ⟨r, rfl, ⟨A2, c2, rfl, h2⟩, hx2⟩; have hc := (Ext.trans hx hx2).cells
    go_wp2_with fail
    (refine bodyPost_ret (v := ?_) ?_ rfl ?_; rotate_left; (simp only [results, Tryz.results16]; go_simp; (first | done | with_reducible rfl)))
    have := hx.size; have := hx2.size
    simp only [World.size_alloc] at *; exact ⟨_, rfl, ⟨A2, c2, rfl, (h2.keep kpt).widen (fun b hb _ => by first | omega | (dsimp only at hb ⊢; omega) | (dsimp only at hb; omega) | (simp only [wsz] at hb ⊢; omega) | (simp only [wsz] at hb; omega))⟩, xt⟩
  · obtain ⟨m, rfl⟩ := Int.eq_ofNat_of_zero_le (by omega : 0 ≤ n)
    have ev : Z.v ⟨false, lim m⟩ = (m : Int) := by simp [Z.v, nv_lim]
    rw [Int.natAbs_natCast] at hsmall
    have Ev := Lib.hid ev; clear ev
    go_enter Tryz.func16, Tryz.ntmps16
    go_wp2_with fail
    refine (of_c m (by omega) _).mono ?_; rintro e w1 ⟨A1, c1, rfl, h1, hx⟩
    go_wp2_with fail
    refine (made_c h1 (by omega)).mono ?_; rw [Ev.out]; rintro e w2 ⟨r, rfl, ⟨A2, c2, rfl, h2⟩, hx2⟩; have hc := (Ext.trans hx hx2).cells
    go_wp2_with fail
    (refine bodyPost_ret (v := ?_) ?_ rfl ?_; rotate_left; (simp only [results, Tryz.results16]; go_simp; (first | done | with_reducible rfl)))
    have := hx.size; have := hx2.size
    simp only [World.size_alloc] at *; exact ⟨_, rfl, ⟨A2, c2, rfl, (h2.keep kpt).widen (fun b hb _ => by first | omega | (dsimp only at hb ⊢; omega) | (dsimp only at hb; omega) | (simp only [wsz] at hb ⊢; omega) | (simp only [wsz] at hb; omega))⟩, xt⟩

set_option maxHeartbeats 400000 in
theorem zsign_c {v : Value} {z : Z} {w : World} {X : Nat → Prop} (h : Zi w X v z) :
    Calls Tryz.prog 14 #[v] w fun e w' => e = .returned (.int .i64 (sgn z.v)) ∧ Ext w w' := by
  obtain ⟨A, c, rfl, h⟩ := h
  have hm := h.2.1; have hl := h.1
  simp only [maxLen] at hm
  have fin : ∀ k, k < z.mag.length → nth z.mag k ≠ 0 → sgn z.v = if z.neg then -1 else 1 := by
    intro k hk h0; have h1 := nv_pos_of h0; unfold sgn Z.v
    cases z.neg
    · simp only [Bool.false_eq_true, if_false]; exact cmpI_gt (by omega)
    · simp only [if_true]; exact cmpI_lt (by omega)
  have fin0 : (∀ k, k < z.mag.length → nth z.mag k = 0) → sgn z.v = 0 := by
    intro hz; have h1 := nv_zero_of hz; unfold sgn Z.v; rw [h1]; exact cmpI_eq (by split <;> rfl)
  have Fin := Lib.hid fin; have Fin0 := Lib.hid fin0; clear fin fin0
  go_enter Tryz.func14, Tryz.ntmps14
  go_wp2_with fail
  go_loop [8] (fun iv => ∃ k : Nat, k ≤ z.mag.length ∧ iv = .int .i64 k ∧ ∀ j, j < k → nth z.mag j = 0) (fun iv => z.mag.length - (intOf iv).toNat)
  case atStart => exact ⟨0, Nat.zero_le _, rfl, fun j h => by omega⟩
  case round =>
    obtain ⟨k, hk, rfl, hz⟩ := hrel
    have Hz := Lib.hid hz; clear hz
    by_cases hlt : k < z.mag.length
    · obtain ⟨b, o, rfl, hX, hcell, _⟩ := h.at_ hlt; have hc1 := hcell k hlt; have hb := World.block_lt_of_cell? _ _ hc1; clear hcell
      by_cases hn : nth z.mag k = 0
      · have hn' : (((nth z.mag k : Nat) : Int) == 0) = true := by simp [hn]
        go_wp2_with fail
        go_round
        case rel =>
          refine ⟨k + 1, by omega, by go_num, fun j hj => ?_⟩
          rcases Nat.lt_or_ge j k with h1 | h1
          · exact Hz.out j h1
          · have : j = k := by omega
            subst this; exact hn
        case measure => simp [intOf] <;> omega
      · have hn' : (((nth z.mag k : Nat) : Int) == 0) = false := beq_eq_false_iff_ne.2 (by omega); have hs := Fin.out k hlt hn
        have Hs := Lib.hid hs; clear hs
        rcases hneg : z.neg with _ | _
        · rw [hneg] at Hs
          go_wp2_with fail
          go_ret
          exact ⟨ret_int Hs.out.symm, xt⟩
        · rw [hneg] at Hs
          go_wp2_with fail
          go_ret
          exact ⟨ret_int Hs.out.symm, xt⟩
    · obtain rfl : k = z.mag.length := by omega
      go_wp2_with fail
      go_ret
      exact ⟨ret_int (Fin0.out Hz.out).symm, xt⟩

set_option maxHeartbeats 800000 in
theorem zcmp_c {u v : Value} {x y : Z} {w : World} {X Y : Nat → Prop} (hx : Zi w X u x) (hy : Zi w Y v y) :
    Calls Tryz.prog 15 #[u, v] w fun e w' => e = .returned (.int .i64 (cmpI x.v y.v)) ∧ Ext w w' := by
  obtain ⟨A, c, rfl, h1⟩ := hx; obtain ⟨B, d, rfl, h2⟩ := hy
  have hs1 := fun (W : World) (h : Nl W X A c x.mag) => zsign_c (v := .agg #[.bool x.neg, .slice A x.mag.length c]) (z := x) ⟨A, c, rfl, h⟩
  have hs2 := fun (W : World) (h : Nl W Y B d y.mag) => zsign_c (v := .agg #[.bool y.neg, .slice B y.mag.length d]) (z := y) ⟨B, d, rfl, h⟩
  have hlt := @sgn_lt x.v y.v; have hgt := @sgn_lt y.v x.v; have heq := @cmp_mags x y; have b1 := sgn_bd x.v; have b2 := sgn_bd y.v; generalize sgn x.v = s at *; generalize sgn y.v = t at *
  have Hs1 := Lib.hid hs1; have Hs2 := Lib.hid hs2; have Hlt := Lib.hid hlt; have Hgt := Lib.hid hgt; have Heq := Lib.hid heq
  clear hs1 hs2 hlt hgt heq; obtain ⟨b1, b1'⟩ := b1; obtain ⟨b2, b2'⟩ := b2
  go_enter Tryz.func15, Tryz.ntmps15
  go_wp2_with fail
  refine wp_region_seq 5 [(0, true), (2, true), (1, false), (3, false), (4, false), (5, false)] rfl (by kernel_rfl) (by intro _ _ d _ _ h; cases d <;> exact h) ?_
  (repeat (refine sq_take (v := ?_) rfl rfl ?_ ?_; rotate_left; (intro w' hx'; have hc' := hx'.cells.1; (try simp only [wcd] at hc'); go_simp; (first | done | with_reducible rfl)); (try simp only [pt])))
  (refine sq_loud rfl rfl fun K hK => ?_; go_simp)
  refine (Hs1.out _ (h1.ext xt)).mono ?_; rintro e w1 ⟨rfl, hx⟩
  (refine hK _ _ xt ?_; clear hK K; (try simp only [pt]))
  (refine sq_loud rfl rfl fun K hK => ?_; go_simp)
  refine (Hs2.out _ (h2.ext xt)).mono ?_; rintro e w2 ⟨rfl, hx2⟩
  (refine hK _ _ xt ?_; clear hK K; (try simp only [pt]))
  replace hx := hx.trans hx2
  clear hx2
  (refine sq_loud rfl rfl fun K hK => ?_; go_simp)
  (refine hK _ _ xt ?_; clear hK K; (try simp only [pt]))
  (refine sq_last rfl rfl fun K hK => ?_; go_simp; refine hK _ _ ?_; clear hK K)
  have hc := hx.cells
  have hw : ∀ W, Ext w2 W → Ext w W := fun W h => Ext.trans xt h
  rcases Int.lt_trichotomy s t with hst | hst | hst
  · have hne : (s != t) = true := by rw [bne_iff_ne]; omega
    have hcm := Lib.hid (cmpI_lt (Hlt.out hst))
    go_wp2_with fail
    all_goals
      go_ret
      exact ⟨ret_int (by rw [hcm.out] <;> omega), hw _ xt⟩
  · have hne : (s != t) = false := by simp [hst]
    have Hst := Lib.hid hst; clear hst
    by_cases h0 : s < 0
    · have hcm := Lib.hid ((Heq.out Hst.out).1 h0)
      go_wp2_with fail
      refine (cmp_c (h2.ext (hw _ xt)) (h1.ext (hw _ xt))).mono ?_; rintro e w3 ⟨rfl, hx3⟩
      go_wp2_with fail
      go_ret
      exact ⟨ret_int hcm.out.symm, hw _ xt⟩
    · have hcm := Lib.hid ((Heq.out Hst.out).2 (by omega))
      go_wp2_with fail
      refine (cmp_c (h1.ext (hw _ xt)) (h2.ext (hw _ xt))).mono ?_; rintro e w3 ⟨rfl, hx3⟩
      go_wp2_with fail
      go_ret
      exact ⟨ret_int hcm.out.symm, hw _ xt⟩
  · have hne : (s != t) = true := by rw [bne_iff_ne]; omega
    have hcm := Lib.hid (cmpI_gt (Hgt.out hst))
    go_wp2_with fail
    all_goals
      go_ret
      exact ⟨ret_int (by rw [hcm.out] <;> omega), hw _ xt⟩

set_option maxHeartbeats 800000 in
theorem zmul_c {u v : Value} {x y : Z} {w : World} {X Y : Nat → Prop} (hx : Zi w X u x) (hy : Zi w Y v y) (hLx : x.mag.length ≤ 1099511627776) (hLy : y.mag.length ≤ 1099511627776) :
    Calls Tryz.prog 93 #[u, v] w fun e w' => ∃ r, e = .returned r ∧ Zi w' (w.heap.size ≤ ·) r (cz (x.v * y.v)) ∧ Ext w w' := by
  obtain ⟨A, c, rfl, h1⟩ := hx; obtain ⟨B, d, rfl, h2⟩ := hy; obtain ⟨nx, a⟩ := x; obtain ⟨ny, b⟩ := y; rw [← v_mul]
  have hlen : (lim (nv a * nv b)).length ≤ 4398046511104 := by
    have := zl_mul (nv a) (nv b); unfold zl at this; rw [Int.natAbs_mul, Int.natAbs_natCast, Int.natAbs_natCast] at this; have h3 : (lim (nv a)).length ≤ a.length := lim_len_le h1.lb; have h4 : (lim (nv b)).length ≤ b.length := lim_len_le h2.lb; simp only at hLx hLy
    omega
  go_enter Tryz.func93, Tryz.ntmps93
  go_wp2_with fail
  refine wp_region_seq 11 [(0, true), (1, true), (2, true), (3, true), (4, true), (5, true), (6, true), (7, true), (8, true), (9, false), (10, false), (11, false)] rfl (by kernel_rfl) (by intro _ _ d _ _ h; cases d <;> exact h) ?_
  (repeat (refine sq_take (v := ?_) rfl rfl ?_ ?_; rotate_left; (intro w' hx'; have hc' := hx'.cells.1; (try simp only [wcd] at hc'); go_simp; (first | done | with_reducible rfl)); (try simp only [pt])))
  (refine sq_loud rfl rfl fun K hK => ?_; go_simp)
  refine (mul_c (h1.ext xt) (h2.ext xt) hLx hLy).mono ?_; rintro e w1 ⟨A1, c1, rfl, h3, hx⟩
  (refine hK _ _ xt ?_; clear hK K; (try simp only [pt]))
  (refine sq_loud rfl rfl fun K hK => ?_; go_simp)
  refine (made_c h3 hlen).mono ?_; rintro e w2 ⟨r, rfl, ⟨A2, c2, rfl, h4⟩, hx2⟩
  (refine hK _ _ xt ?_; clear hK K; (try simp only [pt]))
  (have hs := Ext.size hx; (try simp only [wsz] at hs))
  replace hx := hx.trans hx2
  clear hx2; have hc := hx.cells
  (refine sq_last rfl rfl fun K hK => ?_; go_simp; refine hK _ _ ?_; clear hK K)
  go_wp2_with fail
  (refine bodyPost_ret (v := ?_) ?_ rfl ?_; rotate_left; (simp only [results, Tryz.results93]; go_simp; (first | done | with_reducible rfl)))
  exact ⟨_, rfl, ⟨A2, c2, rfl, (h4.keep kpt).widen (fun b hb _ => by first | omega | (dsimp only at hb ⊢; omega) | (dsimp only at hb; omega) | (simp only [wsz] at hb ⊢; omega) | (simp only [wsz] at hb; omega))⟩, xt⟩

set_option maxHeartbeats 1600000 in
theorem zadd_c {u v : Value} {x y : Z} {w : World} {X Y : Nat → Prop} (hx : Zi w X u x) (hy : Zi w Y v y) (hLx : x.mag.length ≤ 1099511627776) (hLy : y.mag.length ≤ 1099511627776) :
    Calls Tryz.prog 62 #[u, v] w fun e w' => ∃ r, e = .returned r ∧ Zi w' (w.heap.size ≤ ·) r (cz (x.v + y.v)) ∧ Ext w w' := by
  obtain ⟨A, c, rfl, h1⟩ := hx; obtain ⟨B, d, rfl, h2⟩ := hy; obtain ⟨nx, a⟩ := x; obtain ⟨ny, b⟩ := y; have ha : (lim (nv a)).length ≤ a.length := lim_len_le h1.lb; have hb : (lim (nv b)).length ≤ b.length := lim_len_le h2.lb; simp only at hLx hLy
  go_enter Tryz.func62, Tryz.ntmps62
  by_cases hn : nx = ny
  · subst hn
    have hlen : (lim (nv a + nv b)).length ≤ 4398046511104 := by
      have := zl_add (x := nv a) (y := nv b) (k := 1099511627776) (by unfold zl; rw [Int.natAbs_natCast]; omega) (by unfold zl; rw [Int.natAbs_natCast]; omega); unfold zl at this
      have e : ((nv a : Int) + nv b).natAbs = nv a + nv b := by omega
      rw [e] at this
      omega
    have e := Lib.hid (v_add_same nx a b)
    go_wp2_with fail
    refine wp_region_seq 8 [(0, true), (1, true), (2, true), (3, true), (4, true), (5, true), (6, false), (7, false), (8, false)] rfl (by kernel_rfl) (by intro _ _ d _ _ h; cases d <;> exact h) ?_
    (repeat (refine sq_take (v := ?_) rfl rfl ?_ ?_; rotate_left; (intro w' hx'; have hc' := hx'.cells.1; (try simp only [wcd] at hc'); go_simp; (first | done | with_reducible rfl)); (try simp only [pt])))
    (refine sq_loud rfl rfl fun K hK => ?_; go_simp)
    refine (add_c (h1.ext xt) (h2.ext xt) hLx hLy).mono ?_; rintro e w1 ⟨A1, c1, rfl, h3, hx⟩
    (refine hK _ _ xt ?_; clear hK K; (try simp only [pt]))
    (refine sq_loud rfl rfl fun K hK => ?_; go_simp)
    refine (made_c h3 hlen).mono ?_; rintro e w2 ⟨r, rfl, ⟨A2, c2, rfl, h4⟩, hx2⟩
    (refine hK _ _ xt ?_; clear hK K; (try simp only [pt]))
    (have hs := Ext.size hx; (try simp only [wsz] at hs))
    replace hx := hx.trans hx2
    clear hx2; have hc := hx.cells
    (refine sq_last rfl rfl fun K hK => ?_; go_simp; refine hK _ _ ?_; clear hK K)
    go_wp2_with fail
    (refine bodyPost_ret (v := ?_) ?_ rfl ?_; rotate_left; (simp only [results, Tryz.results62]; go_simp; (first | done | with_reducible rfl)))
    exact ⟨_, rfl, e.out ▸ ⟨A2, c2, rfl, (h4.keep kpt).widen (fun b hb _ => by first | omega | (dsimp only at hb ⊢; omega) | (dsimp only at hb; omega) | (simp only [wsz] at hb ⊢; omega) | (simp only [wsz] at hb; omega))⟩, xt⟩
  · have hne : (nx == ny) = false := by cases nx <;> cases ny <;> simp at hn ⊢
    go_wp2_with fail
    refine (cmp_c (h1.ext xt) (h2.ext xt)).mono ?_; rintro e w1 ⟨rfl, hx⟩; have hc := hx.cells
    rcases Nat.lt_or_ge (nv a) (nv b) with hlt | hlt
    · have h0 : cmpN (nv a) (nv b) < 0 := by rw [cmpN_lt hlt]; omega
      have e := v_add_other ny nx b a (Ne.symm hn) (by omega); rw [Int.add_comm] at e
      have E := Lib.hid e; clear e
      have hlen : (lim (nv b - nv a)).length ≤ 4398046511104 := by
        have := lim_pw (n := nv b - nv a) (k := b.length) (by have := nv_lt h2.lb; omega)
        omega
      (have hs := Ext.size hx; (try simp only [wsz] at hs))
      go_upto_region 5 with fail
      refine wp_named fun W hW => ?_
      have B1 : Box W w.heap.size 24 #[.bool ny, .slice B b.length d] := by rw [hW]; exact (((((Box.alloc (Box.alloc (Box.new w _ _) _) _).ext hx).set_ _ _).set_ _ _).far (by simp <;> omega) _).far (by simp <;> omega) _
      have B2 : Box W (w.heap.size + 1) 24 #[.bool nx, .slice A a.length c] := by rw [hW]; exact (((((Box.alloc (Box.new_at (w.alloc (.cells #[.bool nx, .slice A a.length c] 24)) _ _ (by simp)) _).ext hx).far (by simp <;> omega) _).far (by simp <;> omega) _).set_ _ _).set_ _ _
      have B3 : Box W (w.heap.size + 1 + 1) 24 #[.bool false, .slice none 0 0] := by
        rw [hW]; have q : Box ((w.alloc (.cells #[.bool nx, .slice A a.length c] 24)).alloc (.cells #[.bool ny, .slice B b.length d] 24) |>.alloc (.cells #[.bool false, .slice none 0 0] 24)) (w.heap.size + 1 + 1) 24 #[.bool false, .slice none 0 0] := Box.new_at _ _ _ (by simp); exact ((((q.ext hx).far (by simp <;> omega) _).far (by simp <;> omega) _).far (by simp <;> omega) _).far (by simp <;> omega) _
      have hxW : Ext w W := by rw [hW]; exact xt
      clear hW hc hx
      have r1 := B1.rules; have r2 := B2.rules
      go_wp2_with fail
      refine (sub_c (h2.ext hxW) (h1.ext hxW) (by omega) hLy).mono ?_; rintro e w2 ⟨A1, c1, rfl, h3, hx⟩; have r4 := (B1.ext hx).rules
      go_wp2_with fail
      refine (made_c h3 hlen).mono ?_; rintro e w3 ⟨r, rfl, ⟨A2, c2, rfl, h4⟩, hx2⟩
      (have hs2 := Ext.size hx; (try simp only [wsz] at hs2))
      (replace hx := Ext.trans hx hx2; clear hx2; have hc := Ext.cells hx)
      have r3 := B3.rules; have hlt3 := B3.lt; have hsW := hxW.size
      go_wp2_with fail
      (refine bodyPost_ret (v := ?_) ?_ rfl ?_; rotate_left; (simp only [results, Tryz.results62]; go_simp; (first | done | with_reducible rfl)))
      exact ⟨_, rfl, E.out ▸ ⟨A2, c2, rfl, (h4.keep kpt).widen (fun b hb _ => by first | omega | (dsimp only at hb ⊢; omega) | (dsimp only at hb; omega) | (simp only [wsz] at hb ⊢; omega) | (simp only [wsz] at hb; omega))⟩, xt⟩
    · have h0 : ¬ cmpN (nv a) (nv b) < 0 := by unfold cmpN; rw [if_neg (by omega)]; split <;> omega
      have e := v_add_other nx ny a b hn hlt
      have E := Lib.hid e; clear e
      have hlen : (lim (nv a - nv b)).length ≤ 4398046511104 := by
        have := lim_pw (n := nv a - nv b) (k := a.length) (by have := nv_lt h1.lb; omega)
        omega
      go_wp2_with fail
      refine (sub_c (h1.ext xt) (h2.ext xt) (by omega) hLx).mono ?_; rintro e w2 ⟨A1, c1, rfl, h3, hx2⟩
      (have hs := Ext.size hx; (try simp only [wsz] at hs))
      (replace hx := Ext.trans hx hx2; clear hx2; have hc := Ext.cells hx)
      go_wp2_with fail
      refine (made_c h3 hlen).mono ?_; rintro e w3 ⟨r, rfl, ⟨A2, c2, rfl, h4⟩, hx2⟩
      (have hs2 := Ext.size hx; (try simp only [wsz] at hs2))
      (replace hx := Ext.trans hx hx2; clear hx2; have hc := Ext.cells hx)
      go_wp2_with fail
      (refine bodyPost_ret (v := ?_) ?_ rfl ?_; rotate_left; (simp only [results, Tryz.results62]; go_simp; (first | done | with_reducible rfl)))
      exact ⟨_, rfl, E.out ▸ ⟨A2, c2, rfl, (h4.keep kpt).widen (fun b hb _ => by first | omega | (dsimp only at hb ⊢; omega) | (dsimp only at hb; omega) | (simp only [wsz] at hb ⊢; omega) | (simp only [wsz] at hb; omega))⟩, xt⟩

set_option maxHeartbeats 800000 in
theorem zsub_c {u v : Value} {x y : Z} {w : World} {X Y : Nat → Prop} (hx : Zi w X u x) (hy : Zi w Y v y) (hLx : x.mag.length ≤ 1099511627776) (hLy : y.mag.length ≤ 1099511627776) :
    Calls Tryz.prog 63 #[u, v] w fun e w' => ∃ r, e = .returned r ∧ Zi w' (w.heap.size ≤ ·) r (cz (x.v - y.v)) ∧ Ext w w' := by
  have hly := zl_of hy.lb; obtain ⟨A, c, rfl, h1⟩ := hx; obtain ⟨B, d, rfl, h2⟩ := hy; have e1 := Lib.hid (show x.v + (cz (-y.v)).v = x.v - y.v by rw [cz_v]; omega)
  have e2 : (cz (-y.v)).mag.length ≤ 1099511627776 := by rw [cz_len, zl_neg]; omega
  go_enter Tryz.func63, Tryz.ntmps63
  go_wp2_with fail
  refine wp_region_seq 4 [(0, true), (1, true), (2, false), (3, false), (4, false)] rfl (by kernel_rfl) (by intro _ _ d _ _ h; cases d <;> exact h) ?_
  (repeat (refine sq_take (v := ?_) rfl rfl ?_ ?_; rotate_left; (intro w' hx'; have hc' := hx'.cells.1; (try simp only [wcd] at hc'); go_simp; (first | done | with_reducible rfl)); (try simp only [pt])))
  (refine sq_loud rfl rfl fun K hK => ?_; go_simp)
  refine (zneg_c ⟨B, d, rfl, h2.ext xt⟩ (by omega)).mono ?_; rintro e w1 ⟨r, rfl, ⟨A1, c1, rfl, h3⟩, hx⟩
  (refine hK _ _ xt ?_; clear hK K; (try simp only [pt]))
  (refine sq_loud rfl rfl fun K hK => ?_; go_simp)
  refine (zadd_c ⟨A, c, rfl, (h1.ext xt).ext hx⟩ ⟨A1, c1, rfl, h3⟩ hLx e2).mono ?_; rw [e1.out]; rintro e w2 ⟨r, rfl, ⟨A2, c2, rfl, h4⟩, hx2⟩
  (refine hK _ _ xt ?_; clear hK K; (try simp only [pt]))
  (have hs := Ext.size hx; (try simp only [wsz] at hs))
  (replace hx := Ext.trans hx hx2; clear hx2; have hc := Ext.cells hx)
  (refine sq_last rfl rfl fun K hK => ?_; go_simp; refine hK _ _ ?_; clear hK K)
  go_wp2_with fail
  (refine bodyPost_ret (v := ?_) ?_ rfl ?_; rotate_left; (simp only [results, Tryz.results63]; go_simp; (first | done | with_reducible rfl)))
  exact ⟨_, rfl, ⟨A2, c2, rfl, (h4.keep kpt).widen (fun b hb _ => by first | omega | (dsimp only at hb ⊢; omega) | (dsimp only at hb; omega) | (simp only [wsz] at hb ⊢; omega) | (simp only [wsz] at hb; omega))⟩, xt⟩

end Go.Proofs.YthmjgbkakjpfkaaGreatDoor
