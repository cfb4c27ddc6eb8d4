/- zint.DivMod, by any number. No conditions. -/
import Derived.Test.YthmjgbkakjpfkaaGreatDoorGLooksAl
import Derived.Test.YthmjgbkakjpfkaaGreatDoorGLooksAo
namespace Go.Proofs.YthmjgbkakjpfkaaGreatDoor
open Go.RowKit

theorem zv_of (x : Int) : Z.v ⟨decide (x < 0), lim x.natAbs⟩ = x := cz_v x
theorem fdivg_law (x y : Int) (hy : y ≠ 0) :
    ((Z.v ⟨decide (x < 0), lim (x.natAbs % y.natAbs)⟩ = 0 ∨ decide (Z.v ⟨decide (x < 0), lim (x.natAbs % y.natAbs)⟩ < 0) = decide (y < 0)) → x.fdiv y = Z.v ⟨!(decide (x < 0) == decide (y < 0)), lim (x.natAbs / y.natAbs)⟩ ∧ x.fmod y = Z.v ⟨decide (x < 0), lim (x.natAbs % y.natAbs)⟩) ∧
    (Z.v ⟨decide (x < 0), lim (x.natAbs % y.natAbs)⟩ ≠ 0 → decide (Z.v ⟨decide (x < 0), lim (x.natAbs % y.natAbs)⟩ < 0) ≠ decide (y < 0) → x.fdiv y = Z.v ⟨!(decide (x < 0) == decide (y < 0)), lim (x.natAbs / y.natAbs)⟩ - 1 ∧ x.fmod y = Z.v ⟨decide (x < 0), lim (x.natAbs % y.natAbs)⟩ + y) := by
  have h1 := Nat.div_add_mod x.natAbs y.natAbs
  have h2 := Nat.mod_lt x.natAbs (show 0 < y.natAbs by omega)
  obtain ⟨q, hq⟩ : ∃ q, q = x.natAbs / y.natAbs := ⟨_, rfl⟩
  obtain ⟨r, hr⟩ : ∃ r, r = x.natAbs % y.natAbs := ⟨_, rfl⟩
  rw [← hq, ← hr] at h1 ⊢
  rw [← hr] at h2
  clear hq hr
  have h3 : ((y.natAbs * q : Nat) : Int) = (y.natAbs : Int) * (q : Int) := Int.natCast_mul _ _
  obtain ⟨Y, hY⟩ : ∃ Y, Y = y.natAbs := ⟨_, rfl⟩
  rw [← hY] at h1 h2 h3
  -- the four signs
  have key : ∀ (Q R : Int), x = y * Q + R → (0 < y → 0 ≤ R ∧ R < y) → (y < 0 → R ≤ 0 ∧ y < R) → x.fdiv y = Q ∧ x.fmod y = R := by
    intro Q R h4 h5 h6
    rcases Int.lt_or_gt_of_ne hy with hn | hp
    · obtain ⟨h7, h8⟩ := h6 hn
      exact (Int.fdiv_fmod_unique' hn).2 ⟨by omega, by omega, by omega⟩
    · obtain ⟨h7, h8⟩ := h5 hp
      exact (Int.fdiv_fmod_unique hp).2 ⟨by omega, by omega, by omega⟩
  have e1 : y * -(q : Int) = -(y * (q : Int)) := Int.mul_neg _ _
  have e2 : y * (-(q : Int) - 1) = -(y * (q : Int)) - y := by rw [Int.mul_sub, e1, Int.mul_one]
  have e3 : y * ((q : Int) - 1) = y * (q : Int) - y := by rw [Int.mul_sub, Int.mul_one]
  have e4 : 0 < y → y * (q : Int) = (Y : Int) * (q : Int) := fun h => by rw [show y = (Y : Int) by omega]
  have e5 : y < 0 → y * (q : Int) = -((Y : Int) * (q : Int)) := fun h => by rw [show y = -(Y : Int) by omega, Int.neg_mul]
  unfold Z.v
  simp only [nv_lim]
  by_cases hx : x < 0 <;> by_cases hn : y < 0
  all_goals
    simp only [hx, hn, decide_true, decide_false, if_true, if_false, Bool.false_eq_true, beq_self_eq_true, Bool.not_true, Bool.not_false, Bool.true_beq, Bool.false_beq, ne_eq, decide_eq_true_eq, decide_eq_false_iff_not]
    refine ⟨fun h => key _ _ ?_ ?_ ?_, fun h h' => key _ _ ?_ ?_ ?_⟩
  all_goals
    first
      | (intro hh; omega)
      | (have := e4; have := e5; omega)
      | (have h8 := e5 hn; omega)
      | (have h8 := e4 (by omega); omega)

set_option maxHeartbeats 1600000 in
theorem zdivg_c {u v : Value} {a b : Z} {w : World} {X Y : Nat → Prop} (ha : Zi w X u a) (hb : Zi w Y v b) (hy0 : b.v ≠ 0) (hL : a.mag.length ≤ 1099511627770) (hLb : b.mag.length ≤ 1099511627770) :
    Calls Tryz.prog 86 #[u, v] w fun e w' => ∃ q r, e = .returned (.tuple #[q, r, .int .i64 0]) ∧ Zi w' (w.heap.size ≤ ·) q (cz (a.v.fdiv b.v)) ∧ Zi w' (w.heap.size ≤ ·) r (cz (a.v.fmod b.v)) ∧ Ext w w' := by
  have law := fdivg_law a.v b.v hy0
  have hla := zl_of ha.lb
  have hlb := zl_of hb.lb
  have hna := fun W (h : Ext w W) => znorm_c (ha.ext h) (by omega)
  have hnb := fun W (h : Ext w W) => znorm_c (hb.ext h) (by omega)
  generalize a.v = x at law hla hna ⊢
  generalize b.v = y at law hlb hnb hy0 ⊢
  have e1 : cz y = ⟨decide (y < 0), lim y.natAbs⟩ := rfl
  have e2 : cz x = ⟨decide (x < 0), lim x.natAbs⟩ := rfl
  rw [e1] at hnb
  rw [e2] at hna
  have hzl : zl x = (lim x.natAbs).length := rfl
  have hzlb : zl y = (lim y.natAbs).length := rfl
  obtain ⟨s, hs⟩ : ∃ s, s = decide (x < 0) := ⟨_, rfl⟩
  obtain ⟨sy, hsy⟩ : ∃ s, s = decide (y < 0) := ⟨_, rfl⟩
  rw [← hs, ← hsy] at law
  rw [← hs] at hna
  rw [← hsy] at hnb
  have h0 : 0 < y.natAbs := by omega
  have HSY := Lib.hid hsy
  obtain ⟨P, hPd⟩ : ∃ P, P = y.natAbs := ⟨_, rfl⟩
  have HPD := Lib.hid hPd
  rw [← hPd] at law hnb h0 hzlb
  clear e1 e2 hs hsy hPd
  obtain ⟨A, c, rfl, ha⟩ := ha
  obtain ⟨B, d, rfl, hb⟩ := hb
  go_enter Tryz.func86, Tryz.ntmps86
  go_wp2_with fail
  refine wp_named fun W hW => ?_
  have b2 : Box W w.heap.size 24 #[.bool a.neg, .slice A a.mag.length c] := by rw [hW]; exact bxt
  have b3 : Box W (w.heap.size + 1) 24 #[.bool b.neg, .slice B b.mag.length d] := by rw [hW]; exact bxt
  have b4 : Box W (w.heap.size + 1 + 1) 24 #[.bool false, .slice none 0 0] := by rw [hW]; exact bxt
  have b5 : Box W (w.heap.size + 1 + 1 + 1) 24 #[.bool false, .slice none 0 0] := by rw [hW]; exact bxt
  have hE : Ext w W := by rw [hW]; exact xt
  clear hW
  have b2r := b2.rules; have b2l := b2.lt
  have b3r := b3.rules; have b3l := b3.lt
  have b5l := b5.lt
  refine wp_region_late [(0, true), (2, true), (1, false), (3, false)] [4, 5] rfl (by kernel_rfl) (by intro _ _ d _ _ h; cases d <;> exact h) ?_
  (repeat (refine sh_take (v := ?_) rfl rfl ?_ ?_; rotate_left; (intro w' hx'; have hc' := hx'.cells.1; (try simp only [wcd] at hc'); go_simp; (first | done | with_reducible rfl)); (try simp only [pt])))
  (refine sh_loud rfl rfl fun K hK => ?_; go_simp)
  refine (hna _ (hE.trans xt)).mono ?_
  rintro e w1 ⟨r1, rfl, ⟨A1, c1, rfl, hN1⟩, hx1⟩
  (refine hK _ _ xt ?_; clear hK K)
  (refine sh_loud rfl rfl fun K hK => ?_; go_simp)
  refine (hnb _ (hE.trans xt)).mono ?_
  rintro e w2 ⟨r2, rfl, ⟨A2, c2, rfl, hN2⟩, hx2⟩
  (refine hK _ _ xt ?_; clear hK K)
  refine sh_done ?_
  have hx12 : Ext W w2 := (Ext.refl W).drew.trans (hx1.trans hx2)
  have q2 := b2.ext hx12; have q3 := b3.ext hx12; have q4 := b4.ext hx12; have q5 := b5.ext hx12
  have q2r := q2.rules; have q2l := q2.lt
  have q3r := q3.rules; have q3l := q3.lt
  clear b2r b3r
  have hN1 := hN1.ext hx2
  have hE2 := hE.trans hx12
  have hs1 := hx1.size; have hs2 := hx2.size
  simp only [wsz] at hs1
  (refine sh_late rfl rfl fun K hK => ?_; go_simp; refine hK _ _ ?_; clear hK K)
  (refine sh_late rfl rfl fun K hK => ?_; go_simp; refine hK _ _ ?_; clear hK K)
  refine sh_end ?_
  refine x_named fun V hV => ?_
  have kV : Kp (fun c => w.heap.size + 1 < c) w2 V := by rw [hV]; exact kpt
  have p2 : Box V w.heap.size 24 #[.bool s, .slice A1 (lim x.natAbs).length c1] := by rw [hV]; exact (((q2.set_ 0 _).set_ 1 _).far (by simp only; omega) _).far (by simp only; omega) _
  have p3 : Box V (w.heap.size + 1) 24 #[.bool sy, .slice A2 (lim P).length c2] := by rw [hV]; exact (((q3.far (by simp only; omega) _).far (by simp only; omega) _).set_ 0 _).set_ 1 _
  have p4 := q4.keep (X := fun c => w.heap.size + 1 < c) (by omega) kV
  have p5 := q5.keep (X := fun c => w.heap.size + 1 < c) (by omega) kV
  have hEV : Ext w V := by rw [hV]; exact xt
  have hN1 := (hN1.widen (Y := fun c => w.heap.size + 1 < c) fun c hc _ => by first | omega | (simp only [wsz] at hc; omega)).keep kV
  have hN2 := (hN2.widen (Y := fun c => w.heap.size + 1 + 1 + 1 < c) fun c hc _ => by omega).keep (kV.imp fun c hc => by omega)
  clear hV kV q2 q3 q4 q5 q2r q2l q3r q3l hx12 hx1 hx2
  have p2r := p2.rules; have p2l := p2.lt
  have p3r := p3.rules; have p3l := p3.lt
  have p5l := p5.lt
  go_wp2_with fail
  have hd := div_c hN1 hN2 (by rw [nv_lim]; exact h0) (by omega)
  simp only [nv_lim] at hd
  refine hd.mono ?_
  rintro e w3 ⟨A3, c3, A4, c4, rfl, hN3, hN4, hx3⟩
  clear hd
  (have p32 := Box.ext (g := w.heap.size + 1) bxt hx3; have p32r := p32.rules; have p32l := p32.lt)
  have p22 := p2.ext hx3; have p42 := p4.ext hx3; have p52 := p5.ext hx3
  have p22r := p22.rules; have p22l := p22.lt
  have p52l := p52.lt
  clear p2r p3r
  go_wp2_with fail
  obtain ⟨q1, hq1⟩ : ∃ q1, q1 = x.natAbs / P := ⟨_, rfl⟩
  obtain ⟨m1, hm1⟩ : ∃ m1, m1 = x.natAbs % P := ⟨_, rfl⟩
  have lq1 : (lim q1).length ≤ a.mag.length := by
    rw [hq1]
    refine Nat.le_trans (lim_pw (Nat.lt_of_le_of_lt (Nat.div_le_self _ _) (lt_pw_lim x.natAbs))) ?_
    rw [← hzl]; exact hla
  have lm1 : (lim m1).length ≤ b.mag.length := by
    rw [hm1]
    refine Nat.le_trans (lim_pw (Nat.lt_trans (Nat.mod_lt x.natAbs h0) (lt_pw_lim P))) ?_
    rw [← hzlb]; exact hlb
  rw [← hq1] at law hN3 ⊢
  rw [← hm1] at law hN4 ⊢
  clear hq1 hm1
  have HL := Lib.hid law; clear law
  refine wp_region_late [(0, true), (1, true), (2, true), (3, true), (4, true), (5, true), (7, true), (8, true), (9, true), (6, false), (10, false)] [11, 12] rfl (by kernel_rfl) (by intro _ _ d _ _ h; cases d <;> exact h) ?_
  (repeat (refine sh_take (v := ?_) rfl rfl ?_ ?_; rotate_left; (intro w' hx'; have hc' := hx'.cells.1; (try simp only [wcd] at hc'); go_simp; (first | done | with_reducible rfl)); (try simp only [pt])))
  (refine sh_loud rfl rfl fun K hK => ?_; go_simp)
  refine (made_c (hN3.ext xt) (by omega)).mono ?_
  rintro e w4 ⟨r4, rfl, ⟨A5, c5, rfl, hN5⟩, hx4⟩
  (refine hK _ _ xt ?_; clear hK K; (try simp only [pt]))
  (repeat (refine sh_take (v := ?_) rfl rfl ?_ ?_; rotate_left; (intro w' hx'; have hc' := hx'.cells.1; (try simp only [wcd] at hc'); go_simp; (first | done | with_reducible rfl)); (try simp only [pt])))
  (refine sh_loud rfl rfl fun K hK => ?_; go_simp)
  refine (made_c (hN4.ext xt) (by omega)).mono ?_
  rintro e w5 ⟨r5, rfl, ⟨A6, c6, rfl, hN6⟩, hx5⟩
  (refine hK _ _ xt ?_; clear hK K; (try simp only [pt]))
  refine sh_done ?_
  obtain ⟨q2, hq2⟩ : ∃ q2, q2 = Z.v ⟨!(s == sy), lim q1⟩ := ⟨_, rfl⟩
  obtain ⟨m2, hm2⟩ : ∃ m2, m2 = Z.v ⟨s, lim m1⟩ := ⟨_, rfl⟩
  have lq2 : zl q2 ≤ a.mag.length := by
    have := zl_of (z := ⟨!(s == sy), lim q1⟩) (lb_lim _)
    rw [hq2]
    exact Nat.le_trans this lq1
  have lm2 : zl m2 ≤ b.mag.length := by
    have := zl_of (z := ⟨s, lim m1⟩) (lb_lim _)
    rw [hm2]
    exact Nat.le_trans this lm1
  rw [← hq2] at HL hN5 ⊢
  rw [← hm2] at HL hN6 ⊢
  clear hq2 hm2 lq1 lm1
  have hx45 : Ext w3 w5 := (Ext.refl w3).drew.trans (hx4.trans hx5)
  have t3 := p32.ext hx45; have t4 := p42.ext hx45; have t5 := p52.ext hx45
  have t4r := t4.rules; have t4l := t4.lt
  have t5r := t5.rules; have t5l := t5.lt
  have hE5 := (hEV.trans hx3).trans hx45
  have hs4 := hx4.size; have hs5 := hx5.size
  have hN5 := hN5.ext hx5
  simp only [wsz] at hs4
  clear p22r p32r
  (refine sh_late rfl rfl fun K hK => ?_; go_simp; refine hK _ _ ?_; clear hK K)
  (refine sh_late rfl rfl fun K hK => ?_; go_simp; refine hK _ _ ?_; clear hK K)
  refine sh_end ?_
  refine x_named fun U hU => ?_
  have kU : Kp (fun c => w.heap.size + 1 + 1 + 1 < c) w5 U := by rw [hU]; exact kpt
  have kU3 : Kp (fun c => c = w.heap.size + 1) w5 U := by rw [hU]; exact kpt
  have s3 : Box U (w.heap.size + 1) 24 #[.bool sy, .slice A2 (lim P).length c2] := t3.keep (X := fun c => c = w.heap.size + 1) rfl kU3
  have s4 : Box U (w.heap.size + 1 + 1) 24 #[.bool (cz q2).neg, .slice A5 (cz q2).mag.length c5] := by rw [hU]; exact (((t4.set_ 0 _).set_ 1 _).far (by simp only; omega) _).far (by simp only; omega) _
  have s5 : Box U (w.heap.size + 1 + 1 + 1) 24 #[.bool (cz m2).neg, .slice A6 (cz m2).mag.length c6] := by rw [hU]; exact (((t5.far (by simp only; omega) _).far (by simp only; omega) _).set_ 0 _).set_ 1 _
  have hEU : Ext w U := by rw [hU]; exact xt
  have hN5 := (hN5.widen (Y := fun c => w.heap.size + 1 + 1 + 1 < c) fun c hc _ => by first | omega | (simp only [wsz] at hc; omega)).keep kU
  have hN6 := (hN6.widen (Y := fun c => w.heap.size + 1 + 1 + 1 < c) fun c hc _ => by first | omega | (simp only [wsz] at hc; omega)).keep kU
  have hN2 := ((hN2.ext hx3).ext hx45).keep kU
  clear hU kU kU3 t3 t4 t5 t4r t4l t5r t5l hx45 hx4 hx5 p32 p42 p52 p2 p3 p4 p5
  obtain ⟨zm, hzm⟩ : ∃ zm, zm = cz m2 := ⟨_, rfl⟩
  have hzl2 : zm.mag.length = zl m2 := by rw [hzm]; rfl
  have hzn : zm.neg = decide (m2 < 0) := by rw [hzm]; rfl
  have hzv : zm.v = m2 := by rw [hzm, cz_v]
  rw [← hzm] at s5 hN6 ⊢
  have HZ := Lib.hid hzm; clear hzm
  have s3r := s3.rules; have s3l := s3.lt
  have s4r := s4.rules; have s4l := s4.lt
  have s5r := s5.rules; have s5l := s5.lt
  by_cases hneg : m2 ≠ 0 ∧ decide (m2 < 0) ≠ decide (y < 0)
  · have hne : (zm.neg == sy) = false := by rw [hzn, HSY.out]; exact beq_eq_false_iff_ne.2 hneg.2
    have hpos : 0 < zm.mag.length := by
      rw [hzl2]
      exact (lim_len_pos _).2 (by omega)
    have HV := Lib.hid hzv
    clear hzn hzl2 hzv
    have hposI : (0 : Int) < (zm.mag.length : Int) := by omega
    go_wp2_with fail
    have hlaw := HL.out.2 hneg.1 (by rw [HSY.out]; exact hneg.2)
    refine wp_region_late [(0, true), (3, true), (4, true), (1, false), (2, false), (5, false)] [6, 7] rfl (by kernel_rfl) (by intro _ _ d _ _ h; cases d <;> exact h) ?_
    (repeat (refine sh_take (v := ?_) rfl rfl ?_ ?_; rotate_left; (intro w' hx'; have hc' := hx'.cells.1; (try simp only [wcd] at hc'); go_simp; (first | done | with_reducible rfl)); (try simp only [pt])))
    (refine sh_loud rfl rfl fun K hK => ?_; go_simp)
    refine (zof_c 1 (by omega) (by omega) _).mono ?_
    rintro e w6 ⟨r6, rfl, hO6, hx6⟩
    (refine hK _ _ xt ?_; clear hK K; (try simp only [pt]))
    (refine sh_loud rfl rfl fun K hK => ?_; go_simp)
    refine (zsub_c (x := cz q2) ⟨_, _, rfl, hN5.ext xt⟩ hO6 (by rw [cz_len]; omega) (by rw [cz_len]; have := zl_word (x := 1) (by omega); omega)).mono ?_
    rw [cz_v, cz_v]
    rintro e w7 ⟨r7, rfl, ⟨A7, c7, rfl, hN7⟩, hx7⟩
    (refine hK _ _ xt ?_; clear hK K; (try simp only [pt]))
    (repeat (refine sh_take (v := ?_) rfl rfl ?_ ?_; rotate_left; (intro w' hx'; have hc' := hx'.cells.1; (try simp only [wcd] at hc'); go_simp; (first | done | with_reducible rfl)); (try simp only [pt])))
    (refine sh_loud rfl rfl fun K hK => ?_; go_simp)
    refine (zadd_c (x := zm) (y := ⟨sy, lim P⟩) ⟨_, _, rfl, (hN6.ext xt)⟩ ⟨_, _, rfl, (hN2.ext xt)⟩ (by rw [HZ.out, cz_len]; omega) (by show (lim P).length ≤ _; omega)).mono ?_
    rw [HV.out, show Z.v ⟨sy, lim P⟩ = y by rw [HSY.out, HPD.out]; exact zv_of y]
    rintro e w8 ⟨r8, rfl, ⟨A8, c8, rfl, hN8⟩, hx8⟩
    (refine hK _ _ xt ?_; clear hK K; (try simp only [pt]))
    refine sh_done ?_
    obtain ⟨zq, hzq⟩ : ∃ zq, zq = cz (q2 - 1) := ⟨_, rfl⟩
    obtain ⟨zr, hzr⟩ : ∃ zr, zr = cz (m2 + y) := ⟨_, rfl⟩
    rw [← hzq] at hN7 ⊢
    rw [← hzr] at hN8 ⊢
    have HZQ : Hid (zq = cz (x.fdiv y)) := Lib.hid (by rw [hlaw.1]; exact hzq)
    have HZR : Hid (zr = cz (x.fmod y)) := Lib.hid (by rw [hlaw.2]; exact hzr)
    have hx68 : Ext U w8 := (Ext.refl U).drew.trans ((hx6.trans hx7).trans hx8)
    have v4 := s4.ext hx68; have v5 := s5.ext hx68
    have v4r := v4.rules; have v4l := v4.lt
    have v5r := v5.rules; have v5l := v5.lt
    have hE8 := hEU.trans hx68
    have hs6 := hx6.size; have hs7 := hx7.size; have hs8 := hx8.size
    have hN7 := hN7.ext hx8
    simp only [wsz] at hs6
    clear s3r s4r s5r hzq hzr hlaw HL HZ HV
    (refine sh_late rfl rfl fun K hK => ?_; go_simp; refine hK _ _ ?_; clear hK K)
    (refine sh_late rfl rfl fun K hK => ?_; go_simp; refine hK _ _ ?_; clear hK K)
    refine sh_end ?_
    refine x_named fun T0 hT => ?_
    have kT : Kp (fun c => w.heap.size + 1 + 1 + 1 < c) w8 T0 := by rw [hT]; exact kpt
    have s4 : Box T0 (w.heap.size + 1 + 1) 24 #[.bool zq.neg, .slice A7 zq.mag.length c7] := by rw [hT]; exact (((v4.set_ 0 _).set_ 1 _).far (by simp only; omega) _).far (by simp only; omega) _
    have s5 : Box T0 (w.heap.size + 1 + 1 + 1) 24 #[.bool zr.neg, .slice A8 zr.mag.length c8] := by rw [hT]; exact (((v5.far (by simp only; omega) _).far (by simp only; omega) _).set_ 0 _).set_ 1 _
    have hET : Ext w T0 := by rw [hT]; exact xt
    have hN7 := (hN7.widen (Y := fun c => w.heap.size + 1 + 1 + 1 < c) fun c hc _ => by first | omega | (simp only [wsz] at hc; omega)).keep kT
    have hN8 := (hN8.widen (Y := fun c => w.heap.size + 1 + 1 + 1 < c) fun c hc _ => by first | omega | (simp only [wsz] at hc; omega)).keep kT
    clear hT kT v4 v5 v4r v4l v5r v5l hx68 hx6 hx7 hx8 hN5 hN6 hO6 s4l s5l
    have s4r := s4.rules; have s4l := s4.lt
    have s5r := s5.rules; have s5l := s5.lt
    go_wp2_with fail
    go_region
    refine x_named fun Y0 hY0 => ?_
    have kY : Kp (fun c => w.heap.size + 1 + 1 + 1 < c) T0 Y0 := by rw [hY0]; exact Kp.drew kpt
    have u4 : Box Y0 (w.heap.size + 1 + 1) 24 #[.bool zq.neg, .slice A7 zq.mag.length c7] := by rw [hY0]; exact ((((s4.set_ 0 _).set_ 1 _).far (by simp only; omega) _).far (by simp only; omega) _).drew
    have u5 : Box Y0 (w.heap.size + 1 + 1 + 1) 24 #[.bool zr.neg, .slice A8 zr.mag.length c8] := by rw [hY0]; exact ((((s5.far (by simp only; omega) _).far (by simp only; omega) _).set_ 0 _).set_ 1 _).drew
    have hEY : Ext w Y0 := by rw [hY0]; exact Ext.drew xt
    clear hY0 s4r s5r
    have u4r := u4.rules
    have u4l := u4.lt
    have u5r := u5.rules
    have u5l := u5.lt
    go_wp2_with fail
    (refine bodyPost_ret (v := ?_) ?_ rfl ?_; rotate_left; (simp only [results, Tryz.results86]; go_simp; (first | done | with_reducible rfl)))
    refine ⟨_, _, rfl, ?_, ?_, hEY⟩
    · rw [← HZQ.out]
      exact ⟨A7, c7, rfl, (hN7.keep kY).widen fun c hc _ => by omega⟩
    · rw [← HZR.out]
      exact ⟨A8, c8, rfl, (hN8.keep kY).widen fun c hc _ => by omega⟩
  · have hcase : m2 = 0 ∨ decide (m2 < 0) = decide (y < 0) := by
      by_cases h1 : m2 = 0
      · exact .inl h1
      · exact .inr (Decidable.byContradiction fun h2 => hneg ⟨h1, h2⟩)
    have hlaw := HL.out.1 (by rw [HSY.out]; exact hcase)
    obtain ⟨zq, hzq⟩ : ∃ zq, zq = cz q2 := ⟨_, rfl⟩
    rw [← hzq] at s4 hN5 ⊢
    obtain ⟨zr, hzr⟩ : ∃ zr, zr = zm := ⟨_, rfl⟩
    rw [← hzr] at s5 hN6 hzl2 hzn ⊢
    have HZQ : Hid (zq = cz (x.fdiv y)) := Lib.hid (by rw [hlaw.1]; exact hzq)
    have HZR : Hid (zr = cz (x.fmod y)) := Lib.hid (by rw [hlaw.2, hzr]; exact HZ.out)
    have hne : 0 < zr.mag.length → (zr.neg == sy) = true := fun h => by
      rw [hzl2] at h
      have h1 : m2 ≠ 0 := fun e => by rw [e] at h; exact absurd h (by decide)
      rw [hzn, HSY.out]
      exact beq_iff_eq.2 (hcase.resolve_left h1)
    clear hzq hzr hlaw hzv hzl2 HL HZ hzn hcase
    obtain ⟨A7, hA7⟩ : ∃ A7, A7 = A5 := ⟨_, rfl⟩
    obtain ⟨c7, hc7⟩ : ∃ c7, c7 = c5 := ⟨_, rfl⟩
    obtain ⟨A8, hA8⟩ : ∃ A8, A8 = A6 := ⟨_, rfl⟩
    obtain ⟨c8, hc8⟩ : ∃ c8, c8 = c6 := ⟨_, rfl⟩
    rw [← hA7, ← hc7] at s4 hN5 ⊢
    rw [← hA8, ← hc8] at s5 hN6 ⊢
    have hN7 := hN5; have hN8 := hN6
    clear hA7 hc7 hA8 hc8 hN5 hN6
    clear s4r s5r
    have s4r := s4.rules
    obtain ⟨L, hL0⟩ : ∃ L, L = zr.mag.length := ⟨_, rfl⟩
    have he8 : Hid (Value.agg #[.bool zr.neg, .slice A8 L c8] = Value.agg #[.bool zr.neg, .slice A8 zr.mag.length c8]) := Lib.hid (by rw [hL0])
    rw [← hL0] at s5 hne
    rw [← hL0]
    clear hL0
    have s5r := s5.rules
    cases L with
    | zero =>
      go_wp2_with fail
      go_region
      refine x_named fun Y0 hY0 => ?_
      have kY : Kp (fun c => w.heap.size + 1 + 1 + 1 < c) U Y0 := by rw [hY0]; exact Kp.drew kpt
      have u4 : Box Y0 (w.heap.size + 1 + 1) 24 #[.bool zq.neg, .slice A7 zq.mag.length c7] := by rw [hY0]; exact ((((s4.set_ 0 _).set_ 1 _).far (by simp only; omega) _).far (by simp only; omega) _).drew
      have u5 : Box Y0 (w.heap.size + 1 + 1 + 1) 24 #[.bool zr.neg, .slice A8 0 c8] := by rw [hY0]; exact ((((s5.far (by simp only; omega) _).far (by simp only; omega) _).set_ 0 _).set_ 1 _).drew
      have hEY : Ext w Y0 := by rw [hY0]; exact Ext.drew xt
      clear hY0 s4r s5r
      have u4r := u4.rules
      have u4l := u4.lt
      have u5r := u5.rules
      have u5l := u5.lt
      go_wp2_with fail
      (refine bodyPost_ret (v := ?_) ?_ rfl ?_; rotate_left; (simp only [results, Tryz.results86]; go_simp; (first | done | with_reducible rfl)))
      refine ⟨_, _, rfl, ?_, ?_, hEY⟩
      · rw [← HZQ.out]
        exact ⟨A7, c7, rfl, (hN7.keep kY).widen fun c hc _ => by omega⟩
      · rw [← HZR.out]
        exact ⟨A8, c8, he8.out, (hN8.keep kY).widen fun c hc _ => by omega⟩
    | succ n =>
      have hne := hne (by omega)
      have hnp : (0 : Int) < ((n + 1 : Nat) : Int) := by omega
      go_wp2_with fail
      go_region
      refine x_named fun Y0 hY0 => ?_
      have kY : Kp (fun c => w.heap.size + 1 + 1 + 1 < c) U Y0 := by rw [hY0]; exact Kp.drew kpt
      have u4 : Box Y0 (w.heap.size + 1 + 1) 24 #[.bool zq.neg, .slice A7 zq.mag.length c7] := by rw [hY0]; exact ((((s4.set_ 0 _).set_ 1 _).far (by simp only; omega) _).far (by simp only; omega) _).drew
      have u5 : Box Y0 (w.heap.size + 1 + 1 + 1) 24 #[.bool zr.neg, .slice A8 (n + 1) c8] := by rw [hY0]; exact ((((s5.far (by simp only; omega) _).far (by simp only; omega) _).set_ 0 _).set_ 1 _).drew
      have hEY : Ext w Y0 := by rw [hY0]; exact Ext.drew xt
      clear hY0 s4r s5r
      have u4r := u4.rules
      have u4l := u4.lt
      have u5r := u5.rules
      have u5l := u5.lt
      go_wp2_with fail
      (refine bodyPost_ret (v := ?_) ?_ rfl ?_; rotate_left; (simp only [results, Tryz.results86]; go_simp; (first | done | with_reducible rfl)))
      refine ⟨_, _, rfl, ?_, ?_, hEY⟩
      · rw [← HZQ.out]
        exact ⟨A7, c7, rfl, (hN7.keep kY).widen fun c hc _ => by omega⟩
      · rw [← HZR.out]
        exact ⟨A8, c8, he8.out, (hN8.keep kY).widen fun c hc _ => by omega⟩

end Go.Proofs.YthmjgbkakjpfkaaGreatDoor
