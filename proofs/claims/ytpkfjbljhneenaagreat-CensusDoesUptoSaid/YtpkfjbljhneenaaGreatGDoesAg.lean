/- zint.Abs, DivMod by one limb, Int64. No conditions. zint.Int64. No conditions. periods: sets, rows; left, period. No conditions. -/
import Derived.Test.YtpkfjbljhneenaaGreatGDoesAf
import Derived.Test.YtpkfjbljhneenaaGreatGDoesAe
import Derived.Test.YtpkfjbljhneenaaGreatGDoesAc
import Derived.RegionTactic
import Derived.ChangeAlike
import Derived.Test.YtpkfjbljhneenaaGreatGDoesAh
namespace Go.Proofs.YtpkfjbljhneenaaGreat
open Go.RowKit

theorem x_named {Q : Exit → Act → World → Prop} {e : Exit} {a : Act} {w : World} (h : ∀ V, V = w → Q e a V) : Q e a w := h w rfl

set_option maxHeartbeats 400000 in
theorem zabs_c {v : Value} {z : Z} {w : World} {X : Nat → Prop} (h : Zi w X v z) (hL : z.mag.length ≤ 4398046511104) :
  Calls Tryz.prog 95 #[v] w fun e w' => ∃ r, e = .returned r ∧ Zi w' (w.heap.size ≤ ·) r (cz (z.v.natAbs : Nat)) ∧ Ext w w' := by
 have ez : ((z.v.natAbs : Nat) : Int) = Z.v ⟨false, z.mag⟩ := by rw [natAbs_v]; rfl
 rw [ez]; clear ez; obtain ⟨A, c, rfl, h⟩ := h
 go_enter Tryz.func95, Tryz.ntmps95
 go_wp2_with fail
 refine (made_c (h.ext xt) hL).mono ?_; rintro e w1 ⟨r, rfl, ⟨A1, c1, rfl, h1⟩, hx⟩; have hc := hx.cells
 go_wp2_with fail
 (refine bodyPost_ret (v := ?_) ?_ rfl ?_; rotate_left; (simp only [results, Tryz.results95]; go_simp; (first | done | with_reducible rfl)))
 exact ⟨_, rfl, ⟨A1, c1, rfl, (h1.keep kpt).widen (fun b hb _ => by first | omega | (dsimp only at hb ⊢; omega) | (dsimp only at hb; omega) | (simp only [wsz] at hb ⊢; omega) | (simp only [wsz] at hb; omega))⟩, xt⟩

theorem fdiv_law (x : Int) {P : Nat} (hP : 0 < P) :
  (¬ Z.v ⟨decide (x < 0), lim (x.natAbs % P)⟩ < 0 → x / P = Z.v ⟨decide (x < 0), lim (x.natAbs / P)⟩ ∧ x % P = Z.v ⟨decide (x < 0), lim (x.natAbs % P)⟩) ∧
  (Z.v ⟨decide (x < 0), lim (x.natAbs % P)⟩ < 0 → x / P = Z.v ⟨decide (x < 0), lim (x.natAbs / P)⟩ - 1 ∧ x % P = Z.v ⟨decide (x < 0), lim (x.natAbs % P)⟩ + P) := by
 have h1 := Nat.div_add_mod x.natAbs P; have h2 := Nat.mod_lt x.natAbs hP; obtain ⟨q, hq⟩ : ∃ q, q = x.natAbs / P := ⟨_, rfl⟩; obtain ⟨r, hr⟩ : ∃ r, r = x.natAbs % P := ⟨_, rfl⟩; rw [← hq, ← hr] at h1 ⊢; rw [← hr] at h2; clear hq hr
 have hp : (0 : Int) < (P : Int) := by omega
 unfold Z.v; simp only [nv_lim]; have h3 : ((P * q : Nat) : Int) = (P : Int) * (q : Int) := Int.natCast_mul _ _; have h4 : (P : Int) * -(q : Int) = -((P : Int) * (q : Int)) := Int.mul_neg _ _
 have h5 : (P : Int) * (-(q : Int) - 1) = -((P : Int) * (q : Int)) - P := by rw [Int.mul_sub, h4, Int.mul_one]
 by_cases hx : x < 0
 ·simp only [hx, decide_true, if_true]; refine ⟨fun h => ?_, fun h => ?_⟩
  ·refine (Int.ediv_emod_unique hp).2 ⟨?_, by omega, by omega⟩
   omega
  ·refine (Int.ediv_emod_unique hp).2 ⟨?_, by omega, by omega⟩
   omega
 ·simp only [hx, decide_false, Bool.false_eq_true, if_false]; refine ⟨fun h => ?_, fun h => ?_⟩
  ·refine (Int.ediv_emod_unique hp).2 ⟨?_, by omega, by omega⟩
   omega
  ·omega

set_option maxHeartbeats 1600000 in
theorem zdiv_c {u v : Value} {a b : Z} {w : World} {X Y : Nat → Prop} {P : Nat} (ha : Zi w X u a) (hb : Zi w Y v b) (hP : b.v = (P : Int)) (h0 : 0 < P) (h1 : P < 4294967296) (hL : a.mag.length ≤ 1099511627776) (hLb : b.mag.length ≤ 1099511627776) :
  Calls Tryz.prog 72 #[u, v] w fun e w' => ∃ q r, e = .returned (.tuple #[q, r, .int .i64 0]) ∧ Zi w' (w.heap.size ≤ ·) q (cz (a.v / P)) ∧ Zi w' (w.heap.size ≤ ·) r (cz (a.v % P)) ∧ Ext w w' := by
 have law := fdiv_law a.v h0; have hla := zl_of ha.lb
 have hna := fun W (h : Ext w W) => znorm_c (ha.ext h) (by omega)
 have hnb := fun W (h : Ext w W) => znorm_c (hb.ext h) (by omega)
 generalize a.v = x at law hla hna ⊢; rw [hP] at hnb
 have e1 : cz (P : Int) = ⟨false, lim P⟩ := by unfold cz; rw [Int.natAbs_natCast]; simp
 have e2 : cz x = ⟨decide (x < 0), lim x.natAbs⟩ := rfl; rw [e1] at hnb; rw [e2] at hna; have hzl : zl x = (lim x.natAbs).length := rfl; obtain ⟨s, hs⟩ : ∃ s, s = decide (x < 0) := ⟨_, rfl⟩; rw [← hs] at law hna; clear e1 e2 hs; obtain ⟨A, c, rfl, ha⟩ := ha; obtain ⟨B, d, rfl, hb⟩ := hb
 go_enter Tryz.func72, Tryz.ntmps72
 go_wp2_with fail
 refine wp_named fun W hW => ?_
 have b2 : Box W w.heap.size 25 #[.bool a.neg, .slice A a.mag.length c] := by rw [hW]; exact bxt
 have b3 : Box W (w.heap.size + 1) 25 #[.bool b.neg, .slice B b.mag.length d] := by rw [hW]; exact bxt
 have b4 : Box W (w.heap.size + 1 + 1) 25 #[.bool false, .slice none 0 0] := by rw [hW]; exact bxt
 have b5 : Box W (w.heap.size + 1 + 1 + 1) 25 #[.bool false, .slice none 0 0] := by rw [hW]; exact bxt
 have hE : Ext w W := by rw [hW]; exact xt
 clear hW
 have b2r := b2.rules; have b2l := b2.lt
 have b3r := b3.rules; have b3l := b3.lt
 have b5l := b5.lt; refine wp_region_late [(0, true), (2, true), (1, false), (3, false)] [4, 5] rfl (by kernel_rfl) (by intro _ _ d _ _ h; cases d <;> exact h) ?_
 (repeat (refine sh_take (v := ?_) rfl rfl ?_ ?_; rotate_left; exact tk2; (try simp only [pt])))
 (refine sh_loud rfl rfl fun K hK => ?_; go_simp)
 refine (hna _ (hE.trans xt)).mono ?_; rintro e w1 ⟨r1, rfl, ⟨A1, c1, rfl, hN1⟩, hx1⟩
 (refine hK _ _ xt ?_; clear hK K)
 (refine sh_loud rfl rfl fun K hK => ?_; go_simp)
 refine (hnb _ (hE.trans xt)).mono ?_; rintro e w2 ⟨r2, rfl, ⟨A2, c2, rfl, hN2⟩, hx2⟩
 (refine hK _ _ xt ?_; clear hK K)
 refine sh_done ?_; have hx12 : Ext W w2 := (Ext.refl W).drew.trans (hx1.trans hx2)
 have q2 := b2.ext hx12; have q3 := b3.ext hx12; have q4 := b4.ext hx12; have q5 := b5.ext hx12
 have q2r := q2.rules; have q2l := q2.lt
 have q3r := q3.rules; have q3l := q3.lt
 clear b2r b3r; have hN1 := hN1.ext hx2; have hE2 := hE.trans hx12
 have hs1 := hx1.size; have hs2 := hx2.size
 simp only [wsz] at hs1
 (refine sh_late rfl rfl fun K hK => ?_; go_simp; refine hK _ _ ?_; clear hK K)
 (refine sh_late rfl rfl fun K hK => ?_; go_simp; refine hK _ _ ?_; clear hK K)
 refine sh_end ?_
 refine x_named fun V hV => ?_
 have kV : Kp (fun c => w.heap.size + 1 < c) w2 V := by rw [hV]; exact kpt
 have p2 : Box V w.heap.size 25 #[.bool s, .slice A1 (lim x.natAbs).length c1] := by rw [hV]; exact (((q2.set_ 0 _).set_ 1 _).far (by simp only; omega) _).far (by simp only; omega) _
 have p3 : Box V (w.heap.size + 1) 25 #[.bool false, .slice A2 (lim P).length c2] := by rw [hV]; exact (((q3.far (by simp only; omega) _).far (by simp only; omega) _).set_ 0 _).set_ 1 _
 have p4 := q4.keep (X := fun c => w.heap.size + 1 < c) (by omega) kV; have p5 := q5.keep (X := fun c => w.heap.size + 1 < c) (by omega) kV
 have hEV : Ext w V := by rw [hV]; exact xt
 have hN1 := (hN1.widen (Y := fun c => w.heap.size + 1 < c) fun c hc _ => by first | omega | (simp only [wsz] at hc; omega)).keep kV; have hN2 := (hN2.widen (Y := fun c => w.heap.size + 1 + 1 + 1 < c) fun c hc _ => by omega).keep (kV.imp fun c hc => by omega); clear hV kV q2 q3 q4 q5 q2r q2l q3r q3l hx12 hx1 hx2
 have p2r := p2.rules; have p2l := p2.lt
 have p3r := p3.rules; have p3l := p3.lt
 have p5l := p5.lt
 go_wp2_with fail
 have hd := div1_c hN1 hN2 (by rw [nv_lim]; exact h0) (by rw [nv_lim]; exact h1) (by omega); simp only [nv_lim] at hd; refine hd.mono ?_; rintro e w3 ⟨A3, c3, A4, c4, rfl, hN3, hN4, hx3⟩; clear hd
 (have p32 := Box.ext (g := w.heap.size + 1) bxt hx3; have p32r := p32.rules; have p32l := p32.lt)
 have p22 := p2.ext hx3; have p42 := p4.ext hx3; have p52 := p5.ext hx3
 have p22r := p22.rules; have p22l := p22.lt
 have p52l := p52.lt; clear p2r p3r
 go_wp2_with fail
 obtain ⟨q1, hq1⟩ : ∃ q1, q1 = x.natAbs / P := ⟨_, rfl⟩; obtain ⟨m1, hm1⟩ : ∃ m1, m1 = x.natAbs % P := ⟨_, rfl⟩
 have lq1 : (lim q1).length ≤ a.mag.length := by
  rw [hq1]; refine Nat.le_trans (lim_pw (Nat.lt_of_le_of_lt (Nat.div_le_self _ _) (lt_pw_lim x.natAbs))) ?_
  rw [← hzl]; exact hla
 have lm1 : (lim m1).length ≤ 1 := by
  rw [hm1]; refine lim_pw ?_; rw [pw_succ, pw_zero]; have := Nat.mod_lt x.natAbs h0
  omega
 rw [← hq1] at law hN3 ⊢; rw [← hm1] at law hN4 ⊢; clear hq1 hm1
 have HL := Lib.hid law; clear law
 refine wp_region_late [(0, true), (1, true), (2, true), (3, true), (4, true), (5, true), (7, true), (8, true), (9, true), (6, false), (10, false)] [11, 12] rfl (by kernel_rfl) (by intro _ _ d _ _ h; cases d <;> exact h) ?_
 (repeat (refine sh_take (v := ?_) rfl rfl ?_ ?_; rotate_left; exact tk2; (try simp only [pt])))
 (refine sh_loud rfl rfl fun K hK => ?_; go_simp)
 refine (made_c (hN3.ext xt) (by omega)).mono ?_; rintro e w4 ⟨r4, rfl, ⟨A5, c5, rfl, hN5⟩, hx4⟩
 (refine hK _ _ xt ?_; clear hK K; (try simp only [pt]))
 (repeat (refine sh_take (v := ?_) rfl rfl ?_ ?_; rotate_left; exact tk2; (try simp only [pt])))
 (refine sh_loud rfl rfl fun K hK => ?_; go_simp)
 refine (made_c (hN4.ext xt) (by omega)).mono ?_; rintro e w5 ⟨r5, rfl, ⟨A6, c6, rfl, hN6⟩, hx5⟩
 (refine hK _ _ xt ?_; clear hK K; (try simp only [pt]))
 refine sh_done ?_; obtain ⟨q2, hq2⟩ : ∃ q2, q2 = Z.v ⟨s, lim q1⟩ := ⟨_, rfl⟩; obtain ⟨m2, hm2⟩ : ∃ m2, m2 = Z.v ⟨s, lim m1⟩ := ⟨_, rfl⟩
 have lq2 : zl q2 ≤ a.mag.length := by
  have := zl_of (z := ⟨s, lim q1⟩) (lb_lim _); rw [hq2]; exact Nat.le_trans this lq1
 have lm2 : zl m2 ≤ 1 := by
  have := zl_of (z := ⟨s, lim m1⟩) (lb_lim _); rw [hm2]; exact Nat.le_trans this lm1
 rw [← hq2] at HL hN5 ⊢; rw [← hm2] at HL hN6 ⊢; clear hq2 hm2 lq1 lm1; have hx45 : Ext w3 w5 := (Ext.refl w3).drew.trans (hx4.trans hx5)
 have t3 := p32.ext hx45; have t4 := p42.ext hx45; have t5 := p52.ext hx45
 have t4r := t4.rules; have t4l := t4.lt
 have t5r := t5.rules; have t5l := t5.lt
 have hE5 := (hEV.trans hx3).trans hx45
 have hs4 := hx4.size; have hs5 := hx5.size
 have hN5 := hN5.ext hx5; simp only [wsz] at hs4; clear p22r p32r
 (refine sh_late rfl rfl fun K hK => ?_; go_simp; refine hK _ _ ?_; clear hK K)
 (refine sh_late rfl rfl fun K hK => ?_; go_simp; refine hK _ _ ?_; clear hK K)
 refine sh_end ?_
 refine x_named fun U hU => ?_
 have kU : Kp (fun c => w.heap.size + 1 + 1 + 1 < c) w5 U := by rw [hU]; exact kpt
 have kU3 : Kp (fun c => c = w.heap.size + 1) w5 U := by rw [hU]; exact kpt
 have s3 : Box U (w.heap.size + 1) 25 #[.bool false, .slice A2 (lim P).length c2] := t3.keep (X := fun c => c = w.heap.size + 1) rfl kU3
 have s4 : Box U (w.heap.size + 1 + 1) 25 #[.bool (cz q2).neg, .slice A5 (cz q2).mag.length c5] := by rw [hU]; exact (((t4.set_ 0 _).set_ 1 _).far (by simp only; omega) _).far (by simp only; omega) _
 have s5 : Box U (w.heap.size + 1 + 1 + 1) 25 #[.bool (cz m2).neg, .slice A6 (cz m2).mag.length c6] := by rw [hU]; exact (((t5.far (by simp only; omega) _).far (by simp only; omega) _).set_ 0 _).set_ 1 _
 have hEU : Ext w U := by rw [hU]; exact xt
 have hN5 := (hN5.widen (Y := fun c => w.heap.size + 1 + 1 + 1 < c) fun c hc _ => by first | omega | (simp only [wsz] at hc; omega)).keep kU; have hN6 := (hN6.widen (Y := fun c => w.heap.size + 1 + 1 + 1 < c) fun c hc _ => by first | omega | (simp only [wsz] at hc; omega)).keep kU; have hN2 := ((hN2.ext hx3).ext hx45).keep kU; clear hU kU kU3 t3 t4 t5 t4r t4l t5r t5l hx45 hx4 hx5 p32 p42 p52 p2 p3 p4 p5; obtain ⟨zm, hzm⟩ : ∃ zm, zm = cz m2 := ⟨_, rfl⟩
 have hzl2 : zm.mag.length = zl m2 := by rw [hzm]; rfl
 have hzn : zm.neg = decide (m2 < 0) := by rw [hzm]; rfl
 have hzv : zm.v = m2 := by rw [hzm, cz_v]
 rw [← hzm] at s5 hN6 ⊢
 have HZ := Lib.hid hzm; clear hzm
 have s3r := s3.rules; have s3l := s3.lt
 have s4r := s4.rules; have s4l := s4.lt
 have s5r := s5.rules; have s5l := s5.lt
 by_cases hneg : m2 < 0
 ·have hne : zm.neg = true := by rw [hzn]; exact decide_eq_true hneg
  have hpos : 0 < zm.mag.length := by
   rw [hzl2]; exact (lim_len_pos _).2 (by omega)
  have HV := Lib.hid hzv; rw [hne] at s5; rw [hne]; have s5r := s5.rules; clear hzn hzl2 hzv
  have hposI : (0 : Int) < (zm.mag.length : Int) := by omega
  go_wp2_with fail
  have hlaw := HL.out.2 hneg; refine wp_region_late [(0, true), (3, true), (4, true), (1, false), (2, false), (5, false)] [6, 7] rfl (by kernel_rfl) (by intro _ _ d _ _ h; cases d <;> exact h) ?_
  (repeat (refine sh_take (v := ?_) rfl rfl ?_ ?_; rotate_left; exact tk2; (try simp only [pt])))
  (refine sh_loud rfl rfl fun K hK => ?_; go_simp)
  refine (zof_c 1 (by omega) (by omega) _).mono ?_; rintro e w6 ⟨r6, rfl, hO6, hx6⟩
  (refine hK _ _ xt ?_; clear hK K; (try simp only [pt]))
  (refine sh_loud rfl rfl fun K hK => ?_; go_simp)
  refine (zsub_c (x := cz q2) ⟨_, _, rfl, hN5.ext xt⟩ hO6 (by rw [cz_len]; omega) (by rw [cz_len]; have := zl_word (x := 1) (by omega); omega)).mono ?_; rw [cz_v, cz_v]; rintro e w7 ⟨r7, rfl, ⟨A7, c7, rfl, hN7⟩, hx7⟩
  (refine hK _ _ xt ?_; clear hK K; (try simp only [pt]))
  (repeat (refine sh_take (v := ?_) rfl rfl ?_ ?_; rotate_left; exact tk2; (try simp only [pt])))
  (refine sh_loud rfl rfl fun K hK => ?_; go_simp)
  refine (zadd_c (x := zm) (y := ⟨false, lim P⟩) ⟨_, _, by rw [hne], (hN6.ext xt)⟩ ⟨_, _, rfl, (hN2.ext xt)⟩ (by rw [HZ.out, cz_len]; omega) (by show (lim P).length ≤ _; rw [lim_one h0 h1]; simp)).mono ?_; rw [HV.out, show Z.v ⟨false, lim P⟩ = (P : Int) from by simp [Z.v, nv_lim]]; rintro e w8 ⟨r8, rfl, ⟨A8, c8, rfl, hN8⟩, hx8⟩
  (refine hK _ _ xt ?_; clear hK K; (try simp only [pt]))
  refine sh_done ?_; obtain ⟨zq, hzq⟩ : ∃ zq, zq = cz (q2 - 1) := ⟨_, rfl⟩; obtain ⟨zr, hzr⟩ : ∃ zr, zr = cz (m2 + P) := ⟨_, rfl⟩; rw [← hzq] at hN7 ⊢; rw [← hzr] at hN8 ⊢; have HZQ : Hid (zq = cz (x / P)) := Lib.hid (by rw [hlaw.1]; exact hzq); have HZR : Hid (zr = cz (x % P)) := Lib.hid (by rw [hlaw.2]; exact hzr); have hx68 : Ext U w8 := (Ext.refl U).drew.trans ((hx6.trans hx7).trans hx8)
  have v4 := s4.ext hx68; have v5 := s5.ext hx68
  have v4r := v4.rules; have v4l := v4.lt
  have v5r := v5.rules; have v5l := v5.lt
  have hE8 := hEU.trans hx68
  have hs6 := hx6.size; have hs7 := hx7.size; have hs8 := hx8.size
  have hN7 := hN7.ext hx8; simp only [wsz] at hs6; clear s3r s4r s5r hzq hzr hlaw HL HZ HV
  (refine sh_late rfl rfl fun K hK => ?_; go_simp; refine hK _ _ ?_; clear hK K)
  (refine sh_late rfl rfl fun K hK => ?_; go_simp; refine hK _ _ ?_; clear hK K)
  refine sh_end ?_
  refine x_named fun T0 hT => ?_
  have kT : Kp (fun c => w.heap.size + 1 + 1 + 1 < c) w8 T0 := by rw [hT]; exact kpt
  have s4 : Box T0 (w.heap.size + 1 + 1) 25 #[.bool zq.neg, .slice A7 zq.mag.length c7] := by rw [hT]; exact (((v4.set_ 0 _).set_ 1 _).far (by simp only; omega) _).far (by simp only; omega) _
  have s5 : Box T0 (w.heap.size + 1 + 1 + 1) 25 #[.bool zr.neg, .slice A8 zr.mag.length c8] := by rw [hT]; exact (((v5.far (by simp only; omega) _).far (by simp only; omega) _).set_ 0 _).set_ 1 _
  have hET : Ext w T0 := by rw [hT]; exact xt
  have hN7 := (hN7.widen (Y := fun c => w.heap.size + 1 + 1 + 1 < c) fun c hc _ => by first | omega | (simp only [wsz] at hc; omega)).keep kT; have hN8 := (hN8.widen (Y := fun c => w.heap.size + 1 + 1 + 1 < c) fun c hc _ => by first | omega | (simp only [wsz] at hc; omega)).keep kT; clear hT kT v4 v5 v4r v4l v5r v5l hx68 hx6 hx7 hx8 hN5 hN6 hO6 s4l s5l
  have s4r := s4.rules; have s4l := s4.lt
  have s5r := s5.rules; have s5l := s5.lt
  go_wp2_with fail
  go_region
  refine x_named fun Y0 hY0 => ?_
  have kY : Kp (fun c => w.heap.size + 1 + 1 + 1 < c) T0 Y0 := by rw [hY0]; exact Kp.drew kpt
  have u4 : Box Y0 (w.heap.size + 1 + 1) 25 #[.bool zq.neg, .slice A7 zq.mag.length c7] := by rw [hY0]; exact ((((s4.set_ 0 _).set_ 1 _).far (by simp only; omega) _).far (by simp only; omega) _).drew
  have u5 : Box Y0 (w.heap.size + 1 + 1 + 1) 25 #[.bool zr.neg, .slice A8 zr.mag.length c8] := by rw [hY0]; exact ((((s5.far (by simp only; omega) _).far (by simp only; omega) _).set_ 0 _).set_ 1 _).drew
  have hEY : Ext w Y0 := by rw [hY0]; exact Ext.drew xt
  clear hY0 s4r s5r; have u4r := u4.rules; have u4l := u4.lt; have u5r := u5.rules; have u5l := u5.lt
  go_wp2_with fail
  (refine bodyPost_ret (v := ?_) ?_ rfl ?_; rotate_left; (simp only [results, Tryz.results72]; go_simp; (first | done | with_reducible rfl)))
  refine ⟨_, _, rfl, ?_, ?_, hEY⟩
  ·rw [← HZQ.out]; exact ⟨A7, c7, rfl, (hN7.keep kY).widen fun c hc _ => by omega⟩
  ·rw [← HZR.out]; exact ⟨A8, c8, rfl, (hN8.keep kY).widen fun c hc _ => by omega⟩
 ·have hlaw := HL.out.1 (by omega); obtain ⟨zq, hzq⟩ : ∃ zq, zq = cz q2 := ⟨_, rfl⟩; rw [← hzq] at s4 hN5 ⊢; obtain ⟨zr, hzr⟩ : ∃ zr, zr = zm := ⟨_, rfl⟩; rw [← hzr] at s5 hN6 hzl2 hzn ⊢; have HZQ : Hid (zq = cz (x / P)) := Lib.hid (by rw [hlaw.1]; exact hzq); have HZR : Hid (zr = cz (x % P)) := Lib.hid (by rw [hlaw.2, hzr]; exact HZ.out)
  have hne : zr.neg = false := by rw [hzn]; exact decide_eq_false hneg
  clear hzq hzr hlaw hzv hzl2 HL HZ hzn; obtain ⟨A7, hA7⟩ : ∃ A7, A7 = A5 := ⟨_, rfl⟩; obtain ⟨c7, hc7⟩ : ∃ c7, c7 = c5 := ⟨_, rfl⟩; obtain ⟨A8, hA8⟩ : ∃ A8, A8 = A6 := ⟨_, rfl⟩; obtain ⟨c8, hc8⟩ : ∃ c8, c8 = c6 := ⟨_, rfl⟩; rw [← hA7, ← hc7] at s4 hN5 ⊢; rw [← hA8, ← hc8] at s5 hN6 ⊢
  have hN7 := hN5; have hN8 := hN6
  clear hA7 hc7 hA8 hc8 hN5 hN6; clear s4r s5r; have s4r := s4.rules; obtain ⟨L, hL0⟩ : ∃ L, L = zr.mag.length := ⟨_, rfl⟩; have he8 : Hid (Value.agg #[.bool false, .slice A8 L c8] = Value.agg #[.bool zr.neg, .slice A8 zr.mag.length c8]) := Lib.hid (by rw [hne, hL0]); rw [hne, ← hL0] at s5; rw [hne, ← hL0]; clear hne hL0; have s5r := s5.rules
  match L with
  | 0 =>
   go_wp2_with fail
   go_region
   refine x_named fun Y0 hY0 => ?_
   have kY : Kp (fun c => w.heap.size + 1 + 1 + 1 < c) U Y0 := by rw [hY0]; exact Kp.drew kpt
   have u4 : Box Y0 (w.heap.size + 1 + 1) 25 #[.bool zq.neg, .slice A7 zq.mag.length c7] := by rw [hY0]; exact ((((s4.set_ 0 _).set_ 1 _).far (by simp only; omega) _).far (by simp only; omega) _).drew
   have u5 : Box Y0 (w.heap.size + 1 + 1 + 1) 25 #[.bool false, .slice A8 0 c8] := by rw [hY0]; exact ((((s5.far (by simp only; omega) _).far (by simp only; omega) _).set_ 0 _).set_ 1 _).drew
   have hEY : Ext w Y0 := by rw [hY0]; exact Ext.drew xt
   clear hY0 s4r s5r; have u4r := u4.rules; have u4l := u4.lt; have u5r := u5.rules; have u5l := u5.lt
   go_wp2_with fail
   (refine bodyPost_ret (v := ?_) ?_ rfl ?_; rotate_left; (simp only [results, Tryz.results72]; go_simp; (first | done | with_reducible rfl)))
   refine ⟨_, _, rfl, ?_, ?_, hEY⟩
   ·rw [← HZQ.out]; exact ⟨A7, c7, rfl, (hN7.keep kY).widen fun c hc _ => by omega⟩
   ·rw [← HZR.out]; exact ⟨A8, c8, he8.out, (hN8.keep kY).widen fun c hc _ => by omega⟩
  | n + 1 =>
   go_wp2_with fail
   go_region
   refine x_named fun Y0 hY0 => ?_
   have kY : Kp (fun c => w.heap.size + 1 + 1 + 1 < c) U Y0 := by rw [hY0]; exact Kp.drew kpt
   have u4 : Box Y0 (w.heap.size + 1 + 1) 25 #[.bool zq.neg, .slice A7 zq.mag.length c7] := by rw [hY0]; exact ((((s4.set_ 0 _).set_ 1 _).far (by simp only; omega) _).far (by simp only; omega) _).drew
   have u5 : Box Y0 (w.heap.size + 1 + 1 + 1) 25 #[.bool false, .slice A8 (n + 1) c8] := by rw [hY0]; exact ((((s5.far (by simp only; omega) _).far (by simp only; omega) _).set_ 0 _).set_ 1 _).drew
   have hEY : Ext w Y0 := by rw [hY0]; exact Ext.drew xt
   clear hY0 s4r s5r; have u4r := u4.rules; have u4l := u4.lt; have u5r := u5.rules; have u5l := u5.lt
   go_wp2_with fail
   (refine bodyPost_ret (v := ?_) ?_ rfl ?_; rotate_left; (simp only [results, Tryz.results72]; go_simp; (first | done | with_reducible rfl)))
   refine ⟨_, _, rfl, ?_, ?_, hEY⟩
   ·rw [← HZQ.out]; exact ⟨A7, c7, rfl, (hN7.keep kY).widen fun c hc _ => by omega⟩
   ·rw [← HZR.out]; exact ⟨A8, c8, he8.out, (hN8.keep kY).widen fun c hc _ => by omega⟩

end Go.Proofs.YtpkfjbljhneenaaGreat

namespace Go.Proofs.YtpkfjbljhneenaaGreat
open Go.RowKit

theorem u64_or2 (a b : Nat) (ha : a < 4294967296) (hb : b < 4294967296) : bits .or .u64 (b : Int) ((a : Int) * 4294967296) = ((a * 4294967296 + b : Nat) : Int) := by
 have h := u64_or_nat b (a * 4294967296) (by omega) (by omega)
 have h2 : ((a * 4294967296 : Nat) : Int) = (a : Int) * 4294967296 := by omega
 rw [h2] at h; rw [h]
 congr 1
 rw [Nat.or_comm]; have := Nat.two_pow_add_eq_or_of_lt (i := 32) (b := b) (by omega) a; rw [show a * 4294967296 = 2 ^ 32 * a from by omega]; exact this.symm
theorem u64_or0 (a : Nat) (ha : a < 18446744073709551616) : bits .or .u64 (0 : Int) (a : Int) = (a : Int) := by
 have h := u64_or_nat 0 a (by omega) ha
 simpa using h

theorem nv_take2 {l : List Nat} : nv (l.take 0) = 0 ∧ nv (l.take 1) = nth l 0 ∧ nv (l.take 2) = nth l 0 + 4294967296 * nth l 1 := by
 refine ⟨by simp [nv], ?_, ?_⟩
 ·rw [nv_take_succ' l 0]; simp [nv, pw_zero]
 ·rw [nv_take_succ' l 1, nv_take_succ' l 0]; simp [nv, pw_zero, pw_succ]

def i64v (x : Int) : Int := if -9223372036854775808 ≤ x ∧ x ≤ 9223372036854775807 then x else 0
def i64b (x : Int) : Bool := decide (-9223372036854775808 ≤ x ∧ x ≤ 9223372036854775807)
theorem i64_in {x : Int} (h : i64 x) : i64v x = x ∧ i64b x = true := ⟨if_pos h, decide_eq_true h⟩
theorem i64_out {x : Int} (h : ¬ i64 x) : i64v x = 0 ∧ i64b x = false := ⟨if_neg h, decide_eq_false h⟩
theorem ret_in {x n : Int} (h : i64 x) (e : n = x) : Ending.returned (.tuple #[.int .i64 n, .bool true]) = .returned (.tuple #[.int .i64 (i64v x), .bool (i64b x)]) := by rw [(i64_in h).1, (i64_in h).2, e]
theorem ret_out {x : Int} (h : ¬ i64 x) : Ending.returned (.tuple #[.int .i64 0, .bool false]) = .returned (.tuple #[.int .i64 (i64v x), .bool (i64b x)]) := by rw [(i64_out h).1, (i64_out h).2]

set_option maxHeartbeats 1600000 in
theorem zint64_c {v : Value} {z : Z} {w : World} {X : Nat → Prop} (h : Zi w X v z) (hL : z.mag.length ≤ 4398046511104) :
  Calls Tryz.prog 73 #[v] w fun e w' => e = .returned (.tuple #[.int .i64 (i64v z.v), .bool (i64b z.v)]) ∧ Ext w w' := by
 have hn := fun W (h' : Ext w W) => znorm_c (h.ext h') hL
 generalize z.v = x at hn ⊢; have e2 : cz x = ⟨decide (x < 0), lim x.natAbs⟩ := rfl; rw [e2] at hn; clear e2; have hpw := lt_pw_lim x.natAbs; have hnv := nv_lim x.natAbs; obtain ⟨m, hm⟩ : ∃ m, m = lim x.natAbs := ⟨_, rfl⟩; obtain ⟨s, hs⟩ : ∃ s, s = decide (x < 0) := ⟨_, rfl⟩
 have hbig : 2 < m.length → 18446744073709551616 ≤ x.natAbs := fun h => by
  have := pw_le_of_lim (n := x.natAbs) (k := 2) (by rw [← hm]; exact h); rw [pw_succ, pw_succ, pw_zero] at this
  omega
 rw [← hm] at hn hpw hnv; rw [← hs] at hn
 have Hm := Lib.hid hm; have Hs := Lib.hid hs; have Hnv := Lib.hid hnv; have Hpw := Lib.hid hpw
 clear hm hs hnv hpw; obtain ⟨A, c, rfl, h⟩ := h
 go_enter Tryz.func73, Tryz.ntmps73
 go_wp2_with fail
 refine (hn _ xt).mono ?_; rintro e w1 ⟨r1, rfl, ⟨A1, c1, rfl, hN1⟩, hx1⟩
 (have b1 := Box.ext (g := w.heap.size) bxt hx1; have b1r := b1.rules; have b1l := b1.lt)
 have hE1 : Ext w w1 := xt
 (have hs1 := Ext.size hx1; (try simp only [wsz] at hs1))
 by_cases hlen : 2 < m.length
 ·have hl : (2 : Int) < (m.length : Int) := by omega
  have hb := hbig hlen
  go_wp2_with fail
  (refine bodyPost_ret (v := ?_) ?_ rfl ?_; rotate_left; (simp only [results, Tryz.results73]; go_simp; (first | done | with_reducible rfl)))
  refine ⟨ret_out ?_, xt⟩; rintro ⟨h2, h3⟩
  omega
 ·have hl : ¬ (2 : Int) < (m.length : Int) := by omega
  go_wp2_with fail
  refine wp_named fun V hV => ?_
  have kV : Kp (w.heap.size < ·) w1 V := by rw [hV]; exact kpt
  have p1 : Box V w.heap.size 25 #[.bool s, .slice A1 m.length c1] := by rw [hV]; exact (b1.set_ 0 _).set_ 1 _
  have hEV : Ext w V := by rw [hV]; exact xt
  have hN1 := (hN1.widen (Y := (w.heap.size < ·)) fun c hc _ => by simp only [wsz] at hc; omega).keep kV; clear hV kV b1 b1r b1l hx1
  go_loopw [4, 17] (fun uv iv wr => ∃ k : Nat, k ≤ m.length ∧ iv = .int .i64 k ∧ uv = .int .u64 ((nv (m.take k) : Nat) : Int) ∧ Ext V wr) (fun _ iv _ => m.length - (intOf iv).toNat)
  case atStart => exact ⟨0, Nat.zero_le _, rfl, by simp [nv], Ext.refl _⟩
  case round =>
   obtain ⟨k, hk, rfl, rfl, hxr⟩ := hrel; have q1 := p1.ext hxr
   have q1r := q1.rules; have q1l := q1.lt
   have hNr := hN1.ext hxr
   by_cases hlt : k < m.length
   ·obtain ⟨b, o, rfl, -, hc, hb⟩ := hNr.at_ hlt; have c0 := hc k hlt; clear hc
    have kl : (k : Int) < (m.length : Int) := by omega
    have hk2 : k = 0 ∨ k = 1 := by omega
    have ht := nv_take2 (l := m)
    rcases hk2 with rfl | rfl
    ·have eo := u64_or0 (nth m 0) (by omega); rw [ht.1]; simp only [Nat.add_zero] at c0
     go_wp2_with fail
     go_roundw
     case rel => exact ⟨1, by omega, rfl, by rw [ht.2.1], xt⟩
     case measure => simp [intOf] <;> omega
    ·have h0 : nth m 0 < 4294967296 := hN1.lb.nth 0; have eo := u64_or2 (nth m 1) (nth m 0) hb h0; have e1 : nv (m.take 1) = nth m 0 := ht.2.1; rw [e1]
     go_wp2_with fail
     go_roundw
     case rel =>
      refine ⟨2, by omega, by go_num, ?_, xt⟩; rw [ht.2.2]
      congr 1
      omega
     case measure => simp [intOf] <;> omega
   ·obtain rfl : k = m.length := by omega
    rw [nv_take_ge m _ (Nat.le_refl _)]; have hn1 := Hnv.out
    have hn2 : x.natAbs < 18446744073709551616 := by
     have h1 := Hpw.out; have h2 : pw m.length ≤ pw 2 := pw_mono (by omega); rw [pw_succ, pw_succ, pw_zero] at h2
     omega
    obtain ⟨n, hn0⟩ : ∃ n, n = nv m := ⟨_, rfl⟩; rw [← hn0] at hn1 ⊢; rw [← hn1] at hn2
    have Hn := Lib.hid hn1; have hs := Hs.out
    have Hxr := hEV.trans hxr; clear hn0 hn1 hn Hs Hnv Hpw Hm hbig
    cases s with
    | true =>
     have hx0 : x < 0 := of_decide_eq_true hs.symm
     by_cases hle : n ≤ 9223372036854775808
     ·have hli : (n : Int) ≤ 9223372036854775808 := by omega
      have Hx := Lib.hid hx0; clear hx0 hs
      go_wp2_with fail
      (refine bodyPost_ret (v := ?_) ?_ rfl ?_; rotate_left; (simp only [results, Tryz.results73]; go_simp; (first | done | with_reducible rfl)))
      refine ⟨ret_in ?_ ?_, Hxr.trans xt⟩
      ·have := Hn.out; have := Hx.out
       exact ⟨by omega, by omega⟩
      ·have := Hn.out; have := Hx.out; first | omega | (simp only [wrap64]; omega)
     ·have hli : ¬ (n : Int) ≤ 9223372036854775808 := by omega
      have Hx := Lib.hid hx0; clear hx0 hs
      go_wp2_with fail
      (refine bodyPost_ret (v := ?_) ?_ rfl ?_; rotate_left; (simp only [results, Tryz.results73]; go_simp; (first | done | with_reducible rfl)))
      refine ⟨ret_out ?_, Hxr.trans xt⟩; rintro ⟨h2, h3⟩
      have := Hn.out; have := Hx.out; omega
    | false =>
     have hx0 : ¬ x < 0 := of_decide_eq_false hs.symm
     by_cases hle : n < 9223372036854775808
     ·have ew : wrap64 (n : Int) = (n : Int) := by simp only [wrap64]; omega
      have hli : (0 : Int) ≤ (n : Int) := by omega
      have Hx := Lib.hid hx0; clear hx0 hs
      go_wp2_with fail
      (refine bodyPost_ret (v := ?_) ?_ rfl ?_; rotate_left; (simp only [results, Tryz.results73]; go_simp; (first | done | with_reducible rfl)))
      refine ⟨ret_in ?_ ?_, Hxr.trans xt⟩
      ·have := Hn.out; have := Hx.out
       exact ⟨by omega, by omega⟩
      ·have := Hn.out; have := Hx.out; first | omega | (simp only [wrap64]; omega)
     ·have hli : ¬ (0 : Int) ≤ wrap64 (n : Int) := by simp only [wrap64]; omega
      have Hx := Lib.hid hx0; clear hx0 hs
      go_wp2_with fail
      (refine bodyPost_ret (v := ?_) ?_ rfl ?_; rotate_left; (simp only [results, Tryz.results73]; go_simp; (first | done | with_reducible rfl)))
      refine ⟨ret_out ?_, Hxr.trans xt⟩; rintro ⟨h2, h3⟩
      have := Hn.out; have := Hx.out; omega

end Go.Proofs.YtpkfjbljhneenaaGreat

namespace Go.Proofs.YtpkfjbljhneenaaGreat
open Go.RowKit

theorem phi_left {X : Nat → Prop} {q r : Int} : ∀ v w w', Ext w w' → (∃ a b, v = Value.tuple #[a, b, .int .i64 0] ∧ Zi w X a (cz q) ∧ Zi w X b (cz r)) → (∃ a b, v = Value.tuple #[a, b, .int .i64 0] ∧ Zi w' X a (cz q) ∧ Zi w' X b (cz r)) :=
 fun _ _ _ hx ⟨a, b, h1, h2, h3⟩ => ⟨a, b, h1, h2.ext hx, h3.ext hx⟩

set_option maxHeartbeats 1600000 in
theorem left_c {v : Value} {z : Z} {w : World} {X : Nat → Prop} {p : Nat} (h : Zi w X v z) (hL : z.mag.length ≤ 1099511627776) (h0 : 0 < p) (h1 : p < 4294967296) :
  Calls Tryz.prog 61 #[v, .int .i64 (p : Int)] w fun e w' => e = .returned (.int .i64 (z.v % p)) ∧ Ext w w' := by
 have hz := h; obtain ⟨A, c, rfl, h⟩ := h
 go_enter Tryz.func61, Tryz.ntmps61
 go_wp2_with fail
 refine wp_named fun W hW => ?_
 have b2 : Box W w.heap.size 25 #[.bool z.neg, .slice A z.mag.length c] := by rw [hW]; exact bxt
 have hE : Ext w W := by rw [hW]; exact xt
 clear hW; have b2l := b2.lt
 refine wp_region_free [(0, 11, []), (1, 12, []), (2, 13, [(1, 12)]), (3, 14, [(0, 11), (2, 13)]), (4, 10, [(3, 14)]), (5, 15, [(4, 10)]), (6, 16, [(4, 10)]), (7, 17, [(4, 10)]), (8, 5, []), (9, 6, [])] [10, 11, 12] [11, 12, 13, 14, 10, 15, 16, 17, 5, 6] [8, 9] [6, 7] [phiEq (.agg #[.bool z.neg, .slice A z.mag.length c]), phiEq (.int .i64 (p : Int)), phiZ (fun _ => True) (cz p), ⟨_, phi_left (X := fun _ => True) (q := z.v / p) (r := z.v % p)⟩, ⟨_, phi_left (X := fun _ => True) (q := z.v / p) (r := z.v % p)⟩,
  phiZ (fun _ => True) (cz (z.v / p)), phiZ (fun _ => True) (cz (z.v % p)), phiEq (.int .i64 0), phiBox W.heap.size 25 #[.bool false, .slice none 0 0], phiBox W.heap.size 25 #[.bool false, .slice none 0 0]] rfl (by kernel_rfl) (by intro _ _ d _ _ h; cases d <;> exact h) (by kernel_rfl) (by kernel_rfl) ?_ ?_
 ·have hcb : W.cell? ⟨w.heap.size, 0, none⟩ = some (.bool z.neg) := by rw [b2.cell]; rfl
  have hcb1 : W.cell? ⟨w.heap.size, 1, none⟩ = some (.slice A z.mag.length c) := by rw [b2.cell]; rfl
  (refine ps_eq rfl rfl rfl rfl rfl rfl ?_ ?_; focus exact tk0)
  (refine ps_eq rfl rfl rfl rfl rfl rfl ?_ ?_; focus exact tk0)
  (refine ps_loud rfl rfl rfl rfl rfl (fun f w1 hx hd K hK => ?_) ?_)
  ·(have hc' := hx.cells.1; (try simp only [wcd] at hc'); (dsimp only [PhiDeps, phiAt, phiEq, phiZ, phiAny, phiBox] at hd); simp only [fillA, Act.put, List.setIfInBounds_toArray, List.set_cons_zero, List.set_cons_succ] at hK; (simp only [fillA]; (try simp only [pt])); (try simp only [hd] at hK ⊢); go_simp)
   refine (zof_c (p : Int) (by omega) (by omega) _).mono ?_; rintro e w2 ⟨r, rfl, hr, hx2⟩
   (refine hK _ _ xt ?_; dsimp only [phiAt, phiEq, phiZ, phiAny, phiBox])
   exact hr.widen fun _ _ _ => trivial
  (refine ps_loud rfl rfl rfl rfl rfl (fun f w1 hx hd K hK => ?_) ?_)
  ·(have hc' := hx.cells.1; (try simp only [wcd] at hc'); (dsimp only [PhiDeps, phiAt, phiEq, phiZ, phiAny, phiBox] at hd); simp only [fillA, Act.put, List.setIfInBounds_toArray, List.set_cons_zero, List.set_cons_succ] at hK; (simp only [fillA]; (try simp only [pt])); (try simp only [hd] at hK ⊢); go_simp)
   refine (zdiv_c (P := p) (hz.ext (hE.trans xt)) hd.2.1 (by rw [cz_v]) h0 h1 hL (by rw [cz_len]; have := zl_word (x := (p : Int)) (by omega); omega)).mono ?_; rintro e w2 ⟨q, r, rfl, hq, hr, hx2⟩
   (refine hK _ _ xt ?_; dsimp only [phiAt, phiEq, phiZ, phiAny, phiBox])
   exact ⟨q, r, rfl, hq.widen fun _ _ _ => trivial, hr.widen fun _ _ _ => trivial⟩
  refine ps_take rfl rfl rfl rfl rfl ?_ ?_
  ·intro f w1 hx hd
   (dsimp only [PhiDeps, phiAt, phiEq, phiZ, phiAny, phiBox] at hd)
   refine ⟨f 14, ?_, hd.1⟩
   (simp only [fillA]; (try simp only [pt]))
   go_simp
  refine ps_take rfl rfl rfl rfl rfl ?_ ?_
  ·intro f w1 hx hd
   (dsimp only [PhiDeps, phiAt, phiEq, phiZ, phiAny, phiBox] at hd)
   obtain ⟨⟨a, b, e, h1, h2⟩, -⟩ := hd; refine ⟨a, ?_, h1⟩
   (simp only [fillA]; (try simp only [pt]))
   simp only [e]
   go_simp
  refine ps_pure rfl rfl rfl rfl ?_ ?_
  ·intro f w1 hx hd
   (dsimp only [PhiDeps, phiAt, phiEq, phiZ, phiAny, phiBox] at hd)
   obtain ⟨⟨a, b, e, h1, h2⟩, -⟩ := hd; refine ⟨b, ?_, h2⟩; intro w'
   (simp only [fillA]; (try simp only [pt]))
   simp only [e]
   go_simp
  refine ps_peq rfl rfl rfl rfl rfl ?_ ?_
  ·intro f w1 hx hd w'
   (dsimp only [PhiDeps, phiAt, phiEq, phiZ, phiAny, phiBox] at hd)
   obtain ⟨⟨a, b, e, h1, h2⟩, -⟩ := hd
   (simp only [fillA]; (try simp only [pt]))
   simp only [e]
   go_simp
  (refine ps_alloc rfl rfl rfl rfl rfl ?_ (by repeat (first | exact ab_nil | refine ab_cons rfl ?_)) ?_ ?_; (focus (first | omega | (simp only [wsz]; done) | (simp only [wsz]; omega))); (focus (intro f w1; (simp only [fillA]; (try simp only [pt])); go_simp; try (with_reducible rfl))))
  (refine ps_alloc rfl rfl rfl rfl rfl ?_ (by repeat (first | exact ab_nil | refine ab_cons rfl ?_)) ?_ ?_; (focus (first | omega | (simp only [wsz]; done) | (simp only [wsz]; omega))); (focus (intro f w1; (simp only [fillA]; (try simp only [pt])); go_simp; try (with_reducible rfl))))
  exact ps_nil
 ·intro f w1 hx hall hne
  (dsimp only [PhiAll, phiAt, phiEq, phiZ, phiAny, phiBox] at hall)
  obtain ⟨f11, f12, f13, f14, f10, ⟨aq, cq, eq, hq⟩, ⟨ar, cr, er, hr⟩, f17, ⟨g5, e5, l5, x5⟩, ⟨g6, e6, l6, x6⟩, -⟩ := hall
  (simp only [fillA]; (try simp only [pt]))
  simp only [f11, f12, f17, eq, er, e5, e6]
  have hne56 : g6 ≠ g5 := fun e => hne (8, 5, []) (by simp) (9, 6, []) (by simp) rfl rfl (by decide) (by rw [e5, e6, e])
  have x5r := x5.rules; have x5l := x5.lt
  have x6r := x6.rules; have x6l := x6.lt
  (refine sh_late rfl rfl fun K hK => ?_; go_simp; refine hK _ _ ?_; clear hK K)
  (refine sh_late rfl rfl fun K hK => ?_; go_simp; refine hK _ _ ?_; clear hK K)
  (refine sh_late rfl rfl fun K hK => ?_; go_simp; refine hK _ _ ?_; clear hK K)
  refine sh_end ?_
  refine x_named fun V hV => ?_
  have u6 : Box V g6 25 #[.bool (cz (z.v % ↑p)).neg, .slice ar (cz (z.v % ↑p)).mag.length cr] := by rw [hV]; exact (((x6.far hne56 _).far hne56 _).set_ 0 _).set_ 1 _
  have hEV : Ext w V := by
   rw [hV]; have h1 := hE.trans (Ext.trans (Ext.refl W).drew hx); exact (((h1.setCell (by simp only; omega) _).setCell (by simp only; omega) _).setCell (by simp only; omega) _).setCell (by simp only; omega) _
  have hr2 : Nl V (fun _ => True) ar cr (cz (z.v % p)).mag := by
   rw [hV]
   refine (Nl.keep ((hr.off x5 (by simp)).off x6 (by simp)) ?_).widen fun _ _ _ => trivial
   exact ((((Kp.refl w1).setCell (fun h => h.1.2 rfl) _).setCell (fun h => h.1.2 rfl) _).setCell (fun h => h.2 rfl) _).setCell (fun h => h.2 rfl) _
  clear hV x5r x6r
  have u6r := u6.rules; have u6l := u6.lt
  go_wp2_with fail
  have hlt := Int.emod_lt_of_pos z.v (show (0 : Int) < (p : Int) by omega); have hge := Int.emod_nonneg z.v (show (p : Int) ≠ 0 by omega); have hr64 : i64 (z.v % p) := ⟨by omega, by omega⟩; refine (zint64_c (z := cz (z.v % p)) ⟨_, _, rfl, hr2⟩ (by rw [cz_len]; have := zl_word (x := z.v % p) (by omega); omega)).mono ?_; rw [cz_v, (i64_in hr64).1, (i64_in hr64).2]; rintro e w2 ⟨rfl, hx2⟩
  go_wp2_with fail
  go_ret
  exact ⟨rfl, hEV.trans hx2⟩

theorem per_in {x : Int} : (i64b ((x.natAbs : Nat) : Int) && decide (i64v ((x.natAbs : Nat) : Int) ≤ 4096)) = decide (x.natAbs ≤ 4096) := by
 by_cases h : i64 ((x.natAbs : Nat) : Int)
 ·rw [(i64_in h).1, (i64_in h).2, Bool.true_and]
  congr 1
  exact propext ⟨fun h => by omega, fun h => by omega⟩
 ·rw [(i64_out h).1, (i64_out h).2, Bool.false_and]; rw [eq_comm, decide_eq_false_iff_not]; intro h2; exact h ⟨by omega, by omega⟩

set_option maxHeartbeats 800000 in
theorem period_c {v : Value} {z : Z} {w : World} {X : Nat → Prop} (h : Zi w X v z) (hL : z.mag.length ≤ 1099511627776) :
  Calls Tryz.prog 60 #[v] w fun e w' => e = .returned (.tuple #[.int .i64 (i64v ((z.v.natAbs : Nat) : Int)), .bool (decide (z.v.natAbs ≤ 4096))]) ∧ Ext w w' := by
 have hz := h; have hzl := zl_of h.lb
 have hab : (cz ((z.v.natAbs : Nat) : Int)).mag.length ≤ 4398046511104 := by
  rw [cz_len]; unfold zl at *; rw [Int.natAbs_natCast]
  omega
 obtain ⟨A, c, rfl, h⟩ := h; have hl := Lib.hid (per_in (x := z.v))
 go_enter Tryz.func60, Tryz.ntmps60
 go_wp2_with fail
 refine (zabs_c (hz.ext xt) (by omega)).mono ?_; rintro e w1 ⟨r, rfl, ⟨A1, c1, rfl, h1⟩, hx1⟩
 go_wp2_with fail
 refine (zint64_c (z := cz ((z.v.natAbs : Nat) : Int)) ⟨_, _, rfl, h1⟩ hab).mono ?_; rw [cz_v]; rintro e w2 ⟨rfl, hx2⟩; have hE := (Ext.alloc (Ext.refl w) _).trans (hx1.trans hx2); obtain ⟨n, hn⟩ : ∃ n, n = i64v ((z.v.natAbs : Nat) : Int) := ⟨_, rfl⟩; obtain ⟨b, hb⟩ : ∃ b, b = i64b ((z.v.natAbs : Nat) : Int) := ⟨_, rfl⟩; rw [← hn, ← hb] at hl ⊢; have HN := Lib.hid hn; clear hn hb
 cases b
 ·go_wp2_with fail
  (refine bodyPost_ret (v := ?_) ?_ rfl ?_; rotate_left; (simp only [results, Tryz.results60]; go_simp; (first | done | with_reducible rfl)))
  refine ⟨?_, hE⟩
  rw [← hl.out, ← HN.out]; rfl
 ·go_wp2_with fail
  (refine bodyPost_ret (v := ?_) ?_ rfl ?_; rotate_left; (simp only [results, Tryz.results60]; go_simp; (first | done | with_reducible rfl)))
  refine ⟨?_, hE⟩
  rw [← hl.out, ← HN.out]; rfl

end Go.Proofs.YtpkfjbljhneenaaGreat
