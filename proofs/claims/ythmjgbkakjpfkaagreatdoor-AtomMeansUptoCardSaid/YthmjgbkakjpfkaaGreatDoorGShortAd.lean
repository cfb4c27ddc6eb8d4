/- Contracts of package riddleref02. No conditions. An int's bounds. No conditions. Parts, values, terms in memory. No conditions. -/
import Derived.Test.YthmjgbkakjpfkaaGreatDoorGShortAc
import Derived.Test.YthmjgbkakjpfkaaGreatDoorGShortAa
namespace Go.Proofs.YthmjgbkakjpfkaaGreatDoor
open Go.RowKit

set_option maxHeartbeats 400000 in
theorem rnorm_c {v : Value} {z : Z} {w : World} {X : Nat → Prop} (h : Zi w X v z) (hL : z.mag.length ≤ 4398046511104) :
    Calls Tryz.prog 100 #[v] w fun e w' => ∃ r, e = .returned r ∧ Zi w' (w.heap.size ≤ ·) r (cz z.v) ∧ Ext w w' := by
  obtain ⟨A, c, rfl, h⟩ := h
  obtain ⟨n, l⟩ := z
  have hcz := Lib.hid (cz_made n l)
  go_enter Tryz.func100, Tryz.ntmps100
  go_wp2_with fail
  refine (rtrim_c (h.ext (by repeat (first | with_reducible assumption | with_reducible exact Ext.refl _ | with_reducible refine Ext.drewN ?_ _ | with_reducible refine Ext.drew ?_ | with_reducible refine Ext.alloc ?_ _ | (with_reducible refine Ext.setCell ?_ ?_ _; rotate_left; (first | exact Nat.le_refl _ | (dsimp only; omega) | (simp only [wsz]; omega))) | (with_reducible refine Ext.trans ?_ (by with_reducible assumption))))) hL).mono ?_
  rintro e w1 ⟨A1, c1, rfl, h1, hx⟩
  have hc := hx.cells
  cases n <;> go_wp2_with fail
  · (refine bodyPost_ret (v := ?_) ?_ rfl ?_; rotate_left; (simp only [results, Tryz.results100]; go_simp; (first | done | with_reducible rfl)))
    refine ⟨_, rfl, ?_, (by repeat (first | with_reducible assumption | with_reducible exact Ext.refl _ | with_reducible refine Ext.drewN ?_ _ | with_reducible refine Ext.drew ?_ | with_reducible refine Ext.alloc ?_ _ | (with_reducible refine Ext.setCell ?_ ?_ _; rotate_left; (first | exact Nat.le_refl _ | (dsimp only; omega) | (simp only [wsz]; omega))) | (with_reducible refine Ext.trans ?_ (by with_reducible assumption))))⟩
    rw [hcz.out]
    exact ⟨A1, c1, rfl, (h1.keep (by repeat (first | with_reducible exact Kp.refl _ | with_reducible refine Kp.drewN ?_ _ | with_reducible refine Kp.drew ?_ | with_reducible refine Kp.alloc ?_ _ | (with_reducible refine Kp.setCell ?_ ?_ _; rotate_left; (first | (dsimp only; omega) | (simp only [wsz]; omega))) | (with_reducible exact Kp.of_ext (by with_reducible assumption)) | (with_reducible refine Kp.ext ?_ (by with_reducible assumption))))).widen (fun b hb _ => by first | omega | (dsimp only at hb ⊢; omega) | (dsimp only at hb; omega) | (simp only [wsz] at hb ⊢; omega) | (simp only [wsz] at hb; omega))⟩
  · (refine bodyPost_ret (v := ?_) ?_ rfl ?_; rotate_left; (simp only [results, Tryz.results100]; go_simp; (first | done | with_reducible rfl)))
    refine ⟨_, rfl, ?_, (by repeat (first | with_reducible assumption | with_reducible exact Ext.refl _ | with_reducible refine Ext.drewN ?_ _ | with_reducible refine Ext.drew ?_ | with_reducible refine Ext.alloc ?_ _ | (with_reducible refine Ext.setCell ?_ ?_ _; rotate_left; (first | exact Nat.le_refl _ | (dsimp only; omega) | (simp only [wsz]; omega))) | (with_reducible refine Ext.trans ?_ (by with_reducible assumption))))⟩
    rw [hcz.out]
    exact ⟨A1, c1, by rw [Bool.true_and], (h1.keep (by repeat (first | with_reducible exact Kp.refl _ | with_reducible refine Kp.drewN ?_ _ | with_reducible refine Kp.drew ?_ | with_reducible refine Kp.alloc ?_ _ | (with_reducible refine Kp.setCell ?_ ?_ _; rotate_left; (first | (dsimp only; omega) | (simp only [wsz]; omega))) | (with_reducible exact Kp.of_ext (by with_reducible assumption)) | (with_reducible refine Kp.ext ?_ (by with_reducible assumption))))).widen (fun b hb _ => by first | omega | (dsimp only at hb ⊢; omega) | (dsimp only at hb; omega) | (simp only [wsz] at hb ⊢; omega) | (simp only [wsz] at hb; omega))⟩

set_option maxHeartbeats 400000 in
theorem rvalid_c {v : Value} {z : Z} {w : World} {X : Nat → Prop} (h : Zi w X v z) (hL : z.mag.length ≤ 4398046511104) :
    Calls Tryz.prog 54 #[v] w fun e w' => e = .returned (.bool z.ok) ∧ Ext w w' := by
  have hk := Lib.hid (rok h.lb)
  obtain ⟨A, c, rfl, h⟩ := h
  go_enter Tryz.func54, Tryz.ntmps54
  go_wp2_with fail
  refine (rnorm_c ⟨A, c, rfl, h.ext (by repeat (first | with_reducible assumption | with_reducible exact Ext.refl _ | with_reducible refine Ext.drewN ?_ _ | with_reducible refine Ext.drew ?_ | with_reducible refine Ext.alloc ?_ _ | (with_reducible refine Ext.setCell ?_ ?_ _; rotate_left; (first | exact Nat.le_refl _ | (dsimp only; omega) | (simp only [wsz]; omega))) | (with_reducible refine Ext.trans ?_ (by with_reducible assumption))))⟩ hL).mono ?_
  rintro e w1 ⟨r, rfl, ⟨A1, c1, rfl, h1⟩, hx⟩
  have hc := hx.cells
  (have hs := Ext.size hx; (try simp only [wsz] at hs))
  have l0 : w.heap.size < w1.heap.size := by omega
  generalize cz z.v = y at *
  obtain ⟨n, l⟩ := z
  obtain ⟨m, k⟩ := y
  by_cases hn : m = n
  · subst hn
    by_cases hl : k.length = l.length
    · have i1 : (((k.length : Nat) : Int) == ((l.length : Nat) : Int)) = true := by rw [beq_iff_eq]; omega
      have Hl := Lib.hid hl
      clear hl
      go_wp2_with fail
      go_ret
      exact ⟨ret_bool (by rw [← hk.out]; simp [Hl.out]), (by repeat (first | with_reducible assumption | with_reducible exact Ext.refl _ | with_reducible refine Ext.drewN ?_ _ | with_reducible refine Ext.drew ?_ | with_reducible refine Ext.alloc ?_ _ | (with_reducible refine Ext.setCell ?_ ?_ _; rotate_left; (first | exact Nat.le_refl _ | (dsimp only; omega) | (simp only [wsz]; omega))) | (with_reducible refine Ext.trans ?_ (by with_reducible assumption))))⟩
    · have i1 : (((k.length : Nat) : Int) == ((l.length : Nat) : Int)) = false := beq_eq_false_iff_ne.2 (by omega)
      go_wp2_with fail
      go_ret
      exact ⟨ret_bool (by rw [← hk.out]; simp [hl]), (by repeat (first | with_reducible assumption | with_reducible exact Ext.refl _ | with_reducible refine Ext.drewN ?_ _ | with_reducible refine Ext.drew ?_ | with_reducible refine Ext.alloc ?_ _ | (with_reducible refine Ext.setCell ?_ ?_ _; rotate_left; (first | exact Nat.le_refl _ | (dsimp only; omega) | (simp only [wsz]; omega))) | (with_reducible refine Ext.trans ?_ (by with_reducible assumption))))⟩
  · have i1 : (m == n) = false := by simp [hn]
    go_wp2_with fail
    go_ret
    exact ⟨ret_bool (by rw [← hk.out]; simp [hn]), (by repeat (first | with_reducible assumption | with_reducible exact Ext.refl _ | with_reducible refine Ext.drewN ?_ _ | with_reducible refine Ext.drew ?_ | with_reducible refine Ext.alloc ?_ _ | (with_reducible refine Ext.setCell ?_ ?_ _; rotate_left; (first | exact Nat.le_refl _ | (dsimp only; omega) | (simp only [wsz]; omega))) | (with_reducible refine Ext.trans ?_ (by with_reducible assumption))))⟩

set_option maxHeartbeats 400000 in
theorem rsign_c {v : Value} {z : Z} {w : World} {X : Nat → Prop} (h : Zi w X v z) (hL : z.mag.length ≤ 4398046511104) :
    Calls Tryz.prog 55 #[v] w fun e w' => e = .returned (.int .i64 (sgn z.v)) ∧ Ext w w' := by
  obtain ⟨A, c, rfl, h⟩ := h
  go_enter Tryz.func55, Tryz.ntmps55
  go_wp2_with fail
  refine (rnorm_c ⟨A, c, rfl, h.ext (by repeat (first | with_reducible assumption | with_reducible exact Ext.refl _ | with_reducible refine Ext.drewN ?_ _ | with_reducible refine Ext.drew ?_ | with_reducible refine Ext.alloc ?_ _ | (with_reducible refine Ext.setCell ?_ ?_ _; rotate_left; (first | exact Nat.le_refl _ | (dsimp only; omega) | (simp only [wsz]; omega))) | (with_reducible refine Ext.trans ?_ (by with_reducible assumption))))⟩ hL).mono ?_
  rintro e w1 ⟨r, rfl, ⟨A1, c1, rfl, h1⟩, hx⟩
  have hc := hx.cells
  (have hs := Ext.size hx; (try simp only [wsz] at hs))
  have hz := lim_len_pos z.v.natAbs
  have hlen := cz_len z.v
  unfold zl at hlen
  rcases Int.lt_trichotomy z.v 0 with h0 | h0 | h0
  · have e0 : sgn z.v = -1 := cmpI_lt h0
    have e1 : (cz z.v).neg = true := by simp [cz, h0]
    have i1 : ((((cz z.v).mag.length : Nat) : Int) == 0) = false := beq_eq_false_iff_ne.2 (by omega)
    have E0 := Lib.hid e0
    clear hlen hz e0
    go_wp2_with fail
    go_ret
    exact ⟨ret_int E0.out.symm, (by repeat (first | with_reducible assumption | with_reducible exact Ext.refl _ | with_reducible refine Ext.drewN ?_ _ | with_reducible refine Ext.drew ?_ | with_reducible refine Ext.alloc ?_ _ | (with_reducible refine Ext.setCell ?_ ?_ _; rotate_left; (first | exact Nat.le_refl _ | (dsimp only; omega) | (simp only [wsz]; omega))) | (with_reducible refine Ext.trans ?_ (by with_reducible assumption))))⟩
  · have e0 : sgn z.v = 0 := cmpI_eq h0
    have i1 : ((((cz z.v).mag.length : Nat) : Int) == 0) = true := by rw [beq_iff_eq, hlen, h0]; rfl
    have E0 := Lib.hid e0
    clear hlen hz e0 h0
    go_wp2_with fail
    go_ret
    exact ⟨ret_int E0.out.symm, (by repeat (first | with_reducible assumption | with_reducible exact Ext.refl _ | with_reducible refine Ext.drewN ?_ _ | with_reducible refine Ext.drew ?_ | with_reducible refine Ext.alloc ?_ _ | (with_reducible refine Ext.setCell ?_ ?_ _; rotate_left; (first | exact Nat.le_refl _ | (dsimp only; omega) | (simp only [wsz]; omega))) | (with_reducible refine Ext.trans ?_ (by with_reducible assumption))))⟩
  · have e0 : sgn z.v = 1 := cmpI_gt h0
    have e1 : (cz z.v).neg = false := by simp [cz]; omega
    have i1 : ((((cz z.v).mag.length : Nat) : Int) == 0) = false := beq_eq_false_iff_ne.2 (by omega)
    have E0 := Lib.hid e0
    clear hlen hz e0
    go_wp2_with fail
    go_ret
    exact ⟨ret_int E0.out.symm, (by repeat (first | with_reducible assumption | with_reducible exact Ext.refl _ | with_reducible refine Ext.drewN ?_ _ | with_reducible refine Ext.drew ?_ | with_reducible refine Ext.alloc ?_ _ | (with_reducible refine Ext.setCell ?_ ?_ _; rotate_left; (first | exact Nat.le_refl _ | (dsimp only; omega) | (simp only [wsz]; omega))) | (with_reducible refine Ext.trans ?_ (by with_reducible assumption))))⟩

set_option maxHeartbeats 800000 in
theorem rcmpz_c {u v : Value} {x y : Z} {w : World} {X Y : Nat → Prop} (hx : Zi w X u x) (hy : Zi w Y v y) (hLx : x.mag.length ≤ 4398046511104) (hLy : y.mag.length ≤ 4398046511104) :
    Calls Tryz.prog 81 #[u, v] w fun e w' => e = .returned (.int .i64 (cmpI x.v y.v)) ∧ Ext w w' := by
  obtain ⟨A, c, rfl, h1⟩ := hx
  obtain ⟨B, d, rfl, h2⟩ := hy
  have hs1 := fun (W : World) (h : Nl W X A c x.mag) => rsign_c (v := .agg #[.bool x.neg, .slice A x.mag.length c]) (z := x) ⟨A, c, rfl, h⟩ hLx
  have hs2 := fun (W : World) (h : Nl W Y B d y.mag) => rsign_c (v := .agg #[.bool y.neg, .slice B y.mag.length d]) (z := y) ⟨B, d, rfl, h⟩ hLy
  have hlt := @sgn_lt x.v y.v
  have hgt := @sgn_lt y.v x.v
  have heq := @cmp_mags x y
  have b1 := sgn_bd x.v
  have b2 := sgn_bd y.v
  generalize sgn x.v = s at *
  generalize sgn y.v = t at *
  have Hs1 := Lib.hid hs1; have Hs2 := Lib.hid hs2; have Hlt := Lib.hid hlt; have Hgt := Lib.hid hgt; have Heq := Lib.hid heq
  clear hs1 hs2 hlt hgt heq
  obtain ⟨b1, b1'⟩ := b1
  obtain ⟨b2, b2'⟩ := b2
  go_enter Tryz.func81, Tryz.ntmps81
  go_wp2_with fail
  refine (Hs1.out _ (h1.ext (by repeat (first | with_reducible assumption | with_reducible exact Ext.refl _ | with_reducible refine Ext.drewN ?_ _ | with_reducible refine Ext.drew ?_ | with_reducible refine Ext.alloc ?_ _ | (with_reducible refine Ext.setCell ?_ ?_ _; rotate_left; (first | exact Nat.le_refl _ | (dsimp only; omega) | (simp only [wsz]; omega))) | (with_reducible refine Ext.trans ?_ (by with_reducible assumption)))))).mono ?_
  rintro e w1 ⟨rfl, hx⟩
  have hc := hx.cells
  go_wp2_with fail
  refine (Hs2.out _ (h2.ext (by repeat (first | with_reducible assumption | with_reducible exact Ext.refl _ | with_reducible refine Ext.drewN ?_ _ | with_reducible refine Ext.drew ?_ | with_reducible refine Ext.alloc ?_ _ | (with_reducible refine Ext.setCell ?_ ?_ _; rotate_left; (first | exact Nat.le_refl _ | (dsimp only; omega) | (simp only [wsz]; omega))) | (with_reducible refine Ext.trans ?_ (by with_reducible assumption)))))).mono ?_
  rintro e w2 ⟨rfl, hx2⟩
  (replace hx := Ext.trans hx hx2; clear hx2; have hc2 := Ext.cells hx)
  have hw : ∀ W, Ext w2 W → Ext w W := fun W h => Ext.trans (by repeat (first | with_reducible assumption | with_reducible exact Ext.refl _ | with_reducible refine Ext.drewN ?_ _ | with_reducible refine Ext.drew ?_ | with_reducible refine Ext.alloc ?_ _ | (with_reducible refine Ext.setCell ?_ ?_ _; rotate_left; (first | exact Nat.le_refl _ | (dsimp only; omega) | (simp only [wsz]; omega))) | (with_reducible refine Ext.trans ?_ (by with_reducible assumption)))) h
  rcases Int.lt_trichotomy s t with hst | hst | hst
  · have hne : (s != t) = true := by rw [bne_iff_ne]; omega
    have hcm := Lib.hid (cmpI_lt (Hlt.out hst))
    go_wp2_with fail
    go_ret
    exact ⟨ret_int (by rw [hcm.out] <;> omega), hw _ (by repeat (first | with_reducible assumption | with_reducible exact Ext.refl _ | with_reducible refine Ext.drewN ?_ _ | with_reducible refine Ext.drew ?_ | with_reducible refine Ext.alloc ?_ _ | (with_reducible refine Ext.setCell ?_ ?_ _; rotate_left; (first | exact Nat.le_refl _ | (dsimp only; omega) | (simp only [wsz]; omega))) | (with_reducible refine Ext.trans ?_ (by with_reducible assumption))))⟩
  · have hne : (s != t) = false := by simp [hst]
    have Hst := Lib.hid hst
    clear hst
    go_wp2_with fail
    refine (rcmp_c (h1.ext (hw _ (by repeat (first | with_reducible assumption | with_reducible exact Ext.refl _ | with_reducible refine Ext.drewN ?_ _ | with_reducible refine Ext.drew ?_ | with_reducible refine Ext.alloc ?_ _ | (with_reducible refine Ext.setCell ?_ ?_ _; rotate_left; (first | exact Nat.le_refl _ | (dsimp only; omega) | (simp only [wsz]; omega))) | (with_reducible refine Ext.trans ?_ (by with_reducible assumption)))))) (h2.ext (hw _ (by repeat (first | with_reducible assumption | with_reducible exact Ext.refl _ | with_reducible refine Ext.drewN ?_ _ | with_reducible refine Ext.drew ?_ | with_reducible refine Ext.alloc ?_ _ | (with_reducible refine Ext.setCell ?_ ?_ _; rotate_left; (first | exact Nat.le_refl _ | (dsimp only; omega) | (simp only [wsz]; omega))) | (with_reducible refine Ext.trans ?_ (by with_reducible assumption)))))) (by omega) (by omega)).mono ?_
    rintro e w3 ⟨rfl, rfl⟩
    have hbd := cmpN_I (nv x.mag) (nv y.mag)
    have hbd2 := cmpI_bd (nv x.mag) (nv y.mag)
    have hsw : cmpN (nv y.mag) (nv x.mag) = -cmpN (nv x.mag) (nv y.mag) := by rw [cmpN_I, cmpN_I]; exact cmpI_swap _ _
    rw [← hbd] at hbd2
    clear hbd
    generalize cmpN (nv x.mag) (nv y.mag) = q at *
    obtain ⟨q1, q2⟩ := hbd2
    have Hsw := Lib.hid hsw
    clear hsw
    by_cases h0 : s < 0
    · have hcm := Lib.hid ((Heq.out Hst.out).1 h0)
      go_wp2_with fail
      go_ret
      exact ⟨ret_int (by rw [hcm.out, Hsw.out]), hw _ (by repeat (first | with_reducible assumption | with_reducible exact Ext.refl _ | with_reducible refine Ext.drewN ?_ _ | with_reducible refine Ext.drew ?_ | with_reducible refine Ext.alloc ?_ _ | (with_reducible refine Ext.setCell ?_ ?_ _; rotate_left; (first | exact Nat.le_refl _ | (dsimp only; omega) | (simp only [wsz]; omega))) | (with_reducible refine Ext.trans ?_ (by with_reducible assumption))))⟩
    · have hcm := Lib.hid ((Heq.out Hst.out).2 (by omega))
      go_wp2_with fail
      go_ret
      exact ⟨ret_int hcm.out.symm, hw _ (by repeat (first | with_reducible assumption | with_reducible exact Ext.refl _ | with_reducible refine Ext.drewN ?_ _ | with_reducible refine Ext.drew ?_ | with_reducible refine Ext.alloc ?_ _ | (with_reducible refine Ext.setCell ?_ ?_ _; rotate_left; (first | exact Nat.le_refl _ | (dsimp only; omega) | (simp only [wsz]; omega))) | (with_reducible refine Ext.trans ?_ (by with_reducible assumption))))⟩
  · have hne : (s != t) = true := by rw [bne_iff_ne]; omega
    have hcm := Lib.hid (cmpI_gt (Hgt.out hst))
    have hnl : ¬ s < t := by omega
    go_wp2_with fail
    go_ret
    exact ⟨ret_int (by rw [hcm.out] <;> omega), hw _ (by repeat (first | with_reducible assumption | with_reducible exact Ext.refl _ | with_reducible refine Ext.drewN ?_ _ | with_reducible refine Ext.drew ?_ | with_reducible refine Ext.alloc ?_ _ | (with_reducible refine Ext.setCell ?_ ?_ _; rotate_left; (first | exact Nat.le_refl _ | (dsimp only; omega) | (simp only [wsz]; omega))) | (with_reducible refine Ext.trans ?_ (by with_reducible assumption))))⟩

set_option maxHeartbeats 400000 in
theorem rsame_c {u v : Value} {x y : Z} {w : World} {X Y : Nat → Prop} (hx : Zi w X u x) (hy : Zi w Y v y) (hLx : x.mag.length ≤ 4398046511104) (hLy : y.mag.length ≤ 4398046511104) :
    Calls Tryz.prog 109 #[u, v] w fun e w' => e = .returned (.bool (decide (x.v = y.v))) ∧ Ext w w' := by
  obtain ⟨A, c, rfl, h1⟩ := hx
  obtain ⟨B, d, rfl, h2⟩ := hy
  go_enter Tryz.func109, Tryz.ntmps109
  go_wp2_with fail
  refine (rcmpz_c ⟨A, c, rfl, h1.ext (by repeat (first | with_reducible assumption | with_reducible exact Ext.refl _ | with_reducible refine Ext.drewN ?_ _ | with_reducible refine Ext.drew ?_ | with_reducible refine Ext.alloc ?_ _ | (with_reducible refine Ext.setCell ?_ ?_ _; rotate_left; (first | exact Nat.le_refl _ | (dsimp only; omega) | (simp only [wsz]; omega))) | (with_reducible refine Ext.trans ?_ (by with_reducible assumption))))⟩ ⟨B, d, rfl, h2.ext (by repeat (first | with_reducible assumption | with_reducible exact Ext.refl _ | with_reducible refine Ext.drewN ?_ _ | with_reducible refine Ext.drew ?_ | with_reducible refine Ext.alloc ?_ _ | (with_reducible refine Ext.setCell ?_ ?_ _; rotate_left; (first | exact Nat.le_refl _ | (dsimp only; omega) | (simp only [wsz]; omega))) | (with_reducible refine Ext.trans ?_ (by with_reducible assumption))))⟩ hLx hLy).mono ?_
  rintro e w1 ⟨rfl, hx⟩
  go_wp2_with fail
  go_ret
  refine ⟨ret_bool ?_, (by repeat (first | with_reducible assumption | with_reducible exact Ext.refl _ | with_reducible refine Ext.drewN ?_ _ | with_reducible refine Ext.drew ?_ | with_reducible refine Ext.alloc ?_ _ | (with_reducible refine Ext.setCell ?_ ?_ _; rotate_left; (first | exact Nat.le_refl _ | (dsimp only; omega) | (simp only [wsz]; omega))) | (with_reducible refine Ext.trans ?_ (by with_reducible assumption))))⟩
  rw [Bool.eq_iff_iff]
  simp [cmpI_zero]

set_option maxHeartbeats 400000 in
theorem ris_c {u v : Value} {x y : Z} {w : World} {X Y : Nat → Prop} (hx : Zi w X u x) (hy : Zi w Y v y) (hLx : x.mag.length ≤ 4398046511104) (hLy : y.mag.length ≤ 4398046511104) :
    Calls Tryz.prog 65 #[u, v] w fun e w' => e = .returned (.bool (x.ok && decide (x.v = y.v))) ∧ Ext w w' := by
  obtain ⟨A, c, rfl, h1⟩ := hx
  obtain ⟨B, d, rfl, h2⟩ := hy
  go_enter Tryz.func65, Tryz.ntmps65
  go_wp2_with fail
  refine (rvalid_c ⟨A, c, rfl, h1.ext (by repeat (first | with_reducible assumption | with_reducible exact Ext.refl _ | with_reducible refine Ext.drewN ?_ _ | with_reducible refine Ext.drew ?_ | with_reducible refine Ext.alloc ?_ _ | (with_reducible refine Ext.setCell ?_ ?_ _; rotate_left; (first | exact Nat.le_refl _ | (dsimp only; omega) | (simp only [wsz]; omega))) | (with_reducible refine Ext.trans ?_ (by with_reducible assumption))))⟩ hLx).mono ?_
  rintro e w1 ⟨rfl, hx⟩
  have hc := hx.cells
  go_wp2_with fail
  refine (rsame_c ⟨A, c, rfl, h1.ext (by repeat (first | with_reducible assumption | with_reducible exact Ext.refl _ | with_reducible refine Ext.drewN ?_ _ | with_reducible refine Ext.drew ?_ | with_reducible refine Ext.alloc ?_ _ | (with_reducible refine Ext.setCell ?_ ?_ _; rotate_left; (first | exact Nat.le_refl _ | (dsimp only; omega) | (simp only [wsz]; omega))) | (with_reducible refine Ext.trans ?_ (by with_reducible assumption))))⟩ ⟨B, d, rfl, h2.ext (by repeat (first | with_reducible assumption | with_reducible exact Ext.refl _ | with_reducible refine Ext.drewN ?_ _ | with_reducible refine Ext.drew ?_ | with_reducible refine Ext.alloc ?_ _ | (with_reducible refine Ext.setCell ?_ ?_ _; rotate_left; (first | exact Nat.le_refl _ | (dsimp only; omega) | (simp only [wsz]; omega))) | (with_reducible refine Ext.trans ?_ (by with_reducible assumption))))⟩ hLx hLy).mono ?_
  rintro e w2 ⟨rfl, hx2⟩
  have hw := hx.trans hx2
  clear hc
  cases hok : x.ok
  · go_wp2_with fail
    go_ret
    exact ⟨ret_bool (by simp [hok]), (by repeat (first | with_reducible assumption | with_reducible exact Ext.refl _ | with_reducible refine Ext.drewN ?_ _ | with_reducible refine Ext.drew ?_ | with_reducible refine Ext.alloc ?_ _ | (with_reducible refine Ext.setCell ?_ ?_ _; rotate_left; (first | exact Nat.le_refl _ | (dsimp only; omega) | (simp only [wsz]; omega))) | (with_reducible refine Ext.trans ?_ (by with_reducible assumption))))⟩
  · go_wp2_with fail
    go_ret
    exact ⟨ret_bool (by simp [hok]), (by repeat (first | with_reducible assumption | with_reducible exact Ext.refl _ | with_reducible refine Ext.drewN ?_ _ | with_reducible refine Ext.drew ?_ | with_reducible refine Ext.alloc ?_ _ | (with_reducible refine Ext.setCell ?_ ?_ _; rotate_left; (first | exact Nat.le_refl _ | (dsimp only; omega) | (simp only [wsz]; omega))) | (with_reducible refine Ext.trans ?_ (by with_reducible assumption))))⟩

set_option maxHeartbeats 800000 in
theorem rmulz_c {u v : Value} {x y : Z} {w : World} {X Y : Nat → Prop} (hx : Zi w X u x) (hy : Zi w Y v y) (hLx : x.mag.length ≤ 549755813888) (hLy : y.mag.length ≤ 549755813888) :
    Calls Tryz.prog 121 #[u, v] w fun e w' => ∃ r, e = .returned r ∧ Zi w' (w.heap.size ≤ ·) r (cz (x.v * y.v)) ∧ Ext w w' := by
  obtain ⟨A, c, rfl, h1⟩ := hx
  obtain ⟨B, d, rfl, h2⟩ := hy
  obtain ⟨nx, a⟩ := x
  obtain ⟨ny, b⟩ := y
  rw [← v_mul]
  have hlen : (lim (nv a * nv b)).length ≤ 4398046511104 := by
    have := zl_mul (nv a) (nv b)
    unfold zl at this
    rw [Int.natAbs_mul, Int.natAbs_natCast, Int.natAbs_natCast] at this
    have h3 : (lim (nv a)).length ≤ a.length := lim_len_le h1.lb
    have h4 : (lim (nv b)).length ≤ b.length := lim_len_le h2.lb
    simp only at hLx hLy
    omega
  go_enter Tryz.func121, Tryz.ntmps121
  go_wp2_with fail
  refine wp_region_seq 12 [(0, true), (1, true), (2, true), (3, true), (4, true), (5, true), (6, true), (7, true), (8, true), (9, false), (10, true), (11, false), (12, false)] rfl (by kernel_rfl) (by intro _ _ d _ _ h; cases d <;> exact h) ?_
  (repeat (refine sq_take (v := ?_) rfl rfl ?_ ?_; rotate_left; (intro w' hx'; have hc' := hx'.cells.1; (try simp only [wcd] at hc'); go_simp; (first | done | with_reducible rfl)); (try simp only [Act.put, List.setIfInBounds_toArray, List.set_cons_zero, List.set_cons_succ])))
  (refine sq_loud rfl rfl fun K hK => ?_; go_simp)
  refine (rmul_c (h1.ext (by repeat (first | with_reducible assumption | with_reducible exact Ext.refl _ | with_reducible refine Ext.drewN ?_ _ | with_reducible refine Ext.drew ?_ | with_reducible refine Ext.alloc ?_ _ | (with_reducible refine Ext.setCell ?_ ?_ _; rotate_left; (first | exact Nat.le_refl _ | (dsimp only; omega) | (simp only [wsz]; omega))) | (with_reducible refine Ext.trans ?_ (by with_reducible assumption))))) (h2.ext (by repeat (first | with_reducible assumption | with_reducible exact Ext.refl _ | with_reducible refine Ext.drewN ?_ _ | with_reducible refine Ext.drew ?_ | with_reducible refine Ext.alloc ?_ _ | (with_reducible refine Ext.setCell ?_ ?_ _; rotate_left; (first | exact Nat.le_refl _ | (dsimp only; omega) | (simp only [wsz]; omega))) | (with_reducible refine Ext.trans ?_ (by with_reducible assumption))))) hLx hLy).mono ?_
  rintro e w1 ⟨A1, c1, rfl, h3, hx⟩
  (refine hK _ _ (by repeat (first | with_reducible assumption | with_reducible exact Ext.refl _ | with_reducible refine Ext.drewN ?_ _ | with_reducible refine Ext.drew ?_ | with_reducible refine Ext.alloc ?_ _ | (with_reducible refine Ext.setCell ?_ ?_ _; rotate_left; (first | exact Nat.le_refl _ | (dsimp only; omega) | (simp only [wsz]; omega))) | (with_reducible refine Ext.trans ?_ (by with_reducible assumption)))) ?_; clear hK K; (try simp only [Act.put, List.setIfInBounds_toArray, List.set_cons_zero, List.set_cons_succ]))
  (repeat (refine sq_take (v := ?_) rfl rfl ?_ ?_; rotate_left; (intro w' hx'; have hc' := hx'.cells.1; (try simp only [wcd] at hc'); go_simp; (first | done | with_reducible rfl)); (try simp only [Act.put, List.setIfInBounds_toArray, List.set_cons_zero, List.set_cons_succ])))
  (refine sq_loud rfl rfl fun K hK => ?_; go_simp)
  refine (rnorm_c (z := ⟨!(nx == ny), lim (nv a * nv b)⟩) ⟨A1, c1, rfl, h3⟩ hlen).mono ?_
  rintro e w2 ⟨r, rfl, ⟨A2, c2, rfl, h4⟩, hx2⟩
  (refine hK _ _ (by repeat (first | with_reducible assumption | with_reducible exact Ext.refl _ | with_reducible refine Ext.drewN ?_ _ | with_reducible refine Ext.drew ?_ | with_reducible refine Ext.alloc ?_ _ | (with_reducible refine Ext.setCell ?_ ?_ _; rotate_left; (first | exact Nat.le_refl _ | (dsimp only; omega) | (simp only [wsz]; omega))) | (with_reducible refine Ext.trans ?_ (by with_reducible assumption)))) ?_; clear hK K; (try simp only [Act.put, List.setIfInBounds_toArray, List.set_cons_zero, List.set_cons_succ]))
  (have hs := Ext.size hx; (try simp only [wsz] at hs))
  (replace hx := Ext.trans hx hx2; clear hx2; have hc := Ext.cells hx)
  (refine sq_last rfl rfl fun K hK => ?_; go_simp; refine hK _ _ ?_; clear hK K)
  go_wp2_with fail
  (refine bodyPost_ret (v := ?_) ?_ rfl ?_; rotate_left; (simp only [results, Tryz.results121]; go_simp; (first | done | with_reducible rfl)))
  exact ⟨_, rfl, ⟨A2, c2, rfl, (h4.keep (by repeat (first | with_reducible exact Kp.refl _ | with_reducible refine Kp.drewN ?_ _ | with_reducible refine Kp.drew ?_ | with_reducible refine Kp.alloc ?_ _ | (with_reducible refine Kp.setCell ?_ ?_ _; rotate_left; (first | (dsimp only; omega) | (simp only [wsz]; omega))) | (with_reducible exact Kp.of_ext (by with_reducible assumption)) | (with_reducible refine Kp.ext ?_ (by with_reducible assumption))))).widen (fun b hb _ => by first | omega | (dsimp only at hb ⊢; omega) | (dsimp only at hb; omega) | (simp only [wsz] at hb ⊢; omega) | (simp only [wsz] at hb; omega))⟩, (by repeat (first | with_reducible assumption | with_reducible exact Ext.refl _ | with_reducible refine Ext.drewN ?_ _ | with_reducible refine Ext.drew ?_ | with_reducible refine Ext.alloc ?_ _ | (with_reducible refine Ext.setCell ?_ ?_ _; rotate_left; (first | exact Nat.le_refl _ | (dsimp only; omega) | (simp only [wsz]; omega))) | (with_reducible refine Ext.trans ?_ (by with_reducible assumption))))⟩

set_option maxHeartbeats 1600000 in
theorem raddz_c {u v : Value} {x y : Z} {w : World} {X Y : Nat → Prop} (hx : Zi w X u x) (hy : Zi w Y v y) (hLx : x.mag.length ≤ 1099511627776) (hLy : y.mag.length ≤ 1099511627776) :
    Calls Tryz.prog 72 #[u, v] w fun e w' => ∃ r, e = .returned r ∧ Zi w' (w.heap.size ≤ ·) r (cz (x.v + y.v)) ∧ Ext w w' := by
  obtain ⟨A, c, rfl, h1⟩ := hx
  obtain ⟨B, d, rfl, h2⟩ := hy
  obtain ⟨nx, a⟩ := x
  obtain ⟨ny, b⟩ := y
  have ha : (lim (nv a)).length ≤ a.length := lim_len_le h1.lb
  have hb : (lim (nv b)).length ≤ b.length := lim_len_le h2.lb
  simp only at hLx hLy
  go_enter Tryz.func72, Tryz.ntmps72
  by_cases hn : nx = ny
  · subst hn
    have hlen : (lim (nv a + nv b)).length ≤ 4398046511104 := by
      have := zl_add (x := nv a) (y := nv b) (k := 1099511627776) (by unfold zl; rw [Int.natAbs_natCast]; omega) (by unfold zl; rw [Int.natAbs_natCast]; omega)
      unfold zl at this
      have e : ((nv a : Int) + nv b).natAbs = nv a + nv b := by omega
      rw [e] at this
      omega
    have e := Lib.hid (v_add_same nx a b)
    go_wp2_with fail
    refine wp_region_seq 9 [(0, true), (1, true), (2, true), (3, true), (4, true), (5, true), (6, false), (7, true), (8, false), (9, false)] rfl (by kernel_rfl) (by intro _ _ d _ _ h; cases d <;> exact h) ?_
    (repeat (refine sq_take (v := ?_) rfl rfl ?_ ?_; rotate_left; (intro w' hx'; have hc' := hx'.cells.1; (try simp only [wcd] at hc'); go_simp; (first | done | with_reducible rfl)); (try simp only [Act.put, List.setIfInBounds_toArray, List.set_cons_zero, List.set_cons_succ])))
    (refine sq_loud rfl rfl fun K hK => ?_; go_simp)
    refine (radd_c (h1.ext (by repeat (first | with_reducible assumption | with_reducible exact Ext.refl _ | with_reducible refine Ext.drewN ?_ _ | with_reducible refine Ext.drew ?_ | with_reducible refine Ext.alloc ?_ _ | (with_reducible refine Ext.setCell ?_ ?_ _; rotate_left; (first | exact Nat.le_refl _ | (dsimp only; omega) | (simp only [wsz]; omega))) | (with_reducible refine Ext.trans ?_ (by with_reducible assumption))))) (h2.ext (by repeat (first | with_reducible assumption | with_reducible exact Ext.refl _ | with_reducible refine Ext.drewN ?_ _ | with_reducible refine Ext.drew ?_ | with_reducible refine Ext.alloc ?_ _ | (with_reducible refine Ext.setCell ?_ ?_ _; rotate_left; (first | exact Nat.le_refl _ | (dsimp only; omega) | (simp only [wsz]; omega))) | (with_reducible refine Ext.trans ?_ (by with_reducible assumption))))) hLx hLy).mono ?_
    rintro e w1 ⟨A1, c1, rfl, h3, hx⟩
    (refine hK _ _ (by repeat (first | with_reducible assumption | with_reducible exact Ext.refl _ | with_reducible refine Ext.drewN ?_ _ | with_reducible refine Ext.drew ?_ | with_reducible refine Ext.alloc ?_ _ | (with_reducible refine Ext.setCell ?_ ?_ _; rotate_left; (first | exact Nat.le_refl _ | (dsimp only; omega) | (simp only [wsz]; omega))) | (with_reducible refine Ext.trans ?_ (by with_reducible assumption)))) ?_; clear hK K; (try simp only [Act.put, List.setIfInBounds_toArray, List.set_cons_zero, List.set_cons_succ]))
    (repeat (refine sq_take (v := ?_) rfl rfl ?_ ?_; rotate_left; (intro w' hx'; have hc' := hx'.cells.1; (try simp only [wcd] at hc'); go_simp; (first | done | with_reducible rfl)); (try simp only [Act.put, List.setIfInBounds_toArray, List.set_cons_zero, List.set_cons_succ])))
    (refine sq_loud rfl rfl fun K hK => ?_; go_simp)
    refine (rnorm_c (z := ⟨nx, lim (nv a + nv b)⟩) ⟨A1, c1, rfl, h3⟩ hlen).mono ?_
    rintro e w2 ⟨r, rfl, ⟨A2, c2, rfl, h4⟩, hx2⟩
    (refine hK _ _ (by repeat (first | with_reducible assumption | with_reducible exact Ext.refl _ | with_reducible refine Ext.drewN ?_ _ | with_reducible refine Ext.drew ?_ | with_reducible refine Ext.alloc ?_ _ | (with_reducible refine Ext.setCell ?_ ?_ _; rotate_left; (first | exact Nat.le_refl _ | (dsimp only; omega) | (simp only [wsz]; omega))) | (with_reducible refine Ext.trans ?_ (by with_reducible assumption)))) ?_; clear hK K; (try simp only [Act.put, List.setIfInBounds_toArray, List.set_cons_zero, List.set_cons_succ]))
    (have hs := Ext.size hx; (try simp only [wsz] at hs))
    (replace hx := Ext.trans hx hx2; clear hx2; have hc := Ext.cells hx)
    (refine sq_last rfl rfl fun K hK => ?_; go_simp; refine hK _ _ ?_; clear hK K)
    go_wp2_with fail
    (refine bodyPost_ret (v := ?_) ?_ rfl ?_; rotate_left; (simp only [results, Tryz.results72]; go_simp; (first | done | with_reducible rfl)))
    exact ⟨_, rfl, e.out ▸ ⟨A2, c2, rfl, (h4.keep (by repeat (first | with_reducible exact Kp.refl _ | with_reducible refine Kp.drewN ?_ _ | with_reducible refine Kp.drew ?_ | with_reducible refine Kp.alloc ?_ _ | (with_reducible refine Kp.setCell ?_ ?_ _; rotate_left; (first | (dsimp only; omega) | (simp only [wsz]; omega))) | (with_reducible exact Kp.of_ext (by with_reducible assumption)) | (with_reducible refine Kp.ext ?_ (by with_reducible assumption))))).widen (fun b hb _ => by first | omega | (dsimp only at hb ⊢; omega) | (dsimp only at hb; omega) | (simp only [wsz] at hb ⊢; omega) | (simp only [wsz] at hb; omega))⟩, (by repeat (first | with_reducible assumption | with_reducible exact Ext.refl _ | with_reducible refine Ext.drewN ?_ _ | with_reducible refine Ext.drew ?_ | with_reducible refine Ext.alloc ?_ _ | (with_reducible refine Ext.setCell ?_ ?_ _; rotate_left; (first | exact Nat.le_refl _ | (dsimp only; omega) | (simp only [wsz]; omega))) | (with_reducible refine Ext.trans ?_ (by with_reducible assumption))))⟩
  · have hne : (nx == ny) = false := by cases nx <;> cases ny <;> simp at hn ⊢
    go_wp2_with fail
    refine (rcmp_c (h1.ext (by repeat (first | with_reducible assumption | with_reducible exact Ext.refl _ | with_reducible refine Ext.drewN ?_ _ | with_reducible refine Ext.drew ?_ | with_reducible refine Ext.alloc ?_ _ | (with_reducible refine Ext.setCell ?_ ?_ _; rotate_left; (first | exact Nat.le_refl _ | (dsimp only; omega) | (simp only [wsz]; omega))) | (with_reducible refine Ext.trans ?_ (by with_reducible assumption))))) (h2.ext (by repeat (first | with_reducible assumption | with_reducible exact Ext.refl _ | with_reducible refine Ext.drewN ?_ _ | with_reducible refine Ext.drew ?_ | with_reducible refine Ext.alloc ?_ _ | (with_reducible refine Ext.setCell ?_ ?_ _; rotate_left; (first | exact Nat.le_refl _ | (dsimp only; omega) | (simp only [wsz]; omega))) | (with_reducible refine Ext.trans ?_ (by with_reducible assumption))))) (by omega) (by omega)).mono ?_
    rintro e w1 ⟨rfl, rfl⟩
    rcases Nat.lt_or_ge (nv a) (nv b) with hlt | hlt
    · have h0 : cmpN (nv a) (nv b) < 0 := by rw [cmpN_lt hlt]; omega
      have e := v_add_other ny nx b a (Ne.symm hn) (by omega)
      rw [Int.add_comm] at e
      have E := Lib.hid e; clear e
      have hlen : (lim (nv b - nv a)).length ≤ 4398046511104 := by
        have := lim_pw (n := nv b - nv a) (k := b.length) (by have := nv_lt h2.lb; omega)
        omega
      go_wp2_with fail
      refine wp_region_seq 9 [(0, true), (1, true), (2, true), (3, true), (4, true), (5, true), (6, false), (7, true), (8, false), (9, false)] rfl (by kernel_rfl) (by intro _ _ d _ _ h; cases d <;> exact h) ?_
      (repeat (refine sq_take (v := ?_) rfl rfl ?_ ?_; rotate_left; (intro w' hx'; have hc' := hx'.cells.1; (try simp only [wcd] at hc'); go_simp; (first | done | with_reducible rfl)); (try simp only [Act.put, List.setIfInBounds_toArray, List.set_cons_zero, List.set_cons_succ])))
      (refine sq_loud rfl rfl fun K hK => ?_; go_simp)
      refine (rsub_c (h2.ext (by repeat (first | with_reducible assumption | with_reducible exact Ext.refl _ | with_reducible refine Ext.drewN ?_ _ | with_reducible refine Ext.drew ?_ | with_reducible refine Ext.alloc ?_ _ | (with_reducible refine Ext.setCell ?_ ?_ _; rotate_left; (first | exact Nat.le_refl _ | (dsimp only; omega) | (simp only [wsz]; omega))) | (with_reducible refine Ext.trans ?_ (by with_reducible assumption))))) (h1.ext (by repeat (first | with_reducible assumption | with_reducible exact Ext.refl _ | with_reducible refine Ext.drewN ?_ _ | with_reducible refine Ext.drew ?_ | with_reducible refine Ext.alloc ?_ _ | (with_reducible refine Ext.setCell ?_ ?_ _; rotate_left; (first | exact Nat.le_refl _ | (dsimp only; omega) | (simp only [wsz]; omega))) | (with_reducible refine Ext.trans ?_ (by with_reducible assumption))))) (by omega) hLy).mono ?_
      rintro e w1 ⟨A1, c1, rfl, h3, hx⟩
      (refine hK _ _ (by repeat (first | with_reducible assumption | with_reducible exact Ext.refl _ | with_reducible refine Ext.drewN ?_ _ | with_reducible refine Ext.drew ?_ | with_reducible refine Ext.alloc ?_ _ | (with_reducible refine Ext.setCell ?_ ?_ _; rotate_left; (first | exact Nat.le_refl _ | (dsimp only; omega) | (simp only [wsz]; omega))) | (with_reducible refine Ext.trans ?_ (by with_reducible assumption)))) ?_; clear hK K; (try simp only [Act.put, List.setIfInBounds_toArray, List.set_cons_zero, List.set_cons_succ]))
      (repeat (refine sq_take (v := ?_) rfl rfl ?_ ?_; rotate_left; (intro w' hx'; have hc' := hx'.cells.1; (try simp only [wcd] at hc'); go_simp; (first | done | with_reducible rfl)); (try simp only [Act.put, List.setIfInBounds_toArray, List.set_cons_zero, List.set_cons_succ])))
      (refine sq_loud rfl rfl fun K hK => ?_; go_simp)
      refine (rnorm_c (z := ⟨ny, lim (nv b - nv a)⟩) ⟨A1, c1, rfl, h3⟩ hlen).mono ?_
      rintro e w2 ⟨r, rfl, ⟨A2, c2, rfl, h4⟩, hx2⟩
      (refine hK _ _ (by repeat (first | with_reducible assumption | with_reducible exact Ext.refl _ | with_reducible refine Ext.drewN ?_ _ | with_reducible refine Ext.drew ?_ | with_reducible refine Ext.alloc ?_ _ | (with_reducible refine Ext.setCell ?_ ?_ _; rotate_left; (first | exact Nat.le_refl _ | (dsimp only; omega) | (simp only [wsz]; omega))) | (with_reducible refine Ext.trans ?_ (by with_reducible assumption)))) ?_; clear hK K; (try simp only [Act.put, List.setIfInBounds_toArray, List.set_cons_zero, List.set_cons_succ]))
      (have hs := Ext.size hx; (try simp only [wsz] at hs))
      (replace hx := Ext.trans hx hx2; clear hx2; have hc := Ext.cells hx)
      (refine sq_last rfl rfl fun K hK => ?_; go_simp; refine hK _ _ ?_; clear hK K)
      go_wp2_with fail
      (refine bodyPost_ret (v := ?_) ?_ rfl ?_; rotate_left; (simp only [results, Tryz.results72]; go_simp; (first | done | with_reducible rfl)))
      exact ⟨_, rfl, E.out ▸ ⟨A2, c2, rfl, (h4.keep (by repeat (first | with_reducible exact Kp.refl _ | with_reducible refine Kp.drewN ?_ _ | with_reducible refine Kp.drew ?_ | with_reducible refine Kp.alloc ?_ _ | (with_reducible refine Kp.setCell ?_ ?_ _; rotate_left; (first | (dsimp only; omega) | (simp only [wsz]; omega))) | (with_reducible exact Kp.of_ext (by with_reducible assumption)) | (with_reducible refine Kp.ext ?_ (by with_reducible assumption))))).widen (fun b hb _ => by first | omega | (dsimp only at hb ⊢; omega) | (dsimp only at hb; omega) | (simp only [wsz] at hb ⊢; omega) | (simp only [wsz] at hb; omega))⟩, (by repeat (first | with_reducible assumption | with_reducible exact Ext.refl _ | with_reducible refine Ext.drewN ?_ _ | with_reducible refine Ext.drew ?_ | with_reducible refine Ext.alloc ?_ _ | (with_reducible refine Ext.setCell ?_ ?_ _; rotate_left; (first | exact Nat.le_refl _ | (dsimp only; omega) | (simp only [wsz]; omega))) | (with_reducible refine Ext.trans ?_ (by with_reducible assumption))))⟩
    · have h0 : ¬ cmpN (nv a) (nv b) < 0 := by unfold cmpN; rw [if_neg (by omega)]; split <;> omega
      have e := v_add_other nx ny a b hn hlt
      have E := Lib.hid e; clear e
      have hlen : (lim (nv a - nv b)).length ≤ 4398046511104 := by
        have := lim_pw (n := nv a - nv b) (k := a.length) (by have := nv_lt h1.lb; omega)
        omega
      go_wp2_with fail
      refine wp_region_seq 9 [(0, true), (1, true), (2, true), (3, true), (4, true), (5, true), (6, false), (7, true), (8, false), (9, false)] rfl (by kernel_rfl) (by intro _ _ d _ _ h; cases d <;> exact h) ?_
      (repeat (refine sq_take (v := ?_) rfl rfl ?_ ?_; rotate_left; (intro w' hx'; have hc' := hx'.cells.1; (try simp only [wcd] at hc'); go_simp; (first | done | with_reducible rfl)); (try simp only [Act.put, List.setIfInBounds_toArray, List.set_cons_zero, List.set_cons_succ])))
      (refine sq_loud rfl rfl fun K hK => ?_; go_simp)
      refine (rsub_c (h1.ext (by repeat (first | with_reducible assumption | with_reducible exact Ext.refl _ | with_reducible refine Ext.drewN ?_ _ | with_reducible refine Ext.drew ?_ | with_reducible refine Ext.alloc ?_ _ | (with_reducible refine Ext.setCell ?_ ?_ _; rotate_left; (first | exact Nat.le_refl _ | (dsimp only; omega) | (simp only [wsz]; omega))) | (with_reducible refine Ext.trans ?_ (by with_reducible assumption))))) (h2.ext (by repeat (first | with_reducible assumption | with_reducible exact Ext.refl _ | with_reducible refine Ext.drewN ?_ _ | with_reducible refine Ext.drew ?_ | with_reducible refine Ext.alloc ?_ _ | (with_reducible refine Ext.setCell ?_ ?_ _; rotate_left; (first | exact Nat.le_refl _ | (dsimp only; omega) | (simp only [wsz]; omega))) | (with_reducible refine Ext.trans ?_ (by with_reducible assumption))))) (by omega) hLx).mono ?_
      rintro e w1 ⟨A1, c1, rfl, h3, hx⟩
      (refine hK _ _ (by repeat (first | with_reducible assumption | with_reducible exact Ext.refl _ | with_reducible refine Ext.drewN ?_ _ | with_reducible refine Ext.drew ?_ | with_reducible refine Ext.alloc ?_ _ | (with_reducible refine Ext.setCell ?_ ?_ _; rotate_left; (first | exact Nat.le_refl _ | (dsimp only; omega) | (simp only [wsz]; omega))) | (with_reducible refine Ext.trans ?_ (by with_reducible assumption)))) ?_; clear hK K; (try simp only [Act.put, List.setIfInBounds_toArray, List.set_cons_zero, List.set_cons_succ]))
      (repeat (refine sq_take (v := ?_) rfl rfl ?_ ?_; rotate_left; (intro w' hx'; have hc' := hx'.cells.1; (try simp only [wcd] at hc'); go_simp; (first | done | with_reducible rfl)); (try simp only [Act.put, List.setIfInBounds_toArray, List.set_cons_zero, List.set_cons_succ])))
      (refine sq_loud rfl rfl fun K hK => ?_; go_simp)
      refine (rnorm_c (z := ⟨nx, lim (nv a - nv b)⟩) ⟨A1, c1, rfl, h3⟩ hlen).mono ?_
      rintro e w2 ⟨r, rfl, ⟨A2, c2, rfl, h4⟩, hx2⟩
      (refine hK _ _ (by repeat (first | with_reducible assumption | with_reducible exact Ext.refl _ | with_reducible refine Ext.drewN ?_ _ | with_reducible refine Ext.drew ?_ | with_reducible refine Ext.alloc ?_ _ | (with_reducible refine Ext.setCell ?_ ?_ _; rotate_left; (first | exact Nat.le_refl _ | (dsimp only; omega) | (simp only [wsz]; omega))) | (with_reducible refine Ext.trans ?_ (by with_reducible assumption)))) ?_; clear hK K; (try simp only [Act.put, List.setIfInBounds_toArray, List.set_cons_zero, List.set_cons_succ]))
      (have hs := Ext.size hx; (try simp only [wsz] at hs))
      (replace hx := Ext.trans hx hx2; clear hx2; have hc := Ext.cells hx)
      (refine sq_last rfl rfl fun K hK => ?_; go_simp; refine hK _ _ ?_; clear hK K)
      go_wp2_with fail
      (refine bodyPost_ret (v := ?_) ?_ rfl ?_; rotate_left; (simp only [results, Tryz.results72]; go_simp; (first | done | with_reducible rfl)))
      exact ⟨_, rfl, E.out ▸ ⟨A2, c2, rfl, (h4.keep (by repeat (first | with_reducible exact Kp.refl _ | with_reducible refine Kp.drewN ?_ _ | with_reducible refine Kp.drew ?_ | with_reducible refine Kp.alloc ?_ _ | (with_reducible refine Kp.setCell ?_ ?_ _; rotate_left; (first | (dsimp only; omega) | (simp only [wsz]; omega))) | (with_reducible exact Kp.of_ext (by with_reducible assumption)) | (with_reducible refine Kp.ext ?_ (by with_reducible assumption))))).widen (fun b hb _ => by first | omega | (dsimp only at hb ⊢; omega) | (dsimp only at hb; omega) | (simp only [wsz] at hb ⊢; omega) | (simp only [wsz] at hb; omega))⟩, (by repeat (first | with_reducible assumption | with_reducible exact Ext.refl _ | with_reducible refine Ext.drewN ?_ _ | with_reducible refine Ext.drew ?_ | with_reducible refine Ext.alloc ?_ _ | (with_reducible refine Ext.setCell ?_ ?_ _; rotate_left; (first | exact Nat.le_refl _ | (dsimp only; omega) | (simp only [wsz]; omega))) | (with_reducible refine Ext.trans ?_ (by with_reducible assumption))))⟩

set_option maxHeartbeats 400000 in
theorem rof_c (n : Int) (hn : -9223372036854775808 ≤ n) (hn2 : n ≤ 9223372036854775807) (w : World) :
    Calls Tryz.prog 71 #[.int .i64 n] w fun e w' => ∃ r, e = .returned r ∧ Zi w' (w.heap.size ≤ ·) r (cz n) ∧ Ext w w' := by
  by_cases h0 : n < 0
  · have e1 : -(n + 1) + 1 = ((n.natAbs : Nat) : Int) := by omega
    have e2 := u64_low n.natAbs (by omega)
    have e3 : nv [n.natAbs % 4294967296, n.natAbs / 4294967296] = n.natAbs := by simp only [nv]; omega
    have e4 : Z.v ⟨true, [n.natAbs % 4294967296, n.natAbs / 4294967296]⟩ = n := by unfold Z.v; rw [e3]; simp; omega
    have E1 := Lib.hid e1; have E2 := Lib.hid e2; have E4 := Lib.hid e4; clear e1 e2 e3 e4
    go_enter Tryz.func71, Tryz.ntmps71
    go_wp2_with fail
    have hr := rnorm_c (z := ⟨true, [n.natAbs % 4294967296, n.natAbs / 4294967296]⟩) ⟨_, _, rfl, Nl.lit2 (w.alloc (.cells #[.bool false, .slice none 0 0] 24)) (x := bits BinOp.and IntKind.u64 (-(n + 1) + 1) 4294967295 % 4294967296) (y := (-(n + 1) + 1) / 4294967296) (g := w.heap.size + 1) _ _ (by simp) (by rw [E1.out, E2.out]; omega) (by rw [E1.out]; omega) (by omega) (by omega)⟩ (by simp)
    refine hr.mono ?_
    rw [E4.out]
    clear hr
    rintro e w1 ⟨r, rfl, ⟨A1, c1, rfl, h1⟩, hx⟩
    have r1 := (Box.ext (Box.alloc (Box.new w _ _) _) hx).rules
    (have hs := Ext.size hx; (try simp only [wsz] at hs))
    go_wp2_with fail
    (refine bodyPost_ret (v := ?_) ?_ rfl ?_; rotate_left; (simp only [results, Tryz.results71]; go_simp; (first | done | with_reducible rfl)))
    exact ⟨_, rfl, ⟨A1, c1, rfl, (h1.keep (by repeat (first | with_reducible exact Kp.refl _ | with_reducible refine Kp.drewN ?_ _ | with_reducible refine Kp.drew ?_ | with_reducible refine Kp.alloc ?_ _ | (with_reducible refine Kp.setCell ?_ ?_ _; rotate_left; (first | (dsimp only; omega) | (simp only [wsz]; omega))) | (with_reducible exact Kp.of_ext (by with_reducible assumption)) | (with_reducible refine Kp.ext ?_ (by with_reducible assumption))))).widen (fun b hb _ => by first | omega | (dsimp only at hb ⊢; omega) | (dsimp only at hb; omega) | (simp only [wsz] at hb ⊢; omega) | (simp only [wsz] at hb; omega))⟩, (by repeat (first | with_reducible assumption | with_reducible exact Ext.refl _ | with_reducible refine Ext.drewN ?_ _ | with_reducible refine Ext.drew ?_ | with_reducible refine Ext.alloc ?_ _ | (with_reducible refine Ext.setCell ?_ ?_ _; rotate_left; (first | exact Nat.le_refl _ | (dsimp only; omega) | (simp only [wsz]; omega))) | (with_reducible refine Ext.trans ?_ (by with_reducible assumption))))⟩
  · obtain ⟨m, rfl⟩ := Int.eq_ofNat_of_zero_le (by omega : 0 ≤ n)
    have e2 := u64_low m (by omega)
    have e3 : nv [m % 4294967296, m / 4294967296] = m := by simp only [nv]; omega
    have e4 : Z.v ⟨false, [m % 4294967296, m / 4294967296]⟩ = (m : Int) := by unfold Z.v; rw [e3]; simp
    have E2 := Lib.hid e2; have E4 := Lib.hid e4; clear e2 e3 e4
    go_enter Tryz.func71, Tryz.ntmps71
    go_wp2_with fail
    have hr := rnorm_c (z := ⟨false, [m % 4294967296, m / 4294967296]⟩) ⟨_, _, rfl, Nl.lit2 (w.alloc (.cells #[.bool false, .slice none 0 0] 24)) (x := bits BinOp.and IntKind.u64 (m : Int) 4294967295 % 4294967296) (y := (m : Int) / 4294967296) (g := w.heap.size + 1) _ _ (by simp) (by rw [E2.out]; omega) (by omega) (by omega) (by omega)⟩ (by simp)
    refine hr.mono ?_
    rw [E4.out]
    clear hr
    rintro e w1 ⟨r, rfl, ⟨A1, c1, rfl, h1⟩, hx⟩
    have r1 := (Box.ext (Box.alloc (Box.new w _ _) _) hx).rules
    (have hs := Ext.size hx; (try simp only [wsz] at hs))
    go_wp2_with fail
    (refine bodyPost_ret (v := ?_) ?_ rfl ?_; rotate_left; (simp only [results, Tryz.results71]; go_simp; (first | done | with_reducible rfl)))
    exact ⟨_, rfl, ⟨A1, c1, rfl, (h1.keep (by repeat (first | with_reducible exact Kp.refl _ | with_reducible refine Kp.drewN ?_ _ | with_reducible refine Kp.drew ?_ | with_reducible refine Kp.alloc ?_ _ | (with_reducible refine Kp.setCell ?_ ?_ _; rotate_left; (first | (dsimp only; omega) | (simp only [wsz]; omega))) | (with_reducible exact Kp.of_ext (by with_reducible assumption)) | (with_reducible refine Kp.ext ?_ (by with_reducible assumption))))).widen (fun b hb _ => by first | omega | (dsimp only at hb ⊢; omega) | (dsimp only at hb; omega) | (simp only [wsz] at hb ⊢; omega) | (simp only [wsz] at hb; omega))⟩, (by repeat (first | with_reducible assumption | with_reducible exact Ext.refl _ | with_reducible refine Ext.drewN ?_ _ | with_reducible refine Ext.drew ?_ | with_reducible refine Ext.alloc ?_ _ | (with_reducible refine Ext.setCell ?_ ?_ _; rotate_left; (first | exact Nat.le_refl _ | (dsimp only; omega) | (simp only [wsz]; omega))) | (with_reducible refine Ext.trans ?_ (by with_reducible assumption))))⟩

end Go.Proofs.YthmjgbkakjpfkaaGreatDoor

namespace Go.Proofs.YthmjgbkakjpfkaaGreatDoor
open Go.RowKit

theorem sq_done {P : Program} {ops : Array Oper} {Q : Exit → Act → World → Prop} {L : Nat} {a : Act} {w : World} (h : Q .normal a w) : SeqW P ops Q L [] a w := h
/-- An int's bounds. -/
def i64 (x : Int) : Prop := -9223372036854775808 ≤ x ∧ x ≤ 9223372036854775807
theorem w64 {n : Int} (h : i64 n) : IntKind.i64.wrap n = n := by
  obtain ⟨h1, h2⟩ := h
  simp [IntKind.wrap, IntKind.bits, IntKind.signed]
  omega
theorem w64n {n : Nat} (h : n ≤ 9223372036854775807) : IntKind.i64.wrap (n : Int) = n := w64 ⟨by omega, by omega⟩

end Go.Proofs.YthmjgbkakjpfkaaGreatDoor

namespace Go.Proofs.YthmjgbkakjpfkaaGreatDoor
open Go.RowKit

/-- The cells of a part (and of a value: a variable's number). -/
def EP (w : World) (X : Nat → Prop) (cs : List Value) (p : Int × Z) : Prop := ∃ A c, cs = [.int .i64 p.1, .bool p.2.neg, .slice A p.2.mag.length c] ∧ i64 p.1 ∧ Nl w X A c p.2.mag
instance : Stab EP := ⟨fun ⟨A, c, h, i, k⟩ kp => ⟨A, c, h, i, k.keep kp⟩, fun ⟨A, c, h, i, k⟩ kp => ⟨A, c, h, i, k.widen kp⟩, fun ⟨A, c, h, _, _⟩ => by subst h; simp [Value.oneCell']⟩
/-- A slice of parts. -/
abbrev Pl (w : World) (X : Nat → Prop) (A : Option Addr) (c : Nat) (l : List (Int × Z)) : Prop := Sl 3 EP w X A c l
theorem Pl.keep {w w' : World} {X : Nat → Prop} {A : Option Addr} {c : Nat} {l : List (Int × Z)} (h : Pl w X A c l) (k : Kp X w w') : Pl w' X A c l := Sl.keep h k
theorem Pl.ext {w w' : World} {X : Nat → Prop} {A : Option Addr} {c : Nat} {l : List (Int × Z)} (h : Pl w X A c l) (k : Ext w w') : Pl w' X A c l := Sl.keep h (.of_ext k)
theorem Pl.widen {w : World} {X Y : Nat → Prop} {A : Option Addr} {c : Nat} {l : List (Int × Z)} (h : Pl w X A c l) (k : ∀ b, X b → b < w.heap.size → Y b) : Pl w Y A c l := Sl.widen h (by omega) k
theorem Pl.below {w : World} {X : Nat → Prop} {A : Option Addr} {c : Nat} {l : List (Int × Z)} (h : Pl w X A c l) : Pl w (· < w.heap.size) A c l := h.widen fun _ _ hb => hb
/-- The k-th part. -/
def pth (l : List (Int × Z)) (k : Nat) : Int × Z := l.getD k (0, ⟨false, []⟩)
theorem pth_eq (l : List (Int × Z)) (k : Nat) (h : k < l.length) : pth l k = l[k] := by simp [pth, h]
theorem pth_mem {l : List (Int × Z)} {k : Nat} (h : k < l.length) : pth l k ∈ l := by rw [pth_eq l k h]; exact List.getElem_mem h
theorem drop_pth (l : List (Int × Z)) (k : Nat) (h : k < l.length) : l.drop k = pth l k :: l.drop (k + 1) := by
  rw [pth_eq l k h]; exact List.drop_eq_getElem_cons h
theorem take_pth (l : List (Int × Z)) (k : Nat) (h : k < l.length) : l.take (k + 1) = l.take k ++ [pth l k] := by
  rw [pth_eq l k h]; exact List.take_succ_eq_append_getElem h
theorem Pl.at_ {w : World} {X : Nat → Prop} {A : Option Addr} {c : Nat} {l : List (Int × Z)} (h : Pl w X A c l) {k : Nat} (hk : k < l.length) :
    ∃ b o B d, A = some ⟨b, o, none⟩ ∧ X b ∧ w.cell? ⟨b, o + k * 3, none⟩ = some (.int .i64 (pth l k).1) ∧ w.cell? ⟨b, o + k * 3 + 1, none⟩ = some (.bool (pth l k).2.neg) ∧
      w.cell? ⟨b, o + k * 3 + 2, none⟩ = some (.slice B (pth l k).2.mag.length d) ∧ i64 (pth l k).1 ∧ Nl w X B d (pth l k).2.mag := by
  obtain ⟨b, o, hA, hX, hi⟩ := h.2.2.1 (by omega)
  obtain ⟨cs, _, hc, B, d, rfl, h1, h2⟩ := hi k hk
  rw [pth_eq l k hk]
  exact ⟨b, o, B, d, hA, hX, hc 0 (by simp), hc 1 (by simp), hc 2 (by simp), h1, h2⟩
theorem Pl.lb {w : World} {X : Nat → Prop} {A : Option Addr} {c : Nat} {l : List (Int × Z)} (h : Pl w X A c l) : ∀ p ∈ l, Lb p.2.mag := by
  intro p hp
  obtain ⟨k, hk, rfl⟩ := List.getElem_of_mem hp
  obtain ⟨_, _, _, _, _, _, _, _, _, _, h1⟩ := h.at_ hk
  rw [pth_eq l k hk] at h1
  exact h1.lb
theorem Pl.i64 {w : World} {X : Nat → Prop} {A : Option Addr} {c : Nat} {l : List (Int × Z)} (h : Pl w X A c l) : ∀ p ∈ l, i64 p.1 := by
  intro p hp
  obtain ⟨k, hk, rfl⟩ := List.getElem_of_mem hp
  obtain ⟨_, _, _, _, _, _, _, _, _, h1, _⟩ := h.at_ hk
  rw [pth_eq l k hk] at h1
  exact h1
/-- One part, written out. -/
theorem Pl.lit1 {w : World} {X : Nat → Prop} {g : Nat} {x : Int} {z : Z} {A : Option Addr} {c : Nat} (hg : g = w.heap.size) (hX : X g) (hi : Go.Proofs.YthmjgbkakjpfkaaGreatDoor.i64 x) (h : Nl w X A c z.mag) :
    Pl (w.alloc (.cells #[.int .i64 x, .bool z.neg, .slice A z.mag.length c] 37)) X (some ⟨g, 0, none⟩) 1 [(x, z)] :=
  Sl.of_flat (by simp) (by simp [maxLen]) (Thaw.new hg _ _) (Fl.one ⟨A, c, rfl, hi, h.keep ((Kp.refl w).alloc _)⟩ rfl) fun _ => ⟨_, _, rfl, hX, fun j u hu => by
    rw [World.cell?_alloc_at (hn := hg)]
    match j, hu with
    | 0, hu => simpa using hu
    | 1, hu => simpa using hu
    | 2, hu => simpa using hu⟩
/-- A term as a value. -/
def Tv (w : World) (X : Nat → Prop) (v : Value) (t : T) : Prop :=
  ∃ A c B d, v = .agg #[.slice A t.ps.length c, .bool t.k.neg, .slice B t.k.mag.length d] ∧ Pl w X A c t.ps ∧ Nl w X B d t.k.mag
theorem Tv.keep {w w' : World} {X : Nat → Prop} {v : Value} {t : T} (h : Tv w X v t) (k : Kp X w w') : Tv w' X v t := let ⟨A, c, B, d, e, h1, h2⟩ := h; ⟨A, c, B, d, e, h1.keep k, h2.keep k⟩
theorem Tv.ext {w w' : World} {X : Nat → Prop} {v : Value} {t : T} (h : Tv w X v t) (k : Ext w w') : Tv w' X v t := h.keep (.of_ext k)
theorem Tv.widen {w : World} {X Y : Nat → Prop} {v : Value} {t : T} (h : Tv w X v t) (k : ∀ b, X b → b < w.heap.size → Y b) : Tv w Y v t := let ⟨A, c, B, d, e, h1, h2⟩ := h; ⟨A, c, B, d, e, h1.widen k, h2.widen k⟩
theorem Tv.below {w : World} {X : Nat → Prop} {v : Value} {t : T} (h : Tv w X v t) : Tv w (· < w.heap.size) v t := h.widen fun _ _ hb => hb
theorem Tv.lb {w : World} {X : Nat → Prop} {v : Value} {t : T} (h : Tv w X v t) : t.lb := let ⟨_, _, _, _, _, h1, h2⟩ := h; ⟨h1.lb, h2.lb⟩
theorem ety_p : Ety Tryz.prog 25 37 3 40 (.agg #[.int .i64 0, .bool false, .slice none 0 0]) := ⟨Tryz.underlying25, by kernel_rfl, by simp [Value.cells], by omega⟩
/-- The variable before. -/
def prv (l : List (Int × Z)) : Nat → Option Int
  | 0 => none
  | k + 1 => some (pth l k).1

end Go.Proofs.YthmjgbkakjpfkaaGreatDoor
