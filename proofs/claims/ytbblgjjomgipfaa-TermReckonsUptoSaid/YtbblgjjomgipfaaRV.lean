/- riddleref05.Valid, Const, Var. No conditions. -/
import Derived.Test.YtbblgjjomgipfaaPart
import Derived.Test.YtbblgjjomgipfaaRef2
namespace Go.Proofs.Ytbblgjjomgipfaa
open Go.RowKit

set_option maxHeartbeats 1600000 in
theorem rvalid5_c {v : Value} {t : T} {w : World} {X : Nat → Prop} {N : Nat} (h : Tv w X v t) (hN : N ≤ 17179869184) (hs : t.sz N) :
    Calls Try.prog 16 #[v] w fun e w' => e = .returned (.bool t.valid) ∧ Ext w w' := by
  obtain ⟨A, c, B, d, rfl, h1, h2⟩ := h
  obtain ⟨s1, s2, s3⟩ := hs
  have hm := h1.2.1; have hl := h1.1
  simp only [maxLen] at hm
  obtain ⟨v, hv⟩ : ∃ v, v = t.valid := ⟨_, rfl⟩
  rw [← hv]
  have Hv := Lib.hid hv; clear hv
  go_enter Try.func16, Try.ntmps16
  go_wp2_with fail
  refine (rvalid_c (z := t.k) ⟨_, _, rfl, h2.ext (by repeat (first | with_reducible assumption | with_reducible exact Ext.refl _ | with_reducible refine Ext.drewN ?_ _ | with_reducible refine Ext.drew ?_ | with_reducible refine Ext.alloc ?_ _ | (with_reducible refine Ext.setCell ?_ ?_ _; rotate_left; (first | exact Nat.le_refl _ | (dsimp only; omega) | (simp only [wsz]; omega))) | (with_reducible refine Ext.trans ?_ (by with_reducible assumption))))⟩ (by omega)).mono ?_
  rintro e W ⟨rfl, hx0⟩
  (have hb0 := Box.ext (g := w.heap.size) (by repeat (first | with_reducible assumption | with_reducible exact Box.new _ _ _ | (with_reducible refine Box.new_at _ _ _ ?_; (simp only [wsz]; done)) | with_reducible refine Box.drewN ?_ _ | with_reducible refine Box.drew ?_ | with_reducible refine Box.alloc ?_ _ | with_reducible apply Box.drewN | with_reducible apply Box.drew | with_reducible apply Box.alloc | with_reducible refine Box.set_ ?_ _ _ | (with_reducible refine Box.far ?_ ?_ _; rotate_left; (simp only [ne_eq]; omega)) | (with_reducible refine Box.ext ?_ (by with_reducible assumption)) | (refine Box.new_at _ _ _ ?_; simp only [wsz]; done))) hx0; have hb0r := hb0.rules; have hb0l := hb0.lt)
  have hE : Ext w W := (by repeat (first | with_reducible assumption | with_reducible exact Ext.refl _ | with_reducible refine Ext.drewN ?_ _ | with_reducible refine Ext.drew ?_ | with_reducible refine Ext.alloc ?_ _ | (with_reducible refine Ext.setCell ?_ ?_ _; rotate_left; (first | exact Nat.le_refl _ | (dsimp only; omega) | (simp only [wsz]; omega))) | (with_reducible refine Ext.trans ?_ (by with_reducible assumption))))
  clear hx0 hb0r
  go_wp2_with fail
  go_loopw [4] (fun iv wr => ∃ k : Nat, k ≤ t.ps.length ∧ iv = .int .i64 k ∧ Hid (validF none t.ps = validF (prv t.ps k) (t.ps.drop k)) ∧ Ext W wr) (fun iv _ => t.ps.length - (intOf iv).toNat)
  case atStart => exact ⟨0, Nat.zero_le _, rfl, Lib.hid rfl, (by repeat (first | with_reducible assumption | with_reducible exact Ext.refl _ | with_reducible refine Ext.drewN ?_ _ | with_reducible refine Ext.drew ?_ | with_reducible refine Ext.alloc ?_ _ | (with_reducible refine Ext.setCell ?_ ?_ _; rotate_left; (first | exact Nat.le_refl _ | (dsimp only; omega) | (simp only [wsz]; omega))) | (with_reducible refine Ext.trans ?_ (by with_reducible assumption))))⟩
  case round =>
    obtain ⟨k, hk, rfl, Hz, hx⟩ := hrel
    have r0 := (hb0.ext hx).rules
    have r0l := (hb0.ext hx).lt
    by_cases hlt : k < t.ps.length
    · obtain ⟨b, o, B', d', rfl, hX, hc0, hc1, hc2, hi, hN0⟩ := (h1.ext (hE.trans hx)).at_ hlt
      have hb := World.block_lt_of_cell? _ _ hc0
      have Hd := Lib.hid (drop_pth t.ps k hlt)
      have kl : (k : Int) < (t.ps.length : Int) := by omega
      have kw := w64n (n := k) (by omega)
      have hsz := s2 _ (pth_mem hlt)
      go_wp2_with fail
      refine (rvalid_c (z := (pth t.ps k).2) ⟨_, _, rfl, hN0.ext (by repeat (first | with_reducible assumption | with_reducible exact Ext.refl _ | with_reducible refine Ext.drewN ?_ _ | with_reducible refine Ext.drew ?_ | with_reducible refine Ext.alloc ?_ _ | (with_reducible refine Ext.setCell ?_ ?_ _; rotate_left; (first | exact Nat.le_refl _ | (dsimp only; omega) | (simp only [wsz]; omega))) | (with_reducible refine Ext.trans ?_ (by with_reducible assumption))))⟩ (by omega)).mono ?_
      rintro e w1 ⟨rfl, hx1⟩
      have hc0' := (hx1.cells.1 b (o + k * 3) hb).trans hc0
      have hc1' := (hx1.cells.1 b (o + k * 3 + 1) hb).trans hc1
      have hc2' := (hx1.cells.1 b (o + k * 3 + 2) hb).trans hc2
      have hb1 := Nat.lt_of_lt_of_le hb hx1.size
      have r1 := ((hb0.ext hx).ext hx1).rules
      have r1l := ((hb0.ext hx).ext hx1).lt
      clear r0 hc1 hc2
      go_wp2_with fail
      refine (rsign_c (z := (pth t.ps k).2) ⟨_, _, rfl, hN0.ext (by repeat (first | with_reducible assumption | with_reducible exact Ext.refl _ | with_reducible refine Ext.drewN ?_ _ | with_reducible refine Ext.drew ?_ | with_reducible refine Ext.alloc ?_ _ | (with_reducible refine Ext.setCell ?_ ?_ _; rotate_left; (first | exact Nat.le_refl _ | (dsimp only; omega) | (simp only [wsz]; omega))) | (with_reducible refine Ext.trans ?_ (by with_reducible assumption))))⟩ (by omega)).mono ?_
      rintro e w2 ⟨rfl, hx2⟩
      have hc0'' := (hx2.cells.1 b (o + k * 3) hb1).trans hc0'
      have hb2 := Nat.lt_of_lt_of_le hb1 hx2.size
      have r2 := (((hb0.ext hx).ext hx1).ext hx2).rules
      have r2l := (((hb0.ext hx).ext hx1).ext hx2).lt
      have hx3 : Ext W w2 := hx.trans (hx1.trans hx2)
      clear r1 hc0' hc1' hc2'
      rcases hok : (pth t.ps k).2.ok with _ | _
      · have Hok := Lib.hid hok
        go_wp2_with fail
        refine wp_region_seq 26 [(0, true), (1, true), (2, true), (3, true), (4, true), (5, true), (6, true), (7, true), (8, true), (9, true), (10, true), (11, true), (12, true), (13, true), (14, true), (15, true), (16, true), (17, true), (18, true), (19, true), (20, true), (21, true), (22, true), (23, true), (24, true), (25, true)] rfl (by kernel_rfl) (by intro _ _ d _ _ h; cases d <;> exact h) ?_
        (repeat (first | (refine sq_take (v := ?_) rfl rfl ?_ ?_; rotate_left; (intro w' hx'; have hc' := hx'.cells.1; (try simp only [wcd] at hc'); go_simp; (first | done | with_reducible rfl)); (try simp only [Act.put, List.setIfInBounds_toArray, List.set_cons_zero, List.set_cons_succ])) | (refine sq_skip rfl rfl ?_; (try simp only [Act.put, List.setIfInBounds_toArray, List.set_cons_zero, List.set_cons_succ])) | (refine sq_noloud rfl rfl ?_; (try simp only [Act.put, List.setIfInBounds_toArray, List.set_cons_zero, List.set_cons_succ])) | (refine sq_takeg (v := ?_) rfl rfl ?_ ?_; rotate_left; (intro w' hx'; have hc' := hx'.cells.1; (try simp only [wcd] at hc'); go_simp; (first | done | with_reducible rfl)); (try simp only [Act.put, List.setIfInBounds_toArray, List.set_cons_zero, List.set_cons_succ]))))
        refine sq_done ?_
        go_wp2_with fail
        go_ret
        refine ⟨ret_bool ?_, hE.trans hx3.drew⟩
        rw [Hv.out, T.valid, Hz.out, Hd.out]
        simp [validF, Hok.out]
      · by_cases hz0 : (pth t.ps k).2.v = 0
        · have e0 : (sgn (pth t.ps k).2.v == 0) = true := by rw [hz0]; rfl
          have HZ := Lib.hid hz0; clear hz0
          go_wp2_with fail
          refine wp_region_seq 26 [(0, true), (1, true), (2, true), (3, true), (4, true), (5, true), (6, true), (7, true), (8, true), (9, true), (10, true), (11, true), (12, true), (13, true), (14, true), (15, true), (16, true), (17, true), (18, true), (19, true), (20, true), (21, true), (22, true), (23, true), (24, true), (25, true)] rfl (by kernel_rfl) (by intro _ _ d _ _ h; cases d <;> exact h) ?_
          (repeat (first | (refine sq_take (v := ?_) rfl rfl ?_ ?_; rotate_left; (intro w' hx'; have hc' := hx'.cells.1; (try simp only [wcd] at hc'); go_simp; (first | done | with_reducible rfl)); (try simp only [Act.put, List.setIfInBounds_toArray, List.set_cons_zero, List.set_cons_succ])) | (refine sq_skip rfl rfl ?_; (try simp only [Act.put, List.setIfInBounds_toArray, List.set_cons_zero, List.set_cons_succ])) | (refine sq_noloud rfl rfl ?_; (try simp only [Act.put, List.setIfInBounds_toArray, List.set_cons_zero, List.set_cons_succ])) | (refine sq_takeg (v := ?_) rfl rfl ?_ ?_; rotate_left; (intro w' hx'; have hc' := hx'.cells.1; (try simp only [wcd] at hc'); go_simp; (first | done | with_reducible rfl)); (try simp only [Act.put, List.setIfInBounds_toArray, List.set_cons_zero, List.set_cons_succ]))))
          refine sq_done ?_
          go_wp2_with fail
          go_ret
          refine ⟨ret_bool ?_, hE.trans hx3.drew⟩
          rw [Hv.out, T.valid, Hz.out, Hd.out]
          simp [validF, prv, HZ.out]
        · have e0 : (sgn (pth t.ps k).2.v == 0) = false := by rw [beq_eq_false_iff_ne]; exact fun h => hz0 (sgn_zero.1 h)
          cases k with
          | zero =>
            simp only [Nat.zero_mul, Nat.add_zero] at hc0 hc0''
            go_wp2_with fail
            refine wp_region_seq 26 [(0, true), (1, true), (2, true), (3, true), (4, true), (5, true), (6, true), (7, true), (8, true), (9, true), (10, true), (11, true), (12, true), (13, true), (14, true), (15, true), (16, true), (17, true), (18, true), (19, true), (20, true), (21, true), (22, true), (23, true), (24, true), (25, true)] rfl (by kernel_rfl) (by intro _ _ d _ _ h; cases d <;> exact h) ?_
            (repeat (first | (refine sq_take (v := ?_) rfl rfl ?_ ?_; rotate_left; (intro w' hx'; have hc' := hx'.cells.1; (try simp only [wcd] at hc'); go_simp; (first | done | with_reducible rfl)); (try simp only [Act.put, List.setIfInBounds_toArray, List.set_cons_zero, List.set_cons_succ])) | (refine sq_skip rfl rfl ?_; (try simp only [Act.put, List.setIfInBounds_toArray, List.set_cons_zero, List.set_cons_succ])) | (refine sq_noloud rfl rfl ?_; (try simp only [Act.put, List.setIfInBounds_toArray, List.set_cons_zero, List.set_cons_succ])) | (refine sq_takeg (v := ?_) rfl rfl ?_ ?_; rotate_left; (intro w' hx'; have hc' := hx'.cells.1; (try simp only [wcd] at hc'); go_simp; (first | done | with_reducible rfl)); (try simp only [Act.put, List.setIfInBounds_toArray, List.set_cons_zero, List.set_cons_succ]))))
            refine sq_done ?_
            go_wp2_with fail
            go_roundw
            case rel =>
              refine ⟨0 + 1, by omega, by go_num, Lib.hid ?_, hx3.drew⟩
              rw [Hz.out, Hd.out]
              simp [validF, prv, hok, hz0]
            case measure => simp [intOf] <;> omega
          | succ j =>
            obtain ⟨b', o', B2, d2, hA, _, hp0, _, _, hpi, _⟩ := (h1.ext (hE.trans hx3)).at_ (k := j) (by omega)
            injection hA with hA
            injection hA with hA1 hA2
            subst hA1; subst hA2
            have hwj := w64n (n := j) (by omega)
            have hjl : j < t.ps.length := by omega
            have hji : (j : Int) < (t.ps.length : Int) := by omega
            have hj0 : (0 : Int) < (j : Int) + 1 := by omega
            have hj1 : (0 : Int) ≤ (j : Int) + 1 := by omega
            have hj2 : (j : Int) + 1 < (t.ps.length : Int) := by omega
            have hj3 : IntKind.i64.wrap ((j : Int) + 1) = (j : Int) + 1 := w64 ⟨by omega, by omega⟩
            have hj4 : (j : Int) + 1 - 1 = (j : Int) := by omega
            by_cases hlt2 : (pth t.ps j).1 < (pth t.ps (j + 1)).1
            · have hlt3 : ¬ (pth t.ps (j + 1)).1 ≤ (pth t.ps j).1 := by omega
              go_wp2_with fail
              refine wp_region_seq 26 [(0, true), (1, true), (2, true), (3, true), (4, true), (5, true), (6, true), (7, true), (8, true), (9, true), (10, true), (11, true), (12, true), (13, true), (14, true), (15, true), (16, true), (17, true), (18, true), (19, true), (20, true), (21, true), (22, true), (23, true), (24, true), (25, true)] rfl (by kernel_rfl) (by intro _ _ d _ _ h; cases d <;> exact h) ?_
              (repeat (first | (refine sq_take (v := ?_) rfl rfl ?_ ?_; rotate_left; (intro w' hx'; have hc' := hx'.cells.1; (try simp only [wcd] at hc'); go_simp; (first | done | with_reducible rfl)); (try simp only [Act.put, List.setIfInBounds_toArray, List.set_cons_zero, List.set_cons_succ])) | (refine sq_skip rfl rfl ?_; (try simp only [Act.put, List.setIfInBounds_toArray, List.set_cons_zero, List.set_cons_succ])) | (refine sq_noloud rfl rfl ?_; (try simp only [Act.put, List.setIfInBounds_toArray, List.set_cons_zero, List.set_cons_succ])) | (refine sq_takeg (v := ?_) rfl rfl ?_ ?_; rotate_left; (intro w' hx'; have hc' := hx'.cells.1; (try simp only [wcd] at hc'); go_simp; (first | done | with_reducible rfl)); (try simp only [Act.put, List.setIfInBounds_toArray, List.set_cons_zero, List.set_cons_succ]))))
              refine sq_done ?_
              go_wp2_with fail
              go_roundw
              case rel =>
                refine ⟨j + 1 + 1, by omega, by go_num, Lib.hid ?_, hx3.drew⟩
                rw [Hz.out, Hd.out]
                simp [validF, prv, hok, hz0, hlt2]
              case measure => simp [intOf] <;> omega
            · have hlt3 : (pth t.ps (j + 1)).1 ≤ (pth t.ps j).1 := by omega
              go_wp2_with fail
              refine wp_region_seq 26 [(0, true), (1, true), (2, true), (3, true), (4, true), (5, true), (6, true), (7, true), (8, true), (9, true), (10, true), (11, true), (12, true), (13, true), (14, true), (15, true), (16, true), (17, true), (18, true), (19, true), (20, true), (21, true), (22, true), (23, true), (24, true), (25, true)] rfl (by kernel_rfl) (by intro _ _ d _ _ h; cases d <;> exact h) ?_
              (repeat (first | (refine sq_take (v := ?_) rfl rfl ?_ ?_; rotate_left; (intro w' hx'; have hc' := hx'.cells.1; (try simp only [wcd] at hc'); go_simp; (first | done | with_reducible rfl)); (try simp only [Act.put, List.setIfInBounds_toArray, List.set_cons_zero, List.set_cons_succ])) | (refine sq_skip rfl rfl ?_; (try simp only [Act.put, List.setIfInBounds_toArray, List.set_cons_zero, List.set_cons_succ])) | (refine sq_noloud rfl rfl ?_; (try simp only [Act.put, List.setIfInBounds_toArray, List.set_cons_zero, List.set_cons_succ])) | (refine sq_takeg (v := ?_) rfl rfl ?_ ?_; rotate_left; (intro w' hx'; have hc' := hx'.cells.1; (try simp only [wcd] at hc'); go_simp; (first | done | with_reducible rfl)); (try simp only [Act.put, List.setIfInBounds_toArray, List.set_cons_zero, List.set_cons_succ]))))
              refine sq_done ?_
              go_wp2_with fail
              go_ret
              refine ⟨ret_bool ?_, hE.trans hx3.drew⟩
              rw [Hv.out, T.valid, Hz.out, Hd.out]
              simp [validF, prv]
              intro _ _ h
              omega
    · obtain rfl : k = t.ps.length := by omega
      go_wp2_with fail
      go_ret
      refine ⟨ret_bool ?_, hE.trans hx⟩
      rw [Hv.out, T.valid, Hz.out, List.drop_length]
      simp [validF]

set_option maxHeartbeats 400000 in
theorem rconst5_c {v : Value} {z : Z} {w : World} {X : Nat → Prop} (h : Zi w X v z) (hL : z.mag.length ≤ 4398046511104) :
    Calls Try.prog 19 #[v] w fun e w' => ∃ r, e = .returned r ∧ Tv w' (w.heap.size ≤ ·) r (ct [] z.v) ∧ Ext w w' := by
  obtain ⟨A, c, rfl, h⟩ := h
  go_enter Try.func19, Try.ntmps19
  go_wp2_with fail
  refine (rnorm_c (z := z) ⟨_, _, rfl, h.ext (by repeat (first | with_reducible assumption | with_reducible exact Ext.refl _ | with_reducible refine Ext.drewN ?_ _ | with_reducible refine Ext.drew ?_ | with_reducible refine Ext.alloc ?_ _ | (with_reducible refine Ext.setCell ?_ ?_ _; rotate_left; (first | exact Nat.le_refl _ | (dsimp only; omega) | (simp only [wsz]; omega))) | (with_reducible refine Ext.trans ?_ (by with_reducible assumption))))⟩ hL).mono ?_
  rintro e w1 ⟨r, rfl, ⟨A1, c1, rfl, h1⟩, hx⟩
  have hc := hx.cells
  go_wp2_with fail
  (refine bodyPost_ret (v := ?_) ?_ rfl ?_; rotate_left; (simp only [results, Try.results19]; go_simp; (first | done | with_reducible rfl)))
  exact ⟨_, rfl, ⟨none, 0, A1, c1, rfl, Sl.nil0 _ _ _, (h1.keep (by repeat (first | with_reducible exact Kp.refl _ | with_reducible refine Kp.drewN ?_ _ | with_reducible refine Kp.drew ?_ | with_reducible refine Kp.alloc ?_ _ | (with_reducible refine Kp.setCell ?_ ?_ _; rotate_left; (first | (dsimp only; omega) | (simp only [wsz]; omega))) | (with_reducible exact Kp.of_ext (by with_reducible assumption)) | (with_reducible refine Kp.ext ?_ (by with_reducible assumption))))).widen (fun b hb _ => by first | omega | (dsimp only at hb ⊢; omega) | (dsimp only at hb; omega) | (simp only [wsz] at hb ⊢; omega) | (simp only [wsz] at hb; omega))⟩, (by repeat (first | with_reducible assumption | with_reducible exact Ext.refl _ | with_reducible refine Ext.drewN ?_ _ | with_reducible refine Ext.drew ?_ | with_reducible refine Ext.alloc ?_ _ | (with_reducible refine Ext.setCell ?_ ?_ _; rotate_left; (first | exact Nat.le_refl _ | (dsimp only; omega) | (simp only [wsz]; omega))) | (with_reducible refine Ext.trans ?_ (by with_reducible assumption))))⟩

set_option maxHeartbeats 400000 in
theorem rvar5_c {x : Int} (hi : i64 x) {w : World} :
    Calls Try.prog 20 #[.int .i64 x] w fun e w' => ∃ r, e = .returned r ∧ Tv w' (w.heap.size ≤ ·) r (ct [(x, 1)] 0) ∧ Ext w w' := by
  go_enter Try.func20, Try.ntmps20
  go_wp2_with fail
  refine (rof_c 1 (by omega) (by omega) _).mono ?_
  rintro e w1 ⟨r, rfl, ⟨A1, c1, rfl, h1⟩, hx⟩
  (have hs := Ext.size hx; (try simp only [wsz] at hs))
  (have bx := Box.ext (g := w.heap.size) (by repeat (first | with_reducible assumption | with_reducible exact Box.new _ _ _ | (with_reducible refine Box.new_at _ _ _ ?_; (simp only [wsz]; done)) | with_reducible refine Box.drewN ?_ _ | with_reducible refine Box.drew ?_ | with_reducible refine Box.alloc ?_ _ | with_reducible apply Box.drewN | with_reducible apply Box.drew | with_reducible apply Box.alloc | with_reducible refine Box.set_ ?_ _ _ | (with_reducible refine Box.far ?_ ?_ _; rotate_left; (simp only [ne_eq]; omega)) | (with_reducible refine Box.ext ?_ (by with_reducible assumption)) | (refine Box.new_at _ _ _ ?_; simp only [wsz]; done))) hx; have bxr := bx.rules; have bxl := bx.lt)
  go_wp2_with fail
  (refine bodyPost_ret (v := ?_) ?_ rfl ?_; rotate_left; (simp only [results, Try.results20]; go_simp; (first | done | with_reducible rfl)))
  refine ⟨_, rfl, ⟨_, _, none, 0, rfl, ?_, Sl.nil0 _ _ _⟩, (by repeat (first | with_reducible assumption | with_reducible exact Ext.refl _ | with_reducible refine Ext.drewN ?_ _ | with_reducible refine Ext.drew ?_ | with_reducible refine Ext.alloc ?_ _ | (with_reducible refine Ext.setCell ?_ ?_ _; rotate_left; (first | exact Nat.le_refl _ | (dsimp only; omega) | (simp only [wsz]; omega))) | (with_reducible refine Ext.trans ?_ (by with_reducible assumption))))⟩
  refine Pl.lit1 (by simp) (by show w.heap.size ≤ _; omega) hi (Nl.widen (h1.keep (by repeat (first | with_reducible exact Kp.refl _ | with_reducible refine Kp.drewN ?_ _ | with_reducible refine Kp.drew ?_ | with_reducible refine Kp.alloc ?_ _ | (with_reducible refine Kp.setCell ?_ ?_ _; rotate_left; (first | (dsimp only; omega) | (simp only [wsz]; omega))) | (with_reducible exact Kp.of_ext (by with_reducible assumption)) | (with_reducible refine Kp.ext ?_ (by with_reducible assumption))))) (fun b hb _ => by first | omega | (dsimp only at hb ⊢; omega) | (dsimp only at hb; omega) | (simp only [wsz] at hb ⊢; omega) | (simp only [wsz] at hb; omega)))

end Go.Proofs.Ytbblgjjomgipfaa
