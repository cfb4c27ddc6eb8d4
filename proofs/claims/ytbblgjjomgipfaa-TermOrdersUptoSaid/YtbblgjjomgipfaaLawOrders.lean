/- riddlelaw05.TermOrders. No conditions. -/
import Derived.Test.YtbblgjjomgipfaaLawKit
import Derived.Test.YtbblgjjomgipfaaCmpV
namespace Go.Proofs.Ytbblgjjomgipfaa
open Go.RowKit Go.Shelf

set_option maxHeartbeats 3200000 in
theorem laworders_c {v1 v2 v3 : Value} {a b c : T} {w : World} {X1 X2 X3 : Nat → Prop} {N : Nat} (h1 : Tv w X1 v1 a) (h2 : Tv w X2 v2 b) (h3 : Tv w X3 v3 c)
    (hN : N ≤ 2097152) (h2N : 2 ≤ N) (s1 : a.sz N) (s2 : b.sz N) (s3 : c.sz N) :
    Calls Try.prog 8 #[v1, v2, v3] w fun e w' => e = .returned (.bool true) ∧ Ext w w' := by
  have ha := h1; have hb := h2; have hc := h3
  have hsw := ordT_swap a b
  have htr := @ordT_trans a b c
  have hbo := @ordT_both a b c
  have hno := sub_none a b
  have hbd := ordT_bd a b
  obtain ⟨A1, c1, B1, d1, rfl, h11, h12⟩ := h1
  obtain ⟨A2, c2, B2, d2, rfl, h21, h22⟩ := h2
  obtain ⟨A3, c3, B3, d3, rfl, h31, h32⟩ := h3
  have hxy := fun W (h : Ext w W) => torder_c (ha.ext h) (hb.ext h) (N := N) (by omega) s1 s2
  have hyz := fun W (h : Ext w W) => torder_c (hb.ext h) (hc.ext h) (N := N) (by omega) s2 s3
  have hxz := fun W (h : Ext w W) => torder_c (ha.ext h) (hc.ext h) (N := N) (by omega) s1 s3
  have hyx := fun W (h : Ext w W) => torder_c (hb.ext h) (ha.ext h) (N := N) (by omega) s2 s1
  have hsb := fun W (h : Ext w W) => tsub_c (ha.ext h) (hb.ext h) (N := N) (by omega) h2N s1 s2
  rw [hsw] at hyx
  obtain ⟨n, hn⟩ : ∃ n, n = ct (vl a.ps ++ sc (-1) (vl b.ps)) (a.k.v - b.k.v) := ⟨_, rfl⟩
  rw [← hn] at hno hsb
  generalize ordT a b = x at hsw htr hbo hno hbd hxy hyx
  generalize ordT b c = y at htr hbo hyz
  generalize ordT a c = z at htr hbo hxz
  clear hsw hn
  have HT := Lib.hid htr; have HB := Lib.hid hbo; have HN := Lib.hid hno
  clear htr hbo hno
  go_enter Try.func8, Try.ntmps8
  go_wp2_with fail
  refine (awake_c _).mono ?_
  rintro e W ⟨rfl, hx⟩
  (have b3 := Box.ext (g := w.heap.size) (by repeat (first | with_reducible assumption | with_reducible exact Box.new _ _ _ | (with_reducible refine Box.new_at _ _ _ ?_; (simp only [wsz]; done)) | with_reducible refine Box.drewN ?_ _ | with_reducible refine Box.drew ?_ | with_reducible refine Box.alloc ?_ _ | with_reducible apply Box.drewN | with_reducible apply Box.drew | with_reducible apply Box.alloc | with_reducible refine Box.set_ ?_ _ _ | (with_reducible refine Box.far ?_ ?_ _; rotate_left; (simp only [ne_eq]; omega)) | (with_reducible refine Box.ext ?_ (by with_reducible assumption)) | (refine Box.new_at _ _ _ ?_; simp only [wsz]; done))) hx; have b3r := b3.rules; have b3l := b3.lt)
  (have b4 := Box.ext (g := w.heap.size + 1) (by repeat (first | with_reducible assumption | with_reducible exact Box.new _ _ _ | (with_reducible refine Box.new_at _ _ _ ?_; (simp only [wsz]; done)) | with_reducible refine Box.drewN ?_ _ | with_reducible refine Box.drew ?_ | with_reducible refine Box.alloc ?_ _ | with_reducible apply Box.drewN | with_reducible apply Box.drew | with_reducible apply Box.alloc | with_reducible refine Box.set_ ?_ _ _ | (with_reducible refine Box.far ?_ ?_ _; rotate_left; (simp only [ne_eq]; omega)) | (with_reducible refine Box.ext ?_ (by with_reducible assumption)) | (refine Box.new_at _ _ _ ?_; simp only [wsz]; done))) hx; have b4r := b4.rules; have b4l := b4.lt)
  (have b5 := Box.ext (g := w.heap.size + 1 + 1) (by repeat (first | with_reducible assumption | with_reducible exact Box.new _ _ _ | (with_reducible refine Box.new_at _ _ _ ?_; (simp only [wsz]; done)) | with_reducible refine Box.drewN ?_ _ | with_reducible refine Box.drew ?_ | with_reducible refine Box.alloc ?_ _ | with_reducible apply Box.drewN | with_reducible apply Box.drew | with_reducible apply Box.alloc | with_reducible refine Box.set_ ?_ _ _ | (with_reducible refine Box.far ?_ ?_ _; rotate_left; (simp only [ne_eq]; omega)) | (with_reducible refine Box.ext ?_ (by with_reducible assumption)) | (refine Box.new_at _ _ _ ?_; simp only [wsz]; done))) hx; have b5r := b5.rules; have b5l := b5.lt)
  have hE : Ext w W := (by repeat (first | with_reducible assumption | with_reducible exact Ext.refl _ | with_reducible refine Ext.drewN ?_ _ | with_reducible refine Ext.drew ?_ | with_reducible refine Ext.alloc ?_ _ | (with_reducible refine Ext.setCell ?_ ?_ _; rotate_left; (first | exact Nat.le_refl _ | (dsimp only; omega) | (simp only [wsz]; omega))) | (with_reducible refine Ext.trans ?_ (by with_reducible assumption))))
  clear hx
  go_wp2_with fail
  refine (hxy _ hE).mono ?_
  rintro e w1 ⟨rfl, hx1⟩
  have b31 := Box.ext (g := w.heap.size) (by repeat (first | with_reducible assumption | with_reducible exact Box.new _ _ _ | (with_reducible refine Box.new_at _ _ _ ?_; (simp only [wsz]; done)) | with_reducible refine Box.drewN ?_ _ | with_reducible refine Box.drew ?_ | with_reducible refine Box.alloc ?_ _ | with_reducible apply Box.drewN | with_reducible apply Box.drew | with_reducible apply Box.alloc | with_reducible refine Box.set_ ?_ _ _ | (with_reducible refine Box.far ?_ ?_ _; rotate_left; (simp only [ne_eq]; omega)) | (with_reducible refine Box.ext ?_ (by with_reducible assumption)) | (refine Box.new_at _ _ _ ?_; simp only [wsz]; done))) hx1
  have b41 := Box.ext (g := w.heap.size + 1) (by repeat (first | with_reducible assumption | with_reducible exact Box.new _ _ _ | (with_reducible refine Box.new_at _ _ _ ?_; (simp only [wsz]; done)) | with_reducible refine Box.drewN ?_ _ | with_reducible refine Box.drew ?_ | with_reducible refine Box.alloc ?_ _ | with_reducible apply Box.drewN | with_reducible apply Box.drew | with_reducible apply Box.alloc | with_reducible refine Box.set_ ?_ _ _ | (with_reducible refine Box.far ?_ ?_ _; rotate_left; (simp only [ne_eq]; omega)) | (with_reducible refine Box.ext ?_ (by with_reducible assumption)) | (refine Box.new_at _ _ _ ?_; simp only [wsz]; done))) hx1
  have b41r := b41.rules
  have b41l := b41.lt
  have b51 := Box.ext (g := w.heap.size + 1 + 1) (by repeat (first | with_reducible assumption | with_reducible exact Box.new _ _ _ | (with_reducible refine Box.new_at _ _ _ ?_; (simp only [wsz]; done)) | with_reducible refine Box.drewN ?_ _ | with_reducible refine Box.drew ?_ | with_reducible refine Box.alloc ?_ _ | with_reducible apply Box.drewN | with_reducible apply Box.drew | with_reducible apply Box.alloc | with_reducible refine Box.set_ ?_ _ _ | (with_reducible refine Box.far ?_ ?_ _; rotate_left; (simp only [ne_eq]; omega)) | (with_reducible refine Box.ext ?_ (by with_reducible assumption)) | (refine Box.new_at _ _ _ ?_; simp only [wsz]; done))) hx1
  have b51r := b51.rules
  have b51l := b51.lt
  clear b3r b4r b5r
  go_wp2_with fail
  refine (hyz _ (hE.trans (by repeat (first | with_reducible assumption | with_reducible exact Ext.refl _ | with_reducible refine Ext.drewN ?_ _ | with_reducible refine Ext.drew ?_ | with_reducible refine Ext.alloc ?_ _ | (with_reducible refine Ext.setCell ?_ ?_ _; rotate_left; (first | exact Nat.le_refl _ | (dsimp only; omega) | (simp only [wsz]; omega))) | (with_reducible refine Ext.trans ?_ (by with_reducible assumption)))))).mono ?_
  rintro e w2 ⟨rfl, hx2⟩
  have b32 := Box.ext (g := w.heap.size) (by repeat (first | with_reducible assumption | with_reducible exact Box.new _ _ _ | (with_reducible refine Box.new_at _ _ _ ?_; (simp only [wsz]; done)) | with_reducible refine Box.drewN ?_ _ | with_reducible refine Box.drew ?_ | with_reducible refine Box.alloc ?_ _ | with_reducible apply Box.drewN | with_reducible apply Box.drew | with_reducible apply Box.alloc | with_reducible refine Box.set_ ?_ _ _ | (with_reducible refine Box.far ?_ ?_ _; rotate_left; (simp only [ne_eq]; omega)) | (with_reducible refine Box.ext ?_ (by with_reducible assumption)) | (refine Box.new_at _ _ _ ?_; simp only [wsz]; done))) hx2
  have b32r := b32.rules
  have b32l := b32.lt
  have b42 := Box.ext (g := w.heap.size + 1) (by repeat (first | with_reducible assumption | with_reducible exact Box.new _ _ _ | (with_reducible refine Box.new_at _ _ _ ?_; (simp only [wsz]; done)) | with_reducible refine Box.drewN ?_ _ | with_reducible refine Box.drew ?_ | with_reducible refine Box.alloc ?_ _ | with_reducible apply Box.drewN | with_reducible apply Box.drew | with_reducible apply Box.alloc | with_reducible refine Box.set_ ?_ _ _ | (with_reducible refine Box.far ?_ ?_ _; rotate_left; (simp only [ne_eq]; omega)) | (with_reducible refine Box.ext ?_ (by with_reducible assumption)) | (refine Box.new_at _ _ _ ?_; simp only [wsz]; done))) hx2
  have b52 := Box.ext (g := w.heap.size + 1 + 1) (by repeat (first | with_reducible assumption | with_reducible exact Box.new _ _ _ | (with_reducible refine Box.new_at _ _ _ ?_; (simp only [wsz]; done)) | with_reducible refine Box.drewN ?_ _ | with_reducible refine Box.drew ?_ | with_reducible refine Box.alloc ?_ _ | with_reducible apply Box.drewN | with_reducible apply Box.drew | with_reducible apply Box.alloc | with_reducible refine Box.set_ ?_ _ _ | (with_reducible refine Box.far ?_ ?_ _; rotate_left; (simp only [ne_eq]; omega)) | (with_reducible refine Box.ext ?_ (by with_reducible assumption)) | (refine Box.new_at _ _ _ ?_; simp only [wsz]; done))) hx2
  have b52r := b52.rules
  have b52l := b52.lt
  clear b41r b51r
  go_wp2_with fail
  refine (hxz _ (hE.trans (by repeat (first | with_reducible assumption | with_reducible exact Ext.refl _ | with_reducible refine Ext.drewN ?_ _ | with_reducible refine Ext.drew ?_ | with_reducible refine Ext.alloc ?_ _ | (with_reducible refine Ext.setCell ?_ ?_ _; rotate_left; (first | exact Nat.le_refl _ | (dsimp only; omega) | (simp only [wsz]; omega))) | (with_reducible refine Ext.trans ?_ (by with_reducible assumption)))))).mono ?_
  rintro e w3 ⟨rfl, hx3⟩
  have b33 := Box.ext (g := w.heap.size) (by repeat (first | with_reducible assumption | with_reducible exact Box.new _ _ _ | (with_reducible refine Box.new_at _ _ _ ?_; (simp only [wsz]; done)) | with_reducible refine Box.drewN ?_ _ | with_reducible refine Box.drew ?_ | with_reducible refine Box.alloc ?_ _ | with_reducible apply Box.drewN | with_reducible apply Box.drew | with_reducible apply Box.alloc | with_reducible refine Box.set_ ?_ _ _ | (with_reducible refine Box.far ?_ ?_ _; rotate_left; (simp only [ne_eq]; omega)) | (with_reducible refine Box.ext ?_ (by with_reducible assumption)) | (refine Box.new_at _ _ _ ?_; simp only [wsz]; done))) hx3
  have b33r := b33.rules
  have b33l := b33.lt
  have b43 := Box.ext (g := w.heap.size + 1) (by repeat (first | with_reducible assumption | with_reducible exact Box.new _ _ _ | (with_reducible refine Box.new_at _ _ _ ?_; (simp only [wsz]; done)) | with_reducible refine Box.drewN ?_ _ | with_reducible refine Box.drew ?_ | with_reducible refine Box.alloc ?_ _ | with_reducible apply Box.drewN | with_reducible apply Box.drew | with_reducible apply Box.alloc | with_reducible refine Box.set_ ?_ _ _ | (with_reducible refine Box.far ?_ ?_ _; rotate_left; (simp only [ne_eq]; omega)) | (with_reducible refine Box.ext ?_ (by with_reducible assumption)) | (refine Box.new_at _ _ _ ?_; simp only [wsz]; done))) hx3
  have b43r := b43.rules
  have b43l := b43.lt
  have b53 := Box.ext (g := w.heap.size + 1 + 1) (by repeat (first | with_reducible assumption | with_reducible exact Box.new _ _ _ | (with_reducible refine Box.new_at _ _ _ ?_; (simp only [wsz]; done)) | with_reducible refine Box.drewN ?_ _ | with_reducible refine Box.drew ?_ | with_reducible refine Box.alloc ?_ _ | with_reducible apply Box.drewN | with_reducible apply Box.drew | with_reducible apply Box.alloc | with_reducible refine Box.set_ ?_ _ _ | (with_reducible refine Box.far ?_ ?_ _; rotate_left; (simp only [ne_eq]; omega)) | (with_reducible refine Box.ext ?_ (by with_reducible assumption)) | (refine Box.new_at _ _ _ ?_; simp only [wsz]; done))) hx3
  clear b32r b52r
  go_wp2_with fail
  refine (hyx _ (hE.trans (by repeat (first | with_reducible assumption | with_reducible exact Ext.refl _ | with_reducible refine Ext.drewN ?_ _ | with_reducible refine Ext.drew ?_ | with_reducible refine Ext.alloc ?_ _ | (with_reducible refine Ext.setCell ?_ ?_ _; rotate_left; (first | exact Nat.le_refl _ | (dsimp only; omega) | (simp only [wsz]; omega))) | (with_reducible refine Ext.trans ?_ (by with_reducible assumption)))))).mono ?_
  rintro e w4 ⟨rfl, hx4⟩
  have b34 := Box.ext (g := w.heap.size) (by repeat (first | with_reducible assumption | with_reducible exact Box.new _ _ _ | (with_reducible refine Box.new_at _ _ _ ?_; (simp only [wsz]; done)) | with_reducible refine Box.drewN ?_ _ | with_reducible refine Box.drew ?_ | with_reducible refine Box.alloc ?_ _ | with_reducible apply Box.drewN | with_reducible apply Box.drew | with_reducible apply Box.alloc | with_reducible refine Box.set_ ?_ _ _ | (with_reducible refine Box.far ?_ ?_ _; rotate_left; (simp only [ne_eq]; omega)) | (with_reducible refine Box.ext ?_ (by with_reducible assumption)) | (refine Box.new_at _ _ _ ?_; simp only [wsz]; done))) hx4
  have b34r := b34.rules
  have b34l := b34.lt
  have b44 := Box.ext (g := w.heap.size + 1) (by repeat (first | with_reducible assumption | with_reducible exact Box.new _ _ _ | (with_reducible refine Box.new_at _ _ _ ?_; (simp only [wsz]; done)) | with_reducible refine Box.drewN ?_ _ | with_reducible refine Box.drew ?_ | with_reducible refine Box.alloc ?_ _ | with_reducible apply Box.drewN | with_reducible apply Box.drew | with_reducible apply Box.alloc | with_reducible refine Box.set_ ?_ _ _ | (with_reducible refine Box.far ?_ ?_ _; rotate_left; (simp only [ne_eq]; omega)) | (with_reducible refine Box.ext ?_ (by with_reducible assumption)) | (refine Box.new_at _ _ _ ?_; simp only [wsz]; done))) hx4
  have b44r := b44.rules
  have b44l := b44.lt
  have b54 := Box.ext (g := w.heap.size + 1 + 1) (by repeat (first | with_reducible assumption | with_reducible exact Box.new _ _ _ | (with_reducible refine Box.new_at _ _ _ ?_; (simp only [wsz]; done)) | with_reducible refine Box.drewN ?_ _ | with_reducible refine Box.drew ?_ | with_reducible refine Box.alloc ?_ _ | with_reducible apply Box.drewN | with_reducible apply Box.drew | with_reducible apply Box.alloc | with_reducible refine Box.set_ ?_ _ _ | (with_reducible refine Box.far ?_ ?_ _; rotate_left; (simp only [ne_eq]; omega)) | (with_reducible refine Box.ext ?_ (by with_reducible assumption)) | (refine Box.new_at _ _ _ ?_; simp only [wsz]; done))) hx4
  clear b33r b43r
  go_wp2_with fail
  refine (hsb _ (hE.trans (by repeat (first | with_reducible assumption | with_reducible exact Ext.refl _ | with_reducible refine Ext.drewN ?_ _ | with_reducible refine Ext.drew ?_ | with_reducible refine Ext.alloc ?_ _ | (with_reducible refine Ext.setCell ?_ ?_ _; rotate_left; (first | exact Nat.le_refl _ | (dsimp only; omega) | (simp only [wsz]; omega))) | (with_reducible refine Ext.trans ?_ (by with_reducible assumption)))))).mono ?_
  rintro e w5 ⟨r5, rfl, ⟨A5, c5, B5, d5, rfl, h51, h52⟩, hx5⟩
  clear b34r b44r hxy hyz hxz hyx hsb h51 h52
  have hfin : Ext w w5 := hE.trans (by repeat (first | with_reducible assumption | with_reducible exact Ext.refl _ | with_reducible refine Ext.drewN ?_ _ | with_reducible refine Ext.drew ?_ | with_reducible refine Ext.alloc ?_ _ | (with_reducible refine Ext.setCell ?_ ?_ _; rotate_left; (first | exact Nat.le_refl _ | (dsimp only; omega) | (simp only [wsz]; omega))) | (with_reducible refine Ext.trans ?_ (by with_reducible assumption))))
  have hwx : IntKind.i64.wrap (-x) = -x := w64 ⟨by omega, by omega⟩
  have hyle := Lib.hid (show x ≤ 0 → y ≤ 0 → ¬ 0 < z from fun h1 h2 => by have := HT.out h1 h2; omega)
  by_cases hp : n.ps.length = 0
  · by_cases hq : n.k.mag.length = 0
    · have hx0 : x = 0 := HN.out.1 ⟨hp, hq⟩
      have HP := Lib.hid hp; have HQ := Lib.hid hq
      rw [hp, hq]
      clear hp hq
      subst hx0
      by_cases hy : y ≤ 0
      · have hz := hyle.out (by omega) hy
        by_cases hz0 : z = 0
        · have hy0 : y = 0 := (HB.out (by omega) hy hz0).2
          subst hz0; subst hy0
          go_wp2_with fail
          go_ret
          exact ⟨rfl, hfin.trans (by repeat (first | with_reducible assumption | with_reducible exact Ext.refl _ | with_reducible refine Ext.drewN ?_ _ | with_reducible refine Ext.drew ?_ | with_reducible refine Ext.alloc ?_ _ | (with_reducible refine Ext.setCell ?_ ?_ _; rotate_left; (first | exact Nat.le_refl _ | (dsimp only; omega) | (simp only [wsz]; omega))) | (with_reducible refine Ext.trans ?_ (by with_reducible assumption))))⟩
        · have hz2 : (z == 0) = false := by rw [beq_eq_false_iff_ne]; exact hz0
          clear hz0
          go_wp2_with fail
          go_ret
          exact ⟨rfl, hfin.trans (by repeat (first | with_reducible assumption | with_reducible exact Ext.refl _ | with_reducible refine Ext.drewN ?_ _ | with_reducible refine Ext.drew ?_ | with_reducible refine Ext.alloc ?_ _ | (with_reducible refine Ext.setCell ?_ ?_ _; rotate_left; (first | exact Nat.le_refl _ | (dsimp only; omega) | (simp only [wsz]; omega))) | (with_reducible refine Ext.trans ?_ (by with_reducible assumption))))⟩
      · go_wp2_with fail
        go_ret
        exact ⟨rfl, hfin.trans (by repeat (first | with_reducible assumption | with_reducible exact Ext.refl _ | with_reducible refine Ext.drewN ?_ _ | with_reducible refine Ext.drew ?_ | with_reducible refine Ext.alloc ?_ _ | (with_reducible refine Ext.setCell ?_ ?_ _; rotate_left; (first | exact Nat.le_refl _ | (dsimp only; omega) | (simp only [wsz]; omega))) | (with_reducible refine Ext.trans ?_ (by with_reducible assumption))))⟩
    · have hx0 : x ≠ 0 := fun h => hq (HN.out.2 h).2
      have hq2 : ((n.k.mag.length : Int) == 0) = false := by rw [beq_eq_false_iff_ne]; omega
      rw [hp]
      clear hp hq
      have hx2 : (x == 0) = false := by rw [beq_eq_false_iff_ne]; exact hx0
      have hx3 : (x != 0) = true := by rw [bne_iff_ne]; exact hx0
      by_cases hxl : x ≤ 0
      · by_cases hy : y ≤ 0
        · have hz := hyle.out hxl hy
          have hz2 : (z == 0) = false := by rw [beq_eq_false_iff_ne]; exact fun h => hx0 (HB.out hxl hy h).1
          clear hx0
          go_wp2_with fail
          go_ret
          exact ⟨rfl, hfin.trans (by repeat (first | with_reducible assumption | with_reducible exact Ext.refl _ | with_reducible refine Ext.drewN ?_ _ | with_reducible refine Ext.drew ?_ | with_reducible refine Ext.alloc ?_ _ | (with_reducible refine Ext.setCell ?_ ?_ _; rotate_left; (first | exact Nat.le_refl _ | (dsimp only; omega) | (simp only [wsz]; omega))) | (with_reducible refine Ext.trans ?_ (by with_reducible assumption))))⟩
        · clear hx0
          go_wp2_with fail
          go_ret
          exact ⟨rfl, hfin.trans (by repeat (first | with_reducible assumption | with_reducible exact Ext.refl _ | with_reducible refine Ext.drewN ?_ _ | with_reducible refine Ext.drew ?_ | with_reducible refine Ext.alloc ?_ _ | (with_reducible refine Ext.setCell ?_ ?_ _; rotate_left; (first | exact Nat.le_refl _ | (dsimp only; omega) | (simp only [wsz]; omega))) | (with_reducible refine Ext.trans ?_ (by with_reducible assumption))))⟩
      · clear hx0
        go_wp2_with fail
        go_ret
        exact ⟨rfl, hfin.trans (by repeat (first | with_reducible assumption | with_reducible exact Ext.refl _ | with_reducible refine Ext.drewN ?_ _ | with_reducible refine Ext.drew ?_ | with_reducible refine Ext.alloc ?_ _ | (with_reducible refine Ext.setCell ?_ ?_ _; rotate_left; (first | exact Nat.le_refl _ | (dsimp only; omega) | (simp only [wsz]; omega))) | (with_reducible refine Ext.trans ?_ (by with_reducible assumption))))⟩
  · have hx0 : x ≠ 0 := fun h => hp (HN.out.2 h).1
    have hp2 : ((n.ps.length : Int) == 0) = false := by rw [beq_eq_false_iff_ne]; omega
    clear hp
    have hx2 : (x == 0) = false := by rw [beq_eq_false_iff_ne]; exact hx0
    have hx3 : (x != 0) = true := by rw [bne_iff_ne]; exact hx0
    by_cases hxl : x ≤ 0
    · by_cases hy : y ≤ 0
      · have hz := hyle.out hxl hy
        have hz2 : (z == 0) = false := by rw [beq_eq_false_iff_ne]; exact fun h => hx0 (HB.out hxl hy h).1
        clear hx0
        go_wp2_with fail
        go_ret
        exact ⟨rfl, hfin.trans (by repeat (first | with_reducible assumption | with_reducible exact Ext.refl _ | with_reducible refine Ext.drewN ?_ _ | with_reducible refine Ext.drew ?_ | with_reducible refine Ext.alloc ?_ _ | (with_reducible refine Ext.setCell ?_ ?_ _; rotate_left; (first | exact Nat.le_refl _ | (dsimp only; omega) | (simp only [wsz]; omega))) | (with_reducible refine Ext.trans ?_ (by with_reducible assumption))))⟩
      · clear hx0
        go_wp2_with fail
        go_ret
        exact ⟨rfl, hfin.trans (by repeat (first | with_reducible assumption | with_reducible exact Ext.refl _ | with_reducible refine Ext.drewN ?_ _ | with_reducible refine Ext.drew ?_ | with_reducible refine Ext.alloc ?_ _ | (with_reducible refine Ext.setCell ?_ ?_ _; rotate_left; (first | exact Nat.le_refl _ | (dsimp only; omega) | (simp only [wsz]; omega))) | (with_reducible refine Ext.trans ?_ (by with_reducible assumption))))⟩
    · clear hx0
      go_wp2_with fail
      go_ret
      exact ⟨rfl, hfin.trans (by repeat (first | with_reducible assumption | with_reducible exact Ext.refl _ | with_reducible refine Ext.drewN ?_ _ | with_reducible refine Ext.drew ?_ | with_reducible refine Ext.alloc ?_ _ | (with_reducible refine Ext.setCell ?_ ?_ _; rotate_left; (first | exact Nat.le_refl _ | (dsimp only; omega) | (simp only [wsz]; omega))) | (with_reducible refine Ext.trans ?_ (by with_reducible assumption))))⟩

end Go.Proofs.Ytbblgjjomgipfaa
