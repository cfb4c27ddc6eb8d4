/- riddlelaw05.TermLooks. No conditions. -/
import Derived.Test.YtbblgjjomgipfaaAwake
import Derived.Test.YtbblgjjomgipfaaLimbs2
import Derived.Test.YtbblgjjomgipfaaRO
namespace Go.Proofs.Ytbblgjjomgipfaa
open Go.RowKit Go.Shelf

set_option maxHeartbeats 3200000 in
theorem lawlooks_c {v1 v2 : Value} {t u : T} {w : World} {X1 X2 : Nat → Prop} {N : Nat} (h1 : Tv w X1 v1 t) (h2 : Tv w X2 v2 u)
    (hN : N ≤ 2097152) (_h2N : 2 ≤ N) (s1 : t.sz N) (s2 : u.sz N) :
    Calls Try.prog 9 #[v1, v2] w fun e w' => e = .returned (.bool true) ∧ Ext w w' := by
  have ht := h1; have hu := h2
  obtain ⟨A1, c1, B1, d1, rfl, h11, h12⟩ := h1
  obtain ⟨A2, c2, B2, d2, rfl, h21, h22⟩ := h2
  have hvr := fun W (h : Ext w W) => tvars_c (ht.ext h) (N := N) (by omega) s1
  have hlm := fun W (h : Ext w W) => tlimbs_c (ht.ext h) (N := N) (by omega) s1
  have hod := fun W (h : Ext w W) => torder_c (ht.ext h) (hu.ext h) (N := N) (by omega) s1 s2
  have hvr' := fun W (h : Ext w W) => rvars5_c (ht.ext h) (N := N) (by omega) s1
  have hlm' := fun W (h : Ext w W) => rlimbs5_c (ht.ext h) (N := N) (by omega) s1
  have hod' := fun W (h : Ext w W) => rorder5_c (ht.ext h) (hu.ext h) (N := N) (by omega) s1 s2
  generalize t.vars = vs at hvr hvr'
  generalize t.limbs = lm at hlm hlm'
  generalize ordT t u = od at hod hod'
  go_enter Try.func9, Try.ntmps9
  go_wp2_with fail
  refine (awake_c _).mono ?_
  rintro e W ⟨rfl, hx⟩
  (have b2 := Box.ext (g := w.heap.size) (by repeat (first | with_reducible assumption | with_reducible exact Box.new _ _ _ | (with_reducible refine Box.new_at _ _ _ ?_; (simp only [wsz]; done)) | with_reducible refine Box.drewN ?_ _ | with_reducible refine Box.drew ?_ | with_reducible refine Box.alloc ?_ _ | with_reducible apply Box.drewN | with_reducible apply Box.drew | with_reducible apply Box.alloc | with_reducible refine Box.set_ ?_ _ _ | (with_reducible refine Box.far ?_ ?_ _; rotate_left; (simp only [ne_eq]; omega)) | (with_reducible refine Box.ext ?_ (by with_reducible assumption)) | (refine Box.new_at _ _ _ ?_; simp only [wsz]; done))) hx; have b2r := b2.rules; have b2l := b2.lt)
  (have b3 := Box.ext (g := w.heap.size + 1) (by repeat (first | with_reducible assumption | with_reducible exact Box.new _ _ _ | (with_reducible refine Box.new_at _ _ _ ?_; (simp only [wsz]; done)) | with_reducible refine Box.drewN ?_ _ | with_reducible refine Box.drew ?_ | with_reducible refine Box.alloc ?_ _ | with_reducible apply Box.drewN | with_reducible apply Box.drew | with_reducible apply Box.alloc | with_reducible refine Box.set_ ?_ _ _ | (with_reducible refine Box.far ?_ ?_ _; rotate_left; (simp only [ne_eq]; omega)) | (with_reducible refine Box.ext ?_ (by with_reducible assumption)) | (refine Box.new_at _ _ _ ?_; simp only [wsz]; done))) hx; have b3r := b3.rules; have b3l := b3.lt)
  have hE : Ext w W := (by repeat (first | with_reducible assumption | with_reducible exact Ext.refl _ | with_reducible refine Ext.drewN ?_ _ | with_reducible refine Ext.drew ?_ | with_reducible refine Ext.alloc ?_ _ | (with_reducible refine Ext.setCell ?_ ?_ _; rotate_left; (first | exact Nat.le_refl _ | (dsimp only; omega) | (simp only [wsz]; omega))) | (with_reducible refine Ext.trans ?_ (by with_reducible assumption))))
  clear hx
  go_wp2_with fail
  refine (hvr _ hE).mono ?_
  rintro e w1 ⟨AV, cV, rfl, hI1, hx1⟩
  have b21 := b2.ext hx1
  have b31 := b3.ext hx1
  have b21r := b21.rules
  have b21l := b21.lt
  clear b2r b3r
  go_wp2_with fail
  refine (hlm _ (hE.trans (by repeat (first | with_reducible assumption | with_reducible exact Ext.refl _ | with_reducible refine Ext.drewN ?_ _ | with_reducible refine Ext.drew ?_ | with_reducible refine Ext.alloc ?_ _ | (with_reducible refine Ext.setCell ?_ ?_ _; rotate_left; (first | exact Nat.le_refl _ | (dsimp only; omega) | (simp only [wsz]; omega))) | (with_reducible refine Ext.trans ?_ (by with_reducible assumption)))))).mono ?_
  rintro e w2 ⟨rfl, hx2⟩
  have b22 := b21.ext hx2
  have b32 := b31.ext hx2
  have b22r := b22.rules
  have b22l := b22.lt
  have b32r := b32.rules
  have b32l := b32.lt
  clear b21r
  go_wp2_with fail
  refine (hod _ (hE.trans (by repeat (first | with_reducible assumption | with_reducible exact Ext.refl _ | with_reducible refine Ext.drewN ?_ _ | with_reducible refine Ext.drew ?_ | with_reducible refine Ext.alloc ?_ _ | (with_reducible refine Ext.setCell ?_ ?_ _; rotate_left; (first | exact Nat.le_refl _ | (dsimp only; omega) | (simp only [wsz]; omega))) | (with_reducible refine Ext.trans ?_ (by with_reducible assumption)))))).mono ?_
  rintro e w3 ⟨rfl, hx3⟩
  have b23 := b22.ext hx3
  have b33 := b32.ext hx3
  have b23r := b23.rules
  have b23l := b23.lt
  clear b22r b32r
  go_wp2_with fail
  refine (hvr' _ (hE.trans (by repeat (first | with_reducible assumption | with_reducible exact Ext.refl _ | with_reducible refine Ext.drewN ?_ _ | with_reducible refine Ext.drew ?_ | with_reducible refine Ext.alloc ?_ _ | (with_reducible refine Ext.setCell ?_ ?_ _; rotate_left; (first | exact Nat.le_refl _ | (dsimp only; omega) | (simp only [wsz]; omega))) | (with_reducible refine Ext.trans ?_ (by with_reducible assumption)))))).mono ?_
  rintro e w4 ⟨AW, cW, rfl, hI2, hx4⟩
  have b24 := b23.ext hx4
  have b34 := b33.ext hx4
  clear b23r
  go_wp2_with fail
  refine (ints_c (hI1.ext (by repeat (first | with_reducible assumption | with_reducible exact Ext.refl _ | with_reducible refine Ext.drewN ?_ _ | with_reducible refine Ext.drew ?_ | with_reducible refine Ext.alloc ?_ _ | (with_reducible refine Ext.setCell ?_ ?_ _; rotate_left; (first | exact Nat.le_refl _ | (dsimp only; omega) | (simp only [wsz]; omega))) | (with_reducible refine Ext.trans ?_ (by with_reducible assumption))))) hI2).mono ?_
  rintro e w5 ⟨rfl, hx5⟩
  have b25 := b24.ext hx5
  have b35 := b34.ext hx5
  have b25r := b25.rules
  have b25l := b25.lt
  go_wp2_with fail
  refine (hlm' _ (hE.trans (by repeat (first | with_reducible assumption | with_reducible exact Ext.refl _ | with_reducible refine Ext.drewN ?_ _ | with_reducible refine Ext.drew ?_ | with_reducible refine Ext.alloc ?_ _ | (with_reducible refine Ext.setCell ?_ ?_ _; rotate_left; (first | exact Nat.le_refl _ | (dsimp only; omega) | (simp only [wsz]; omega))) | (with_reducible refine Ext.trans ?_ (by with_reducible assumption)))))).mono ?_
  rintro e w6 ⟨rfl, hx6⟩
  have b26 := b25.ext hx6
  have b36 := b35.ext hx6
  have b26r := b26.rules
  have b26l := b26.lt
  have b36r := b36.rules
  have b36l := b36.lt
  clear b25r
  go_wp2_with fail
  refine (hod' _ (hE.trans (by repeat (first | with_reducible assumption | with_reducible exact Ext.refl _ | with_reducible refine Ext.drewN ?_ _ | with_reducible refine Ext.drew ?_ | with_reducible refine Ext.alloc ?_ _ | (with_reducible refine Ext.setCell ?_ ?_ _; rotate_left; (first | exact Nat.le_refl _ | (dsimp only; omega) | (simp only [wsz]; omega))) | (with_reducible refine Ext.trans ?_ (by with_reducible assumption)))))).mono ?_
  rintro e w7 ⟨rfl, hx7⟩
  go_wp2_with fail
  go_ret
  exact ⟨rfl, hE.trans (by repeat (first | with_reducible assumption | with_reducible exact Ext.refl _ | with_reducible refine Ext.drewN ?_ _ | with_reducible refine Ext.drew ?_ | with_reducible refine Ext.alloc ?_ _ | (with_reducible refine Ext.setCell ?_ ?_ _; rotate_left; (first | exact Nat.le_refl _ | (dsimp only; omega) | (simp only [wsz]; omega))) | (with_reducible refine Ext.trans ?_ (by with_reducible assumption))))⟩

end Go.Proofs.Ytbblgjjomgipfaa
