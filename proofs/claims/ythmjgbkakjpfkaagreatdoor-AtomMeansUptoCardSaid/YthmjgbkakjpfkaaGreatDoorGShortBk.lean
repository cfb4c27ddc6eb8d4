/- atom.Norm, Div, Not. No conditions. How long forms are. No conditions. -/
import Derived.Test.YthmjgbkakjpfkaaGreatDoorGShortBj
import Derived.Test.YthmjgbkakjpfkaaGreatDoorGShortBf
import Derived.Test.YthmjgbkakjpfkaaGreatDoorGShortBg
namespace Go.Proofs.YthmjgbkakjpfkaaGreatDoor
open Go.RowKit

set_option maxHeartbeats 1600000 in
theorem parted0_c {u v : Value} {d : Z} {t : T} {not : Bool} {w : World} {X Y : Nat → Prop} (hd : Zi w X u d) (h : Tv w Y v t) (hl : d.mag.length ≤ 4398046511104) (h0 : d.v = 0) :
    Calls Tryz.prog 46 #[u, v, .bool not] w fun e w' => ∃ r, e = .returned (.tuple #[r, .int .i64 11]) ∧ AvF w' w.heap.size r (constA false) ∧ Ext w w' := by
  have hab := fun (U : World) (hU : Ext w U) => zabs_c (hd.ext hU) hl
  obtain ⟨mz, hmz⟩ : ∃ z, z = cz ((d.v.natAbs : Nat) : Int) := ⟨_, rfl⟩
  have hmv : mz.v = 0 := by rw [hmz, cz_v, h0]; rfl
  simp only [← hmz] at hab
  obtain ⟨A, c, rfl, hd⟩ := hd
  obtain ⟨P, e, K, f, rfl, hP, hK⟩ := h
  have HAB := Lib.hid hab; have HMV := Lib.hid hmv
  clear hab hmv hmz
  go_enter Tryz.func46, Tryz.ntmps46
  go_wp2_with fail
  refine (HAB.out _ (by repeat (first | with_reducible assumption | with_reducible exact Ext.refl _ | with_reducible refine Ext.drewN ?_ _ | with_reducible refine Ext.drew ?_ | with_reducible refine Ext.alloc ?_ _ | (with_reducible refine Ext.setCell ?_ ?_ _; rotate_left; (first | exact Nat.le_refl _ | (dsimp only; omega) | (simp only [wsz]; omega))) | (with_reducible refine Ext.trans ?_ (by with_reducible assumption))))).mono ?_
  rintro e1 w1 ⟨_, rfl, ⟨A1, c1, rfl, hM⟩, hx1⟩
  have hE1 : Ext w w1 := ((Ext.refl w).alloc _ |>.alloc _ |>.alloc _).trans hx1
  have b3 : Box w1 w.heap.size 24 #[.bool d.neg, .slice A d.mag.length c] := Box.ext ((Box.new w _ _).alloc _ |>.alloc _) hx1
  have b6 : Box w1 (w.heap.size + 1 + 1) 29 #[.int .i64 0, .bool false, .slice none 0 0, .slice none 0 0, .bool false, .slice none 0 0] := Box.ext (Box.new_at _ _ _ (by simp only [wsz])) hx1
  have hs1 := hx1.size
  simp only [wsz] at hs1
  have b3r := b3.rules; have b3l := b3.lt
  go_upto_region 2 with fail
  refine wp_named fun W hW => ?_
  have k3 : Box W w.heap.size 24 #[.bool mz.neg, .slice A1 mz.mag.length c1] := by rw [hW]; exact (b3.set_ 0 _).set_ 1 _
  have k6 : Box W (w.heap.size + 1 + 1) 29 #[.int .i64 0, .bool false, .slice none 0 0, .slice none 0 0, .bool false, .slice none 0 0] := by rw [hW]; exact (b6.far (by simp only; omega) _).far (by simp only; omega) _
  have hE : Ext w W := by rw [hW]; exact (hE1.setCell (Nat.le_refl _) _).setCell (Nat.le_refl _) _
  have hM := (hM.widen (Y := fun b => w.heap.size + 3 ≤ b) fun b hb _ => by simp only [wsz] at hb; omega).keep (w' := W) (by rw [hW]; exact ((Kp.refl w1).setCell (by simp only; omega) _).setCell (by simp only; omega) _)
  clear hW b3 b6 b3r b3l hx1 hE1 hs1
  have hsg := fun (U : World) (hU : Ext W U) => zsign_c (⟨A1, c1, rfl, hM.ext hU⟩ : Zi U _ (.agg #[.bool mz.neg, .slice A1 mz.mag.length c1]) mz)
  rw [HMV.out, show sgn 0 = 0 from cmpI_eq rfl] at hsg
  have HSG := Lib.hid hsg
  clear hsg
  have k3r := k3.rules; have k3l := k3.lt
  go_wp2_with fail
  refine (HSG.out _ (by repeat (first | with_reducible assumption | with_reducible exact Ext.refl _ | with_reducible refine Ext.drewN ?_ _ | with_reducible refine Ext.drew ?_ | with_reducible refine Ext.alloc ?_ _ | (with_reducible refine Ext.setCell ?_ ?_ _; rotate_left; (first | exact Nat.le_refl _ | (dsimp only; omega) | (simp only [wsz]; omega))) | (with_reducible refine Ext.trans ?_ (by with_reducible assumption))))).mono ?_
  rintro e2 w2 ⟨rfl, hx2⟩
  have m6 := k6.ext hx2
  have m6r := m6.rules; have m6l := m6.lt; have h6l := k6.lt
  have hE2 := hE.trans hx2
  clear k3r k3l
  go_wp2_with fail
  (refine bodyPost_ret (v := ?_) ?_ rfl ?_; rotate_left; (simp only [results, Tryz.results46]; go_simp; (first | done | with_reducible rfl)))
  exact ⟨_, rfl, AvF.const _ _ false rfl, (by repeat (first | with_reducible assumption | with_reducible exact Ext.refl _ | with_reducible refine Ext.drewN ?_ _ | with_reducible refine Ext.drew ?_ | with_reducible refine Ext.alloc ?_ _ | (with_reducible refine Ext.setCell ?_ ?_ _; rotate_left; (first | exact Nat.le_refl _ | (dsimp only; omega) | (simp only [wsz]; omega))) | (with_reducible refine Ext.trans ?_ (by with_reducible assumption))))⟩

/-- What parted answers. -/
def partedR (d : Int) (l : List (Int × Int)) (k : Int) (not : Bool) : Ar × Int := if d = 0 then (constA false, 11) else (partedA d l k not, 0)
theorem partedR_c {u v : Value} {d : Z} {t : T} {not : Bool} {w : World} {X Y : Nat → Prop} {N : Nat} (hd : Zi w X u d) (h : Tv w Y v t) (hl : d.mag.length ≤ N) (hs : t.sz N) (hN2 : 2 ≤ N) (hN : N ≤ 16777216) :
    Calls Tryz.prog 46 #[u, v, .bool not] w fun e w' => ∃ r, e = .returned (.tuple #[r, .int .i64 (partedR d.v (vl t.ps) t.k.v not).2]) ∧ AvF w' w.heap.size r (partedR d.v (vl t.ps) t.k.v not).1 ∧ Ext w w' := by
  unfold partedR
  by_cases h0 : d.v = 0
  · rw [if_pos h0]; exact parted0_c hd h (by omega) h0
  · rw [if_neg h0]; exact parted_c hd h hl hs hN2 hN h0

set_option maxHeartbeats 1600000 in
theorem adiv_c {u v : Value} {d : Z} {t : T} {w : World} {X Y : Nat → Prop} {N : Nat} (hd : Zi w X u d) (h : Tv w Y v t) (hl : d.mag.length ≤ N) (hs : t.sz N) (hN2 : 2 ≤ N) (hN : N ≤ 16777216) :
    Calls Tryz.prog 20 #[u, v] w fun e w' => ∃ r, e = .returned (.tuple #[r, .int .i64 (partedR d.v (vl t.ps) t.k.v false).2]) ∧ AvF w' w.heap.size r (partedR d.v (vl t.ps) t.k.v false).1 ∧ Ext w w' := by
  have hp := fun (U : World) (hU : Ext w U) => partedR_c (not := false) (hd.ext hU) (h.ext hU) hl hs hN2 hN
  obtain ⟨R, hR⟩ : ∃ R, R = partedR d.v (vl t.ps) t.k.v false := ⟨_, rfl⟩
  simp only [← hR] at hp ⊢
  obtain ⟨A, c, rfl, hd⟩ := hd
  obtain ⟨P, e, K, f, rfl, hP, hK⟩ := h
  have HP := Lib.hid hp
  clear hp hR
  go_enter Tryz.func20, Tryz.ntmps20
  go_wp2_with fail
  refine (HP.out _ (by repeat (first | with_reducible assumption | with_reducible exact Ext.refl _ | with_reducible refine Ext.drewN ?_ _ | with_reducible refine Ext.drew ?_ | with_reducible refine Ext.alloc ?_ _ | (with_reducible refine Ext.setCell ?_ ?_ _; rotate_left; (first | exact Nat.le_refl _ | (dsimp only; omega) | (simp only [wsz]; omega))) | (with_reducible refine Ext.trans ?_ (by with_reducible assumption))))).mono ?_
  rintro e1 w1 ⟨_, rfl, hA, hx1⟩
  have hA0 := hA
  obtain ⟨D3, e3, A3, f3, C3, g3, rfl, -⟩ := hA
  have b6 : Box w1 (w.heap.size + 1 + 1) 29 #[.int .i64 0, .bool false, .slice none 0 0, .slice none 0 0, .bool false, .slice none 0 0] := Box.ext (Box.new_at _ _ _ (by simp only [wsz])) hx1
  have b6r := b6.rules; have b6l := b6.lt
  have hE1 : Ext w w1 := ((Ext.refl w).alloc _ |>.alloc _ |>.alloc _).trans hx1
  go_wp2_with fail
  (refine bodyPost_ret (v := ?_) ?_ rfl ?_; rotate_left; (simp only [results, Tryz.results20]; go_simp; (first | done | with_reducible rfl)))
  refine ⟨_, rfl, (hA0.keep ?_).lower ?_, (by repeat (first | with_reducible assumption | with_reducible exact Ext.refl _ | with_reducible refine Ext.drewN ?_ _ | with_reducible refine Ext.drew ?_ | with_reducible refine Ext.alloc ?_ _ | (with_reducible refine Ext.setCell ?_ ?_ _; rotate_left; (first | exact Nat.le_refl _ | (dsimp only; omega) | (simp only [wsz]; omega))) | (with_reducible refine Ext.trans ?_ (by with_reducible assumption))))⟩
  · simp only [wsz]; exact (by repeat (first | with_reducible exact Kp.refl _ | with_reducible refine Kp.drewN ?_ _ | with_reducible refine Kp.drew ?_ | with_reducible refine Kp.alloc ?_ _ | (with_reducible refine Kp.setCell ?_ ?_ _; rotate_left; (first | (dsimp only; omega) | (simp only [wsz]; omega))) | (with_reducible exact Kp.of_ext (by with_reducible assumption)) | (with_reducible refine Kp.ext ?_ (by with_reducible assumption))))
  · simp only [wsz]; omega
set_option maxHeartbeats 1600000 in
theorem anot_c {u v : Value} {d : Z} {t : T} {w : World} {X Y : Nat → Prop} {N : Nat} (hd : Zi w X u d) (h : Tv w Y v t) (hl : d.mag.length ≤ N) (hs : t.sz N) (hN2 : 2 ≤ N) (hN : N ≤ 16777216) :
    Calls Tryz.prog 22 #[u, v] w fun e w' => ∃ r, e = .returned (.tuple #[r, .int .i64 (partedR d.v (vl t.ps) t.k.v true).2]) ∧ AvF w' w.heap.size r (partedR d.v (vl t.ps) t.k.v true).1 ∧ Ext w w' := by
  have hp := fun (U : World) (hU : Ext w U) => partedR_c (not := true) (hd.ext hU) (h.ext hU) hl hs hN2 hN
  obtain ⟨R, hR⟩ : ∃ R, R = partedR d.v (vl t.ps) t.k.v true := ⟨_, rfl⟩
  simp only [← hR] at hp ⊢
  obtain ⟨A, c, rfl, hd⟩ := hd
  obtain ⟨P, e, K, f, rfl, hP, hK⟩ := h
  have HP := Lib.hid hp
  clear hp hR
  go_enter Tryz.func22, Tryz.ntmps22
  go_wp2_with fail
  refine (HP.out _ (by repeat (first | with_reducible assumption | with_reducible exact Ext.refl _ | with_reducible refine Ext.drewN ?_ _ | with_reducible refine Ext.drew ?_ | with_reducible refine Ext.alloc ?_ _ | (with_reducible refine Ext.setCell ?_ ?_ _; rotate_left; (first | exact Nat.le_refl _ | (dsimp only; omega) | (simp only [wsz]; omega))) | (with_reducible refine Ext.trans ?_ (by with_reducible assumption))))).mono ?_
  rintro e1 w1 ⟨_, rfl, hA, hx1⟩
  have hA0 := hA
  obtain ⟨D3, e3, A3, f3, C3, g3, rfl, -⟩ := hA
  have b6 : Box w1 (w.heap.size + 1 + 1) 29 #[.int .i64 0, .bool false, .slice none 0 0, .slice none 0 0, .bool false, .slice none 0 0] := Box.ext (Box.new_at _ _ _ (by simp only [wsz])) hx1
  have b6r := b6.rules; have b6l := b6.lt
  have hE1 : Ext w w1 := ((Ext.refl w).alloc _ |>.alloc _ |>.alloc _).trans hx1
  go_wp2_with fail
  (refine bodyPost_ret (v := ?_) ?_ rfl ?_; rotate_left; (simp only [results, Tryz.results22]; go_simp; (first | done | with_reducible rfl)))
  refine ⟨_, rfl, (hA0.keep ?_).lower ?_, (by repeat (first | with_reducible assumption | with_reducible exact Ext.refl _ | with_reducible refine Ext.drewN ?_ _ | with_reducible refine Ext.drew ?_ | with_reducible refine Ext.alloc ?_ _ | (with_reducible refine Ext.setCell ?_ ?_ _; rotate_left; (first | exact Nat.le_refl _ | (dsimp only; omega) | (simp only [wsz]; omega))) | (with_reducible refine Ext.trans ?_ (by with_reducible assumption))))⟩
  · simp only [wsz]; exact (by repeat (first | with_reducible exact Kp.refl _ | with_reducible refine Kp.drewN ?_ _ | with_reducible refine Kp.drew ?_ | with_reducible refine Kp.alloc ?_ _ | (with_reducible refine Kp.setCell ?_ ?_ _; rotate_left; (first | (dsimp only; omega) | (simp only [wsz]; omega))) | (with_reducible exact Kp.of_ext (by with_reducible assumption)) | (with_reducible refine Kp.ext ?_ (by with_reducible assumption))))
  · simp only [wsz]; omega

set_option maxHeartbeats 6400000 in
theorem anorm_c {v : Value} {a : Ar} {w : World} {X : Nat → Prop} {N : Nat} (h : Av w X v a) (hs : a.sz N) (hN2 : 2 ≤ N) (hN : N ≤ 16777216) :
    Calls Tryz.prog 11 #[v] w fun e w' => ∃ r, e = .returned (.tuple #[r, .int .i64 (normA a).2]) ∧ AvF w' w.heap.size r (normA a).1 ∧ Ext w w' := by
  obtain ⟨kd, d, t⟩ := a
  obtain ⟨D, c, A, e, C, f, rfl, hk, h1, h2, h3⟩ := h
  obtain ⟨hs1, hs2⟩ := hs
  dsimp only at hk h1 h2 h3 hs1 hs2
  have hls := fun (U : World) (hU : Ext w U) => aless_c (N := N) (⟨A, e, C, f, rfl, h2.ext hU, Nl.ext h3 hU⟩ : Tv U X (.agg #[.slice A t.ps.length e, .bool t.k.neg, .slice C t.k.mag.length f]) t) hs2 (by omega)
  have hpt := fun (U : World) (hU : Ext w U) (not : Bool) => partedR_c (N := N) (not := not) (⟨D, c, rfl, Nl.ext h1 hU⟩ : Zi U X (.agg #[.bool d.neg, .slice D d.mag.length c]) d) (⟨A, e, C, f, rfl, h2.ext hU, Nl.ext h3 hU⟩ : Tv U X (.agg #[.slice A t.ps.length e, .bool t.k.neg, .slice C t.k.mag.length f]) t) hs1 hs2 hN2 hN
  have HLS := Lib.hid hls; have HPT := Lib.hid hpt
  clear hls hpt
  by_cases k0 : kd = 0
  · subst k0
    go_enter Tryz.func11, Tryz.ntmps11
    go_wp2_with fail
    (refine bodyPost_ret (v := ?_) ?_ rfl ?_; rotate_left; (simp only [results, Tryz.results11]; go_simp; (first | done | with_reducible rfl)))
    exact ⟨_, rfl, AvF.const _ _ false rfl, (by repeat (first | with_reducible assumption | with_reducible exact Ext.refl _ | with_reducible refine Ext.drewN ?_ _ | with_reducible refine Ext.drew ?_ | with_reducible refine Ext.alloc ?_ _ | (with_reducible refine Ext.setCell ?_ ?_ _; rotate_left; (first | exact Nat.le_refl _ | (dsimp only; omega) | (simp only [wsz]; omega))) | (with_reducible refine Ext.trans ?_ (by with_reducible assumption))))⟩
  by_cases k1 : kd = 1
  · subst k1
    go_enter Tryz.func11, Tryz.ntmps11
    go_wp2_with fail
    (refine bodyPost_ret (v := ?_) ?_ rfl ?_; rotate_left; (simp only [results, Tryz.results11]; go_simp; (first | done | with_reducible rfl)))
    exact ⟨_, rfl, AvF.const _ _ true rfl, (by repeat (first | with_reducible assumption | with_reducible exact Ext.refl _ | with_reducible refine Ext.drewN ?_ _ | with_reducible refine Ext.drew ?_ | with_reducible refine Ext.alloc ?_ _ | (with_reducible refine Ext.setCell ?_ ?_ _; rotate_left; (first | exact Nat.le_refl _ | (dsimp only; omega) | (simp only [wsz]; omega))) | (with_reducible refine Ext.trans ?_ (by with_reducible assumption))))⟩
  by_cases k2 : kd = 2
  · subst k2
    have hR : normA ⟨2, d, t⟩ = (lessA (vl t.ps) t.k.v, 0) := rfl
    rw [hR]
    clear hR
    go_enter Tryz.func11, Tryz.ntmps11
    go_wp2_with fail
    refine (HLS.out _ (by repeat (first | with_reducible assumption | with_reducible exact Ext.refl _ | with_reducible refine Ext.drewN ?_ _ | with_reducible refine Ext.drew ?_ | with_reducible refine Ext.alloc ?_ _ | (with_reducible refine Ext.setCell ?_ ?_ _; rotate_left; (first | exact Nat.le_refl _ | (dsimp only; omega) | (simp only [wsz]; omega))) | (with_reducible refine Ext.trans ?_ (by with_reducible assumption))))).mono ?_
    rintro e1 w1 ⟨_, rfl, hA, hx1⟩
    have hA0 := hA
    obtain ⟨D3, e3, A3, f3, C3, g3, rfl, -⟩ := hA
    have b6 : Box w1 (w.heap.size + 1) 29 #[.int .i64 0, .bool false, .slice none 0 0, .slice none 0 0, .bool false, .slice none 0 0] := Box.ext (Box.new_at _ _ _ (by simp only [wsz])) hx1
    have b6r := b6.rules; have b6l := b6.lt
    have hE1 : Ext w w1 := ((Ext.refl w).alloc _ |>.alloc _).trans hx1
    go_wp2_with fail
    (refine bodyPost_ret (v := ?_) ?_ rfl ?_; rotate_left; (simp only [results, Tryz.results11]; go_simp; (first | done | with_reducible rfl)))
    refine ⟨_, rfl, (hA0.keep ?_).lower ?_, (by repeat (first | with_reducible assumption | with_reducible exact Ext.refl _ | with_reducible refine Ext.drewN ?_ _ | with_reducible refine Ext.drew ?_ | with_reducible refine Ext.alloc ?_ _ | (with_reducible refine Ext.setCell ?_ ?_ _; rotate_left; (first | exact Nat.le_refl _ | (dsimp only; omega) | (simp only [wsz]; omega))) | (with_reducible refine Ext.trans ?_ (by with_reducible assumption))))⟩
    · simp only [wsz]; exact (by repeat (first | with_reducible exact Kp.refl _ | with_reducible refine Kp.drewN ?_ _ | with_reducible refine Kp.drew ?_ | with_reducible refine Kp.alloc ?_ _ | (with_reducible refine Kp.setCell ?_ ?_ _; rotate_left; (first | (dsimp only; omega) | (simp only [wsz]; omega))) | (with_reducible exact Kp.of_ext (by with_reducible assumption)) | (with_reducible refine Kp.ext ?_ (by with_reducible assumption))))
    · simp only [wsz]; omega
  by_cases k3 : kd = 3
  · subst k3
    have hR : normA ⟨3, d, t⟩ = partedR d.v (vl t.ps) t.k.v false := rfl
    rw [hR]
    clear hR
    obtain ⟨R, hR⟩ : ∃ R, R = partedR d.v (vl t.ps) t.k.v false := ⟨_, rfl⟩
    have hpt := fun (U : World) (hU : Ext w U) => HPT.out U hU false
    simp only [← hR] at hpt ⊢
    have HPT := Lib.hid hpt
    clear hpt hR
    go_enter Tryz.func11, Tryz.ntmps11
    go_wp2_with fail
    refine (HPT.out _ (by repeat (first | with_reducible assumption | with_reducible exact Ext.refl _ | with_reducible refine Ext.drewN ?_ _ | with_reducible refine Ext.drew ?_ | with_reducible refine Ext.alloc ?_ _ | (with_reducible refine Ext.setCell ?_ ?_ _; rotate_left; (first | exact Nat.le_refl _ | (dsimp only; omega) | (simp only [wsz]; omega))) | (with_reducible refine Ext.trans ?_ (by with_reducible assumption))))).mono ?_
    rintro e1 w1 ⟨_, rfl, hA, hx1⟩
    have hA0 := hA
    obtain ⟨D3, e3, A3, f3, C3, g3, rfl, -⟩ := hA
    have b6 : Box w1 (w.heap.size + 1) 29 #[.int .i64 0, .bool false, .slice none 0 0, .slice none 0 0, .bool false, .slice none 0 0] := Box.ext (Box.new_at _ _ _ (by simp only [wsz])) hx1
    have b6r := b6.rules; have b6l := b6.lt
    have hE1 : Ext w w1 := ((Ext.refl w).alloc _ |>.alloc _).trans hx1
    go_wp2_with fail
    (refine bodyPost_ret (v := ?_) ?_ rfl ?_; rotate_left; (simp only [results, Tryz.results11]; go_simp; (first | done | with_reducible rfl)))
    refine ⟨_, rfl, (hA0.keep ?_).lower ?_, (by repeat (first | with_reducible assumption | with_reducible exact Ext.refl _ | with_reducible refine Ext.drewN ?_ _ | with_reducible refine Ext.drew ?_ | with_reducible refine Ext.alloc ?_ _ | (with_reducible refine Ext.setCell ?_ ?_ _; rotate_left; (first | exact Nat.le_refl _ | (dsimp only; omega) | (simp only [wsz]; omega))) | (with_reducible refine Ext.trans ?_ (by with_reducible assumption))))⟩
    · simp only [wsz]; exact (by repeat (first | with_reducible exact Kp.refl _ | with_reducible refine Kp.drewN ?_ _ | with_reducible refine Kp.drew ?_ | with_reducible refine Kp.alloc ?_ _ | (with_reducible refine Kp.setCell ?_ ?_ _; rotate_left; (first | (dsimp only; omega) | (simp only [wsz]; omega))) | (with_reducible exact Kp.of_ext (by with_reducible assumption)) | (with_reducible refine Kp.ext ?_ (by with_reducible assumption))))
    · simp only [wsz]; omega
  by_cases k4 : kd = 4
  · subst k4
    have hR : normA ⟨4, d, t⟩ = partedR d.v (vl t.ps) t.k.v true := rfl
    rw [hR]
    clear hR
    obtain ⟨R, hR⟩ : ∃ R, R = partedR d.v (vl t.ps) t.k.v true := ⟨_, rfl⟩
    have hpt := fun (U : World) (hU : Ext w U) => HPT.out U hU true
    simp only [← hR] at hpt ⊢
    have HPT := Lib.hid hpt
    clear hpt hR
    go_enter Tryz.func11, Tryz.ntmps11
    go_wp2_with fail
    refine (HPT.out _ (by repeat (first | with_reducible assumption | with_reducible exact Ext.refl _ | with_reducible refine Ext.drewN ?_ _ | with_reducible refine Ext.drew ?_ | with_reducible refine Ext.alloc ?_ _ | (with_reducible refine Ext.setCell ?_ ?_ _; rotate_left; (first | exact Nat.le_refl _ | (dsimp only; omega) | (simp only [wsz]; omega))) | (with_reducible refine Ext.trans ?_ (by with_reducible assumption))))).mono ?_
    rintro e1 w1 ⟨_, rfl, hA, hx1⟩
    have hA0 := hA
    obtain ⟨D3, e3, A3, f3, C3, g3, rfl, -⟩ := hA
    have b6 : Box w1 (w.heap.size + 1) 29 #[.int .i64 0, .bool false, .slice none 0 0, .slice none 0 0, .bool false, .slice none 0 0] := Box.ext (Box.new_at _ _ _ (by simp only [wsz])) hx1
    have b6r := b6.rules; have b6l := b6.lt
    have hE1 : Ext w w1 := ((Ext.refl w).alloc _ |>.alloc _).trans hx1
    go_wp2_with fail
    (refine bodyPost_ret (v := ?_) ?_ rfl ?_; rotate_left; (simp only [results, Tryz.results11]; go_simp; (first | done | with_reducible rfl)))
    refine ⟨_, rfl, (hA0.keep ?_).lower ?_, (by repeat (first | with_reducible assumption | with_reducible exact Ext.refl _ | with_reducible refine Ext.drewN ?_ _ | with_reducible refine Ext.drew ?_ | with_reducible refine Ext.alloc ?_ _ | (with_reducible refine Ext.setCell ?_ ?_ _; rotate_left; (first | exact Nat.le_refl _ | (dsimp only; omega) | (simp only [wsz]; omega))) | (with_reducible refine Ext.trans ?_ (by with_reducible assumption))))⟩
    · simp only [wsz]; exact (by repeat (first | with_reducible exact Kp.refl _ | with_reducible refine Kp.drewN ?_ _ | with_reducible refine Kp.drew ?_ | with_reducible refine Kp.alloc ?_ _ | (with_reducible refine Kp.setCell ?_ ?_ _; rotate_left; (first | (dsimp only; omega) | (simp only [wsz]; omega))) | (with_reducible exact Kp.of_ext (by with_reducible assumption)) | (with_reducible refine Kp.ext ?_ (by with_reducible assumption))))
    · simp only [wsz]; omega
  have j0 : ((kd : Int) == 0) = false := by simpa using k0
  have j1 : ((kd : Int) == 1) = false := by simpa using k1
  have j2 : ((kd : Int) == 2) = false := by simpa using k2
  have j3 : ((kd : Int) == 3) = false := by simpa using k3
  have j4 : ((kd : Int) == 4) = false := by simpa using k4
  have hR : normA ⟨kd, d, t⟩ = (constA false, 1) := by
    unfold normA
    dsimp only
    rw [if_neg (by omega), if_neg k2, if_neg (by omega)]
  rw [hR]
  clear hR
  go_enter Tryz.func11, Tryz.ntmps11
  go_wp2_with fail
  (refine bodyPost_ret (v := ?_) ?_ rfl ?_; rotate_left; (simp only [results, Tryz.results11]; go_simp; (first | done | with_reducible rfl)))
  exact ⟨_, rfl, AvF.const _ _ false rfl, (by repeat (first | with_reducible assumption | with_reducible exact Ext.refl _ | with_reducible refine Ext.drewN ?_ _ | with_reducible refine Ext.drew ?_ | with_reducible refine Ext.alloc ?_ _ | (with_reducible refine Ext.setCell ?_ ?_ _; rotate_left; (first | exact Nat.le_refl _ | (dsimp only; omega) | (simp only [wsz]; omega))) | (with_reducible refine Ext.trans ?_ (by with_reducible assumption))))⟩

end Go.Proofs.YthmjgbkakjpfkaaGreatDoor

namespace Go.Proofs.YthmjgbkakjpfkaaGreatDoor

theorem ct_sz_canon {l : List (Int × Int)} {k : Int} {M : Nat} (h : Canon l) (hl : l.length ≤ M) (hc : ∀ p ∈ l, zl p.2 ≤ M) (hk : zl k ≤ M) : (ct l k).sz M := by
  unfold ct
  rw [cn_canon h]
  refine ⟨by rw [cl_len]; exact hl, fun p hp => ?_, by rw [cz_len]; exact hk⟩
  obtain ⟨q, hq, rfl⟩ := List.mem_map.1 hp
  exact hc q hq
theorem lessA_sz {l : List (Int × Int)} {k : Int} {N : Nat} (hN : 2 ≤ N) (hl : l.length ≤ N) (hc : ∀ p ∈ l, zl p.2 ≤ N) (hk : zl k ≤ N) : (lessA l k).sz (2 * N) := by
  unfold lessA
  split
  · exact ⟨Nat.zero_le _, Nat.zero_le _, fun _ h => (List.not_mem_nil h).elim, Nat.zero_le _⟩
  · rename_i h
    refine ⟨Nat.zero_le _, ?_⟩
    obtain ⟨g, hg⟩ : ∃ g, g = gcdL ((cn l).map Prod.snd) := ⟨_, rfl⟩
    have hne : cn l ≠ [] := fun e => h (by rw [e]; rfl)
    obtain ⟨p, hp⟩ := List.exists_mem_of_ne_nil _ hne
    have hg0 : 0 < g := by rw [hg]; exact gcdL_pos0 (List.mem_map.2 ⟨p, hp, rfl⟩) ((canon_cn l).2 p hp)
    have hgi : (0 : Int) < (g : Int) := by omega
    rw [← hg]
    have hz := zl_cn hc
    refine ct_sz_canon (canon_fm (canon_cn l) fun q hq e => ?_) (by rw [fm_len]; have := cn_len l; omega) (fun q hq => ?_) ?_
    · obtain ⟨y, hy⟩ : (g : Int) ∣ q.2 := by rw [hg]; exact gcdL_mem (List.mem_map.2 ⟨q, hq, rfl⟩)
      have h3 : q.2.fdiv (g : Int) = y := by rw [hy]; exact Int.mul_fdiv_cancel_left _ (by omega)
      have h4 : y = 0 := by rw [← h3]; exact e
      exact (canon_cn l).2 q hq (by rw [hy, h4, Int.mul_zero])
    · obtain ⟨q0, hq0, rfl⟩ := List.mem_map.1 hq
      exact fdiv_zl hgi (by have := hz q0 hq0; omega)
    · have h1 : zl (k - 1) ≤ N + 1 := zl_sub hk (Nat.le_trans (show zl 1 ≤ 1 by decide) (by omega))
      have h2 : zl ((k - 1).fdiv (g : Int)) ≤ N + 1 := fdiv_zl hgi h1
      have h3 : zl ((k - 1).fdiv (g : Int) + 1) ≤ N + 1 + 1 := zl_add h2 (Nat.le_trans (show zl 1 ≤ 1 by decide) (by omega))
      omega
theorem partedA_sz {d : Int} {l : List (Int × Int)} {k : Int} {not : Bool} {N : Nat} (h0 : d ≠ 0) (hl : l.length ≤ N) (hd : zl d ≤ N) : (partedA d l k not).sz (2 * N) := by
  have hcs : ∀ b, (constA b).sz (2 * N) := fun b => ⟨Nat.zero_le _, Nat.zero_le _, fun _ h => (List.not_mem_nil h).elim, Nat.zero_le _⟩
  unfold partedA
  obtain ⟨m, hm⟩ : ∃ m : Int, m = (d.natAbs : Nat) := ⟨_, rfl⟩
  have hm0 : 0 < m := by omega
  have hmz : zl m ≤ N := by rw [hm]; unfold zl at hd ⊢; rwa [Int.natAbs_natCast]
  rw [← hm]
  obtain ⟨n1, hn1⟩ : ∃ n, n = cn (fm (·.fmod m) (cn l)) := ⟨_, rfl⟩
  have hn1l : n1.length ≤ N := by rw [hn1]; have h1 := cn_len (fm (·.fmod m) (cn l)); rw [fm_len] at h1; have h2 := cn_len l; omega
  rw [← hn1]
  obtain ⟨g, hg⟩ : ∃ g, g = gcdL (n1.map Prod.snd ++ [m]) := ⟨_, rfl⟩
  have hg0 : 0 < g := by rw [hg]; exact gcdL_pos0 (List.mem_append_right _ (List.mem_singleton.2 rfl)) (by omega)
  have hgi : (0 : Int) < (g : Int) := by omega
  obtain ⟨d2, hd2⟩ : (g : Int) ∣ m := by rw [hg]; exact gcdL_mem (List.mem_append_right _ (List.mem_singleton.2 rfl))
  have e2 : m.fdiv (g : Int) = d2 := by rw [hd2]; exact Int.mul_fdiv_cancel_left _ (by omega)
  have hd20 : 0 < d2 := pos_of_mul (by rw [← hd2]; exact hm0) hgi
  have hd2z : zl d2 ≤ N := by rw [← e2]; exact fdiv_zl hgi hmz
  have hk1 : zl (k.fmod m) ≤ N := Nat.le_trans (fmod_zl hm0 hmz) (Nat.le_refl _)
  rw [← hg]
  unfold partedB
  split
  · exact hcs _
  split
  · exact hcs _
  split
  · exact hcs _
  rw [e2]
  refine ⟨by rw [cz_len]; omega, ?_⟩
  unfold lesser
  have hn2l : (cn (fm (·.fdiv (g : Int)) n1)).length ≤ N := by have h1 := cn_len (fm (·.fdiv (g : Int)) n1); rw [fm_len] at h1; omega
  dsimp only
  split
  · rw [show 2 * N = N + N by omega]
    refine ct_sz ?_ (fun q hq => ?_) ?_
    · rw [fm_len]
      have h1 := cn_len (sc (-1) (cn (fm (·.fdiv (g : Int)) n1)))
      rw [sc_len] at h1
      omega
    · obtain ⟨q0, hq0, rfl⟩ := List.mem_map.1 hq
      exact fmod_zl hd20 hd2z
    · exact Nat.le_trans (fmod_zl hd20 hd2z) (by omega)
  · have hn1z : ∀ p ∈ n1, zl p.2 ≤ N := fun p hp => by
      rw [hn1] at hp
      obtain ⟨hp1, -⟩ := mem_cn (rise_fm _ (canon_cn l).1) hp
      obtain ⟨q, -, rfl⟩ := List.mem_map.1 hp1
      exact fmod_zl hm0 hmz
    have hc2 : ∀ p ∈ cn (fm (·.fdiv (g : Int)) n1), zl p.2 ≤ N := fun p hp => by
      obtain ⟨hp1, -⟩ := mem_cn (rise_fm _ (by rw [hn1]; exact (canon_cn _).1)) hp
      obtain ⟨q, hq, rfl⟩ := List.mem_map.1 hp1
      exact fdiv_zl hgi (hn1z q hq)
    exact ct_sz_canon (canon_cn _) (by omega) (fun p hp => by have := hc2 p hp; omega) (Nat.le_trans (fdiv_zl hgi hk1) (by omega))
theorem normA_sz {a : Ar} {N : Nat} (hN : 2 ≤ N) (hs : a.sz N) (hd : Lb a.d.mag) (ht : a.t.lb) : (normA a).1.sz (2 * N) := by
  have hcs : ∀ b, (constA b).sz (2 * N) := fun b => ⟨Nat.zero_le _, Nat.zero_le _, fun _ h => (List.not_mem_nil h).elim, Nat.zero_le _⟩
  obtain ⟨s0, s1, s2, s3⟩ := hs
  have hzd : zl a.d.v ≤ N := Nat.le_trans (zl_of hd) s0
  have hzk : zl a.t.k.v ≤ N := Nat.le_trans (zl_of ht.2) s3
  have hzv := zl_vl ht.1 s2
  unfold normA
  split
  · exact hcs _
  split
  · exact lessA_sz hN (by rw [vl_len]; exact s1) hzv hzk
  split
  · split
    · exact hcs _
    · rename_i h
      exact partedA_sz h (by rw [vl_len]; exact s1) hzd
  · exact hcs _
theorem normA_kd (a : Ar) : (normA a).1.kd = 0 ∨ (normA a).1.kd = 1 ∨ (normA a).1.kd = 2 ∨ (normA a).1.kd = 3 ∨ (normA a).1.kd = 4 := by
  rcases normA_fine a with ⟨b, h⟩ | ⟨-, h, -⟩
  · rw [h]; cases b <;> simp [constA]
  · rcases h with ⟨h, -⟩ | ⟨h | h, -⟩ <;> simp [h]

end Go.Proofs.YthmjgbkakjpfkaaGreatDoor
