/- zint.DivMod by nought; riddlelaw06.means; atom.Order and Valid of a form. No conditions. -/
import Derived.Test.YthmjgbkakjpfkaaGreatDoorGMeansAb
namespace Go.Proofs.YthmjgbkakjpfkaaGreatDoor
open Go.RowKit

set_option maxHeartbeats 3200000 in
theorem zdivg0_c {u v : Value} {a b : Z} {w : World} {X Y : Nat → Prop} (ha : Zi w X u a) (hb : Zi w Y v b) (hy0 : b.v = 0) (hL : a.mag.length ≤ 1099511627770) (hLb : b.mag.length ≤ 1099511627770) :
    Calls Tryz.prog 86 #[u, v] w fun e w' => e = .returned (.tuple #[.agg #[.bool false, .slice none 0 0], .agg #[.bool false, .slice none 0 0], .int .i64 11]) ∧ Ext w w' := by
  have hna := fun W (h : Ext w W) => znorm_c (ha.ext h) (by omega)
  have hnb := fun W (h : Ext w W) => znorm_c (hb.ext h) (by omega)
  rw [hy0] at hnb
  obtain ⟨x, hx⟩ : ∃ z, z = cz a.v := ⟨_, rfl⟩
  obtain ⟨y, hy⟩ : ∃ z, z = cz 0 := ⟨_, rfl⟩
  have hym : nv y.mag = 0 := by rw [hy]; rfl
  rw [← hx] at hna
  rw [← hy] at hnb
  have HNA := Lib.hid hna; have HNB := Lib.hid hnb; have HYM := Lib.hid hym
  clear hna hnb hx hy hym
  obtain ⟨A, c, rfl, ha⟩ := ha
  obtain ⟨B, d, rfl, hb⟩ := hb
  go_enter Tryz.func86, Tryz.ntmps86
  go_wp2_with fail
  refine wp_named fun W hW => ?_
  have b2 : Box W w.heap.size 24 #[.bool a.neg, .slice A a.mag.length c] := by rw [hW]; exact (by repeat (first | with_reducible assumption | with_reducible exact Box.new _ _ _ | (with_reducible refine Box.new_at _ _ _ ?_; (simp only [wsz]; done)) | with_reducible refine Box.drewN ?_ _ | with_reducible refine Box.drew ?_ | with_reducible refine Box.alloc ?_ _ | with_reducible apply Box.drewN | with_reducible apply Box.drew | with_reducible apply Box.alloc | with_reducible refine Box.set_ ?_ _ _ | (with_reducible refine Box.far ?_ ?_ _; rotate_left; (simp only [ne_eq]; omega)) | (with_reducible refine Box.ext ?_ (by with_reducible assumption)) | (refine Box.new_at _ _ _ ?_; simp only [wsz]; done)))
  have b3 : Box W (w.heap.size + 1) 24 #[.bool b.neg, .slice B b.mag.length d] := by rw [hW]; exact (by repeat (first | with_reducible assumption | with_reducible exact Box.new _ _ _ | (with_reducible refine Box.new_at _ _ _ ?_; (simp only [wsz]; done)) | with_reducible refine Box.drewN ?_ _ | with_reducible refine Box.drew ?_ | with_reducible refine Box.alloc ?_ _ | with_reducible apply Box.drewN | with_reducible apply Box.drew | with_reducible apply Box.alloc | with_reducible refine Box.set_ ?_ _ _ | (with_reducible refine Box.far ?_ ?_ _; rotate_left; (simp only [ne_eq]; omega)) | (with_reducible refine Box.ext ?_ (by with_reducible assumption)) | (refine Box.new_at _ _ _ ?_; simp only [wsz]; done)))
  have b4 : Box W (w.heap.size + 1 + 1) 24 #[.bool false, .slice none 0 0] := by rw [hW]; exact (by repeat (first | with_reducible assumption | with_reducible exact Box.new _ _ _ | (with_reducible refine Box.new_at _ _ _ ?_; (simp only [wsz]; done)) | with_reducible refine Box.drewN ?_ _ | with_reducible refine Box.drew ?_ | with_reducible refine Box.alloc ?_ _ | with_reducible apply Box.drewN | with_reducible apply Box.drew | with_reducible apply Box.alloc | with_reducible refine Box.set_ ?_ _ _ | (with_reducible refine Box.far ?_ ?_ _; rotate_left; (simp only [ne_eq]; omega)) | (with_reducible refine Box.ext ?_ (by with_reducible assumption)) | (refine Box.new_at _ _ _ ?_; simp only [wsz]; done)))
  have b5 : Box W (w.heap.size + 1 + 1 + 1) 24 #[.bool false, .slice none 0 0] := by rw [hW]; exact (by repeat (first | with_reducible assumption | with_reducible exact Box.new _ _ _ | (with_reducible refine Box.new_at _ _ _ ?_; (simp only [wsz]; done)) | with_reducible refine Box.drewN ?_ _ | with_reducible refine Box.drew ?_ | with_reducible refine Box.alloc ?_ _ | with_reducible apply Box.drewN | with_reducible apply Box.drew | with_reducible apply Box.alloc | with_reducible refine Box.set_ ?_ _ _ | (with_reducible refine Box.far ?_ ?_ _; rotate_left; (simp only [ne_eq]; omega)) | (with_reducible refine Box.ext ?_ (by with_reducible assumption)) | (refine Box.new_at _ _ _ ?_; simp only [wsz]; done)))
  have hE : Ext w W := by rw [hW]; exact (by repeat (first | with_reducible assumption | with_reducible exact Ext.refl _ | with_reducible refine Ext.drewN ?_ _ | with_reducible refine Ext.drew ?_ | with_reducible refine Ext.alloc ?_ _ | (with_reducible refine Ext.setCell ?_ ?_ _; rotate_left; (first | exact Nat.le_refl _ | (dsimp only; omega) | (simp only [wsz]; omega))) | (with_reducible refine Ext.trans ?_ (by with_reducible assumption))))
  clear hW
  have b2r := b2.rules; have b2l := b2.lt
  have b3r := b3.rules; have b3l := b3.lt
  have b5l := b5.lt
  refine wp_region_late [(0, true), (2, true), (1, false), (3, false)] [4, 5] rfl (by kernel_rfl) (by intro _ _ d _ _ h; cases d <;> exact h) ?_
  (repeat (refine sh_take (v := ?_) rfl rfl ?_ ?_; rotate_left; (intro w' hx'; have hc' := hx'.cells.1; (try simp only [wcd] at hc'); go_simp; (first | done | with_reducible rfl)); (try simp only [Act.put, List.setIfInBounds_toArray, List.set_cons_zero, List.set_cons_succ])))
  (refine sh_loud rfl rfl fun K hK => ?_; go_simp)
  refine (HNA.out _ (hE.trans (by repeat (first | with_reducible assumption | with_reducible exact Ext.refl _ | with_reducible refine Ext.drewN ?_ _ | with_reducible refine Ext.drew ?_ | with_reducible refine Ext.alloc ?_ _ | (with_reducible refine Ext.setCell ?_ ?_ _; rotate_left; (first | exact Nat.le_refl _ | (dsimp only; omega) | (simp only [wsz]; omega))) | (with_reducible refine Ext.trans ?_ (by with_reducible assumption)))))).mono ?_
  rintro e w1 ⟨r1, rfl, ⟨A1, c1, rfl, hN1⟩, hx1⟩
  (refine hK _ _ (by repeat (first | with_reducible assumption | with_reducible exact Ext.refl _ | with_reducible refine Ext.drewN ?_ _ | with_reducible refine Ext.drew ?_ | with_reducible refine Ext.alloc ?_ _ | (with_reducible refine Ext.setCell ?_ ?_ _; rotate_left; (first | exact Nat.le_refl _ | (dsimp only; omega) | (simp only [wsz]; omega))) | (with_reducible refine Ext.trans ?_ (by with_reducible assumption)))) ?_; clear hK K)
  (refine sh_loud rfl rfl fun K hK => ?_; go_simp)
  refine (HNB.out _ (hE.trans (by repeat (first | with_reducible assumption | with_reducible exact Ext.refl _ | with_reducible refine Ext.drewN ?_ _ | with_reducible refine Ext.drew ?_ | with_reducible refine Ext.alloc ?_ _ | (with_reducible refine Ext.setCell ?_ ?_ _; rotate_left; (first | exact Nat.le_refl _ | (dsimp only; omega) | (simp only [wsz]; omega))) | (with_reducible refine Ext.trans ?_ (by with_reducible assumption)))))).mono ?_
  rintro e w2 ⟨r2, rfl, ⟨A2, c2, rfl, hN2⟩, hx2⟩
  (refine hK _ _ (by repeat (first | with_reducible assumption | with_reducible exact Ext.refl _ | with_reducible refine Ext.drewN ?_ _ | with_reducible refine Ext.drew ?_ | with_reducible refine Ext.alloc ?_ _ | (with_reducible refine Ext.setCell ?_ ?_ _; rotate_left; (first | exact Nat.le_refl _ | (dsimp only; omega) | (simp only [wsz]; omega))) | (with_reducible refine Ext.trans ?_ (by with_reducible assumption)))) ?_; clear hK K)
  refine sh_done ?_
  have hx12 : Ext W w2 := (Ext.refl W).drew.trans (hx1.trans hx2)
  have q2 := b2.ext hx12; have q3 := b3.ext hx12; have q4 := b4.ext hx12; have q5 := b5.ext hx12
  have q2r := q2.rules; have q2l := q2.lt
  have q3r := q3.rules; have q3l := q3.lt
  clear b2r b3r
  have hN1 := hN1.ext hx2
  have hE2 := hE.trans hx12
  have hs1 := hx1.size; have hs2 := hx2.size; have hsw := hE.size
  simp only [wsz] at hs1
  (refine sh_late rfl rfl fun K hK => ?_; go_simp; refine hK _ _ ?_; clear hK K)
  (refine sh_late rfl rfl fun K hK => ?_; go_simp; refine hK _ _ ?_; clear hK K)
  refine sh_end ?_
  refine x_named fun U hU => ?_
  have k2 : Box U w.heap.size 24 #[.bool x.neg, .slice A1 x.mag.length c1] := by rw [hU]; exact (((q2.set_ 0 _).set_ 1 _).far (by simp only; omega) _).far (by simp only; omega) _
  have k3 : Box U (w.heap.size + 1) 24 #[.bool y.neg, .slice A2 y.mag.length c2] := by rw [hU]; exact (((q3.far (by simp only; omega) _).far (by simp only; omega) _).set_ 0 _).set_ 1 _
  have k4 : Box U (w.heap.size + 1 + 1) 24 #[.bool false, .slice none 0 0] := by rw [hU]; exact (((q4.far (by simp only; omega) _).far (by simp only; omega) _).far (by simp only; omega) _).far (by simp only; omega) _
  have k5 : Box U (w.heap.size + 1 + 1 + 1) 24 #[.bool false, .slice none 0 0] := by rw [hU]; exact (((q5.far (by simp only; omega) _).far (by simp only; omega) _).far (by simp only; omega) _).far (by simp only; omega) _
  have hEU : Ext w U := by rw [hU]; exact (((hE2.setCell (by simp only; omega) _).setCell (by simp only; omega) _).setCell (by simp only; omega) _).setCell (by simp only; omega) _
  have kU : Kp (fun b => w.heap.size + 3 < b) w2 U := by rw [hU]; exact ((((Kp.refl w2).setCell (by simp only; omega) _).setCell (by simp only; omega) _).setCell (by simp only; omega) _).setCell (by simp only; omega) _
  have hN1 : Nl U (fun b => w.heap.size + 3 < b) A1 c1 x.mag := Nl.keep (hN1.widen fun b hb _ => by have h : W.heap.size ≤ b := hb; omega) kU
  have hN2 : Nl U (fun b => w.heap.size + 3 < b) A2 c2 y.mag := Nl.keep (hN2.widen fun b hb _ => by have h : w1.heap.size ≤ b := hb; have h1 : W.heap.size ≤ w1.heap.size := hx1.size; omega) kU
  clear hU q2 q3 q4 q5 q2r q2l q3r q3l kU
  have k2r := k2.rules; have k2l := k2.lt; have k3r := k3.rules; have k3l := k3.lt; have k4r := k4.rules; have k4l := k4.lt; have k5r := k5.rules; have k5l := k5.lt
  have hd0 := div0_c hN1 hN2 HYM.out
  have HD0 := Lib.hid hd0
  clear hd0
  go_wp2_with fail
  refine HD0.out.mono ?_
  rintro e3 w3 ⟨rfl, rfl⟩
  go_wp2_with fail
  go_region
  all_goals (go_wp2_with fail)
  all_goals ((refine bodyPost_ret (v := ?_) ?_ rfl ?_; rotate_left; (simp only [results, Tryz.results86]; go_simp; (first | done | with_reducible rfl))))
  all_goals (exact ⟨rfl, (by repeat (first | with_reducible assumption | with_reducible exact Ext.refl _ | with_reducible refine Ext.drewN ?_ _ | with_reducible refine Ext.drew ?_ | with_reducible refine Ext.alloc ?_ _ | (with_reducible refine Ext.setCell ?_ ?_ _; rotate_left; (first | exact Nat.le_refl _ | (dsimp only; omega) | (simp only [wsz]; omega))) | (with_reducible refine Ext.trans ?_ (by with_reducible assumption))))⟩)

/-- What a raw atom says under values, out of its fields alone. -/
def meansR (a : Ar) (vals : List (Int × Z)) : Bool × Bool :=
  if a.kd = 0 ∨ a.kd = 1 then (decide (a.kd = 1), true)
  else if cov vals (cn (vl a.t.ps)) = true ∧ (a.kd = 2 ∨ ((a.kd = 3 ∨ a.kd = 4) ∧ a.d.v ≠ 0)) then (holdsA a (tev (fv vals) a.t), true)
  else if cov vals (cn (vl a.t.ps)) = true ∧ (a.kd = 3 ∨ a.kd = 4) then (decide (a.kd = 3), false)
  else (false, false)

set_option maxHeartbeats 3200000 in
theorem aorder_form_c {u v : Value} {n : Ar} {w : World} {X Y : Nat → Prop} {N : Nat} (ha : Av w X u n) (hb : Av w Y v n) (hs : n.sz N) (hN : N ≤ 1073741824) :
    Calls Tryz.prog 29 #[u, v] w fun e w' => e = .returned (.int .i64 0) ∧ Ext w w' := by
  have f3 : ordT n.t n.t = 0 := ordT_zero.2 ⟨rfl, rfl⟩
  obtain ⟨D1, c1, A1, e1, C1, g1, rfl, hk, a1, a2, a3⟩ := ha
  obtain ⟨D2, c2, A2, e2, C2, g2, rfl, -, b1, b2, b3⟩ := hb
  have hcm := fun (U : World) (hU : Ext w U) => zcmp_c (⟨D1, c1, rfl, Nl.ext a1 hU⟩ : Zi U X (.agg #[.bool n.d.neg, .slice D1 n.d.mag.length c1]) n.d) (⟨D2, c2, rfl, Nl.ext b1 hU⟩ : Zi U Y (.agg #[.bool n.d.neg, .slice D2 n.d.mag.length c2]) n.d)
  rw [cmpI_eq rfl] at hcm
  have hor := fun (U : World) (hU : Ext w U) => torder_c (⟨A1, e1, C1, g1, rfl, a2.ext hU, Nl.ext a3 hU⟩ : Tv U X (.agg #[.slice A1 n.t.ps.length e1, .bool n.t.k.neg, .slice C1 n.t.k.mag.length g1]) n.t)
    (⟨A2, e2, C2, g2, rfl, b2.ext hU, Nl.ext b3 hU⟩ : Tv U Y (.agg #[.slice A2 n.t.ps.length e2, .bool n.t.k.neg, .slice C2 n.t.k.mag.length g2]) n.t) hN hs.2 hs.2
  rw [f3] at hor
  have HCM := Lib.hid hcm; have HOR := Lib.hid hor
  obtain ⟨kd, hkd⟩ : ∃ k, k = n.kd := ⟨_, rfl⟩
  rw [← hkd]
  clear hcm hor f3 hkd
  go_enter Tryz.func29, Tryz.ntmps29
  go_wp2_with fail
  refine (HCM.out _ (by repeat (first | with_reducible assumption | with_reducible exact Ext.refl _ | with_reducible refine Ext.drewN ?_ _ | with_reducible refine Ext.drew ?_ | with_reducible refine Ext.alloc ?_ _ | (with_reducible refine Ext.setCell ?_ ?_ _; rotate_left; (first | exact Nat.le_refl _ | (dsimp only; omega) | (simp only [wsz]; omega))) | (with_reducible refine Ext.trans ?_ (by with_reducible assumption))))).mono ?_
  rintro e w1 ⟨rfl, hx1⟩
  (have b2' := Box.ext (g := w.heap.size) (by repeat (first | with_reducible assumption | with_reducible exact Box.new _ _ _ | (with_reducible refine Box.new_at _ _ _ ?_; (simp only [wsz]; done)) | with_reducible refine Box.drewN ?_ _ | with_reducible refine Box.drew ?_ | with_reducible refine Box.alloc ?_ _ | with_reducible apply Box.drewN | with_reducible apply Box.drew | with_reducible apply Box.alloc | with_reducible refine Box.set_ ?_ _ _ | (with_reducible refine Box.far ?_ ?_ _; rotate_left; (simp only [ne_eq]; omega)) | (with_reducible refine Box.ext ?_ (by with_reducible assumption)) | (refine Box.new_at _ _ _ ?_; simp only [wsz]; done))) hx1; have b2'r := b2'.rules; have b2'l := b2'.lt)
  (have b3' := Box.ext (g := w.heap.size + 1) (by repeat (first | with_reducible assumption | with_reducible exact Box.new _ _ _ | (with_reducible refine Box.new_at _ _ _ ?_; (simp only [wsz]; done)) | with_reducible refine Box.drewN ?_ _ | with_reducible refine Box.drew ?_ | with_reducible refine Box.alloc ?_ _ | with_reducible apply Box.drewN | with_reducible apply Box.drew | with_reducible apply Box.alloc | with_reducible refine Box.set_ ?_ _ _ | (with_reducible refine Box.far ?_ ?_ _; rotate_left; (simp only [ne_eq]; omega)) | (with_reducible refine Box.ext ?_ (by with_reducible assumption)) | (refine Box.new_at _ _ _ ?_; simp only [wsz]; done))) hx1; have b3'r := b3'.rules; have b3'l := b3'.lt)
  have hE1 : Ext w w1 := (by repeat (first | with_reducible assumption | with_reducible exact Ext.refl _ | with_reducible refine Ext.drewN ?_ _ | with_reducible refine Ext.drew ?_ | with_reducible refine Ext.alloc ?_ _ | (with_reducible refine Ext.setCell ?_ ?_ _; rotate_left; (first | exact Nat.le_refl _ | (dsimp only; omega) | (simp only [wsz]; omega))) | (with_reducible refine Ext.trans ?_ (by with_reducible assumption))))
  clear hx1
  go_wp2_with fail
  refine (HOR.out _ hE1).mono ?_
  rintro e w2 ⟨rfl, hx2⟩
  go_wp2_with fail
  (refine bodyPost_ret (v := ?_) ?_ rfl ?_; rotate_left; (simp only [results, Tryz.results29]; go_simp; (first | done | with_reducible rfl)))
  exact ⟨rfl, hE1.trans hx2⟩

set_option maxHeartbeats 3200000 in
theorem avalid_form_c {v : Value} {n : Ar} {w : World} {X : Nat → Prop} {N : Nat} (ha : Av w X v n) (hF : Form n) (hs : n.sz N) (hN2 : 2 ≤ N) (hN : N ≤ 16777216) :
    Calls Tryz.prog 25 #[v] w fun e w' => e = .returned (.bool true) ∧ Ext w w' := by
  obtain ⟨f1, f2, -, -, -⟩ := form_facts hF
  have hno := fun (U : World) (hU : Ext w U) => anorm_c (ha.ext hU) hs hN2 hN
  rw [form_norm hF] at hno
  have hor := fun (U : World) (Q Q' : Nat → Prop) (r r' : Value) (hr : Av U Q r n) (hr' : Av U Q' r' n) => aorder_form_c hr hr' hs (by omega)
  have hav := fun (U : World) (hU : Ext w U) => ha.ext hU
  obtain ⟨D1, c1, A1, e1, C1, g1, rfl, hk, a1, a2, a3⟩ := ha
  have hzv := fun (U : World) (hU : Ext w U) => zvalid_c (⟨D1, c1, rfl, Nl.ext a1 hU⟩ : Zi U X (.agg #[.bool n.d.neg, .slice D1 n.d.mag.length c1]) n.d)
  rw [f1] at hzv
  have htv := fun (U : World) (hU : Ext w U) => tvalid_c (⟨A1, e1, C1, g1, rfl, a2.ext hU, Nl.ext a3 hU⟩ : Tv U X (.agg #[.slice A1 n.t.ps.length e1, .bool n.t.k.neg, .slice C1 n.t.k.mag.length g1]) n.t)
  rw [f2] at htv
  have HNO := Lib.hid hno; have HOR := Lib.hid hor; have HZV := Lib.hid hzv; have HTV := Lib.hid htv; have HAV := Lib.hid hav
  clear hno hor hzv htv f1 f2 hF hav
  go_enter Tryz.func25, Tryz.ntmps25
  go_wp2_with fail
  refine (HNO.out _ (by repeat (first | with_reducible assumption | with_reducible exact Ext.refl _ | with_reducible refine Ext.drewN ?_ _ | with_reducible refine Ext.drew ?_ | with_reducible refine Ext.alloc ?_ _ | (with_reducible refine Ext.setCell ?_ ?_ _; rotate_left; (first | exact Nat.le_refl _ | (dsimp only; omega) | (simp only [wsz]; omega))) | (with_reducible refine Ext.trans ?_ (by with_reducible assumption))))).mono ?_
  rintro e w1 ⟨_, rfl, hA, hx1⟩
  have hAv := hA.av
  obtain ⟨D2, c2, A2, e2, C2, g2, rfl, hk2, hD, hP, hK⟩ := hAv
  have b1 : Box w1 w.heap.size 29 #[.int .i64 n.kd, .bool n.d.neg, .slice D1 n.d.mag.length c1, .slice A1 n.t.ps.length e1, .bool n.t.k.neg, .slice C1 n.t.k.mag.length g1] := Box.ext (Box.new w _ _) hx1
  have hE1 : Ext w w1 := ((Ext.refl w).alloc _).trans hx1
  go_upto_region 2 with fail
  refine wp_named fun V hV => ?_
  obtain ⟨g3, hg3⟩ : ∃ g, g = w1.heap.size := ⟨_, rfl⟩
  have b3 : Box V g3 29 #[.int .i64 n.kd, .bool n.d.neg, .slice D2 n.d.mag.length c2, .slice A2 n.t.ps.length e2, .bool n.t.k.neg, .slice C2 n.t.k.mag.length g2] := by rw [hV, hg3]; exact Box.new _ _ _
  have hxV : Ext w1 V := by rw [hV]; exact (Ext.refl w1).alloc _
  have hnV : Av V _ (.agg #[.int .i64 n.kd, .bool n.d.neg, .slice D2 n.d.mag.length c2, .slice A2 n.t.ps.length e2, .bool n.t.k.neg, .slice C2 n.t.k.mag.length g2]) n := (⟨D2, c2, A2, e2, C2, g2, rfl, hk2, Nl.ext hD hxV, hP.ext hxV, Nl.ext hK hxV⟩ : Av V (fun b => (w.alloc (.cells #[.int .i64 n.kd, .bool n.d.neg, .slice D1 n.d.mag.length c1, .slice A1 n.t.ps.length e1, .bool n.t.k.neg, .slice C1 n.t.k.mag.length g1] 29)).heap.size ≤ b) _ n)
  have c1' := b1.ext hxV
  have hE := hE1.trans hxV
  rw [← hg3]
  clear hV hg3 hA hD hP hK hxV hx1 hE1 b1
  have c1r := c1'.rules; have c1l := c1'.lt
  go_wp2_with fail
  refine (HZV.out _ hE).mono ?_
  rintro e w2 ⟨rfl, hx2⟩
  have d1 := c1'.ext hx2; have d3 := b3.ext hx2
  clear c1' c1r c1l b3
  have d1r := d1.rules; have d1l := d1.lt
  go_wp2_with fail
  refine (HTV.out _ (hE.trans hx2)).mono ?_
  rintro e w3 ⟨rfl, hx3⟩
  have hx23 := hx2.trans hx3
  have i1 := d1.ext hx3; have i3 := d3.ext hx3
  clear d1 d1r d1l d3
  have i1r := i1.rules; have i1l := i1.lt; have i3r := i3.rules; have i3l := i3.lt
  go_wp2_with fail
  refine (HOR.out _ _ _ _ _ (HAV.out _ (hE.trans hx23)) (hnV.ext hx23)).mono ?_
  rintro e w4 ⟨rfl, hx4⟩
  go_wp2_with fail
  (refine bodyPost_ret (v := ?_) ?_ rfl ?_; rotate_left; (simp only [results, Tryz.results25]; go_simp; (first | done | with_reducible rfl)))
  exact ⟨rfl, (hE.trans hx23).trans hx4⟩

set_option maxRecDepth 100000 in
set_option maxHeartbeats 12800000 in
theorem means_c {v : Value} {a : Ar} {w : World} {X Y : Nat → Prop} {N : Nat} {Av0 : Option Addr} {cv : Nat} {vals : List (Int × Z)} (h : Av w X v a) (hv : Pl w Y Av0 cv vals) (hs : a.sz N) (hvs : ∀ p ∈ vals, p.2.mag.length ≤ N) (hN2 : 2 ≤ N) (hN : N ≤ 16777216) :
    Calls Tryz.prog 36 #[v, .slice Av0 vals.length cv] w fun e w' => e = .returned (.tuple #[.bool (meansR a vals).1, .bool (meansR a vals).2]) ∧ Ext w w' := by
  have hte := fun (U : World) (Q : Nat → Prop) (r : Value) (hU : Ext w U) (hr : Tv U Q r a.t) => teval_c (N := N) hr (hv.ext hU) (by omega) hs.2 hvs
  have hlb : a.t.lb := by
    obtain ⟨D, c, A, e, C, f, -, -, h1, h2, h3⟩ := h
    exact Tv.lb (⟨A, e, C, f, rfl, h2, h3⟩ : Tv w X _ a.t)
  have hxz := tev_sz (N := N) hlb hs.2 (Pl.lb hv) hvs
  obtain ⟨R, hR⟩ : ∃ R, R = meansR a vals := ⟨_, rfl⟩
  rw [← hR]
  unfold meansR at hR
  obtain ⟨cb, hcb⟩ : ∃ b, b = cov vals (cn (vl a.t.ps)) := ⟨_, rfl⟩
  obtain ⟨xv, hxv⟩ : ∃ x, x = tev (fv vals) a.t := ⟨_, rfl⟩
  have hxv2 : a.t.k.v + ev (fv vals) (vl a.t.ps) = xv := by rw [hxv]; unfold tev; omega
  rw [← hcb, ← hxv] at hR
  rw [← hxv] at hxz
  unfold EvR at hte
  rw [← hcb, hxv2] at hte
  obtain ⟨D1, c1, A1, e1, C1, g1, rfl, hk, a1, a2, a3⟩ := h
  obtain ⟨kd, hkd⟩ : ∃ k, k = a.kd := ⟨_, rfl⟩
  unfold holdsA at hR
  rw [← hkd] at hR ⊢
  have hdl := hs.1
  have HTE := Lib.hid hte; have HR := Lib.hid hR
  clear hte hR hcb hxv hxv2 hkd hk hlb
  by_cases k0 : kd = 0
  · have HR2 : R = (false, true) := by rw [HR.out, if_pos (.inl k0), k0]; rfl
    subst HR2
    subst k0
    go_enter Tryz.func36, Tryz.ntmps36
    go_wp2_with fail
    (refine bodyPost_ret (v := ?_) ?_ rfl ?_; rotate_left; (simp only [results, Tryz.results36]; go_simp; (first | done | with_reducible rfl)))
    exact ⟨rfl, (by repeat (first | with_reducible assumption | with_reducible exact Ext.refl _ | with_reducible refine Ext.drewN ?_ _ | with_reducible refine Ext.drew ?_ | with_reducible refine Ext.alloc ?_ _ | (with_reducible refine Ext.setCell ?_ ?_ _; rotate_left; (first | exact Nat.le_refl _ | (dsimp only; omega) | (simp only [wsz]; omega))) | (with_reducible refine Ext.trans ?_ (by with_reducible assumption))))⟩
  by_cases k1 : kd = 1
  · have HR2 : R = (true, true) := by rw [HR.out, if_pos (.inr k1), k1]; rfl
    subst HR2
    subst k1
    go_enter Tryz.func36, Tryz.ntmps36
    go_wp2_with fail
    (refine bodyPost_ret (v := ?_) ?_ rfl ?_; rotate_left; (simp only [results, Tryz.results36]; go_simp; (first | done | with_reducible rfl)))
    exact ⟨rfl, (by repeat (first | with_reducible assumption | with_reducible exact Ext.refl _ | with_reducible refine Ext.drewN ?_ _ | with_reducible refine Ext.drew ?_ | with_reducible refine Ext.alloc ?_ _ | (with_reducible refine Ext.setCell ?_ ?_ _; rotate_left; (first | exact Nat.le_refl _ | (dsimp only; omega) | (simp only [wsz]; omega))) | (with_reducible refine Ext.trans ?_ (by with_reducible assumption))))⟩
  have j0 : ((kd : Int) == 0) = false := by rw [beq_eq_false_iff_ne]; exact k0
  have j1 : ((kd : Int) == 1) = false := by rw [beq_eq_false_iff_ne]; exact k1
  have HR1 := HR.out
  rw [if_neg (by omega)] at HR1
  have HR2 := Lib.hid HR1
  clear HR1 HR
  go_enter Tryz.func36, Tryz.ntmps36
  go_wp2_with fail
  refine (HTE.out _ _ _ (by repeat (first | with_reducible assumption | with_reducible exact Ext.refl _ | with_reducible refine Ext.drewN ?_ _ | with_reducible refine Ext.drew ?_ | with_reducible refine Ext.alloc ?_ _ | (with_reducible refine Ext.setCell ?_ ?_ _; rotate_left; (first | exact Nat.le_refl _ | (dsimp only; omega) | (simp only [wsz]; omega))) | (with_reducible refine Ext.trans ?_ (by with_reducible assumption)))) (⟨A1, e1, C1, g1, rfl, a2.ext (by repeat (first | with_reducible assumption | with_reducible exact Ext.refl _ | with_reducible refine Ext.drewN ?_ _ | with_reducible refine Ext.drew ?_ | with_reducible refine Ext.alloc ?_ _ | (with_reducible refine Ext.setCell ?_ ?_ _; rotate_left; (first | exact Nat.le_refl _ | (dsimp only; omega) | (simp only [wsz]; omega))) | (with_reducible refine Ext.trans ?_ (by with_reducible assumption)))), Nl.ext a3 (by repeat (first | with_reducible assumption | with_reducible exact Ext.refl _ | with_reducible refine Ext.drewN ?_ _ | with_reducible refine Ext.drew ?_ | with_reducible refine Ext.alloc ?_ _ | (with_reducible refine Ext.setCell ?_ ?_ _; rotate_left; (first | exact Nat.le_refl _ | (dsimp only; omega) | (simp only [wsz]; omega))) | (with_reducible refine Ext.trans ?_ (by with_reducible assumption))))⟩ : Tv _ X (.agg #[.slice A1 a.t.ps.length e1, .bool a.t.k.neg, .slice C1 a.t.k.mag.length g1]) a.t)).mono ?_
  rintro e2 w2 ⟨hev, hx2⟩
  have b2 : Box w2 w.heap.size 29 #[.int .i64 kd, .bool a.d.neg, .slice D1 a.d.mag.length c1, .slice A1 a.t.ps.length e1, .bool a.t.k.neg, .slice C1 a.t.k.mag.length g1] := Box.ext (Box.new w _ _) hx2
  have hE2 : Ext w w2 := ((Ext.refl w).alloc _).trans hx2
  clear hx2 HTE
  cases cb with
  | false =>
    simp only [Bool.false_eq_true, if_false] at hev
    subst hev
    have HR3 : R = (false, false) := by
      rw [HR2.out]
      simp
    subst HR3
    clear HR2
    have b2r := b2.rules; have b2l := b2.lt
    go_wp2_with fail
    (refine bodyPost_ret (v := ?_) ?_ rfl ?_; rotate_left; (simp only [results, Tryz.results36]; go_simp; (first | done | with_reducible rfl)))
    exact ⟨rfl, (by repeat (first | with_reducible assumption | with_reducible exact Ext.refl _ | with_reducible refine Ext.drewN ?_ _ | with_reducible refine Ext.drew ?_ | with_reducible refine Ext.alloc ?_ _ | (with_reducible refine Ext.setCell ?_ ?_ _; rotate_left; (first | exact Nat.le_refl _ | (dsimp only; omega) | (simp only [wsz]; omega))) | (with_reducible refine Ext.trans ?_ (by with_reducible assumption))))⟩
  | true =>
    simp only [if_true] at hev
    obtain ⟨_, rfl, B, d, rfl, hB⟩ := hev
    have HR3 := HR2.out
    simp only [true_and] at HR3
    have HR4 := Lib.hid HR3
    clear HR3 HR2
    go_upto_region 4 with fail
    refine wp_named fun V hV => ?_
    obtain ⟨g6, hg6⟩ : ∃ g, g = w2.heap.size := ⟨_, rfl⟩
    have b6 : Box V g6 24 #[.bool (cz xv).neg, .slice B (cz xv).mag.length d] := by rw [hV, hg6]; exact Box.new _ _ _
    have hxV : Ext w2 V := by rw [hV]; exact (Ext.refl w2).alloc _
    have hBV := Nl.ext hB hxV
    have c2 := b2.ext hxV
    have hE := hE2.trans hxV
    rw [← hg6]
    clear hV hg6 hB hxV hE2 b2
    have c2r := c2.rules; have c2l := c2.lt; have b6r := b6.rules; have b6l := b6.lt
    by_cases kl : kd < 2 ∨ 4 < kd
    · have HR5 : R = (false, false) := by rw [HR4.out, if_neg (by omega), if_neg (by omega)]
      subst HR5
      clear HR4
      rcases kl with kl | kl
      · have m1 : decide (kd < 2) = true := decide_eq_true kl
        go_wp2_with fail
        (refine bodyPost_ret (v := ?_) ?_ rfl ?_; rotate_left; (simp only [results, Tryz.results36]; go_simp; (first | done | with_reducible rfl)))
        exact ⟨rfl, hE⟩
      · have m1 : decide (kd < 2) = false := decide_eq_false (by omega)
        have m2 : decide (4 < kd) = true := decide_eq_true kl
        go_wp2_with fail
        (refine bodyPost_ret (v := ?_) ?_ rfl ?_; rotate_left; (simp only [results, Tryz.results36]; go_simp; (first | done | with_reducible rfl)))
        exact ⟨rfl, hE⟩
    · have m1 : decide (kd < 2) = false := decide_eq_false (by omega)
      have m2 : decide (4 < kd) = false := decide_eq_false (by omega)
      rcases (show kd = 2 ∨ kd = 3 ∨ kd = 4 by omega) with k3 | k3 | k3
      · have hsg := fun (U : World) (hU : Ext V U) => zsign_c (⟨B, d, rfl, Nl.ext hBV hU⟩ : Zi U _ (.agg #[.bool (cz xv).neg, .slice B (cz xv).mag.length d]) (cz xv))
        obtain ⟨sg, hsge⟩ : ∃ s, s = sgn xv := ⟨_, rfl⟩
        have hsp : 0 < sg ↔ 0 < xv := by rw [hsge]; exact cmpI_pos
        rw [cz_v, ← hsge] at hsg
        have HR5 : R = (decide (0 < sg), true) := by
          rw [HR4.out, if_pos (.inl k3), k3, if_pos rfl]
          exact congrArg (fun b => (b, true)) (decide_eq_decide.2 hsp.symm)
        have HR6 := Lib.hid HR5; have HSG := Lib.hid hsg
        rw [k3] at c2
        clear HR4 HR5 hsg hsge hsp k3 c2r
        have c2r := c2.rules
        go_wp2_with fail
        refine (HSG.out _ (Ext.refl _)).mono ?_
        rintro e5 w5 ⟨rfl, hx5⟩
        go_wp2_with fail
        (refine bodyPost_ret (v := ?_) ?_ rfl ?_; rotate_left; (simp only [results, Tryz.results36]; go_simp; (first | done | with_reducible rfl)))
        exact ⟨by rw [HR6.out], hE.trans hx5⟩
      · by_cases hd0 : a.d.v = 0
        · have HR5 : R = (true, false) := by
            rw [HR4.out, if_neg (by omega), if_pos (by omega), k3]
            rfl
          subst HR5
          have hdm := fun (U : World) (hU : Ext V U) => zdivg0_c (⟨B, d, rfl, Nl.ext hBV hU⟩ : Zi U _ (.agg #[.bool (cz xv).neg, .slice B (cz xv).mag.length d]) (cz xv)) (⟨D1, c1, rfl, Nl.ext a1 (hE.trans hU)⟩ : Zi U _ (.agg #[.bool a.d.neg, .slice D1 a.d.mag.length c1]) a.d) hd0 (by rw [cz_len]; omega) (by omega)
          have HDM := Lib.hid hdm
          rw [k3] at c2
          clear HR4 hdm hd0 k3 c2r
          have c2r := c2.rules
          go_wp2_with fail
          refine (HDM.out _ (Ext.refl _)).mono ?_
          rintro e5 w5 ⟨rfl, hx5⟩
          have d2 := c2.ext hx5
          have hE5 := hE.trans hx5
          clear c2r c2l b6r b6l
          go_upto_region 9 with fail
          refine wp_named fun U hU => ?_
          obtain ⟨g9, hg9⟩ : ∃ g, g = w5.heap.size + 1 := ⟨_, rfl⟩
          have b9 : Box U g9 24 #[.bool false, .slice none 0 0] := by rw [hU, hg9]; exact (by repeat (first | with_reducible assumption | with_reducible exact Box.new _ _ _ | (with_reducible refine Box.new_at _ _ _ ?_; (simp only [wsz]; done)) | with_reducible refine Box.drewN ?_ _ | with_reducible refine Box.drew ?_ | with_reducible refine Box.alloc ?_ _ | with_reducible apply Box.drewN | with_reducible apply Box.drew | with_reducible apply Box.alloc | with_reducible refine Box.set_ ?_ _ _ | (with_reducible refine Box.far ?_ ?_ _; rotate_left; (simp only [ne_eq]; omega)) | (with_reducible refine Box.ext ?_ (by with_reducible assumption)) | (refine Box.new_at _ _ _ ?_; simp only [wsz]; done)))
          have i2 : Box U w.heap.size 29 #[.int .i64 3, .bool a.d.neg, .slice D1 a.d.mag.length c1, .slice A1 a.t.ps.length e1, .bool a.t.k.neg, .slice C1 a.t.k.mag.length g1] := by rw [hU]; exact (d2.alloc _).alloc _
          have hEU : Ext w U := by rw [hU]; exact (hE5.alloc _).alloc _
          rw [← hg9]
          clear hU hg9 hx5 d2 hE5
          have hsg := fun (S : World) => zsign_c (⟨none, 0, rfl, Sl.nil0 _ _ _⟩ : Zi S (fun _ => True) (.agg #[.bool false, .slice none 0 0]) (cz 0))
          rw [cz_v, show sgn 0 = 0 from rfl] at hsg
          have HSG := Lib.hid hsg
          clear hsg
          have i2r := i2.rules; have i2l := i2.lt; have b9r := b9.rules; have b9l := b9.lt
          go_wp2_with fail
          refine wp_region_late [(0, true), (3, true), (4, true), (5, true), (7, true), (8, true), (1, false), (2, true), (6, true), (9, false)] [10] rfl (by kernel_rfl) (by intro _ _ d _ _ h; cases d <;> exact h) ?_
          (repeat (refine sh_take (v := ?_) rfl rfl ?_ ?_; rotate_left; (intro w' hx'; have hc' := hx'.cells.1; (try simp only [wcd] at hc'); go_simp; (first | done | with_reducible rfl)); (try simp only [Act.put, List.setIfInBounds_toArray, List.set_cons_zero, List.set_cons_succ])))
          (refine sh_loud rfl rfl fun K hK => ?_; go_simp)
          refine (HSG.out _).mono ?_
          rintro e6 w6 ⟨rfl, hx6⟩
          (refine hK _ _ (by repeat (first | with_reducible assumption | with_reducible exact Ext.refl _ | with_reducible refine Ext.drewN ?_ _ | with_reducible refine Ext.drew ?_ | with_reducible refine Ext.alloc ?_ _ | (with_reducible refine Ext.setCell ?_ ?_ _; rotate_left; (first | exact Nat.le_refl _ | (dsimp only; omega) | (simp only [wsz]; omega))) | (with_reducible refine Ext.trans ?_ (by with_reducible assumption)))) ?_; clear hK K; (try simp only [Act.put, List.setIfInBounds_toArray, List.set_cons_zero, List.set_cons_succ]))
          (repeat (refine sh_take (v := ?_) rfl rfl ?_ ?_; rotate_left; (intro w' hx'; have hc' := hx'.cells.1; (try simp only [wcd] at hc'); go_simp; (first | done | with_reducible rfl)); (try simp only [Act.put, List.setIfInBounds_toArray, List.set_cons_zero, List.set_cons_succ])))
          (refine sh_loud rfl rfl fun K hK => ?_; go_simp)
          (refine hK _ _ (by repeat (first | with_reducible assumption | with_reducible exact Ext.refl _ | with_reducible refine Ext.drewN ?_ _ | with_reducible refine Ext.drew ?_ | with_reducible refine Ext.alloc ?_ _ | (with_reducible refine Ext.setCell ?_ ?_ _; rotate_left; (first | exact Nat.le_refl _ | (dsimp only; omega) | (simp only [wsz]; omega))) | (with_reducible refine Ext.trans ?_ (by with_reducible assumption)))) ?_; clear hK K; (try simp only [Act.put, List.setIfInBounds_toArray, List.set_cons_zero, List.set_cons_succ]))
          refine sh_done ?_
          (refine sh_late rfl rfl fun K hK => ?_; go_simp; refine hK _ _ ?_; clear hK K)
          refine sh_end ?_
          go_wp2_with fail
          (refine bodyPost_ret (v := ?_) ?_ rfl ?_; rotate_left; (simp only [results, Tryz.results36]; go_simp; (first | done | with_reducible rfl)))
          exact ⟨rfl, hEU.drew.trans hx6⟩
        · have HR5 : R = (decide (xv.fmod a.d.v = 0), true) := by
            rw [HR4.out, if_pos (by omega), k3]
            rfl
          have HR6 := Lib.hid HR5
          obtain ⟨rz, hrz⟩ : ∃ z, z = cz (xv.fmod a.d.v) := ⟨_, rfl⟩
          have hrv : sgn rz.v = 0 ↔ xv.fmod a.d.v = 0 := by rw [hrz, cz_v]; exact sgn_zero
          have hdm := fun (U : World) (hU : Ext V U) => zdivg_c (⟨B, d, rfl, Nl.ext hBV hU⟩ : Zi U _ (.agg #[.bool (cz xv).neg, .slice B (cz xv).mag.length d]) (cz xv)) (⟨D1, c1, rfl, Nl.ext a1 (hE.trans hU)⟩ : Zi U _ (.agg #[.bool a.d.neg, .slice D1 a.d.mag.length c1]) a.d) hd0 (by rw [cz_len]; omega) (by omega)
          rw [cz_v, ← hrz] at hdm
          have HDM := Lib.hid hdm; have HRV := Lib.hid hrv
          rw [k3] at c2
          clear HR4 HR5 hdm hrv hrz hd0 k3 c2r
          have c2r := c2.rules
          go_wp2_with fail
          refine (HDM.out _ (Ext.refl _)).mono ?_
          rintro e5 w5 ⟨_, _, rfl, ⟨Q1, q1, rfl, hQ⟩, ⟨R1, r1, rfl, hRr⟩, hx5⟩
          have d2 := c2.ext hx5
          have hE5 := hE.trans hx5
          clear c2r c2l b6r b6l
          go_upto_region 9 with fail
          refine wp_named fun U hU => ?_
          obtain ⟨g9, hg9⟩ : ∃ g, g = w5.heap.size + 1 := ⟨_, rfl⟩
          have b9 : Box U g9 24 #[.bool rz.neg, .slice R1 rz.mag.length r1] := by rw [hU, hg9]; exact (by repeat (first | with_reducible assumption | with_reducible exact Box.new _ _ _ | (with_reducible refine Box.new_at _ _ _ ?_; (simp only [wsz]; done)) | with_reducible refine Box.drewN ?_ _ | with_reducible refine Box.drew ?_ | with_reducible refine Box.alloc ?_ _ | with_reducible apply Box.drewN | with_reducible apply Box.drew | with_reducible apply Box.alloc | with_reducible refine Box.set_ ?_ _ _ | (with_reducible refine Box.far ?_ ?_ _; rotate_left; (simp only [ne_eq]; omega)) | (with_reducible refine Box.ext ?_ (by with_reducible assumption)) | (refine Box.new_at _ _ _ ?_; simp only [wsz]; done)))
          have i2 : Box U w.heap.size 29 #[.int .i64 3, .bool a.d.neg, .slice D1 a.d.mag.length c1, .slice A1 a.t.ps.length e1, .bool a.t.k.neg, .slice C1 a.t.k.mag.length g1] := by rw [hU]; exact (d2.alloc _).alloc _
          have hEU : Ext w U := by rw [hU]; exact (hE5.alloc _).alloc _
          have hRU : Nl U _ R1 r1 rz.mag := Nl.ext hRr (show Ext w5 U by rw [hU]; exact ((Ext.refl w5).alloc _).alloc _)
          rw [← hg9]
          clear hU hg9 hx5 d2 hE5 hRr
          have hsg := fun (S : World) (hS : Ext U S) => zsign_c (⟨R1, r1, rfl, Nl.ext hRU hS⟩ : Zi S _ (.agg #[.bool rz.neg, .slice R1 rz.mag.length r1]) rz)
          obtain ⟨sr, hsr⟩ : ∃ s, s = sgn rz.v := ⟨_, rfl⟩
          have hrv := HRV.out
          rw [← hsr] at hrv hsg
          have HRV2 := Lib.hid hrv; have HSG := Lib.hid hsg
          clear hsr hrv HRV hsg
          have i2r := i2.rules; have i2l := i2.lt; have b9r := b9.rules; have b9l := b9.lt
          go_wp2_with fail
          refine wp_region_late [(0, true), (3, true), (4, true), (5, true), (7, true), (8, true), (1, false), (2, true), (6, true), (9, false)] [10] rfl (by kernel_rfl) (by intro _ _ d _ _ h; cases d <;> exact h) ?_
          (repeat (refine sh_take (v := ?_) rfl rfl ?_ ?_; rotate_left; (intro w' hx'; have hc' := hx'.cells.1; (try simp only [wcd] at hc'); go_simp; (first | done | with_reducible rfl)); (try simp only [Act.put, List.setIfInBounds_toArray, List.set_cons_zero, List.set_cons_succ])))
          (refine sh_loud rfl rfl fun K hK => ?_; go_simp)
          refine (HSG.out _ (Ext.refl U).drew).mono ?_
          rintro e6 w6 ⟨rfl, hx6⟩
          (refine hK _ _ (by repeat (first | with_reducible assumption | with_reducible exact Ext.refl _ | with_reducible refine Ext.drewN ?_ _ | with_reducible refine Ext.drew ?_ | with_reducible refine Ext.alloc ?_ _ | (with_reducible refine Ext.setCell ?_ ?_ _; rotate_left; (first | exact Nat.le_refl _ | (dsimp only; omega) | (simp only [wsz]; omega))) | (with_reducible refine Ext.trans ?_ (by with_reducible assumption)))) ?_; clear hK K; (try simp only [Act.put, List.setIfInBounds_toArray, List.set_cons_zero, List.set_cons_succ]))
          (repeat (refine sh_take (v := ?_) rfl rfl ?_ ?_; rotate_left; (intro w' hx'; have hc' := hx'.cells.1; (try simp only [wcd] at hc'); go_simp; (first | done | with_reducible rfl)); (try simp only [Act.put, List.setIfInBounds_toArray, List.set_cons_zero, List.set_cons_succ])))
          (refine sh_loud rfl rfl fun K hK => ?_; go_simp)
          (refine hK _ _ (by repeat (first | with_reducible assumption | with_reducible exact Ext.refl _ | with_reducible refine Ext.drewN ?_ _ | with_reducible refine Ext.drew ?_ | with_reducible refine Ext.alloc ?_ _ | (with_reducible refine Ext.setCell ?_ ?_ _; rotate_left; (first | exact Nat.le_refl _ | (dsimp only; omega) | (simp only [wsz]; omega))) | (with_reducible refine Ext.trans ?_ (by with_reducible assumption)))) ?_; clear hK K; (try simp only [Act.put, List.setIfInBounds_toArray, List.set_cons_zero, List.set_cons_succ]))
          refine sh_done ?_
          (refine sh_late rfl rfl fun K hK => ?_; go_simp; refine hK _ _ ?_; clear hK K)
          refine sh_end ?_
          go_wp2_with fail
          (refine bodyPost_ret (v := ?_) ?_ rfl ?_; rotate_left; (simp only [results, Tryz.results36]; go_simp; (first | done | with_reducible rfl)))
          refine ⟨?_, hEU.drew.trans hx6⟩
          rw [HR6.out]
          have h9 : decide (sr = 0) = decide (xv.fmod a.d.v = 0) := decide_eq_decide.2 HRV2.out
          simp [← h9]
          rfl
      · by_cases hd0 : a.d.v = 0
        · have HR5 : R = (false, false) := by
            rw [HR4.out, if_neg (by omega), if_pos (by omega), k3]
            rfl
          subst HR5
          have hdm := fun (U : World) (hU : Ext V U) => zdivg0_c (⟨B, d, rfl, Nl.ext hBV hU⟩ : Zi U _ (.agg #[.bool (cz xv).neg, .slice B (cz xv).mag.length d]) (cz xv)) (⟨D1, c1, rfl, Nl.ext a1 (hE.trans hU)⟩ : Zi U _ (.agg #[.bool a.d.neg, .slice D1 a.d.mag.length c1]) a.d) hd0 (by rw [cz_len]; omega) (by omega)
          have HDM := Lib.hid hdm
          rw [k3] at c2
          clear HR4 hdm hd0 k3 c2r
          have c2r := c2.rules
          go_wp2_with fail
          refine (HDM.out _ (Ext.refl _)).mono ?_
          rintro e5 w5 ⟨rfl, hx5⟩
          have d2 := c2.ext hx5
          have hE5 := hE.trans hx5
          clear c2r c2l b6r b6l
          go_upto_region 9 with fail
          refine wp_named fun U hU => ?_
          obtain ⟨g9, hg9⟩ : ∃ g, g = w5.heap.size + 1 := ⟨_, rfl⟩
          have b9 : Box U g9 24 #[.bool false, .slice none 0 0] := by rw [hU, hg9]; exact (by repeat (first | with_reducible assumption | with_reducible exact Box.new _ _ _ | (with_reducible refine Box.new_at _ _ _ ?_; (simp only [wsz]; done)) | with_reducible refine Box.drewN ?_ _ | with_reducible refine Box.drew ?_ | with_reducible refine Box.alloc ?_ _ | with_reducible apply Box.drewN | with_reducible apply Box.drew | with_reducible apply Box.alloc | with_reducible refine Box.set_ ?_ _ _ | (with_reducible refine Box.far ?_ ?_ _; rotate_left; (simp only [ne_eq]; omega)) | (with_reducible refine Box.ext ?_ (by with_reducible assumption)) | (refine Box.new_at _ _ _ ?_; simp only [wsz]; done)))
          have i2 : Box U w.heap.size 29 #[.int .i64 4, .bool a.d.neg, .slice D1 a.d.mag.length c1, .slice A1 a.t.ps.length e1, .bool a.t.k.neg, .slice C1 a.t.k.mag.length g1] := by rw [hU]; exact (d2.alloc _).alloc _
          have hEU : Ext w U := by rw [hU]; exact (hE5.alloc _).alloc _
          rw [← hg9]
          clear hU hg9 hx5 d2 hE5
          have hsg := fun (S : World) => zsign_c (⟨none, 0, rfl, Sl.nil0 _ _ _⟩ : Zi S (fun _ => True) (.agg #[.bool false, .slice none 0 0]) (cz 0))
          rw [cz_v, show sgn 0 = 0 from rfl] at hsg
          have HSG := Lib.hid hsg
          clear hsg
          have i2r := i2.rules; have i2l := i2.lt; have b9r := b9.rules; have b9l := b9.lt
          go_wp2_with fail
          refine wp_region_late [(0, true), (3, true), (4, true), (5, true), (7, true), (8, true), (1, false), (2, true), (6, true), (9, false)] [10] rfl (by kernel_rfl) (by intro _ _ d _ _ h; cases d <;> exact h) ?_
          (repeat (refine sh_take (v := ?_) rfl rfl ?_ ?_; rotate_left; (intro w' hx'; have hc' := hx'.cells.1; (try simp only [wcd] at hc'); go_simp; (first | done | with_reducible rfl)); (try simp only [Act.put, List.setIfInBounds_toArray, List.set_cons_zero, List.set_cons_succ])))
          (refine sh_loud rfl rfl fun K hK => ?_; go_simp)
          refine (HSG.out _).mono ?_
          rintro e6 w6 ⟨rfl, hx6⟩
          (refine hK _ _ (by repeat (first | with_reducible assumption | with_reducible exact Ext.refl _ | with_reducible refine Ext.drewN ?_ _ | with_reducible refine Ext.drew ?_ | with_reducible refine Ext.alloc ?_ _ | (with_reducible refine Ext.setCell ?_ ?_ _; rotate_left; (first | exact Nat.le_refl _ | (dsimp only; omega) | (simp only [wsz]; omega))) | (with_reducible refine Ext.trans ?_ (by with_reducible assumption)))) ?_; clear hK K; (try simp only [Act.put, List.setIfInBounds_toArray, List.set_cons_zero, List.set_cons_succ]))
          (repeat (refine sh_take (v := ?_) rfl rfl ?_ ?_; rotate_left; (intro w' hx'; have hc' := hx'.cells.1; (try simp only [wcd] at hc'); go_simp; (first | done | with_reducible rfl)); (try simp only [Act.put, List.setIfInBounds_toArray, List.set_cons_zero, List.set_cons_succ])))
          (refine sh_loud rfl rfl fun K hK => ?_; go_simp)
          (refine hK _ _ (by repeat (first | with_reducible assumption | with_reducible exact Ext.refl _ | with_reducible refine Ext.drewN ?_ _ | with_reducible refine Ext.drew ?_ | with_reducible refine Ext.alloc ?_ _ | (with_reducible refine Ext.setCell ?_ ?_ _; rotate_left; (first | exact Nat.le_refl _ | (dsimp only; omega) | (simp only [wsz]; omega))) | (with_reducible refine Ext.trans ?_ (by with_reducible assumption)))) ?_; clear hK K; (try simp only [Act.put, List.setIfInBounds_toArray, List.set_cons_zero, List.set_cons_succ]))
          refine sh_done ?_
          (refine sh_late rfl rfl fun K hK => ?_; go_simp; refine hK _ _ ?_; clear hK K)
          refine sh_end ?_
          go_wp2_with fail
          (refine bodyPost_ret (v := ?_) ?_ rfl ?_; rotate_left; (simp only [results, Tryz.results36]; go_simp; (first | done | with_reducible rfl)))
          exact ⟨rfl, hEU.drew.trans hx6⟩
        · have HR5 : R = (!decide (xv.fmod a.d.v = 0), true) := by
            rw [HR4.out, if_pos (by omega), k3]
            rfl
          have HR6 := Lib.hid HR5
          obtain ⟨rz, hrz⟩ : ∃ z, z = cz (xv.fmod a.d.v) := ⟨_, rfl⟩
          have hrv : sgn rz.v = 0 ↔ xv.fmod a.d.v = 0 := by rw [hrz, cz_v]; exact sgn_zero
          have hdm := fun (U : World) (hU : Ext V U) => zdivg_c (⟨B, d, rfl, Nl.ext hBV hU⟩ : Zi U _ (.agg #[.bool (cz xv).neg, .slice B (cz xv).mag.length d]) (cz xv)) (⟨D1, c1, rfl, Nl.ext a1 (hE.trans hU)⟩ : Zi U _ (.agg #[.bool a.d.neg, .slice D1 a.d.mag.length c1]) a.d) hd0 (by rw [cz_len]; omega) (by omega)
          rw [cz_v, ← hrz] at hdm
          have HDM := Lib.hid hdm; have HRV := Lib.hid hrv
          rw [k3] at c2
          clear HR4 HR5 hdm hrv hrz hd0 k3 c2r
          have c2r := c2.rules
          go_wp2_with fail
          refine (HDM.out _ (Ext.refl _)).mono ?_
          rintro e5 w5 ⟨_, _, rfl, ⟨Q1, q1, rfl, hQ⟩, ⟨R1, r1, rfl, hRr⟩, hx5⟩
          have d2 := c2.ext hx5
          have hE5 := hE.trans hx5
          clear c2r c2l b6r b6l
          go_upto_region 9 with fail
          refine wp_named fun U hU => ?_
          obtain ⟨g9, hg9⟩ : ∃ g, g = w5.heap.size + 1 := ⟨_, rfl⟩
          have b9 : Box U g9 24 #[.bool rz.neg, .slice R1 rz.mag.length r1] := by rw [hU, hg9]; exact (by repeat (first | with_reducible assumption | with_reducible exact Box.new _ _ _ | (with_reducible refine Box.new_at _ _ _ ?_; (simp only [wsz]; done)) | with_reducible refine Box.drewN ?_ _ | with_reducible refine Box.drew ?_ | with_reducible refine Box.alloc ?_ _ | with_reducible apply Box.drewN | with_reducible apply Box.drew | with_reducible apply Box.alloc | with_reducible refine Box.set_ ?_ _ _ | (with_reducible refine Box.far ?_ ?_ _; rotate_left; (simp only [ne_eq]; omega)) | (with_reducible refine Box.ext ?_ (by with_reducible assumption)) | (refine Box.new_at _ _ _ ?_; simp only [wsz]; done)))
          have i2 : Box U w.heap.size 29 #[.int .i64 4, .bool a.d.neg, .slice D1 a.d.mag.length c1, .slice A1 a.t.ps.length e1, .bool a.t.k.neg, .slice C1 a.t.k.mag.length g1] := by rw [hU]; exact (d2.alloc _).alloc _
          have hEU : Ext w U := by rw [hU]; exact (hE5.alloc _).alloc _
          have hRU : Nl U _ R1 r1 rz.mag := Nl.ext hRr (show Ext w5 U by rw [hU]; exact ((Ext.refl w5).alloc _).alloc _)
          rw [← hg9]
          clear hU hg9 hx5 d2 hE5 hRr
          have hsg := fun (S : World) (hS : Ext U S) => zsign_c (⟨R1, r1, rfl, Nl.ext hRU hS⟩ : Zi S _ (.agg #[.bool rz.neg, .slice R1 rz.mag.length r1]) rz)
          obtain ⟨sr, hsr⟩ : ∃ s, s = sgn rz.v := ⟨_, rfl⟩
          have hrv := HRV.out
          rw [← hsr] at hrv hsg
          have HRV2 := Lib.hid hrv; have HSG := Lib.hid hsg
          clear hsr hrv HRV hsg
          have i2r := i2.rules; have i2l := i2.lt; have b9r := b9.rules; have b9l := b9.lt
          go_wp2_with fail
          refine wp_region_late [(0, true), (3, true), (4, true), (5, true), (7, true), (8, true), (1, false), (2, true), (6, true), (9, false)] [10] rfl (by kernel_rfl) (by intro _ _ d _ _ h; cases d <;> exact h) ?_
          (repeat (refine sh_take (v := ?_) rfl rfl ?_ ?_; rotate_left; (intro w' hx'; have hc' := hx'.cells.1; (try simp only [wcd] at hc'); go_simp; (first | done | with_reducible rfl)); (try simp only [Act.put, List.setIfInBounds_toArray, List.set_cons_zero, List.set_cons_succ])))
          (refine sh_loud rfl rfl fun K hK => ?_; go_simp)
          refine (HSG.out _ (Ext.refl U).drew).mono ?_
          rintro e6 w6 ⟨rfl, hx6⟩
          (refine hK _ _ (by repeat (first | with_reducible assumption | with_reducible exact Ext.refl _ | with_reducible refine Ext.drewN ?_ _ | with_reducible refine Ext.drew ?_ | with_reducible refine Ext.alloc ?_ _ | (with_reducible refine Ext.setCell ?_ ?_ _; rotate_left; (first | exact Nat.le_refl _ | (dsimp only; omega) | (simp only [wsz]; omega))) | (with_reducible refine Ext.trans ?_ (by with_reducible assumption)))) ?_; clear hK K; (try simp only [Act.put, List.setIfInBounds_toArray, List.set_cons_zero, List.set_cons_succ]))
          (repeat (refine sh_take (v := ?_) rfl rfl ?_ ?_; rotate_left; (intro w' hx'; have hc' := hx'.cells.1; (try simp only [wcd] at hc'); go_simp; (first | done | with_reducible rfl)); (try simp only [Act.put, List.setIfInBounds_toArray, List.set_cons_zero, List.set_cons_succ])))
          (refine sh_loud rfl rfl fun K hK => ?_; go_simp)
          (refine hK _ _ (by repeat (first | with_reducible assumption | with_reducible exact Ext.refl _ | with_reducible refine Ext.drewN ?_ _ | with_reducible refine Ext.drew ?_ | with_reducible refine Ext.alloc ?_ _ | (with_reducible refine Ext.setCell ?_ ?_ _; rotate_left; (first | exact Nat.le_refl _ | (dsimp only; omega) | (simp only [wsz]; omega))) | (with_reducible refine Ext.trans ?_ (by with_reducible assumption)))) ?_; clear hK K; (try simp only [Act.put, List.setIfInBounds_toArray, List.set_cons_zero, List.set_cons_succ]))
          refine sh_done ?_
          (refine sh_late rfl rfl fun K hK => ?_; go_simp; refine hK _ _ ?_; clear hK K)
          refine sh_end ?_
          go_wp2_with fail
          (refine bodyPost_ret (v := ?_) ?_ rfl ?_; rotate_left; (simp only [results, Tryz.results36]; go_simp; (first | done | with_reducible rfl)))
          refine ⟨?_, hEU.drew.trans hx6⟩
          rw [HR6.out]
          have h9 : decide (sr = 0) = decide (xv.fmod a.d.v = 0) := decide_eq_decide.2 HRV2.out
          simp [← h9]
          rfl

end Go.Proofs.YthmjgbkakjpfkaaGreatDoor
