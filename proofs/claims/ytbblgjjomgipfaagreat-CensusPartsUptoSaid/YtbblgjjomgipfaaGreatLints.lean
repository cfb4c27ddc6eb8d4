/- riddlelaw19.ints at two numbers that are the same. No conditions. -/
import Derived.Test.YtbblgjjomgipfaaGreatCen1
namespace Go.Proofs.YtbblgjjomgipfaaGreat
open Go.RowKit Go.Shelf

set_option maxHeartbeats 1600000 in
theorem lints_c {u v : Value} {z : Z} {w : World} {X Y : Nat → Prop} (hx : Zi w X u z) (hy : Zi w Y v z) :
    Calls Tryz.prog 15 #[u, v] w fun e w' => e = .returned (.bool true) ∧ Ext w w' := by
  obtain ⟨A, c, rfl, h⟩ := hx
  obtain ⟨B, d, rfl, h'⟩ := hy
  have hm := h.2.1; have hlc := h.1
  simp only [maxLen] at hm
  obtain ⟨n, l⟩ := z
  simp only at h h' hm hlc ⊢
  go_enter Tryz.func15, Tryz.ntmps15
  have hbn : (n != n) = false := by cases n <;> rfl
  go_upto_region 1 with fail
  refine wp_named fun W hW => ?_
  have b2 : Box W w.heap.size 25 #[.bool n, .slice A l.length c] := by rw [hW]; exact (by repeat (first | with_reducible assumption | with_reducible exact Box.new _ _ _ | (with_reducible refine Box.new_at _ _ _ ?_; (simp only [wsz]; done)) | with_reducible refine Box.drewN ?_ _ | with_reducible refine Box.drew ?_ | with_reducible refine Box.alloc ?_ _ | with_reducible apply Box.drewN | with_reducible apply Box.drew | with_reducible apply Box.alloc | with_reducible refine Box.set_ ?_ _ _ | (with_reducible refine Box.far ?_ ?_ _; rotate_left; (simp only [ne_eq]; omega)) | (with_reducible refine Box.ext ?_ (by with_reducible assumption)) | (refine Box.new_at _ _ _ ?_; simp only [wsz]; done)))
  have b3 : Box W (w.heap.size + 1) 25 #[.bool n, .slice B l.length d] := by rw [hW]; exact (by repeat (first | with_reducible assumption | with_reducible exact Box.new _ _ _ | (with_reducible refine Box.new_at _ _ _ ?_; (simp only [wsz]; done)) | with_reducible refine Box.drewN ?_ _ | with_reducible refine Box.drew ?_ | with_reducible refine Box.alloc ?_ _ | with_reducible apply Box.drewN | with_reducible apply Box.drew | with_reducible apply Box.alloc | with_reducible refine Box.set_ ?_ _ _ | (with_reducible refine Box.far ?_ ?_ _; rotate_left; (simp only [ne_eq]; omega)) | (with_reducible refine Box.ext ?_ (by with_reducible assumption)) | (refine Box.new_at _ _ _ ?_; simp only [wsz]; done)))
  have hE : Ext w W := by rw [hW]; exact (by repeat (first | with_reducible assumption | with_reducible exact Ext.refl _ | with_reducible refine Ext.drewN ?_ _ | with_reducible refine Ext.drew ?_ | with_reducible refine Ext.alloc ?_ _ | (with_reducible refine Ext.setCell ?_ ?_ _; rotate_left; (first | exact Nat.le_refl _ | (dsimp only; omega) | (simp only [wsz]; omega))) | (with_reducible refine Ext.trans ?_ (by with_reducible assumption))))
  have hs := hE.size
  clear hW
  have b2r := b2.rules; have b2l := b2.lt
  have b3r := b3.rules; have b3l := b3.lt
  go_wp2_with fail
  go_loopw [5] (fun iv wr => ∃ k : Nat, k ≤ l.length ∧ iv = .int .i64 k ∧ Ext W wr) (fun iv _ => l.length - (intOf iv).toNat)
  case atStart => exact ⟨0, Nat.zero_le _, rfl, (by repeat (first | with_reducible assumption | with_reducible exact Ext.refl _ | with_reducible refine Ext.drewN ?_ _ | with_reducible refine Ext.drew ?_ | with_reducible refine Ext.alloc ?_ _ | (with_reducible refine Ext.setCell ?_ ?_ _; rotate_left; (first | exact Nat.le_refl _ | (dsimp only; omega) | (simp only [wsz]; omega))) | (with_reducible refine Ext.trans ?_ (by with_reducible assumption))))⟩
  case round =>
    obtain ⟨k, hk, rfl, hx⟩ := hrel
    have c2 := b2.ext hx; have c3 := b3.ext hx
    have c2r := c2.rules; have c2l := c2.lt
    have c3r := c3.rules; have c3l := c3.lt
    clear b2r b3r
    by_cases hlt : k < l.length
    · obtain ⟨b, o, rfl, _, hc, _⟩ := (h.ext (hE.trans hx)).at_ hlt
      obtain ⟨b2, o2, rfl, _, hc2, _⟩ := (h'.ext (hE.trans hx)).at_ hlt
      have hc := hc k hlt
      have hc2 := hc2 k hlt
      have hb := World.block_lt_of_cell? _ _ hc
      have hb2 := World.block_lt_of_cell? _ _ hc2
      have kl : (k : Int) < (l.length : Int) := by omega
      have kw := w64n (n := k) (by omega)
      generalize nth l k = y at hc hc2
      go_wp2_with fail
      refine wp_region_seq 11 [(0, true), (1, true), (2, true), (3, true), (4, true), (5, true), (6, true), (7, true), (8, true), (9, true), (10, true)] rfl (by kernel_rfl) (by intro _ _ d _ _ h; cases d <;> exact h) ?_
      (repeat (refine sq_take (v := ?_) rfl rfl ?_ ?_; rotate_left; (intro w' hx'; have hc' := hx'.cells.1; (try simp only [wcd] at hc'); go_simp; (first | done | with_reducible rfl)); (try simp only [Act.put, List.setIfInBounds_toArray, List.set_cons_zero, List.set_cons_succ])))
      refine sq_done ?_
      go_wp2_with fail
      go_roundw
      case rel => exact ⟨k + 1, by omega, by go_num, (by repeat (first | with_reducible assumption | with_reducible exact Ext.refl _ | with_reducible refine Ext.drewN ?_ _ | with_reducible refine Ext.drew ?_ | with_reducible refine Ext.alloc ?_ _ | (with_reducible refine Ext.setCell ?_ ?_ _; rotate_left; (first | exact Nat.le_refl _ | (dsimp only; omega) | (simp only [wsz]; omega))) | (with_reducible refine Ext.trans ?_ (by with_reducible assumption))))⟩
      case measure => simp [intOf] <;> omega
    · obtain rfl : k = l.length := by omega
      go_wp2_with fail
      go_ret
      exact ⟨rfl, hE.trans hx⟩

set_option maxHeartbeats 400000 in
theorem rneg_c {v : Value} {z : Z} {w : World} {X : Nat → Prop} (h : Zi w X v z) (hL : z.mag.length ≤ 4398046511104) :
    Calls Tryz.prog 52 #[v] w fun e w' => ∃ r, e = .returned r ∧ Zi w' (w.heap.size ≤ ·) r (cz (-z.v)) ∧ Ext w w' := by
  have ez : (-z.v) = Z.v ⟨!z.neg, z.mag⟩ := by unfold Z.v; cases z.neg <;> simp
  rw [ez]
  clear ez
  obtain ⟨A, c, rfl, h⟩ := h
  have hn := fun (U : World) (hU : Ext w U) => rnorm_c (z := ⟨!z.neg, z.mag⟩) (⟨A, c, rfl, h.ext hU⟩ : Zi U X (.agg #[.bool (!z.neg), .slice A z.mag.length c]) ⟨!z.neg, z.mag⟩) hL
  obtain ⟨zz, hzz⟩ : ∃ zz, zz = cz (Z.v ⟨!z.neg, z.mag⟩) := ⟨_, rfl⟩
  rw [← hzz] at hn ⊢
  clear hzz
  go_enter Tryz.func52, Tryz.ntmps52
  go_wp2_with fail
  refine (hn _ (by repeat (first | with_reducible assumption | with_reducible exact Ext.refl _ | with_reducible refine Ext.drewN ?_ _ | with_reducible refine Ext.drew ?_ | with_reducible refine Ext.alloc ?_ _ | (with_reducible refine Ext.setCell ?_ ?_ _; rotate_left; (first | exact Nat.le_refl _ | (dsimp only; omega) | (simp only [wsz]; omega))) | (with_reducible refine Ext.trans ?_ (by with_reducible assumption))))).mono ?_
  rintro e w1 ⟨r, rfl, ⟨A1, c1, rfl, h1⟩, hx⟩
  have b2 : Box w1 (w.heap.size + 1) 25 #[.bool false, .slice none 0 0] := Box.ext (by repeat (first | with_reducible assumption | with_reducible exact Box.new _ _ _ | (with_reducible refine Box.new_at _ _ _ ?_; (simp only [wsz]; done)) | with_reducible refine Box.drewN ?_ _ | with_reducible refine Box.drew ?_ | with_reducible refine Box.alloc ?_ _ | with_reducible apply Box.drewN | with_reducible apply Box.drew | with_reducible apply Box.alloc | with_reducible refine Box.set_ ?_ _ _ | (with_reducible refine Box.far ?_ ?_ _; rotate_left; (simp only [ne_eq]; omega)) | (with_reducible refine Box.ext ?_ (by with_reducible assumption)) | (refine Box.new_at _ _ _ ?_; simp only [wsz]; done))) hx
  have hE : Ext w w1 := (by repeat (first | with_reducible assumption | with_reducible exact Ext.refl _ | with_reducible refine Ext.drewN ?_ _ | with_reducible refine Ext.drew ?_ | with_reducible refine Ext.alloc ?_ _ | (with_reducible refine Ext.setCell ?_ ?_ _; rotate_left; (first | exact Nat.le_refl _ | (dsimp only; omega) | (simp only [wsz]; omega))) | (with_reducible refine Ext.trans ?_ (by with_reducible assumption))))
  have hs := hx.size
  simp only [wsz] at hs
  have b2r := b2.rules; have b2l := b2.lt
  go_wp2_with fail
  (refine bodyPost_ret (v := ?_) ?_ rfl ?_; rotate_left; (simp only [results, Tryz.results52]; go_simp; (first | done | with_reducible rfl)))
  exact ⟨_, rfl, ⟨A1, c1, rfl, ((h1.widen (Y := fun b => w.heap.size + 1 < b) fun b hb _ => by simp only [wsz] at hb; omega).keep (by repeat (first | with_reducible exact Kp.refl _ | with_reducible refine Kp.drewN ?_ _ | with_reducible refine Kp.drew ?_ | with_reducible refine Kp.alloc ?_ _ | (with_reducible refine Kp.setCell ?_ ?_ _; rotate_left; (first | (dsimp only; omega) | (simp only [wsz]; omega))) | (with_reducible exact Kp.of_ext (by with_reducible assumption)) | (with_reducible refine Kp.ext ?_ (by with_reducible assumption))))).widen (fun b hb _ => by first | omega | (dsimp only at hb ⊢; omega) | (dsimp only at hb; omega) | (simp only [wsz] at hb ⊢; omega) | (simp only [wsz] at hb; omega))⟩, (hE.setCell (by dsimp only; omega) _).setCell (by dsimp only; omega) _⟩

set_option maxHeartbeats 400000 in
theorem rabs_c {v : Value} {z : Z} {w : World} {X : Nat → Prop} (h : Zi w X v z) (hL : z.mag.length ≤ 4398046511104) :
    Calls Tryz.prog 19 #[v] w fun e w' => ∃ r, e = .returned r ∧ Zi w' (w.heap.size ≤ ·) r (cz (z.v.natAbs : Nat)) ∧ Ext w w' := by
  have ez : ((z.v.natAbs : Nat) : Int) = Z.v ⟨false, z.mag⟩ := by rw [natAbs_v]; unfold Z.v; simp
  rw [ez]
  clear ez
  obtain ⟨A, c, rfl, h⟩ := h
  have hn := fun (U : World) (hU : Ext w U) => rnorm_c (z := ⟨false, z.mag⟩) (⟨A, c, rfl, h.ext hU⟩ : Zi U X (.agg #[.bool false, .slice A z.mag.length c]) ⟨false, z.mag⟩) hL
  obtain ⟨zz, hzz⟩ : ∃ zz, zz = cz (Z.v ⟨false, z.mag⟩) := ⟨_, rfl⟩
  rw [← hzz] at hn ⊢
  clear hzz
  go_enter Tryz.func19, Tryz.ntmps19
  go_wp2_with fail
  refine (hn _ (by repeat (first | with_reducible assumption | with_reducible exact Ext.refl _ | with_reducible refine Ext.drewN ?_ _ | with_reducible refine Ext.drew ?_ | with_reducible refine Ext.alloc ?_ _ | (with_reducible refine Ext.setCell ?_ ?_ _; rotate_left; (first | exact Nat.le_refl _ | (dsimp only; omega) | (simp only [wsz]; omega))) | (with_reducible refine Ext.trans ?_ (by with_reducible assumption))))).mono ?_
  rintro e w1 ⟨r, rfl, ⟨A1, c1, rfl, h1⟩, hx⟩
  have b2 : Box w1 (w.heap.size + 1) 25 #[.bool false, .slice none 0 0] := Box.ext (by repeat (first | with_reducible assumption | with_reducible exact Box.new _ _ _ | (with_reducible refine Box.new_at _ _ _ ?_; (simp only [wsz]; done)) | with_reducible refine Box.drewN ?_ _ | with_reducible refine Box.drew ?_ | with_reducible refine Box.alloc ?_ _ | with_reducible apply Box.drewN | with_reducible apply Box.drew | with_reducible apply Box.alloc | with_reducible refine Box.set_ ?_ _ _ | (with_reducible refine Box.far ?_ ?_ _; rotate_left; (simp only [ne_eq]; omega)) | (with_reducible refine Box.ext ?_ (by with_reducible assumption)) | (refine Box.new_at _ _ _ ?_; simp only [wsz]; done))) hx
  have hE : Ext w w1 := (by repeat (first | with_reducible assumption | with_reducible exact Ext.refl _ | with_reducible refine Ext.drewN ?_ _ | with_reducible refine Ext.drew ?_ | with_reducible refine Ext.alloc ?_ _ | (with_reducible refine Ext.setCell ?_ ?_ _; rotate_left; (first | exact Nat.le_refl _ | (dsimp only; omega) | (simp only [wsz]; omega))) | (with_reducible refine Ext.trans ?_ (by with_reducible assumption))))
  have hs := hx.size
  simp only [wsz] at hs
  have b2r := b2.rules; have b2l := b2.lt
  go_wp2_with fail
  (refine bodyPost_ret (v := ?_) ?_ rfl ?_; rotate_left; (simp only [results, Tryz.results19]; go_simp; (first | done | with_reducible rfl)))
  exact ⟨_, rfl, ⟨A1, c1, rfl, ((h1.widen (Y := fun b => w.heap.size + 1 < b) fun b hb _ => by simp only [wsz] at hb; omega).keep (by repeat (first | with_reducible exact Kp.refl _ | with_reducible refine Kp.drewN ?_ _ | with_reducible refine Kp.drew ?_ | with_reducible refine Kp.alloc ?_ _ | (with_reducible refine Kp.setCell ?_ ?_ _; rotate_left; (first | (dsimp only; omega) | (simp only [wsz]; omega))) | (with_reducible exact Kp.of_ext (by with_reducible assumption)) | (with_reducible refine Kp.ext ?_ (by with_reducible assumption))))).widen (fun b hb _ => by first | omega | (dsimp only at hb ⊢; omega) | (dsimp only at hb; omega) | (simp only [wsz] at hb ⊢; omega) | (simp only [wsz] at hb; omega))⟩, (hE.setCell (by dsimp only; omega) _).setCell (by dsimp only; omega) _⟩

set_option maxHeartbeats 800000 in
theorem rsubz_c {u v : Value} {x y : Z} {w : World} {X Y : Nat → Prop} (hx : Zi w X u x) (hy : Zi w Y v y) (hLx : x.mag.length ≤ 1099511627776) (hLy : y.mag.length ≤ 1099511627776) :
    Calls Tryz.prog 16 #[u, v] w fun e w' => ∃ r, e = .returned r ∧ Zi w' (w.heap.size ≤ ·) r (cz (x.v - y.v)) ∧ Ext w w' := by
  have hly := zl_of hy.lb
  have hneg := fun (V : World) (hV : Ext w V) => rneg_c (hy.ext hV) (by omega)
  have hadd := fun (V : World) (v1 : Value) (Q : Nat → Prop) (hV : Ext w V) (h1 : Zi V Q v1 (cz (-y.v))) => raddz_c (hx.ext hV) h1 hLx (by rw [cz_len, zl_neg]; omega)
  obtain ⟨zz, hzz⟩ : ∃ zz, zz = cz (x.v - y.v) := ⟨_, rfl⟩
  have e0 : x.v + (cz (-y.v)).v = x.v - y.v := by rw [cz_v]; omega
  simp only [e0, ← hzz] at hadd
  rw [← hzz]
  obtain ⟨zn, hzn⟩ : ∃ zn, zn = cz (-y.v) := ⟨_, rfl⟩
  rw [← hzn] at hneg
  simp only [← hzn] at hadd
  clear hzz hzn e0
  obtain ⟨A, c, rfl, h⟩ := hx
  obtain ⟨B, d, rfl, h'⟩ := hy
  go_enter Tryz.func16, Tryz.ntmps16
  go_wp2_with fail
  refine wp_named fun W hW => ?_
  have b2 : Box W w.heap.size 25 #[.bool x.neg, .slice A x.mag.length c] := by rw [hW]; exact (by repeat (first | with_reducible assumption | with_reducible exact Box.new _ _ _ | (with_reducible refine Box.new_at _ _ _ ?_; (simp only [wsz]; done)) | with_reducible refine Box.drewN ?_ _ | with_reducible refine Box.drew ?_ | with_reducible refine Box.alloc ?_ _ | with_reducible apply Box.drewN | with_reducible apply Box.drew | with_reducible apply Box.alloc | with_reducible refine Box.set_ ?_ _ _ | (with_reducible refine Box.far ?_ ?_ _; rotate_left; (simp only [ne_eq]; omega)) | (with_reducible refine Box.ext ?_ (by with_reducible assumption)) | (refine Box.new_at _ _ _ ?_; simp only [wsz]; done)))
  have b3 : Box W (w.heap.size + 1) 25 #[.bool y.neg, .slice B y.mag.length d] := by rw [hW]; exact (by repeat (first | with_reducible assumption | with_reducible exact Box.new _ _ _ | (with_reducible refine Box.new_at _ _ _ ?_; (simp only [wsz]; done)) | with_reducible refine Box.drewN ?_ _ | with_reducible refine Box.drew ?_ | with_reducible refine Box.alloc ?_ _ | with_reducible apply Box.drewN | with_reducible apply Box.drew | with_reducible apply Box.alloc | with_reducible refine Box.set_ ?_ _ _ | (with_reducible refine Box.far ?_ ?_ _; rotate_left; (simp only [ne_eq]; omega)) | (with_reducible refine Box.ext ?_ (by with_reducible assumption)) | (refine Box.new_at _ _ _ ?_; simp only [wsz]; done)))
  have b4 : Box W (w.heap.size + 1 + 1) 25 #[.bool false, .slice none 0 0] := by rw [hW]; exact (by repeat (first | with_reducible assumption | with_reducible exact Box.new _ _ _ | (with_reducible refine Box.new_at _ _ _ ?_; (simp only [wsz]; done)) | with_reducible refine Box.drewN ?_ _ | with_reducible refine Box.drew ?_ | with_reducible refine Box.alloc ?_ _ | with_reducible apply Box.drewN | with_reducible apply Box.drew | with_reducible apply Box.alloc | with_reducible refine Box.set_ ?_ _ _ | (with_reducible refine Box.far ?_ ?_ _; rotate_left; (simp only [ne_eq]; omega)) | (with_reducible refine Box.ext ?_ (by with_reducible assumption)) | (refine Box.new_at _ _ _ ?_; simp only [wsz]; done)))
  have hE : Ext w W := by rw [hW]; exact (by repeat (first | with_reducible assumption | with_reducible exact Ext.refl _ | with_reducible refine Ext.drewN ?_ _ | with_reducible refine Ext.drew ?_ | with_reducible refine Ext.alloc ?_ _ | (with_reducible refine Ext.setCell ?_ ?_ _; rotate_left; (first | exact Nat.le_refl _ | (dsimp only; omega) | (simp only [wsz]; omega))) | (with_reducible refine Ext.trans ?_ (by with_reducible assumption))))
  clear hW
  have b2r := b2.rules; have b2l := b2.lt
  have b3r := b3.rules; have b3l := b3.lt
  refine wp_region_late [(0, true), (1, true), (2, false), (3, false)] [4] rfl (by kernel_rfl) (by intro _ _ d _ _ h; cases d <;> exact h) ?_
  (repeat (refine sh_take (v := ?_) rfl rfl ?_ ?_; rotate_left; (intro w' hx'; have hc' := hx'.cells.1; (try simp only [wcd] at hc'); go_simp; (first | done | with_reducible rfl)); (try simp only [Act.put, List.setIfInBounds_toArray, List.set_cons_zero, List.set_cons_succ])))
  (refine sh_loud rfl rfl fun K hK => ?_; go_simp)
  refine (hneg _ (show Ext w W.drew from hE.drew)).mono ?_
  rintro e w1 ⟨r1, rfl, h1, hx1⟩
  (refine hK _ _ (by repeat (first | with_reducible assumption | with_reducible exact Ext.refl _ | with_reducible refine Ext.drewN ?_ _ | with_reducible refine Ext.drew ?_ | with_reducible refine Ext.alloc ?_ _ | (with_reducible refine Ext.setCell ?_ ?_ _; rotate_left; (first | exact Nat.le_refl _ | (dsimp only; omega) | (simp only [wsz]; omega))) | (with_reducible refine Ext.trans ?_ (by with_reducible assumption)))) ?_; clear hK K; (try simp only [Act.put, List.setIfInBounds_toArray, List.set_cons_zero, List.set_cons_succ]))
  (refine sh_loud rfl rfl fun K hK => ?_; go_simp)
  refine (hadd _ _ _ (hE.trans (Ext.trans (Ext.refl W).drew hx1)) h1).mono ?_
  rintro e w2 ⟨r2, rfl, ⟨A2, c2, rfl, h2⟩, hx2⟩
  (refine hK _ _ (by repeat (first | with_reducible assumption | with_reducible exact Ext.refl _ | with_reducible refine Ext.drewN ?_ _ | with_reducible refine Ext.drew ?_ | with_reducible refine Ext.alloc ?_ _ | (with_reducible refine Ext.setCell ?_ ?_ _; rotate_left; (first | exact Nat.le_refl _ | (dsimp only; omega) | (simp only [wsz]; omega))) | (with_reducible refine Ext.trans ?_ (by with_reducible assumption)))) ?_; clear hK K; (try simp only [Act.put, List.setIfInBounds_toArray, List.set_cons_zero, List.set_cons_succ]))
  refine sh_done ?_
  have hx12 := hx1.trans hx2
  have b42 := (b4.drew.ext hx12)
  have b42r := b42.rules; have b42l := b42.lt
  have hs := hE.size; have hs1 := hx1.size; have hs2 := hx2.size
  simp only [wsz] at hs1
  clear b2r b3r
  (refine sh_late rfl rfl fun K hK => ?_; go_simp; refine hK _ _ ?_; clear hK K)
  refine sh_end ?_
  refine x_named fun T hT => ?_
  have kT : Kp (fun b => w.heap.size + 1 + 1 < b) w2 T := by rw [hT]; exact (by repeat (first | with_reducible exact Kp.refl _ | with_reducible refine Kp.drewN ?_ _ | with_reducible refine Kp.drew ?_ | with_reducible refine Kp.alloc ?_ _ | (with_reducible refine Kp.setCell ?_ ?_ _; rotate_left; (first | (dsimp only; omega) | (simp only [wsz]; omega))) | (with_reducible exact Kp.of_ext (by with_reducible assumption)) | (with_reducible refine Kp.ext ?_ (by with_reducible assumption))))
  have bT : Box T (w.heap.size + 1 + 1) 25 #[.bool zz.neg, .slice A2 zz.mag.length c2] := by rw [hT]; exact (b42.set_ 0 _).set_ 1 _
  have hET : Ext w T := by
    rw [hT]
    exact ((hE.trans (Ext.trans (Ext.refl W).drew hx12)).setCell (by dsimp only; omega) _).setCell (by dsimp only; omega) _
  clear hT b42r b42
  have bTr := bT.rules; have bTl := bT.lt
  have h2T := (h2.widen (Y := fun b => w.heap.size + 1 + 1 < b) fun b hb _ => by have := b4.lt; omega).keep kT
  go_wp2_with fail
  (refine bodyPost_ret (v := ?_) ?_ rfl ?_; rotate_left; (simp only [results, Tryz.results16]; go_simp; (first | done | with_reducible rfl)))
  exact ⟨_, rfl, ⟨A2, c2, rfl, h2T.widen fun b hb _ => by omega⟩, hET⟩

end Go.Proofs.YtbblgjjomgipfaaGreat
