/- census: num, less, plus; the law's num, ints. No conditions. -/
import Derived.Test.YtbblgjjomgipfaaGreatZdiv
import Derived.Test.YtbblgjjomgipfaaGreatZ64
import Derived.Test.YtbblgjjomgipfaaGreatRef2
import Derived.Test.YtbblgjjomgipfaaGreatAbove
import Derived.Test.YtbblgjjomgipfaaGreatMerge
namespace Go.Proofs.YtbblgjjomgipfaaGreat
open Go.RowKit Go.Shelf

set_option maxHeartbeats 400000 in
theorem cnum_c (n : Int) (hn : -9223372036854775808 ≤ n) (hn2 : n ≤ 9223372036854775807) (w : World) :
    Calls Tryz.prog 41 #[.int .i64 n] w fun e w' => ∃ r, e = .returned r ∧ Zi w' (w.heap.size ≤ ·) r (cz n) ∧ Ext w w' := by
  obtain ⟨z, hz⟩ : ∃ z, z = cz n := ⟨_, rfl⟩
  have hcall := fun (V : World) => zof_c n hn hn2 V
  rw [← hz] at hcall ⊢
  clear hz
  go_enter Tryz.func41, Tryz.ntmps41
  go_wp2_with fail
  refine (hcall _).mono ?_
  rintro e w1 ⟨r, rfl, ⟨A1, c1, rfl, h1⟩, hx⟩
  have hc := hx.cells
  go_wp2_with fail
  (refine bodyPost_ret (v := ?_) ?_ rfl ?_; rotate_left; (simp only [results, Tryz.results41]; go_simp; (first | done | with_reducible rfl)))
  exact ⟨_, rfl, ⟨A1, c1, rfl, (h1.keep (by repeat (first | with_reducible exact Kp.refl _ | with_reducible refine Kp.drewN ?_ _ | with_reducible refine Kp.drew ?_ | with_reducible refine Kp.alloc ?_ _ | (with_reducible refine Kp.setCell ?_ ?_ _; rotate_left; (first | (dsimp only; omega) | (simp only [wsz]; omega))) | (with_reducible exact Kp.of_ext (by with_reducible assumption)) | (with_reducible refine Kp.ext ?_ (by with_reducible assumption))))).widen (fun b hb _ => by first | omega | (dsimp only at hb ⊢; omega) | (dsimp only at hb; omega) | (simp only [wsz] at hb ⊢; omega) | (simp only [wsz] at hb; omega))⟩, (by repeat (first | with_reducible assumption | with_reducible exact Ext.refl _ | with_reducible refine Ext.drewN ?_ _ | with_reducible refine Ext.drew ?_ | with_reducible refine Ext.alloc ?_ _ | (with_reducible refine Ext.setCell ?_ ?_ _; rotate_left; (first | exact Nat.le_refl _ | (dsimp only; omega) | (simp only [wsz]; omega))) | (with_reducible refine Ext.trans ?_ (by with_reducible assumption))))⟩

set_option maxHeartbeats 400000 in
theorem lnum_c (n : Int) (hn : -9223372036854775808 ≤ n) (hn2 : n ≤ 9223372036854775807) (w : World) :
    Calls Tryz.prog 11 #[.int .i64 n] w fun e w' => ∃ r, e = .returned r ∧ Zi w' (w.heap.size ≤ ·) r (cz n) ∧ Ext w w' := by
  obtain ⟨z, hz⟩ : ∃ z, z = cz n := ⟨_, rfl⟩
  have hcall := fun (V : World) => rof_c n hn hn2 V
  rw [← hz] at hcall ⊢
  clear hz
  go_enter Tryz.func11, Tryz.ntmps11
  go_wp2_with fail
  refine (hcall _).mono ?_
  rintro e w1 ⟨r, rfl, ⟨A1, c1, rfl, h1⟩, hx⟩
  have hc := hx.cells
  go_wp2_with fail
  (refine bodyPost_ret (v := ?_) ?_ rfl ?_; rotate_left; (simp only [results, Tryz.results11]; go_simp; (first | done | with_reducible rfl)))
  exact ⟨_, rfl, ⟨A1, c1, rfl, (h1.keep (by repeat (first | with_reducible exact Kp.refl _ | with_reducible refine Kp.drewN ?_ _ | with_reducible refine Kp.drew ?_ | with_reducible refine Kp.alloc ?_ _ | (with_reducible refine Kp.setCell ?_ ?_ _; rotate_left; (first | (dsimp only; omega) | (simp only [wsz]; omega))) | (with_reducible exact Kp.of_ext (by with_reducible assumption)) | (with_reducible refine Kp.ext ?_ (by with_reducible assumption))))).widen (fun b hb _ => by first | omega | (dsimp only at hb ⊢; omega) | (dsimp only at hb; omega) | (simp only [wsz] at hb ⊢; omega) | (simp only [wsz] at hb; omega))⟩, (by repeat (first | with_reducible assumption | with_reducible exact Ext.refl _ | with_reducible refine Ext.drewN ?_ _ | with_reducible refine Ext.drew ?_ | with_reducible refine Ext.alloc ?_ _ | (with_reducible refine Ext.setCell ?_ ?_ _; rotate_left; (first | exact Nat.le_refl _ | (dsimp only; omega) | (simp only [wsz]; omega))) | (with_reducible refine Ext.trans ?_ (by with_reducible assumption))))⟩

set_option maxHeartbeats 400000 in
theorem less_c {u v : Value} {x y : Z} {w : World} {X Y : Nat → Prop} (hx : Zi w X u x) (hy : Zi w Y v y) :
    Calls Tryz.prog 42 #[u, v] w fun e w' => e = .returned (.bool (decide (x.v < y.v))) ∧ Ext w w' := by
  have hx0 := hx; have hy0 := hy
  have hc := fun (V : World) (hV : Ext w V) => zcmp_c (hx0.ext hV) (hy0.ext hV)
  have hd : decide (cmpI x.v y.v < 0) = decide (x.v < y.v) := by congr 1; exact propext cmpI_neg
  obtain ⟨cm, hcm⟩ : ∃ cm, cm = cmpI x.v y.v := ⟨_, rfl⟩
  rw [← hcm] at hc hd
  rw [← hd]
  clear hd hcm
  obtain ⟨A, c, rfl, _⟩ := hx
  obtain ⟨B, d, rfl, _⟩ := hy
  go_enter Tryz.func42, Tryz.ntmps42
  go_wp2_with fail
  refine (hc _ (by repeat (first | with_reducible assumption | with_reducible exact Ext.refl _ | with_reducible refine Ext.drewN ?_ _ | with_reducible refine Ext.drew ?_ | with_reducible refine Ext.alloc ?_ _ | (with_reducible refine Ext.setCell ?_ ?_ _; rotate_left; (first | exact Nat.le_refl _ | (dsimp only; omega) | (simp only [wsz]; omega))) | (with_reducible refine Ext.trans ?_ (by with_reducible assumption))))).mono ?_
  rintro e w1 ⟨rfl, hx1⟩
  go_wp2_with fail
  go_ret
  exact ⟨rfl, Ext.trans (by repeat (first | with_reducible assumption | with_reducible exact Ext.refl _ | with_reducible refine Ext.drewN ?_ _ | with_reducible refine Ext.drew ?_ | with_reducible refine Ext.alloc ?_ _ | (with_reducible refine Ext.setCell ?_ ?_ _; rotate_left; (first | exact Nat.le_refl _ | (dsimp only; omega) | (simp only [wsz]; omega))) | (with_reducible refine Ext.trans ?_ (by with_reducible assumption)))) hx1⟩

set_option maxHeartbeats 800000 in
theorem plus_c {v : Value} {x : Z} {w : World} {X : Nat → Prop} (h : Zi w X v x) (hL : x.mag.length ≤ 1099511627775) (n : Int) (hn : -9223372036854775808 ≤ n) (hn2 : n ≤ 9223372036854775807) :
    Calls Tryz.prog 44 #[v, .int .i64 n] w fun e w' => ∃ r, e = .returned r ∧ Zi w' (w.heap.size ≤ ·) r (cz (x.v + n)) ∧ Ext w w' := by
  have hz := h
  obtain ⟨zz, hzz⟩ : ∃ zz, zz = cz (x.v + n) := ⟨_, rfl⟩
  have hadd := fun (V : World) (v1 : Value) (Y : Nat → Prop) (hV : Ext w V) (h1 : Zi V Y v1 (cz n)) => zadd_c (hz.ext hV) h1 (by omega) (by rw [cz_len]; have := zl_word (x := n) (by omega); omega)
  rw [cz_v, ← hzz] at hadd
  rw [← hzz]
  obtain ⟨zn, hzn⟩ : ∃ zn, zn = cz n := ⟨_, rfl⟩
  have hnum := fun (V : World) => cnum_c n hn hn2 V
  rw [← hzn] at hadd hnum
  clear hzz hzn
  obtain ⟨A, c, rfl, h⟩ := h
  go_enter Tryz.func44, Tryz.ntmps44
  go_wp2_with fail
  refine wp_named fun W hW => ?_
  have b2 : Box W w.heap.size 25 #[.bool x.neg, .slice A x.mag.length c] := by rw [hW]; exact (by repeat (first | with_reducible assumption | with_reducible exact Box.new _ _ _ | (with_reducible refine Box.new_at _ _ _ ?_; (simp only [wsz]; done)) | with_reducible refine Box.drewN ?_ _ | with_reducible refine Box.drew ?_ | with_reducible refine Box.alloc ?_ _ | with_reducible apply Box.drewN | with_reducible apply Box.drew | with_reducible apply Box.alloc | with_reducible refine Box.set_ ?_ _ _ | (with_reducible refine Box.far ?_ ?_ _; rotate_left; (simp only [ne_eq]; omega)) | (with_reducible refine Box.ext ?_ (by with_reducible assumption)) | (refine Box.new_at _ _ _ ?_; simp only [wsz]; done)))
  have b4 : Box W (w.heap.size + 1) 25 #[.bool false, .slice none 0 0] := by rw [hW]; exact (by repeat (first | with_reducible assumption | with_reducible exact Box.new _ _ _ | (with_reducible refine Box.new_at _ _ _ ?_; (simp only [wsz]; done)) | with_reducible refine Box.drewN ?_ _ | with_reducible refine Box.drew ?_ | with_reducible refine Box.alloc ?_ _ | with_reducible apply Box.drewN | with_reducible apply Box.drew | with_reducible apply Box.alloc | with_reducible refine Box.set_ ?_ _ _ | (with_reducible refine Box.far ?_ ?_ _; rotate_left; (simp only [ne_eq]; omega)) | (with_reducible refine Box.ext ?_ (by with_reducible assumption)) | (refine Box.new_at _ _ _ ?_; simp only [wsz]; done)))
  have hE : Ext w W := by rw [hW]; exact (by repeat (first | with_reducible assumption | with_reducible exact Ext.refl _ | with_reducible refine Ext.drewN ?_ _ | with_reducible refine Ext.drew ?_ | with_reducible refine Ext.alloc ?_ _ | (with_reducible refine Ext.setCell ?_ ?_ _; rotate_left; (first | exact Nat.le_refl _ | (dsimp only; omega) | (simp only [wsz]; omega))) | (with_reducible refine Ext.trans ?_ (by with_reducible assumption))))
  clear hW
  have b2r := b2.rules; have b2l := b2.lt
  refine wp_region_late [(0, true), (1, true), (2, false), (3, false)] [4] rfl (by kernel_rfl) (by intro _ _ d _ _ h; cases d <;> exact h) ?_
  (repeat (refine sh_take (v := ?_) rfl rfl ?_ ?_; rotate_left; (intro w' hx'; have hc' := hx'.cells.1; (try simp only [wcd] at hc'); go_simp; (first | done | with_reducible rfl)); (try simp only [Act.put, List.setIfInBounds_toArray, List.set_cons_zero, List.set_cons_succ])))
  (refine sh_loud rfl rfl fun K hK => ?_; go_simp)
  refine (hnum _).mono ?_
  rintro e w1 ⟨r1, rfl, h1, hx1⟩
  (refine hK _ _ (by repeat (first | with_reducible assumption | with_reducible exact Ext.refl _ | with_reducible refine Ext.drewN ?_ _ | with_reducible refine Ext.drew ?_ | with_reducible refine Ext.alloc ?_ _ | (with_reducible refine Ext.setCell ?_ ?_ _; rotate_left; (first | exact Nat.le_refl _ | (dsimp only; omega) | (simp only [wsz]; omega))) | (with_reducible refine Ext.trans ?_ (by with_reducible assumption)))) ?_; clear hK K; (try simp only [Act.put, List.setIfInBounds_toArray, List.set_cons_zero, List.set_cons_succ]))
  (refine sh_loud rfl rfl fun K hK => ?_; go_simp)
  refine (hadd _ _ _ (hE.trans (Ext.trans (Ext.refl W).drew hx1)) h1).mono ?_
  rintro e w2 ⟨r2, rfl, ⟨A2, c2, rfl, h2⟩, hx2⟩
  (refine hK _ _ (by repeat (first | with_reducible assumption | with_reducible exact Ext.refl _ | with_reducible refine Ext.drewN ?_ _ | with_reducible refine Ext.drew ?_ | with_reducible refine Ext.alloc ?_ _ | (with_reducible refine Ext.setCell ?_ ?_ _; rotate_left; (first | exact Nat.le_refl _ | (dsimp only; omega) | (simp only [wsz]; omega))) | (with_reducible refine Ext.trans ?_ (by with_reducible assumption)))) ?_; clear hK K; (try simp only [Act.put, List.setIfInBounds_toArray, List.set_cons_zero, List.set_cons_succ]))
  refine sh_done ?_
  have hx12 := hx1.trans hx2
  have b42 := (b4.drew.ext hx12)
  have b42r := b42.rules; have b42l := b42.lt
  have hs := hE.size; have hs1 := hx1.size; have hs2 := hx2.size
  simp only [wsz] at hs1
  clear b2r
  (refine sh_late rfl rfl fun K hK => ?_; go_simp; refine hK _ _ ?_; clear hK K)
  refine sh_end ?_
  refine x_named fun T hT => ?_
  have kT : Kp (fun b => w.heap.size + 1 < b) w2 T := by rw [hT]; exact (by repeat (first | with_reducible exact Kp.refl _ | with_reducible refine Kp.drewN ?_ _ | with_reducible refine Kp.drew ?_ | with_reducible refine Kp.alloc ?_ _ | (with_reducible refine Kp.setCell ?_ ?_ _; rotate_left; (first | (dsimp only; omega) | (simp only [wsz]; omega))) | (with_reducible exact Kp.of_ext (by with_reducible assumption)) | (with_reducible refine Kp.ext ?_ (by with_reducible assumption))))
  have bT : Box T (w.heap.size + 1) 25 #[.bool zz.neg, .slice A2 zz.mag.length c2] := by rw [hT]; exact (b42.set_ 0 _).set_ 1 _
  have hET : Ext w T := by
    rw [hT]
    exact ((hE.trans (Ext.trans (Ext.refl W).drew hx12)).setCell (by dsimp only; omega) _).setCell (by dsimp only; omega) _
  clear hT b42r b42
  have bTr := bT.rules; have bTl := bT.lt
  have h2T := (h2.widen (Y := fun b => w.heap.size + 1 < b) fun b hb _ => by have := b4.lt; omega).keep kT
  go_wp2_with fail
  (refine bodyPost_ret (v := ?_) ?_ rfl ?_; rotate_left; (simp only [results, Tryz.results44]; go_simp; (first | done | with_reducible rfl)))
  exact ⟨_, rfl, ⟨A2, c2, rfl, h2T.widen fun b hb _ => by omega⟩, hET⟩

end Go.Proofs.YtbblgjjomgipfaaGreat
