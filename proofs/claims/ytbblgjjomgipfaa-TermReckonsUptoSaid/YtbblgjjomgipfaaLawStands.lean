/- riddlelaw05.TermStands. No conditions. -/
import Derived.Test.YtbblgjjomgipfaaAwake
import Derived.Test.YtbblgjjomgipfaaRO
namespace Go.Proofs.Ytbblgjjomgipfaa
open Go.RowKit Go.Shelf

theorem ord_self (t : T) : ordT t t = 0 := ordT_zero.2 ⟨rfl, rfl⟩

set_option maxHeartbeats 3200000 in
theorem lawstands_c {v1 v2 : Value} {t : T} {k : Z} {x : Int} {w : World} {X1 X2 : Nat → Prop} {N : Nat} (h1 : Tv w X1 v1 t) (h2 : Zi w X2 v2 k) (hi : i64 x)
    (hN : N ≤ 2097152) (h2N : 2 ≤ N) (s1 : t.sz N) (s2 : k.mag.length ≤ N) :
    Calls Try.prog 3 #[v1, v2, .int .i64 x] w fun e w' => e = .returned (.bool true) ∧ Ext w w' := by
  have ht := h1; have hk := h2
  have sn := nf_sz s1 h1.lb
  have vn : t.nf.valid = true := ct_valid _ _
  have vc : (ct [] k.v).valid = true := ct_valid _ _
  have vx : (ct [(x, 1)] 0).valid = true := ct_valid _ _
  have scn : (ct [] k.v).sz N := by
    have := ct_sz (l := []) (k := k.v) (N := 0) (M := N) (Nat.zero_le _) (by simp) (by rw [Nat.zero_add]; exact Nat.le_trans (zl_of h2.lb) s2)
    simpa using this
  have sx : (ct [(x, 1)] 0).sz 4 := ct_sz (N := 1) (M := 3) (by simp) (fun p hp => by rw [List.mem_singleton.1 hp]; exact Nat.le_trans (zl_word (x := 1) (by omega)) (by omega)) (Nat.le_trans (zl_word (x := 0) (by omega)) (by omega))
  obtain ⟨A1, c1, B1, d1, rfl, h11, h12⟩ := h1
  obtain ⟨A2, c2, rfl, h21⟩ := h2
  go_enter Try.func3, Try.ntmps3
  go_wp2_with fail
  refine (awake_c _).mono ?_
  rintro e W ⟨rfl, hx⟩
  (have b3 := Box.ext (g := w.heap.size) (by repeat (first | with_reducible assumption | with_reducible exact Box.new _ _ _ | (with_reducible refine Box.new_at _ _ _ ?_; (simp only [wsz]; done)) | with_reducible refine Box.drewN ?_ _ | with_reducible refine Box.drew ?_ | with_reducible refine Box.alloc ?_ _ | with_reducible apply Box.drewN | with_reducible apply Box.drew | with_reducible apply Box.alloc | with_reducible refine Box.set_ ?_ _ _ | (with_reducible refine Box.far ?_ ?_ _; rotate_left; (simp only [ne_eq]; omega)) | (with_reducible refine Box.ext ?_ (by with_reducible assumption)) | (refine Box.new_at _ _ _ ?_; simp only [wsz]; done))) hx; have b3r := b3.rules; have b3l := b3.lt)
  (have b4 := Box.ext (g := w.heap.size + 1) (by repeat (first | with_reducible assumption | with_reducible exact Box.new _ _ _ | (with_reducible refine Box.new_at _ _ _ ?_; (simp only [wsz]; done)) | with_reducible refine Box.drewN ?_ _ | with_reducible refine Box.drew ?_ | with_reducible refine Box.alloc ?_ _ | with_reducible apply Box.drewN | with_reducible apply Box.drew | with_reducible apply Box.alloc | with_reducible refine Box.set_ ?_ _ _ | (with_reducible refine Box.far ?_ ?_ _; rotate_left; (simp only [ne_eq]; omega)) | (with_reducible refine Box.ext ?_ (by with_reducible assumption)) | (refine Box.new_at _ _ _ ?_; simp only [wsz]; done))) hx; have b4r := b4.rules; have b4l := b4.lt)
  have hE : Ext w W := (by repeat (first | with_reducible assumption | with_reducible exact Ext.refl _ | with_reducible refine Ext.drewN ?_ _ | with_reducible refine Ext.drew ?_ | with_reducible refine Ext.alloc ?_ _ | (with_reducible refine Ext.setCell ?_ ?_ _; rotate_left; (first | exact Nat.le_refl _ | (dsimp only; omega) | (simp only [wsz]; omega))) | (with_reducible refine Ext.trans ?_ (by with_reducible assumption))))
  clear hx
  have htW := ht.ext hE
  have hkW := hk.ext hE
  go_wp2_with fail
  refine (tvalid_c htW).mono ?_
  rintro e w1 ⟨rfl, hx1⟩
  have b31 := b3.ext hx1
  have b41 := b4.ext hx1
  have b3r1 := b31.rules
  have b3l1 := b31.lt
  clear b3r b4r b3 b4
  go_wp2_with fail
  refine (tnorm_c (N := N) (htW.ext (by repeat (first | with_reducible assumption | with_reducible exact Ext.refl _ | with_reducible refine Ext.drewN ?_ _ | with_reducible refine Ext.drew ?_ | with_reducible refine Ext.alloc ?_ _ | (with_reducible refine Ext.setCell ?_ ?_ _; rotate_left; (first | exact Nat.le_refl _ | (dsimp only; omega) | (simp only [wsz]; omega))) | (with_reducible refine Ext.trans ?_ (by with_reducible assumption))))) (by omega) s1).mono ?_
  rintro e w2 ⟨r2, rfl, ht2, hx2⟩
  have hn2 := ht2
  obtain ⟨A3, c3, B3, d3, rfl, h31, h32⟩ := ht2
  have b32 := b31.ext hx2
  have b42 := b41.ext hx2
  have b4r2 := b42.rules
  have b4l2 := b42.lt
  clear b3r1 b31 b41
  go_wp2_with fail
  refine (tconst_c (z := k) (hkW.ext (by repeat (first | with_reducible assumption | with_reducible exact Ext.refl _ | with_reducible refine Ext.drewN ?_ _ | with_reducible refine Ext.drew ?_ | with_reducible refine Ext.alloc ?_ _ | (with_reducible refine Ext.setCell ?_ ?_ _; rotate_left; (first | exact Nat.le_refl _ | (dsimp only; omega) | (simp only [wsz]; omega))) | (with_reducible refine Ext.trans ?_ (by with_reducible assumption))))) (by omega)).mono ?_
  rintro e w3 ⟨r3, rfl, ht3, hx3⟩
  have hn3 := ht3
  obtain ⟨A4, c4, B4, d4, rfl, h41, h42⟩ := ht3
  have b33 : Box w3 w.heap.size 27 #[.slice A1 t.ps.length c1, .bool t.k.neg, .slice B1 t.k.mag.length d1] := (by repeat (first | with_reducible assumption | with_reducible exact Box.new _ _ _ | (with_reducible refine Box.new_at _ _ _ ?_; (simp only [wsz]; done)) | with_reducible refine Box.drewN ?_ _ | with_reducible refine Box.drew ?_ | with_reducible refine Box.alloc ?_ _ | with_reducible apply Box.drewN | with_reducible apply Box.drew | with_reducible apply Box.alloc | with_reducible refine Box.set_ ?_ _ _ | (with_reducible refine Box.far ?_ ?_ _; rotate_left; (simp only [ne_eq]; omega)) | (with_reducible refine Box.ext ?_ (by with_reducible assumption)) | (refine Box.new_at _ _ _ ?_; simp only [wsz]; done)))
  have b43 : Box w3 (w.heap.size + 1) 25 #[.bool k.neg, .slice A2 k.mag.length c2] := (by repeat (first | with_reducible assumption | with_reducible exact Box.new _ _ _ | (with_reducible refine Box.new_at _ _ _ ?_; (simp only [wsz]; done)) | with_reducible refine Box.drewN ?_ _ | with_reducible refine Box.drew ?_ | with_reducible refine Box.alloc ?_ _ | with_reducible apply Box.drewN | with_reducible apply Box.drew | with_reducible apply Box.alloc | with_reducible refine Box.set_ ?_ _ _ | (with_reducible refine Box.far ?_ ?_ _; rotate_left; (simp only [ne_eq]; omega)) | (with_reducible refine Box.ext ?_ (by with_reducible assumption)) | (refine Box.new_at _ _ _ ?_; simp only [wsz]; done)))
  have b93 : Box w3 w2.heap.size 27 #[.slice A3 t.nf.ps.length c3, .bool t.nf.k.neg, .slice B3 t.nf.k.mag.length d3] := Box.ext (Box.new_at _ _ _ rfl) hx3
  clear b4r2 b32 b42
  go_wp2_with fail
  refine (tvar_c hi).mono ?_
  rintro e w4 ⟨r4, rfl, ht4, hx4⟩
  have hn4 := ht4
  obtain ⟨A5, c5, B5, d5, rfl, h51, h52⟩ := ht4
  have b34 : Box w4 w.heap.size 27 #[.slice A1 t.ps.length c1, .bool t.k.neg, .slice B1 t.k.mag.length d1] := (by repeat (first | with_reducible assumption | with_reducible exact Box.new _ _ _ | (with_reducible refine Box.new_at _ _ _ ?_; (simp only [wsz]; done)) | with_reducible refine Box.drewN ?_ _ | with_reducible refine Box.drew ?_ | with_reducible refine Box.alloc ?_ _ | with_reducible apply Box.drewN | with_reducible apply Box.drew | with_reducible apply Box.alloc | with_reducible refine Box.set_ ?_ _ _ | (with_reducible refine Box.far ?_ ?_ _; rotate_left; (simp only [ne_eq]; omega)) | (with_reducible refine Box.ext ?_ (by with_reducible assumption)) | (refine Box.new_at _ _ _ ?_; simp only [wsz]; done)))
  have b44 : Box w4 (w.heap.size + 1) 25 #[.bool k.neg, .slice A2 k.mag.length c2] := (by repeat (first | with_reducible assumption | with_reducible exact Box.new _ _ _ | (with_reducible refine Box.new_at _ _ _ ?_; (simp only [wsz]; done)) | with_reducible refine Box.drewN ?_ _ | with_reducible refine Box.drew ?_ | with_reducible refine Box.alloc ?_ _ | with_reducible apply Box.drewN | with_reducible apply Box.drew | with_reducible apply Box.alloc | with_reducible refine Box.set_ ?_ _ _ | (with_reducible refine Box.far ?_ ?_ _; rotate_left; (simp only [ne_eq]; omega)) | (with_reducible refine Box.ext ?_ (by with_reducible assumption)) | (refine Box.new_at _ _ _ ?_; simp only [wsz]; done)))
  have b94 : Box w4 w2.heap.size 27 #[.slice A3 t.nf.ps.length c3, .bool t.nf.k.neg, .slice B3 t.nf.k.mag.length d3] := (by repeat (first | with_reducible assumption | with_reducible exact Box.new _ _ _ | (with_reducible refine Box.new_at _ _ _ ?_; (simp only [wsz]; done)) | with_reducible refine Box.drewN ?_ _ | with_reducible refine Box.drew ?_ | with_reducible refine Box.alloc ?_ _ | with_reducible apply Box.drewN | with_reducible apply Box.drew | with_reducible apply Box.alloc | with_reducible refine Box.set_ ?_ _ _ | (with_reducible refine Box.far ?_ ?_ _; rotate_left; (simp only [ne_eq]; omega)) | (with_reducible refine Box.ext ?_ (by with_reducible assumption)) | (refine Box.new_at _ _ _ ?_; simp only [wsz]; done)))
  have bc4 : Box w4 w3.heap.size 27 #[.slice A4 (ct [] k.v).ps.length c4, .bool (ct [] k.v).k.neg, .slice B4 (ct [] k.v).k.mag.length d4] := Box.ext (Box.new_at _ _ _ rfl) hx4
  have hn2' : Tv w4 (fun _ => True) (.agg #[.slice A3 t.nf.ps.length c3, .bool t.nf.k.neg, .slice B3 t.nf.k.mag.length d3]) t.nf := (hn2.widen fun _ _ _ => trivial).ext (by repeat (first | with_reducible assumption | with_reducible exact Ext.refl _ | with_reducible refine Ext.drewN ?_ _ | with_reducible refine Ext.drew ?_ | with_reducible refine Ext.alloc ?_ _ | (with_reducible refine Ext.setCell ?_ ?_ _; rotate_left; (first | exact Nat.le_refl _ | (dsimp only; omega) | (simp only [wsz]; omega))) | (with_reducible refine Ext.trans ?_ (by with_reducible assumption))))
  have hn3' : Tv w4 (fun _ => True) (.agg #[.slice A4 (ct [] k.v).ps.length c4, .bool (ct [] k.v).k.neg, .slice B4 (ct [] k.v).k.mag.length d4]) (ct [] k.v) := (hn3.widen fun _ _ _ => trivial).ext (by repeat (first | with_reducible assumption | with_reducible exact Ext.refl _ | with_reducible refine Ext.drewN ?_ _ | with_reducible refine Ext.drew ?_ | with_reducible refine Ext.alloc ?_ _ | (with_reducible refine Ext.setCell ?_ ?_ _; rotate_left; (first | exact Nat.le_refl _ | (dsimp only; omega) | (simp only [wsz]; omega))) | (with_reducible refine Ext.trans ?_ (by with_reducible assumption))))
  have hn4' : Tv w4 (fun _ => True) (.agg #[.slice A5 (ct [(x, 1)] 0).ps.length c5, .bool (ct [(x, 1)] 0).k.neg, .slice B5 (ct [(x, 1)] 0).k.mag.length d5]) (ct [(x, 1)] 0) := hn4.widen fun _ _ _ => trivial
  have hEw4 : Ext w w4 := hE.trans (by repeat (first | with_reducible assumption | with_reducible exact Ext.refl _ | with_reducible refine Ext.drewN ?_ _ | with_reducible refine Ext.drew ?_ | with_reducible refine Ext.alloc ?_ _ | (with_reducible refine Ext.setCell ?_ ?_ _; rotate_left; (first | exact Nat.le_refl _ | (dsimp only; omega) | (simp only [wsz]; omega))) | (with_reducible refine Ext.trans ?_ (by with_reducible assumption))))
  clear b33 b43 b93 h31 h32 h41 h42 h51 h52 hn2 hn3 hn4 hx1 hx2 hx3
  generalize htn : t.nf = tn at *
  generalize htc : ct [] k.v = tc at *
  generalize htx : ct [(x, 1)] 0 = tx at *
  have HTN := Lib.hid htn; have HTC := Lib.hid htc; have HTX := Lib.hid htx
  clear htn htc htx
  go_wp2_with fail
  refine wp_named fun V hV => ?_
  have b3 : Box V w.heap.size 27 #[.slice A1 t.ps.length c1, .bool t.k.neg, .slice B1 t.k.mag.length d1] := by rw [hV]; exact (by repeat (first | with_reducible assumption | with_reducible exact Box.new _ _ _ | (with_reducible refine Box.new_at _ _ _ ?_; (simp only [wsz]; done)) | with_reducible refine Box.drewN ?_ _ | with_reducible refine Box.drew ?_ | with_reducible refine Box.alloc ?_ _ | with_reducible apply Box.drewN | with_reducible apply Box.drew | with_reducible apply Box.alloc | with_reducible refine Box.set_ ?_ _ _ | (with_reducible refine Box.far ?_ ?_ _; rotate_left; (simp only [ne_eq]; omega)) | (with_reducible refine Box.ext ?_ (by with_reducible assumption)) | (refine Box.new_at _ _ _ ?_; simp only [wsz]; done)))
  have b4 : Box V (w.heap.size + 1) 25 #[.bool k.neg, .slice A2 k.mag.length c2] := by rw [hV]; exact (by repeat (first | with_reducible assumption | with_reducible exact Box.new _ _ _ | (with_reducible refine Box.new_at _ _ _ ?_; (simp only [wsz]; done)) | with_reducible refine Box.drewN ?_ _ | with_reducible refine Box.drew ?_ | with_reducible refine Box.alloc ?_ _ | with_reducible apply Box.drewN | with_reducible apply Box.drew | with_reducible apply Box.alloc | with_reducible refine Box.set_ ?_ _ _ | (with_reducible refine Box.far ?_ ?_ _; rotate_left; (simp only [ne_eq]; omega)) | (with_reducible refine Box.ext ?_ (by with_reducible assumption)) | (refine Box.new_at _ _ _ ?_; simp only [wsz]; done)))
  have b9 : Box V w2.heap.size 27 #[.slice A3 tn.ps.length c3, .bool tn.k.neg, .slice B3 tn.k.mag.length d3] := by rw [hV]; exact (by repeat (first | with_reducible assumption | with_reducible exact Box.new _ _ _ | (with_reducible refine Box.new_at _ _ _ ?_; (simp only [wsz]; done)) | with_reducible refine Box.drewN ?_ _ | with_reducible refine Box.drew ?_ | with_reducible refine Box.alloc ?_ _ | with_reducible apply Box.drewN | with_reducible apply Box.drew | with_reducible apply Box.alloc | with_reducible refine Box.set_ ?_ _ _ | (with_reducible refine Box.far ?_ ?_ _; rotate_left; (simp only [ne_eq]; omega)) | (with_reducible refine Box.ext ?_ (by with_reducible assumption)) | (refine Box.new_at _ _ _ ?_; simp only [wsz]; done)))
  have bc : Box V w3.heap.size 27 #[.slice A4 tc.ps.length c4, .bool tc.k.neg, .slice B4 tc.k.mag.length d4] := by rw [hV]; exact (by repeat (first | with_reducible assumption | with_reducible exact Box.new _ _ _ | (with_reducible refine Box.new_at _ _ _ ?_; (simp only [wsz]; done)) | with_reducible refine Box.drewN ?_ _ | with_reducible refine Box.drew ?_ | with_reducible refine Box.alloc ?_ _ | with_reducible apply Box.drewN | with_reducible apply Box.drew | with_reducible apply Box.alloc | with_reducible refine Box.set_ ?_ _ _ | (with_reducible refine Box.far ?_ ?_ _; rotate_left; (simp only [ne_eq]; omega)) | (with_reducible refine Box.ext ?_ (by with_reducible assumption)) | (refine Box.new_at _ _ _ ?_; simp only [wsz]; done)))
  have bx : Box V w4.heap.size 27 #[.slice A5 tx.ps.length c5, .bool tx.k.neg, .slice B5 tx.k.mag.length d5] := by rw [hV]; exact (by repeat (first | with_reducible assumption | with_reducible exact Box.new _ _ _ | (with_reducible refine Box.new_at _ _ _ ?_; (simp only [wsz]; done)) | with_reducible refine Box.drewN ?_ _ | with_reducible refine Box.drew ?_ | with_reducible refine Box.alloc ?_ _ | with_reducible apply Box.drewN | with_reducible apply Box.drew | with_reducible apply Box.alloc | with_reducible refine Box.set_ ?_ _ _ | (with_reducible refine Box.far ?_ ?_ _; rotate_left; (simp only [ne_eq]; omega)) | (with_reducible refine Box.ext ?_ (by with_reducible assumption)) | (refine Box.new_at _ _ _ ?_; simp only [wsz]; done)))
  have hEV : Ext w V := by rw [hV]; exact hEw4.alloc _
  have hV4 : Ext w4 V := by rw [hV]; exact Ext.alloc (Ext.refl _) _
  clear hV
  have b3r := b3.rules; have b4r := b4.rules; have b9r := b9.rules; have bcr := bc.rules; have bxr := bx.rules
  have b3l := b3.lt; have b4l := b4.lt; have b9l := b9.lt; have bcl := bc.lt; have bxl := bx.lt
  refine wp_region_seq 25 [(0, true), (1, true), (2, true), (3, true), (4, false), (5, true), (6, true), (7, true), (8, true), (9, true), (10, false), (11, false), (12, true), (13, true), (14, true), (15, true), (16, false), (17, false), (18, true), (19, true), (20, true), (21, true), (22, false), (23, false), (24, true), (25, false)] rfl (by kernel_rfl) (by intro _ _ d _ _ h; cases d <;> exact h) ?_
  (repeat (first | (refine sq_take (v := ?_) rfl rfl ?_ ?_; rotate_left; (intro w' hx'; have hc' := hx'.cells.1; (try simp only [wcd] at hc'); go_simp; (first | done | with_reducible rfl)); (try simp only [Act.put, List.setIfInBounds_toArray, List.set_cons_zero, List.set_cons_succ])) | (refine sq_skip rfl rfl ?_; (try simp only [Act.put, List.setIfInBounds_toArray, List.set_cons_zero, List.set_cons_succ])) | (refine sq_noloud rfl rfl ?_; (try simp only [Act.put, List.setIfInBounds_toArray, List.set_cons_zero, List.set_cons_succ])) | (refine sq_takeg (v := ?_) rfl rfl ?_ ?_; rotate_left; (intro w' hx'; have hc' := hx'.cells.1; (try simp only [wcd] at hc'); go_simp; (first | done | with_reducible rfl)); (try simp only [Act.put, List.setIfInBounds_toArray, List.set_cons_zero, List.set_cons_succ]))))
  (refine sq_loudg rfl rfl fun K hK => ?_; go_simp)
  refine (rvalid5_c (N := N) (ht.ext (hEV.trans (by repeat (first | with_reducible assumption | with_reducible exact Ext.refl _ | with_reducible refine Ext.drewN ?_ _ | with_reducible refine Ext.drew ?_ | with_reducible refine Ext.alloc ?_ _ | (with_reducible refine Ext.setCell ?_ ?_ _; rotate_left; (first | exact Nat.le_refl _ | (dsimp only; omega) | (simp only [wsz]; omega))) | (with_reducible refine Ext.trans ?_ (by with_reducible assumption)))))) (by omega) s1).mono ?_
  rintro e w5 ⟨rfl, hx5⟩
  have b35 := (b3.drew).ext hx5
  have b35r := b35.rules
  have b35l := b35.lt
  have b45 := (b4.drew).ext hx5
  have b95 := (b9.drew).ext hx5
  have b95r := b95.rules
  have b95l := b95.lt
  have bc5 := (bc.drew).ext hx5
  have bx5 := (bx.drew).ext hx5
  clear b3r b4r b9r bcr bxr
  (refine hK _ _ (by repeat (first | with_reducible assumption | with_reducible exact Ext.refl _ | with_reducible refine Ext.drewN ?_ _ | with_reducible refine Ext.drew ?_ | with_reducible refine Ext.alloc ?_ _ | (with_reducible refine Ext.setCell ?_ ?_ _; rotate_left; (first | exact Nat.le_refl _ | (dsimp only; omega) | (simp only [wsz]; omega))) | (with_reducible refine Ext.trans ?_ (by with_reducible assumption)))) ?_; clear hK K; (try simp only [Act.put, List.setIfInBounds_toArray, List.set_cons_zero, List.set_cons_succ]))
  (repeat (first | (refine sq_take (v := ?_) rfl rfl ?_ ?_; rotate_left; (intro w' hx'; have hc' := hx'.cells.1; (try simp only [wcd] at hc'); go_simp; (first | done | with_reducible rfl)); (try simp only [Act.put, List.setIfInBounds_toArray, List.set_cons_zero, List.set_cons_succ])) | (refine sq_skip rfl rfl ?_; (try simp only [Act.put, List.setIfInBounds_toArray, List.set_cons_zero, List.set_cons_succ])) | (refine sq_noloud rfl rfl ?_; (try simp only [Act.put, List.setIfInBounds_toArray, List.set_cons_zero, List.set_cons_succ])) | (refine sq_takeg (v := ?_) rfl rfl ?_ ?_; rotate_left; (intro w' hx'; have hc' := hx'.cells.1; (try simp only [wcd] at hc'); go_simp; (first | done | with_reducible rfl)); (try simp only [Act.put, List.setIfInBounds_toArray, List.set_cons_zero, List.set_cons_succ]))))
  (refine sq_loudg rfl rfl fun K hK => ?_; go_simp)
  refine (rnorm5_c (N := N) (ht.ext (hEV.trans (by repeat (first | with_reducible assumption | with_reducible exact Ext.refl _ | with_reducible refine Ext.drewN ?_ _ | with_reducible refine Ext.drew ?_ | with_reducible refine Ext.alloc ?_ _ | (with_reducible refine Ext.setCell ?_ ?_ _; rotate_left; (first | exact Nat.le_refl _ | (dsimp only; omega) | (simp only [wsz]; omega))) | (with_reducible refine Ext.trans ?_ (by with_reducible assumption)))))) (by omega) s1).mono ?_
  rw [HTN.out]
  rintro e w6 ⟨r6, rfl, ht6, hx6⟩
  have b36 := (b35).ext hx6
  have b46 := (b45).ext hx6
  have b96 := (b95).ext hx6
  have bc6 := (bc5).ext hx6
  have bx6 := (bx5).ext hx6
  clear b35r b95r
  (refine hK _ _ (by repeat (first | with_reducible assumption | with_reducible exact Ext.refl _ | with_reducible refine Ext.drewN ?_ _ | with_reducible refine Ext.drew ?_ | with_reducible refine Ext.alloc ?_ _ | (with_reducible refine Ext.setCell ?_ ?_ _; rotate_left; (first | exact Nat.le_refl _ | (dsimp only; omega) | (simp only [wsz]; omega))) | (with_reducible refine Ext.trans ?_ (by with_reducible assumption)))) ?_; clear hK K; (try simp only [Act.put, List.setIfInBounds_toArray, List.set_cons_zero, List.set_cons_succ]))
  (repeat (first | (refine sq_take (v := ?_) rfl rfl ?_ ?_; rotate_left; (intro w' hx'; have hc' := hx'.cells.1; (try simp only [wcd] at hc'); go_simp; (first | done | with_reducible rfl)); (try simp only [Act.put, List.setIfInBounds_toArray, List.set_cons_zero, List.set_cons_succ])) | (refine sq_skip rfl rfl ?_; (try simp only [Act.put, List.setIfInBounds_toArray, List.set_cons_zero, List.set_cons_succ])) | (refine sq_noloud rfl rfl ?_; (try simp only [Act.put, List.setIfInBounds_toArray, List.set_cons_zero, List.set_cons_succ])) | (refine sq_takeg (v := ?_) rfl rfl ?_ ?_; rotate_left; (intro w' hx'; have hc' := hx'.cells.1; (try simp only [wcd] at hc'); go_simp; (first | done | with_reducible rfl)); (try simp only [Act.put, List.setIfInBounds_toArray, List.set_cons_zero, List.set_cons_succ]))))
  (refine sq_loudg rfl rfl fun K hK => ?_; go_simp)
  refine (rsame5_c (N := N + N) (hn2'.ext (hV4.trans (by repeat (first | with_reducible assumption | with_reducible exact Ext.refl _ | with_reducible refine Ext.drewN ?_ _ | with_reducible refine Ext.drew ?_ | with_reducible refine Ext.alloc ?_ _ | (with_reducible refine Ext.setCell ?_ ?_ _; rotate_left; (first | exact Nat.le_refl _ | (dsimp only; omega) | (simp only [wsz]; omega))) | (with_reducible refine Ext.trans ?_ (by with_reducible assumption)))))) ht6 (by omega) sn sn vn vn (ord_self tn)).mono ?_
  rintro e w7 ⟨rfl, hx7⟩
  have b37 := (b36).ext hx7
  have b47 := (b46).ext hx7
  have b47r := b47.rules
  have b47l := b47.lt
  have b97 := (b96).ext hx7
  have bc7 := (bc6).ext hx7
  have bc7r := bc7.rules
  have bc7l := bc7.lt
  have bx7 := (bx6).ext hx7
  (refine hK _ _ (by repeat (first | with_reducible assumption | with_reducible exact Ext.refl _ | with_reducible refine Ext.drewN ?_ _ | with_reducible refine Ext.drew ?_ | with_reducible refine Ext.alloc ?_ _ | (with_reducible refine Ext.setCell ?_ ?_ _; rotate_left; (first | exact Nat.le_refl _ | (dsimp only; omega) | (simp only [wsz]; omega))) | (with_reducible refine Ext.trans ?_ (by with_reducible assumption)))) ?_; clear hK K; (try simp only [Act.put, List.setIfInBounds_toArray, List.set_cons_zero, List.set_cons_succ]))
  (repeat (first | (refine sq_take (v := ?_) rfl rfl ?_ ?_; rotate_left; (intro w' hx'; have hc' := hx'.cells.1; (try simp only [wcd] at hc'); go_simp; (first | done | with_reducible rfl)); (try simp only [Act.put, List.setIfInBounds_toArray, List.set_cons_zero, List.set_cons_succ])) | (refine sq_skip rfl rfl ?_; (try simp only [Act.put, List.setIfInBounds_toArray, List.set_cons_zero, List.set_cons_succ])) | (refine sq_noloud rfl rfl ?_; (try simp only [Act.put, List.setIfInBounds_toArray, List.set_cons_zero, List.set_cons_succ])) | (refine sq_takeg (v := ?_) rfl rfl ?_ ?_; rotate_left; (intro w' hx'; have hc' := hx'.cells.1; (try simp only [wcd] at hc'); go_simp; (first | done | with_reducible rfl)); (try simp only [Act.put, List.setIfInBounds_toArray, List.set_cons_zero, List.set_cons_succ]))))
  (refine sq_loudg rfl rfl fun K hK => ?_; go_simp)
  refine (rconst5_c (z := k) (hk.ext (hEV.trans (by repeat (first | with_reducible assumption | with_reducible exact Ext.refl _ | with_reducible refine Ext.drewN ?_ _ | with_reducible refine Ext.drew ?_ | with_reducible refine Ext.alloc ?_ _ | (with_reducible refine Ext.setCell ?_ ?_ _; rotate_left; (first | exact Nat.le_refl _ | (dsimp only; omega) | (simp only [wsz]; omega))) | (with_reducible refine Ext.trans ?_ (by with_reducible assumption)))))) (by omega)).mono ?_
  rw [HTC.out]
  rintro e w8 ⟨r8, rfl, ht8, hx8⟩
  have b38 := (b37).ext hx8
  have b48 := (b47).ext hx8
  have b98 := (b97).ext hx8
  have bc8 := (bc7).ext hx8
  have bx8 := (bx7).ext hx8
  clear b47r bc7r
  (refine hK _ _ (by repeat (first | with_reducible assumption | with_reducible exact Ext.refl _ | with_reducible refine Ext.drewN ?_ _ | with_reducible refine Ext.drew ?_ | with_reducible refine Ext.alloc ?_ _ | (with_reducible refine Ext.setCell ?_ ?_ _; rotate_left; (first | exact Nat.le_refl _ | (dsimp only; omega) | (simp only [wsz]; omega))) | (with_reducible refine Ext.trans ?_ (by with_reducible assumption)))) ?_; clear hK K; (try simp only [Act.put, List.setIfInBounds_toArray, List.set_cons_zero, List.set_cons_succ]))
  (repeat (first | (refine sq_take (v := ?_) rfl rfl ?_ ?_; rotate_left; (intro w' hx'; have hc' := hx'.cells.1; (try simp only [wcd] at hc'); go_simp; (first | done | with_reducible rfl)); (try simp only [Act.put, List.setIfInBounds_toArray, List.set_cons_zero, List.set_cons_succ])) | (refine sq_skip rfl rfl ?_; (try simp only [Act.put, List.setIfInBounds_toArray, List.set_cons_zero, List.set_cons_succ])) | (refine sq_noloud rfl rfl ?_; (try simp only [Act.put, List.setIfInBounds_toArray, List.set_cons_zero, List.set_cons_succ])) | (refine sq_takeg (v := ?_) rfl rfl ?_ ?_; rotate_left; (intro w' hx'; have hc' := hx'.cells.1; (try simp only [wcd] at hc'); go_simp; (first | done | with_reducible rfl)); (try simp only [Act.put, List.setIfInBounds_toArray, List.set_cons_zero, List.set_cons_succ]))))
  (refine sq_loudg rfl rfl fun K hK => ?_; go_simp)
  refine (rsame5_c (N := N) (hn3'.ext (hV4.trans (by repeat (first | with_reducible assumption | with_reducible exact Ext.refl _ | with_reducible refine Ext.drewN ?_ _ | with_reducible refine Ext.drew ?_ | with_reducible refine Ext.alloc ?_ _ | (with_reducible refine Ext.setCell ?_ ?_ _; rotate_left; (first | exact Nat.le_refl _ | (dsimp only; omega) | (simp only [wsz]; omega))) | (with_reducible refine Ext.trans ?_ (by with_reducible assumption)))))) ht8 (by omega) scn scn vc vc (ord_self tc)).mono ?_
  rintro e w9 ⟨rfl, hx9⟩
  have b39 := (b38).ext hx9
  have b49 := (b48).ext hx9
  have b99 := (b98).ext hx9
  have bc9 := (bc8).ext hx9
  have bx9 := (bx8).ext hx9
  have bx9r := bx9.rules
  have bx9l := bx9.lt
  (refine hK _ _ (by repeat (first | with_reducible assumption | with_reducible exact Ext.refl _ | with_reducible refine Ext.drewN ?_ _ | with_reducible refine Ext.drew ?_ | with_reducible refine Ext.alloc ?_ _ | (with_reducible refine Ext.setCell ?_ ?_ _; rotate_left; (first | exact Nat.le_refl _ | (dsimp only; omega) | (simp only [wsz]; omega))) | (with_reducible refine Ext.trans ?_ (by with_reducible assumption)))) ?_; clear hK K; (try simp only [Act.put, List.setIfInBounds_toArray, List.set_cons_zero, List.set_cons_succ]))
  (repeat (first | (refine sq_take (v := ?_) rfl rfl ?_ ?_; rotate_left; (intro w' hx'; have hc' := hx'.cells.1; (try simp only [wcd] at hc'); go_simp; (first | done | with_reducible rfl)); (try simp only [Act.put, List.setIfInBounds_toArray, List.set_cons_zero, List.set_cons_succ])) | (refine sq_skip rfl rfl ?_; (try simp only [Act.put, List.setIfInBounds_toArray, List.set_cons_zero, List.set_cons_succ])) | (refine sq_noloud rfl rfl ?_; (try simp only [Act.put, List.setIfInBounds_toArray, List.set_cons_zero, List.set_cons_succ])) | (refine sq_takeg (v := ?_) rfl rfl ?_ ?_; rotate_left; (intro w' hx'; have hc' := hx'.cells.1; (try simp only [wcd] at hc'); go_simp; (first | done | with_reducible rfl)); (try simp only [Act.put, List.setIfInBounds_toArray, List.set_cons_zero, List.set_cons_succ]))))
  (refine sq_loudg rfl rfl fun K hK => ?_; go_simp)
  refine (rvar5_c hi).mono ?_
  rw [HTX.out]
  rintro e w10 ⟨r10, rfl, ht10, hx10⟩
  have b310 := (b39).ext hx10
  have b410 := (b49).ext hx10
  have b910 := (b99).ext hx10
  have bc10 := (bc9).ext hx10
  have bx10 := (bx9).ext hx10
  clear bx9r
  (refine hK _ _ (by repeat (first | with_reducible assumption | with_reducible exact Ext.refl _ | with_reducible refine Ext.drewN ?_ _ | with_reducible refine Ext.drew ?_ | with_reducible refine Ext.alloc ?_ _ | (with_reducible refine Ext.setCell ?_ ?_ _; rotate_left; (first | exact Nat.le_refl _ | (dsimp only; omega) | (simp only [wsz]; omega))) | (with_reducible refine Ext.trans ?_ (by with_reducible assumption)))) ?_; clear hK K; (try simp only [Act.put, List.setIfInBounds_toArray, List.set_cons_zero, List.set_cons_succ]))
  (repeat (first | (refine sq_take (v := ?_) rfl rfl ?_ ?_; rotate_left; (intro w' hx'; have hc' := hx'.cells.1; (try simp only [wcd] at hc'); go_simp; (first | done | with_reducible rfl)); (try simp only [Act.put, List.setIfInBounds_toArray, List.set_cons_zero, List.set_cons_succ])) | (refine sq_skip rfl rfl ?_; (try simp only [Act.put, List.setIfInBounds_toArray, List.set_cons_zero, List.set_cons_succ])) | (refine sq_noloud rfl rfl ?_; (try simp only [Act.put, List.setIfInBounds_toArray, List.set_cons_zero, List.set_cons_succ])) | (refine sq_takeg (v := ?_) rfl rfl ?_ ?_; rotate_left; (intro w' hx'; have hc' := hx'.cells.1; (try simp only [wcd] at hc'); go_simp; (first | done | with_reducible rfl)); (try simp only [Act.put, List.setIfInBounds_toArray, List.set_cons_zero, List.set_cons_succ]))))
  (refine sq_loudg rfl rfl fun K hK => ?_; go_simp)
  refine (rsame5_c (N := 4) (hn4'.ext (hV4.trans (by repeat (first | with_reducible assumption | with_reducible exact Ext.refl _ | with_reducible refine Ext.drewN ?_ _ | with_reducible refine Ext.drew ?_ | with_reducible refine Ext.alloc ?_ _ | (with_reducible refine Ext.setCell ?_ ?_ _; rotate_left; (first | exact Nat.le_refl _ | (dsimp only; omega) | (simp only [wsz]; omega))) | (with_reducible refine Ext.trans ?_ (by with_reducible assumption)))))) ht10 (by omega) sx sx vx vx (ord_self tx)).mono ?_
  rintro e w11 ⟨rfl, hx11⟩
  (refine hK _ _ (by repeat (first | with_reducible assumption | with_reducible exact Ext.refl _ | with_reducible refine Ext.drewN ?_ _ | with_reducible refine Ext.drew ?_ | with_reducible refine Ext.alloc ?_ _ | (with_reducible refine Ext.setCell ?_ ?_ _; rotate_left; (first | exact Nat.le_refl _ | (dsimp only; omega) | (simp only [wsz]; omega))) | (with_reducible refine Ext.trans ?_ (by with_reducible assumption)))) ?_; clear hK K; (try simp only [Act.put, List.setIfInBounds_toArray, List.set_cons_zero, List.set_cons_succ]))
  (repeat (first | (refine sq_take (v := ?_) rfl rfl ?_ ?_; rotate_left; (intro w' hx'; have hc' := hx'.cells.1; (try simp only [wcd] at hc'); go_simp; (first | done | with_reducible rfl)); (try simp only [Act.put, List.setIfInBounds_toArray, List.set_cons_zero, List.set_cons_succ])) | (refine sq_skip rfl rfl ?_; (try simp only [Act.put, List.setIfInBounds_toArray, List.set_cons_zero, List.set_cons_succ])) | (refine sq_noloud rfl rfl ?_; (try simp only [Act.put, List.setIfInBounds_toArray, List.set_cons_zero, List.set_cons_succ])) | (refine sq_takeg (v := ?_) rfl rfl ?_ ?_; rotate_left; (intro w' hx'; have hc' := hx'.cells.1; (try simp only [wcd] at hc'); go_simp; (first | done | with_reducible rfl)); (try simp only [Act.put, List.setIfInBounds_toArray, List.set_cons_zero, List.set_cons_succ]))))
  (refine sq_last rfl rfl fun K hK => ?_; go_simp; refine hK _ _ ?_; clear hK K)
  go_wp2_with fail
  go_ret
  exact ⟨rfl, hEV.trans (by repeat (first | with_reducible assumption | with_reducible exact Ext.refl _ | with_reducible refine Ext.drewN ?_ _ | with_reducible refine Ext.drew ?_ | with_reducible refine Ext.alloc ?_ _ | (with_reducible refine Ext.setCell ?_ ?_ _; rotate_left; (first | exact Nat.le_refl _ | (dsimp only; omega) | (simp only [wsz]; omega))) | (with_reducible refine Ext.trans ?_ (by with_reducible assumption))))⟩

end Go.Proofs.Ytbblgjjomgipfaa
