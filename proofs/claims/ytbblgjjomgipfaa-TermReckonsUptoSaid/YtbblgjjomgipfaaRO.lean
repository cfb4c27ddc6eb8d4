/- riddleref05.Order, Same. No conditions. -/
import Derived.Test.YtbblgjjomgipfaaRN
import Derived.Test.YtbblgjjomgipfaaRV
import Derived.Test.YtbblgjjomgipfaaCmpV
namespace Go.Proofs.Ytbblgjjomgipfaa
open Go.RowKit Go.Shelf

set_option maxHeartbeats 3200000 in
theorem rorder5_c {av bv : Value} {a b : T} {w : World} {X Y : Nat → Prop} {N : Nat} (ha : Tv w X av a) (hb : Tv w Y bv b) (hN : N ≤ 1073741824) (sa : a.sz N) (sb : b.sz N) :
    Calls Try.prog 49 #[av, bv] w fun e w' => e = .returned (.int .i64 (ordT a b)) ∧ Ext w w' := by
  have hav := ha; have hbv := hb
  have sna := nf_sz sa ha.lb
  have snb := nf_sz sb hb.lb
  obtain ⟨A, c, AK, d, rfl, ha1, ha2⟩ := ha
  obtain ⟨B, c', BK, d', rfl, hb1, hb2⟩ := hb
  have hka : a.nf.k = cz a.k.v := rfl
  have hkb : b.nf.k = cz b.k.v := rfl
  obtain ⟨an, han⟩ : ∃ an, an = a.nf := ⟨_, rfl⟩
  obtain ⟨bn, hbn⟩ : ∃ bn, bn = b.nf := ⟨_, rfl⟩
  have hord : ordT a b = if cmpL an.ps bn.ps = 0 then cmpI an.k.v bn.k.v else cmpL an.ps bn.ps := by
    rw [han, hbn, hka, hkb, cz_v, cz_v]; rfl
  have hna := fun W (h : Ext w W) => rnorm5_c (hav.ext h) (N := N) (by omega) sa
  have hnb := fun W (h : Ext w W) => rnorm5_c (hbv.ext h) (N := N) (by omega) sb
  rw [← han] at hna sna
  rw [← hbn] at hnb snb
  rw [hord]
  clear hka hkb han hbn hord
  obtain ⟨sa1, sa2, sa3⟩ := sna
  obtain ⟨sb1, sb2, sb3⟩ := snb
  obtain ⟨r, hr⟩ : ∃ r, r = if cmpL an.ps bn.ps = 0 then cmpI an.k.v bn.k.v else cmpL an.ps bn.ps := ⟨_, rfl⟩
  rw [← hr]
  have HR := Lib.hid hr; clear hr
  go_enter Try.func49, Try.ntmps49
  go_wp2_with fail
  refine (hna _ (by repeat (first | with_reducible assumption | with_reducible exact Ext.refl _ | with_reducible refine Ext.drewN ?_ _ | with_reducible refine Ext.drew ?_ | with_reducible refine Ext.alloc ?_ _ | (with_reducible refine Ext.setCell ?_ ?_ _; rotate_left; (first | exact Nat.le_refl _ | (dsimp only; omega) | (simp only [wsz]; omega))) | (with_reducible refine Ext.trans ?_ (by with_reducible assumption))))).mono ?_
  rintro e w1 ⟨r1, rfl, ⟨A1, c1, B1, d1, rfl, h1, h2⟩, hx1⟩
  (have b3 := Box.ext (g := w.heap.size + 1) (by repeat (first | with_reducible assumption | with_reducible exact Box.new _ _ _ | (with_reducible refine Box.new_at _ _ _ ?_; (simp only [wsz]; done)) | with_reducible refine Box.drewN ?_ _ | with_reducible refine Box.drew ?_ | with_reducible refine Box.alloc ?_ _ | with_reducible apply Box.drewN | with_reducible apply Box.drew | with_reducible apply Box.alloc | with_reducible refine Box.set_ ?_ _ _ | (with_reducible refine Box.far ?_ ?_ _; rotate_left; (simp only [ne_eq]; omega)) | (with_reducible refine Box.ext ?_ (by with_reducible assumption)) | (refine Box.new_at _ _ _ ?_; simp only [wsz]; done))) hx1; have b3r := b3.rules; have b3l := b3.lt)
  have hE1 : Ext w w1 := (by repeat (first | with_reducible assumption | with_reducible exact Ext.refl _ | with_reducible refine Ext.drewN ?_ _ | with_reducible refine Ext.drew ?_ | with_reducible refine Ext.alloc ?_ _ | (with_reducible refine Ext.setCell ?_ ?_ _; rotate_left; (first | exact Nat.le_refl _ | (dsimp only; omega) | (simp only [wsz]; omega))) | (with_reducible refine Ext.trans ?_ (by with_reducible assumption))))
  go_wp2_with fail
  refine (hnb _ (hE1.trans (by repeat (first | with_reducible assumption | with_reducible exact Ext.refl _ | with_reducible refine Ext.drewN ?_ _ | with_reducible refine Ext.drew ?_ | with_reducible refine Ext.alloc ?_ _ | (with_reducible refine Ext.setCell ?_ ?_ _; rotate_left; (first | exact Nat.le_refl _ | (dsimp only; omega) | (simp only [wsz]; omega))) | (with_reducible refine Ext.trans ?_ (by with_reducible assumption)))))).mono ?_
  rintro e w2 ⟨r2, rfl, ⟨A2, c2, B2, d2, rfl, h3, h4⟩, hx2⟩
  have b5 := Box.ext (g := w1.heap.size) (Box.new_at _ _ _ rfl) hx2
  have h1' : Pl w2 (fun _ => True) A1 c1 an.ps := (h1.widen fun _ _ _ => trivial).ext (by repeat (first | with_reducible assumption | with_reducible exact Ext.refl _ | with_reducible refine Ext.drewN ?_ _ | with_reducible refine Ext.drew ?_ | with_reducible refine Ext.alloc ?_ _ | (with_reducible refine Ext.setCell ?_ ?_ _; rotate_left; (first | exact Nat.le_refl _ | (dsimp only; omega) | (simp only [wsz]; omega))) | (with_reducible refine Ext.trans ?_ (by with_reducible assumption))))
  have h2' : Nl w2 (fun _ => True) B1 d1 an.k.mag := (h2.widen fun _ _ _ => trivial).ext (by repeat (first | with_reducible assumption | with_reducible exact Ext.refl _ | with_reducible refine Ext.drewN ?_ _ | with_reducible refine Ext.drew ?_ | with_reducible refine Ext.alloc ?_ _ | (with_reducible refine Ext.setCell ?_ ?_ _; rotate_left; (first | exact Nat.le_refl _ | (dsimp only; omega) | (simp only [wsz]; omega))) | (with_reducible refine Ext.trans ?_ (by with_reducible assumption))))
  have hE2 : Ext w w2 := hE1.trans (by repeat (first | with_reducible assumption | with_reducible exact Ext.refl _ | with_reducible refine Ext.drewN ?_ _ | with_reducible refine Ext.drew ?_ | with_reducible refine Ext.alloc ?_ _ | (with_reducible refine Ext.setCell ?_ ?_ _; rotate_left; (first | exact Nat.le_refl _ | (dsimp only; omega) | (simp only [wsz]; omega))) | (with_reducible refine Ext.trans ?_ (by with_reducible assumption))))
  clear h1 h2 b3r hx1 hna hnb
  go_wp2_with fail
  refine wp_named fun W hW => ?_
  obtain ⟨g5, hg5⟩ : ∃ g5, g5 = w1.heap.size := ⟨_, rfl⟩
  obtain ⟨g6, hg6⟩ : ∃ g6, g6 = w2.heap.size := ⟨_, rfl⟩
  have b5W : Box W g5 27 #[.slice A1 an.ps.length c1, .bool an.k.neg, .slice B1 an.k.mag.length d1] := by rw [hW, hg5]; exact b5.alloc _
  have b6W : Box W g6 27 #[.slice A2 bn.ps.length c2, .bool bn.k.neg, .slice B2 bn.k.mag.length d2] := by rw [hW, hg6]; exact Box.new _ _ _
  have hE : Ext w W := by rw [hW]; exact hE2.alloc _
  have pa : Pl W (fun _ => True) A1 c1 an.ps := by rw [hW]; exact h1'.ext (Ext.alloc (Ext.refl _) _)
  have ka : Nl W (fun _ => True) B1 d1 an.k.mag := by rw [hW]; exact h2'.ext (Ext.alloc (Ext.refl _) _)
  have pb : Pl W (fun _ => True) A2 c2 bn.ps := by rw [hW]; exact (h3.widen fun _ _ _ => trivial).ext (Ext.alloc (Ext.refl _) _)
  have kb : Nl W (fun _ => True) B2 d2 bn.k.mag := by rw [hW]; exact (h4.widen fun _ _ _ => trivial).ext (Ext.alloc (Ext.refl _) _)
  rw [← hg5, ← hg6]
  clear hW hg5 hg6 h1' h2' h3 h4 b5 hE2 hE1 hx2 b3 b3l
  have ma := pa.1; have ma2 := pa.2.1
  have mb := pb.1; have mb2 := pb.2.1
  simp only [maxLen] at ma2 mb2
  go_loopw [7] (fun iv wr => ∃ k : Nat, k ≤ an.ps.length ∧ iv = .int .i64 k ∧ Hid (∀ i, i < k → ∃ (h : i < an.ps.length) (h' : i < bn.ps.length), cmpP an.ps[i] bn.ps[i] = 0) ∧ Ext W wr) (fun iv _ => an.ps.length - (intOf iv).toNat)
  case atStart => exact ⟨0, Nat.zero_le _, rfl, Lib.hid fun _ h => absurd h (Nat.not_lt_zero _), (by repeat (first | with_reducible assumption | with_reducible exact Ext.refl _ | with_reducible refine Ext.drewN ?_ _ | with_reducible refine Ext.drew ?_ | with_reducible refine Ext.alloc ?_ _ | (with_reducible refine Ext.setCell ?_ ?_ _; rotate_left; (first | exact Nat.le_refl _ | (dsimp only; omega) | (simp only [wsz]; omega))) | (with_reducible refine Ext.trans ?_ (by with_reducible assumption))))⟩
  case round =>
    obtain ⟨k, hk, rfl, hno, hx⟩ := hrel
    have hkm : k ≤ bn.ps.length := by
      rcases Nat.eq_zero_or_pos k with e | e
      · omega
      · obtain ⟨_, h1, _⟩ := hno.out (k - 1) (by omega)
        omega
    have b5r := (b5W.ext hx).rules
    have b6r := (b6W.ext hx).rules
    have b5l := (b5W.ext hx).lt
    have b6l := (b6W.ext hx).lt
    have kw := w64n (n := k) (by omega)
    by_cases hlt : k < an.ps.length
    · have kl : (k : Int) < (an.ps.length : Int) := by omega
      by_cases hlt' : k < bn.ps.length
      · have kl' : (k : Int) < (bn.ps.length : Int) := by omega
        obtain ⟨b1, o1, B', d', rfl, -, hc0, hc1, hc2, hi, hNa⟩ := (pa.ext hx).at_ hlt
        obtain ⟨b2, o2, B2', d2', rfl, -, hq0, hq1, hq2, hj, hNb⟩ := (pb.ext hx).at_ hlt'
        have hb1 := World.block_lt_of_cell? _ _ hc0
        have hb2 := World.block_lt_of_cell? _ _ hq0
        have hstep : cmpL an.ps bn.ps = if cmpP (pth an.ps k) (pth bn.ps k) = 0 then cmpL (an.ps.drop (k + 1)) (bn.ps.drop (k + 1)) else cmpP (pth an.ps k) (pth bn.ps k) := by
          rw [cmpL_step _ _ k hno.out, drop_pth _ k hlt, drop_pth _ k hlt', cmpL]
        have HS := Lib.hid hstep; clear hstep
        by_cases e1 : (pth an.ps k).1 < (pth bn.ps k).1
        · have n1 : ((pth an.ps k).1 != (pth bn.ps k).1) = true := by rw [bne_iff_ne]; omega
          have hr : r = -1 := by
            have : cmpP (pth an.ps k) (pth bn.ps k) = -1 := by unfold cmpP; rw [if_pos e1]
            have h2 : cmpL an.ps bn.ps = -1 := by rw [HS.out, this]; rfl
            rw [HR.out, h2]; rfl
          have HR2 := Lib.hid hr; clear hr
          go_wp2_with fail
          refine wp_region_seq 13 [(0, true), (1, true), (2, true), (3, true), (4, true), (5, true), (6, true), (7, true), (8, true), (9, true), (10, true), (11, true), (12, true)] rfl (by kernel_rfl) (by intro _ _ d _ _ h; cases d <;> exact h) ?_
          (repeat (refine sq_take (v := ?_) rfl rfl ?_ ?_; rotate_left; (intro w' hx'; have hc' := hx'.cells.1; (try simp only [wcd] at hc'); go_simp; (first | done | with_reducible rfl)); (try simp only [Act.put, List.setIfInBounds_toArray, List.set_cons_zero, List.set_cons_succ])))
          refine sq_done ?_
          go_wp2_with fail
          refine wp_region_seq 13 [(0, true), (1, true), (2, true), (3, true), (4, true), (5, true), (6, true), (7, true), (8, true), (9, true), (10, true), (11, true), (12, true)] rfl (by kernel_rfl) (by intro _ _ d _ _ h; cases d <;> exact h) ?_
          (repeat (refine sq_take (v := ?_) rfl rfl ?_ ?_; rotate_left; (intro w' hx'; have hc' := hx'.cells.1; (try simp only [wcd] at hc'); go_simp; (first | done | with_reducible rfl)); (try simp only [Act.put, List.setIfInBounds_toArray, List.set_cons_zero, List.set_cons_succ])))
          refine sq_done ?_
          go_wp2_with fail
          go_ret
          exact ⟨ret_int HR2.out.symm, hE.trans (hx.trans (by repeat (first | with_reducible assumption | with_reducible exact Ext.refl _ | with_reducible refine Ext.drewN ?_ _ | with_reducible refine Ext.drew ?_ | with_reducible refine Ext.alloc ?_ _ | (with_reducible refine Ext.setCell ?_ ?_ _; rotate_left; (first | exact Nat.le_refl _ | (dsimp only; omega) | (simp only [wsz]; omega))) | (with_reducible refine Ext.trans ?_ (by with_reducible assumption)))))⟩
        · by_cases e2 : (pth bn.ps k).1 < (pth an.ps k).1
          · have n1 : ((pth an.ps k).1 != (pth bn.ps k).1) = true := by rw [bne_iff_ne]; omega
            have hr : r = 1 := by
              have : cmpP (pth an.ps k) (pth bn.ps k) = 1 := by unfold cmpP; rw [if_neg e1, if_pos e2]
              have h2 : cmpL an.ps bn.ps = 1 := by rw [HS.out, this]; rfl
              rw [HR.out, h2]; rfl
            have HR2 := Lib.hid hr; clear hr
            go_wp2_with fail
            refine wp_region_seq 13 [(0, true), (1, true), (2, true), (3, true), (4, true), (5, true), (6, true), (7, true), (8, true), (9, true), (10, true), (11, true), (12, true)] rfl (by kernel_rfl) (by intro _ _ d _ _ h; cases d <;> exact h) ?_
            (repeat (refine sq_take (v := ?_) rfl rfl ?_ ?_; rotate_left; (intro w' hx'; have hc' := hx'.cells.1; (try simp only [wcd] at hc'); go_simp; (first | done | with_reducible rfl)); (try simp only [Act.put, List.setIfInBounds_toArray, List.set_cons_zero, List.set_cons_succ])))
            refine sq_done ?_
            go_wp2_with fail
            refine wp_region_seq 13 [(0, true), (1, true), (2, true), (3, true), (4, true), (5, true), (6, true), (7, true), (8, true), (9, true), (10, true), (11, true), (12, true)] rfl (by kernel_rfl) (by intro _ _ d _ _ h; cases d <;> exact h) ?_
            (repeat (refine sq_take (v := ?_) rfl rfl ?_ ?_; rotate_left; (intro w' hx'; have hc' := hx'.cells.1; (try simp only [wcd] at hc'); go_simp; (first | done | with_reducible rfl)); (try simp only [Act.put, List.setIfInBounds_toArray, List.set_cons_zero, List.set_cons_succ])))
            refine sq_done ?_
            go_wp2_with fail
            go_ret
            exact ⟨ret_int HR2.out.symm, hE.trans (hx.trans (by repeat (first | with_reducible assumption | with_reducible exact Ext.refl _ | with_reducible refine Ext.drewN ?_ _ | with_reducible refine Ext.drew ?_ | with_reducible refine Ext.alloc ?_ _ | (with_reducible refine Ext.setCell ?_ ?_ _; rotate_left; (first | exact Nat.le_refl _ | (dsimp only; omega) | (simp only [wsz]; omega))) | (with_reducible refine Ext.trans ?_ (by with_reducible assumption)))))⟩
          · have n1 : ((pth an.ps k).1 != (pth bn.ps k).1) = false := by
              have : (pth an.ps k).1 = (pth bn.ps k).1 := by omega
              rw [this]; simp
            have hcP : cmpP (pth an.ps k) (pth bn.ps k) = cmpI (pth an.ps k).2.v (pth bn.ps k).2.v := by unfold cmpP; rw [if_neg e1, if_neg e2]
            have HP := Lib.hid hcP; clear hcP
            by_cases e3 : cmpI (pth an.ps k).2.v (pth bn.ps k).2.v = 0
            · have n3 : (cmpI (pth an.ps k).2.v (pth bn.ps k).2.v != 0) = false := by rw [e3]; rfl
              have E3 := Lib.hid e3; clear e3
              go_wp2_with fail
              refine wp_region_seq 13 [(0, true), (1, true), (2, true), (3, true), (4, true), (5, true), (6, true), (7, true), (8, true), (9, true), (10, true), (11, true), (12, true)] rfl (by kernel_rfl) (by intro _ _ d _ _ h; cases d <;> exact h) ?_
              (repeat (refine sq_take (v := ?_) rfl rfl ?_ ?_; rotate_left; (intro w' hx'; have hc' := hx'.cells.1; (try simp only [wcd] at hc'); go_simp; (first | done | with_reducible rfl)); (try simp only [Act.put, List.setIfInBounds_toArray, List.set_cons_zero, List.set_cons_succ])))
              refine sq_done ?_
              go_wp2_with fail
              refine wp_region_seq 13 [(0, true), (1, true), (2, true), (3, true), (4, true), (5, true), (6, true), (7, true), (8, true), (9, true), (10, true), (11, true), (12, false), (13, false)] rfl (by kernel_rfl) (by intro _ _ d _ _ h; cases d <;> exact h) ?_
              (repeat (refine sq_take (v := ?_) rfl rfl ?_ ?_; rotate_left; (intro w' hx'; have hc' := hx'.cells.1; (try simp only [wcd] at hc'); go_simp; (first | done | with_reducible rfl)); (try simp only [Act.put, List.setIfInBounds_toArray, List.set_cons_zero, List.set_cons_succ])))
              (refine sq_loud rfl rfl fun K hK => ?_; go_simp)
              refine (rcmpz_c (x := (pth an.ps k).2) (y := (pth bn.ps k).2) ⟨_, _, rfl, hNa.ext (by repeat (first | with_reducible assumption | with_reducible exact Ext.refl _ | with_reducible refine Ext.drewN ?_ _ | with_reducible refine Ext.drew ?_ | with_reducible refine Ext.alloc ?_ _ | (with_reducible refine Ext.setCell ?_ ?_ _; rotate_left; (first | exact Nat.le_refl _ | (dsimp only; omega) | (simp only [wsz]; omega))) | (with_reducible refine Ext.trans ?_ (by with_reducible assumption))))⟩ ⟨_, _, rfl, hNb.ext (by repeat (first | with_reducible assumption | with_reducible exact Ext.refl _ | with_reducible refine Ext.drewN ?_ _ | with_reducible refine Ext.drew ?_ | with_reducible refine Ext.alloc ?_ _ | (with_reducible refine Ext.setCell ?_ ?_ _; rotate_left; (first | exact Nat.le_refl _ | (dsimp only; omega) | (simp only [wsz]; omega))) | (with_reducible refine Ext.trans ?_ (by with_reducible assumption))))⟩ (Nat.le_trans (sa2 _ (pth_mem hlt)) (by omega)) (Nat.le_trans (sb2 _ (pth_mem hlt')) (by omega))).mono ?_
              rintro e w5 ⟨rfl, hx5⟩
              (refine hK _ _ (by repeat (first | with_reducible assumption | with_reducible exact Ext.refl _ | with_reducible refine Ext.drewN ?_ _ | with_reducible refine Ext.drew ?_ | with_reducible refine Ext.alloc ?_ _ | (with_reducible refine Ext.setCell ?_ ?_ _; rotate_left; (first | exact Nat.le_refl _ | (dsimp only; omega) | (simp only [wsz]; omega))) | (with_reducible refine Ext.trans ?_ (by with_reducible assumption)))) ?_; clear hK K; (try simp only [Act.put, List.setIfInBounds_toArray, List.set_cons_zero, List.set_cons_succ]))
              (refine sq_last rfl rfl fun K hK => ?_; go_simp; refine hK _ _ ?_; clear hK K)
              go_wp2_with fail
              go_roundw
              case rel =>
                refine ⟨k + 1, by omega, by go_num, Lib.hid fun i hik => ?_, hx.trans (by repeat (first | with_reducible assumption | with_reducible exact Ext.refl _ | with_reducible refine Ext.drewN ?_ _ | with_reducible refine Ext.drew ?_ | with_reducible refine Ext.alloc ?_ _ | (with_reducible refine Ext.setCell ?_ ?_ _; rotate_left; (first | exact Nat.le_refl _ | (dsimp only; omega) | (simp only [wsz]; omega))) | (with_reducible refine Ext.trans ?_ (by with_reducible assumption))))⟩
                by_cases e : i = k
                · subst e; exact ⟨hlt, hlt', by rw [← pth_eq _ i hlt, ← pth_eq _ i hlt', HP.out]; exact E3.out⟩
                · exact hno.out i (by omega)
              case measure => simp [intOf] <;> omega
            · have n3 : (cmpI (pth an.ps k).2.v (pth bn.ps k).2.v != 0) = true := by rw [bne_iff_ne]; exact e3
              have hr : r = cmpI (pth an.ps k).2.v (pth bn.ps k).2.v := by
                have h2 : cmpL an.ps bn.ps = cmpI (pth an.ps k).2.v (pth bn.ps k).2.v := by rw [HS.out, HP.out, if_neg e3]
                rw [HR.out, h2, if_neg e3]
              have HR2 := Lib.hid hr; clear hr e3
              go_wp2_with fail
              refine wp_region_seq 13 [(0, true), (1, true), (2, true), (3, true), (4, true), (5, true), (6, true), (7, true), (8, true), (9, true), (10, true), (11, true), (12, true)] rfl (by kernel_rfl) (by intro _ _ d _ _ h; cases d <;> exact h) ?_
              (repeat (refine sq_take (v := ?_) rfl rfl ?_ ?_; rotate_left; (intro w' hx'; have hc' := hx'.cells.1; (try simp only [wcd] at hc'); go_simp; (first | done | with_reducible rfl)); (try simp only [Act.put, List.setIfInBounds_toArray, List.set_cons_zero, List.set_cons_succ])))
              refine sq_done ?_
              go_wp2_with fail
              refine wp_region_seq 13 [(0, true), (1, true), (2, true), (3, true), (4, true), (5, true), (6, true), (7, true), (8, true), (9, true), (10, true), (11, true), (12, false), (13, false)] rfl (by kernel_rfl) (by intro _ _ d _ _ h; cases d <;> exact h) ?_
              (repeat (refine sq_take (v := ?_) rfl rfl ?_ ?_; rotate_left; (intro w' hx'; have hc' := hx'.cells.1; (try simp only [wcd] at hc'); go_simp; (first | done | with_reducible rfl)); (try simp only [Act.put, List.setIfInBounds_toArray, List.set_cons_zero, List.set_cons_succ])))
              (refine sq_loud rfl rfl fun K hK => ?_; go_simp)
              refine (rcmpz_c (x := (pth an.ps k).2) (y := (pth bn.ps k).2) ⟨_, _, rfl, hNa.ext (by repeat (first | with_reducible assumption | with_reducible exact Ext.refl _ | with_reducible refine Ext.drewN ?_ _ | with_reducible refine Ext.drew ?_ | with_reducible refine Ext.alloc ?_ _ | (with_reducible refine Ext.setCell ?_ ?_ _; rotate_left; (first | exact Nat.le_refl _ | (dsimp only; omega) | (simp only [wsz]; omega))) | (with_reducible refine Ext.trans ?_ (by with_reducible assumption))))⟩ ⟨_, _, rfl, hNb.ext (by repeat (first | with_reducible assumption | with_reducible exact Ext.refl _ | with_reducible refine Ext.drewN ?_ _ | with_reducible refine Ext.drew ?_ | with_reducible refine Ext.alloc ?_ _ | (with_reducible refine Ext.setCell ?_ ?_ _; rotate_left; (first | exact Nat.le_refl _ | (dsimp only; omega) | (simp only [wsz]; omega))) | (with_reducible refine Ext.trans ?_ (by with_reducible assumption))))⟩ (Nat.le_trans (sa2 _ (pth_mem hlt)) (by omega)) (Nat.le_trans (sb2 _ (pth_mem hlt')) (by omega))).mono ?_
              rintro e w5 ⟨rfl, hx5⟩
              (refine hK _ _ (by repeat (first | with_reducible assumption | with_reducible exact Ext.refl _ | with_reducible refine Ext.drewN ?_ _ | with_reducible refine Ext.drew ?_ | with_reducible refine Ext.alloc ?_ _ | (with_reducible refine Ext.setCell ?_ ?_ _; rotate_left; (first | exact Nat.le_refl _ | (dsimp only; omega) | (simp only [wsz]; omega))) | (with_reducible refine Ext.trans ?_ (by with_reducible assumption)))) ?_; clear hK K; (try simp only [Act.put, List.setIfInBounds_toArray, List.set_cons_zero, List.set_cons_succ]))
              (refine sq_last rfl rfl fun K hK => ?_; go_simp; refine hK _ _ ?_; clear hK K)
              go_wp2_with fail
              go_ret
              exact ⟨ret_int HR2.out.symm, hE.trans (hx.trans (by repeat (first | with_reducible assumption | with_reducible exact Ext.refl _ | with_reducible refine Ext.drewN ?_ _ | with_reducible refine Ext.drew ?_ | with_reducible refine Ext.alloc ?_ _ | (with_reducible refine Ext.setCell ?_ ?_ _; rotate_left; (first | exact Nat.le_refl _ | (dsimp only; omega) | (simp only [wsz]; omega))) | (with_reducible refine Ext.trans ?_ (by with_reducible assumption)))))⟩
      · have kl' : ¬ (k : Int) < (bn.ps.length : Int) := by omega
        have hr : r = 1 := by
          have h2 : cmpL an.ps bn.ps = 1 := by
            have e : bn.ps.drop k = [] := List.drop_eq_nil_of_le (by omega)
            rw [cmpL_step _ _ k hno.out, drop_pth _ k hlt, e]; rfl
          rw [HR.out, h2]; rfl
        have HR2 := Lib.hid hr; clear hr
        have n1 : ((an.ps.length : Int) != (bn.ps.length : Int)) = true := by rw [bne_iff_ne]; omega
        have n2 : ¬ (an.ps.length : Int) < (bn.ps.length : Int) := by omega
        go_wp2_with fail
        go_ret
        exact ⟨ret_int HR2.out.symm, hE.trans (hx.trans (by repeat (first | with_reducible assumption | with_reducible exact Ext.refl _ | with_reducible refine Ext.drewN ?_ _ | with_reducible refine Ext.drew ?_ | with_reducible refine Ext.alloc ?_ _ | (with_reducible refine Ext.setCell ?_ ?_ _; rotate_left; (first | exact Nat.le_refl _ | (dsimp only; omega) | (simp only [wsz]; omega))) | (with_reducible refine Ext.trans ?_ (by with_reducible assumption)))))⟩
    · obtain rfl : k = an.ps.length := by omega
      have hfin : cmpL an.ps bn.ps = cmpL [] (bn.ps.drop an.ps.length) := by rw [cmpL_step _ _ _ hno.out, List.drop_length]
      by_cases hlt' : an.ps.length < bn.ps.length
      · have hr : r = -1 := by
          have h2 : cmpL an.ps bn.ps = -1 := by rw [hfin, drop_pth _ _ hlt']; rfl
          rw [HR.out, h2]; rfl
        have HR2 := Lib.hid hr; clear hr hfin
        have n1 : ((an.ps.length : Int) != (bn.ps.length : Int)) = true := by rw [bne_iff_ne]; omega
        have n2 : (an.ps.length : Int) < (bn.ps.length : Int) := by omega
        go_wp2_with fail
        go_ret
        exact ⟨ret_int HR2.out.symm, hE.trans (hx.trans (by repeat (first | with_reducible assumption | with_reducible exact Ext.refl _ | with_reducible refine Ext.drewN ?_ _ | with_reducible refine Ext.drew ?_ | with_reducible refine Ext.alloc ?_ _ | (with_reducible refine Ext.setCell ?_ ?_ _; rotate_left; (first | exact Nat.le_refl _ | (dsimp only; omega) | (simp only [wsz]; omega))) | (with_reducible refine Ext.trans ?_ (by with_reducible assumption)))))⟩
      · have hr : r = cmpI an.k.v bn.k.v := by
          have h2 : cmpL an.ps bn.ps = 0 := by
            have e : bn.ps.drop an.ps.length = [] := List.drop_eq_nil_of_le (by omega)
            rw [hfin, e]; rfl
          rw [HR.out, if_pos h2]
        have HR2 := Lib.hid hr; clear hr hfin
        have n1 : ((an.ps.length : Int) != (bn.ps.length : Int)) = false := by
          have : an.ps.length = bn.ps.length := by omega
          rw [this]; simp
        have n2 : ¬ (an.ps.length : Int) < (bn.ps.length : Int) := by omega
        go_wp2_with fail
        refine (rcmpz_c (x := an.k) (y := bn.k) ⟨_, _, rfl, ka.ext (by repeat (first | with_reducible assumption | with_reducible exact Ext.refl _ | with_reducible refine Ext.drewN ?_ _ | with_reducible refine Ext.drew ?_ | with_reducible refine Ext.alloc ?_ _ | (with_reducible refine Ext.setCell ?_ ?_ _; rotate_left; (first | exact Nat.le_refl _ | (dsimp only; omega) | (simp only [wsz]; omega))) | (with_reducible refine Ext.trans ?_ (by with_reducible assumption))))⟩ ⟨_, _, rfl, kb.ext (by repeat (first | with_reducible assumption | with_reducible exact Ext.refl _ | with_reducible refine Ext.drewN ?_ _ | with_reducible refine Ext.drew ?_ | with_reducible refine Ext.alloc ?_ _ | (with_reducible refine Ext.setCell ?_ ?_ _; rotate_left; (first | exact Nat.le_refl _ | (dsimp only; omega) | (simp only [wsz]; omega))) | (with_reducible refine Ext.trans ?_ (by with_reducible assumption))))⟩ (by omega) (by omega)).mono ?_
        rw [← HR2.out]
        rintro e w5 ⟨rfl, hx5⟩
        go_wp2_with fail
        go_ret
        exact ⟨rfl, hE.trans (hx.trans (by repeat (first | with_reducible assumption | with_reducible exact Ext.refl _ | with_reducible refine Ext.drewN ?_ _ | with_reducible refine Ext.drew ?_ | with_reducible refine Ext.alloc ?_ _ | (with_reducible refine Ext.setCell ?_ ?_ _; rotate_left; (first | exact Nat.le_refl _ | (dsimp only; omega) | (simp only [wsz]; omega))) | (with_reducible refine Ext.trans ?_ (by with_reducible assumption)))))⟩

set_option maxHeartbeats 800000 in
theorem rsame5_c {av bv : Value} {a b : T} {w : World} {X Y : Nat → Prop} {N : Nat} (ha : Tv w X av a) (hb : Tv w Y bv b) (hN : N ≤ 1073741824) (sa : a.sz N) (sb : b.sz N) (va : a.valid = true) (vb : b.valid = true) (hab : ordT a b = 0) :
    Calls Try.prog 17 #[av, bv] w fun e w' => e = .returned (.bool true) ∧ Ext w w' := by
  have hva := fun W (h : Ext w W) => rvalid5_c (ha.ext h) (N := N) (by omega) sa
  have hvb := fun W (h : Ext w W) => rvalid5_c (hb.ext h) (N := N) (by omega) sb
  have hor := fun W (h : Ext w W) => rorder5_c (ha.ext h) (hb.ext h) hN sa sb
  simp only [va] at hva
  simp only [vb] at hvb
  simp only [hab] at hor
  clear va vb hab
  obtain ⟨A, c, AK, d, rfl, ha1, ha2⟩ := ha
  obtain ⟨B, c', BK, d', rfl, hb1, hb2⟩ := hb
  go_enter Try.func17, Try.ntmps17
  go_wp2_with fail
  refine (hva _ (by repeat (first | with_reducible assumption | with_reducible exact Ext.refl _ | with_reducible refine Ext.drewN ?_ _ | with_reducible refine Ext.drew ?_ | with_reducible refine Ext.alloc ?_ _ | (with_reducible refine Ext.setCell ?_ ?_ _; rotate_left; (first | exact Nat.le_refl _ | (dsimp only; omega) | (simp only [wsz]; omega))) | (with_reducible refine Ext.trans ?_ (by with_reducible assumption))))).mono ?_
  rintro e w1 ⟨rfl, hx1⟩
  (have b2 := Box.ext (g := w.heap.size) (by repeat (first | with_reducible assumption | with_reducible exact Box.new _ _ _ | (with_reducible refine Box.new_at _ _ _ ?_; (simp only [wsz]; done)) | with_reducible refine Box.drewN ?_ _ | with_reducible refine Box.drew ?_ | with_reducible refine Box.alloc ?_ _ | with_reducible apply Box.drewN | with_reducible apply Box.drew | with_reducible apply Box.alloc | with_reducible refine Box.set_ ?_ _ _ | (with_reducible refine Box.far ?_ ?_ _; rotate_left; (simp only [ne_eq]; omega)) | (with_reducible refine Box.ext ?_ (by with_reducible assumption)) | (refine Box.new_at _ _ _ ?_; simp only [wsz]; done))) hx1; have b2r := b2.rules; have b2l := b2.lt)
  (have b3 := Box.ext (g := w.heap.size + 1) (by repeat (first | with_reducible assumption | with_reducible exact Box.new _ _ _ | (with_reducible refine Box.new_at _ _ _ ?_; (simp only [wsz]; done)) | with_reducible refine Box.drewN ?_ _ | with_reducible refine Box.drew ?_ | with_reducible refine Box.alloc ?_ _ | with_reducible apply Box.drewN | with_reducible apply Box.drew | with_reducible apply Box.alloc | with_reducible refine Box.set_ ?_ _ _ | (with_reducible refine Box.far ?_ ?_ _; rotate_left; (simp only [ne_eq]; omega)) | (with_reducible refine Box.ext ?_ (by with_reducible assumption)) | (refine Box.new_at _ _ _ ?_; simp only [wsz]; done))) hx1; have b3r := b3.rules; have b3l := b3.lt)
  have hE1 : Ext w w1 := (by repeat (first | with_reducible assumption | with_reducible exact Ext.refl _ | with_reducible refine Ext.drewN ?_ _ | with_reducible refine Ext.drew ?_ | with_reducible refine Ext.alloc ?_ _ | (with_reducible refine Ext.setCell ?_ ?_ _; rotate_left; (first | exact Nat.le_refl _ | (dsimp only; omega) | (simp only [wsz]; omega))) | (with_reducible refine Ext.trans ?_ (by with_reducible assumption))))
  clear hx1
  go_wp2_with fail
  refine (hvb _ (hE1.trans (by repeat (first | with_reducible assumption | with_reducible exact Ext.refl _ | with_reducible refine Ext.drewN ?_ _ | with_reducible refine Ext.drew ?_ | with_reducible refine Ext.alloc ?_ _ | (with_reducible refine Ext.setCell ?_ ?_ _; rotate_left; (first | exact Nat.le_refl _ | (dsimp only; omega) | (simp only [wsz]; omega))) | (with_reducible refine Ext.trans ?_ (by with_reducible assumption)))))).mono ?_
  rintro e w2 ⟨rfl, hx2⟩
  have b2' := b2.ext hx2
  have b3' := b3.ext hx2
  have b2r' := b2'.rules
  have b3r' := b3'.rules
  have b2l' := b2'.lt
  have b3l' := b3'.lt
  clear b2r b3r
  go_wp2_with fail
  refine (hor _ (hE1.trans (by repeat (first | with_reducible assumption | with_reducible exact Ext.refl _ | with_reducible refine Ext.drewN ?_ _ | with_reducible refine Ext.drew ?_ | with_reducible refine Ext.alloc ?_ _ | (with_reducible refine Ext.setCell ?_ ?_ _; rotate_left; (first | exact Nat.le_refl _ | (dsimp only; omega) | (simp only [wsz]; omega))) | (with_reducible refine Ext.trans ?_ (by with_reducible assumption)))))).mono ?_
  rintro e w3 ⟨rfl, hx3⟩
  go_wp2_with fail
  go_ret
  exact ⟨rfl, hE1.trans (by repeat (first | with_reducible assumption | with_reducible exact Ext.refl _ | with_reducible refine Ext.drewN ?_ _ | with_reducible refine Ext.drew ?_ | with_reducible refine Ext.alloc ?_ _ | (with_reducible refine Ext.setCell ?_ ?_ _; rotate_left; (first | exact Nat.le_refl _ | (dsimp only; omega) | (simp only [wsz]; omega))) | (with_reducible refine Ext.trans ?_ (by with_reducible assumption))))⟩

end Go.Proofs.Ytbblgjjomgipfaa
