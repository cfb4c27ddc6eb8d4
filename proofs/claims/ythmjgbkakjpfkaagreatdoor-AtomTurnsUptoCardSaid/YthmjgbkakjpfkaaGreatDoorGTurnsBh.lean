/- riddleref05.Order, Same. No conditions. riddleref05.Sub, Coef, Without, Put. No conditions. riddleref05.Without, Put. No conditions. -/
import Derived.Test.YthmjgbkakjpfkaaGreatDoorGTurnsAy
import Derived.Test.YthmjgbkakjpfkaaGreatDoorGTurnsBc
import Derived.Test.YthmjgbkakjpfkaaGreatDoorGTurnsAz
namespace Go.Proofs.YthmjgbkakjpfkaaGreatDoor
open Go.RowKit Go.Shelf

set_option maxHeartbeats 3200000 in
theorem rorder5_c {av bv : Value} {a b : T} {w : World} {X Y : Nat → Prop} {N : Nat} (ha : Tv w X av a) (hb : Tv w Y bv b) (hN : N ≤ 1073741824) (sa : a.sz N) (sb : b.sz N) :
    Calls Tryz.prog 82 #[av, bv] w fun e w' => e = .returned (.int .i64 (ordT a b)) ∧ Ext w w' := by
  have hav := ha; have hbv := hb
  have sna := nf_sz sa ha.lb; have snb := nf_sz sb hb.lb; obtain ⟨A, c, AK, d, rfl, ha1, ha2⟩ := ha; obtain ⟨B, c', BK, d', rfl, hb1, hb2⟩ := hb; have hka : a.nf.k = cz a.k.v := rfl; have hkb : b.nf.k = cz b.k.v := rfl; obtain ⟨an, han⟩ : ∃ an, an = a.nf := ⟨_, rfl⟩; obtain ⟨bn, hbn⟩ : ∃ bn, bn = b.nf := ⟨_, rfl⟩
  have hord : ordT a b = if cmpL an.ps bn.ps = 0 then cmpI an.k.v bn.k.v else cmpL an.ps bn.ps := by
    rw [han, hbn, hka, hkb, cz_v, cz_v]; rfl
  have hna := fun W (h : Ext w W) => rnorm5_c (hav.ext h) (N := N) (by omega) sa
  have hnb := fun W (h : Ext w W) => rnorm5_c (hbv.ext h) (N := N) (by omega) sb
  rw [← han] at hna sna; rw [← hbn] at hnb snb; rw [hord]; clear hka hkb han hbn hord; obtain ⟨sa1, sa2, sa3⟩ := sna; obtain ⟨sb1, sb2, sb3⟩ := snb
  obtain ⟨r, hr⟩ : ∃ r, r = if cmpL an.ps bn.ps = 0 then cmpI an.k.v bn.k.v else cmpL an.ps bn.ps := ⟨_, rfl⟩
  rw [← hr]
  have HR := Lib.hid hr; clear hr
  go_enter Tryz.func82, Tryz.ntmps82
  go_wp2_with fail
  refine (hna _ xt).mono ?_; rintro e w1 ⟨r1, rfl, ⟨A1, c1, B1, d1, rfl, h1, h2⟩, hx1⟩
  (have b3 := Box.ext (g := w.heap.size + 1) bxt hx1; have b3r := b3.rules; have b3l := b3.lt)
  have hE1 : Ext w w1 := xt
  go_wp2_with fail
  refine (hnb _ (hE1.trans xt)).mono ?_; rintro e w2 ⟨r2, rfl, ⟨A2, c2, B2, d2, rfl, h3, h4⟩, hx2⟩; have b5 := Box.ext (g := w1.heap.size) (Box.new_at _ _ _ rfl) hx2; have h1' : Pl w2 (fun _ => True) A1 c1 an.ps := (h1.widen fun _ _ _ => trivial).ext xt; have h2' : Nl w2 (fun _ => True) B1 d1 an.k.mag := (h2.widen fun _ _ _ => trivial).ext xt; have hE2 : Ext w w2 := hE1.trans xt; clear h1 h2 b3r hx1 hna hnb
  go_wp2_with fail
  refine wp_named fun W hW => ?_
  obtain ⟨g5, hg5⟩ : ∃ g5, g5 = w1.heap.size := ⟨_, rfl⟩; obtain ⟨g6, hg6⟩ : ∃ g6, g6 = w2.heap.size := ⟨_, rfl⟩
  have b5W : Box W g5 27 #[.slice A1 an.ps.length c1, .bool an.k.neg, .slice B1 an.k.mag.length d1] := by rw [hW, hg5]; exact b5.alloc _
  have b6W : Box W g6 27 #[.slice A2 bn.ps.length c2, .bool bn.k.neg, .slice B2 bn.k.mag.length d2] := by rw [hW, hg6]; exact Box.new _ _ _
  have hE : Ext w W := by rw [hW]; exact hE2.alloc _
  have pa : Pl W (fun _ => True) A1 c1 an.ps := by rw [hW]; exact h1'.ext (Ext.alloc (Ext.refl _) _)
  have ka : Nl W (fun _ => True) B1 d1 an.k.mag := by rw [hW]; exact h2'.ext (Ext.alloc (Ext.refl _) _)
  have pb : Pl W (fun _ => True) A2 c2 bn.ps := by rw [hW]; exact (h3.widen fun _ _ _ => trivial).ext (Ext.alloc (Ext.refl _) _)
  have kb : Nl W (fun _ => True) B2 d2 bn.k.mag := by rw [hW]; exact (h4.widen fun _ _ _ => trivial).ext (Ext.alloc (Ext.refl _) _)
  rw [← hg5, ← hg6]; clear hW hg5 hg6 h1' h2' h3 h4 b5 hE2 hE1 hx2 b3 b3l
  have ma := pa.1; have ma2 := pa.2.1
  have mb := pb.1; have mb2 := pb.2.1
  simp only [maxLen] at ma2 mb2
  go_loopw [7] (fun iv wr => ∃ k : Nat, k ≤ an.ps.length ∧ iv = .int .i64 k ∧ Hid (∀ i, i < k → ∃ (h : i < an.ps.length) (h' : i < bn.ps.length), cmpP an.ps[i] bn.ps[i] = 0) ∧ Ext W wr) (fun iv _ => an.ps.length - (intOf iv).toNat)
  case atStart => exact ⟨0, Nat.zero_le _, rfl, Lib.hid fun _ h => absurd h (Nat.not_lt_zero _), xt⟩
  case round =>
    obtain ⟨k, hk, rfl, hno, hx⟩ := hrel
    have hkm : k ≤ bn.ps.length := by
      rcases Nat.eq_zero_or_pos k with e | e
      · omega
      · obtain ⟨_, h1, _⟩ := hno.out (k - 1) (by omega)
        omega
    have b5r := (b5W.ext hx).rules; have b6r := (b6W.ext hx).rules; have b5l := (b5W.ext hx).lt; have b6l := (b6W.ext hx).lt; have kw := w64n (n := k) (by omega)
    by_cases hlt : k < an.ps.length
    · have kl : (k : Int) < (an.ps.length : Int) := by omega
      by_cases hlt' : k < bn.ps.length
      · have kl' : (k : Int) < (bn.ps.length : Int) := by omega
        obtain ⟨b1, o1, B', d', rfl, -, hc0, hc1, hc2, hi, hNa⟩ := (pa.ext hx).at_ hlt; obtain ⟨b2, o2, B2', d2', rfl, -, hq0, hq1, hq2, hj, hNb⟩ := (pb.ext hx).at_ hlt'; have hb1 := World.block_lt_of_cell? _ _ hc0; have hb2 := World.block_lt_of_cell? _ _ hq0
        have hstep : cmpL an.ps bn.ps = if cmpP (pth an.ps k) (pth bn.ps k) = 0 then cmpL (an.ps.drop (k + 1)) (bn.ps.drop (k + 1)) else cmpP (pth an.ps k) (pth bn.ps k) := by
          rw [cmpL_step _ _ k hno.out, drop_pth _ k hlt, drop_pth _ k hlt', cmpL]
        have HS := Lib.hid hstep; clear hstep
        by_cases e1 : (pth an.ps k).1 < (pth bn.ps k).1
        · have n1 : ((pth an.ps k).1 != (pth bn.ps k).1) = true := by rw [bne_iff_ne]; omega
          have hr : r = -1 := by
            have : cmpP (pth an.ps k) (pth bn.ps k) = -1 := by unfold cmpP; rw [if_pos e1]
            have h2 : cmpL an.ps bn.ps = -1 := by rw [HS.out, this]; rfl
            rw [HR.out, h2]; rfl
          have HR2 := Lib.hid hr; clear hr
          go_wp2_with fail
          refine wp_region_seq 13 [(0, true), (1, true), (2, true), (3, true), (4, true), (5, true), (6, true), (7, true), (8, true), (9, true), (10, true), (11, true), (12, true)] rfl (by kernel_rfl) (by intro _ _ d _ _ h; cases d <;> exact h) ?_
          (repeat (refine sq_take (v := ?_) rfl rfl ?_ ?_; rotate_left; (intro w' hx'; have hc' := hx'.cells.1; (try simp only [wcd] at hc'); go_simp; (first | done | with_reducible rfl)); (try simp only [pt])))
          refine sq_done ?_
          go_wp2_with fail
          refine wp_region_seq 13 [(0, true), (1, true), (2, true), (3, true), (4, true), (5, true), (6, true), (7, true), (8, true), (9, true), (10, true), (11, true), (12, true)] rfl (by kernel_rfl) (by intro _ _ d _ _ h; cases d <;> exact h) ?_
          (repeat (refine sq_take (v := ?_) rfl rfl ?_ ?_; rotate_left; (intro w' hx'; have hc' := hx'.cells.1; (try simp only [wcd] at hc'); go_simp; (first | done | with_reducible rfl)); (try simp only [pt])))
          refine sq_done ?_
          go_wp2_with fail
          go_ret
          exact ⟨ret_int HR2.out.symm, hE.trans (hx.trans xt)⟩
        · by_cases e2 : (pth bn.ps k).1 < (pth an.ps k).1
          · have n1 : ((pth an.ps k).1 != (pth bn.ps k).1) = true := by rw [bne_iff_ne]; omega
            have hr : r = 1 := by
              have : cmpP (pth an.ps k) (pth bn.ps k) = 1 := by unfold cmpP; rw [if_neg e1, if_pos e2]
              have h2 : cmpL an.ps bn.ps = 1 := by rw [HS.out, this]; rfl
              rw [HR.out, h2]; rfl
            have HR2 := Lib.hid hr; clear hr
            go_wp2_with fail
            refine wp_region_seq 13 [(0, true), (1, true), (2, true), (3, true), (4, true), (5, true), (6, true), (7, true), (8, true), (9, true), (10, true), (11, true), (12, true)] rfl (by kernel_rfl) (by intro _ _ d _ _ h; cases d <;> exact h) ?_
            (repeat (refine sq_take (v := ?_) rfl rfl ?_ ?_; rotate_left; (intro w' hx'; have hc' := hx'.cells.1; (try simp only [wcd] at hc'); go_simp; (first | done | with_reducible rfl)); (try simp only [pt])))
            refine sq_done ?_
            go_wp2_with fail
            refine wp_region_seq 13 [(0, true), (1, true), (2, true), (3, true), (4, true), (5, true), (6, true), (7, true), (8, true), (9, true), (10, true), (11, true), (12, true)] rfl (by kernel_rfl) (by intro _ _ d _ _ h; cases d <;> exact h) ?_
            (repeat (refine sq_take (v := ?_) rfl rfl ?_ ?_; rotate_left; (intro w' hx'; have hc' := hx'.cells.1; (try simp only [wcd] at hc'); go_simp; (first | done | with_reducible rfl)); (try simp only [pt])))
            refine sq_done ?_
            go_wp2_with fail
            go_ret
            exact ⟨ret_int HR2.out.symm, hE.trans (hx.trans xt)⟩
          · have n1 : ((pth an.ps k).1 != (pth bn.ps k).1) = false := by
              have : (pth an.ps k).1 = (pth bn.ps k).1 := by omega
              rw [this]; simp
            have hcP : cmpP (pth an.ps k) (pth bn.ps k) = cmpI (pth an.ps k).2.v (pth bn.ps k).2.v := by unfold cmpP; rw [if_neg e1, if_neg e2]
            have HP := Lib.hid hcP; clear hcP
            by_cases e3 : cmpI (pth an.ps k).2.v (pth bn.ps k).2.v = 0
            · have n3 : (cmpI (pth an.ps k).2.v (pth bn.ps k).2.v != 0) = false := by rw [e3]; rfl
              have E3 := Lib.hid e3; clear e3
              go_wp2_with fail
              refine wp_region_seq 13 [(0, true), (1, true), (2, true), (3, true), (4, true), (5, true), (6, true), (7, true), (8, true), (9, true), (10, true), (11, true), (12, true)] rfl (by kernel_rfl) (by intro _ _ d _ _ h; cases d <;> exact h) ?_
              (repeat (refine sq_take (v := ?_) rfl rfl ?_ ?_; rotate_left; (intro w' hx'; have hc' := hx'.cells.1; (try simp only [wcd] at hc'); go_simp; (first | done | with_reducible rfl)); (try simp only [pt])))
              refine sq_done ?_
              go_wp2_with fail
              refine wp_region_seq 13 [(0, true), (1, true), (2, true), (3, true), (4, true), (5, true), (6, true), (7, true), (8, true), (9, true), (10, true), (11, true), (12, false), (13, false)] rfl (by kernel_rfl) (by intro _ _ d _ _ h; cases d <;> exact h) ?_
              (repeat (refine sq_take (v := ?_) rfl rfl ?_ ?_; rotate_left; (intro w' hx'; have hc' := hx'.cells.1; (try simp only [wcd] at hc'); go_simp; (first | done | with_reducible rfl)); (try simp only [pt])))
              (refine sq_loud rfl rfl fun K hK => ?_; go_simp)
              refine (rcmpz_c (x := (pth an.ps k).2) (y := (pth bn.ps k).2) ⟨_, _, rfl, hNa.ext xt⟩ ⟨_, _, rfl, hNb.ext xt⟩ (Nat.le_trans (sa2 _ (pth_mem hlt)) (by omega)) (Nat.le_trans (sb2 _ (pth_mem hlt')) (by omega))).mono ?_; rintro e w5 ⟨rfl, hx5⟩
              (refine hK _ _ xt ?_; clear hK K; (try simp only [pt]))
              (refine sq_last rfl rfl fun K hK => ?_; go_simp; refine hK _ _ ?_; clear hK K)
              go_wp2_with fail
              go_roundw
              case rel =>
                refine ⟨k + 1, by omega, by go_num, Lib.hid fun i hik => ?_, hx.trans xt⟩
                by_cases e : i = k
                · subst e; exact ⟨hlt, hlt', by rw [← pth_eq _ i hlt, ← pth_eq _ i hlt', HP.out]; exact E3.out⟩
                · exact hno.out i (by omega)
              case measure => simp [intOf] <;> omega
            · have n3 : (cmpI (pth an.ps k).2.v (pth bn.ps k).2.v != 0) = true := by rw [bne_iff_ne]; exact e3
              have hr : r = cmpI (pth an.ps k).2.v (pth bn.ps k).2.v := by
                have h2 : cmpL an.ps bn.ps = cmpI (pth an.ps k).2.v (pth bn.ps k).2.v := by rw [HS.out, HP.out, if_neg e3]
                rw [HR.out, h2, if_neg e3]
              have HR2 := Lib.hid hr; clear hr e3
              go_wp2_with fail
              refine wp_region_seq 13 [(0, true), (1, true), (2, true), (3, true), (4, true), (5, true), (6, true), (7, true), (8, true), (9, true), (10, true), (11, true), (12, true)] rfl (by kernel_rfl) (by intro _ _ d _ _ h; cases d <;> exact h) ?_
              (repeat (refine sq_take (v := ?_) rfl rfl ?_ ?_; rotate_left; (intro w' hx'; have hc' := hx'.cells.1; (try simp only [wcd] at hc'); go_simp; (first | done | with_reducible rfl)); (try simp only [pt])))
              refine sq_done ?_
              go_wp2_with fail
              refine wp_region_seq 13 [(0, true), (1, true), (2, true), (3, true), (4, true), (5, true), (6, true), (7, true), (8, true), (9, true), (10, true), (11, true), (12, false), (13, false)] rfl (by kernel_rfl) (by intro _ _ d _ _ h; cases d <;> exact h) ?_
              (repeat (refine sq_take (v := ?_) rfl rfl ?_ ?_; rotate_left; (intro w' hx'; have hc' := hx'.cells.1; (try simp only [wcd] at hc'); go_simp; (first | done | with_reducible rfl)); (try simp only [pt])))
              (refine sq_loud rfl rfl fun K hK => ?_; go_simp)
              refine (rcmpz_c (x := (pth an.ps k).2) (y := (pth bn.ps k).2) ⟨_, _, rfl, hNa.ext xt⟩ ⟨_, _, rfl, hNb.ext xt⟩ (Nat.le_trans (sa2 _ (pth_mem hlt)) (by omega)) (Nat.le_trans (sb2 _ (pth_mem hlt')) (by omega))).mono ?_; rintro e w5 ⟨rfl, hx5⟩
              (refine hK _ _ xt ?_; clear hK K; (try simp only [pt]))
              (refine sq_last rfl rfl fun K hK => ?_; go_simp; refine hK _ _ ?_; clear hK K)
              go_wp2_with fail
              go_ret
              exact ⟨ret_int HR2.out.symm, hE.trans (hx.trans xt)⟩
      · have kl' : ¬ (k : Int) < (bn.ps.length : Int) := by omega
        have hr : r = 1 := by
          have h2 : cmpL an.ps bn.ps = 1 := by
            have e : bn.ps.drop k = [] := List.drop_eq_nil_of_le (by omega)
            rw [cmpL_step _ _ k hno.out, drop_pth _ k hlt, e]; rfl
          rw [HR.out, h2]; rfl
        have HR2 := Lib.hid hr; clear hr
        have n1 : ((an.ps.length : Int) != (bn.ps.length : Int)) = true := by rw [bne_iff_ne]; omega
        have n2 : ¬ (an.ps.length : Int) < (bn.ps.length : Int) := by omega
        go_wp2_with fail
        go_ret
        exact ⟨ret_int HR2.out.symm, hE.trans (hx.trans xt)⟩
    · obtain rfl : k = an.ps.length := by omega
      have hfin : cmpL an.ps bn.ps = cmpL [] (bn.ps.drop an.ps.length) := by rw [cmpL_step _ _ _ hno.out, List.drop_length]
      by_cases hlt' : an.ps.length < bn.ps.length
      · have hr : r = -1 := by
          have h2 : cmpL an.ps bn.ps = -1 := by rw [hfin, drop_pth _ _ hlt']; rfl
          rw [HR.out, h2]; rfl
        have HR2 := Lib.hid hr; clear hr hfin
        have n1 : ((an.ps.length : Int) != (bn.ps.length : Int)) = true := by rw [bne_iff_ne]; omega
        have n2 : (an.ps.length : Int) < (bn.ps.length : Int) := by omega
        go_wp2_with fail
        go_ret
        exact ⟨ret_int HR2.out.symm, hE.trans (hx.trans xt)⟩
      · have hr : r = cmpI an.k.v bn.k.v := by
          have h2 : cmpL an.ps bn.ps = 0 := by
            have e : bn.ps.drop an.ps.length = [] := List.drop_eq_nil_of_le (by omega)
            rw [hfin, e]; rfl
          rw [HR.out, if_pos h2]
        have HR2 := Lib.hid hr; clear hr hfin
        have n1 : ((an.ps.length : Int) != (bn.ps.length : Int)) = false := by
          have : an.ps.length = bn.ps.length := by omega
          rw [this]; simp
        have n2 : ¬ (an.ps.length : Int) < (bn.ps.length : Int) := by omega
        go_wp2_with fail
        refine (rcmpz_c (x := an.k) (y := bn.k) ⟨_, _, rfl, ka.ext xt⟩ ⟨_, _, rfl, kb.ext xt⟩ (by omega) (by omega)).mono ?_; rw [← HR2.out]; rintro e w5 ⟨rfl, hx5⟩
        go_wp2_with fail
        go_ret
        exact ⟨rfl, hE.trans (hx.trans xt)⟩

set_option maxHeartbeats 800000 in
theorem rsame5_c {av bv : Value} {a b : T} {w : World} {X Y : Nat → Prop} {N : Nat} (ha : Tv w X av a) (hb : Tv w Y bv b) (hN : N ≤ 1073741824) (sa : a.sz N) (sb : b.sz N) (va : a.valid = true) (vb : b.valid = true) (hab : ordT a b = 0) :
    Calls Tryz.prog 66 #[av, bv] w fun e w' => e = .returned (.bool true) ∧ Ext w w' := by
  have hva := fun W (h : Ext w W) => rvalid5_c (ha.ext h) (N := N) (by omega) sa
  have hvb := fun W (h : Ext w W) => rvalid5_c (hb.ext h) (N := N) (by omega) sb
  have hor := fun W (h : Ext w W) => rorder5_c (ha.ext h) (hb.ext h) hN sa sb
  simp only [va] at hva; simp only [vb] at hvb; simp only [hab] at hor; clear va vb hab; obtain ⟨A, c, AK, d, rfl, ha1, ha2⟩ := ha; obtain ⟨B, c', BK, d', rfl, hb1, hb2⟩ := hb
  go_enter Tryz.func66, Tryz.ntmps66
  go_wp2_with fail
  refine (hva _ xt).mono ?_; rintro e w1 ⟨rfl, hx1⟩
  (have b2 := Box.ext (g := w.heap.size) bxt hx1; have b2r := b2.rules; have b2l := b2.lt)
  (have b3 := Box.ext (g := w.heap.size + 1) bxt hx1; have b3r := b3.rules; have b3l := b3.lt)
  have hE1 : Ext w w1 := xt; clear hx1
  go_wp2_with fail
  refine (hvb _ (hE1.trans xt)).mono ?_; rintro e w2 ⟨rfl, hx2⟩; have b2' := b2.ext hx2; have b3' := b3.ext hx2; have b2r' := b2'.rules; have b3r' := b3'.rules; have b2l' := b2'.lt; have b3l' := b3'.lt; clear b2r b3r
  go_wp2_with fail
  refine (hor _ (hE1.trans xt)).mono ?_; rintro e w3 ⟨rfl, hx3⟩
  go_wp2_with fail
  go_ret
  exact ⟨rfl, hE1.trans xt⟩

end Go.Proofs.YthmjgbkakjpfkaaGreatDoor

namespace Go.Proofs.YthmjgbkakjpfkaaGreatDoor
open Go.RowKit Go.Shelf

theorem nf_less (a b : T) : ct (vl a.ps ++ vl (ct (sc (-1) (vl b.ps)) (-1 * b.k.v)).ps) (a.k.v + (ct (sc (-1) (vl b.ps)) (-1 * b.k.v)).k.v) = ct (vl a.ps ++ sc (-1) (vl b.ps)) (a.k.v - b.k.v) := by
  refine ct_congr (fun x => ?_) ?_
  · rw [cf_append, cf_append]
    congr 1
    show cf (vl (cl (cn _))) x = _
    rw [vl_cl, cf_cn]
  · show a.k.v + (cz (-1 * b.k.v)).v = _
    rw [cz_v]
    omega

theorem zl_one : zl (-1) ≤ 1 := by decide

set_option maxHeartbeats 1600000 in
theorem rsub5_c {av bv : Value} {a b : T} {w : World} {X Y : Nat → Prop} {N : Nat} (ha : Tv w X av a) (hb : Tv w Y bv b) (hN : N ≤ 1073741824) (sa : a.sz N) (sb : b.sz N) :
    Calls Tryz.prog 88 #[av, bv] w fun e w' => ∃ r, e = .returned r ∧ Tv w' (w.heap.size ≤ ·) r (ct (vl a.ps ++ sc (-1) (vl b.ps)) (a.k.v - b.k.v)) ∧ Ext w w' := by
  have hav := ha; have hbv := hb; have lb := hb.lb
  obtain ⟨A, c, AK, d, rfl, ha1, ha2⟩ := ha; obtain ⟨B, c', BK, d', rfl, hb1, hb2⟩ := hb
  go_enter Tryz.func88, Tryz.ntmps88
  go_wp2_with fail
  refine wp_named fun W hW => ?_
  have b2 : Box W (w.heap.size) 27 #[.slice A a.ps.length c, .bool a.k.neg, .slice AK a.k.mag.length d] := by rw [hW]; exact bxt
  have b3 : Box W (w.heap.size + 1) 27 #[.slice B b.ps.length c', .bool b.k.neg, .slice BK b.k.mag.length d'] := by rw [hW]; exact bxt
  have b4 : Box W (w.heap.size + 1 + 1) 27 #[.slice none 0 0, .bool false, .slice none 0 0] := by rw [hW]; exact bxt
  have hE : Ext w W := by rw [hW]; exact xt
  clear hW; have b2r := b2.rules; have b3r := b3.rules; have b2l := b2.lt; have b3l := b3.lt; have b4l := b4.lt; refine wp_region_seq 5 [(0, true), (2, true), (1, false), (3, false), (4, false), (5, false)] rfl (by kernel_rfl) (by intro _ _ d _ _ h; cases d <;> exact h) ?_
  (repeat (refine sq_take (v := ?_) rfl rfl ?_ ?_; rotate_left; (intro w' hx'; have hc' := hx'.cells.1; (try simp only [wcd] at hc'); go_simp; (first | done | with_reducible rfl)); (try simp only [pt])))
  (refine sq_loud rfl rfl fun K hK => ?_; go_simp)
  refine (rof_c (-1) (by omega) (by omega) _).mono ?_; rintro e w1 ⟨r1, rfl, hz1, hx1⟩
  (have hs1 := Ext.size hx1; (try simp only [wsz] at hs1))
  (refine hK _ _ xt ?_; clear hK K; (try simp only [pt]))
  (repeat (refine sq_take (v := ?_) rfl rfl ?_ ?_; rotate_left; (intro w' hx'; have hc' := hx'.cells.1; (try simp only [wcd] at hc'); go_simp; (first | done | with_reducible rfl)); (try simp only [pt])))
  (refine sq_loud rfl rfl fun K hK => ?_; go_simp)
  refine (rscale5_c (kz := cz (-1)) (N := N + 1) hz1 (hbv.ext (hE.trans xt)) (by omega) (by rw [cz_len]; have := zl_one; omega) (sb.mono (by omega))).mono ?_; rw [cz_v]; rintro e w2 ⟨r2, rfl, ht2, hx2⟩
  (have hs2 := Ext.size hx2; (try simp only [wsz] at hs2))
  (refine hK _ _ xt ?_; clear hK K; (try simp only [pt]))
  (refine sq_loud rfl rfl fun K hK => ?_; go_simp)
  refine (radd5_c (b := ct (sc (-1) (vl b.ps)) (-1 * b.k.v)) (N := N + (N + 1)) (hav.ext (hE.trans xt)) ht2 (by omega) (sa.mono (by omega)) (ct_sz (by rw [sc_len, vl_len]; exact sb.1) (fun p hp => ?_) ?_)).mono ?_
  · obtain ⟨q, hq, rfl⟩ := List.mem_map.1 hp; have h3 := zl_vl lb.1 sb.2.1 q hq; have := zl_mul (-1) q.2; have := zl_one
    show zl (-1 * q.2) ≤ _
    omega
  · have := zl_mul (-1) b.k.v; have := zl_one; have := zl_of lb.2; have := sb.2.2
    omega
  rw [nf_less]; rintro e w4 ⟨r4, rfl, ⟨A4, c4, B4, d4, rfl, h41, h42⟩, hx4⟩
  (have hs4 := Ext.size hx4; (try simp only [wsz] at hs4))
  have b4' := ((b4.drew.ext hx1).ext hx2).ext hx4; have b4r := b4'.rules; have b4l' := b4'.lt; clear b2r b3r
  (refine hK _ _ xt ?_; clear hK K; (try simp only [pt]))
  (refine sq_last rfl rfl fun K hK => ?_; go_simp; refine hK _ _ ?_; clear hK K)
  have hE4 : Ext w w4 := hE.trans ((((Ext.refl W).drew.trans hx1).trans hx2).trans hx4)
  go_wp2_with fail
  (refine bodyPost_ret (v := ?_) ?_ rfl ?_; rotate_left; (simp only [results, Tryz.results88]; go_simp; (first | done | with_reducible rfl)))
  refine ⟨_, rfl, ⟨_, _, _, _, rfl, (Pl.keep (h41.widen (Y := fun c => w.heap.size + 1 + 1 < c) fun c hc _ => by omega) kpt).widen fun c hc _ => by omega, (Nl.keep (h42.widen (Y := fun c => w.heap.size + 1 + 1 < c) fun c hc _ => by omega) kpt).widen fun c hc _ => by omega⟩, ?_⟩; exact ((hE4.setCell (by simp only; omega) _).setCell (by simp only; omega) _).setCell (by simp only; omega) _

set_option maxHeartbeats 1600000 in
theorem rcoef5_c {v : Value} {t : T} {w : World} {X : Nat → Prop} {N : Nat} {x : Int} (h : Tv w X v t) (hN : N ≤ 1073741824) (hs : t.sz N) :
    Calls Tryz.prog 130 #[v, .int .i64 x] w fun e w' => ∃ r, e = .returned r ∧ Zi w' (w.heap.size ≤ ·) r (cz (cf (vl t.ps) x)) ∧ Ext w w' := by
  have hlb := h.lb; obtain ⟨s1, s2, s3⟩ := hs; have hzl := zl_vl hlb.1 s2; obtain ⟨A, c, B, d, rfl, h1, h2⟩ := h
  go_enter Tryz.func130, Tryz.ntmps130
  go_wp2_with fail
  refine wp_named fun W hW => ?_
  have b4 : Box W (w.heap.size + 1) 24 #[.bool false, .slice none 0 0] := by rw [hW]; exact bxt
  have b5 : Box W (w.heap.size + 1 + 1) 24 #[.bool false, .slice none 0 0] := by rw [hW]; exact bxt
  have b2 : Box W w.heap.size 27 #[.slice A t.ps.length c, .bool t.k.neg, .slice B t.k.mag.length d] := by rw [hW]; exact bxt
  have hE : Ext w W := by rw [hW]; exact xt
  clear hW; have hWl := b5.lt
  go_loopw [6] (fun iv wr => ∃ k B2 d2, ∃ z : Z, k ≤ t.ps.length ∧ iv = .int .i64 (k : Nat) ∧ Box wr (w.heap.size + 1 + 1) 24 #[.bool z.neg, .slice B2 z.mag.length d2] ∧ Nl wr (fun c => w.heap.size + 1 + 1 < c) B2 d2 z.mag ∧ Hid (z.v = cf (vl (t.ps.take k)) x) ∧
      z.mag.length ≤ N + N ∧ Kp (fun c => c ≠ w.heap.size + 1 + 1) W wr ∧ Ext w wr) (fun iv _ => t.ps.length - (intOf iv).toNat)
  case atStart => exact ⟨0, none, 0, ⟨false, []⟩, Nat.zero_le _, rfl, b5, Sl.nil0 _ _ _, Lib.hid (by simp [Z.v, nv, vl, cf]), Nat.zero_le _, Kp.refl _, hE⟩
  case round =>
    clear b5; obtain ⟨k, B2, d2, z, hk, rfl, b5, hNz, hz, hzm, kp, hxr⟩ := hrel; have b2k := b2.keep (X := fun c => c ≠ w.heap.size + 1 + 1) (by omega) kp; have b4k := b4.keep (X := fun c => c ≠ w.heap.size + 1 + 1) (by omega) kp; have b2r := b2k.rules; have b2l := b2k.lt; have b4r := b4k.rules; have b4l := b4k.lt; have b5r := b5.rules; have b5l := b5.lt
    by_cases hlt : k < t.ps.length
    · obtain ⟨b, o, B', d', rfl, hX, hc0, hc1, hc2, hi, hN2⟩ := (h1.ext hxr).at_ hlt; have hb := World.block_lt_of_cell? _ _ hc0
      have kl : (k : Int) < (t.ps.length : Int) := by omega
      by_cases he : (pth t.ps k).1 = x
      · have e1 : ((pth t.ps k).1 == x) = true := by rw [he]; exact beq_self_eq_true _
        have He := Lib.hid he; clear he
        go_wp2_with fail
        refine wp_region_seq 8 [(0, true), (1, true), (2, true), (3, true), (4, true), (5, true), (6, true), (7, false), (8, false)] rfl (by kernel_rfl) (by intro _ _ d _ _ h; cases d <;> exact h) ?_
        (repeat (refine sq_take (v := ?_) rfl rfl ?_ ?_; rotate_left; (intro w' hx'; have hc' := hx'.cells.1; (try simp only [wcd] at hc'); go_simp; (first | done | with_reducible rfl)); (try simp only [pt])))
        (refine sq_loud rfl rfl fun K hK => ?_; go_simp)
        refine (raddz_c (x := z) (y := (pth t.ps k).2) ⟨_, _, rfl, hNz.ext xt⟩ ⟨_, _, rfl, hN2.ext xt⟩ (by omega) (Nat.le_trans (s2 _ (pth_mem hlt)) (by omega))).mono ?_; rintro e w1 ⟨r, rfl, ⟨A4, c4, rfl, hN4⟩, hx1⟩
        (have hs1 := Ext.size hx1; (try simp only [wsz] at hs1))
        have hx2 : Ext wr w1 := xt; have b5' := b5.ext hx2; have b5r' := b5'.rules; have b5l' := b5'.lt; clear b5r b4r
        (refine hK _ _ xt ?_; clear hK K; (try simp only [pt]))
        (refine sq_last rfl rfl fun K hK => ?_; go_simp; refine hK _ _ ?_; clear hK K)
        have hv2 : z.v + (pth t.ps k).2.v = cf (vl (t.ps.take (k + 1))) x := by rw [hz.out, cf_hit hlt He.out]
        have hlen : (cz (z.v + (pth t.ps k).2.v)).mag.length ≤ N + N := by
          rw [cz_len, hv2]; have := zl_cf (l := vl (t.ps.take (k + 1))) (N := N) (fun p hp => hzl p (List.map_subset _ (List.take_subset _ _) hp)) x; rw [vl_len, List.length_take] at this
          omega
        have HV := Lib.hid hv2; clear hv2
        have b5s : Box ((w1.setCell ⟨w.heap.size + 1 + 1, 0, none⟩ (.bool (cz (z.v + (pth t.ps k).2.v)).neg)).setCell ⟨w.heap.size + 1 + 1, 1, none⟩ (.slice A4 (cz (z.v + (pth t.ps k).2.v)).mag.length c4)) (w.heap.size + 1 + 1) 24 #[.bool (cz (z.v + (pth t.ps k).2.v)).neg, .slice A4 (cz (z.v + (pth t.ps k).2.v)).mag.length c4] := (b5'.set_ 0 _).set_ 1 _
        go_wp2_with fail
        go_roundw
        case rel =>
          refine ⟨k + 1, A4, c4, cz (z.v + (pth t.ps k).2.v), by omega, by go_num, b5s, ?_, Lib.hid (by rw [cz_v]; exact HV.out), hlen, ((kp.ext hx2).setCell (fun h => h rfl) _).setCell (fun h => h rfl) _, ((hxr.trans hx2).setCell (by simp only; omega) _).setCell (by simp only; omega) _⟩; exact ((hN4.widen (Y := fun c => w.heap.size + 1 + 1 < c) fun c hc _ => by simp only [wsz] at hc; omega).keep ((Kp.refl w1).setCell (fun h => by simp only at h; omega) _)).keep ((Kp.refl _).setCell (fun h => by simp only at h; omega) _)
        case measure => simp [intOf] <;> omega
      · have e1 : ((pth t.ps k).1 == x) = false := by rw [beq_eq_false_iff_ne]; exact he
        have He := Lib.hid he; clear he
        go_wp2_with fail
        go_roundw
        case rel => exact ⟨k + 1, B2, d2, z, by omega, by go_num, bxt, hNz.ext xt, Lib.hid (hz.out.trans (cf_miss hlt He.out).symm), hzm, kp.ext xt, hxr.trans xt⟩
        case measure => simp [intOf] <;> omega
    · obtain rfl : k = t.ps.length := by omega
      go_wp2_with fail
      refine (rnorm_c (z := z) ⟨_, _, rfl, hNz⟩ (by omega)).mono ?_; rintro e w1 ⟨r, rfl, ⟨A4, c4, rfl, hN4⟩, hx1⟩
      (have hs1 := Ext.size hx1; (try simp only [wsz] at hs1))
      have b4' := b4k.ext hx1; have b4r' := b4'.rules; have b4l' := b4'.lt; clear b4r b5r b2r
      go_wp2_with fail
      (refine bodyPost_ret (v := ?_) ?_ rfl ?_; rotate_left; (simp only [results, Tryz.results130]; go_simp; (first | done | with_reducible rfl)))
      have hv := hz.out; rw [List.take_length] at hv; rw [hv] at hN4 ⊢; refine ⟨_, rfl, ⟨_, _, rfl, ?_⟩, ((hxr.trans hx1).setCell (by simp only; omega) _).setCell (by simp only; omega) _⟩
      exact (((hN4.widen (Y := fun c => w.heap.size + 1 < c) fun c hc _ => by omega).keep ((Kp.refl w1).setCell (fun h => by simp only at h; omega) _)).keep ((Kp.refl _).setCell (fun h => by simp only at h; omega) _)).widen fun c hc _ => by omega

end Go.Proofs.YthmjgbkakjpfkaaGreatDoor

namespace Go.Proofs.YthmjgbkakjpfkaaGreatDoor
open Go.RowKit Go.Shelf

theorem wo_kp {ps : List (Int × Z)} {x : Int} {k : Nat} (h : k < ps.length) (he : (pth ps k).1 ≠ x) : wo x (ps.take (k + 1)) = wo x (ps.take k) ++ [pth ps k] := by
  rw [take_pth ps k h]; unfold wo; rw [List.filter_append]
  congr 1
  rw [List.filter_cons_of_pos (by simpa using he)]
  rfl
theorem wo_sk {ps : List (Int × Z)} {x : Int} {k : Nat} (h : k < ps.length) (he : (pth ps k).1 = x) : wo x (ps.take (k + 1)) = wo x (ps.take k) := by
  rw [take_pth ps k h]; unfold wo; rw [List.filter_append, List.filter_cons_of_neg (by simpa using he)]; simp

set_option maxHeartbeats 1600000 in
theorem rwithout5_c {v : Value} {t : T} {w : World} {X : Nat → Prop} {N : Nat} {x : Int} (h : Tv w X v t) (hN : N ≤ 4294967296) (hs : t.sz N) :
    Calls Tryz.prog 129 #[v, .int .i64 x] w fun e w' => ∃ r, e = .returned r ∧ Tv w' (w.heap.size ≤ ·) r (t.wo x).nf ∧ Ext w w' := by
  have hs2 := T.wo_sz (x := x) hs; obtain ⟨s1, s2, s3⟩ := hs; obtain ⟨A, c, B, d, rfl, h1, h2⟩ := h
  go_enter Tryz.func129, Tryz.ntmps129
  go_wp2_with fail
  refine wp_named fun W hW => ?_
  have b2 : Box W w.heap.size 27 #[.slice A t.ps.length c, .bool t.k.neg, .slice B t.k.mag.length d] := by rw [hW]; exact bxt
  have b4 : Box W (w.heap.size + 1) 27 #[.slice none 0 0, .bool false, .slice none 0 0] := by rw [hW]; exact bxt
  have hE : Ext w W := by rw [hW]; exact xt
  clear hW; have hWl := b4.lt; have h1b := h1.below
  go_loopw [5, 6] (fun lv iv wr => ∃ k : Nat, k ≤ t.ps.length ∧ iv = .int .i64 k ∧ Own 3 EP wr (· < w.heap.size) W.heap.size 37 lv (wo x (t.ps.take k)) ∧ Ext W wr) (fun _ iv _ => t.ps.length - (intOf iv).toNat)
  case atStart => exact ⟨0, Nat.zero_le _, rfl, Own.nil _ _ _ _, Ext.refl _⟩
  case round =>
    obtain ⟨k, hkk, rfl, hO, hxr⟩ := hrel
    have q2 := b2.ext hxr; have q4 := b4.ext hxr
    have q2r := q2.rules; have q2l := q2.lt
    have hxw := hE.trans hxr; have hrow := hO.row; obtain ⟨A0, c0, rfl, hP0⟩ := Own.sl hO (by omega) (X := fun _ => True) (fun _ _ => trivial); have hP0 : Pl wr (fun _ => True) A0 c0 (wo x (t.ps.take k)) := hP0
    have hsl : (wo x (t.ps.take k)).length ≤ k := by have := wo_len x (t.ps.take k); rw [List.length_take] at this; omega
    have hws := hxr.size
    by_cases hlt : k < t.ps.length
    · obtain ⟨b, o, B', d', rfl, hX, hc0, hc1, hc2, hi, hN2⟩ := (h1b.ext hxw).at_ hlt; have hb := World.block_lt_of_cell? _ _ hc0
      have kl : (k : Int) < (t.ps.length : Int) := by omega
      by_cases he : (pth t.ps k).1 = x
      · have e1 : ((pth t.ps k).1 != x) = false := by rw [he]; simp
        have He := Lib.hid he; clear he
        go_wp2_with fail
        go_roundw
        case rel => exact ⟨k + 1, by omega, by go_num, by rw [wo_sk hlt He.out]; exact hO.ext xt, hxr.trans xt⟩
        case measure => simp [intOf] <;> omega
      · have e1 : ((pth t.ps k).1 != x) = true := by rw [bne_iff_ne]; exact he
        have He := Lib.hid he; clear he
        go_wp2_with (first
          | (at_builtin
             (refine wpList_appp1 (.tmp 22) (.tmp 28) hO hi (hN2.widen fun q hq _ => ⟨hq, fun e => by have := (hrow _ e).1; have := hE.size; omega⟩) (by omega) hws rfl rfl rfl rfl ?_)
             intro v2 w2 hO2 hg2 hv2)
          | fail)
        have hxx : Ext W w2 := (hxr.alloc _).grown hg2 (fun j hj => (hrow _ hj).1)
        go_roundw
        case rel =>
          have e2 := wo_kp hlt He.out; exact ⟨k + 1, by omega, by go_num, by rw [e2]; exact hO2, hxx⟩
        case measure => simp [intOf] <;> omega
    · obtain rfl : k = t.ps.length := by omega
      rw [List.take_length] at hO hP0 hsl
      go_wp2_with fail
      refine (rnorm5_c (t := t.wo x) (N := N) ⟨_, _, _, _, rfl, hP0.ext xt, (h2.widen (Y := fun _ => True) fun _ _ _ => trivial).ext (hxw.trans xt)⟩ (by omega) hs2).mono ?_; rintro e w4 ⟨r4, rfl, ⟨A4, c4, B4, d4, rfl, h41, h42⟩, hx4⟩; have hx5 : Ext wr w4 := xt; have g4 := q4.ext hx5; have g4r := g4.rules; have g4l := g4.lt; have hE4 := hxw.trans hx5; clear q2r
      go_wp2_with fail
      (refine bodyPost_ret (v := ?_) ?_ rfl ?_; rotate_left; (simp only [results, Tryz.results129]; go_simp; (first | done | with_reducible rfl)))
      refine ⟨_, rfl, ⟨_, _, _, _, rfl, (Pl.keep (h41.widen (Y := fun c => w.heap.size + 1 < c) fun c hc _ => by omega) kpt).widen fun c hc _ => by omega, (Nl.keep (h42.widen (Y := fun c => w.heap.size + 1 < c) fun c hc _ => by omega) kpt).widen fun c hc _ => by omega⟩, ?_⟩; exact ((hE4.setCell (by simp only; omega) _).setCell (by simp only; omega) _).setCell (by simp only; omega) _

theorem rput_eq (t u : T) (x : Int) : ct (vl (t.wo x).nf.ps ++ vl (ct (sc (cz (cf (vl t.ps) x)).v (vl u.ps)) ((cz (cf (vl t.ps) x)).v * u.k.v)).ps) ((t.wo x).nf.k.v + (ct (sc (cz (cf (vl t.ps) x)).v (vl u.ps)) ((cz (cf (vl t.ps) x)).v * u.k.v)).k.v) = t.put x u := by
  have e1 : vl (t.wo x).nf.ps = cn (vl (wo x t.ps)) := vl_cl _; have e2 : (t.wo x).nf.k.v = t.k.v := cz_v _
  have e3 : ∀ l k, vl (ct l k).ps = cn l := fun l _ => vl_cl _
  have e4 : ∀ l k, (ct l k).k.v = k := fun _ k => cz_v k
  rw [e1, e2, e3, e4, cz_v]; refine ct_congr (fun y => ?_) rfl; rw [cf_append, cf_append, cf_cn (sc _ _)]

set_option maxHeartbeats 1600000 in
theorem rput5_c {v uv : Value} {t u : T} {w : World} {X Y : Nat → Prop} {N : Nat} {x : Int} (h : Tv w X v t) (hu : Tv w Y uv u) (hN : N ≤ 536870912) (hs : t.sz N) (su : u.sz N) :
    Calls Tryz.prog 90 #[v, .int .i64 x, uv] w fun e w' => ∃ r, e = .returned r ∧ Tv w' (w.heap.size ≤ ·) r (t.put x u) ∧ Ext w w' := by
  have hlb := h.lb; have lu := hu.lb
  have hsn := nf_sz (T.wo_sz (x := x) hs) ⟨fun p hp => hlb.1 p (wo_sub hp), hlb.2⟩
  have hcl : zl (cf (vl t.ps) x) ≤ N + N := by
    have := zl_cf (zl_vl hlb.1 hs.2.1) x; rw [vl_len] at this; have := hs.1
    omega
  have htv := h; have huv := hu
  obtain ⟨A, c, B, d, rfl, h1, h2⟩ := h; obtain ⟨UA, uc, UB, ud, rfl, u1, u2⟩ := hu
  go_enter Tryz.func90, Tryz.ntmps90
  go_wp2_with fail
  refine wp_named fun W hW => ?_
  have b3 : Box W (w.heap.size) 27 #[.slice A t.ps.length c, .bool t.k.neg, .slice B t.k.mag.length d] := by rw [hW]; exact bxt
  have b5 : Box W (w.heap.size + 1) 27 #[.slice UA u.ps.length uc, .bool u.k.neg, .slice UB u.k.mag.length ud] := by rw [hW]; exact bxt
  have b6 : Box W (w.heap.size + 1 + 1) 27 #[.slice none 0 0, .bool false, .slice none 0 0] := by rw [hW]; exact bxt
  have hE : Ext w W := by rw [hW]; exact xt
  clear hW; have b3r := b3.rules; have b5r := b5.rules; have b3l := b3.lt; have b5l := b5.lt; have b6l := b6.lt; refine wp_region_seq 9 [(0, true), (1, true), (3, true), (4, true), (6, true), (2, false), (5, false), (7, false), (8, false), (9, false)] rfl (by kernel_rfl) (by intro _ _ d _ _ h; cases d <;> exact h) ?_
  (repeat (refine sq_take (v := ?_) rfl rfl ?_ ?_; rotate_left; (intro w' hx'; have hc' := hx'.cells.1; (try simp only [wcd] at hc'); go_simp; (first | done | with_reducible rfl)); (try simp only [pt])))
  (refine sq_loud rfl rfl fun K hK => ?_; go_simp)
  refine (rwithout5_c (x := x) (htv.ext (hE.trans xt)) (by omega) hs).mono ?_; rintro e w2 ⟨r2, rfl, ht2, hx2⟩
  (refine hK _ _ xt ?_; clear hK K; (try simp only [pt]))
  (repeat (refine sq_take (v := ?_) rfl rfl ?_ ?_; rotate_left; (intro w' hx'; have hc' := hx'.cells.1; (try simp only [wcd] at hc'); go_simp; (first | done | with_reducible rfl)); (try simp only [pt])))
  (refine sq_loud rfl rfl fun K hK => ?_; go_simp)
  refine (rcoef5_c (x := x) (htv.ext (hE.trans xt)) (by omega) hs).mono ?_; rintro e w3 ⟨r3, rfl, hz3, hx3⟩
  (refine hK _ _ xt ?_; clear hK K; (try simp only [pt]))
  (repeat (refine sq_take (v := ?_) rfl rfl ?_ ?_; rotate_left; (intro w' hx'; have hc' := hx'.cells.1; (try simp only [wcd] at hc'); go_simp; (first | done | with_reducible rfl)); (try simp only [pt])))
  (refine sq_loud rfl rfl fun K hK => ?_; go_simp)
  refine (rscale5_c (N := N + N) hz3 (huv.ext (hE.trans xt)) (by omega) (by rw [cz_len]; exact hcl) (su.mono (by omega))).mono ?_; rintro e w4 ⟨r4, rfl, ht4, hx4⟩
  (refine hK _ _ xt ?_; clear hK K; (try simp only [pt]))
  (refine sq_loud rfl rfl fun K hK => ?_; go_simp)
  refine (radd5_c (N := N + (N + N + N)) ((ht2.ext hx3).ext hx4) ht4 (by omega) (hsn.mono (by omega)) (ct_sz (by rw [sc_len, vl_len]; exact su.1) (fun p hp => ?_) ?_)).mono ?_
  · obtain ⟨q, hq, rfl⟩ := List.mem_map.1 hp; have h3 := zl_vl lu.1 su.2.1 q hq; have := zl_mul (cz (cf (vl t.ps) x)).v q.2; rw [cz_v] at this
    show zl ((cz (cf (vl t.ps) x)).v * q.2) ≤ _
    rw [cz_v]
    omega
  · have := zl_mul (cf (vl t.ps) x) u.k.v; have := zl_of lu.2; have := su.2.2; rw [cz_v]
    omega
  rw [rput_eq]; rintro e w5 ⟨r5, rfl, ⟨A4, c4, B4, d4, rfl, h41, h42⟩, hx5⟩; have b6' := (((b6.drew.ext hx2).ext hx3).ext hx4).ext hx5; have b6r := b6'.rules; have b6l' := b6'.lt
  have hs2 := hx2.size; have hs3 := hx3.size; have hs4 := hx4.size; have hs5 := hx5.size
  simp only [wsz] at hs2; clear b3r b5r
  (refine hK _ _ xt ?_; clear hK K; (try simp only [pt]))
  (refine sq_last rfl rfl fun K hK => ?_; go_simp; refine hK _ _ ?_; clear hK K)
  have hE4 : Ext w w5 := hE.trans (((((Ext.refl W).drew.trans hx2).trans hx3).trans hx4).trans hx5)
  go_wp2_with fail
  (refine bodyPost_ret (v := ?_) ?_ rfl ?_; rotate_left; (simp only [results, Tryz.results90]; go_simp; (first | done | with_reducible rfl)))
  refine ⟨_, rfl, ⟨_, _, _, _, rfl, (Pl.keep (h41.widen (Y := fun c => w.heap.size + 1 + 1 < c) fun c hc _ => by omega) kpt).widen fun c hc _ => by omega, (Nl.keep (h42.widen (Y := fun c => w.heap.size + 1 + 1 < c) fun c hc _ => by omega) kpt).widen fun c hc _ => by omega⟩, ?_⟩; exact ((hE4.setCell (by simp only; omega) _).setCell (by simp only; omega) _).setCell (by simp only; omega) _

end Go.Proofs.YthmjgbkakjpfkaaGreatDoor
