/- riddleref05.Sub, Coef, Without, Put. No conditions. -/
import Derived.Test.YtbblgjjomgipfaaRB
namespace Go.Proofs.Ytbblgjjomgipfaa
open Go.RowKit Go.Shelf

theorem nf_less (a b : T) : ct (vl a.ps ++ vl (ct (sc (-1) (vl b.ps)) (-1 * b.k.v)).ps) (a.k.v + (ct (sc (-1) (vl b.ps)) (-1 * b.k.v)).k.v) = ct (vl a.ps ++ sc (-1) (vl b.ps)) (a.k.v - b.k.v) := by
  refine ct_congr (fun x => ?_) ?_
  · rw [cf_append, cf_append]
    congr 1
    show cf (vl (cl (cn _))) x = _
    rw [vl_cl, cf_cn]
  · show a.k.v + (cz (-1 * b.k.v)).v = _
    rw [cz_v]
    omega

theorem zl_one : zl (-1) ≤ 1 := by decide

set_option maxHeartbeats 1600000 in
theorem rsub5_c {av bv : Value} {a b : T} {w : World} {X Y : Nat → Prop} {N : Nat} (ha : Tv w X av a) (hb : Tv w Y bv b) (hN : N ≤ 1073741824) (sa : a.sz N) (sb : b.sz N) :
    Calls Try.prog 36 #[av, bv] w fun e w' => ∃ r, e = .returned r ∧ Tv w' (w.heap.size ≤ ·) r (ct (vl a.ps ++ sc (-1) (vl b.ps)) (a.k.v - b.k.v)) ∧ Ext w w' := by
  have hav := ha; have hbv := hb; have lb := hb.lb
  obtain ⟨A, c, AK, d, rfl, ha1, ha2⟩ := ha
  obtain ⟨B, c', BK, d', rfl, hb1, hb2⟩ := hb
  go_enter Try.func36, Try.ntmps36
  go_wp2_with fail
  refine wp_named fun W hW => ?_
  have b2 : Box W (w.heap.size) 27 #[.slice A a.ps.length c, .bool a.k.neg, .slice AK a.k.mag.length d] := by rw [hW]; exact (by repeat (first | with_reducible assumption | with_reducible exact Box.new _ _ _ | (with_reducible refine Box.new_at _ _ _ ?_; (simp only [wsz]; done)) | with_reducible refine Box.drewN ?_ _ | with_reducible refine Box.drew ?_ | with_reducible refine Box.alloc ?_ _ | with_reducible apply Box.drewN | with_reducible apply Box.drew | with_reducible apply Box.alloc | with_reducible refine Box.set_ ?_ _ _ | (with_reducible refine Box.far ?_ ?_ _; rotate_left; (simp only [ne_eq]; omega)) | (with_reducible refine Box.ext ?_ (by with_reducible assumption)) | (refine Box.new_at _ _ _ ?_; simp only [wsz]; done)))
  have b3 : Box W (w.heap.size + 1) 27 #[.slice B b.ps.length c', .bool b.k.neg, .slice BK b.k.mag.length d'] := by rw [hW]; exact (by repeat (first | with_reducible assumption | with_reducible exact Box.new _ _ _ | (with_reducible refine Box.new_at _ _ _ ?_; (simp only [wsz]; done)) | with_reducible refine Box.drewN ?_ _ | with_reducible refine Box.drew ?_ | with_reducible refine Box.alloc ?_ _ | with_reducible apply Box.drewN | with_reducible apply Box.drew | with_reducible apply Box.alloc | with_reducible refine Box.set_ ?_ _ _ | (with_reducible refine Box.far ?_ ?_ _; rotate_left; (simp only [ne_eq]; omega)) | (with_reducible refine Box.ext ?_ (by with_reducible assumption)) | (refine Box.new_at _ _ _ ?_; simp only [wsz]; done)))
  have b4 : Box W (w.heap.size + 1 + 1) 27 #[.slice none 0 0, .bool false, .slice none 0 0] := by rw [hW]; exact (by repeat (first | with_reducible assumption | with_reducible exact Box.new _ _ _ | (with_reducible refine Box.new_at _ _ _ ?_; (simp only [wsz]; done)) | with_reducible refine Box.drewN ?_ _ | with_reducible refine Box.drew ?_ | with_reducible refine Box.alloc ?_ _ | with_reducible apply Box.drewN | with_reducible apply Box.drew | with_reducible apply Box.alloc | with_reducible refine Box.set_ ?_ _ _ | (with_reducible refine Box.far ?_ ?_ _; rotate_left; (simp only [ne_eq]; omega)) | (with_reducible refine Box.ext ?_ (by with_reducible assumption)) | (refine Box.new_at _ _ _ ?_; simp only [wsz]; done)))
  have hE : Ext w W := by rw [hW]; exact (by repeat (first | with_reducible assumption | with_reducible exact Ext.refl _ | with_reducible refine Ext.drewN ?_ _ | with_reducible refine Ext.drew ?_ | with_reducible refine Ext.alloc ?_ _ | (with_reducible refine Ext.setCell ?_ ?_ _; rotate_left; (first | exact Nat.le_refl _ | (dsimp only; omega) | (simp only [wsz]; omega))) | (with_reducible refine Ext.trans ?_ (by with_reducible assumption))))
  clear hW
  have b2r := b2.rules
  have b3r := b3.rules
  have b2l := b2.lt
  have b3l := b3.lt
  have b4l := b4.lt
  refine wp_region_seq 5 [(0, true), (2, true), (1, false), (3, false), (4, false), (5, false)] rfl (by kernel_rfl) (by intro _ _ d _ _ h; cases d <;> exact h) ?_
  (repeat (refine sq_take (v := ?_) rfl rfl ?_ ?_; rotate_left; (intro w' hx'; have hc' := hx'.cells.1; (try simp only [wcd] at hc'); go_simp; (first | done | with_reducible rfl)); (try simp only [Act.put, List.setIfInBounds_toArray, List.set_cons_zero, List.set_cons_succ])))
  (refine sq_loud rfl rfl fun K hK => ?_; go_simp)
  refine (rof_c (-1) (by omega) (by omega) _).mono ?_
  rintro e w1 ⟨r1, rfl, hz1, hx1⟩
  (have hs1 := Ext.size hx1; (try simp only [wsz] at hs1))
  (refine hK _ _ (by repeat (first | with_reducible assumption | with_reducible exact Ext.refl _ | with_reducible refine Ext.drewN ?_ _ | with_reducible refine Ext.drew ?_ | with_reducible refine Ext.alloc ?_ _ | (with_reducible refine Ext.setCell ?_ ?_ _; rotate_left; (first | exact Nat.le_refl _ | (dsimp only; omega) | (simp only [wsz]; omega))) | (with_reducible refine Ext.trans ?_ (by with_reducible assumption)))) ?_; clear hK K; (try simp only [Act.put, List.setIfInBounds_toArray, List.set_cons_zero, List.set_cons_succ]))
  (repeat (refine sq_take (v := ?_) rfl rfl ?_ ?_; rotate_left; (intro w' hx'; have hc' := hx'.cells.1; (try simp only [wcd] at hc'); go_simp; (first | done | with_reducible rfl)); (try simp only [Act.put, List.setIfInBounds_toArray, List.set_cons_zero, List.set_cons_succ])))
  (refine sq_loud rfl rfl fun K hK => ?_; go_simp)
  refine (rscale5_c (kz := cz (-1)) (N := N + 1) hz1 (hbv.ext (hE.trans (by repeat (first | with_reducible assumption | with_reducible exact Ext.refl _ | with_reducible refine Ext.drewN ?_ _ | with_reducible refine Ext.drew ?_ | with_reducible refine Ext.alloc ?_ _ | (with_reducible refine Ext.setCell ?_ ?_ _; rotate_left; (first | exact Nat.le_refl _ | (dsimp only; omega) | (simp only [wsz]; omega))) | (with_reducible refine Ext.trans ?_ (by with_reducible assumption)))))) (by omega) (by rw [cz_len]; have := zl_one; omega) (sb.mono (by omega))).mono ?_
  rw [cz_v]
  rintro e w2 ⟨r2, rfl, ht2, hx2⟩
  (have hs2 := Ext.size hx2; (try simp only [wsz] at hs2))
  (refine hK _ _ (by repeat (first | with_reducible assumption | with_reducible exact Ext.refl _ | with_reducible refine Ext.drewN ?_ _ | with_reducible refine Ext.drew ?_ | with_reducible refine Ext.alloc ?_ _ | (with_reducible refine Ext.setCell ?_ ?_ _; rotate_left; (first | exact Nat.le_refl _ | (dsimp only; omega) | (simp only [wsz]; omega))) | (with_reducible refine Ext.trans ?_ (by with_reducible assumption)))) ?_; clear hK K; (try simp only [Act.put, List.setIfInBounds_toArray, List.set_cons_zero, List.set_cons_succ]))
  (refine sq_loud rfl rfl fun K hK => ?_; go_simp)
  refine (radd5_c (b := ct (sc (-1) (vl b.ps)) (-1 * b.k.v)) (N := N + (N + 1)) (hav.ext (hE.trans (by repeat (first | with_reducible assumption | with_reducible exact Ext.refl _ | with_reducible refine Ext.drewN ?_ _ | with_reducible refine Ext.drew ?_ | with_reducible refine Ext.alloc ?_ _ | (with_reducible refine Ext.setCell ?_ ?_ _; rotate_left; (first | exact Nat.le_refl _ | (dsimp only; omega) | (simp only [wsz]; omega))) | (with_reducible refine Ext.trans ?_ (by with_reducible assumption)))))) ht2 (by omega) (sa.mono (by omega)) (ct_sz (by rw [sc_len, vl_len]; exact sb.1) (fun p hp => ?_) ?_)).mono ?_
  · obtain ⟨q, hq, rfl⟩ := List.mem_map.1 hp
    have h3 := zl_vl lb.1 sb.2.1 q hq
    have := zl_mul (-1) q.2
    have := zl_one
    show zl (-1 * q.2) ≤ _
    omega
  · have := zl_mul (-1) b.k.v
    have := zl_one
    have := zl_of lb.2
    have := sb.2.2
    omega
  rw [nf_less]
  rintro e w4 ⟨r4, rfl, ⟨A4, c4, B4, d4, rfl, h41, h42⟩, hx4⟩
  (have hs4 := Ext.size hx4; (try simp only [wsz] at hs4))
  have b4' := ((b4.drew.ext hx1).ext hx2).ext hx4
  have b4r := b4'.rules
  have b4l' := b4'.lt
  clear b2r b3r
  (refine hK _ _ (by repeat (first | with_reducible assumption | with_reducible exact Ext.refl _ | with_reducible refine Ext.drewN ?_ _ | with_reducible refine Ext.drew ?_ | with_reducible refine Ext.alloc ?_ _ | (with_reducible refine Ext.setCell ?_ ?_ _; rotate_left; (first | exact Nat.le_refl _ | (dsimp only; omega) | (simp only [wsz]; omega))) | (with_reducible refine Ext.trans ?_ (by with_reducible assumption)))) ?_; clear hK K; (try simp only [Act.put, List.setIfInBounds_toArray, List.set_cons_zero, List.set_cons_succ]))
  (refine sq_last rfl rfl fun K hK => ?_; go_simp; refine hK _ _ ?_; clear hK K)
  have hE4 : Ext w w4 := hE.trans ((((Ext.refl W).drew.trans hx1).trans hx2).trans hx4)
  go_wp2_with fail
  (refine bodyPost_ret (v := ?_) ?_ rfl ?_; rotate_left; (simp only [results, Try.results36]; go_simp; (first | done | with_reducible rfl)))
  refine ⟨_, rfl, ⟨_, _, _, _, rfl, (Pl.keep (h41.widen (Y := fun c => w.heap.size + 1 + 1 < c) fun c hc _ => by omega) (by repeat (first | with_reducible exact Kp.refl _ | with_reducible refine Kp.drewN ?_ _ | with_reducible refine Kp.drew ?_ | with_reducible refine Kp.alloc ?_ _ | (with_reducible refine Kp.setCell ?_ ?_ _; rotate_left; (first | (dsimp only; omega) | (simp only [wsz]; omega))) | (with_reducible exact Kp.of_ext (by with_reducible assumption)) | (with_reducible refine Kp.ext ?_ (by with_reducible assumption))))).widen fun c hc _ => by omega, (Nl.keep (h42.widen (Y := fun c => w.heap.size + 1 + 1 < c) fun c hc _ => by omega) (by repeat (first | with_reducible exact Kp.refl _ | with_reducible refine Kp.drewN ?_ _ | with_reducible refine Kp.drew ?_ | with_reducible refine Kp.alloc ?_ _ | (with_reducible refine Kp.setCell ?_ ?_ _; rotate_left; (first | (dsimp only; omega) | (simp only [wsz]; omega))) | (with_reducible exact Kp.of_ext (by with_reducible assumption)) | (with_reducible refine Kp.ext ?_ (by with_reducible assumption))))).widen fun c hc _ => by omega⟩, ?_⟩
  exact ((hE4.setCell (by simp only; omega) _).setCell (by simp only; omega) _).setCell (by simp only; omega) _

set_option maxHeartbeats 1600000 in
theorem rcoef5_c {v : Value} {t : T} {w : World} {X : Nat → Prop} {N : Nat} {x : Int} (h : Tv w X v t) (hN : N ≤ 1073741824) (hs : t.sz N) :
    Calls Try.prog 38 #[v, .int .i64 x] w fun e w' => ∃ r, e = .returned r ∧ Zi w' (w.heap.size ≤ ·) r (cz (cf (vl t.ps) x)) ∧ Ext w w' := by
  have hlb := h.lb
  obtain ⟨s1, s2, s3⟩ := hs
  have hzl := zl_vl hlb.1 s2
  obtain ⟨A, c, B, d, rfl, h1, h2⟩ := h
  go_enter Try.func38, Try.ntmps38
  go_wp2_with fail
  refine wp_named fun W hW => ?_
  have b4 : Box W (w.heap.size + 1) 25 #[.bool false, .slice none 0 0] := by rw [hW]; exact (by repeat (first | with_reducible assumption | with_reducible exact Box.new _ _ _ | (with_reducible refine Box.new_at _ _ _ ?_; (simp only [wsz]; done)) | with_reducible refine Box.drewN ?_ _ | with_reducible refine Box.drew ?_ | with_reducible refine Box.alloc ?_ _ | with_reducible apply Box.drewN | with_reducible apply Box.drew | with_reducible apply Box.alloc | with_reducible refine Box.set_ ?_ _ _ | (with_reducible refine Box.far ?_ ?_ _; rotate_left; (simp only [ne_eq]; omega)) | (with_reducible refine Box.ext ?_ (by with_reducible assumption)) | (refine Box.new_at _ _ _ ?_; simp only [wsz]; done)))
  have b5 : Box W (w.heap.size + 1 + 1) 25 #[.bool false, .slice none 0 0] := by rw [hW]; exact (by repeat (first | with_reducible assumption | with_reducible exact Box.new _ _ _ | (with_reducible refine Box.new_at _ _ _ ?_; (simp only [wsz]; done)) | with_reducible refine Box.drewN ?_ _ | with_reducible refine Box.drew ?_ | with_reducible refine Box.alloc ?_ _ | with_reducible apply Box.drewN | with_reducible apply Box.drew | with_reducible apply Box.alloc | with_reducible refine Box.set_ ?_ _ _ | (with_reducible refine Box.far ?_ ?_ _; rotate_left; (simp only [ne_eq]; omega)) | (with_reducible refine Box.ext ?_ (by with_reducible assumption)) | (refine Box.new_at _ _ _ ?_; simp only [wsz]; done)))
  have b2 : Box W w.heap.size 27 #[.slice A t.ps.length c, .bool t.k.neg, .slice B t.k.mag.length d] := by rw [hW]; exact (by repeat (first | with_reducible assumption | with_reducible exact Box.new _ _ _ | (with_reducible refine Box.new_at _ _ _ ?_; (simp only [wsz]; done)) | with_reducible refine Box.drewN ?_ _ | with_reducible refine Box.drew ?_ | with_reducible refine Box.alloc ?_ _ | with_reducible apply Box.drewN | with_reducible apply Box.drew | with_reducible apply Box.alloc | with_reducible refine Box.set_ ?_ _ _ | (with_reducible refine Box.far ?_ ?_ _; rotate_left; (simp only [ne_eq]; omega)) | (with_reducible refine Box.ext ?_ (by with_reducible assumption)) | (refine Box.new_at _ _ _ ?_; simp only [wsz]; done)))
  have hE : Ext w W := by rw [hW]; exact (by repeat (first | with_reducible assumption | with_reducible exact Ext.refl _ | with_reducible refine Ext.drewN ?_ _ | with_reducible refine Ext.drew ?_ | with_reducible refine Ext.alloc ?_ _ | (with_reducible refine Ext.setCell ?_ ?_ _; rotate_left; (first | exact Nat.le_refl _ | (dsimp only; omega) | (simp only [wsz]; omega))) | (with_reducible refine Ext.trans ?_ (by with_reducible assumption))))
  clear hW
  have hWl := b5.lt
  go_loopw [6] (fun iv wr => ∃ k B2 d2, ∃ z : Z, k ≤ t.ps.length ∧ iv = .int .i64 (k : Nat) ∧ Box wr (w.heap.size + 1 + 1) 25 #[.bool z.neg, .slice B2 z.mag.length d2] ∧ Nl wr (fun c => w.heap.size + 1 + 1 < c) B2 d2 z.mag ∧ Hid (z.v = cf (vl (t.ps.take k)) x) ∧
      z.mag.length ≤ N + N ∧ Kp (fun c => c ≠ w.heap.size + 1 + 1) W wr ∧ Ext w wr) (fun iv _ => t.ps.length - (intOf iv).toNat)
  case atStart => exact ⟨0, none, 0, ⟨false, []⟩, Nat.zero_le _, rfl, b5, Sl.nil0 _ _ _, Lib.hid (by simp [Z.v, nv, vl, cf]), Nat.zero_le _, Kp.refl _, hE⟩
  case round =>
    clear b5
    obtain ⟨k, B2, d2, z, hk, rfl, b5, hNz, hz, hzm, kp, hxr⟩ := hrel
    have b2k := b2.keep (X := fun c => c ≠ w.heap.size + 1 + 1) (by omega) kp
    have b4k := b4.keep (X := fun c => c ≠ w.heap.size + 1 + 1) (by omega) kp
    have b2r := b2k.rules
    have b2l := b2k.lt
    have b4r := b4k.rules
    have b4l := b4k.lt
    have b5r := b5.rules
    have b5l := b5.lt
    by_cases hlt : k < t.ps.length
    · obtain ⟨b, o, B', d', rfl, hX, hc0, hc1, hc2, hi, hN2⟩ := (h1.ext hxr).at_ hlt
      have hb := World.block_lt_of_cell? _ _ hc0
      have kl : (k : Int) < (t.ps.length : Int) := by omega
      by_cases he : (pth t.ps k).1 = x
      · have e1 : ((pth t.ps k).1 == x) = true := by rw [he]; exact beq_self_eq_true _
        have He := Lib.hid he; clear he
        go_wp2_with fail
        refine wp_region_seq 8 [(0, true), (1, true), (2, true), (3, true), (4, true), (5, true), (6, true), (7, false), (8, false)] rfl (by kernel_rfl) (by intro _ _ d _ _ h; cases d <;> exact h) ?_
        (repeat (refine sq_take (v := ?_) rfl rfl ?_ ?_; rotate_left; (intro w' hx'; have hc' := hx'.cells.1; (try simp only [wcd] at hc'); go_simp; (first | done | with_reducible rfl)); (try simp only [Act.put, List.setIfInBounds_toArray, List.set_cons_zero, List.set_cons_succ])))
        (refine sq_loud rfl rfl fun K hK => ?_; go_simp)
        refine (raddz_c (x := z) (y := (pth t.ps k).2) ⟨_, _, rfl, hNz.ext (by repeat (first | with_reducible assumption | with_reducible exact Ext.refl _ | with_reducible refine Ext.drewN ?_ _ | with_reducible refine Ext.drew ?_ | with_reducible refine Ext.alloc ?_ _ | (with_reducible refine Ext.setCell ?_ ?_ _; rotate_left; (first | exact Nat.le_refl _ | (dsimp only; omega) | (simp only [wsz]; omega))) | (with_reducible refine Ext.trans ?_ (by with_reducible assumption))))⟩ ⟨_, _, rfl, hN2.ext (by repeat (first | with_reducible assumption | with_reducible exact Ext.refl _ | with_reducible refine Ext.drewN ?_ _ | with_reducible refine Ext.drew ?_ | with_reducible refine Ext.alloc ?_ _ | (with_reducible refine Ext.setCell ?_ ?_ _; rotate_left; (first | exact Nat.le_refl _ | (dsimp only; omega) | (simp only [wsz]; omega))) | (with_reducible refine Ext.trans ?_ (by with_reducible assumption))))⟩ (by omega) (Nat.le_trans (s2 _ (pth_mem hlt)) (by omega))).mono ?_
        rintro e w1 ⟨r, rfl, ⟨A4, c4, rfl, hN4⟩, hx1⟩
        (have hs1 := Ext.size hx1; (try simp only [wsz] at hs1))
        have hx2 : Ext wr w1 := (by repeat (first | with_reducible assumption | with_reducible exact Ext.refl _ | with_reducible refine Ext.drewN ?_ _ | with_reducible refine Ext.drew ?_ | with_reducible refine Ext.alloc ?_ _ | (with_reducible refine Ext.setCell ?_ ?_ _; rotate_left; (first | exact Nat.le_refl _ | (dsimp only; omega) | (simp only [wsz]; omega))) | (with_reducible refine Ext.trans ?_ (by with_reducible assumption))))
        have b5' := b5.ext hx2
        have b5r' := b5'.rules
        have b5l' := b5'.lt
        clear b5r b4r
        (refine hK _ _ (by repeat (first | with_reducible assumption | with_reducible exact Ext.refl _ | with_reducible refine Ext.drewN ?_ _ | with_reducible refine Ext.drew ?_ | with_reducible refine Ext.alloc ?_ _ | (with_reducible refine Ext.setCell ?_ ?_ _; rotate_left; (first | exact Nat.le_refl _ | (dsimp only; omega) | (simp only [wsz]; omega))) | (with_reducible refine Ext.trans ?_ (by with_reducible assumption)))) ?_; clear hK K; (try simp only [Act.put, List.setIfInBounds_toArray, List.set_cons_zero, List.set_cons_succ]))
        (refine sq_last rfl rfl fun K hK => ?_; go_simp; refine hK _ _ ?_; clear hK K)
        have hv2 : z.v + (pth t.ps k).2.v = cf (vl (t.ps.take (k + 1))) x := by rw [hz.out, cf_hit hlt He.out]
        have hlen : (cz (z.v + (pth t.ps k).2.v)).mag.length ≤ N + N := by
          rw [cz_len, hv2]
          have := zl_cf (l := vl (t.ps.take (k + 1))) (N := N) (fun p hp => hzl p (List.map_subset _ (List.take_subset _ _) hp)) x
          rw [vl_len, List.length_take] at this
          omega
        have HV := Lib.hid hv2; clear hv2
        have b5s : Box ((w1.setCell ⟨w.heap.size + 1 + 1, 0, none⟩ (.bool (cz (z.v + (pth t.ps k).2.v)).neg)).setCell ⟨w.heap.size + 1 + 1, 1, none⟩ (.slice A4 (cz (z.v + (pth t.ps k).2.v)).mag.length c4)) (w.heap.size + 1 + 1) 25 #[.bool (cz (z.v + (pth t.ps k).2.v)).neg, .slice A4 (cz (z.v + (pth t.ps k).2.v)).mag.length c4] := (b5'.set_ 0 _).set_ 1 _
        go_wp2_with fail
        go_roundw
        case rel =>
          refine ⟨k + 1, A4, c4, cz (z.v + (pth t.ps k).2.v), by omega, by go_num, b5s, ?_, Lib.hid (by rw [cz_v]; exact HV.out), hlen, ((kp.ext hx2).setCell (fun h => h rfl) _).setCell (fun h => h rfl) _, ((hxr.trans hx2).setCell (by simp only; omega) _).setCell (by simp only; omega) _⟩
          exact ((hN4.widen (Y := fun c => w.heap.size + 1 + 1 < c) fun c hc _ => by simp only [wsz] at hc; omega).keep ((Kp.refl w1).setCell (fun h => by simp only at h; omega) _)).keep ((Kp.refl _).setCell (fun h => by simp only at h; omega) _)
        case measure => simp [intOf] <;> omega
      · have e1 : ((pth t.ps k).1 == x) = false := by rw [beq_eq_false_iff_ne]; exact he
        have He := Lib.hid he; clear he
        go_wp2_with fail
        go_roundw
        case rel => exact ⟨k + 1, B2, d2, z, by omega, by go_num, (by repeat (first | with_reducible assumption | with_reducible exact Box.new _ _ _ | (with_reducible refine Box.new_at _ _ _ ?_; (simp only [wsz]; done)) | with_reducible refine Box.drewN ?_ _ | with_reducible refine Box.drew ?_ | with_reducible refine Box.alloc ?_ _ | with_reducible apply Box.drewN | with_reducible apply Box.drew | with_reducible apply Box.alloc | with_reducible refine Box.set_ ?_ _ _ | (with_reducible refine Box.far ?_ ?_ _; rotate_left; (simp only [ne_eq]; omega)) | (with_reducible refine Box.ext ?_ (by with_reducible assumption)) | (refine Box.new_at _ _ _ ?_; simp only [wsz]; done))), hNz.ext (by repeat (first | with_reducible assumption | with_reducible exact Ext.refl _ | with_reducible refine Ext.drewN ?_ _ | with_reducible refine Ext.drew ?_ | with_reducible refine Ext.alloc ?_ _ | (with_reducible refine Ext.setCell ?_ ?_ _; rotate_left; (first | exact Nat.le_refl _ | (dsimp only; omega) | (simp only [wsz]; omega))) | (with_reducible refine Ext.trans ?_ (by with_reducible assumption)))), Lib.hid (hz.out.trans (cf_miss hlt He.out).symm), hzm, kp.ext (by repeat (first | with_reducible assumption | with_reducible exact Ext.refl _ | with_reducible refine Ext.drewN ?_ _ | with_reducible refine Ext.drew ?_ | with_reducible refine Ext.alloc ?_ _ | (with_reducible refine Ext.setCell ?_ ?_ _; rotate_left; (first | exact Nat.le_refl _ | (dsimp only; omega) | (simp only [wsz]; omega))) | (with_reducible refine Ext.trans ?_ (by with_reducible assumption)))), hxr.trans (by repeat (first | with_reducible assumption | with_reducible exact Ext.refl _ | with_reducible refine Ext.drewN ?_ _ | with_reducible refine Ext.drew ?_ | with_reducible refine Ext.alloc ?_ _ | (with_reducible refine Ext.setCell ?_ ?_ _; rotate_left; (first | exact Nat.le_refl _ | (dsimp only; omega) | (simp only [wsz]; omega))) | (with_reducible refine Ext.trans ?_ (by with_reducible assumption))))⟩
        case measure => simp [intOf] <;> omega
    · obtain rfl : k = t.ps.length := by omega
      go_wp2_with fail
      refine (rnorm_c (z := z) ⟨_, _, rfl, hNz⟩ (by omega)).mono ?_
      rintro e w1 ⟨r, rfl, ⟨A4, c4, rfl, hN4⟩, hx1⟩
      (have hs1 := Ext.size hx1; (try simp only [wsz] at hs1))
      have b4' := b4k.ext hx1
      have b4r' := b4'.rules
      have b4l' := b4'.lt
      clear b4r b5r b2r
      go_wp2_with fail
      (refine bodyPost_ret (v := ?_) ?_ rfl ?_; rotate_left; (simp only [results, Try.results38]; go_simp; (first | done | with_reducible rfl)))
      have hv := hz.out
      rw [List.take_length] at hv
      rw [hv] at hN4 ⊢
      refine ⟨_, rfl, ⟨_, _, rfl, ?_⟩, ((hxr.trans hx1).setCell (by simp only; omega) _).setCell (by simp only; omega) _⟩
      exact (((hN4.widen (Y := fun c => w.heap.size + 1 < c) fun c hc _ => by omega).keep ((Kp.refl w1).setCell (fun h => by simp only at h; omega) _)).keep ((Kp.refl _).setCell (fun h => by simp only at h; omega) _)).widen fun c hc _ => by omega

end Go.Proofs.Ytbblgjjomgipfaa
