/- term.Coef. No conditions. -/
import Derived.Test.YtbblgjjomgipfaaNorm
import Derived.Test.YtbblgjjomgipfaaEv
namespace Go.Proofs.Ytbblgjjomgipfaa
open Go.RowKit

theorem cf_hit {ps : List (Int × Z)} {x : Int} {k : Nat} (h : k < ps.length) (he : (pth ps k).1 = x) : cf (vl (ps.take (k + 1))) x = cf (vl (ps.take k)) x + (pth ps k).2.v := by
  rw [vl_take ps k h, cf_append]
  simp [cf, he]
theorem cf_miss {ps : List (Int × Z)} {x : Int} {k : Nat} (h : k < ps.length) (he : (pth ps k).1 ≠ x) : cf (vl (ps.take (k + 1))) x = cf (vl (ps.take k)) x := by
  rw [vl_take ps k h, cf_append]
  simp [cf, he]

set_option maxHeartbeats 1600000 in
theorem tcoef_c {v : Value} {t : T} {w : World} {X : Nat → Prop} {N : Nat} {x : Int} (h : Tv w X v t) (hN : N ≤ 1073741824) (hs : t.sz N) :
    Calls Try.prog 32 #[v, .int .i64 x] w fun e w' => ∃ r, e = .returned r ∧ Zi w' (w.heap.size ≤ ·) r (cz (cf (vl t.ps) x)) ∧ Ext w w' := by
  have hlb := h.lb
  obtain ⟨s1, s2, s3⟩ := hs
  have hzl := zl_vl hlb.1 s2
  obtain ⟨A, c, B, d, rfl, h1, h2⟩ := h
  go_enter Try.func32, Try.ntmps32
  go_wp2_with fail
  refine wp_named fun W hW => ?_
  have b4 : Box W (w.heap.size + 1) 25 #[.bool false, .slice none 0 0] := by rw [hW]; exact (by repeat (first | with_reducible assumption | with_reducible exact Box.new _ _ _ | (with_reducible refine Box.new_at _ _ _ ?_; (simp only [wsz]; done)) | with_reducible refine Box.drewN ?_ _ | with_reducible refine Box.drew ?_ | with_reducible refine Box.alloc ?_ _ | with_reducible apply Box.drewN | with_reducible apply Box.drew | with_reducible apply Box.alloc | with_reducible refine Box.set_ ?_ _ _ | (with_reducible refine Box.far ?_ ?_ _; rotate_left; (simp only [ne_eq]; omega)) | (with_reducible refine Box.ext ?_ (by with_reducible assumption)) | (refine Box.new_at _ _ _ ?_; simp only [wsz]; done)))
  have b5 : Box W (w.heap.size + 1 + 1) 25 #[.bool false, .slice none 0 0] := by rw [hW]; exact (by repeat (first | with_reducible assumption | with_reducible exact Box.new _ _ _ | (with_reducible refine Box.new_at _ _ _ ?_; (simp only [wsz]; done)) | with_reducible refine Box.drewN ?_ _ | with_reducible refine Box.drew ?_ | with_reducible refine Box.alloc ?_ _ | with_reducible apply Box.drewN | with_reducible apply Box.drew | with_reducible apply Box.alloc | with_reducible refine Box.set_ ?_ _ _ | (with_reducible refine Box.far ?_ ?_ _; rotate_left; (simp only [ne_eq]; omega)) | (with_reducible refine Box.ext ?_ (by with_reducible assumption)) | (refine Box.new_at _ _ _ ?_; simp only [wsz]; done)))
  have hE : Ext w W := by rw [hW]; exact (by repeat (first | with_reducible assumption | with_reducible exact Ext.refl _ | with_reducible refine Ext.drewN ?_ _ | with_reducible refine Ext.drew ?_ | with_reducible refine Ext.alloc ?_ _ | (with_reducible refine Ext.setCell ?_ ?_ _; rotate_left; (first | exact Nat.le_refl _ | (dsimp only; omega) | (simp only [wsz]; omega))) | (with_reducible refine Ext.trans ?_ (by with_reducible assumption))))
  clear hW
  have hWl := b5.lt
  go_loopw [11] (fun iv wr => ∃ k B2 d2, ∃ z : Z, k ≤ t.ps.length ∧ iv = .int .i64 (k : Nat) ∧ Box wr (w.heap.size + 1 + 1) 25 #[.bool z.neg, .slice B2 z.mag.length d2] ∧ Nl wr (fun c => w.heap.size + 1 + 1 < c) B2 d2 z.mag ∧ Hid (z.v = cf (vl (t.ps.take k)) x) ∧
      z.mag.length ≤ N + N ∧ Kp (fun c => c ≠ w.heap.size + 1 + 1) W wr ∧ Ext w wr) (fun iv _ => t.ps.length - (intOf iv).toNat)
  case atStart => exact ⟨0, none, 0, ⟨false, []⟩, Nat.zero_le _, rfl, b5, Sl.nil0 _ _ _, Lib.hid (by simp [Z.v, nv, vl, cf]), Nat.zero_le _, Kp.refl _, hE⟩
  case round =>
    clear b5
    obtain ⟨k, B2, d2, z, hk, rfl, b5, hNz, hz, hzm, kp, hxr⟩ := hrel
    have b4k := b4.keep (X := fun c => c ≠ w.heap.size + 1 + 1) (by omega) kp
    have b4r := b4k.rules
    have b4l := b4k.lt
    have b5r := b5.rules
    have b5l := b5.lt
    by_cases hlt : k < t.ps.length
    · obtain ⟨b, o, B', d', rfl, hX, hc0, hc1, hc2, hi, hN2⟩ := (h1.ext hxr).at_ hlt
      have hb := World.block_lt_of_cell? _ _ hc0
      have kl : (k : Int) < (t.ps.length : Int) := by omega
      by_cases he : (pth t.ps k).1 = x
      · have e1 : ((pth t.ps k).1 == x) = true := by rw [he]; exact beq_self_eq_true _
        have He := Lib.hid he; clear he
        go_wp2_with fail
        refine (zadd_c (x := z) (y := (pth t.ps k).2) ⟨_, _, rfl, hNz.ext (by repeat (first | with_reducible assumption | with_reducible exact Ext.refl _ | with_reducible refine Ext.drewN ?_ _ | with_reducible refine Ext.drew ?_ | with_reducible refine Ext.alloc ?_ _ | (with_reducible refine Ext.setCell ?_ ?_ _; rotate_left; (first | exact Nat.le_refl _ | (dsimp only; omega) | (simp only [wsz]; omega))) | (with_reducible refine Ext.trans ?_ (by with_reducible assumption))))⟩ ⟨_, _, rfl, hN2.ext (by repeat (first | with_reducible assumption | with_reducible exact Ext.refl _ | with_reducible refine Ext.drewN ?_ _ | with_reducible refine Ext.drew ?_ | with_reducible refine Ext.alloc ?_ _ | (with_reducible refine Ext.setCell ?_ ?_ _; rotate_left; (first | exact Nat.le_refl _ | (dsimp only; omega) | (simp only [wsz]; omega))) | (with_reducible refine Ext.trans ?_ (by with_reducible assumption))))⟩ (by omega) (Nat.le_trans (s2 _ (pth_mem hlt)) (by omega))).mono ?_
        rintro e w1 ⟨r, rfl, ⟨A4, c4, rfl, hN4⟩, hx1⟩
        (have hs1 := Ext.size hx1; (try simp only [wsz] at hs1))
        have hx2 : Ext wr w1 := (by repeat (first | with_reducible assumption | with_reducible exact Ext.refl _ | with_reducible refine Ext.drewN ?_ _ | with_reducible refine Ext.drew ?_ | with_reducible refine Ext.alloc ?_ _ | (with_reducible refine Ext.setCell ?_ ?_ _; rotate_left; (first | exact Nat.le_refl _ | (dsimp only; omega) | (simp only [wsz]; omega))) | (with_reducible refine Ext.trans ?_ (by with_reducible assumption))))
        have b5' := b5.ext hx2
        have b5r' := b5'.rules
        have b5l' := b5'.lt
        clear b5r b4r
        go_wp2_with fail
        have hv2 : z.v + (pth t.ps k).2.v = cf (vl (t.ps.take (k + 1))) x := by rw [hz.out, cf_hit hlt He.out]
        have hlen : (cz (z.v + (pth t.ps k).2.v)).mag.length ≤ N + N := by
          rw [cz_len, hv2]
          have := zl_cf (l := vl (t.ps.take (k + 1))) (N := N) (fun p hp => hzl p (List.map_subset _ (List.take_subset _ _) hp)) x
          rw [vl_len, List.length_take] at this
          omega
        have HV := Lib.hid hv2; clear hv2
        have b5s : Box ((w1.setCell ⟨w.heap.size + 1 + 1, 0, none⟩ (.bool (cz (z.v + (pth t.ps k).2.v)).neg)).setCell ⟨w.heap.size + 1 + 1, 1, none⟩ (.slice A4 (cz (z.v + (pth t.ps k).2.v)).mag.length c4)) (w.heap.size + 1 + 1) 25 #[.bool (cz (z.v + (pth t.ps k).2.v)).neg, .slice A4 (cz (z.v + (pth t.ps k).2.v)).mag.length c4] := (b5'.set_ 0 _).set_ 1 _
        go_roundw
        case rel =>
          refine ⟨k + 1, A4, c4, cz (z.v + (pth t.ps k).2.v), by omega, by go_num, b5s, ?_, Lib.hid (by rw [cz_v]; exact HV.out), hlen, ((kp.ext hx2).setCell (fun h => h rfl) _).setCell (fun h => h rfl) _, ((hxr.trans hx2).setCell (by simp only; omega) _).setCell (by simp only; omega) _⟩
          exact ((hN4.widen (Y := fun c => w.heap.size + 1 + 1 < c) fun c hc _ => by simp only [wsz] at hc; omega).keep ((Kp.refl w1).setCell (fun h => by simp only at h; omega) _)).keep ((Kp.refl _).setCell (fun h => by simp only at h; omega) _)
        case measure => simp [intOf] <;> omega
      · have e1 : ((pth t.ps k).1 == x) = false := by rw [beq_eq_false_iff_ne]; exact he
        have He := Lib.hid he; clear he
        go_wp2_with fail
        go_roundw
        case rel => exact ⟨k + 1, B2, d2, z, by omega, by go_num, (by repeat (first | with_reducible assumption | with_reducible exact Box.new _ _ _ | (with_reducible refine Box.new_at _ _ _ ?_; (simp only [wsz]; done)) | with_reducible refine Box.drewN ?_ _ | with_reducible refine Box.drew ?_ | with_reducible refine Box.alloc ?_ _ | with_reducible apply Box.drewN | with_reducible apply Box.drew | with_reducible apply Box.alloc | with_reducible refine Box.set_ ?_ _ _ | (with_reducible refine Box.far ?_ ?_ _; rotate_left; (simp only [ne_eq]; omega)) | (with_reducible refine Box.ext ?_ (by with_reducible assumption)) | (refine Box.new_at _ _ _ ?_; simp only [wsz]; done))), hNz.ext (by repeat (first | with_reducible assumption | with_reducible exact Ext.refl _ | with_reducible refine Ext.drewN ?_ _ | with_reducible refine Ext.drew ?_ | with_reducible refine Ext.alloc ?_ _ | (with_reducible refine Ext.setCell ?_ ?_ _; rotate_left; (first | exact Nat.le_refl _ | (dsimp only; omega) | (simp only [wsz]; omega))) | (with_reducible refine Ext.trans ?_ (by with_reducible assumption)))), Lib.hid (hz.out.trans (cf_miss hlt He.out).symm), hzm, kp.ext (by repeat (first | with_reducible assumption | with_reducible exact Ext.refl _ | with_reducible refine Ext.drewN ?_ _ | with_reducible refine Ext.drew ?_ | with_reducible refine Ext.alloc ?_ _ | (with_reducible refine Ext.setCell ?_ ?_ _; rotate_left; (first | exact Nat.le_refl _ | (dsimp only; omega) | (simp only [wsz]; omega))) | (with_reducible refine Ext.trans ?_ (by with_reducible assumption)))), hxr.trans (by repeat (first | with_reducible assumption | with_reducible exact Ext.refl _ | with_reducible refine Ext.drewN ?_ _ | with_reducible refine Ext.drew ?_ | with_reducible refine Ext.alloc ?_ _ | (with_reducible refine Ext.setCell ?_ ?_ _; rotate_left; (first | exact Nat.le_refl _ | (dsimp only; omega) | (simp only [wsz]; omega))) | (with_reducible refine Ext.trans ?_ (by with_reducible assumption))))⟩
        case measure => simp [intOf] <;> omega
    · obtain rfl : k = t.ps.length := by omega
      go_wp2_with fail
      refine (znorm_c (z := z) ⟨_, _, rfl, hNz⟩ (by omega)).mono ?_
      rintro e w1 ⟨r, rfl, ⟨A4, c4, rfl, hN4⟩, hx1⟩
      (have hs1 := Ext.size hx1; (try simp only [wsz] at hs1))
      have b4' := b4k.ext hx1
      have b4r' := b4'.rules
      have b4l' := b4'.lt
      clear b4r b5r
      go_wp2_with fail
      (refine bodyPost_ret (v := ?_) ?_ rfl ?_; rotate_left; (simp only [results, Try.results32]; go_simp; (first | done | with_reducible rfl)))
      have hv := hz.out
      rw [List.take_length] at hv
      rw [hv] at hN4 ⊢
      refine ⟨_, rfl, ⟨_, _, rfl, ?_⟩, ((hxr.trans hx1).setCell (by simp only; omega) _).setCell (by simp only; omega) _⟩
      exact (((hN4.widen (Y := fun c => w.heap.size + 1 < c) fun c hc _ => by omega).keep ((Kp.refl w1).setCell (fun h => by simp only at h; omega) _)).keep ((Kp.refl _).setCell (fun h => by simp only at h; omega) _)).widen fun c hc _ => by omega

end Go.Proofs.Ytbblgjjomgipfaa
