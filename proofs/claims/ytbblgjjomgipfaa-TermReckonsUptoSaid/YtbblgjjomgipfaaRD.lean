/- riddleref05.Without, Put. No conditions. -/
import Derived.Test.YtbblgjjomgipfaaRC
namespace Go.Proofs.Ytbblgjjomgipfaa
open Go.RowKit Go.Shelf

theorem wo_kp {ps : List (Int × Z)} {x : Int} {k : Nat} (h : k < ps.length) (he : (pth ps k).1 ≠ x) : wo x (ps.take (k + 1)) = wo x (ps.take k) ++ [pth ps k] := by
  rw [take_pth ps k h]
  unfold wo
  rw [List.filter_append]
  congr 1
  rw [List.filter_cons_of_pos (by simpa using he)]
  rfl
theorem wo_sk {ps : List (Int × Z)} {x : Int} {k : Nat} (h : k < ps.length) (he : (pth ps k).1 = x) : wo x (ps.take (k + 1)) = wo x (ps.take k) := by
  rw [take_pth ps k h]
  unfold wo
  rw [List.filter_append, List.filter_cons_of_neg (by simpa using he)]
  simp

set_option maxHeartbeats 1600000 in
theorem rwithout5_c {v : Value} {t : T} {w : World} {X : Nat → Prop} {N : Nat} {x : Int} (h : Tv w X v t) (hN : N ≤ 4294967296) (hs : t.sz N) :
    Calls Try.prog 39 #[v, .int .i64 x] w fun e w' => ∃ r, e = .returned r ∧ Tv w' (w.heap.size ≤ ·) r (t.wo x).nf ∧ Ext w w' := by
  have hs2 := T.wo_sz (x := x) hs
  obtain ⟨s1, s2, s3⟩ := hs
  obtain ⟨A, c, B, d, rfl, h1, h2⟩ := h
  go_enter Try.func39, Try.ntmps39
  go_wp2_with fail
  refine wp_named fun W hW => ?_
  have b2 : Box W w.heap.size 27 #[.slice A t.ps.length c, .bool t.k.neg, .slice B t.k.mag.length d] := by rw [hW]; exact (by repeat (first | with_reducible assumption | with_reducible exact Box.new _ _ _ | (with_reducible refine Box.new_at _ _ _ ?_; (simp only [wsz]; done)) | with_reducible refine Box.drewN ?_ _ | with_reducible refine Box.drew ?_ | with_reducible refine Box.alloc ?_ _ | with_reducible apply Box.drewN | with_reducible apply Box.drew | with_reducible apply Box.alloc | with_reducible refine Box.set_ ?_ _ _ | (with_reducible refine Box.far ?_ ?_ _; rotate_left; (simp only [ne_eq]; omega)) | (with_reducible refine Box.ext ?_ (by with_reducible assumption)) | (refine Box.new_at _ _ _ ?_; simp only [wsz]; done)))
  have b4 : Box W (w.heap.size + 1) 27 #[.slice none 0 0, .bool false, .slice none 0 0] := by rw [hW]; exact (by repeat (first | with_reducible assumption | with_reducible exact Box.new _ _ _ | (with_reducible refine Box.new_at _ _ _ ?_; (simp only [wsz]; done)) | with_reducible refine Box.drewN ?_ _ | with_reducible refine Box.drew ?_ | with_reducible refine Box.alloc ?_ _ | with_reducible apply Box.drewN | with_reducible apply Box.drew | with_reducible apply Box.alloc | with_reducible refine Box.set_ ?_ _ _ | (with_reducible refine Box.far ?_ ?_ _; rotate_left; (simp only [ne_eq]; omega)) | (with_reducible refine Box.ext ?_ (by with_reducible assumption)) | (refine Box.new_at _ _ _ ?_; simp only [wsz]; done)))
  have hE : Ext w W := by rw [hW]; exact (by repeat (first | with_reducible assumption | with_reducible exact Ext.refl _ | with_reducible refine Ext.drewN ?_ _ | with_reducible refine Ext.drew ?_ | with_reducible refine Ext.alloc ?_ _ | (with_reducible refine Ext.setCell ?_ ?_ _; rotate_left; (first | exact Nat.le_refl _ | (dsimp only; omega) | (simp only [wsz]; omega))) | (with_reducible refine Ext.trans ?_ (by with_reducible assumption))))
  clear hW
  have hWl := b4.lt
  have h1b := h1.below
  go_loopw [5, 6] (fun lv iv wr => ∃ k : Nat, k ≤ t.ps.length ∧ iv = .int .i64 k ∧ Own 3 EP wr (· < w.heap.size) W.heap.size 69 lv (wo x (t.ps.take k)) ∧ Ext W wr) (fun _ iv _ => t.ps.length - (intOf iv).toNat)
  case atStart => exact ⟨0, Nat.zero_le _, rfl, Own.nil _ _ _ _, Ext.refl _⟩
  case round =>
    obtain ⟨k, hkk, rfl, hO, hxr⟩ := hrel
    have q2 := b2.ext hxr; have q4 := b4.ext hxr
    have q2r := q2.rules; have q2l := q2.lt
    have hxw := hE.trans hxr
    have hrow := hO.row
    obtain ⟨A0, c0, rfl, hP0⟩ := Own.sl hO (by omega) (X := fun _ => True) (fun _ _ => trivial)
    have hP0 : Pl wr (fun _ => True) A0 c0 (wo x (t.ps.take k)) := hP0
    have hsl : (wo x (t.ps.take k)).length ≤ k := by have := wo_len x (t.ps.take k); rw [List.length_take] at this; omega
    have hws := hxr.size
    by_cases hlt : k < t.ps.length
    · obtain ⟨b, o, B', d', rfl, hX, hc0, hc1, hc2, hi, hN2⟩ := (h1b.ext hxw).at_ hlt
      have hb := World.block_lt_of_cell? _ _ hc0
      have kl : (k : Int) < (t.ps.length : Int) := by omega
      by_cases he : (pth t.ps k).1 = x
      · have e1 : ((pth t.ps k).1 != x) = false := by rw [he]; simp
        have He := Lib.hid he; clear he
        go_wp2_with fail
        go_roundw
        case rel => exact ⟨k + 1, by omega, by go_num, by rw [wo_sk hlt He.out]; exact hO.ext (by repeat (first | with_reducible assumption | with_reducible exact Ext.refl _ | with_reducible refine Ext.drewN ?_ _ | with_reducible refine Ext.drew ?_ | with_reducible refine Ext.alloc ?_ _ | (with_reducible refine Ext.setCell ?_ ?_ _; rotate_left; (first | exact Nat.le_refl _ | (dsimp only; omega) | (simp only [wsz]; omega))) | (with_reducible refine Ext.trans ?_ (by with_reducible assumption)))), hxr.trans (by repeat (first | with_reducible assumption | with_reducible exact Ext.refl _ | with_reducible refine Ext.drewN ?_ _ | with_reducible refine Ext.drew ?_ | with_reducible refine Ext.alloc ?_ _ | (with_reducible refine Ext.setCell ?_ ?_ _; rotate_left; (first | exact Nat.le_refl _ | (dsimp only; omega) | (simp only [wsz]; omega))) | (with_reducible refine Ext.trans ?_ (by with_reducible assumption))))⟩
        case measure => simp [intOf] <;> omega
      · have e1 : ((pth t.ps k).1 != x) = true := by rw [bne_iff_ne]; exact he
        have He := Lib.hid he; clear he
        go_wp2_with (first
          | (at_builtin
             (refine wpList_appp1 (.tmp 22) (.tmp 28) hO hi (hN2.widen fun q hq _ => ⟨hq, fun e => by have := (hrow _ e).1; have := hE.size; omega⟩) (by omega) hws rfl rfl rfl rfl ?_)
             intro v2 w2 hO2 hg2 hv2)
          | fail)
        have hxx : Ext W w2 := (hxr.alloc _).grown hg2 (fun j hj => (hrow _ hj).1)
        go_roundw
        case rel =>
          have e2 := wo_kp hlt He.out
          exact ⟨k + 1, by omega, by go_num, by rw [e2]; exact hO2, hxx⟩
        case measure => simp [intOf] <;> omega
    · obtain rfl : k = t.ps.length := by omega
      rw [List.take_length] at hO hP0 hsl
      go_wp2_with fail
      refine (rnorm5_c (t := t.wo x) (N := N) ⟨_, _, _, _, rfl, hP0.ext (by repeat (first | with_reducible assumption | with_reducible exact Ext.refl _ | with_reducible refine Ext.drewN ?_ _ | with_reducible refine Ext.drew ?_ | with_reducible refine Ext.alloc ?_ _ | (with_reducible refine Ext.setCell ?_ ?_ _; rotate_left; (first | exact Nat.le_refl _ | (dsimp only; omega) | (simp only [wsz]; omega))) | (with_reducible refine Ext.trans ?_ (by with_reducible assumption)))), (h2.widen (Y := fun _ => True) fun _ _ _ => trivial).ext (hxw.trans (by repeat (first | with_reducible assumption | with_reducible exact Ext.refl _ | with_reducible refine Ext.drewN ?_ _ | with_reducible refine Ext.drew ?_ | with_reducible refine Ext.alloc ?_ _ | (with_reducible refine Ext.setCell ?_ ?_ _; rotate_left; (first | exact Nat.le_refl _ | (dsimp only; omega) | (simp only [wsz]; omega))) | (with_reducible refine Ext.trans ?_ (by with_reducible assumption)))))⟩ (by omega) hs2).mono ?_
      rintro e w4 ⟨r4, rfl, ⟨A4, c4, B4, d4, rfl, h41, h42⟩, hx4⟩
      have hx5 : Ext wr w4 := (by repeat (first | with_reducible assumption | with_reducible exact Ext.refl _ | with_reducible refine Ext.drewN ?_ _ | with_reducible refine Ext.drew ?_ | with_reducible refine Ext.alloc ?_ _ | (with_reducible refine Ext.setCell ?_ ?_ _; rotate_left; (first | exact Nat.le_refl _ | (dsimp only; omega) | (simp only [wsz]; omega))) | (with_reducible refine Ext.trans ?_ (by with_reducible assumption))))
      have g4 := q4.ext hx5
      have g4r := g4.rules
      have g4l := g4.lt
      have hE4 := hxw.trans hx5
      clear q2r
      go_wp2_with fail
      (refine bodyPost_ret (v := ?_) ?_ rfl ?_; rotate_left; (simp only [results, Try.results39]; go_simp; (first | done | with_reducible rfl)))
      refine ⟨_, rfl, ⟨_, _, _, _, rfl, (Pl.keep (h41.widen (Y := fun c => w.heap.size + 1 < c) fun c hc _ => by omega) (by repeat (first | with_reducible exact Kp.refl _ | with_reducible refine Kp.drewN ?_ _ | with_reducible refine Kp.drew ?_ | with_reducible refine Kp.alloc ?_ _ | (with_reducible refine Kp.setCell ?_ ?_ _; rotate_left; (first | (dsimp only; omega) | (simp only [wsz]; omega))) | (with_reducible exact Kp.of_ext (by with_reducible assumption)) | (with_reducible refine Kp.ext ?_ (by with_reducible assumption))))).widen fun c hc _ => by omega, (Nl.keep (h42.widen (Y := fun c => w.heap.size + 1 < c) fun c hc _ => by omega) (by repeat (first | with_reducible exact Kp.refl _ | with_reducible refine Kp.drewN ?_ _ | with_reducible refine Kp.drew ?_ | with_reducible refine Kp.alloc ?_ _ | (with_reducible refine Kp.setCell ?_ ?_ _; rotate_left; (first | (dsimp only; omega) | (simp only [wsz]; omega))) | (with_reducible exact Kp.of_ext (by with_reducible assumption)) | (with_reducible refine Kp.ext ?_ (by with_reducible assumption))))).widen fun c hc _ => by omega⟩, ?_⟩
      exact ((hE4.setCell (by simp only; omega) _).setCell (by simp only; omega) _).setCell (by simp only; omega) _

theorem rput_eq (t u : T) (x : Int) : ct (vl (t.wo x).nf.ps ++ vl (ct (sc (cz (cf (vl t.ps) x)).v (vl u.ps)) ((cz (cf (vl t.ps) x)).v * u.k.v)).ps) ((t.wo x).nf.k.v + (ct (sc (cz (cf (vl t.ps) x)).v (vl u.ps)) ((cz (cf (vl t.ps) x)).v * u.k.v)).k.v) = t.put x u := by
  have e1 : vl (t.wo x).nf.ps = cn (vl (wo x t.ps)) := vl_cl _
  have e2 : (t.wo x).nf.k.v = t.k.v := cz_v _
  have e3 : ∀ l k, vl (ct l k).ps = cn l := fun l _ => vl_cl _
  have e4 : ∀ l k, (ct l k).k.v = k := fun _ k => cz_v k
  rw [e1, e2, e3, e4, cz_v]
  refine ct_congr (fun y => ?_) rfl
  rw [cf_append, cf_append, cf_cn (sc _ _)]

set_option maxHeartbeats 1600000 in
theorem rput5_c {v uv : Value} {t u : T} {w : World} {X Y : Nat → Prop} {N : Nat} {x : Int} (h : Tv w X v t) (hu : Tv w Y uv u) (hN : N ≤ 536870912) (hs : t.sz N) (su : u.sz N) :
    Calls Try.prog 40 #[v, .int .i64 x, uv] w fun e w' => ∃ r, e = .returned r ∧ Tv w' (w.heap.size ≤ ·) r (t.put x u) ∧ Ext w w' := by
  have hlb := h.lb; have lu := hu.lb
  have hsn := nf_sz (T.wo_sz (x := x) hs) ⟨fun p hp => hlb.1 p (wo_sub hp), hlb.2⟩
  have hcl : zl (cf (vl t.ps) x) ≤ N + N := by
    have := zl_cf (zl_vl hlb.1 hs.2.1) x
    rw [vl_len] at this
    have := hs.1
    omega
  have htv := h; have huv := hu
  obtain ⟨A, c, B, d, rfl, h1, h2⟩ := h
  obtain ⟨UA, uc, UB, ud, rfl, u1, u2⟩ := hu
  go_enter Try.func40, Try.ntmps40
  go_wp2_with fail
  refine wp_named fun W hW => ?_
  have b3 : Box W (w.heap.size) 27 #[.slice A t.ps.length c, .bool t.k.neg, .slice B t.k.mag.length d] := by rw [hW]; exact (by repeat (first | with_reducible assumption | with_reducible exact Box.new _ _ _ | (with_reducible refine Box.new_at _ _ _ ?_; (simp only [wsz]; done)) | with_reducible refine Box.drewN ?_ _ | with_reducible refine Box.drew ?_ | with_reducible refine Box.alloc ?_ _ | with_reducible apply Box.drewN | with_reducible apply Box.drew | with_reducible apply Box.alloc | with_reducible refine Box.set_ ?_ _ _ | (with_reducible refine Box.far ?_ ?_ _; rotate_left; (simp only [ne_eq]; omega)) | (with_reducible refine Box.ext ?_ (by with_reducible assumption)) | (refine Box.new_at _ _ _ ?_; simp only [wsz]; done)))
  have b5 : Box W (w.heap.size + 1) 27 #[.slice UA u.ps.length uc, .bool u.k.neg, .slice UB u.k.mag.length ud] := by rw [hW]; exact (by repeat (first | with_reducible assumption | with_reducible exact Box.new _ _ _ | (with_reducible refine Box.new_at _ _ _ ?_; (simp only [wsz]; done)) | with_reducible refine Box.drewN ?_ _ | with_reducible refine Box.drew ?_ | with_reducible refine Box.alloc ?_ _ | with_reducible apply Box.drewN | with_reducible apply Box.drew | with_reducible apply Box.alloc | with_reducible refine Box.set_ ?_ _ _ | (with_reducible refine Box.far ?_ ?_ _; rotate_left; (simp only [ne_eq]; omega)) | (with_reducible refine Box.ext ?_ (by with_reducible assumption)) | (refine Box.new_at _ _ _ ?_; simp only [wsz]; done)))
  have b6 : Box W (w.heap.size + 1 + 1) 27 #[.slice none 0 0, .bool false, .slice none 0 0] := by rw [hW]; exact (by repeat (first | with_reducible assumption | with_reducible exact Box.new _ _ _ | (with_reducible refine Box.new_at _ _ _ ?_; (simp only [wsz]; done)) | with_reducible refine Box.drewN ?_ _ | with_reducible refine Box.drew ?_ | with_reducible refine Box.alloc ?_ _ | with_reducible apply Box.drewN | with_reducible apply Box.drew | with_reducible apply Box.alloc | with_reducible refine Box.set_ ?_ _ _ | (with_reducible refine Box.far ?_ ?_ _; rotate_left; (simp only [ne_eq]; omega)) | (with_reducible refine Box.ext ?_ (by with_reducible assumption)) | (refine Box.new_at _ _ _ ?_; simp only [wsz]; done)))
  have hE : Ext w W := by rw [hW]; exact (by repeat (first | with_reducible assumption | with_reducible exact Ext.refl _ | with_reducible refine Ext.drewN ?_ _ | with_reducible refine Ext.drew ?_ | with_reducible refine Ext.alloc ?_ _ | (with_reducible refine Ext.setCell ?_ ?_ _; rotate_left; (first | exact Nat.le_refl _ | (dsimp only; omega) | (simp only [wsz]; omega))) | (with_reducible refine Ext.trans ?_ (by with_reducible assumption))))
  clear hW
  have b3r := b3.rules
  have b5r := b5.rules
  have b3l := b3.lt
  have b5l := b5.lt
  have b6l := b6.lt
  refine wp_region_seq 9 [(0, true), (1, true), (3, true), (4, true), (6, true), (2, false), (5, false), (7, false), (8, false), (9, false)] rfl (by kernel_rfl) (by intro _ _ d _ _ h; cases d <;> exact h) ?_
  (repeat (refine sq_take (v := ?_) rfl rfl ?_ ?_; rotate_left; (intro w' hx'; have hc' := hx'.cells.1; (try simp only [wcd] at hc'); go_simp; (first | done | with_reducible rfl)); (try simp only [Act.put, List.setIfInBounds_toArray, List.set_cons_zero, List.set_cons_succ])))
  (refine sq_loud rfl rfl fun K hK => ?_; go_simp)
  refine (rwithout5_c (x := x) (htv.ext (hE.trans (by repeat (first | with_reducible assumption | with_reducible exact Ext.refl _ | with_reducible refine Ext.drewN ?_ _ | with_reducible refine Ext.drew ?_ | with_reducible refine Ext.alloc ?_ _ | (with_reducible refine Ext.setCell ?_ ?_ _; rotate_left; (first | exact Nat.le_refl _ | (dsimp only; omega) | (simp only [wsz]; omega))) | (with_reducible refine Ext.trans ?_ (by with_reducible assumption)))))) (by omega) hs).mono ?_
  rintro e w2 ⟨r2, rfl, ht2, hx2⟩
  (refine hK _ _ (by repeat (first | with_reducible assumption | with_reducible exact Ext.refl _ | with_reducible refine Ext.drewN ?_ _ | with_reducible refine Ext.drew ?_ | with_reducible refine Ext.alloc ?_ _ | (with_reducible refine Ext.setCell ?_ ?_ _; rotate_left; (first | exact Nat.le_refl _ | (dsimp only; omega) | (simp only [wsz]; omega))) | (with_reducible refine Ext.trans ?_ (by with_reducible assumption)))) ?_; clear hK K; (try simp only [Act.put, List.setIfInBounds_toArray, List.set_cons_zero, List.set_cons_succ]))
  (repeat (refine sq_take (v := ?_) rfl rfl ?_ ?_; rotate_left; (intro w' hx'; have hc' := hx'.cells.1; (try simp only [wcd] at hc'); go_simp; (first | done | with_reducible rfl)); (try simp only [Act.put, List.setIfInBounds_toArray, List.set_cons_zero, List.set_cons_succ])))
  (refine sq_loud rfl rfl fun K hK => ?_; go_simp)
  refine (rcoef5_c (x := x) (htv.ext (hE.trans (by repeat (first | with_reducible assumption | with_reducible exact Ext.refl _ | with_reducible refine Ext.drewN ?_ _ | with_reducible refine Ext.drew ?_ | with_reducible refine Ext.alloc ?_ _ | (with_reducible refine Ext.setCell ?_ ?_ _; rotate_left; (first | exact Nat.le_refl _ | (dsimp only; omega) | (simp only [wsz]; omega))) | (with_reducible refine Ext.trans ?_ (by with_reducible assumption)))))) (by omega) hs).mono ?_
  rintro e w3 ⟨r3, rfl, hz3, hx3⟩
  (refine hK _ _ (by repeat (first | with_reducible assumption | with_reducible exact Ext.refl _ | with_reducible refine Ext.drewN ?_ _ | with_reducible refine Ext.drew ?_ | with_reducible refine Ext.alloc ?_ _ | (with_reducible refine Ext.setCell ?_ ?_ _; rotate_left; (first | exact Nat.le_refl _ | (dsimp only; omega) | (simp only [wsz]; omega))) | (with_reducible refine Ext.trans ?_ (by with_reducible assumption)))) ?_; clear hK K; (try simp only [Act.put, List.setIfInBounds_toArray, List.set_cons_zero, List.set_cons_succ]))
  (repeat (refine sq_take (v := ?_) rfl rfl ?_ ?_; rotate_left; (intro w' hx'; have hc' := hx'.cells.1; (try simp only [wcd] at hc'); go_simp; (first | done | with_reducible rfl)); (try simp only [Act.put, List.setIfInBounds_toArray, List.set_cons_zero, List.set_cons_succ])))
  (refine sq_loud rfl rfl fun K hK => ?_; go_simp)
  refine (rscale5_c (N := N + N) hz3 (huv.ext (hE.trans (by repeat (first | with_reducible assumption | with_reducible exact Ext.refl _ | with_reducible refine Ext.drewN ?_ _ | with_reducible refine Ext.drew ?_ | with_reducible refine Ext.alloc ?_ _ | (with_reducible refine Ext.setCell ?_ ?_ _; rotate_left; (first | exact Nat.le_refl _ | (dsimp only; omega) | (simp only [wsz]; omega))) | (with_reducible refine Ext.trans ?_ (by with_reducible assumption)))))) (by omega) (by rw [cz_len]; exact hcl) (su.mono (by omega))).mono ?_
  rintro e w4 ⟨r4, rfl, ht4, hx4⟩
  (refine hK _ _ (by repeat (first | with_reducible assumption | with_reducible exact Ext.refl _ | with_reducible refine Ext.drewN ?_ _ | with_reducible refine Ext.drew ?_ | with_reducible refine Ext.alloc ?_ _ | (with_reducible refine Ext.setCell ?_ ?_ _; rotate_left; (first | exact Nat.le_refl _ | (dsimp only; omega) | (simp only [wsz]; omega))) | (with_reducible refine Ext.trans ?_ (by with_reducible assumption)))) ?_; clear hK K; (try simp only [Act.put, List.setIfInBounds_toArray, List.set_cons_zero, List.set_cons_succ]))
  (refine sq_loud rfl rfl fun K hK => ?_; go_simp)
  refine (radd5_c (N := N + (N + N + N)) ((ht2.ext hx3).ext hx4) ht4 (by omega) (hsn.mono (by omega)) (ct_sz (by rw [sc_len, vl_len]; exact su.1) (fun p hp => ?_) ?_)).mono ?_
  · obtain ⟨q, hq, rfl⟩ := List.mem_map.1 hp
    have h3 := zl_vl lu.1 su.2.1 q hq
    have := zl_mul (cz (cf (vl t.ps) x)).v q.2
    rw [cz_v] at this
    show zl ((cz (cf (vl t.ps) x)).v * q.2) ≤ _
    rw [cz_v]
    omega
  · have := zl_mul (cf (vl t.ps) x) u.k.v
    have := zl_of lu.2
    have := su.2.2
    rw [cz_v]
    omega
  rw [rput_eq]
  rintro e w5 ⟨r5, rfl, ⟨A4, c4, B4, d4, rfl, h41, h42⟩, hx5⟩
  have b6' := (((b6.drew.ext hx2).ext hx3).ext hx4).ext hx5
  have b6r := b6'.rules
  have b6l' := b6'.lt
  have hs2 := hx2.size; have hs3 := hx3.size; have hs4 := hx4.size; have hs5 := hx5.size
  simp only [wsz] at hs2
  clear b3r b5r
  (refine hK _ _ (by repeat (first | with_reducible assumption | with_reducible exact Ext.refl _ | with_reducible refine Ext.drewN ?_ _ | with_reducible refine Ext.drew ?_ | with_reducible refine Ext.alloc ?_ _ | (with_reducible refine Ext.setCell ?_ ?_ _; rotate_left; (first | exact Nat.le_refl _ | (dsimp only; omega) | (simp only [wsz]; omega))) | (with_reducible refine Ext.trans ?_ (by with_reducible assumption)))) ?_; clear hK K; (try simp only [Act.put, List.setIfInBounds_toArray, List.set_cons_zero, List.set_cons_succ]))
  (refine sq_last rfl rfl fun K hK => ?_; go_simp; refine hK _ _ ?_; clear hK K)
  have hE4 : Ext w w5 := hE.trans (((((Ext.refl W).drew.trans hx2).trans hx3).trans hx4).trans hx5)
  go_wp2_with fail
  (refine bodyPost_ret (v := ?_) ?_ rfl ?_; rotate_left; (simp only [results, Try.results40]; go_simp; (first | done | with_reducible rfl)))
  refine ⟨_, rfl, ⟨_, _, _, _, rfl, (Pl.keep (h41.widen (Y := fun c => w.heap.size + 1 + 1 < c) fun c hc _ => by omega) (by repeat (first | with_reducible exact Kp.refl _ | with_reducible refine Kp.drewN ?_ _ | with_reducible refine Kp.drew ?_ | with_reducible refine Kp.alloc ?_ _ | (with_reducible refine Kp.setCell ?_ ?_ _; rotate_left; (first | (dsimp only; omega) | (simp only [wsz]; omega))) | (with_reducible exact Kp.of_ext (by with_reducible assumption)) | (with_reducible refine Kp.ext ?_ (by with_reducible assumption))))).widen fun c hc _ => by omega, (Nl.keep (h42.widen (Y := fun c => w.heap.size + 1 + 1 < c) fun c hc _ => by omega) (by repeat (first | with_reducible exact Kp.refl _ | with_reducible refine Kp.drewN ?_ _ | with_reducible refine Kp.drew ?_ | with_reducible refine Kp.alloc ?_ _ | (with_reducible refine Kp.setCell ?_ ?_ _; rotate_left; (first | (dsimp only; omega) | (simp only [wsz]; omega))) | (with_reducible exact Kp.of_ext (by with_reducible assumption)) | (with_reducible refine Kp.ext ?_ (by with_reducible assumption))))).widen fun c hc _ => by omega⟩, ?_⟩
  exact ((hE4.setCell (by simp only; omega) _).setCell (by simp only; omega) _).setCell (by simp only; omega) _

end Go.Proofs.Ytbblgjjomgipfaa
