/- census: Count of a set. No conditions. -/
import Derived.Test.YtbblgjjomgipfaaGreatCnt0
namespace Go.Proofs.YtbblgjjomgipfaaGreat
open Go.RowKit Go.Shelf

set_option maxRecDepth 100000 in
set_option maxHeartbeats 3200000 in
theorem count_c {g N L : Nat} {s : Ps} {w : World} {X Y Y' : Nat → Prop} {u v : Value} {lo hi : Z} (hs : SetV w X g s) (hsk : s.ok N) (hN : N ≤ L) (hL : L ≤ 274877906940) (hlo : Zi w Y u lo) (hhi : Zi w Y' v hi) (hLl : lo.mag.length ≤ L) (hLh : hi.mag.length ≤ L) :
    Calls Tryz.prog 12 #[.pointer (some ⟨g, 0, none⟩), u, v] w fun e w' => ∃ r, e = .returned (.tuple #[r, .int .i64 0]) ∧ Zi w' (w.heap.size ≤ ·) r (cz (cntV s lo hi.v)) ∧ Ext w w' := by
  have hcl := hsk.len
  have hzh : zl (hi.v + 1) ≤ L + 1 := by
    have h1 := zl_of hhi.lb
    rcases Nat.eq_zero_or_pos L with rfl | h
    · have h2 : hi.v = 0 := by
        have h3 : hi.mag = [] := List.eq_nil_of_length_eq_zero (by omega)
        obtain ⟨hn, hm⟩ := hi
        cases h3
        cases hn <;> rfl
      rw [h2]
      decide
    · exact zl_add (Nat.le_trans h1 hLh) (Nat.le_trans (show zl 1 ≤ 1 by decide) (by omega))
  have HZH := Lib.hid hzh
  have hle := fun (U : World) (hU : Ext w U) => less_c (hhi.ext hU) (hlo.ext hU)
  have hpl := fun (U : World) (hU : Ext w U) => plus_c (hhi.ext hU) (by omega) 1 (by omega) (by omega)
  have hst := fun (U : World) (hU : Ext w U) (r : Value) (Q : Nat → Prop) (h : Zi U Q r (cz (hi.v + 1))) => stops_c (hs.ext hU) hsk (by omega) (hlo.ext hU) h
  have hpt := fun (U : World) (hU : Ext w U) (r q : Value) (Q Q' : Nat → Prop) (a n : Z) (ha : Zi U Q r a) (hn : Zi U Q' q n) => part_c (hs.ext hU) hsk ha hn
  have hlb := hlo.lb
  obtain ⟨A, c, rfl, hlo⟩ := hlo
  obtain ⟨B, d, rfl, hhi⟩ := hhi
  have p0s := hsk.per0
  have hris : ¬ hi.v < lo.v → (zv (stps s lo (cz (hi.v + 1)))).Pairwise (· ≤ ·) := fun h => stps_ris hsk (by rw [cz_v]; omega)
  have hzl : ∀ z ∈ stps s lo (cz (hi.v + 1)), z.mag.length ≤ L + 1 ∧ zl z.v ≤ L + 1 := stps_zl hsk (by omega) (by omega) hlb (by rw [cz_len]; exact hzh) (lb_lim _)
  have hcV : cntV s lo hi.v = if hi.v < lo.v then 0 else sumK s (stps s lo (cz (hi.v + 1))) ((stps s lo (cz (hi.v + 1))).length - 1) := rfl
  have hl0 : 0 < (stps s lo (cz (hi.v + 1))).length := by simp [stps]
  obtain ⟨vv, hvv⟩ : ∃ vv, vv = cntV s lo hi.v := ⟨_, rfl⟩
  rw [← hvv] at hcV ⊢
  have HV := Lib.hid hcV
  obtain ⟨l, hlE⟩ : ∃ l, l = stps s lo (cz (hi.v + 1)) := ⟨_, rfl⟩
  simp only [← hlE] at hris hzl hl0 hst HV
  have HRis := Lib.hid hris
  have HZL := Lib.hid hzl
  clear hvv hcV hlE hzh hris hzl
  go_enter Tryz.func12, Tryz.ntmps12
  go_wp2_with fail
  obtain ⟨z0, hz0⟩ : ∃ z0, z0 = cz 0 := ⟨_, rfl⟩
  have hnum := fun (V : World) => cnum_c 0 (by omega) (by omega) V
  rw [← hz0] at hnum
  have HZ0 := Lib.hid hz0
  clear hz0
  refine (hnum _).mono ?_
  rintro e w1 ⟨_, rfl, ⟨A1, c1, rfl, hr1⟩, hx1⟩
  have b4 := Box.ext (g := w.heap.size) (by repeat (first | with_reducible assumption | with_reducible exact Box.new _ _ _ | (with_reducible refine Box.new_at _ _ _ ?_; (simp only [wsz]; done)) | with_reducible refine Box.drewN ?_ _ | with_reducible refine Box.drew ?_ | with_reducible refine Box.alloc ?_ _ | with_reducible apply Box.drewN | with_reducible apply Box.drew | with_reducible apply Box.alloc | with_reducible refine Box.set_ ?_ _ _ | (with_reducible refine Box.far ?_ ?_ _; rotate_left; (simp only [ne_eq]; omega)) | (with_reducible refine Box.ext ?_ (by with_reducible assumption)) | (refine Box.new_at _ _ _ ?_; simp only [wsz]; done))) hx1
  have b5 := Box.ext (g := w.heap.size + 1) (by repeat (first | with_reducible assumption | with_reducible exact Box.new _ _ _ | (with_reducible refine Box.new_at _ _ _ ?_; (simp only [wsz]; done)) | with_reducible refine Box.drewN ?_ _ | with_reducible refine Box.drew ?_ | with_reducible refine Box.alloc ?_ _ | with_reducible apply Box.drewN | with_reducible apply Box.drew | with_reducible apply Box.alloc | with_reducible refine Box.set_ ?_ _ _ | (with_reducible refine Box.far ?_ ?_ _; rotate_left; (simp only [ne_eq]; omega)) | (with_reducible refine Box.ext ?_ (by with_reducible assumption)) | (refine Box.new_at _ _ _ ?_; simp only [wsz]; done))) hx1
  have b6 := Box.ext (g := w.heap.size + 1 + 1) (by repeat (first | with_reducible assumption | with_reducible exact Box.new _ _ _ | (with_reducible refine Box.new_at _ _ _ ?_; (simp only [wsz]; done)) | with_reducible refine Box.drewN ?_ _ | with_reducible refine Box.drew ?_ | with_reducible refine Box.alloc ?_ _ | with_reducible apply Box.drewN | with_reducible apply Box.drew | with_reducible apply Box.alloc | with_reducible refine Box.set_ ?_ _ _ | (with_reducible refine Box.far ?_ ?_ _; rotate_left; (simp only [ne_eq]; omega)) | (with_reducible refine Box.ext ?_ (by with_reducible assumption)) | (refine Box.new_at _ _ _ ?_; simp only [wsz]; done))) hx1
  have hE1 : Ext w w1 := (by repeat (first | with_reducible assumption | with_reducible exact Ext.refl _ | with_reducible refine Ext.drewN ?_ _ | with_reducible refine Ext.drew ?_ | with_reducible refine Ext.alloc ?_ _ | (with_reducible refine Ext.setCell ?_ ?_ _; rotate_left; (first | exact Nat.le_refl _ | (dsimp only; omega) | (simp only [wsz]; omega))) | (with_reducible refine Ext.trans ?_ (by with_reducible assumption))))
  have hs1 := hx1.size
  simp only [wsz] at hs1
  go_upto_region 4 with fail
  refine wp_named fun W hW => ?_
  have b4' : Box W w.heap.size 25 #[.bool lo.neg, .slice A lo.mag.length c] := by rw [hW]; exact (by repeat (first | with_reducible assumption | with_reducible exact Box.new _ _ _ | (with_reducible refine Box.new_at _ _ _ ?_; (simp only [wsz]; done)) | with_reducible refine Box.drewN ?_ _ | with_reducible refine Box.drew ?_ | with_reducible refine Box.alloc ?_ _ | with_reducible apply Box.drewN | with_reducible apply Box.drew | with_reducible apply Box.alloc | with_reducible refine Box.set_ ?_ _ _ | (with_reducible refine Box.far ?_ ?_ _; rotate_left; (simp only [ne_eq]; omega)) | (with_reducible refine Box.ext ?_ (by with_reducible assumption)) | (refine Box.new_at _ _ _ ?_; simp only [wsz]; done)))
  have b5' : Box W (w.heap.size + 1) 25 #[.bool hi.neg, .slice B hi.mag.length d] := by rw [hW]; exact (by repeat (first | with_reducible assumption | with_reducible exact Box.new _ _ _ | (with_reducible refine Box.new_at _ _ _ ?_; (simp only [wsz]; done)) | with_reducible refine Box.drewN ?_ _ | with_reducible refine Box.drew ?_ | with_reducible refine Box.alloc ?_ _ | with_reducible apply Box.drewN | with_reducible apply Box.drew | with_reducible apply Box.alloc | with_reducible refine Box.set_ ?_ _ _ | (with_reducible refine Box.far ?_ ?_ _; rotate_left; (simp only [ne_eq]; omega)) | (with_reducible refine Box.ext ?_ (by with_reducible assumption)) | (refine Box.new_at _ _ _ ?_; simp only [wsz]; done)))
  have b6' : Box W (w.heap.size + 1 + 1) 25 #[.bool false, .slice none 0 0] := by rw [hW]; exact (by repeat (first | with_reducible assumption | with_reducible exact Box.new _ _ _ | (with_reducible refine Box.new_at _ _ _ ?_; (simp only [wsz]; done)) | with_reducible refine Box.drewN ?_ _ | with_reducible refine Box.drew ?_ | with_reducible refine Box.alloc ?_ _ | with_reducible apply Box.drewN | with_reducible apply Box.drew | with_reducible apply Box.alloc | with_reducible refine Box.set_ ?_ _ _ | (with_reducible refine Box.far ?_ ?_ _; rotate_left; (simp only [ne_eq]; omega)) | (with_reducible refine Box.ext ?_ (by with_reducible assumption)) | (refine Box.new_at _ _ _ ?_; simp only [wsz]; done)))
  have b8' : Box W w1.heap.size 25 #[.bool z0.neg, .slice A1 z0.mag.length c1] := by rw [hW]; exact (by repeat (first | with_reducible assumption | with_reducible exact Box.new _ _ _ | (with_reducible refine Box.new_at _ _ _ ?_; (simp only [wsz]; done)) | with_reducible refine Box.drewN ?_ _ | with_reducible refine Box.drew ?_ | with_reducible refine Box.alloc ?_ _ | with_reducible apply Box.drewN | with_reducible apply Box.drew | with_reducible apply Box.alloc | with_reducible refine Box.set_ ?_ _ _ | (with_reducible refine Box.far ?_ ?_ _; rotate_left; (simp only [ne_eq]; omega)) | (with_reducible refine Box.ext ?_ (by with_reducible assumption)) | (refine Box.new_at _ _ _ ?_; simp only [wsz]; done)))
  have hE : Ext w W := by rw [hW]; exact (by repeat (first | with_reducible assumption | with_reducible exact Ext.refl _ | with_reducible refine Ext.drewN ?_ _ | with_reducible refine Ext.drew ?_ | with_reducible refine Ext.alloc ?_ _ | (with_reducible refine Ext.setCell ?_ ?_ _; rotate_left; (first | exact Nat.le_refl _ | (dsimp only; omega) | (simp only [wsz]; omega))) | (with_reducible refine Ext.trans ?_ (by with_reducible assumption))))
  have hr1' : Nl W (fun b => w.heap.size + 1 + 1 < b ∧ b ≠ w1.heap.size) A1 c1 z0.mag := by
    rw [hW]
    exact ((hr1.widen (Y := fun b => w.heap.size + 1 + 1 < b ∧ b ≠ w1.heap.size) fun b hb hl => ⟨by simp only [wsz] at hb; omega, by omega⟩).keep (by repeat (first | with_reducible exact Kp.refl _ | with_reducible refine Kp.drewN ?_ _ | with_reducible refine Kp.drew ?_ | with_reducible refine Kp.alloc ?_ _ | (with_reducible refine Kp.setCell ?_ ?_ _; rotate_left; (first | (dsimp only; omega) | (simp only [wsz]; omega))) | (with_reducible exact Kp.of_ext (by with_reducible assumption)) | (with_reducible refine Kp.ext ?_ (by with_reducible assumption)))))
  have hWs : W.heap.size = w1.heap.size + 1 := by rw [hW]; simp only [wsz]
  clear hW b4 b5 b6 hr1
  have b4r := b4'.rules; have b4l := b4'.lt
  have b5r := b5'.rules; have b5l := b5'.lt
  have b6r := b6'.rules; have b6l := b6'.lt
  have b8r := b8'.rules; have b8l := b8'.lt
  clear hnum hE1 hx1
  have HLE := Lib.hid hle
  clear b6r b8r
  go_wp2_with fail
  refine (HLE.out _ (hE.trans (by repeat (first | with_reducible assumption | with_reducible exact Ext.refl _ | with_reducible refine Ext.drewN ?_ _ | with_reducible refine Ext.drew ?_ | with_reducible refine Ext.alloc ?_ _ | (with_reducible refine Ext.setCell ?_ ?_ _; rotate_left; (first | exact Nat.le_refl _ | (dsimp only; omega) | (simp only [wsz]; omega))) | (with_reducible refine Ext.trans ?_ (by with_reducible assumption)))))).mono ?_
  rintro e w2 ⟨rfl, hx2⟩
  have hxW2 : Ext W w2 := (by repeat (first | with_reducible assumption | with_reducible exact Ext.refl _ | with_reducible refine Ext.drewN ?_ _ | with_reducible refine Ext.drew ?_ | with_reducible refine Ext.alloc ?_ _ | (with_reducible refine Ext.setCell ?_ ?_ _; rotate_left; (first | exact Nat.le_refl _ | (dsimp only; omega) | (simp only [wsz]; omega))) | (with_reducible refine Ext.trans ?_ (by with_reducible assumption))))
  have hE2 := hE.trans hxW2
  have c4 := b4'.ext hxW2; have c5 := b5'.ext hxW2; have c6 := b6'.ext hxW2; have c8 := b8'.ext hxW2
  have hr2 := hr1'.ext hxW2
  have hs2 := hxW2.size
  clear b4r b5r b4l b5l b6l b8l
  by_cases hlt : hi.v < lo.v
  · have hcl' := decide_eq_true hlt
    have c6r := c6.rules; have c6l := c6.lt
    have c8r := c8.rules; have c8l := c8.lt
    have hV : cz vv = z0 := by rw [HV.out, if_pos hlt, HZ0.out]
    go_wp2_with fail
    (refine bodyPost_ret (v := ?_) ?_ rfl ?_; rotate_left; (simp only [results, Tryz.results12]; go_simp; (first | done | with_reducible rfl)))
    refine ⟨_, rfl, ?_, ((hE2.setCell (by dsimp only; omega) _).setCell (by dsimp only; omega) _)⟩
    rw [hV]
    exact ⟨A1, c1, rfl, (hr2.keep (by repeat (first | with_reducible exact Kp.refl _ | with_reducible refine Kp.drewN ?_ _ | with_reducible refine Kp.drew ?_ | with_reducible refine Kp.alloc ?_ _ | (with_reducible refine Kp.setCell ?_ ?_ _; rotate_left; (first | (dsimp only; omega) | (simp only [wsz]; omega))) | (with_reducible exact Kp.of_ext (by with_reducible assumption)) | (with_reducible refine Kp.ext ?_ (by with_reducible assumption))))).widen (fun b hb _ => by first | omega | (dsimp only at hb ⊢; omega) | (dsimp only at hb; omega) | (simp only [wsz] at hb ⊢; omega) | (simp only [wsz] at hb; omega))⟩
  · have hcl' := decide_eq_false hlt
    have c5r := c5.rules; have c5l := c5.lt
    have c4r := c4.rules; have c4l := c4.lt
    have hlt' : ¬ hi.v < lo.v := by omega
    have hris := HRis.out (by omega)
    have hV : vv = sumK s l (l.length - 1) := by rw [HV.out, if_neg (by omega)]
    have HVV := Lib.hid hV
    clear HRis
    have HRis := Lib.hid hris
    clear HV hris hV
    go_upto_region 6 with fail
    refine wp_region_seq 5 [(0, true), (1, true), (2, true), (3, false), (4, false), (5, false)] rfl (by kernel_rfl) (by intro _ _ d _ _ h; cases d <;> exact h) ?_
    (repeat (first | (refine sq_take (v := ?_) rfl rfl ?_ ?_; rotate_left; (intro w' hx'; have hc' := hx'.cells.1; (try simp only [wcd] at hc'); go_simp; (first | done | with_reducible rfl)); (try simp only [Act.put, List.setIfInBounds_toArray, List.set_cons_zero, List.set_cons_succ])) | (refine sq_skip rfl rfl ?_; (try simp only [Act.put, List.setIfInBounds_toArray, List.set_cons_zero, List.set_cons_succ])) | (refine sq_noloud rfl rfl ?_; (try simp only [Act.put, List.setIfInBounds_toArray, List.set_cons_zero, List.set_cons_succ])) | (refine sq_takeg (v := ?_) rfl rfl ?_ ?_; rotate_left; (intro w' hx'; have hc' := hx'.cells.1; (try simp only [wcd] at hc'); go_simp; (first | done | with_reducible rfl)); (try simp only [Act.put, List.setIfInBounds_toArray, List.set_cons_zero, List.set_cons_succ]))))
    (refine sq_loudg rfl rfl fun K hK => ?_; go_simp)
    refine (hpl _ (hE2.trans (by repeat (first | with_reducible assumption | with_reducible exact Ext.refl _ | with_reducible refine Ext.drewN ?_ _ | with_reducible refine Ext.drew ?_ | with_reducible refine Ext.alloc ?_ _ | (with_reducible refine Ext.setCell ?_ ?_ _; rotate_left; (first | exact Nat.le_refl _ | (dsimp only; omega) | (simp only [wsz]; omega))) | (with_reducible refine Ext.trans ?_ (by with_reducible assumption)))))).mono ?_
    rintro e w3 ⟨r3, rfl, hr3, hx3⟩
    (refine hK _ _ (by repeat (first | with_reducible assumption | with_reducible exact Ext.refl _ | with_reducible refine Ext.drewN ?_ _ | with_reducible refine Ext.drew ?_ | with_reducible refine Ext.alloc ?_ _ | (with_reducible refine Ext.setCell ?_ ?_ _; rotate_left; (first | exact Nat.le_refl _ | (dsimp only; omega) | (simp only [wsz]; omega))) | (with_reducible refine Ext.trans ?_ (by with_reducible assumption)))) ?_; clear hK K; (try simp only [Act.put, List.setIfInBounds_toArray, List.set_cons_zero, List.set_cons_succ]))
    (repeat (first | (refine sq_take (v := ?_) rfl rfl ?_ ?_; rotate_left; (intro w' hx'; have hc' := hx'.cells.1; (try simp only [wcd] at hc'); go_simp; (first | done | with_reducible rfl)); (try simp only [Act.put, List.setIfInBounds_toArray, List.set_cons_zero, List.set_cons_succ])) | (refine sq_skip rfl rfl ?_; (try simp only [Act.put, List.setIfInBounds_toArray, List.set_cons_zero, List.set_cons_succ])) | (refine sq_noloud rfl rfl ?_; (try simp only [Act.put, List.setIfInBounds_toArray, List.set_cons_zero, List.set_cons_succ])) | (refine sq_takeg (v := ?_) rfl rfl ?_ ?_; rotate_left; (intro w' hx'; have hc' := hx'.cells.1; (try simp only [wcd] at hc'); go_simp; (first | done | with_reducible rfl)); (try simp only [Act.put, List.setIfInBounds_toArray, List.set_cons_zero, List.set_cons_succ]))))
    (refine sq_loudg rfl rfl fun K hK => ?_; go_simp)
    have hx23 : Ext w2 w3 := (by repeat (first | with_reducible assumption | with_reducible exact Ext.refl _ | with_reducible refine Ext.drewN ?_ _ | with_reducible refine Ext.drew ?_ | with_reducible refine Ext.alloc ?_ _ | (with_reducible refine Ext.setCell ?_ ?_ _; rotate_left; (first | exact Nat.le_refl _ | (dsimp only; omega) | (simp only [wsz]; omega))) | (with_reducible refine Ext.trans ?_ (by with_reducible assumption))))
    refine (hst _ (hE2.trans hx23) _ _ hr3).mono ?_
    rintro e w4 ⟨v4, rfl, hO4, hx4⟩
    have hx24 := hx23.trans hx4
    (refine hK _ _ (by repeat (first | with_reducible assumption | with_reducible exact Ext.refl _ | with_reducible refine Ext.drewN ?_ _ | with_reducible refine Ext.drew ?_ | with_reducible refine Ext.alloc ?_ _ | (with_reducible refine Ext.setCell ?_ ?_ _; rotate_left; (first | exact Nat.le_refl _ | (dsimp only; omega) | (simp only [wsz]; omega))) | (with_reducible refine Ext.trans ?_ (by with_reducible assumption)))) ?_; clear hK K; (try simp only [Act.put, List.setIfInBounds_toArray, List.set_cons_zero, List.set_cons_succ]))
    (repeat (first | (refine sq_take (v := ?_) rfl rfl ?_ ?_; rotate_left; (intro w' hx'; have hc' := hx'.cells.1; (try simp only [wcd] at hc'); go_simp; (first | done | with_reducible rfl)); (try simp only [Act.put, List.setIfInBounds_toArray, List.set_cons_zero, List.set_cons_succ])) | (refine sq_skip rfl rfl ?_; (try simp only [Act.put, List.setIfInBounds_toArray, List.set_cons_zero, List.set_cons_succ])) | (refine sq_noloud rfl rfl ?_; (try simp only [Act.put, List.setIfInBounds_toArray, List.set_cons_zero, List.set_cons_succ])) | (refine sq_takeg (v := ?_) rfl rfl ?_ ?_; rotate_left; (intro w' hx'; have hc' := hx'.cells.1; (try simp only [wcd] at hc'); go_simp; (first | done | with_reducible rfl)); (try simp only [Act.put, List.setIfInBounds_toArray, List.set_cons_zero, List.set_cons_succ]))))
    (refine sq_last rfl rfl fun K hK => ?_; go_simp; refine hK _ _ ?_; clear hK K)
    have hs23 := hx23.size; have hs24 := hx24.size
    have d6 := c6.ext hx24; have d8 := c8.ext hx24
    have hO5 := Own.offz hO4 d8 (by simp)
    obtain ⟨A4, c4', rfl, hZ4⟩ := Own.sl hO5 (by omega) (X := fun b => b ≠ w1.heap.size) (fun b hb => by rcases hb with hb | hb; exact hb.2; omega)
    have hr4 := hr2.ext hx24
    have hE4 := hE2.trans hx24
    have hll := hZ4.1; have hlm := hZ4.2.1
    simp only [maxLen] at hlm
    have lw := w64n (n := l.length - 1) (by omega)
    go_wp2_with fail
    have d6k := fun (U : World) (hU : Kp (fun b => b ≠ w1.heap.size) w4 U) => d6.keep (X := fun b => b ≠ w1.heap.size) (by omega) hU
    have hw4 := hE4.size
    clear lw c4r c5r c4l c5l HLE hpl hst
    go_loopw [27] (fun iv wr => ∃ k : Nat, k ≤ l.length - 1 ∧ iv = .int .i64 k ∧ (∃ z A c, Hid (z = cz (sumK s l k)) ∧ Box wr w1.heap.size 25 #[.bool z.neg, .slice A z.mag.length c] ∧ Nl wr (fun b => w.heap.size + 1 + 1 < b ∧ b ≠ w1.heap.size) A c z.mag) ∧ Kp (fun b => b ≠ w1.heap.size) w4 wr ∧ Ext w wr) (fun iv _ => l.length - 1 - (intOf iv).toNat)
    case atStart => exact ⟨0, Nat.zero_le _, rfl, ⟨z0, A1, c1, Lib.hid (by rw [HZ0.out]; rfl), d8, hr4⟩, Kp.refl _, hE4⟩
    case round =>
      obtain ⟨k, hk, rfl, ⟨z, Az, cz', HZK, hB, hNz⟩, hkp, hxr⟩ := hrel
      have e6 := d6k _ hkp
      have hBr := hB.rules; have hBl := hB.lt
      by_cases hlt : k < l.length - 1
      · have hZr := Sl.keep hZ4 hkp
        obtain ⟨b, o, B1, d1, rfl, hX, q0, q1, hN1⟩ := Zs.at_ hZr (k := k) (by omega)
        obtain ⟨j, hj⟩ : ∃ j, j = k + 1 := ⟨_, rfl⟩
        have iw : IntKind.i64.wrap ((k : Int) + 1) = (j : Int) := by rw [w64 (n := (k : Int) + 1) ⟨by omega, by omega⟩]; omega
        have kl2 : (j : Int) < (l.length : Int) := by omega
        obtain ⟨b', o', B2, d2, hA, _, p0, p1, hN2⟩ := Zs.at_ hZr (k := j) (by omega)
        have HJ := Lib.hid hj
        clear hj
        injection hA with hA
        injection hA with hb ho
        subst hb; subst ho
        have hbw := World.block_lt_of_cell? _ _ q0
        have kl : (k : Int) < (l.length : Int) - 1 := by omega
        have kl1 : (k : Int) < (l.length : Int) := by omega
        obtain ⟨n, hn⟩ : ∃ n, n = (zth l j).v - (zth l k).v := ⟨_, rfl⟩
        have hRis := HRis.out
        have hn0 : 0 ≤ n := by
          have := ris_le hRis (i := k) (j := j) (by have := HJ.out; omega) (by omega)
          omega
        have hbd := sumK_bd p0s hRis (k := k) (by omega)
        have hzk := HZL.out _ (zth_mem (l := l) (k := k) (by omega))
        have hzj := HZL.out _ (zth_mem (l := l) (k := j) (by omega))
        have hz00 := HZL.out _ (zth_mem (l := l) (k := 0) (by omega))
        have hzn : zl n ≤ L + 2 := by rw [hn]; exact zl_sub (k := L + 1) hzj.2 hzk.2
        have hpv0 := partV_nn s (zth l k).v hn0
        have hpv1 := partV_le s (zth l k).v p0s hn0
        have hzp : zl (partV s (zth l k).v n) ≤ L + 2 := Nat.le_trans (zl_abs (by omega)) hzn
        have hzs : zl (sumK s l k) ≤ L + 2 := Nat.le_trans (zl_abs (y := (zth l k).v - (zth l 0).v) (by omega)) (zl_sub (k := L + 1) hzk.2 hz00.2)
        have hsum : sumK s l (k + 1) = sumK s l k + partV s (zth l k).v n := by rw [hn, HJ.out]; rfl
        have HSum := Lib.hid hsum
        have Hlt := Lib.hid hlt
        clear hlt
        have hsub := fun (U : World) (hU : Ext wr U) => zsub_c (x := zth l j) (y := zth l k) (⟨_, _, rfl, hN2.ext hU⟩ : Zi U (fun b => b ≠ w1.heap.size) (.agg #[.bool (zth l j).neg, .slice B2 (zth l j).mag.length d2]) (zth l j)) (⟨_, _, rfl, hN1.ext hU⟩ : Zi U (fun b => b ≠ w1.heap.size) (.agg #[.bool (zth l k).neg, .slice B1 (zth l k).mag.length d1]) (zth l k)) (by omega) (by omega)
        rw [← hn] at hsub
        have hpart := fun (U : World) (hU : Ext wr U) (q : Value) (Q : Nat → Prop) (hq : Zi U Q q (cz n)) => hpt U (hxr.trans hU) (.agg #[.bool (zth l k).neg, .slice B1 (zth l k).mag.length d1]) q (fun b => b ≠ w1.heap.size) Q (zth l k) (cz n) (⟨_, _, rfl, hN1.ext hU⟩) hq (by rw [cz_v]; exact hn0) (by omega) (by rw [cz_len]; omega)
        simp only [cz_v] at hpart
        obtain ⟨pv, hpv⟩ : ∃ pv, pv = partV s (zth l k).v n := ⟨_, rfl⟩
        simp only [← hpv] at hpart
        have hadd := fun (U : World) (hU : Ext wr U) (q : Value) (Q : Nat → Prop) (hq : Zi U Q q (cz pv)) => zadd_c (⟨_, _, rfl, hNz.ext hU⟩ : Zi U (fun b => w.heap.size + 1 + 1 < b ∧ b ≠ w1.heap.size) (.agg #[.bool z.neg, .slice Az z.mag.length cz']) z) hq (by rw [HZK.out, cz_len]; omega) (by rw [cz_len, hpv]; omega)
        have hzv : z.v + (cz pv).v = sumK s l (k + 1) := by rw [cz_v, HZK.out, cz_v, hsum, hpv]
        rw [hzv] at hadd
        have HAdd := Lib.hid hadd; have HPart := Lib.hid hpart; have HSub := Lib.hid hsub
        clear hsub hpart hadd hzv hpv hsum hzs hzp hpv0 hpv1 hzn hz00 hzj hzk hbd hn0 hRis hn
        go_upto_region 10 with fail
        refine wp_region_seq 18 [(0, true), (1, true), (2, true), (3, true), (4, true), (5, true), (6, true), (7, true), (8, true), (9, true), (10, true), (11, true), (12, true), (13, true), (14, true), (15, false), (16, false), (17, false), (18, false)] rfl (by kernel_rfl) (by intro _ _ d _ _ h; cases d <;> exact h) ?_
        (repeat (first | (refine sq_take (v := ?_) rfl rfl ?_ ?_; rotate_left; (intro w' hx'; have hc' := hx'.cells.1; (try simp only [wcd] at hc'); go_simp; (first | done | with_reducible rfl)); (try simp only [Act.put, List.setIfInBounds_toArray, List.set_cons_zero, List.set_cons_succ])) | (refine sq_skip rfl rfl ?_; (try simp only [Act.put, List.setIfInBounds_toArray, List.set_cons_zero, List.set_cons_succ])) | (refine sq_noloud rfl rfl ?_; (try simp only [Act.put, List.setIfInBounds_toArray, List.set_cons_zero, List.set_cons_succ])) | (refine sq_takeg (v := ?_) rfl rfl ?_ ?_; rotate_left; (intro w' hx'; have hc' := hx'.cells.1; (try simp only [wcd] at hc'); go_simp; (first | done | with_reducible rfl)); (try simp only [Act.put, List.setIfInBounds_toArray, List.set_cons_zero, List.set_cons_succ]))))
        (refine sq_loudg rfl rfl fun K hK => ?_; go_simp)
        refine (HSub.out _ (by repeat (first | with_reducible assumption | with_reducible exact Ext.refl _ | with_reducible refine Ext.drewN ?_ _ | with_reducible refine Ext.drew ?_ | with_reducible refine Ext.alloc ?_ _ | (with_reducible refine Ext.setCell ?_ ?_ _; rotate_left; (first | exact Nat.le_refl _ | (dsimp only; omega) | (simp only [wsz]; omega))) | (with_reducible refine Ext.trans ?_ (by with_reducible assumption))))).mono ?_
        rintro e w5 ⟨r5, rfl, hr5, hx5⟩
        (refine hK _ _ (by repeat (first | with_reducible assumption | with_reducible exact Ext.refl _ | with_reducible refine Ext.drewN ?_ _ | with_reducible refine Ext.drew ?_ | with_reducible refine Ext.alloc ?_ _ | (with_reducible refine Ext.setCell ?_ ?_ _; rotate_left; (first | exact Nat.le_refl _ | (dsimp only; omega) | (simp only [wsz]; omega))) | (with_reducible refine Ext.trans ?_ (by with_reducible assumption)))) ?_; clear hK K; (try simp only [Act.put, List.setIfInBounds_toArray, List.set_cons_zero, List.set_cons_succ]))
        (repeat (first | (refine sq_take (v := ?_) rfl rfl ?_ ?_; rotate_left; (intro w' hx'; have hc' := hx'.cells.1; (try simp only [wcd] at hc'); go_simp; (first | done | with_reducible rfl)); (try simp only [Act.put, List.setIfInBounds_toArray, List.set_cons_zero, List.set_cons_succ])) | (refine sq_skip rfl rfl ?_; (try simp only [Act.put, List.setIfInBounds_toArray, List.set_cons_zero, List.set_cons_succ])) | (refine sq_noloud rfl rfl ?_; (try simp only [Act.put, List.setIfInBounds_toArray, List.set_cons_zero, List.set_cons_succ])) | (refine sq_takeg (v := ?_) rfl rfl ?_ ?_; rotate_left; (intro w' hx'; have hc' := hx'.cells.1; (try simp only [wcd] at hc'); go_simp; (first | done | with_reducible rfl)); (try simp only [Act.put, List.setIfInBounds_toArray, List.set_cons_zero, List.set_cons_succ]))))
        (refine sq_loudg rfl rfl fun K hK => ?_; go_simp)
        have hxr5 : Ext wr w5 := (by repeat (first | with_reducible assumption | with_reducible exact Ext.refl _ | with_reducible refine Ext.drewN ?_ _ | with_reducible refine Ext.drew ?_ | with_reducible refine Ext.alloc ?_ _ | (with_reducible refine Ext.setCell ?_ ?_ _; rotate_left; (first | exact Nat.le_refl _ | (dsimp only; omega) | (simp only [wsz]; omega))) | (with_reducible refine Ext.trans ?_ (by with_reducible assumption))))
        refine (HPart.out _ hxr5 _ _ hr5).mono ?_
        rintro e w6 ⟨r6, rfl, hr6, hx6⟩
        have hxr6 := hxr5.trans hx6
        (refine hK _ _ (by repeat (first | with_reducible assumption | with_reducible exact Ext.refl _ | with_reducible refine Ext.drewN ?_ _ | with_reducible refine Ext.drew ?_ | with_reducible refine Ext.alloc ?_ _ | (with_reducible refine Ext.setCell ?_ ?_ _; rotate_left; (first | exact Nat.le_refl _ | (dsimp only; omega) | (simp only [wsz]; omega))) | (with_reducible refine Ext.trans ?_ (by with_reducible assumption)))) ?_; clear hK K; (try simp only [Act.put, List.setIfInBounds_toArray, List.set_cons_zero, List.set_cons_succ]))
        (repeat (first | (refine sq_take (v := ?_) rfl rfl ?_ ?_; rotate_left; (intro w' hx'; have hc' := hx'.cells.1; (try simp only [wcd] at hc'); go_simp; (first | done | with_reducible rfl)); (try simp only [Act.put, List.setIfInBounds_toArray, List.set_cons_zero, List.set_cons_succ])) | (refine sq_skip rfl rfl ?_; (try simp only [Act.put, List.setIfInBounds_toArray, List.set_cons_zero, List.set_cons_succ])) | (refine sq_noloud rfl rfl ?_; (try simp only [Act.put, List.setIfInBounds_toArray, List.set_cons_zero, List.set_cons_succ])) | (refine sq_takeg (v := ?_) rfl rfl ?_ ?_; rotate_left; (intro w' hx'; have hc' := hx'.cells.1; (try simp only [wcd] at hc'); go_simp; (first | done | with_reducible rfl)); (try simp only [Act.put, List.setIfInBounds_toArray, List.set_cons_zero, List.set_cons_succ]))))
        (refine sq_loudg rfl rfl fun K hK => ?_; go_simp)
        refine (HAdd.out _ hxr6 _ _ hr6).mono ?_
        rintro e w7 ⟨r7, rfl, hr7, hx7⟩
        have hxr7 := hxr6.trans hx7
        obtain ⟨zz, hzz⟩ : ∃ zz, zz = cz (sumK s l (k + 1)) := ⟨_, rfl⟩
        rw [← hzz] at hr7
        have HZZ := Lib.hid hzz
        clear hzz
        obtain ⟨A7, c7, rfl, hr7⟩ := hr7
        have f8 := hB.ext hxr7
        have f8r := f8.rules; have f8l := f8.lt
        have hs6 := hxr6.size
        clear hBr
        (refine hK _ _ (by repeat (first | with_reducible assumption | with_reducible exact Ext.refl _ | with_reducible refine Ext.drewN ?_ _ | with_reducible refine Ext.drew ?_ | with_reducible refine Ext.alloc ?_ _ | (with_reducible refine Ext.setCell ?_ ?_ _; rotate_left; (first | exact Nat.le_refl _ | (dsimp only; omega) | (simp only [wsz]; omega))) | (with_reducible refine Ext.trans ?_ (by with_reducible assumption)))) ?_; clear hK K; (try simp only [Act.put, List.setIfInBounds_toArray, List.set_cons_zero, List.set_cons_succ]))
        (repeat (first | (refine sq_take (v := ?_) rfl rfl ?_ ?_; rotate_left; (intro w' hx'; have hc' := hx'.cells.1; (try simp only [wcd] at hc'); go_simp; (first | done | with_reducible rfl)); (try simp only [Act.put, List.setIfInBounds_toArray, List.set_cons_zero, List.set_cons_succ])) | (refine sq_skip rfl rfl ?_; (try simp only [Act.put, List.setIfInBounds_toArray, List.set_cons_zero, List.set_cons_succ])) | (refine sq_noloud rfl rfl ?_; (try simp only [Act.put, List.setIfInBounds_toArray, List.set_cons_zero, List.set_cons_succ])) | (refine sq_takeg (v := ?_) rfl rfl ?_ ?_; rotate_left; (intro w' hx'; have hc' := hx'.cells.1; (try simp only [wcd] at hc'); go_simp; (first | done | with_reducible rfl)); (try simp only [Act.put, List.setIfInBounds_toArray, List.set_cons_zero, List.set_cons_succ]))))
        (refine sq_last rfl rfl fun K hK => ?_; go_simp; refine hK _ _ ?_; clear hK K)
        go_wp2_with fail
        go_roundw
        case rel => exact ⟨j, by have := HJ.out; have := Hlt.out; omega, rfl, ⟨zz, A7, c7, Lib.hid (by rw [HZZ.out, HJ.out]), (f8.set_ 0 _).set_ 1 _, (hr7.widen (Y := fun b => w.heap.size + 1 + 1 < b ∧ b ≠ w1.heap.size) fun b hb _ => ⟨by omega, by omega⟩).keep (by repeat (first | with_reducible exact Kp.refl _ | with_reducible refine Kp.drewN ?_ _ | with_reducible refine Kp.drew ?_ | with_reducible refine Kp.alloc ?_ _ | (with_reducible refine Kp.setCell ?_ ?_ _; rotate_left; (first | (dsimp only; omega) | (simp only [wsz]; omega))) | (with_reducible exact Kp.of_ext (by with_reducible assumption)) | (with_reducible refine Kp.ext ?_ (by with_reducible assumption))))⟩, ((hkp.ext hxr7).setCell (fun h => h rfl) _).setCell (fun h => h rfl) _, ((hxr.trans hxr7).setCell (by dsimp only; omega) _).setCell (by dsimp only; omega) _⟩
        case measure => have := Hlt.out; have := HJ.out; simp [intOf]; omega
      · obtain rfl : k = l.length - 1 := by omega
        have hkl : ¬ ((l.length - 1 : Nat) : Int) < (l.length : Int) - 1 := by omega
        have e6r := e6.rules; have e6l := e6.lt
        have hZV : z = cz vv := by rw [HVV.out, HZK.out]
        have HZV := Lib.hid hZV
        clear hZV
        go_wp2_with fail
        (refine bodyPost_ret (v := ?_) ?_ rfl ?_; rotate_left; (simp only [results, Tryz.results12]; go_simp; (first | done | with_reducible rfl)))
        refine ⟨_, rfl, ?_, (hxr.setCell (by dsimp only; omega) _).setCell (by dsimp only; omega) _⟩
        rw [← HZV.out]
        exact ⟨Az, cz', rfl, (hNz.keep (by repeat (first | with_reducible exact Kp.refl _ | with_reducible refine Kp.drewN ?_ _ | with_reducible refine Kp.drew ?_ | with_reducible refine Kp.alloc ?_ _ | (with_reducible refine Kp.setCell ?_ ?_ _; rotate_left; (first | (dsimp only; omega) | (simp only [wsz]; omega))) | (with_reducible exact Kp.of_ext (by with_reducible assumption)) | (with_reducible refine Kp.ext ?_ (by with_reducible assumption))))).widen (fun b hb _ => by first | omega | (dsimp only at hb ⊢; omega) | (dsimp only at hb; omega) | (simp only [wsz] at hb ⊢; omega) | (simp only [wsz] at hb; omega))⟩

set_option maxHeartbeats 400000 in
theorem count_nil_c (u v : Z) (A B : Option Addr) (c d : Nat) (w : World) :
    Calls Tryz.prog 12 #[.pointer none, .agg #[.bool u.neg, .slice A u.mag.length c], .agg #[.bool v.neg, .slice B v.mag.length d]] w fun e w' => e = .returned (.tuple #[.agg #[.bool false, .slice none 0 0], .int .i64 1]) ∧ Ext w w' := by
  go_enter Tryz.func12, Tryz.ntmps12
  go_wp2_with fail
  (refine bodyPost_ret (v := ?_) ?_ rfl ?_; rotate_left; (simp only [results, Tryz.results12]; go_simp; (first | done | with_reducible rfl)))
  exact ⟨rfl, (by repeat (first | with_reducible assumption | with_reducible exact Ext.refl _ | with_reducible refine Ext.drewN ?_ _ | with_reducible refine Ext.drew ?_ | with_reducible refine Ext.alloc ?_ _ | (with_reducible refine Ext.setCell ?_ ?_ _; rotate_left; (first | exact Nat.le_refl _ | (dsimp only; omega) | (simp only [wsz]; omega))) | (with_reducible refine Ext.trans ?_ (by with_reducible assumption))))⟩

end Go.Proofs.YtbblgjjomgipfaaGreat
