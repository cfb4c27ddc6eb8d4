/- riddleref05.Limbs, Vars; riddlelaw05.ints. No conditions. -/
import Derived.Test.YtbblgjjomgipfaaLimbs
namespace Go.Proofs.Ytbblgjjomgipfaa
open Go.RowKit Go.Shelf

set_option maxHeartbeats 1600000 in
theorem rlimbs5_c {v : Value} {t : T} {w : World} {X : Nat → Prop} {N : Nat} (h : Tv w X v t) (hN : N ≤ 1073741824) (hs : t.sz N) :
    Calls Try.prog 48 #[v] w fun e w' => e = .returned (.int .i64 (t.limbs : Nat)) ∧ Ext w w' := by
  have htv := h
  have hsz := nf_sz hs h.lb
  obtain ⟨TA, tc, TB, td, rfl, h1, h2⟩ := h
  obtain ⟨tn, htn⟩ : ∃ tn, tn = t.nf := ⟨_, rfl⟩
  have hnorm := fun W (h : Ext w W) => rnorm5_c (htv.ext h) (N := N) (by omega) hs
  have hlb : t.limbs = mxl (zl tn.k.v) tn.ps := by rw [htn]; rfl
  rw [← htn] at hnorm hsz
  rw [hlb]
  clear hlb htn
  obtain ⟨s1, s2, s3⟩ := hsz
  obtain ⟨R, hR⟩ : ∃ R, R = mxl (zl tn.k.v) tn.ps := ⟨_, rfl⟩
  rw [← hR]
  have HR := Lib.hid hR; clear hR
  go_enter Try.func48, Try.ntmps48
  go_wp2_with fail
  refine (hnorm _ (by repeat (first | with_reducible assumption | with_reducible exact Ext.refl _ | with_reducible refine Ext.drewN ?_ _ | with_reducible refine Ext.drew ?_ | with_reducible refine Ext.alloc ?_ _ | (with_reducible refine Ext.setCell ?_ ?_ _; rotate_left; (first | exact Nat.le_refl _ | (dsimp only; omega) | (simp only [wsz]; omega))) | (with_reducible refine Ext.trans ?_ (by with_reducible assumption))))).mono ?_
  clear hnorm
  rintro e w1 ⟨r1, rfl, ⟨A1, c1, B1, d1, rfl, h3, h4⟩, hx⟩
  have hxw1 : Ext w w1 := (by repeat (first | with_reducible assumption | with_reducible exact Ext.refl _ | with_reducible refine Ext.drewN ?_ _ | with_reducible refine Ext.drew ?_ | with_reducible refine Ext.alloc ?_ _ | (with_reducible refine Ext.setCell ?_ ?_ _; rotate_left; (first | exact Nat.le_refl _ | (dsimp only; omega) | (simp only [wsz]; omega))) | (with_reducible refine Ext.trans ?_ (by with_reducible assumption))))
  go_wp2_with fail
  refine (rlimbs_c (z := tn.k) ⟨_, _, rfl, h4.ext (by repeat (first | with_reducible assumption | with_reducible exact Ext.refl _ | with_reducible refine Ext.drewN ?_ _ | with_reducible refine Ext.drew ?_ | with_reducible refine Ext.alloc ?_ _ | (with_reducible refine Ext.setCell ?_ ?_ _; rotate_left; (first | exact Nat.le_refl _ | (dsimp only; omega) | (simp only [wsz]; omega))) | (with_reducible refine Ext.trans ?_ (by with_reducible assumption))))⟩ (by omega)).mono ?_
  rintro e W ⟨rfl, hx2⟩
  have b3 := Box.ext (g := w1.heap.size) (Box.new_at _ _ _ rfl) hx2
  have hP : Pl W (fun _ => True) A1 c1 tn.ps := (h3.widen (Y := fun _ => True) fun _ _ _ => trivial).ext (by repeat (first | with_reducible assumption | with_reducible exact Ext.refl _ | with_reducible refine Ext.drewN ?_ _ | with_reducible refine Ext.drew ?_ | with_reducible refine Ext.alloc ?_ _ | (with_reducible refine Ext.setCell ?_ ?_ _; rotate_left; (first | exact Nat.le_refl _ | (dsimp only; omega) | (simp only [wsz]; omega))) | (with_reducible refine Ext.trans ?_ (by with_reducible assumption))))
  have hE : Ext w W := hxw1.trans (by repeat (first | with_reducible assumption | with_reducible exact Ext.refl _ | with_reducible refine Ext.drewN ?_ _ | with_reducible refine Ext.drew ?_ | with_reducible refine Ext.alloc ?_ _ | (with_reducible refine Ext.setCell ?_ ?_ _; rotate_left; (first | exact Nat.le_refl _ | (dsimp only; omega) | (simp only [wsz]; omega))) | (with_reducible refine Ext.trans ?_ (by with_reducible assumption))))
  clear h3 h4 hx hx2
  go_wp2_with fail
  go_loopw [4, 5] (fun nv iv wr => ∃ k n : Nat, k ≤ tn.ps.length ∧ iv = .int .i64 k ∧ nv = .int .i64 n ∧ Hid (mxl n (tn.ps.drop k) = R) ∧ Ext W wr) (fun _ iv _ => tn.ps.length - (intOf iv).toNat)
  case atStart => exact ⟨0, zl tn.k.v, Nat.zero_le _, rfl, rfl, Lib.hid HR.out.symm, Ext.refl _⟩
  case round =>
    obtain ⟨k, n, hk, rfl, rfl, hm, hxr⟩ := hrel
    have q3 := b3.ext hxr
    have q3r := q3.rules
    have q3l := q3.lt
    by_cases hlt : k < tn.ps.length
    · obtain ⟨b, o, B', d', rfl, hX, hc0, hc1, hc2, hi, hN2⟩ := (hP.ext hxr).at_ hlt
      have hb := World.block_lt_of_cell? _ _ hc0
      have kl : (k : Int) < (tn.ps.length : Int) := by omega
      have kw := w64n (n := k) (by omega)
      obtain ⟨y, hy⟩ : ∃ y, y = zl (pth tn.ps k).2.v := ⟨_, rfl⟩
      have hcall := fun (V : World) (hV : Ext wr V) => rlimbs_c (z := (pth tn.ps k).2) ⟨_, _, rfl, hN2.ext hV⟩ (Nat.le_trans (s2 _ (pth_mem hlt)) (by omega))
      rw [← hy] at hcall
      have HY := Lib.hid hy; clear hy
      by_cases hgt : n < y
      · have hgi : (n : Int) < (y : Int) := by omega
        go_wp2_with fail
        refine (hcall _ (by repeat (first | with_reducible assumption | with_reducible exact Ext.refl _ | with_reducible refine Ext.drewN ?_ _ | with_reducible refine Ext.drew ?_ | with_reducible refine Ext.alloc ?_ _ | (with_reducible refine Ext.setCell ?_ ?_ _; rotate_left; (first | exact Nat.le_refl _ | (dsimp only; omega) | (simp only [wsz]; omega))) | (with_reducible refine Ext.trans ?_ (by with_reducible assumption))))).mono ?_
        rintro e w2 ⟨rfl, hx2⟩
        go_wp2_with fail
        go_roundw
        case rel => exact ⟨k + 1, y, by omega, by go_num, rfl, Lib.hid (by rw [← hm.out, mxl_step hlt, ← HY.out, Nat.max_eq_right (by omega)]), hxr.trans (by repeat (first | with_reducible assumption | with_reducible exact Ext.refl _ | with_reducible refine Ext.drewN ?_ _ | with_reducible refine Ext.drew ?_ | with_reducible refine Ext.alloc ?_ _ | (with_reducible refine Ext.setCell ?_ ?_ _; rotate_left; (first | exact Nat.le_refl _ | (dsimp only; omega) | (simp only [wsz]; omega))) | (with_reducible refine Ext.trans ?_ (by with_reducible assumption))))⟩
        case measure => simp [intOf] <;> omega
      · have hgi : ¬ (n : Int) < (y : Int) := by omega
        go_wp2_with fail
        refine (hcall _ (by repeat (first | with_reducible assumption | with_reducible exact Ext.refl _ | with_reducible refine Ext.drewN ?_ _ | with_reducible refine Ext.drew ?_ | with_reducible refine Ext.alloc ?_ _ | (with_reducible refine Ext.setCell ?_ ?_ _; rotate_left; (first | exact Nat.le_refl _ | (dsimp only; omega) | (simp only [wsz]; omega))) | (with_reducible refine Ext.trans ?_ (by with_reducible assumption))))).mono ?_
        rintro e w2 ⟨rfl, hx2⟩
        go_wp2_with fail
        go_roundw
        case rel => exact ⟨k + 1, n, by omega, by go_num, rfl, Lib.hid (by rw [← hm.out, mxl_step hlt, ← HY.out, Nat.max_eq_left (by omega)]), hxr.trans (by repeat (first | with_reducible assumption | with_reducible exact Ext.refl _ | with_reducible refine Ext.drewN ?_ _ | with_reducible refine Ext.drew ?_ | with_reducible refine Ext.alloc ?_ _ | (with_reducible refine Ext.setCell ?_ ?_ _; rotate_left; (first | exact Nat.le_refl _ | (dsimp only; omega) | (simp only [wsz]; omega))) | (with_reducible refine Ext.trans ?_ (by with_reducible assumption))))⟩
        case measure => simp [intOf] <;> omega
    · obtain rfl : k = tn.ps.length := by omega
      go_wp2_with fail
      go_ret
      refine ⟨ret_int ?_, hE.trans hxr⟩
      have := hm.out
      rw [List.drop_length] at this
      rw [← this]; rfl

set_option maxHeartbeats 1600000 in
theorem rvars5_c {v : Value} {t : T} {w : World} {X : Nat → Prop} {N : Nat} (h : Tv w X v t) (hN : N ≤ 1073741824) (hs : t.sz N) :
    Calls Try.prog 47 #[v] w fun e w' => ∃ A c, e = .returned (.slice A t.vars.length c) ∧ Il w' (w.heap.size ≤ ·) A c t.vars ∧ Ext w w' := by
  have htv := h
  have hlb := h.lb
  have hsz := nf_sz hs hlb
  have hn1 : t.nf.ps.map Prod.fst = t.vars := fst_cl _
  obtain ⟨TA, tc, TB, td, rfl, h1, h2⟩ := h
  obtain ⟨tn, htn⟩ : ∃ tn, tn = t.nf := ⟨_, rfl⟩
  have hnorm := fun W (h : Ext w W) => rnorm5_c (htv.ext h) (N := N) (by omega) hs
  rw [← htn] at hnorm hn1 hsz
  have HN1 := Lib.hid hn1
  clear hn1 htn
  obtain ⟨s1, s2, s3⟩ := hsz
  go_enter Try.func47, Try.ntmps47
  go_wp2_with fail
  refine (hnorm _ (by repeat (first | with_reducible assumption | with_reducible exact Ext.refl _ | with_reducible refine Ext.drewN ?_ _ | with_reducible refine Ext.drew ?_ | with_reducible refine Ext.alloc ?_ _ | (with_reducible refine Ext.setCell ?_ ?_ _; rotate_left; (first | exact Nat.le_refl _ | (dsimp only; omega) | (simp only [wsz]; omega))) | (with_reducible refine Ext.trans ?_ (by with_reducible assumption))))).mono ?_
  clear hnorm
  rintro e w1 ⟨r1, rfl, ⟨A1, c1, B1, d1, rfl, h3, h4⟩, hx⟩
  have hxw1 : Ext w w1 := (by repeat (first | with_reducible assumption | with_reducible exact Ext.refl _ | with_reducible refine Ext.drewN ?_ _ | with_reducible refine Ext.drew ?_ | with_reducible refine Ext.alloc ?_ _ | (with_reducible refine Ext.setCell ?_ ?_ _; rotate_left; (first | exact Nat.le_refl _ | (dsimp only; omega) | (simp only [wsz]; omega))) | (with_reducible refine Ext.trans ?_ (by with_reducible assumption))))
  go_wp2_with fail
  refine wp_named fun W hW => ?_
  have b3 : Box W w1.heap.size 27 #[.slice A1 tn.ps.length c1, .bool tn.k.neg, .slice B1 tn.k.mag.length d1] := by rw [hW]; exact Box.new _ _ _
  have hE : Ext w W := by rw [hW]; exact hxw1.alloc _
  have hP : Pl W (fun _ => True) A1 c1 tn.ps := by rw [hW]; exact (h3.widen (Y := fun _ => True) fun _ _ _ => trivial).ext (Ext.alloc (Ext.refl _) _)
  have hws := hE.size
  clear hW h3 h4 hx
  go_loopw [4, 5] (fun sv iv wr => ∃ k : Nat, k ≤ tn.ps.length ∧ iv = .int .i64 k ∧ Own 1 EI wr (fun _ => False) W.heap.size 3 sv ((tn.ps.take k).map Prod.fst) ∧ Ext W wr) (fun _ iv _ => tn.ps.length - (intOf iv).toNat)
  case atStart => exact ⟨0, Nat.zero_le _, rfl, Own.nil _ _ _ _, Ext.refl _⟩
  case round =>
    obtain ⟨k, hk, rfl, hO, hxr⟩ := hrel
    have hsr := hxr.size
    have q3 := b3.ext hxr
    have q3r := q3.rules
    have q3l := q3.lt
    by_cases hlt : k < tn.ps.length
    · obtain ⟨b, o, B', d', rfl, hX, hc0, hc1, hc2, hi, hN2⟩ := (hP.ext hxr).at_ hlt
      have hb := World.block_lt_of_cell? _ _ hc0
      have kl : (k : Int) < (tn.ps.length : Int) := by omega
      have kw := w64n (n := k) (by omega)
      have hrow := hO.row
      go_wp2_with (first
        | (at_builtin
           refine wpList_appi1 (g := wr.heap.size) (y := (pth tn.ps k).1) (.tmp 15) (.tmp 22) rfl hO (by simp; omega) (by omega) rfl rfl rfl rfl ?_
           intro v4 w4 hO4 hg4)
        | fail)
      have hx4 : Ext W w4 := (hxr.alloc _).grown hg4 fun g hg => (hrow g hg).1
      rw [← fst_take _ _ hlt] at hO4
      go_roundw
      case rel => exact ⟨k + 1, by omega, by go_num, hO4, hx4⟩
      case measure => simp [intOf] <;> omega
    · obtain rfl : k = tn.ps.length := by omega
      rw [List.take_length, HN1.out] at hO
      obtain ⟨A4, c4, rfl, hj⟩ := Own.sl hO (by omega) (X := (w.heap.size ≤ ·)) (fun b hb => hb.elim False.elim fun h => by omega)
      go_wp2_with fail
      go_ret
      exact ⟨_, _, rfl, hj, hE.trans hxr⟩

set_option maxHeartbeats 800000 in
theorem ints_c {w : World} {X Y : Nat → Prop} {A B : Option Addr} {c d : Nat} {l : List Int} (h : Il w X A c l) (h' : Il w Y B d l) :
    Calls Try.prog 46 #[.slice A l.length c, .slice B l.length d] w fun e w' => e = .returned (.bool true) ∧ Ext w w' := by
  have hm := h.2.1; have hlc := h.1
  simp only [maxLen] at hm
  go_enter Try.func46, Try.ntmps46
  go_wp2_with fail
  go_loopw [5] (fun iv wr => ∃ k : Nat, k ≤ l.length ∧ iv = .int .i64 k ∧ Ext w wr) (fun iv _ => l.length - (intOf iv).toNat)
  case atStart => exact ⟨0, Nat.zero_le _, rfl, (by repeat (first | with_reducible assumption | with_reducible exact Ext.refl _ | with_reducible refine Ext.drewN ?_ _ | with_reducible refine Ext.drew ?_ | with_reducible refine Ext.alloc ?_ _ | (with_reducible refine Ext.setCell ?_ ?_ _; rotate_left; (first | exact Nat.le_refl _ | (dsimp only; omega) | (simp only [wsz]; omega))) | (with_reducible refine Ext.trans ?_ (by with_reducible assumption))))⟩
  case round =>
    obtain ⟨k, hk, rfl, hx⟩ := hrel
    by_cases hlt : k < l.length
    · obtain ⟨b, o, rfl, _, hc⟩ := (h.ext hx).at_ hlt
      obtain ⟨b2, o2, rfl, _, hc2⟩ := (h'.ext hx).at_ hlt
      have hb := World.block_lt_of_cell? _ _ hc
      have hb2 := World.block_lt_of_cell? _ _ hc2
      have kl : (k : Int) < (l.length : Int) := by omega
      have kw := w64n (n := k) (by omega)
      generalize l.getD k 0 = y at hc hc2
      go_wp2_with fail
      refine wp_region_seq 9 [(0, true), (1, true), (2, true), (3, true), (4, true), (5, true), (6, true), (7, true), (8, true)] rfl (by kernel_rfl) (by intro _ _ d _ _ h; cases d <;> exact h) ?_
      (repeat (refine sq_take (v := ?_) rfl rfl ?_ ?_; rotate_left; (intro w' hx'; have hc' := hx'.cells.1; (try simp only [wcd] at hc'); go_simp; (first | done | with_reducible rfl)); (try simp only [Act.put, List.setIfInBounds_toArray, List.set_cons_zero, List.set_cons_succ])))
      refine sq_done ?_
      go_wp2_with fail
      go_roundw
      case rel => exact ⟨k + 1, by omega, by go_num, (by repeat (first | with_reducible assumption | with_reducible exact Ext.refl _ | with_reducible refine Ext.drewN ?_ _ | with_reducible refine Ext.drew ?_ | with_reducible refine Ext.alloc ?_ _ | (with_reducible refine Ext.setCell ?_ ?_ _; rotate_left; (first | exact Nat.le_refl _ | (dsimp only; omega) | (simp only [wsz]; omega))) | (with_reducible refine Ext.trans ?_ (by with_reducible assumption))))⟩
      case measure => simp [intOf] <;> omega
    · obtain rfl : k = l.length := by omega
      go_wp2_with fail
      go_ret
      exact ⟨rfl, hx⟩

end Go.Proofs.Ytbblgjjomgipfaa
