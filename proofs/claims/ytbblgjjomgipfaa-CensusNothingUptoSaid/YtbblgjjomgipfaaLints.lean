/- riddlelaw19.ints at two numbers that are the same. No conditions. -/
import Derived.Test.YtbblgjjomgipfaaCen1
namespace Go.Proofs.Ytbblgjjomgipfaa
open Go.RowKit Go.Shelf

set_option maxHeartbeats 1600000 in
theorem lints_c {u v : Value} {z : Z} {w : World} {X Y : Nat → Prop} (hx : Zi w X u z) (hy : Zi w Y v z) :
    Calls Try.prog 101 #[u, v] w fun e w' => e = .returned (.bool true) ∧ Ext w w' := by
  obtain ⟨A, c, rfl, h⟩ := hx
  obtain ⟨B, d, rfl, h'⟩ := hy
  have hm := h.2.1; have hlc := h.1
  simp only [maxLen] at hm
  obtain ⟨n, l⟩ := z
  simp only at h h' hm hlc ⊢
  go_enter Try.func101, Try.ntmps101
  have hbn : (n != n) = false := by cases n <;> rfl
  go_upto_region 1 with fail
  refine wp_named fun W hW => ?_
  have b2 : Box W w.heap.size 25 #[.bool n, .slice A l.length c] := by rw [hW]; exact (by repeat (first | with_reducible assumption | with_reducible exact Box.new _ _ _ | (with_reducible refine Box.new_at _ _ _ ?_; (simp only [wsz]; done)) | with_reducible refine Box.drewN ?_ _ | with_reducible refine Box.drew ?_ | with_reducible refine Box.alloc ?_ _ | with_reducible apply Box.drewN | with_reducible apply Box.drew | with_reducible apply Box.alloc | with_reducible refine Box.set_ ?_ _ _ | (with_reducible refine Box.far ?_ ?_ _; rotate_left; (simp only [ne_eq]; omega)) | (with_reducible refine Box.ext ?_ (by with_reducible assumption)) | (refine Box.new_at _ _ _ ?_; simp only [wsz]; done)))
  have b3 : Box W (w.heap.size + 1) 25 #[.bool n, .slice B l.length d] := by rw [hW]; exact (by repeat (first | with_reducible assumption | with_reducible exact Box.new _ _ _ | (with_reducible refine Box.new_at _ _ _ ?_; (simp only [wsz]; done)) | with_reducible refine Box.drewN ?_ _ | with_reducible refine Box.drew ?_ | with_reducible refine Box.alloc ?_ _ | with_reducible apply Box.drewN | with_reducible apply Box.drew | with_reducible apply Box.alloc | with_reducible refine Box.set_ ?_ _ _ | (with_reducible refine Box.far ?_ ?_ _; rotate_left; (simp only [ne_eq]; omega)) | (with_reducible refine Box.ext ?_ (by with_reducible assumption)) | (refine Box.new_at _ _ _ ?_; simp only [wsz]; done)))
  have hE : Ext w W := by rw [hW]; exact (by repeat (first | with_reducible assumption | with_reducible exact Ext.refl _ | with_reducible refine Ext.drewN ?_ _ | with_reducible refine Ext.drew ?_ | with_reducible refine Ext.alloc ?_ _ | (with_reducible refine Ext.setCell ?_ ?_ _; rotate_left; (first | exact Nat.le_refl _ | (dsimp only; omega) | (simp only [wsz]; omega))) | (with_reducible refine Ext.trans ?_ (by with_reducible assumption))))
  have hs := hE.size
  clear hW
  have b2r := b2.rules; have b2l := b2.lt
  have b3r := b3.rules; have b3l := b3.lt
  go_wp2_with fail
  go_loopw [5] (fun iv wr => ∃ k : Nat, k ≤ l.length ∧ iv = .int .i64 k ∧ Ext W wr) (fun iv _ => l.length - (intOf iv).toNat)
  case atStart => exact ⟨0, Nat.zero_le _, rfl, (by repeat (first | with_reducible assumption | with_reducible exact Ext.refl _ | with_reducible refine Ext.drewN ?_ _ | with_reducible refine Ext.drew ?_ | with_reducible refine Ext.alloc ?_ _ | (with_reducible refine Ext.setCell ?_ ?_ _; rotate_left; (first | exact Nat.le_refl _ | (dsimp only; omega) | (simp only [wsz]; omega))) | (with_reducible refine Ext.trans ?_ (by with_reducible assumption))))⟩
  case round =>
    obtain ⟨k, hk, rfl, hx⟩ := hrel
    have c2 := b2.ext hx; have c3 := b3.ext hx
    have c2r := c2.rules; have c2l := c2.lt
    have c3r := c3.rules; have c3l := c3.lt
    clear b2r b3r
    by_cases hlt : k < l.length
    · obtain ⟨b, o, rfl, _, hc, _⟩ := (h.ext (hE.trans hx)).at_ hlt
      obtain ⟨b2, o2, rfl, _, hc2, _⟩ := (h'.ext (hE.trans hx)).at_ hlt
      have hc := hc k hlt
      have hc2 := hc2 k hlt
      have hb := World.block_lt_of_cell? _ _ hc
      have hb2 := World.block_lt_of_cell? _ _ hc2
      have kl : (k : Int) < (l.length : Int) := by omega
      have kw := w64n (n := k) (by omega)
      generalize nth l k = y at hc hc2
      go_wp2_with fail
      refine wp_region_seq 11 [(0, true), (1, true), (2, true), (3, true), (4, true), (5, true), (6, true), (7, true), (8, true), (9, true), (10, true)] rfl (by kernel_rfl) (by intro _ _ d _ _ h; cases d <;> exact h) ?_
      (repeat (refine sq_take (v := ?_) rfl rfl ?_ ?_; rotate_left; (intro w' hx'; have hc' := hx'.cells.1; (try simp only [wcd] at hc'); go_simp; (first | done | with_reducible rfl)); (try simp only [Act.put, List.setIfInBounds_toArray, List.set_cons_zero, List.set_cons_succ])))
      refine sq_done ?_
      go_wp2_with fail
      go_roundw
      case rel => exact ⟨k + 1, by omega, by go_num, (by repeat (first | with_reducible assumption | with_reducible exact Ext.refl _ | with_reducible refine Ext.drewN ?_ _ | with_reducible refine Ext.drew ?_ | with_reducible refine Ext.alloc ?_ _ | (with_reducible refine Ext.setCell ?_ ?_ _; rotate_left; (first | exact Nat.le_refl _ | (dsimp only; omega) | (simp only [wsz]; omega))) | (with_reducible refine Ext.trans ?_ (by with_reducible assumption))))⟩
      case measure => simp [intOf] <;> omega
    · obtain rfl : k = l.length := by omega
      go_wp2_with fail
      go_ret
      exact ⟨rfl, hE.trans hx⟩

end Go.Proofs.Ytbblgjjomgipfaa
