/- slices.IndexFunc at values, and what Eval hands it. No conditions. -/
import Derived.Test.YtbblgjjomgipfaaEv
import Derived.Shelf.Abstract
import Derived.Test.YtbblgjjomgipfaaPart
namespace Go.Proofs.Ytbblgjjomgipfaa
open Go.RowKit Go.Shelf

set_option maxHeartbeats 400000 in
theorem eval1_c {W : World} {g : Nat} {x p : Int} {b n : Value} (hg : W.cell? ⟨g, 0, none⟩ = some (.int .i64 x)) (hl : g < W.heap.size) :
    Calls Try.prog 69 #[.agg #[.int .i64 p, b, n], .pointer (some ⟨g, 0, none⟩)] W fun e w' => e = .returned (.bool (p == x)) ∧ Ext W w' := by
  go_enter Try.func69, Try.ntmps69
  go_wp2
  all_goals (go_ret; exact ⟨by simp_all, (by repeat (first | with_reducible assumption | with_reducible exact Ext.refl _ | with_reducible refine Ext.drewN ?_ _ | with_reducible refine Ext.drew ?_ | with_reducible refine Ext.alloc ?_ _ | (with_reducible refine Ext.setCell ?_ ?_ _; rotate_left; (first | exact Nat.le_refl _ | (dsimp only; omega) | (simp only [wsz]; omega))) | (with_reducible refine Ext.trans ?_ (by with_reducible assumption))))⟩)

/-- A place, or -1. -/
def ixv (o : Option Nat) : Int := o.elim (-1) fun i => (i : Int)
set_option maxHeartbeats 800000 in
theorem indexf_c {w : World} {X : Nat → Prop} {A : Option Addr} {c : Nat} {l : List (Int × Z)} {g : Nat} {x : Int} (h : Pl w X A c l) (hg : w.cell? ⟨g, 0, none⟩ = some (.int .i64 x)) (hgl : g < w.heap.size) :
    Calls Try.prog 68 #[.slice A l.length c, .func (.func 69) #[] #[.pointer (some ⟨g, 0, none⟩)]] w fun e w' => e = .returned (.int .i64 (ixv (ix l x))) ∧ Ext w w' := by
  have hm := h.2.1; have hlc := h.1
  simp only [maxLen] at hm
  have eg : ∀ args w, (callFunc 69 args).run Try.prog w = .ok (.enter 69 args) w := enters_of Try.func69 (by kernel_rfl) rfl
  go_enter Try.func68, Try.ntmps68
  go_wp2_with fail
  go_loopw [8] (fun iv wr => ∃ k : Nat, k ≤ l.length ∧ iv = .int .i64 k ∧ Hid (∀ i (h : i < l.length), i < k → l[i].1 ≠ x) ∧ Ext w wr) (fun iv _ => l.length - (intOf iv).toNat)
  case atStart => exact ⟨0, Nat.zero_le _, rfl, Lib.hid fun _ _ h => absurd h (Nat.not_lt_zero _), (by repeat (first | with_reducible assumption | with_reducible exact Ext.refl _ | with_reducible refine Ext.drewN ?_ _ | with_reducible refine Ext.drew ?_ | with_reducible refine Ext.alloc ?_ _ | (with_reducible refine Ext.setCell ?_ ?_ _; rotate_left; (first | exact Nat.le_refl _ | (dsimp only; omega) | (simp only [wsz]; omega))) | (with_reducible refine Ext.trans ?_ (by with_reducible assumption))))⟩
  case round =>
    obtain ⟨k, hk, rfl, hno, hx⟩ := hrel
    by_cases hlt : k < l.length
    · obtain ⟨b, o, B', d', rfl, hX, hc0, hc1, hc2, hi, hN⟩ := (h.ext hx).at_ hlt
      have hb := World.block_lt_of_cell? _ _ hc0
      have kl : (k : Int) < (l.length : Int) := by omega
      have hgr := (hx.cells.1 g 0 hgl).trans hg
      have hgl' := Nat.lt_of_lt_of_le hgl hx.size
      have hcall := eval1_c (p := (pth l k).1) (b := .bool (pth l k).2.neg) (n := .slice B' (pth l k).2.mag.length d') hgr hgl'
      clear hg hgr
      by_cases he : (pth l k).1 = x
      · have e1 : ((pth l k).1 == x) = true := by rw [he]; exact beq_self_eq_true _
        rw [e1] at hcall
        have He := Lib.hid he; clear he e1
        go_wp2_with (first | (go_at_fn 69; refine hcall.mono ?_; rintro e w1 ⟨rfl, hx1⟩) | fail)
        go_ret
        refine ⟨ret_int ?_, hx.trans (by repeat (first | with_reducible assumption | with_reducible exact Ext.refl _ | with_reducible refine Ext.drewN ?_ _ | with_reducible refine Ext.drew ?_ | with_reducible refine Ext.alloc ?_ _ | (with_reducible refine Ext.setCell ?_ ?_ _; rotate_left; (first | exact Nat.le_refl _ | (dsimp only; omega) | (simp only [wsz]; omega))) | (with_reducible refine Ext.trans ?_ (by with_reducible assumption))))⟩
        rw [ix_step l x k hno.out, drop_pth l k hlt]
        simp [ix, He.out, ixv]
      · have e1 : ((pth l k).1 == x) = false := by rw [beq_eq_false_iff_ne]; exact he
        rw [e1] at hcall
        have He := Lib.hid he; clear he e1
        go_wp2_with (first | (go_at_fn 69; refine hcall.mono ?_; rintro e w1 ⟨rfl, hx1⟩) | fail)
        go_roundw
        case rel =>
          refine ⟨k + 1, by omega, by go_num, Lib.hid fun i hil hik => ?_, hx.trans (by repeat (first | with_reducible assumption | with_reducible exact Ext.refl _ | with_reducible refine Ext.drewN ?_ _ | with_reducible refine Ext.drew ?_ | with_reducible refine Ext.alloc ?_ _ | (with_reducible refine Ext.setCell ?_ ?_ _; rotate_left; (first | exact Nat.le_refl _ | (dsimp only; omega) | (simp only [wsz]; omega))) | (with_reducible refine Ext.trans ?_ (by with_reducible assumption))))⟩
          by_cases e : i = k
          · subst e; rw [← pth_eq l i hil]; exact He.out
          · exact hno.out i hil (by omega)
        case measure => simp [intOf] <;> omega
    · obtain rfl : k = l.length := by omega
      go_wp2_with fail
      go_ret
      refine ⟨ret_int ?_, hx.trans (by repeat (first | with_reducible assumption | with_reducible exact Ext.refl _ | with_reducible refine Ext.drewN ?_ _ | with_reducible refine Ext.drew ?_ | with_reducible refine Ext.alloc ?_ _ | (with_reducible refine Ext.setCell ?_ ?_ _; rotate_left; (first | exact Nat.le_refl _ | (dsimp only; omega) | (simp only [wsz]; omega))) | (with_reducible refine Ext.trans ?_ (by with_reducible assumption))))⟩
      rw [ix_step l x l.length hno.out, List.drop_length]
      rfl

end Go.Proofs.Ytbblgjjomgipfaa
