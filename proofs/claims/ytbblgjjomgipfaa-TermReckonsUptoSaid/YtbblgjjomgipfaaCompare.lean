/- term.Order: slices.CompareFunc at parts, and what Order hands it. No conditions. -/
import Derived.Test.YtbblgjjomgipfaaNorm
import Derived.Shelf.Abstract
namespace Go.Proofs.Ytbblgjjomgipfaa
open Go.RowKit Go.Shelf

/-- Two parts compared: by variables, then by numbers. -/
def cmpP (p q : Int × Z) : Int := if p.1 < q.1 then -1 else if q.1 < p.1 then 1 else cmpI p.2.v q.2.v
/-- Two rows of parts compared. -/
def cmpL : List (Int × Z) → List (Int × Z) → Int
  | [], [] => 0
  | [], _ :: _ => -1
  | _ :: _, [] => 1
  | p :: l, q :: m => if cmpP p q = 0 then cmpL l m else cmpP p q

set_option maxHeartbeats 800000 in
theorem order1_c {W : World} {X Y : Nat → Prop} {p q : Int × Z} {A B : Option Addr} {c d : Nat} (h1 : Nl W X A c p.2.mag) (h2 : Nl W Y B d q.2.mag) :
    Calls Try.prog 84 #[.agg #[.int .i64 p.1, .bool p.2.neg, .slice A p.2.mag.length c], .agg #[.int .i64 q.1, .bool q.2.neg, .slice B q.2.mag.length d]] W fun e w' => e = .returned (.int .i64 (cmpP p q)) ∧ Ext W w' := by
  by_cases h : p.1 < q.1
  · have e1 : cmpP p q = -1 := by unfold cmpP; rw [if_pos h]
    rw [e1]
    clear e1
    go_enter Try.func84, Try.ntmps84
    go_wp2_with fail
    go_ret
    exact ⟨rfl, (by repeat (first | with_reducible assumption | with_reducible exact Ext.refl _ | with_reducible refine Ext.drewN ?_ _ | with_reducible refine Ext.drew ?_ | with_reducible refine Ext.alloc ?_ _ | (with_reducible refine Ext.setCell ?_ ?_ _; rotate_left; (first | exact Nat.le_refl _ | (dsimp only; omega) | (simp only [wsz]; omega))) | (with_reducible refine Ext.trans ?_ (by with_reducible assumption))))⟩
  · by_cases h' : q.1 < p.1
    · have e1 : cmpP p q = 1 := by unfold cmpP; rw [if_neg h, if_pos h']
      rw [e1]
      clear e1
      go_enter Try.func84, Try.ntmps84
      go_wp2_with fail
      go_ret
      exact ⟨rfl, (by repeat (first | with_reducible assumption | with_reducible exact Ext.refl _ | with_reducible refine Ext.drewN ?_ _ | with_reducible refine Ext.drew ?_ | with_reducible refine Ext.alloc ?_ _ | (with_reducible refine Ext.setCell ?_ ?_ _; rotate_left; (first | exact Nat.le_refl _ | (dsimp only; omega) | (simp only [wsz]; omega))) | (with_reducible refine Ext.trans ?_ (by with_reducible assumption))))⟩
    · have e1 : cmpP p q = cmpI p.2.v q.2.v := by unfold cmpP; rw [if_neg h, if_neg h']
      rw [e1]
      clear e1
      go_enter Try.func84, Try.ntmps84
      go_wp2_with fail
      refine (zcmp_c (x := p.2) (y := q.2) ⟨_, _, rfl, h1.ext (by repeat (first | with_reducible assumption | with_reducible exact Ext.refl _ | with_reducible refine Ext.drewN ?_ _ | with_reducible refine Ext.drew ?_ | with_reducible refine Ext.alloc ?_ _ | (with_reducible refine Ext.setCell ?_ ?_ _; rotate_left; (first | exact Nat.le_refl _ | (dsimp only; omega) | (simp only [wsz]; omega))) | (with_reducible refine Ext.trans ?_ (by with_reducible assumption))))⟩ ⟨_, _, rfl, h2.ext (by repeat (first | with_reducible assumption | with_reducible exact Ext.refl _ | with_reducible refine Ext.drewN ?_ _ | with_reducible refine Ext.drew ?_ | with_reducible refine Ext.alloc ?_ _ | (with_reducible refine Ext.setCell ?_ ?_ _; rotate_left; (first | exact Nat.le_refl _ | (dsimp only; omega) | (simp only [wsz]; omega))) | (with_reducible refine Ext.trans ?_ (by with_reducible assumption))))⟩).mono ?_
      rintro e w1 ⟨rfl, hx⟩
      go_wp2_with fail
      go_ret
      exact ⟨rfl, (by repeat (first | with_reducible assumption | with_reducible exact Ext.refl _ | with_reducible refine Ext.drewN ?_ _ | with_reducible refine Ext.drew ?_ | with_reducible refine Ext.alloc ?_ _ | (with_reducible refine Ext.setCell ?_ ?_ _; rotate_left; (first | exact Nat.le_refl _ | (dsimp only; omega) | (simp only [wsz]; omega))) | (with_reducible refine Ext.trans ?_ (by with_reducible assumption))))⟩

theorem cmpL_step : ∀ (l m : List (Int × Z)) (k : Nat), (∀ i, i < k → ∃ (h : i < l.length) (h' : i < m.length), cmpP l[i] m[i] = 0) → cmpL l m = cmpL (l.drop k) (m.drop k)
  | _, _, 0, _ => rfl
  | [], _, k + 1, h => by obtain ⟨h1, _⟩ := h 0 (by omega); cases h1
  | _ :: _, [], k + 1, h => by obtain ⟨_, h1, _⟩ := h 0 (by omega); cases h1
  | p :: l, q :: m, k + 1, h => by
    obtain ⟨_, _, h0⟩ := h 0 (by omega)
    have h0 : cmpP p q = 0 := h0
    have ih := cmpL_step l m k fun i hi => by
      obtain ⟨h1, h2, h3⟩ := h (i + 1) (by omega)
      exact ⟨by simpa using h1, by simpa using h2, h3⟩
    rw [List.drop_succ_cons, List.drop_succ_cons, ← ih]
    conv => lhs; unfold cmpL
    rw [if_pos h0]

set_option maxHeartbeats 1600000 in
theorem cmpf_c {w : World} {X Y : Nat → Prop} {A B : Option Addr} {c d : Nat} {l m : List (Int × Z)} (h : Pl w X A c l) (h' : Pl w Y B d m) :
    Calls Try.prog 83 #[.slice A l.length c, .slice B m.length d, .func (.func 84) #[] #[]] w fun e w' => e = .returned (.int .i64 (cmpL l m)) ∧ Ext w w' := by
  have hm := h.2.1; have hlc := h.1
  have hm' := h'.2.1; have hlc' := h'.1
  simp only [maxLen] at hm hm'
  have eg : ∀ args w, (callFunc 84 args).run Try.prog w = .ok (.enter 84 args) w := enters_of Try.func84 (by kernel_rfl) rfl
  go_enter Try.func83, Try.ntmps83
  go_wp2_with fail
  go_loopw [13] (fun iv wr => ∃ k : Nat, k ≤ l.length ∧ iv = .int .i64 k ∧ Hid (∀ i, i < k → ∃ (h : i < l.length) (h' : i < m.length), cmpP l[i] m[i] = 0) ∧ Ext w wr) (fun iv _ => l.length - (intOf iv).toNat)
  case atStart => exact ⟨0, Nat.zero_le _, rfl, Lib.hid fun _ h => absurd h (Nat.not_lt_zero _), (by repeat (first | with_reducible assumption | with_reducible exact Ext.refl _ | with_reducible refine Ext.drewN ?_ _ | with_reducible refine Ext.drew ?_ | with_reducible refine Ext.alloc ?_ _ | (with_reducible refine Ext.setCell ?_ ?_ _; rotate_left; (first | exact Nat.le_refl _ | (dsimp only; omega) | (simp only [wsz]; omega))) | (with_reducible refine Ext.trans ?_ (by with_reducible assumption))))⟩
  case round =>
    obtain ⟨k, hk, rfl, hno, hx⟩ := hrel
    have hkm : k ≤ m.length := by
      rcases Nat.eq_zero_or_pos k with e | e
      · omega
      · obtain ⟨_, h1, _⟩ := hno.out (k - 1) (by omega)
        omega
    by_cases hlt : k < l.length
    · obtain ⟨b, o, B', d', rfl, hX, hc0, hc1, hc2, hi, hN⟩ := (h.ext hx).at_ hlt
      have hb := World.block_lt_of_cell? _ _ hc0
      have kl : (k : Int) < (l.length : Int) := by omega
      by_cases hlt' : k < m.length
      · obtain ⟨b', o', B2, d2, rfl, hX', hc0', hc1', hc2', hi', hN'⟩ := (h'.ext hx).at_ hlt'
        have hb' := World.block_lt_of_cell? _ _ hc0'
        have kl' : (k : Int) < (m.length : Int) := by omega
        have kl'' : ¬ (m.length : Int) ≤ (k : Int) := by omega
        have hcall := fun (W : World) (hW : Ext wr W) => order1_c (p := pth l k) (q := pth m k) (hN.ext hW) (hN'.ext hW)
        by_cases he : cmpP (pth l k) (pth m k) = 0
        · have e0 : (cmpP (pth l k) (pth m k) != 0) = false := by rw [he]; rfl
          have He := Lib.hid he; clear he
          go_wp2_with (first | (go_at_fn 84; refine (hcall _ (by repeat (first | with_reducible assumption | with_reducible exact Ext.refl _ | with_reducible refine Ext.drewN ?_ _ | with_reducible refine Ext.drew ?_ | with_reducible refine Ext.alloc ?_ _ | (with_reducible refine Ext.setCell ?_ ?_ _; rotate_left; (first | exact Nat.le_refl _ | (dsimp only; omega) | (simp only [wsz]; omega))) | (with_reducible refine Ext.trans ?_ (by with_reducible assumption))))).mono ?_; rintro e w1 ⟨rfl, hx1⟩) | fail)
          go_roundw
          case rel =>
            refine ⟨k + 1, by omega, by go_num, Lib.hid fun i hik => ?_, hx.trans (by repeat (first | with_reducible assumption | with_reducible exact Ext.refl _ | with_reducible refine Ext.drewN ?_ _ | with_reducible refine Ext.drew ?_ | with_reducible refine Ext.alloc ?_ _ | (with_reducible refine Ext.setCell ?_ ?_ _; rotate_left; (first | exact Nat.le_refl _ | (dsimp only; omega) | (simp only [wsz]; omega))) | (with_reducible refine Ext.trans ?_ (by with_reducible assumption))))⟩
            by_cases e : i = k
            · subst e; exact ⟨hlt, hlt', by rw [← pth_eq l i hlt, ← pth_eq m i hlt']; exact He.out⟩
            · exact hno.out i (by omega)
          case measure => simp [intOf] <;> omega
        · have e0 : (cmpP (pth l k) (pth m k) != 0) = true := by rw [bne_iff_ne]; exact he
          have He := Lib.hid he; clear he
          go_wp2_with (first | (go_at_fn 84; refine (hcall _ (by repeat (first | with_reducible assumption | with_reducible exact Ext.refl _ | with_reducible refine Ext.drewN ?_ _ | with_reducible refine Ext.drew ?_ | with_reducible refine Ext.alloc ?_ _ | (with_reducible refine Ext.setCell ?_ ?_ _; rotate_left; (first | exact Nat.le_refl _ | (dsimp only; omega) | (simp only [wsz]; omega))) | (with_reducible refine Ext.trans ?_ (by with_reducible assumption))))).mono ?_; rintro e w1 ⟨rfl, hx1⟩) | fail)
          go_ret
          refine ⟨ret_int ?_, hx.trans (by repeat (first | with_reducible assumption | with_reducible exact Ext.refl _ | with_reducible refine Ext.drewN ?_ _ | with_reducible refine Ext.drew ?_ | with_reducible refine Ext.alloc ?_ _ | (with_reducible refine Ext.setCell ?_ ?_ _; rotate_left; (first | exact Nat.le_refl _ | (dsimp only; omega) | (simp only [wsz]; omega))) | (with_reducible refine Ext.trans ?_ (by with_reducible assumption))))⟩
          rw [cmpL_step l m k hno.out, drop_pth l k hlt, drop_pth m k hlt', cmpL, if_neg He.out]
      · have kl' : (m.length : Int) ≤ (k : Int) := by omega
        go_wp2_with fail
        go_ret
        refine ⟨ret_int ?_, hx.trans (by repeat (first | with_reducible assumption | with_reducible exact Ext.refl _ | with_reducible refine Ext.drewN ?_ _ | with_reducible refine Ext.drew ?_ | with_reducible refine Ext.alloc ?_ _ | (with_reducible refine Ext.setCell ?_ ?_ _; rotate_left; (first | exact Nat.le_refl _ | (dsimp only; omega) | (simp only [wsz]; omega))) | (with_reducible refine Ext.trans ?_ (by with_reducible assumption))))⟩
        have e : m.drop k = [] := List.drop_eq_nil_of_le (by omega)
        rw [cmpL_step l m k hno.out, drop_pth l k hlt, e]
        rfl
    · obtain rfl : k = l.length := by omega
      have hfin := Lib.hid (show cmpL l m = cmpL [] (m.drop l.length) by rw [cmpL_step l m l.length hno.out, List.drop_length])
      by_cases hlt' : l.length < m.length
      · have kl' : (l.length : Int) < (m.length : Int) := by omega
        go_wp2_with fail
        go_ret
        refine ⟨ret_int ?_, hx.trans (by repeat (first | with_reducible assumption | with_reducible exact Ext.refl _ | with_reducible refine Ext.drewN ?_ _ | with_reducible refine Ext.drew ?_ | with_reducible refine Ext.alloc ?_ _ | (with_reducible refine Ext.setCell ?_ ?_ _; rotate_left; (first | exact Nat.le_refl _ | (dsimp only; omega) | (simp only [wsz]; omega))) | (with_reducible refine Ext.trans ?_ (by with_reducible assumption))))⟩
        rw [hfin.out, drop_pth m _ hlt']
        rfl
      · have kl' : ¬ (l.length : Int) < (m.length : Int) := by omega
        go_wp2_with fail
        go_ret
        refine ⟨ret_int ?_, hx.trans (by repeat (first | with_reducible assumption | with_reducible exact Ext.refl _ | with_reducible refine Ext.drewN ?_ _ | with_reducible refine Ext.drew ?_ | with_reducible refine Ext.alloc ?_ _ | (with_reducible refine Ext.setCell ?_ ?_ _; rotate_left; (first | exact Nat.le_refl _ | (dsimp only; omega) | (simp only [wsz]; omega))) | (with_reducible refine Ext.trans ?_ (by with_reducible assumption))))⟩
        have e : m.drop l.length = [] := List.drop_eq_nil_of_le (by omega)
        rw [hfin.out, e]
        rfl

end Go.Proofs.Ytbblgjjomgipfaa
