/- periods: made, common; slices.Equal at rows. No conditions. -/
import Derived.Test.YtbblgjjomgipfaaAbove
namespace Go.Proofs.Ytbblgjjomgipfaa
open Go.RowKit Go.Shelf

set_option maxHeartbeats 800000 in
theorem common_c (p q : Nat) (hp : 0 < p) (_hq : 0 < q) (hp1 : p ≤ 4096) (hq1 : q ≤ 4096) (w : World) :
    Calls Try.prog 134 #[.int .i64 (p : Int), .int .i64 (q : Int)] w fun e w' => e = .returned (.int .i64 (Nat.lcm p q : Nat)) ∧ Ext w w' := by
  have hg0 : 0 < Nat.gcd p q := Nat.gcd_pos_of_pos_left _ hp
  have hlcm : p / Nat.gcd p q * q = Nat.lcm p q := by
    unfold Nat.lcm
    rw [Nat.div_mul_right_comm (Nat.gcd_dvd_left p q)]
  obtain ⟨L, hL⟩ : ∃ L, L = Nat.lcm p q := ⟨_, rfl⟩
  have hLb : L ≤ 4096 * 4096 := by
    rw [hL, ← hlcm]
    exact Nat.le_trans (Nat.mul_le_mul (Nat.div_le_self _ _) hq1) (Nat.mul_le_mul_right _ hp1)
  rw [← hL] at hlcm ⊢
  have HL := Lib.hid hlcm
  clear hL hlcm
  go_enter Try.func134, Try.ntmps134
  go_wp2_with fail
  go_loopw [5, 6] (fun av bv wr => ∃ a b : Nat, av = .int .i64 a ∧ bv = .int .i64 b ∧ a ≤ 4096 ∧ b ≤ 4096 ∧ Hid (Nat.gcd a b = Nat.gcd p q) ∧ Ext w wr) (fun _ bv _ => (intOf bv).toNat)
  case atStart => exact ⟨p, q, rfl, rfl, hp1, hq1, Lib.hid rfl, Ext.refl _⟩
  case round =>
    obtain ⟨a, b, rfl, rfl, ha, hb, hg, hx⟩ := hrel
    rcases Nat.eq_zero_or_pos b with h0 | h0
    · subst h0
      have e0 : (((0 : Nat) : Int) != 0) = false := rfl
      have hga := hg.out
      rw [Nat.gcd_zero_right] at hga
      have hn := HL.out
      rw [← hga] at hn hg0
      have hpa : p / a ≤ 4096 := Nat.le_trans (Nat.div_le_self _ _) hp1
      have ha0 : ¬ (a : Int) = 0 := by omega
      have HN := Lib.hid hn; have HGA := Lib.hid hga
      clear hn hga hg
      go_wp2_with fail
      go_ret
      refine ⟨ret_int ?_, hx⟩
      have e1 : (p : Int) / (a : Int) = ((p / a : Nat) : Int) := rfl
      have e2 : ((p / a : Nat) : Int) * (q : Int) = ((p / a * q : Nat) : Int) := (Int.natCast_mul _ _).symm
      have e3 : wrap64 ((p / a : Nat) : Int) = ((p / a : Nat) : Int) := by
        generalize p / a = d at hpa ⊢
        simp only [wrap64]; omega
      rw [e1, e3, e2, HN.out]
      simp only [wrap64]
      omega
    · have e0 : ((b : Int) != 0) = true := by rw [bne_iff_ne]; omega
      have hb0 : ¬ (b : Int) = 0 := by omega
      have hm : (a : Int).tmod (b : Int) = ((a % b : Nat) : Int) := rfl
      have hlt := Nat.mod_lt a h0
      go_wp2_with fail
      go_region
      go_wp2_with fail
      go_roundw
      case rel => exact ⟨b, a % b, rfl, by simp, hb, by omega, Lib.hid (by rw [Nat.gcd_comm, ← Nat.gcd_rec, Nat.gcd_comm]; exact hg.out), hx.trans (by repeat (first | with_reducible assumption | with_reducible exact Ext.refl _ | with_reducible refine Ext.drewN ?_ _ | with_reducible refine Ext.drew ?_ | with_reducible refine Ext.alloc ?_ _ | (with_reducible refine Ext.setCell ?_ ?_ _; rotate_left; (first | exact Nat.le_refl _ | (dsimp only; omega) | (simp only [wsz]; omega))) | (with_reducible refine Ext.trans ?_ (by with_reducible assumption))))⟩
      case measure => simp [intOf] <;> omega

theorem bool_row {l m : List Bool} {k : Nat} (hk : k < l.length) (hm : k < m.length) (h : l.take k = m.take k) (e : bth l k = bth m k) : l.take (k + 1) = m.take (k + 1) := by
  rw [List.take_succ_eq_append_getElem hk, List.take_succ_eq_append_getElem hm, h, ← bth_eq l k hk, ← bth_eq m k hm, e]

set_option maxHeartbeats 800000 in
theorem equal_c {A B : Option Addr} {c d : Nat} {l m : List Bool} {w : World} {X Y : Nat → Prop} (hl : Rl w X A c l) (hm : Rl w Y B d m) :
    Calls Try.prog 138 #[.slice A l.length c, .slice B m.length d] w fun e w' => e = .returned (.bool (decide (l = m))) ∧ Ext w w' := by
  have hlm := hl.2.1; have hlc := hl.1
  have hmm := hm.2.1; have hmc := hm.1
  simp only [maxLen] at hlm hmm
  go_enter Try.func138, Try.ntmps138
  by_cases hlen : l.length = m.length
  · have e0 : ((l.length : Int) != (m.length : Int)) = false := by rw [hlen]; simp
    have HL := Lib.hid hlen
    clear hlen
    go_wp2_with fail
    go_loopw [13] (fun iv wr => ∃ k : Nat, k ≤ l.length ∧ iv = .int .i64 k ∧ Hid (l.take k = m.take k) ∧ Ext w wr) (fun iv _ => l.length - (intOf iv).toNat)
    case atStart => exact ⟨0, Nat.zero_le _, rfl, Lib.hid (by simp), Ext.refl _⟩
    case round =>
      obtain ⟨k, hk, rfl, he, hx⟩ := hrel
      by_cases hlt : k < l.length
      · obtain ⟨b, o, rfl, -, hc⟩ := Rl.at_ (Sl.keep hl (.of_ext hx)) hlt
        have hmk : k < m.length := by rw [← HL.out]; exact hlt
        obtain ⟨b', o', rfl, -, hc'⟩ := Rl.at_ (Sl.keep hm (.of_ext hx)) hmk
        have hb := World.block_lt_of_cell? _ _ hc
        have hb' := World.block_lt_of_cell? _ _ hc'
        have kl : (k : Int) < (l.length : Int) := by omega
        have km : (k : Int) < (m.length : Int) := by omega
        rcases hxl : bth l k with _ | _ <;> rcases hyl : bth m k with _ | _
        · rw [hxl] at hc
          rw [hyl] at hc'
          have HB : Hid (bth l k = bth m k) := Lib.hid (by rw [hxl, hyl])
          clear hxl hyl
          go_wp2_with fail
          refine wp_region_seq 9 [(0, true), (1, true), (2, true), (3, true), (4, true), (5, true), (6, true), (7, true), (8, true)] rfl (by kernel_rfl) (by intro _ _ d _ _ h; cases d <;> exact h) ?_
          (repeat (refine sq_take (v := ?_) rfl rfl ?_ ?_; rotate_left; (intro w' hx'; have hc' := hx'.cells.1; (try simp only [wcd] at hc'); go_simp; (first | done | with_reducible rfl)); (try simp only [Act.put, List.setIfInBounds_toArray, List.set_cons_zero, List.set_cons_succ])))
          refine sq_done ?_
          go_wp2_with fail
          go_roundw
          case rel => exact ⟨k + 1, by omega, by go_num, Lib.hid (bool_row hlt hmk he.out HB.out), hx.trans (by repeat (first | with_reducible assumption | with_reducible exact Ext.refl _ | with_reducible refine Ext.drewN ?_ _ | with_reducible refine Ext.drew ?_ | with_reducible refine Ext.alloc ?_ _ | (with_reducible refine Ext.setCell ?_ ?_ _; rotate_left; (first | exact Nat.le_refl _ | (dsimp only; omega) | (simp only [wsz]; omega))) | (with_reducible refine Ext.trans ?_ (by with_reducible assumption))))⟩
          case measure => simp [intOf] <;> omega
        · rw [hxl] at hc
          rw [hyl] at hc'
          have HB : Hid (¬ bth l k = bth m k) := Lib.hid (by rw [hxl, hyl]; simp)
          clear hxl hyl
          go_wp2_with fail
          refine wp_region_seq 9 [(0, true), (1, true), (2, true), (3, true), (4, true), (5, true), (6, true), (7, true), (8, true)] rfl (by kernel_rfl) (by intro _ _ d _ _ h; cases d <;> exact h) ?_
          (repeat (refine sq_take (v := ?_) rfl rfl ?_ ?_; rotate_left; (intro w' hx'; have hc' := hx'.cells.1; (try simp only [wcd] at hc'); go_simp; (first | done | with_reducible rfl)); (try simp only [Act.put, List.setIfInBounds_toArray, List.set_cons_zero, List.set_cons_succ])))
          refine sq_done ?_
          go_wp2_with fail
          go_ret
          refine ⟨ret_bool ?_, hx.trans (by repeat (first | with_reducible assumption | with_reducible exact Ext.refl _ | with_reducible refine Ext.drewN ?_ _ | with_reducible refine Ext.drew ?_ | with_reducible refine Ext.alloc ?_ _ | (with_reducible refine Ext.setCell ?_ ?_ _; rotate_left; (first | exact Nat.le_refl _ | (dsimp only; omega) | (simp only [wsz]; omega))) | (with_reducible refine Ext.trans ?_ (by with_reducible assumption))))⟩
          rw [eq_comm, decide_eq_false_iff_not]
          intro e
          subst e
          exact HB.out rfl
        · rw [hxl] at hc
          rw [hyl] at hc'
          have HB : Hid (¬ bth l k = bth m k) := Lib.hid (by rw [hxl, hyl]; simp)
          clear hxl hyl
          go_wp2_with fail
          refine wp_region_seq 9 [(0, true), (1, true), (2, true), (3, true), (4, true), (5, true), (6, true), (7, true), (8, true)] rfl (by kernel_rfl) (by intro _ _ d _ _ h; cases d <;> exact h) ?_
          (repeat (refine sq_take (v := ?_) rfl rfl ?_ ?_; rotate_left; (intro w' hx'; have hc' := hx'.cells.1; (try simp only [wcd] at hc'); go_simp; (first | done | with_reducible rfl)); (try simp only [Act.put, List.setIfInBounds_toArray, List.set_cons_zero, List.set_cons_succ])))
          refine sq_done ?_
          go_wp2_with fail
          go_ret
          refine ⟨ret_bool ?_, hx.trans (by repeat (first | with_reducible assumption | with_reducible exact Ext.refl _ | with_reducible refine Ext.drewN ?_ _ | with_reducible refine Ext.drew ?_ | with_reducible refine Ext.alloc ?_ _ | (with_reducible refine Ext.setCell ?_ ?_ _; rotate_left; (first | exact Nat.le_refl _ | (dsimp only; omega) | (simp only [wsz]; omega))) | (with_reducible refine Ext.trans ?_ (by with_reducible assumption))))⟩
          rw [eq_comm, decide_eq_false_iff_not]
          intro e
          subst e
          exact HB.out rfl
        · rw [hxl] at hc
          rw [hyl] at hc'
          have HB : Hid (bth l k = bth m k) := Lib.hid (by rw [hxl, hyl])
          clear hxl hyl
          go_wp2_with fail
          refine wp_region_seq 9 [(0, true), (1, true), (2, true), (3, true), (4, true), (5, true), (6, true), (7, true), (8, true)] rfl (by kernel_rfl) (by intro _ _ d _ _ h; cases d <;> exact h) ?_
          (repeat (refine sq_take (v := ?_) rfl rfl ?_ ?_; rotate_left; (intro w' hx'; have hc' := hx'.cells.1; (try simp only [wcd] at hc'); go_simp; (first | done | with_reducible rfl)); (try simp only [Act.put, List.setIfInBounds_toArray, List.set_cons_zero, List.set_cons_succ])))
          refine sq_done ?_
          go_wp2_with fail
          go_roundw
          case rel => exact ⟨k + 1, by omega, by go_num, Lib.hid (bool_row hlt hmk he.out HB.out), hx.trans (by repeat (first | with_reducible assumption | with_reducible exact Ext.refl _ | with_reducible refine Ext.drewN ?_ _ | with_reducible refine Ext.drew ?_ | with_reducible refine Ext.alloc ?_ _ | (with_reducible refine Ext.setCell ?_ ?_ _; rotate_left; (first | exact Nat.le_refl _ | (dsimp only; omega) | (simp only [wsz]; omega))) | (with_reducible refine Ext.trans ?_ (by with_reducible assumption))))⟩
          case measure => simp [intOf] <;> omega
      · obtain rfl : k = l.length := by omega
        go_wp2_with fail
        go_ret
        refine ⟨ret_bool ?_, hx⟩
        rw [eq_comm, decide_eq_true_eq]
        have h1 := he.out
        rw [List.take_length] at h1
        rw [h1, HL.out, List.take_length]
  · have e0 : ((l.length : Int) != (m.length : Int)) = true := by rw [bne_iff_ne]; omega
    have HL := Lib.hid hlen
    clear hlen
    go_wp2_with fail
    go_ret
    refine ⟨ret_bool ?_, Ext.refl _⟩
    rw [eq_comm, decide_eq_false_iff_not]
    exact fun e => HL.out (by rw [e])

end Go.Proofs.Ytbblgjjomgipfaa
