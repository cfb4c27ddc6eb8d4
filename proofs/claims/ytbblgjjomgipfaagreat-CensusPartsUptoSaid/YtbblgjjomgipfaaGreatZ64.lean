/- zint.Int64. No conditions. -/
import Derived.Test.YtbblgjjomgipfaaGreatZdiv
namespace Go.Proofs.YtbblgjjomgipfaaGreat
open Go.RowKit

theorem u64_or2 (a b : Nat) (ha : a < 4294967296) (hb : b < 4294967296) : bits .or .u64 (b : Int) ((a : Int) * 4294967296) = ((a * 4294967296 + b : Nat) : Int) := by
  have h := u64_or_nat b (a * 4294967296) (by omega) (by omega)
  have h2 : ((a * 4294967296 : Nat) : Int) = (a : Int) * 4294967296 := by omega
  rw [h2] at h
  rw [h]
  congr 1
  rw [Nat.or_comm]
  have := Nat.two_pow_add_eq_or_of_lt (i := 32) (b := b) (by omega) a
  rw [show a * 4294967296 = 2 ^ 32 * a from by omega]
  exact this.symm
theorem u64_or0 (a : Nat) (ha : a < 18446744073709551616) : bits .or .u64 (0 : Int) (a : Int) = (a : Int) := by
  have h := u64_or_nat 0 a (by omega) ha
  simpa using h

theorem nv_take2 {l : List Nat} : nv (l.take 0) = 0 ∧ nv (l.take 1) = nth l 0 ∧ nv (l.take 2) = nth l 0 + 4294967296 * nth l 1 := by
  refine ⟨by simp [nv], ?_, ?_⟩
  · rw [nv_take_succ' l 0]; simp [nv, pw_zero]
  · rw [nv_take_succ' l 1, nv_take_succ' l 0]; simp [nv, pw_zero, pw_succ]

/-- What Int64 tells of x. -/
def i64v (x : Int) : Int := if -9223372036854775808 ≤ x ∧ x ≤ 9223372036854775807 then x else 0
def i64b (x : Int) : Bool := decide (-9223372036854775808 ≤ x ∧ x ≤ 9223372036854775807)
theorem i64_in {x : Int} (h : i64 x) : i64v x = x ∧ i64b x = true := ⟨if_pos h, decide_eq_true h⟩
theorem i64_out {x : Int} (h : ¬ i64 x) : i64v x = 0 ∧ i64b x = false := ⟨if_neg h, decide_eq_false h⟩
theorem ret_in {x n : Int} (h : i64 x) (e : n = x) : Ending.returned (.tuple #[.int .i64 n, .bool true]) = .returned (.tuple #[.int .i64 (i64v x), .bool (i64b x)]) := by rw [(i64_in h).1, (i64_in h).2, e]
theorem ret_out {x : Int} (h : ¬ i64 x) : Ending.returned (.tuple #[.int .i64 0, .bool false]) = .returned (.tuple #[.int .i64 (i64v x), .bool (i64b x)]) := by rw [(i64_out h).1, (i64_out h).2]

set_option maxHeartbeats 1600000 in
theorem zint64_c {v : Value} {z : Z} {w : World} {X : Nat → Prop} (h : Zi w X v z) (hL : z.mag.length ≤ 4398046511104) :
    Calls Tryz.prog 82 #[v] w fun e w' => e = .returned (.tuple #[.int .i64 (i64v z.v), .bool (i64b z.v)]) ∧ Ext w w' := by
  have hn := fun W (h' : Ext w W) => znorm_c (h.ext h') hL
  generalize z.v = x at hn ⊢
  have e2 : cz x = ⟨decide (x < 0), lim x.natAbs⟩ := rfl
  rw [e2] at hn
  clear e2
  have hpw := lt_pw_lim x.natAbs
  have hnv := nv_lim x.natAbs
  obtain ⟨m, hm⟩ : ∃ m, m = lim x.natAbs := ⟨_, rfl⟩
  obtain ⟨s, hs⟩ : ∃ s, s = decide (x < 0) := ⟨_, rfl⟩
  have hbig : 2 < m.length → 18446744073709551616 ≤ x.natAbs := fun h => by
    have := pw_le_of_lim (n := x.natAbs) (k := 2) (by rw [← hm]; exact h)
    rw [pw_succ, pw_succ, pw_zero] at this
    omega
  rw [← hm] at hn hpw hnv
  rw [← hs] at hn
  have Hm := Lib.hid hm; have Hs := Lib.hid hs; have Hnv := Lib.hid hnv; have Hpw := Lib.hid hpw
  clear hm hs hnv hpw
  obtain ⟨A, c, rfl, h⟩ := h
  go_enter Tryz.func82, Tryz.ntmps82
  go_wp2_with fail
  refine (hn _ (by repeat (first | with_reducible assumption | with_reducible exact Ext.refl _ | with_reducible refine Ext.drewN ?_ _ | with_reducible refine Ext.drew ?_ | with_reducible refine Ext.alloc ?_ _ | (with_reducible refine Ext.setCell ?_ ?_ _; rotate_left; (first | exact Nat.le_refl _ | (dsimp only; omega) | (simp only [wsz]; omega))) | (with_reducible refine Ext.trans ?_ (by with_reducible assumption))))).mono ?_
  rintro e w1 ⟨r1, rfl, ⟨A1, c1, rfl, hN1⟩, hx1⟩
  (have b1 := Box.ext (g := w.heap.size) (by repeat (first | with_reducible assumption | with_reducible exact Box.new _ _ _ | (with_reducible refine Box.new_at _ _ _ ?_; (simp only [wsz]; done)) | with_reducible refine Box.drewN ?_ _ | with_reducible refine Box.drew ?_ | with_reducible refine Box.alloc ?_ _ | with_reducible apply Box.drewN | with_reducible apply Box.drew | with_reducible apply Box.alloc | with_reducible refine Box.set_ ?_ _ _ | (with_reducible refine Box.far ?_ ?_ _; rotate_left; (simp only [ne_eq]; omega)) | (with_reducible refine Box.ext ?_ (by with_reducible assumption)) | (refine Box.new_at _ _ _ ?_; simp only [wsz]; done))) hx1; have b1r := b1.rules; have b1l := b1.lt)
  have hE1 : Ext w w1 := (by repeat (first | with_reducible assumption | with_reducible exact Ext.refl _ | with_reducible refine Ext.drewN ?_ _ | with_reducible refine Ext.drew ?_ | with_reducible refine Ext.alloc ?_ _ | (with_reducible refine Ext.setCell ?_ ?_ _; rotate_left; (first | exact Nat.le_refl _ | (dsimp only; omega) | (simp only [wsz]; omega))) | (with_reducible refine Ext.trans ?_ (by with_reducible assumption))))
  (have hs1 := Ext.size hx1; (try simp only [wsz] at hs1))
  by_cases hlen : 2 < m.length
  · have hl : (2 : Int) < (m.length : Int) := by omega
    have hb := hbig hlen
    go_wp2_with fail
    (refine bodyPost_ret (v := ?_) ?_ rfl ?_; rotate_left; (simp only [results, Tryz.results82]; go_simp; (first | done | with_reducible rfl)))
    refine ⟨ret_out ?_, (by repeat (first | with_reducible assumption | with_reducible exact Ext.refl _ | with_reducible refine Ext.drewN ?_ _ | with_reducible refine Ext.drew ?_ | with_reducible refine Ext.alloc ?_ _ | (with_reducible refine Ext.setCell ?_ ?_ _; rotate_left; (first | exact Nat.le_refl _ | (dsimp only; omega) | (simp only [wsz]; omega))) | (with_reducible refine Ext.trans ?_ (by with_reducible assumption))))⟩
    rintro ⟨h2, h3⟩
    omega
  · have hl : ¬ (2 : Int) < (m.length : Int) := by omega
    go_wp2_with fail
    refine wp_named fun V hV => ?_
    have kV : Kp (w.heap.size < ·) w1 V := by rw [hV]; exact (by repeat (first | with_reducible exact Kp.refl _ | with_reducible refine Kp.drewN ?_ _ | with_reducible refine Kp.drew ?_ | with_reducible refine Kp.alloc ?_ _ | (with_reducible refine Kp.setCell ?_ ?_ _; rotate_left; (first | (dsimp only; omega) | (simp only [wsz]; omega))) | (with_reducible exact Kp.of_ext (by with_reducible assumption)) | (with_reducible refine Kp.ext ?_ (by with_reducible assumption))))
    have p1 : Box V w.heap.size 25 #[.bool s, .slice A1 m.length c1] := by rw [hV]; exact (b1.set_ 0 _).set_ 1 _
    have hEV : Ext w V := by rw [hV]; exact (by repeat (first | with_reducible assumption | with_reducible exact Ext.refl _ | with_reducible refine Ext.drewN ?_ _ | with_reducible refine Ext.drew ?_ | with_reducible refine Ext.alloc ?_ _ | (with_reducible refine Ext.setCell ?_ ?_ _; rotate_left; (first | exact Nat.le_refl _ | (dsimp only; omega) | (simp only [wsz]; omega))) | (with_reducible refine Ext.trans ?_ (by with_reducible assumption))))
    have hN1 := (hN1.widen (Y := (w.heap.size < ·)) fun c hc _ => by simp only [wsz] at hc; omega).keep kV
    clear hV kV b1 b1r b1l hx1
    go_loopw [4, 17] (fun uv iv wr => ∃ k : Nat, k ≤ m.length ∧ iv = .int .i64 k ∧ uv = .int .u64 ((nv (m.take k) : Nat) : Int) ∧ Ext V wr) (fun _ iv _ => m.length - (intOf iv).toNat)
    case atStart => exact ⟨0, Nat.zero_le _, rfl, by simp [nv], Ext.refl _⟩
    case round =>
      obtain ⟨k, hk, rfl, rfl, hxr⟩ := hrel
      have q1 := p1.ext hxr
      have q1r := q1.rules; have q1l := q1.lt
      have hNr := hN1.ext hxr
      by_cases hlt : k < m.length
      · obtain ⟨b, o, rfl, -, hc, hb⟩ := hNr.at_ hlt
        have c0 := hc k hlt
        clear hc
        have kl : (k : Int) < (m.length : Int) := by omega
        have hk2 : k = 0 ∨ k = 1 := by omega
        have ht := nv_take2 (l := m)
        rcases hk2 with rfl | rfl
        · have eo := u64_or0 (nth m 0) (by omega)
          rw [ht.1]
          simp only [Nat.add_zero] at c0
          go_wp2_with fail
          go_roundw
          case rel => exact ⟨1, by omega, rfl, by rw [ht.2.1], (by repeat (first | with_reducible assumption | with_reducible exact Ext.refl _ | with_reducible refine Ext.drewN ?_ _ | with_reducible refine Ext.drew ?_ | with_reducible refine Ext.alloc ?_ _ | (with_reducible refine Ext.setCell ?_ ?_ _; rotate_left; (first | exact Nat.le_refl _ | (dsimp only; omega) | (simp only [wsz]; omega))) | (with_reducible refine Ext.trans ?_ (by with_reducible assumption))))⟩
          case measure => simp [intOf] <;> omega
        · have h0 : nth m 0 < 4294967296 := hN1.lb.nth 0
          have eo := u64_or2 (nth m 1) (nth m 0) hb h0
          have e1 : nv (m.take 1) = nth m 0 := ht.2.1
          rw [e1]
          go_wp2_with fail
          go_roundw
          case rel =>
            refine ⟨2, by omega, by go_num, ?_, (by repeat (first | with_reducible assumption | with_reducible exact Ext.refl _ | with_reducible refine Ext.drewN ?_ _ | with_reducible refine Ext.drew ?_ | with_reducible refine Ext.alloc ?_ _ | (with_reducible refine Ext.setCell ?_ ?_ _; rotate_left; (first | exact Nat.le_refl _ | (dsimp only; omega) | (simp only [wsz]; omega))) | (with_reducible refine Ext.trans ?_ (by with_reducible assumption))))⟩
            rw [ht.2.2]
            congr 1
            omega
          case measure => simp [intOf] <;> omega
      · obtain rfl : k = m.length := by omega
        rw [nv_take_ge m _ (Nat.le_refl _)]
        have hn1 := Hnv.out
        have hn2 : x.natAbs < 18446744073709551616 := by
          have h1 := Hpw.out
          have h2 : pw m.length ≤ pw 2 := pw_mono (by omega)
          rw [pw_succ, pw_succ, pw_zero] at h2
          omega
        obtain ⟨n, hn0⟩ : ∃ n, n = nv m := ⟨_, rfl⟩
        rw [← hn0] at hn1 ⊢
        rw [← hn1] at hn2
        have Hn := Lib.hid hn1; have hs := Hs.out
        have Hxr := hEV.trans hxr
        clear hn0 hn1 hn Hs Hnv Hpw Hm hbig
        cases s with
        | true =>
          have hx0 : x < 0 := of_decide_eq_true hs.symm
          by_cases hle : n ≤ 9223372036854775808
          · have hli : (n : Int) ≤ 9223372036854775808 := by omega
            have Hx := Lib.hid hx0; clear hx0 hs
            go_wp2_with fail
            (refine bodyPost_ret (v := ?_) ?_ rfl ?_; rotate_left; (simp only [results, Tryz.results82]; go_simp; (first | done | with_reducible rfl)))
            refine ⟨ret_in ?_ ?_, Hxr.trans (by repeat (first | with_reducible assumption | with_reducible exact Ext.refl _ | with_reducible refine Ext.drewN ?_ _ | with_reducible refine Ext.drew ?_ | with_reducible refine Ext.alloc ?_ _ | (with_reducible refine Ext.setCell ?_ ?_ _; rotate_left; (first | exact Nat.le_refl _ | (dsimp only; omega) | (simp only [wsz]; omega))) | (with_reducible refine Ext.trans ?_ (by with_reducible assumption))))⟩
            · have := Hn.out; have := Hx.out
              exact ⟨by omega, by omega⟩
            · have := Hn.out; have := Hx.out; first | omega | (simp only [wrap64]; omega)
          · have hli : ¬ (n : Int) ≤ 9223372036854775808 := by omega
            have Hx := Lib.hid hx0; clear hx0 hs
            go_wp2_with fail
            (refine bodyPost_ret (v := ?_) ?_ rfl ?_; rotate_left; (simp only [results, Tryz.results82]; go_simp; (first | done | with_reducible rfl)))
            refine ⟨ret_out ?_, Hxr.trans (by repeat (first | with_reducible assumption | with_reducible exact Ext.refl _ | with_reducible refine Ext.drewN ?_ _ | with_reducible refine Ext.drew ?_ | with_reducible refine Ext.alloc ?_ _ | (with_reducible refine Ext.setCell ?_ ?_ _; rotate_left; (first | exact Nat.le_refl _ | (dsimp only; omega) | (simp only [wsz]; omega))) | (with_reducible refine Ext.trans ?_ (by with_reducible assumption))))⟩
            rintro ⟨h2, h3⟩
            have := Hn.out; have := Hx.out; omega
        | false =>
          have hx0 : ¬ x < 0 := of_decide_eq_false hs.symm
          by_cases hle : n < 9223372036854775808
          · have ew : wrap64 (n : Int) = (n : Int) := by simp only [wrap64]; omega
            have hli : (0 : Int) ≤ (n : Int) := by omega
            have Hx := Lib.hid hx0; clear hx0 hs
            go_wp2_with fail
            (refine bodyPost_ret (v := ?_) ?_ rfl ?_; rotate_left; (simp only [results, Tryz.results82]; go_simp; (first | done | with_reducible rfl)))
            refine ⟨ret_in ?_ ?_, Hxr.trans (by repeat (first | with_reducible assumption | with_reducible exact Ext.refl _ | with_reducible refine Ext.drewN ?_ _ | with_reducible refine Ext.drew ?_ | with_reducible refine Ext.alloc ?_ _ | (with_reducible refine Ext.setCell ?_ ?_ _; rotate_left; (first | exact Nat.le_refl _ | (dsimp only; omega) | (simp only [wsz]; omega))) | (with_reducible refine Ext.trans ?_ (by with_reducible assumption))))⟩
            · have := Hn.out; have := Hx.out
              exact ⟨by omega, by omega⟩
            · have := Hn.out; have := Hx.out; first | omega | (simp only [wrap64]; omega)
          · have hli : ¬ (0 : Int) ≤ wrap64 (n : Int) := by simp only [wrap64]; omega
            have Hx := Lib.hid hx0; clear hx0 hs
            go_wp2_with fail
            (refine bodyPost_ret (v := ?_) ?_ rfl ?_; rotate_left; (simp only [results, Tryz.results82]; go_simp; (first | done | with_reducible rfl)))
            refine ⟨ret_out ?_, Hxr.trans (by repeat (first | with_reducible assumption | with_reducible exact Ext.refl _ | with_reducible refine Ext.drewN ?_ _ | with_reducible refine Ext.drew ?_ | with_reducible refine Ext.alloc ?_ _ | (with_reducible refine Ext.setCell ?_ ?_ _; rotate_left; (first | exact Nat.le_refl _ | (dsimp only; omega) | (simp only [wsz]; omega))) | (with_reducible refine Ext.trans ?_ (by with_reducible assumption))))⟩
            rintro ⟨h2, h3⟩
            have := Hn.out; have := Hx.out; omega

end Go.Proofs.YtbblgjjomgipfaaGreat
