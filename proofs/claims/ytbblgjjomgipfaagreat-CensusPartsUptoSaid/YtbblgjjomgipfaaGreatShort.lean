/- nat.short; nat.DivMod by one limb. No conditions. -/
import Derived.Test.YtbblgjjomgipfaaGreatZint
import Derived.Test.YtbblgjjomgipfaaGreatReg
namespace Go.Proofs.YtbblgjjomgipfaaGreat
open Go.RowKit

/-- One limb more, from the top. -/
theorem short_step {a q : List Nat} {b i r : Nat} (hb : 0 < b) (hi : i < a.length) (hq : i < q.length) (h1 : nv (q.drop (i + 1)) = nv (a.drop (i + 1)) / b) (h2 : r = nv (a.drop (i + 1)) % b) :
    nv ((q.set i ((r * 4294967296 + nth a i) / b)).drop i) = nv (a.drop i) / b ∧ (r * 4294967296 + nth a i) % b = nv (a.drop i) % b := by
  have e1 : nv (a.drop i) = r * 4294967296 + nth a i + b * (4294967296 * (nv (a.drop (i + 1)) / b)) := by
    rw [nv_drop a i hi]
    have h3 := Nat.div_add_mod (nv (a.drop (i + 1))) b
    rw [← h2] at h3
    have h4 : 4294967296 * nv (a.drop (i + 1)) = 4294967296 * (b * (nv (a.drop (i + 1)) / b)) + 4294967296 * r := by rw [← Nat.mul_add, h3]
    have h5 : b * (4294967296 * (nv (a.drop (i + 1)) / b)) = 4294967296 * (b * (nv (a.drop (i + 1)) / b)) := by
      rw [← Nat.mul_assoc, Nat.mul_comm b 4294967296, Nat.mul_assoc]
    omega
  have e2 : nth (q.set i ((r * 4294967296 + nth a i) / b)) i = (r * 4294967296 + nth a i) / b := by
    rw [nth_eq _ _ (by rw [List.length_set]; exact hq), List.getElem_set_self]
  have e3 : (q.set i ((r * 4294967296 + nth a i) / b)).drop (i + 1) = q.drop (i + 1) := by
    rw [List.drop_set_of_lt (by omega)]
  refine ⟨?_, ?_⟩
  · rw [nv_drop _ i (by rw [List.length_set]; exact hq), e2, e3, h1, e1, Nat.add_mul_div_left _ _ hb]
  · rw [e1, Nat.add_mul_mod_self_left]

theorem i64_wr (n : Nat) (h : n < 4611686018427387904) : IntKind.i64.wrap ((n : Int) - 1) = (n : Int) - 1 := by
  simp only [IntKind.wrap, IntKind.signed, IntKind.bits]
  simp
  omega
theorem u64_or (a b : Nat) (ha : a < 4294967296) (hb : b < 4294967296) : bits .or .u64 ((a * 4294967296 : Nat) : Int) (b : Int) = ((a * 4294967296 + b : Nat) : Int) := by
  have h := u64_or_nat (a * 4294967296) b (by omega) (by omega)
  rw [h]
  congr 1
  have := Nat.two_pow_add_eq_or_of_lt (i := 32) (b := b) (by omega) a
  rw [show a * 4294967296 = 2 ^ 32 * a from by omega]
  exact this.symm

set_option maxHeartbeats 800000 in
theorem short_c {A : Option Addr} {c : Nat} {a : List Nat} {w : World} {X : Nat → Prop} {b : Nat} (ha : Nl w X A c a) (hb0 : 0 < b) (hb : b < 4294967296) (hL : a.length ≤ 1099511627776) :
    Calls Tryz.prog 123 #[.slice A a.length c, .int .u32 (b : Int)] w fun e w' => ∃ A' c', e = .returned (.tuple #[.slice A' (lim (nv a / b)).length c', .int .u32 ((nv a % b : Nat) : Int)]) ∧ Nl w' (w.heap.size ≤ ·) A' c' (lim (nv a / b)) ∧ Ext w w' := by
  have hlb := ha.lb
  go_enter Tryz.func123, Tryz.ntmps123
  go_wp2_with (at_make; refine wpList_makeu (.tmp 10) (.tmp 10) _ a.length (Nat.le_refl _) (by omega) rfl rfl rfl rfl rfl rfl ?_; intro w1 hown hx1)
  go_loopw [7, 8] (fun rv iv wr => ∃ (j r : Nat) (q : List Nat), j ≤ a.length ∧ iv = .int .i64 ((j : Int) - 1) ∧ rv = .int .u64 (r : Int) ∧ r < b ∧ q.length = a.length ∧ Nown wr w.heap.size (.slice (some ⟨w.heap.size, 0, none⟩) a.length a.length) q ∧
      Hid (nv (q.drop j) = nv (a.drop j) / b) ∧ Hid (r = nv (a.drop j) % b) ∧ Ext w wr) (fun _ iv _ => (intOf iv + 1).toNat)
  case atStart => exact ⟨a.length, 0, List.replicate a.length 0, Nat.le_refl _, rfl, rfl, hb0, by simp, hown, Lib.hid (by simp [nv]), Lib.hid (by simp [nv]), hx1⟩
  case round =>
    obtain ⟨j, r, q, hj, rfl, rfl, hr, hq, ho, h1, h2, hx⟩ := hrel
    have Hq := Lib.hid hq
    have hq' : a.length ≤ q.length := by omega
    clear hq
    match j, hj, h1, h2 with
    | 0, hj, h1, h2 =>
      have H1 := h1.out
      simp only [List.drop_zero] at H1
      have H2 := h2.out
      simp only [List.drop_zero] at H2
      obtain ⟨e1, hnl⟩ := ho.nl'
      have hc := own_c hnl (by rw [← e1]; omega)
      rw [H1, ← e1] at hc
      clear e1 h1 H1
      have HR := Lib.hid H2; clear H2
      have i1 : ¬ (0 : Int) ≤ ((0 : Nat) : Int) - 1 := by omega
      go_wp2_with fail
      refine hc.mono ?_
      rintro e w2 ⟨A2, c2, rfl, h5, hx2⟩
      go_wp2
      (refine bodyPost_ret (v := ?_) ?_ rfl ?_; rotate_left; (simp only [results, Tryz.results123]; go_simp; (first | done | with_reducible rfl)))
      have hsz := hx.size
      exact ⟨A2, c2, by rw [← HR.out], h5.widen fun b hb _ => by omega, hx.trans hx2⟩
    | i + 1, hj, h1, h2 =>
      obtain ⟨b1, o1, rfl, _, hc1, hn1⟩ := (ha.ext hx).at_ (k := i) (by omega)
      have c1' := hc1 i (by omega)
      clear hc1
      obtain ⟨hco, hfo⟩ := ho.cell i (by omega)
      have i1 : (0 : Int) ≤ ((i + 1 : Nat) : Int) - 1 := by omega
      have e1 : ((i + 1 : Nat) : Int) - 1 = (i : Int) := by omega
      have il : (i : Int) < (a.length : Int) := by omega
      have ew := i64_wr i (by omega)
      obtain ⟨s1, s2⟩ := short_step (q := q) hb0 (show i < a.length by omega) (by omega) h1.out h2.out
      have S1 := Lib.hid s1; have S2 := Lib.hid s2
      clear s1 s2 h1 h2
      obtain ⟨x, hx0⟩ : ∃ x, x = r * 4294967296 + nth a i := ⟨_, rfl⟩
      rw [← hx0] at S1 S2
      have eo : bits .or .u64 ((r : Int) * 4294967296) (nth a i : Int) = (x : Int) := by
        rw [hx0, ← u64_or r (nth a i) (by omega) hn1]
        rfl
      have hxb : x < 4294967296 * b := by
        have : r * 4294967296 + 4294967296 ≤ b * 4294967296 := by
          have := Nat.mul_le_mul_right 4294967296 (show r + 1 ≤ b from hr)
          omega
        omega
      have hr2 : x % b < b := Nat.mod_lt _ hb0
      have hd2 : x / b < 4294967296 := Nat.div_lt_of_lt_mul (by rw [Nat.mul_comm]; exact hxb)
      clear hx0 hxb
      obtain ⟨d, hd⟩ : ∃ d, d = x / b := ⟨_, rfl⟩
      obtain ⟨m, hm⟩ : ∃ m, m = x % b := ⟨_, rfl⟩
      have ed : IntKind.u64.wrap ((x : Int).tdiv (b : Int)) % 4294967296 = (d : Int) := by
        have h1 : (x : Int).tdiv (b : Int) = (d : Int) := by rw [hd]; rfl
        rw [h1]
        simp only [IntKind.wrap, IntKind.signed, IntKind.bits]
        simp
        omega
      have em : (x : Int).tmod (b : Int) = (m : Int) := by rw [hm]; rfl
      rw [← hd] at S1 hd2
      rw [← hm] at S2 hr2
      clear hd hm
      rw [e1]
      go_wp2_with fail
      go_roundw
      case rel => exact ⟨i, m, q.set i d, by omega, rfl, rfl, hr2, by rw [List.length_set]; exact Hq.out, ho.set i (by simpa using ed) hd2, Lib.hid S1.out, Lib.hid S2.out, (by repeat (first | with_reducible assumption | with_reducible exact Ext.refl _ | with_reducible refine Ext.drewN ?_ _ | with_reducible refine Ext.drew ?_ | with_reducible refine Ext.alloc ?_ _ | (with_reducible refine Ext.setCell ?_ ?_ _; rotate_left; (first | exact Nat.le_refl _ | (dsimp only; omega) | (simp only [wsz]; omega))) | (with_reducible refine Ext.trans ?_ (by with_reducible assumption))))⟩
      case measure => simp [intOf] <;> omega

theorem lim_one {n : Nat} (h0 : 0 < n) (h1 : n < 4294967296) : lim n = [n] := by
  rw [lim_pos (by omega), Nat.mod_eq_of_lt h1, Nat.div_eq_of_lt h1, lim_zero]

set_option maxHeartbeats 800000 in
theorem div1_c {A B : Option Addr} {c d : Nat} {a b : List Nat} {w : World} {X Y : Nat → Prop} (ha : Nl w X A c a) (hb : Nl w Y B d b) (h0 : 0 < nv b) (h1 : nv b < 4294967296) (hL : a.length ≤ 1099511627776) :
    Calls Tryz.prog 110 #[.slice A a.length c, .slice B b.length d] w fun e w' => ∃ A1 c1 A2 c2, e = .returned (.tuple #[.slice A1 (lim (nv a / nv b)).length c1, .slice A2 (lim (nv a % nv b)).length c2, .int .i64 0]) ∧
      Nl w' (w.heap.size ≤ ·) A1 c1 (lim (nv a / nv b)) ∧ Nl w' (w.heap.size ≤ ·) A2 c2 (lim (nv a % nv b)) ∧ Ext w w' := by
  have hla := lim_len_le ha.lb
  have e1 := lim_one h0 h1
  have hl1 : (lim (nv b)).length = 1 := by rw [e1]; rfl
  go_enter Tryz.func110, Tryz.ntmps110
  go_wp2_with fail
  refine (bare_c ha).mono ?_
  rintro e w1 ⟨A1, c1, rfl, h2, rfl⟩
  go_wp2_with fail
  refine (bare_c hb).mono ?_
  rintro e w1 ⟨B1, d1, rfl, h3, rfl⟩
  rw [hl1]
  rw [e1] at h3
  obtain ⟨b1, o1, rfl, -, hc, hn⟩ := h3.at_ (k := 0) (by simp)
  have c0 := hc 0 (by simp)
  simp only [nth, List.getD_cons_zero, Nat.add_zero] at c0
  clear hc hn
  have E1 := Lib.hid e1; clear e1
  have hd1 := h3.1
  simp only [List.length_singleton] at hd1
  clear hl1
  go_wp2_with fail
  refine (short_c h2 h0 h1 (by omega)).mono ?_
  simp only [nv_lim]
  rintro e w2 ⟨A2, c2, rfl, h4, hx2⟩
  have hm : nv a % nv b < 4294967296 := Nat.lt_trans (Nat.mod_lt _ h0) h1
  obtain ⟨q, hq⟩ : ∃ q, q = nv a / nv b := ⟨_, rfl⟩
  obtain ⟨m, hm0⟩ : ∃ m, m = nv a % nv b := ⟨_, rfl⟩
  rw [← hq] at h4 ⊢
  rw [← hm0] at hm ⊢
  have HQ := Lib.hid hq; have HM := Lib.hid hm0
  clear hq hm0
  go_wp2_with fail
  refine (of_c m (by omega) _).mono ?_
  rintro e w3 ⟨A3, c3, rfl, h5, hx3⟩
  go_wp2_with fail
  (refine bodyPost_ret (v := ?_) ?_ rfl ?_; rotate_left; (simp only [results, Tryz.results110]; go_simp; (first | done | with_reducible rfl)))
  have := hx2.size
  obtain rfl := HQ.out
  obtain rfl := HM.out
  exact ⟨A2, c2, A3, c3, rfl, h4.ext (by repeat (first | with_reducible assumption | with_reducible exact Ext.refl _ | with_reducible refine Ext.drewN ?_ _ | with_reducible refine Ext.drew ?_ | with_reducible refine Ext.alloc ?_ _ | (with_reducible refine Ext.setCell ?_ ?_ _; rotate_left; (first | exact Nat.le_refl _ | (dsimp only; omega) | (simp only [wsz]; omega))) | (with_reducible refine Ext.trans ?_ (by with_reducible assumption)))), h5.widen fun b hb _ => by omega, Ext.trans hx2 (by repeat (first | with_reducible assumption | with_reducible exact Ext.refl _ | with_reducible refine Ext.drewN ?_ _ | with_reducible refine Ext.drew ?_ | with_reducible refine Ext.alloc ?_ _ | (with_reducible refine Ext.setCell ?_ ?_ _; rotate_left; (first | exact Nat.le_refl _ | (dsimp only; omega) | (simp only [wsz]; omega))) | (with_reducible refine Ext.trans ?_ (by with_reducible assumption))))⟩

end Go.Proofs.YtbblgjjomgipfaaGreat
