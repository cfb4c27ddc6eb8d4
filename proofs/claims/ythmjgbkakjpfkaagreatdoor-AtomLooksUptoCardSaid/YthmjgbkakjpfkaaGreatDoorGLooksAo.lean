/- nat.DivMod, by any number that is not 0. No conditions. -/
import Derived.Test.YthmjgbkakjpfkaaGreatDoorGLooksAm
import Derived.Test.YthmjgbkakjpfkaaGreatDoorGLooksAn
import Derived.Test.YthmjgbkakjpfkaaGreatDoorGLooksAk
import Derived.Lib.ItoaNum
import Derived.Deep.CutRange
namespace Go.Proofs.YthmjgbkakjpfkaaGreatDoor
open Go.RowKit

theorem nv_take_small {l : List Nat} {k : Nat} (h : nv l < pw k) : nv (l.take k) = nv l := by
  rcases Nat.lt_or_ge k l.length with hk | hk
  · have := nv_take_drop l k (by omega)
    rcases Nat.eq_zero_or_pos (nv (l.drop k)) with e | e
    · rw [e] at this; omega
    · have := Nat.le_mul_of_pos_right (pw k) e
      omega
  · rw [List.take_of_length_le hk]
theorem drop_ext {a b : List Nat} {k : Nat} (hl : a.length = b.length) (h : ∀ j, k ≤ j → nth a j = nth b j) : a.drop k = b.drop k := by
  apply List.ext_getElem
  · simp [hl]
  · intro i h1 h2
    simp only [List.getElem_drop]
    simp only [List.length_drop] at h1 h2
    have := h (k + i) (by omega)
    rw [nth_eq _ _ (by omega), nth_eq _ _ (by omega)] at this
    exact this
theorem kd_norm {b s bt m : Nat} {l : List Nat} (hl : Lb l) (hm : l.length = m + 1) (hb : b = nv l) (ht : bt = nth l m) (_hs : s < 32) (h1 : 2147483648 ≤ bt * 2 ^ s) (h2 : (bt + 1) * 2 ^ s ≤ 4294967296) :
    (lim (b * 2 ^ s)).length = m + 1 ∧ 2147483648 ≤ nth (lim (b * 2 ^ s)) m ∧ pw m * 2147483648 ≤ b * 2 ^ s := by
  have e : b = nv (l.take m) + pw m * bt := by rw [hb, ht, ← nv_take_succ', nv_take_ge _ _ (by omega)]
  have hlt := nv_lt (hl.take m)
  rw [List.length_take_of_le (by omega)] at hlt
  have lo : pw m * 2147483648 ≤ b * 2 ^ s := by
    refine Nat.le_trans (Nat.mul_le_mul_left _ h1) ?_
    rw [← Nat.mul_assoc]
    exact Nat.mul_le_mul_right _ (by omega)
  have hi : b * 2 ^ s < pw (m + 1) := by
    have h3 : b < pw m * (bt + 1) := by rw [Nat.mul_add, Nat.mul_one]; omega
    have h4 : b * 2 ^ s < pw m * (bt + 1) * 2 ^ s := Nat.mul_lt_mul_of_pos_right h3 (Nat.pos_of_ne_zero (by simp))
    rw [Nat.mul_assoc] at h4
    have h5 := Nat.mul_le_mul_left (pw m) h2
    rw [pw_succ]
    omega
  have hp := pw_pos m
  have len : (lim (b * 2 ^ s)).length = m + 1 := by
    have h3 := lim_pw hi
    rcases Nat.lt_or_ge (lim (b * 2 ^ s)).length (m + 1) with h4 | h4
    · have h5 := lt_pw_lim (b * 2 ^ s)
      have h6 := pw_mono (show (lim (b * 2 ^ s)).length ≤ m by omega)
      omega
    · omega
  refine ⟨len, ?_, lo⟩
  have e2 : b * 2 ^ s = nv ((lim (b * 2 ^ s)).take m) + pw m * nth (lim (b * 2 ^ s)) m := by
    rw [← nv_take_succ', nv_take_ge _ _ (by omega), nv_lim]
  have h3 := nv_lt ((lb_lim (b * 2 ^ s)).take m)
  rw [List.length_take_of_le (by omega)] at h3
  have h4 : pw m * 2147483648 < pw m * (nth (lim (b * 2 ^ s)) m + 1) := by rw [Nat.mul_add, Nat.mul_one]; omega
  have := Nat.lt_of_mul_lt_mul_left h4
  omega
theorem kd_step {u0 us out qs v : List Nat} {i m V : Nat} (hv : V = nv v) (hm : v.length = m) (hvb : Lb v) (hub : Lb us) (hlu : us.length = u0.length) (hlo : out.length = us.length) (hi : i + m + 1 ≤ us.length) (hiq : i < qs.length)
    (h2 : ∀ t, t < i + 1 → nth us t = nth u0 t) (h3 : nv (us.drop (i + 1)) < V) (h4 : nv (u0.drop (i + 1)) = V * nv (qs.drop (i + 1)) + nv (us.drop (i + 1))) :
    nv ((us.drop i).take (m + 1)) < 4294967296 * V ∧ ((∀ j, j < i ∨ i + (m + 1) ≤ j → nth out j = nth us j) → nv ((out.drop i).take (m + 1)) = nv ((us.drop i).take (m + 1)) % V →
      (∀ t, t < i → nth out t = nth u0 t) ∧ nv (out.drop i) < V ∧ nv (u0.drop i) = V * nv ((qs.set i (nv ((us.drop i).take (m + 1)) / V)).drop i) + nv (out.drop i)) := by
  have hVl : V < pw m := by rw [hv, ← hm]; exact nv_lt hvb
  have hd : nv (us.drop i) = nth us i + 4294967296 * nv (us.drop (i + 1)) := nv_drop us i (by omega)
  have hui := hub.nth i
  have hlt : nv (us.drop i) < 4294967296 * V := by omega
  have hU : nv ((us.drop i).take (m + 1)) = nv (us.drop i) := nv_take_small (by rw [pw_succ]; omega)
  rw [hU]
  refine ⟨hlt, fun hout hmod => ?_⟩
  have hV : 0 < V := by omega
  have hz : nv (us.drop (i + (m + 1))) = 0 := by
    have h5 := nv_take_drop (us.drop i) (m + 1) (by rw [List.length_drop]; omega)
    rw [hU, List.drop_drop] at h5
    rcases Nat.eq_zero_or_pos (nv (us.drop (i + (m + 1)))) with e | e
    · exact e
    · have := Nat.le_mul_of_pos_right (pw (m + 1)) e
      rw [pw_succ] at this h5
      omega
  have hdo : out.drop (i + (m + 1)) = us.drop (i + (m + 1)) := drop_ext hlo fun j hj => hout j (.inr hj)
  have hod : nv (out.drop i) = nv (us.drop i) % V := by
    have h5 := nv_take_drop (out.drop i) (m + 1) (by rw [List.length_drop]; omega)
    rw [List.drop_drop, hdo, hz, hmod, Nat.mul_zero, Nat.add_zero] at h5
    exact h5
  refine ⟨fun t ht => by rw [hout t (.inl ht), h2 t (by omega)], by rw [hod]; exact Nat.mod_lt _ hV, ?_⟩
  have e1 : nth (qs.set i (nv (us.drop i) / V)) i = nv (us.drop i) / V := by
    rw [nth_eq _ _ (by rw [List.length_set]; exact hiq), List.getElem_set_self]
  have e2 : (qs.set i (nv (us.drop i) / V)).drop (i + 1) = qs.drop (i + 1) := by
    rw [List.drop_set_of_lt (by omega)]
  rw [nv_drop u0 i (by omega), nv_drop _ i (by rw [List.length_set]; exact hiq), e1, e2, hod, h4, ← h2 i (by omega), Nat.mul_add, Nat.mul_add, Nat.mul_left_comm V]
  have := Nat.div_add_mod (nv (us.drop i)) V
  omega
theorem kd_start {u0 : List Nat} {a s V la lq m : Nat} (hu : nv u0 = a * 2 ^ s) (ha : a < pw la) (hs : s < 32) (hm : lq + m = la) (hV : pw m * 2147483648 ≤ V) : nv (u0.drop lq) < V := by
  rcases Nat.lt_or_ge lq u0.length with hl | hl
  · have h1 := nv_take_drop u0 lq (by omega)
    have h2 : a * 2 ^ s < pw la * 2 ^ s := Nat.mul_lt_mul_of_pos_right ha (Nat.pos_of_ne_zero (by simp))
    have h3 : pw lq * nv (u0.drop lq) < pw lq * (pw m * 2 ^ s) := by
      rw [← hm, pw_add, Nat.mul_assoc] at h2
      omega
    have h4 := Nat.lt_of_mul_lt_mul_left h3
    have h5 : pw m * 2 ^ s ≤ pw m * 2147483648 := Nat.mul_le_mul_left _ (Nat.pow_le_pow_right (n := 2) (by omega) (show s ≤ 31 by omega))
    omega
  · rw [List.drop_of_length_le hl]
    have := pw_pos m
    have : 0 < pw m * 2147483648 := by omega
    show 0 < V
    omega
theorem kd_end {a b s Q R : Nat} (h : a * 2 ^ s = b * 2 ^ s * Q + R) (hR : R < b * 2 ^ s) : Q = a / b ∧ R = (a % b) * 2 ^ s := by
  have hp : 0 < 2 ^ s := Nat.pos_of_ne_zero (by simp)
  constructor
  · rw [← Nat.mul_div_mul_right a b hp, h, Nat.mul_comm (b * 2 ^ s), Nat.add_comm, Nat.add_mul_div_right _ _ (by omega), Nat.div_eq_of_lt hR]; omega
  · rw [← Nat.mul_mod_mul_right, h, Nat.mul_add_mod, Nat.mod_eq_of_lt hR]
theorem shr_step {us out : List Nat} {k s t x y : Nat} (hst : s + t = 32) (h : nv (out.take k) * 2 ^ s = nv (us.take k) + pw k * (x % 2 ^ s)) (hk : k < out.length) (hx : x = nth us k) :
    nv ((out.set k (x / 2 ^ s + y % 2 ^ s * 2 ^ t)).take (k + 1)) * 2 ^ s = nv (us.take (k + 1)) + pw (k + 1) * (y % 2 ^ s) := by
  rw [nv_set_take hk, nv_take_succ' us, pw_succ, Nat.add_mul, h, ← hx]
  have e : pw k * (x / 2 ^ s + y % 2 ^ s * 2 ^ t) * 2 ^ s + pw k * (x % 2 ^ s) = pw k * x + 4294967296 * pw k * (y % 2 ^ s) := by
    rw [Nat.mul_assoc, Nat.mul_comm 4294967296, Nat.mul_assoc, ← Nat.mul_add, ← Nat.mul_add, Nat.add_mul, Nat.mul_assoc (y % 2 ^ s), ← Nat.pow_add, show t + s = 32 by omega]
    congr 1
    have := Nat.div_add_mod x (2 ^ s)
    rw [Nat.mul_comm] at this
    omega
  omega
theorem shr_last {us out : List Nat} {k s x : Nat} (h : nv (out.take k) * 2 ^ s = nv (us.take k) + pw k * (x % 2 ^ s)) (hk : k < out.length) (hx : x = nth us k) :
    nv ((out.set k (x / 2 ^ s)).take (k + 1)) * 2 ^ s = nv (us.take (k + 1)) := by
  rw [nv_set_take hk, nv_take_succ' us, Nat.add_mul, h, ← hx]
  have e : pw k * (x / 2 ^ s) * 2 ^ s + pw k * (x % 2 ^ s) = pw k * x := by
    rw [Nat.mul_assoc, ← Nat.mul_add]
    congr 1
    have := Nat.div_add_mod x (2 ^ s)
    rw [Nat.mul_comm] at this
    omega
  omega
theorem shr_or {x y s t : Nat} (hst : s + t = 32) (hx : x < 4294967296) : x / 2 ^ s ||| y * 2 ^ t % 4294967296 = x / 2 ^ s + y % 2 ^ s * 2 ^ t := by
  have e : y * 2 ^ t % 4294967296 = 2 ^ t * (y % 2 ^ s) := by
    have : 4294967296 = 2 ^ t * 2 ^ s := by rw [← Nat.pow_add, show t + s = 32 by omega]
    rw [this, Nat.mul_comm y, Nat.mul_mod_mul_left]
  have hlt : x / 2 ^ s < 2 ^ t := by
    refine Nat.div_lt_of_lt_mul ?_
    rw [← Nat.pow_add, hst]
    exact hx
  rw [e, Nat.or_comm, ← Nat.two_pow_add_eq_or_of_lt hlt, Nat.mul_comm (2 ^ t)]
  omega
theorem shr_first {us : List Nat} {s V : Nat} (hs : s < 32) (h : nv us = V * 2 ^ s) : nth us 0 % 2 ^ s = 0 := by
  cases us with
  | nil => simp [nth]
  | cons x r =>
    have e : nv (x :: r) = x + 4294967296 * nv r := rfl
    have e2 : nth (x :: r) 0 = x := rfl
    have h3 : 4294967296 = 2 ^ s * 2 ^ (32 - s) := by rw [← Nat.pow_add, show s + (32 - s) = 32 by omega]
    rw [e2]
    rw [e] at h
    have h4 : (x + 4294967296 * nv r) % 2 ^ s = x % 2 ^ s := by rw [h3, Nat.mul_assoc, Nat.add_mul_mod_self_left]
    rw [← h4, h, Nat.mul_mod_left]
theorem lead_ok {bt s : Nat} (h0 : bt ≠ 0) (h1 : bt < 4294967296) (hs : s = 32 - Lib.bitLen bt) : Lib.bitLen bt ≤ 32 ∧ s < 32 ∧ 2147483648 ≤ bt * 2 ^ s ∧ (bt + 1) * 2 ^ s ≤ 4294967296 := by
  obtain ⟨h2, h3, h4⟩ := Lib.bitLenAux_bounds 64 bt (by omega) h0
  have h5 : Lib.bitLen bt ≤ 32 := Lib.bitLen_le bt 32 (by omega) h1
  obtain ⟨k, hk⟩ : ∃ k, k = Lib.bitLen bt := ⟨_, rfl⟩
  change 1 ≤ Lib.bitLen bt at h2
  change 2 ^ (Lib.bitLen bt - 1) ≤ bt at h3
  change bt < 2 ^ Lib.bitLen bt at h4
  rw [← hk] at h2 h3 h4 h5 hs ⊢
  refine ⟨h5, by omega, ?_, ?_⟩
  · have h6 := Nat.mul_le_mul_right (2 ^ s) h3
    rw [← Nat.pow_add, show k - 1 + s = 31 by omega] at h6
    exact h6
  · have h6 := Nat.mul_le_mul_right (2 ^ s) (show bt + 1 ≤ 2 ^ k from h4)
    rw [← Nat.pow_add, show k + s = 32 by omega] at h6
    exact h6

theorem lz_c (bt s : Nat) (h1 : bt < 4294967296) (hs : s = 32 - Lib.bitLen bt) (hb : Lib.bitLen bt ≤ 32) (w : World) :
    Calls Tryz.prog 135 #[.int .u32 (bt : Int)] w fun e w' => e = .returned (.int .i64 (s : Int)) ∧ w = w' := by
  refine (Tryz.bits_LeadingZeros32 (bt : Int) w (by omega) (by omega)).mono fun e w' ⟨he, hw⟩ => ⟨?_, hw.symm⟩
  rw [he, Int.toNat_natCast]
  exact ret_int (by omega)

set_option maxRecDepth 100000 in
set_option maxHeartbeats 3200000 in
theorem div_c {A B : Option Addr} {c d : Nat} {a b : List Nat} {w : World} {X Y : Nat → Prop} (ha : Nl w X A c a) (hb : Nl w Y B d b) (h0 : 0 < nv b) (hL : a.length ≤ 1099511627770) :
    Calls Tryz.prog 98 #[.slice A a.length c, .slice B b.length d] w fun e w' => ∃ A1 c1 A2 c2, e = .returned (.tuple #[.slice A1 (lim (nv a / nv b)).length c1, .slice A2 (lim (nv a % nv b)).length c2, .int .i64 0]) ∧
      Nl w' (w.heap.size ≤ ·) A1 c1 (lim (nv a / nv b)) ∧ Nl w' (w.heap.size ≤ ·) A2 c2 (lim (nv a % nv b)) ∧ Ext w w' := by
  rcases Nat.lt_or_ge (nv b) 4294967296 with h1 | h1
  · exact div1_c ha hb h0 h1 (by omega)
  have hla := lim_len_le ha.lb
  have hlb2 : 2 ≤ (lim (nv b)).length := by
    have h2 := lt_pw_lim (nv b)
    rcases Nat.lt_or_ge (lim (nv b)).length 2 with h3 | h3
    · have h4 := pw_mono (show (lim (nv b)).length ≤ 1 by omega)
      rw [pw_succ, pw_zero] at h4
      omega
    · exact h3
  rcases Nat.lt_or_ge (nv a) (nv b) with hab | hab
  · rw [Nat.div_eq_of_lt hab, Nat.mod_eq_of_lt hab]
    have hcm : cmpN (nv a) (nv b) = -1 := cmpN_lt hab
    obtain ⟨nb, hnb⟩ : ∃ n, n = (lim (nv b)).length := ⟨_, rfl⟩
    have n0 : ((nb : Int) == 0) = false := by simp; omega
    have n1 : ((nb : Int) == 1) = false := by simp; omega
    go_enter Tryz.func98, Tryz.ntmps98
    go_wp2_with fail
    refine (bare_c ha).mono ?_
    rintro e w1 ⟨A1, c1, rfl, h2, rfl⟩
    go_wp2_with fail
    refine (bare_c hb).mono ?_
    rintro e w1 ⟨B1, d1, rfl, h3, rfl⟩
    have hcp := cmp_c h2 h3
    rw [nv_lim, nv_lim, hcm, ← hnb] at hcp
    rw [← hnb]
    have HNB := Lib.hid hnb
    clear hcm hnb
    go_wp2_with fail
    refine hcp.mono ?_
    rintro e w2 ⟨rfl, hx2⟩
    have hcp2 := fun (U : World) (hU : Ext w U) => own_c (h2.ext hU) (by omega)
    simp only [nv_lim] at hcp2
    have HC := Lib.hid hcp2
    clear hcp hcp2
    go_wp2_with fail
    refine (HC.out _ (hx2.trans xt)).mono ?_
    rintro e w3 ⟨A2, c2, rfl, h5, hx3⟩
    go_wp2_with fail
    (refine bodyPost_ret (v := ?_) ?_ rfl ?_; rotate_left; (simp only [results, Tryz.results98]; go_simp; (first | done | with_reducible rfl)))
    exact ⟨some ⟨w2.heap.size, 0, none⟩, 0, A2, c2, rfl, Sl.nil0 _ _ _, h5.widen fun b hb _ => by have h : (w2.alloc (.cells #[] 75)).heap.size ≤ b := hb; have := hx2.size; simp only [wsz] at h; omega, Ext.trans hx2 (Ext.trans ((Ext.refl w2).alloc _) hx3)⟩
  · have hcm : ¬ cmpN (nv a) (nv b) < 0 := by unfold cmpN; rw [if_neg (by omega)]; split <;> omega
    have hcd : decide (cmpN (nv a) (nv b) < 0) = false := decide_eq_false hcm
    obtain ⟨cm, hcm2⟩ : ∃ n, n = cmpN (nv a) (nv b) := ⟨_, rfl⟩
    rw [← hcm2] at hcd
    go_enter Tryz.func98, Tryz.ntmps98
    go_wp2_with fail
    refine (bare_c ha).mono ?_
    rintro e w1 ⟨A1, c1, rfl, h2, rfl⟩
    go_wp2_with fail
    refine (bare_c hb).mono ?_
    rintro e w1 ⟨B1, d1, rfl, h3, rfl⟩
    have hcp := cmp_c h2 h3
    rw [nv_lim, nv_lim, ← hcm2] at hcp
    have hla2 : nv a < pw (lim (nv a)).length := lt_pw_lim _
    have hab2 : (lim (nv b)).length ≤ (lim (nv a)).length := by
      rcases Nat.lt_or_ge (lim (nv a)).length (lim (nv b)).length with h | h
      · have := nv_lt_of_len h; omega
      · exact h
    have htl := lim_last (nv b) (by omega)
    have hva : nv (lim (nv a)) = nv a := nv_lim _
    have hvb : nv (lim (nv b)) = nv b := nv_lim _
    have hbl : Lb (lim (nv b)) := lb_lim _
    obtain ⟨a', ha'⟩ : ∃ l, l = lim (nv a) := ⟨_, rfl⟩
    obtain ⟨b', hb'⟩ : ∃ l, l = lim (nv b) := ⟨_, rfl⟩
    rw [← ha'] at h2 hla hla2 hab2 hva hcp ⊢
    rw [← hb'] at h3 hlb2 hab2 htl hvb hbl hcp ⊢
    obtain ⟨m, hm⟩ : ∃ m, b'.length = m + 1 := ⟨b'.length - 1, by omega⟩
    rw [show b'.length - 1 = m by omega] at htl
    have cb := h3.at_ (k := m) (by omega)
    obtain ⟨bb, ob, rfl, -, hcb, hbt⟩ := cb
    have qb := hcb m (by omega)
    obtain ⟨bt, hbtd⟩ : ∃ x, x = nth b' m := ⟨_, rfl⟩
    rw [← hbtd] at qb htl hbt
    obtain ⟨s, hs⟩ : ∃ s, s = 32 - Lib.bitLen bt := ⟨_, rfl⟩
    obtain ⟨hbl32, hs32, hn1, hn2⟩ := lead_ok htl hbt hs
    obtain ⟨hvl, hvt, hvV⟩ := kd_norm (b := nv b) hbl hm hvb.symm hbtd hs32 hn1 hn2
    obtain ⟨v, hv⟩ : ∃ v, v = lim (nv b * 2 ^ s) := ⟨_, rfl⟩
    have hvv : nv v = nv b * 2 ^ s := by rw [hv, nv_lim]
    rw [← hv] at hvl hvt
    have hlz := fun (U : World) => lz_c bt s hbt hs hbl32 U
    have i0 : (m : Int) < (b'.length : Int) := by omega
    have e0 : (b'.length : Int) - 1 = (m : Int) := by omega
    have n0 : ((b'.length : Int) == 0) = false := by rw [beq_eq_false_iff_ne]; omega
    have n1 : ((b'.length : Int) == 1) = false := by rw [beq_eq_false_iff_ne]; omega
    have HV := Lib.hid hv; have HVV := Lib.hid hvv; have HA := Lib.hid ha'; have HB := Lib.hid hb'; have HVA := Lib.hid hva; have HVB := Lib.hid hvb; have HM := Lib.hid hm; have HS := Lib.hid hs; have HLZ := Lib.hid hlz; have HBT := Lib.hid hbtd; have HC := Lib.hid hcp; have HVL := Lib.hid hvl
    have hm1 : b'.length ≤ m + 1 := by omega
    have hm2 : m + 1 ≤ b'.length := by omega
    have hvl1 : v.length ≤ m + 1 := by omega
    have hvl2 : m + 1 ≤ v.length := by omega
    clear hcb hcm2 hv hvv ha' hb' hva hvb hm hs hlz hbtd hcp hvl hcm htl hn1 hn2
    go_wp2_with fail
    refine HC.out.mono ?_
    rintro e w2 ⟨rfl, hx2⟩
    have qb2 := (hx2.cells.1 bb _ (World.block_lt_of_cell? _ _ qb)).trans qb
    clear qb
    go_wp2_with fail
    refine (HLZ.out _).mono ?_
    rintro e w2' ⟨rfl, rfl⟩
    obtain ⟨lu, hlu⟩ : ∃ n, n = a'.length + 1 := ⟨_, rfl⟩
    have hlf := left_c (h2.ext hx2) hs32 (by omega)
    rw [← hlu] at hlf
    have HLF := Lib.hid hlf
    have hlu1 : lu ≤ a'.length + 1 := by omega
    have hlu2 : a'.length + 1 ≤ lu := by omega
    clear hlf hlu
    go_wp2_with fail
    refine HLF.out.mono ?_
    rintro e w3 ⟨gu, u0, rfl, hU0, hu0, hx3⟩
    obtain ⟨lb, hlb⟩ : ∃ n, n = b'.length + 1 := ⟨_, rfl⟩
    have hlf := left_c (h3.ext (hx2.trans hx3)) hs32 (by omega)
    rw [← hlb] at hlf
    have HLF := Lib.hid hlf
    have HU0 := Lib.hid hu0
    have hlb1 : lb ≤ b'.length + 1 := by omega
    clear hlf hu0 hlb
    go_wp2_with fail
    refine HLF.out.mono ?_
    rintro e w4 ⟨g1, v0, rfl, hV0, hv0, hx4⟩
    obtain ⟨el, hV1⟩ := hV0.nl'
    have hbr := bare_c hV1
    rw [hv0, HVB.out, ← HV.out, ← el] at hbr
    have HBR := Lib.hid hbr
    clear hbr el hv0
    go_wp2_with fail
    with_reducible refine HBR.out.mono ?_
    rintro e w5 ⟨B2, d2, rfl, hv1, rfl⟩
    have hsz2 := hx2.size; have hsz3 := hx3.size; have hsz4 := hx4.size
    have hU1 := hU0.ext hx4
    have hv2 := hv1.widen (Y := fun x => w3.heap.size ≤ x ∧ x < w4.heap.size) fun x hx hl => ⟨hx, hl⟩
    obtain ⟨gul, guh⟩ := hU0.row gu rfl
    have hx04 : Ext w w4 := hx2.trans (hx3.trans hx4)
    obtain ⟨lq, hlq⟩ : ∃ n, n + v.length = lu := ⟨lu - v.length, by omega⟩
    have elq : (lu : Int) - (v.length : Int) = (lq : Int) := by omega
    have hlq1 : 1 ≤ lq := by omega
    have hlq2 : lq + m + 1 ≤ lu := by omega
    have hlq3 : lu ≤ lq + m + 1 := by omega
    have HLQ := Lib.hid hlq
    clear hlq hV0 hV1 HBR HLF hv1 qb2 HLZ
    go_wp2_with (at_make; refine wpList_makeu (.tmp 66) (.tmp 66) _ lq (Nat.le_refl _) (by omega) rfl rfl rfl rfl rfl rfl ?_; intro w6 hown hx6)
    have hlen0 := hU0.len
    have hub0 := hU0.lb
    have hst0 := kd_start (V := nv v) (m := m) HU0.out (by rw [HVA.out]; exact hla2) hs32 (lq := lq) (la := a'.length) (by omega) (by rw [HVV.out]; exact hvV)
    have hq6 : Nl w6 (fun x => w3.heap.size ≤ x ∧ x < w4.heap.size) B2 d2 v := hv2.ext hx6
    have HST := Lib.hid hst0; have HL0 := Lib.hid hlen0
    have hl01 : u0.length ≤ lu := by omega
    have hl02 : lu ≤ u0.length := by omega
    have hx06 : Ext w w6 := hx04.trans hx6
    have hsz6 := hx6.size
    clear hst0 hlen0
    go_loopw [13] (fun iv wr => ∃ (j : Nat) (qs us : List Nat), j ≤ lq ∧ iv = .int .i64 ((j : Int) - 1) ∧ Nown wr w4.heap.size (.slice (some ⟨w4.heap.size, 0, none⟩) lq lq) qs ∧ Nown wr w2.heap.size (.slice (some ⟨gu, 0, none⟩) lu lu) us ∧ Nl wr (fun x => w3.heap.size ≤ x ∧ x < w4.heap.size) B2 d2 v ∧
        Hid (∀ t, t < j → nth us t = nth u0 t) ∧ Hid (nv (us.drop j) < nv v) ∧ Hid (nv (u0.drop j) = nv v * nv (qs.drop j) + nv (us.drop j)) ∧ Ext w wr ∧ w4.heap.size ≤ wr.heap.size) (fun iv _ => (intOf iv + 1).toNat)
    case atStart => exact ⟨lq, List.replicate lq 0, u0, Nat.le_refl _, rfl, hown, hU1.ext hx6, hq6, Lib.hid fun _ _ => rfl, Lib.hid HST.out, Lib.hid (by simp [nv]), hx06, by omega⟩
    case round =>
      obtain ⟨j, qs, us, hj, rfl, hq, hu, hvr, H2, H3, H4, hxr, hszr⟩ := hrel
      have hql := hq.len
      have hul := hu.len
      have hql1 : lq ≤ qs.length := by omega
      have hql2 : qs.length ≤ lq := by omega
      have hul1 : lu ≤ us.length := by omega
      have hul2 : us.length ≤ lu := by omega
      clear hql hul
      rcases Nat.eq_zero_or_pos j with h00 | h00
      · subst h00
        have i1 : ¬ (0 : Int) ≤ ((0 : Nat) : Int) - 1 := by omega
        have h4 := H4.out
        have h3 := H3.out
        simp only [List.drop_zero] at h3 h4
        rw [HU0.out, HVA.out, HVV.out] at h4
        rw [HVV.out] at h3
        obtain ⟨r1, r2⟩ := kd_end h4 h3
        have hrl : nv us < pw v.length := by
          have h5 := nv_lt hvr.lb
          rw [HVV.out] at h5
          omega
        have hub := hu.lb
        have hfirst := shr_first hs32 r2
        obtain ⟨q, hqd⟩ : ∃ q, q = nv a / nv b := ⟨_, rfl⟩
        obtain ⟨r, hrd⟩ : ∃ r, r = nv a % nv b := ⟨_, rfl⟩
        rw [← hqd] at r1
        rw [← hrd] at r2
        obtain ⟨t, ht⟩ : ∃ t, s + t = 32 := ⟨32 - s, by omega⟩
        have et : (32 : Int) - (s : Int) = (t : Int) := by omega
        have R1 := Lib.hid r1; have R2 := Lib.hid r2; have HRL := Lib.hid hrl; have HF := Lib.hid hfirst; have HT := Lib.hid ht; have HQD := Lib.hid hqd; have HRD := Lib.hid hrd
        have ht1 : t ≤ 32 := by omega
        have ht2 : 1 ≤ t := by omega
        clear h3 h4 r1 r2 hrl hfirst ht hqd hrd H2 H3 H4 HST
        go_wp2_with fail
        go_loopw [90] (fun iv wx => ∃ (k : Nat) (ux : List Nat), k ≤ v.length ∧ iv = .int .i64 (k : Int) ∧ Nown wx w4.heap.size (.slice (some ⟨w4.heap.size, 0, none⟩) lq lq) qs ∧ Nown wx w2.heap.size (.slice (some ⟨gu, 0, none⟩) lu lu) ux ∧
            Hid (∀ j, k ≤ j → nth ux j = nth us j) ∧ Hid (nv (ux.take k) * 2 ^ s = nv (us.take k) + pw k * ((if k < v.length then nth us k else 0) % 2 ^ s)) ∧ Ext w wx ∧ w4.heap.size ≤ wx.heap.size) (fun iv _ => v.length - (intOf iv).toNat)
        case atStart =>
          refine ⟨0, us, Nat.zero_le _, rfl, hq, hu, Lib.hid fun _ _ => rfl, Lib.hid ?_, hxr, hszr⟩
          rw [if_pos (by omega), HF.out]
          simp [nv]
        case round =>
          obtain ⟨k, ux, hk, rfl, hq1, hu1, H2, H3, hx1, hsz1⟩ := hrel
          have hul := hu1.len
          have hux1 : lu ≤ ux.length := by omega
          have hux2 : ux.length ≤ lu := by omega
          clear hul
          by_cases hlt : k < v.length
          · obtain ⟨cu, fu⟩ := hu1.cell k (by omega)
            rw [H2.out k (Nat.le_refl _)] at cu
            have hxb := hub.nth k
            obtain ⟨x, hx⟩ : ∃ x, x = nth us k := ⟨_, rfl⟩
            rw [← hx] at cu hxb
            have h3 := H3.out
            rw [if_pos hlt, ← hx] at h3
            obtain ⟨x1, hx1d⟩ : ∃ y, y = x / 2 ^ s := ⟨_, rfl⟩
            have ex1 : (x : Int) / 2 ^ s = (x1 : Int) := by rw [hx1d]; simp
            have hx1l : x1 < 4294967296 := by rw [hx1d]; exact Nat.lt_of_le_of_lt (Nat.div_le_self _ _) hxb
            have hu2 := hu1.set k (x := x1) rfl hx1l
            have hsm2 : ∀ (z : Nat), ∀ j, k + 1 ≤ j → nth ((ux.set k x1).set k z) j = nth us j := fun z j hj => by rw [nth_set_ne (by omega), nth_set_ne (by omega)]; exact H2.out j (by omega)
            have hsm1 : ∀ j, k + 1 ≤ j → nth (ux.set k x1) j = nth us j := fun j hj => by rw [nth_set_ne (by omega)]; exact H2.out j (by omega)
            have iku : (k : Int) < (lu : Int) := by omega
            have HX := Lib.hid hx; have HX1 := Lib.hid hx1d; have H3' := Lib.hid h3; have HS2 := Lib.hid hsm2; have HS1 := Lib.hid hsm1
            clear hx hx1d h3 hsm1 hsm2
            have hu1b := hu1.lb
            go_upto_region 20 with fail
            refine wp_named fun W hW => ?_
            have hu2 : Nown W w2.heap.size (.slice (some ⟨gu, 0, none⟩) lu lu) (ux.set k x1) := by rw [hW]; exact hu2
            have hq2 : Nown W w4.heap.size (.slice (some ⟨w4.heap.size, 0, none⟩) lq lq) qs := by rw [hW]; exact hq1.keep ((Kp.refl wr).setCell (by simp [Value.ownBlock]; omega) _)
            have hx2' : Ext w W := by rw [hW]; exact hx1.setCell (by simp only; omega) _
            have hsz2' : w4.heap.size ≤ W.heap.size := by rw [hW]; simp only [wsz]; exact hsz1
            clear hW cu fu hu1 hq1 hx1 hsz1 ex1
            by_cases hs0 : 0 < s
            · have d0 : decide ((s : Int) > 0) = true := decide_eq_true (by omega)
              have d0' : decide (0 < s) = true := decide_eq_true hs0
              by_cases hk1 : k + 1 < v.length
              · have d1 : decide ((k : Int) + 1 < (v.length : Int)) = true := decide_eq_true (by omega)
                obtain ⟨cu, fu⟩ := hu2.cell k (by rw [List.length_set]; omega)
                obtain ⟨cy, fy⟩ := hu2.cell (k + 1) (by rw [List.length_set]; omega)
                have ek : nth (ux.set k x1) k = x1 := by rw [nth_eq _ _ (by rw [List.length_set]; omega), List.getElem_set_self]
                rw [ek] at cu
                rw [HS1.out (k + 1) (Nat.le_refl _)] at cy
                have hyb := hub.nth (k + 1)
                obtain ⟨y, hy⟩ : ∃ y, y = nth us (k + 1) := ⟨_, rfl⟩
                rw [← hy] at cy hyb
                obtain ⟨z, hz⟩ : ∃ z, z = y * 2 ^ t % 4294967296 := ⟨_, rfl⟩
                have ez : ((y : Int) * 2 ^ t) % 4294967296 = (z : Int) := by rw [hz]; simp
                obtain ⟨x2, hx2e⟩ : ∃ x2, x2 = x1 + y % 2 ^ s * 2 ^ t := ⟨_, rfl⟩
                have hor := shr_or (y := y) HT.out hxb
                rw [← HX1.out, ← hz, ← hx2e] at hor
                have hzl : z < 4294967296 := by rw [hz]; exact Nat.mod_lt _ (by omega)
                have eo : bits .or .u32 (x1 : Int) (z : Int) = (x2 : Int) := by
                  rw [u32_or_nat x1 z hx1l hzl, hor]
                have hx2l : x2 < 4294967296 := by rw [← hor]; exact Nat.or_lt_two_pow (n := 32) hx1l hzl
                have hstp := shr_step (us := us) (out := ux.set k x1) (k := k) (x := x) (y := y) HT.out (by rw [List.take_set_of_le (Nat.le_refl _)]; exact H3'.out) (by rw [List.length_set]; omega) HX.out
                rw [← HX1.out, ← hx2e] at hstp
                have hfin : nv (((ux.set k x1).set k x2).take (k + 1)) * 2 ^ s = nv (us.take (k + 1)) + pw (k + 1) * ((if k + 1 < v.length then nth us (k + 1) else 0) % 2 ^ s) := by rw [if_pos hk1, ← hy]; exact hstp
                have hu3 := hu2.set k (x := x2) rfl hx2l
                have ik1 : (k : Int) + 1 < (lu : Int) := by omega
                have HFN := Lib.hid hfin
                clear hfin hstp hor hx2e hz hy ek
                go_upto_region 21 with fail
                refine wp_region_seq 14 [(0, true), (1, true), (2, true), (3, true), (4, true), (5, true), (6, true), (7, true), (8, true), (9, true), (10, true), (11, true), (12, true), (13, true), (14, false)] rfl (by kernel_rfl) (by intro _ _ d _ _ h; cases d <;> exact h) ?_
                have guW : gu < W.heap.size := by omega
                have EO := Lib.hid (show bits .or .u32 (x1 : Int) ((y : Int) * 2 ^ min t 32 % 4294967296) = (x2 : Int) by rw [show min t 32 = t by omega, ez]; exact eo)
                have iw1 : IntKind.i64.wrap ((k : Int) + 1) = (k : Int) + 1 := w64 ⟨by omega, by omega⟩
                have iw2 : (0 : Int) ≤ (k : Int) + 1 := by omega
                have iw3 : ((k : Int) + 1).toNat = k + 1 := by omega
                have iw4 : IntKind.u64.wrap ((32 : Int) - (s : Int)) = (t : Int) := by rw [et, wrap_u64]; omega
                have iw5 : IntKind.u32.wrap ((y : Int) * 2 ^ t) = (z : Int) := by
                  rw [← ez]; simp [IntKind.wrap, IntKind.bits, IntKind.signed]
                (repeat (refine sq_take (v := ?_) rfl rfl ?_ ?_; rotate_left; (intro w' hx'; have hc' := hx'.cells.1; (try simp only [wcd] at hc'); go_simp; (first | done | with_reducible rfl)); (try simp only [pt])))
                (refine sq_last rfl rfl fun K hK => ?_; go_simp; refine hK _ _ ?_; clear hK K)
                go_wp2_with fail
                go_roundw
                case rel => exact ⟨k + 1, _, by omega, by go_num, hq2.keep (((Kp.refl W).setCell (by simp [Value.ownBlock]; omega) _).drew), by rw [EO.out]; exact hu3.keep (Kp.refl _).drew, Lib.hid (HS2.out x2), HFN, xt, by simp only [wsz]; exact hsz2'⟩
                case measure => simp [intOf] <;> omega
              · have d1 : decide ((k : Int) + 1 < (v.length : Int)) = false := decide_eq_false (by omega)
                have hstp := shr_last (us := us) (out := ux) (k := k) (x := x) H3'.out (by omega) HX.out
                rw [← HX1.out] at hstp
                have hfin : nv ((ux.set k x1).take (k + 1)) * 2 ^ s = nv (us.take (k + 1)) + pw (k + 1) * ((if k + 1 < v.length then nth us (k + 1) else 0) % 2 ^ s) := by rw [if_neg hk1, Nat.zero_mod, Nat.mul_zero, Nat.add_zero]; exact hstp
                have HFN := Lib.hid hfin
                clear hfin hstp
                go_wp2_with fail
                go_roundw
                case rel => exact ⟨k + 1, _, by omega, by go_num, hq2, hu2, HS1, HFN, hx2', hsz2'⟩
                case measure => simp [intOf] <;> omega
            · obtain rfl : s = 0 := by omega
              have d0 : decide (((0 : Nat) : Int) > 0) = false := decide_eq_false (by omega)
              have hstp := shr_last (us := us) (out := ux) (k := k) (x := x) H3'.out (by omega) HX.out
              rw [← HX1.out] at hstp
              have hfin : nv ((ux.set k x1).take (k + 1)) * 2 ^ 0 = nv (us.take (k + 1)) + pw (k + 1) * ((if k + 1 < v.length then nth us (k + 1) else 0) % 2 ^ 0) := by rw [Nat.pow_zero, Nat.mod_one, Nat.mul_zero, Nat.add_zero]; exact hstp
              have HFN := Lib.hid hfin
              clear hfin hstp
              go_wp2_with fail
              go_roundw
              case rel => exact ⟨k + 1, _, by omega, by go_num, hq2, hu2, HS1, HFN, hx2', hsz2'⟩
              case measure => simp [intOf] <;> omega
          · obtain rfl : k = v.length := by omega
            have h3 := H3.out
            rw [if_neg hlt, Nat.zero_mod, Nat.mul_zero, Nat.add_zero, nv_take_small HRL.out, R2.out] at h3
            have hre : nv (ux.take v.length) = r := Nat.eq_of_mul_eq_mul_right (Nat.pos_of_ne_zero (by simp)) h3
            have HRE := Lib.hid hre
            clear h3 hre
            obtain ⟨eq1, hqn⟩ := hq1.nl'
            obtain ⟨eu1, hun⟩ := hu1.nl'
            have HEQ := Lib.hid eq1
            have htk := Sl.take hun (k := v.length) (c' := lu) (by omega) (by omega) hun.2.1
            have hown2 := fun (U : World) (hU : Ext wr U) => own_c (l := ux.take v.length) (c := lu) (A := some ⟨gu, 0, none⟩) (Nl.ext htk hU) (by rw [List.length_take]; omega)
            simp only [HRE.out, List.length_take_of_le (show v.length ≤ ux.length by omega)] at hown2
            have HO2 := Lib.hid hown2
            clear hown2 eq1 eu1
            go_upto_region 23 with fail
            refine wp_region_late [(0, true), (2, true), (3, true), (4, true), (5, true), (1, false), (6, false)] [7, 8, 9] rfl (by kernel_rfl) (by intro _ _ d _ _ h; cases d <;> exact h) ?_
            have ivl : (v.length : Int) ≤ (lu : Int) := by omega
            (repeat (refine sh_take (v := ?_) rfl rfl ?_ ?_; rotate_left; (intro w' hx'; have hc' := hx'.cells.1; (try simp only [wcd] at hc'); go_simp; (first | done | with_reducible rfl)); (try simp only [pt])))
            (refine sh_loud rfl rfl fun K hK => ?_; go_simp)
            have hown1 := own_c (Nl.ext hqn (Ext.refl wr).drew) (by rw [← HEQ.out]; omega)
            rw [← HEQ.out, R1.out] at hown1
            refine hown1.mono ?_
            rintro e w8 ⟨A8, c8, rfl, h8, hx8⟩
            have hy8 : Ext wr w8 := xt
            (refine hK _ _ xt ?_; clear hK K; (try simp only [pt]))
            (refine sh_loud rfl rfl fun K hK => ?_; go_simp)
            refine (HO2.out _ hy8).mono ?_
            rintro e w9 ⟨A9, c9, rfl, h9, hx9⟩
            have hy9 := hy8.trans hx9
            (refine hK _ _ xt ?_; clear hK K; (try simp only [pt]))
            refine sh_done ?_
            (refine sh_late rfl rfl fun K hK => ?_; go_simp; refine hK _ _ ?_; clear hK K)
            (refine sh_late rfl rfl fun K hK => ?_; go_simp; refine hK _ _ ?_; clear hK K)
            (refine sh_late rfl rfl fun K hK => ?_; go_simp; refine hK _ _ ?_; clear hK K)
            refine sh_end ?_
            go_wp2_with fail
            (refine bodyPost_ret (v := ?_) ?_ rfl ?_; rotate_left; (simp only [results, Tryz.results98]; go_simp; (first | done | with_reducible rfl)))
            rw [← HQD.out, ← HRD.out]
            have hw8 := hx8.size
            have hwr := hx1.size
            have hwr8 := hy8.size
            exact ⟨A8, c8, A9, c9, rfl, (h8.ext hx9).widen fun b hb _ => by have h : wr.drew.heap.size ≤ b := hb; simp only [wsz] at h; omega, h9.widen fun b hb _ => by have h : w8.heap.size ≤ b := hb; omega, hx1.trans hy9⟩
      · obtain ⟨i, rfl⟩ : ∃ i, j = i + 1 := ⟨j - 1, by omega⟩
        have i1 : (0 : Int) ≤ ((i + 1 : Nat) : Int) - 1 := by omega
        have e1 : ((i + 1 : Nat) : Int) - 1 = (i : Int) := by omega
        have hub := hu.lb
        obtain ⟨hlt, hnx⟩ := kd_step (u0 := u0) (us := us) (out := us) (qs := qs) (v := v) (i := i) (m := v.length) (V := nv v) rfl rfl hvr.lb hub (by omega) rfl (by omega) (by omega) H2.out H3.out H4.out
        rw [e1]
        go_wp2_with fail
        obtain ⟨U, hU⟩ : ∃ U, U = nv ((us.drop i).take (v.length + 1)) := ⟨_, rfl⟩
        obtain ⟨dg, hdg⟩ : ∃ x, x = U / nv v := ⟨_, rfl⟩
        have hdl : dg < 4294967296 := by rw [hdg, hU]; exact kn_lt hlt
        have hdc := digit_c (mu := i + v.length + 1 - i) (c0 := lu - i) hu hvr (by omega) (by omega) (by omega) (by omega) (by rw [show v.length - 1 = m by omega]; exact hvt) hlt (by omega)
        rw [← hU, ← hdg] at hdc
        refine hdc.mono ?_
        rintro e w7 ⟨rfl, ⟨out, hu7, hsame, hmod⟩, hg7⟩
        have hsame' : ∀ j, j < i ∨ i + (v.length + 1) ≤ j → nth out j = nth us j := fun j hj => hsame j (by omega)
        have hol := hu7.len
        have hv7 : Nl w7 (fun x => w3.heap.size ≤ x ∧ x < w4.heap.size) B2 d2 v := Nl.keep hvr (Kp.of_grown hg7 (by omega))
        have hq7 := hq.keep (Kp.of_grown hg7 (by simp [Value.ownBlock]; omega))
        obtain ⟨k1, k2, k3⟩ := (kd_step (u0 := u0) (us := us) (out := out) (qs := qs) (v := v) (i := i) (m := v.length) (V := nv v) rfl rfl hvr.lb hub (by omega) (by omega) (by omega) (by omega) H2.out H3.out H4.out).2 hsame' (by rw [← hU]; exact hmod)
        rw [← hU, ← hdg] at k3
        obtain ⟨cq, fq⟩ := hq7.cell i (by omega)
        have hq8 := hq7.set i (x := dg) rfl hdl
        have hu8 := hu7.keep (show Kp _ w7 (w7.setCell ⟨w4.heap.size, i, none⟩ (.int .u32 dg)) from (Kp.refl w7).setCell (by simp [Value.ownBlock]; omega) _)
        have hv8 : Nl (w7.setCell ⟨w4.heap.size, i, none⟩ (.int .u32 dg)) (fun x => w3.heap.size ≤ x ∧ x < w4.heap.size) B2 d2 v := Nl.keep hv7 ((Kp.refl w7).setCell (by simp only; omega) _)
        have hx8 : Ext w (w7.setCell ⟨w4.heap.size, i, none⟩ (.int .u32 dg)) := (hxr.grown hg7 (by intro k hk; injection hk with hk; omega)).setCell (by simp only; omega) _
        have hz7 := hg7.size
        have K1 := Lib.hid k1; have K2 := Lib.hid k2; have K3 := Lib.hid k3
        have il : (i : Int) < (lq : Int) := by omega
        clear k1 k2 k3 hsame hsame' hmod hdc hU hdg hlt hnx hol hq hu hvr H2 H3 H4 hxr hub hq7 hu7 hv7
        go_wp2_with fail
        go_roundw
        case rel => exact ⟨i, _, out, by omega, rfl, hq8, hu8, hv8, K1, K2, K3, hx8, by simp only [wsz]; omega⟩
        case measure => simp [intOf] <;> omega

end Go.Proofs.YthmjgbkakjpfkaaGreatDoor
