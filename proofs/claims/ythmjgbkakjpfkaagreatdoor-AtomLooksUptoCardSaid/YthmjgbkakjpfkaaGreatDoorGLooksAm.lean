/- nat.left, nat.digit, nat.DivMod by more than one limb. No conditions. -/
import Derived.Test.YthmjgbkakjpfkaaGreatDoorGLooksAd
import Derived.Test.YthmjgbkakjpfkaaGreatDoorGLooksAa
import Derived.Test.YthmjgbkakjpfkaaGreatDoorGLooksAc
import Derived.Test.YthmjgbkakjpfkaaGreatDoorGLooksAg
import Derived.Deep.CutBlock
import Derived.BigQuiet
import Derived.Deep.QuietTactic
namespace Go.Proofs.YthmjgbkakjpfkaaGreatDoor
open Go.RowKit

theorem shl_parts {x s h : Nat} (hs : s < 32) (hh : h < 2 ^ s) : h ||| (x * 2 ^ s % 4294967296) = h + x * 2 ^ s % 4294967296 := by
  have e : x * 2 ^ s % 4294967296 = 2 ^ s * (x % 2 ^ (32 - s)) := by
    have : 4294967296 = 2 ^ s * 2 ^ (32 - s) := by rw [← Nat.pow_add, show s + (32 - s) = 32 by omega]
    rw [this, Nat.mul_comm x, Nat.mul_mod_mul_left]
  rw [e, Nat.or_comm, ← Nat.two_pow_add_eq_or_of_lt hh]
  omega
theorem shl_step {out a : List Nat} {k s h x : Nat} (h1 : nv (out.take (k + 1)) = nv (a.take k) * 2 ^ s) (hk : k + 1 < out.length) (hx : x = nth a k) (hh : nth out k = h) :
    nv (((out.set k (h + x * 2 ^ s % 4294967296)).set (k + 1) (x * 2 ^ s / 4294967296)).take (k + 2)) = nv (a.take (k + 1)) * 2 ^ s := by
  rw [nv_set_take (by rw [List.length_set]; exact hk), nv_set_take (by omega), nv_take_succ' a, pw_succ, Nat.add_mul, ← h1, nv_take_succ' out, hh, ← hx]
  have e : pw k * (h + x * 2 ^ s % 4294967296) + 4294967296 * pw k * (x * 2 ^ s / 4294967296) = pw k * h + pw k * x * 2 ^ s := by
    rw [Nat.mul_comm 4294967296, Nat.mul_assoc, Nat.mul_assoc, ← Nat.mul_add, ← Nat.mul_add]
    congr 1
    omega
  omega

set_option maxHeartbeats 800000 in
theorem left_c {A : Option Addr} {c s : Nat} {a : List Nat} {w : World} {X : Nat → Prop} (ha : Nl w X A c a) (hs : s < 32) (hL : a.length ≤ 1099511627776) :
    Calls Tryz.prog 136 #[.slice A a.length c, .int .u64 s] w fun e w' => ∃ g out, e = .returned (.slice (some ⟨g, 0, none⟩) (a.length + 1) (a.length + 1)) ∧ Nown w' w.heap.size (.slice (some ⟨g, 0, none⟩) (a.length + 1) (a.length + 1)) out ∧ nv out = nv a * 2 ^ s ∧ Ext w w' := by
  have hlb := ha.lb
  have hm2 := ha.2.1; have hl2 := ha.1
  simp only [maxLen] at hm2
  obtain ⟨n, hn⟩ : ∃ n, n = a.length + 1 := ⟨_, rfl⟩
  rw [← hn]
  have hn1 : a.length < n := by omega
  have hn2 : n ≤ a.length + 1 := by omega
  have HN := Lib.hid hn; clear hn
  have en : ((a.length : Nat) : Int) + 1 = (n : Int) := by omega
  go_enter Tryz.func136, Tryz.ntmps136
  go_wp2_with (at_make; refine wpList_makeu (.tmp 11) (.tmp 11) _ n (Nat.le_refl _) (by omega) rfl rfl rfl rfl rfl rfl ?_; intro w1 hown hx1)
  go_loopw [15] (fun iv wr => ∃ (k : Nat) (out : List Nat), k ≤ a.length ∧ iv = .int .i64 k ∧ Nown wr w.heap.size (.slice (some ⟨w.heap.size, 0, none⟩) n n) out ∧ Hid (nv (out.take (k + 1)) = nv (a.take k) * 2 ^ s) ∧ nth out k < 2 ^ s ∧ (∀ j, k < j → nth out j = 0) ∧ Ext w wr) (fun iv _ => a.length - (intOf iv).toNat)
  case atStart => exact ⟨0, List.replicate n 0, Nat.zero_le _, rfl, hown, Lib.hid (by rw [nv_take_succ', nth_rep]; simp [nv]), by rw [nth_rep]; exact Nat.pos_of_ne_zero (by simp), fun _ _ => nth_rep _ _, hx1⟩
  case round =>
    obtain ⟨k, out, hk, rfl, ho, H1, hh, hz, hx⟩ := hrel
    have hol := ho.len
    have HL := Lib.hid hol
    have hol1 : out.length ≤ n := by omega
    have hol2 : n ≤ out.length := by omega
    have HZ := Lib.hid hz
    clear hol hz
    by_cases hlt : k < a.length
    · obtain ⟨b1, o1, rfl, _, hc1, hn3⟩ := (ha.ext hx).at_ (k := k) hlt
      have c1' := hc1 k hlt
      clear hc1
      obtain ⟨x, hxx⟩ : ∃ x, x = nth a k := ⟨_, rfl⟩
      obtain ⟨h, hhh⟩ : ∃ x, x = nth out k := ⟨_, rfl⟩
      rw [← hxx] at c1' hn3
      rw [← hhh] at hh
      have hs1 := shl_step (x := x) (h := h) H1.out (by omega) hxx hhh.symm
      obtain ⟨hco, hfo⟩ := ho.cell k (by omega)
      rw [← hhh] at hco
      obtain ⟨hco2, hfo2⟩ := ho.cell (k + 1) (by omega)
      have il : (k : Int) + 1 < (n : Int) := by omega
      obtain ⟨y, hy⟩ : ∃ y, y = x * 2 ^ s := ⟨_, rfl⟩
      have hy2 : y < 4294967296 * 2 ^ s := by rw [hy]; exact Nat.mul_lt_mul_of_pos_right hn3 (Nat.pos_of_ne_zero (by simp))
      have hp : 2 ^ s ≤ 2147483648 := Nat.pow_le_pow_right (n := 2) (by omega) (show s ≤ 31 by omega)
      have hyd : y / 4294967296 < 2 ^ s := Nat.div_lt_of_lt_mul hy2
      have ew : IntKind.u64.wrap ((x : Int) * 2 ^ s) = (y : Int) := by
        have : (x : Int) * 2 ^ s = (y : Int) := by rw [hy]; simp
        rw [this, wrap_u64]; omega
      have eo : bits .or .u32 (h : Int) ((y : Int) % 4294967296) = ((h + y % 4294967296 : Nat) : Int) := by
        have h1 := shl_parts (x := x) hs hh
        rw [← hy] at h1
        rw [← h1, ← u32_or_nat h (y % 4294967296) (by omega) (by omega)]
        congr 1
      have hy3 : h + y % 4294967296 < 4294967296 := by
        have h1 := shl_parts (x := x) hs hh
        rw [← hy] at h1
        rw [← h1]
        exact Nat.or_lt_two_pow (n := 32) (by omega) (by omega)
      rw [← hy] at hs1
      obtain ⟨u, hu⟩ : ∃ u, u = h + y % 4294967296 := ⟨_, rfl⟩
      rw [← hu] at eo hs1 hy3
      have hs2 := (ho.set k (x := u) rfl hy3).set (k + 1) (x := y / 4294967296) (y := (y : Int) / 4294967296) (by omega) (by omega)
      have hnz : nth ((out.set k u).set (k + 1) (y / 4294967296)) (k + 1) = y / 4294967296 := by
        rw [nth_eq _ _ (by simp only [List.length_set]; omega), List.getElem_set_self]
      have hzz : ∀ j, k + 1 < j → nth ((out.set k u).set (k + 1) (y / 4294967296)) j = 0 := fun j hj => by
        rw [nth_set_ne (by omega), nth_set_ne (by omega)]; exact HZ.out j (by omega)
      have HS := Lib.hid hs1; have HX := Lib.hid hxx; have HH := Lib.hid hhh; have HNZ := Lib.hid hnz; have HZZ := Lib.hid hzz
      clear hs1 hxx hhh hy hu hnz hzz
      go_wp2_with fail
      go_roundw
      case rel => exact ⟨k + 1, _, by omega, by go_num, hs2, Lib.hid HS.out, by rw [HNZ.out]; exact hyd, HZZ.out, xt⟩
      case measure => simp [intOf] <;> omega
    · obtain rfl : k = a.length := by omega
      have hq := H1.out
      rw [nv_take_ge _ _ (by omega), nv_take_ge _ _ (Nat.le_refl _)] at hq
      have HQ := Lib.hid hq
      clear hq
      go_wp2_with fail
      go_ret
      exact ⟨_, out, rfl, ho, HQ.out, hx⟩

theorem Nl.cells {w : World} {X : Nat → Prop} {b o c : Nat} {l : List Nat} (h : Nl w X (some ⟨b, o, none⟩) c l) (i : Nat) (hi : i < l.length) : w.cell? ⟨b, o + i, none⟩ = some (.int .u32 (nth l i)) := by
  obtain ⟨b', o', hA, _, hc, _⟩ := h.at_ hi
  have h9 := Option.some.inj hA
  obtain ⟨rfl, rfl⟩ : b = b' ∧ o = o' := ⟨congrArg Addr.block h9, congrArg Addr.off h9⟩
  exact hc i hi

set_option maxHeartbeats 1600000 in
theorem add32_c (x y b : Nat) (hx : x < 4294967296) (hy : y < 4294967296) (hb : b ≤ 1) (w : World) :
    Calls Tryz.prog 155 #[.int .u32 x, .int .u32 y, .int .u32 b] w fun e w' => e = .returned (.tuple #[.int .u32 ((x + y + b) % 4294967296 : Nat), .int .u32 ((x + y + b) / 4294967296 : Nat)]) ∧ w = w' := by
  rw [show (((x + y + b) % 4294967296 : Nat) : Int) = ((x : Int) + y + b) % 4294967296 by omega, show (((x + y + b) / 4294967296 : Nat) : Int) = ((x : Int) + y + b) / 4294967296 by omega]
  go_enter Tryz.func155, Tryz.ntmps155
  go_wp2
  go_ret2
  exact ⟨rfl, rfl⟩
theorem exp3 (a p x y z : Nat) : a + p * x + 4294967296 * p * y + 4294967296 * (4294967296 * p) * z = a + p * (x + 4294967296 * (z * 4294967296 + y)) := by
  rw [Nat.mul_add p, Nat.mul_left_comm p 4294967296, Nat.mul_add p, ← Nat.mul_assoc p z, Nat.mul_assoc 4294967296 p y, Nat.mul_assoc 4294967296 (4294967296 * p) z, Nat.mul_assoc 4294967296 p z]
  omega

set_option maxRecDepth 100000 in
set_option maxHeartbeats 1600000 in
theorem digit_c {g n cap base d i c0 mu : Nat} {B : Option Addr} {l v : List Nat} {w : World} {Y : Nat → Prop} (ho : Nown w base (.slice (some ⟨g, 0, none⟩) n cap) l) (hb : Nl w Y B d v) (hY : ¬ Y g) (hv : 2 ≤ v.length) (hmu : mu = v.length + 1) (hi : i + mu ≤ n) (htop : 2147483648 ≤ nth v (v.length - 1)) (hlt : nv ((l.drop i).take (v.length + 1)) < 4294967296 * nv v) (hL : n ≤ 1099511627777) :
    Calls Tryz.prog 137 #[.slice (some ⟨g, i, none⟩) mu c0, .slice B v.length d] w fun e w' => e = .returned (.int .u32 (nv ((l.drop i).take (v.length + 1)) / nv v : Nat)) ∧
      (∃ out, Nown w' base (.slice (some ⟨g, 0, none⟩) n cap) out ∧ (∀ j, j < i ∨ i + mu ≤ j → nth out j = nth l j) ∧ nv ((out.drop i).take (v.length + 1)) = nv ((l.drop i).take (v.length + 1)) % nv v) ∧ w.grownBy w' (some g) := by
  have hn := ho.len
  have hlb := ho.lb
  have hvb := hb.lb
  have hb0 := hb
  have hm2 := hb.2.1; have hl2 := hb.1
  simp only [maxLen] at hm2
  obtain ⟨b2, o2, rfl, _, hcv, hnv⟩ := hb.at_ (k := v.length - 1) (by omega)
  obtain ⟨m, hm⟩ : ∃ m, m = v.length := ⟨_, rfl⟩
  obtain ⟨m1, hm1⟩ : ∃ m1, m = m1 + 1 := ⟨m - 1, by omega⟩
  obtain ⟨m2, hm2'⟩ : ∃ m2, m = m2 + 2 := ⟨m - 2, by omega⟩
  obtain ⟨v1, hv1⟩ : ∃ x, x = nth v m1 := ⟨_, rfl⟩
  obtain ⟨v2, hv2⟩ : ∃ x, x = nth v m2 := ⟨_, rfl⟩
  obtain ⟨u0, hu0⟩ : ∃ x, x = nth l (i + m) := ⟨_, rfl⟩
  obtain ⟨u1, hu1⟩ : ∃ x, x = nth l (i + m1) := ⟨_, rfl⟩
  obtain ⟨u2, hu2⟩ : ∃ x, x = nth l (i + m2) := ⟨_, rfl⟩
  have cv1 := hcv m1 (by omega)
  have cv2 := hcv m2 (by omega)
  have cu0 := (ho.cell (i + m) (by omega)).1
  have cu1 := (ho.cell (i + m1) (by omega)).1
  have cu2 := (ho.cell (i + m2) (by omega)).1
  rw [← hv1] at cv1
  rw [← hv2] at cv2
  rw [← hu0] at cu0
  rw [← hu1] at cu1
  rw [← hu2] at cu2
  have bv1 : v1 < 4294967296 := by rw [hv1]; exact hvb.nth _
  have bv2 : v2 < 4294967296 := by rw [hv2]; exact hvb.nth _
  have bu0 : u0 < 4294967296 := by rw [hu0]; exact hlb.nth _
  have bu1 : u1 < 4294967296 := by rw [hu1]; exact hlb.nth _
  have bu2 : u2 < 4294967296 := by rw [hu2]; exact hlb.nth _
  have tv1 : 2147483648 ≤ v1 := by rw [hv1]; rw [show m1 = v.length - 1 by omega]; exact htop
  obtain ⟨V, hV⟩ : ∃ x, x = nv v := ⟨_, rfl⟩
  obtain ⟨U, hU⟩ : ∃ x, x = nv ((l.drop i).take (v.length + 1)) := ⟨_, rfl⟩
  obtain ⟨top, htp⟩ : ∃ x, x = u0 * 4294967296 + u1 := ⟨_, rfl⟩
  rw [← hV, ← hU] at hlt
  rw [← hV, ← hU]
  -- the parts of both
  have eV : V = nv (v.take m2) + pw m2 * (v2 + 4294967296 * v1) := by
    rw [hV, ← nv_take_ge v m (by omega), hm2', nv_take_succ', nv_take_succ', pw_succ, ← hv2, show m2 + 1 = m1 by omega, ← hv1, Nat.mul_add, Nat.mul_left_comm (pw m2), ← Nat.mul_assoc]
    omega
  have eU : U = nv ((l.drop i).take m2) + pw m2 * (u2 + 4294967296 * top) := by
    rw [hU, ← hm, hm2', show m2 + 2 + 1 = (m2 + 1 + 1) + 1 from rfl, nv_take_succ', nv_take_succ', nv_take_succ', pw_succ, pw_succ]
    have n0 : nth (l.drop i) m2 = u2 := by rw [hu2]; simp [nth]
    have n1 : nth (l.drop i) (m2 + 1) = u1 := by rw [hu1, show m2 + 1 = m1 by omega]; simp [nth]
    have n2 : nth (l.drop i) (m2 + 1 + 1) = u0 := by rw [hu0, show m2 + 1 + 1 = m by omega]; simp [nth]
    rw [n0, n1, n2, htp, pw_succ, exp3]
  have bLV : nv (v.take m2) < pw m2 := by have := nv_lt (hvb.take m2); rwa [List.length_take_of_le (by omega)] at this
  have bLU : nv ((l.drop i).take m2) < pw m2 := by have := nv_lt ((hlb.drop i).take m2); rwa [List.length_take_of_le (by rw [List.length_drop]; omega)] at this
  have hq0 := kn_first (p := pw m2) (lU := nv ((l.drop i).take m2)) (u2 := u2) (top := top) (lV := nv (v.take m2)) (v2 := v2) (v1 := v1) bLU bu2 (by omega) (by rw [← eV, ← eU]; exact hlt)
  rw [← eU, ← eV] at hq0
  have hdn := fun (q rest : Nat) (h1 : q * v1 + rest = top) (h2 : rest * 4294967296 + u2 < q * v2) => kn_down (p := pw m2) (lU := nv ((l.drop i).take m2)) (u2 := u2) (top := top) (lV := nv (v.take m2)) (v2 := v2) (v1 := v1) bLU h1 h2
  simp only [← eU, ← eV] at hdn
  have hex := fun (q rest : Nat) (h1 : q * v1 + rest = top) (h2 : q < 4294967296) (h3 : 4294967296 ≤ rest ∨ q * v2 ≤ rest * 4294967296 + u2) => kn_exit (p := pw m2) (lU := nv ((l.drop i).take m2)) (u2 := u2) (top := top) (lV := nv (v.take m2)) (v2 := v2) (v1 := v1) bLV h1 h2 bv2 tv1 h3
  simp only [← eU, ← eV] at hex
  have htop2 : top < 18446744073709551616 := by omega
  obtain ⟨q0, hq0d⟩ : ∃ x, x = min (top / v1) 4294967295 := ⟨_, rfl⟩
  have hq0b : q0 ≤ 4294967295 := by omega
  have hq0t : q0 * v1 ≤ top := by
    have h1 : q0 ≤ top / v1 := by omega
    exact Nat.le_trans (Nat.mul_le_mul_right v1 h1) (Nat.div_mul_le_self _ _)
  obtain ⟨r0, hr0⟩ : ∃ r0, q0 * v1 + r0 = top := ⟨top - q0 * v1, by omega⟩
  rw [← hq0d] at hq0
  have eo : bits .or .u64 ((u0 : Int) * 4294967296) (u1 : Int) = (top : Int) := by
    rw [htp, ← u64_or u0 u1 bu0 bu1]; rfl
  have HV1 := Lib.hid hv1; have HV2 := Lib.hid hv2; have HU2 := Lib.hid hu2
  have HQ := Lib.hid hq0; have HD := Lib.hid hdn; have HE := Lib.hid hex; have HQD := Lib.hid hq0d; have HR := Lib.hid hr0; have HV := Lib.hid hV; have HU := Lib.hid hU; have HM := Lib.hid hm; have HMU := Lib.hid hmu; have HN := Lib.hid hn
  rw [hm] at cu0
  have i0 : (v.length : Int) < (mu : Int) := by omega
  have hmuu : v.length + 1 ≤ mu := by omega
  have hnl : n ≤ l.length := by omega
  have hmul : mu ≤ v.length + 1 := by omega
  have i1 : (m1 : Int) < (mu : Int) := by omega
  have i2 : (m2 : Int) < (mu : Int) := by omega
  have j1 : (m1 : Int) < (v.length : Int) := by omega
  have j2 : (m2 : Int) < (v.length : Int) := by omega
  have e1 : ((v.length : Nat) : Int) - 1 = (m1 : Int) := by omega
  have e2 : ((v.length : Nat) : Int) - 2 = (m2 : Int) := by omega
  have w0 := w64n (n := v.length) (by omega)
  clear hq0 hdn hex hq0d hr0 hV hU eV eU bLV bLU htp hm hmu hn hcv hnv hv1 hv2 hu0 hu1 hu2 hm1 hm2'
  go_enter Tryz.func137, Tryz.ntmps137
  go_upto_region 2 with fail
  go_quiet (fail)
  go_upto_region 3 with fail
  refine wp_named fun W1 hW1 => ?_
  have k1 : Kp (fun _ => True) w W1 := by rw [hW1]; exact (Kp.refl w).drewN _
  have g1 : w.grownBy W1 (some g) := by rw [hW1]; exact grownBy_drewN (World.grownBy.refl _ _) _
  have ho := ho.keep (Kp.imp k1 fun _ _ => trivial)
  have hb := hb.keep (Kp.imp k1 fun _ _ => trivial)
  replace cv1 : W1.cell? ⟨b2, o2 + m1, none⟩ = some (.int .u32 v1) := by rw [hW1]; exact cv1
  clear hW1 k1 cu0 cu1 cu2 cv2
  go_cut [7] (fun qv wx => qv = .int .u64 (q0 : Int) ∧ W1 = wx)
  case first =>
    obtain ⟨t, ht⟩ : ∃ t, t = top / v1 := ⟨_, rfl⟩
    have ew : IntKind.u64.wrap ((top : Int) / (v1 : Int)) = (t : Int) := by
      have h1 : (top : Int) / (v1 : Int) = (t : Int) := by rw [ht]; rfl
      have h2 : t ≤ top := by rw [ht]; exact Nat.div_le_self _ _
      rw [h1, wrap_u64]
      omega
    have EW := Lib.hid ew; have HT := Lib.hid ht
    clear ew ht
    go_wp2_with fail
    · go_meet
      have h : 4294967295 < IntKind.u64.wrap ((top : Int) / (v1 : Int)) := by assumption
      have e := EW.out; have hq := HQD.out; rw [← HT.out] at hq
      rw [e] at h
      exact ⟨congrArg (Value.int .u64) (by omega), rfl⟩
    · go_meet
      have h : IntKind.u64.wrap ((top : Int) / (v1 : Int)) ≤ 4294967295 := by assumption
      have e := EW.out; have hq := HQD.out; rw [← HT.out] at hq
      rw [e] at h ⊢
      exact ⟨congrArg (Value.int .u64) (by omega), rfl⟩
  obtain ⟨rfl, rfl⟩ := hcut
  obtain ⟨p0, hp0⟩ : ∃ p0, p0 = q0 * v1 := ⟨_, rfl⟩
  have em : IntKind.u64.wrap ((q0 : Int) * (v1 : Int)) = (p0 : Int) := by
    have h1 : (q0 : Int) * (v1 : Int) = (p0 : Int) := by rw [hp0]; simp
    rw [h1, wrap_u64]
    omega
  have es : (top : Int) - (p0 : Int) = (r0 : Int) := by have := HR.out; omega
  have hpt : p0 ≤ top := by omega
  clear hp0 hq0t
  go_upto_block 0 with fail
  go_cut [7] (fun qv wx => ∃ q : Nat, qv = .int .u64 (q : Int) ∧ q ≤ 4294967295 ∧ Hid (U / V ≤ q ∧ q ≤ U / V + 1) ∧ Nown wx base (.slice (some ⟨g, 0, none⟩) n cap) l ∧ Nl wx Y (some ⟨b2, o2, none⟩) d v ∧ w.grownBy wx (some g))
  case first =>
    go_wp2_with fail
    go_loopw [7, 8] (fun qv rv wr => ∃ q r : Nat, qv = .int .u64 (q : Int) ∧ rv = .int .u64 (r : Int) ∧ Hid (q * v1 + r = top) ∧ q ≤ 4294967295 ∧ r ≤ top ∧ Hid (U / V ≤ q) ∧ Nown wr base (.slice (some ⟨g, 0, none⟩) n cap) l ∧ Nl wr Y (some ⟨b2, o2, none⟩) d v ∧ w.grownBy wr (some g)) (fun qv _ _ => (intOf qv).toNat)
    case atStart => exact ⟨q0, r0, rfl, rfl, Lib.hid HR.out, hq0b, by omega, Lib.hid HQ.out, ho, hb, g1⟩
    case round =>
      obtain ⟨q, r, rfl, rfl, H1, hq, hr, H2, ho, hb, hg⟩ := hrel
      have cv1 := hb.cells m1 (by omega)
      have cv2 := hb.cells m2 (by omega)
      have cu2 := (ho.cell (i + m2) (by omega)).1
      rw [← HV1.out] at cv1
      rw [← HV2.out] at cv2
      rw [← HU2.out] at cu2
      clear es em eo
      by_cases hr1 : r < 4294967296
      · obtain ⟨pq, hpq⟩ : ∃ x, x = q * v2 := ⟨_, rfl⟩
        have hpq2 : pq ≤ 4294967295 * 4294967295 := by rw [hpq]; exact Nat.mul_le_mul hq (by omega)
        have em2 : IntKind.u64.wrap ((q : Int) * (v2 : Int)) = (pq : Int) := by
          have h1 : (q : Int) * (v2 : Int) = (pq : Int) := by rw [hpq]; simp
          rw [h1, wrap_u64]
          omega
        obtain ⟨rb, hrb⟩ : ∃ x, x = r * 4294967296 + u2 := ⟨_, rfl⟩
        have eo2 : bits .or .u64 ((r : Int) * 4294967296) (u2 : Int) = (rb : Int) := by
          rw [hrb, ← u64_or r u2 hr1 bu2]; rfl
        have d1 : decide ((r : Int) < 4294967296) = true := decide_eq_true (by omega)
        have HPQ := Lib.hid hpq; have HRB := Lib.hid hrb
        clear hpq hrb
        by_cases ht : rb < pq
        · have d2 : decide ((pq : Int) > (rb : Int)) = true := decide_eq_true (by omega)
          have d3 : decide (rb < pq) = true := decide_eq_true ht
          have hlow := HD.out q r H1.out (by rw [← HRB.out, ← HPQ.out]; exact ht)
          have hq1 : 1 ≤ q := Nat.lt_of_le_of_lt (Nat.zero_le _) hlow
          obtain ⟨q', hq'⟩ : ∃ q', q = q' + 1 := ⟨q - 1, by omega⟩
          have hnew : q' * v1 + (r + v1) = top := by
            have := H1.out
            rw [hq', Nat.add_mul, Nat.one_mul] at this
            omega
          have hlow' : U / V ≤ q' := by rw [hq'] at hlow; exact Nat.lt_succ_iff.1 hlow
          have HNW := Lib.hid hnew; have HLW := Lib.hid hlow'
          have eq1 : (q : Int) - 1 = (q' : Int) := by omega
          have hrt : r + v1 ≤ top := by omega
          have hqq : q' ≤ 4294967295 := by omega
          have hqm : q' < q := by omega
          clear hq' hnew hlow' hlow
          go_upto_region 5 with fail
          go_quiet (fail)
          go_wp2_with fail
          go_roundw
          case rel => exact ⟨q', r + v1, rfl, by go_num, HNW, hqq, hrt, HLW, ho.keep (Kp.drewN (Kp.refl _) _), Nl.keep hb (Kp.drewN (Kp.refl _) _), grownBy_drewN hg _⟩
          case measure => simp [intOf]; omega
        · have d2 : decide ((pq : Int) > (rb : Int)) = false := decide_eq_false (by omega)
          have d3 : decide (rb < pq) = false := decide_eq_false ht
          have hfin := HE.out q r H1.out (by omega) (.inr (by rw [← HPQ.out, ← HRB.out]; omega))
          have HF := Lib.hid hfin
          clear hfin
          go_upto_region 5 with fail
          go_quiet (fail)
          go_wp2_with fail
          go_meet
          exact ⟨q, rfl, hq, Lib.hid ⟨H2.out, HF.out⟩, ho.keep (Kp.drewN (Kp.refl _) _), Nl.keep hb (Kp.drewN (Kp.refl _) _), grownBy_drewN hg _⟩
      · have d1 : decide ((r : Int) < 4294967296) = false := decide_eq_false (by omega)
        have hfin := HE.out q r H1.out (by omega) (.inl (by omega))
        have HF := Lib.hid hfin
        clear hfin
        go_upto_region 5 with fail
        go_quiet (fail)
        go_wp2_with fail
        go_meet
        exact ⟨q, rfl, hq, Lib.hid ⟨H2.out, HF.out⟩, ho.keep (Kp.drewN (Kp.refl _) _), Nl.keep hb (Kp.drewN (Kp.refl _) _), grownBy_drewN hg _⟩
  obtain ⟨q, rfl, hq, Hq, ho, hb, hg⟩ := hcut
  clear es em eo HE HD HR HQD HQ
  go_wp2_with fail
  have hVm : nv (v.take v.length) = V := by rw [nv_take_ge _ _ (Nat.le_refl _)]; exact HV.out.symm
  have hUm : nv ((l.drop i).take (v.length + 1)) = U := HU.out.symm
  have HVM := Lib.hid hVm; have HUM := Lib.hid hUm
  clear hVm hUm
  go_loopw [9, 10, 84] (fun cv bv iv wr => ∃ (k c br : Nat) (out : List Nat), k ≤ v.length ∧ iv = .int .i64 k ∧ cv = .int .u64 c ∧ bv = .int .u32 br ∧ c < 4294967296 ∧ br ≤ 1 ∧ Nown wr base (.slice (some ⟨g, 0, none⟩) n cap) out ∧
      Hid (∀ j, j < i ∨ i + k ≤ j → nth out j = nth l j) ∧ Hid (nv ((out.drop i).take k) + q * nv (v.take k) = nv ((l.drop i).take k) + pw k * (c + br)) ∧ w.grownBy wr (some g)) (fun _ _ iv _ => v.length - (intOf iv).toNat)
  case atStart => exact ⟨0, 0, 0, l, Nat.zero_le _, rfl, rfl, rfl, by omega, by omega, ho, Lib.hid fun _ _ => rfl, Lib.hid (by simp [nv]), hg⟩
  case round =>
    obtain ⟨k, c, br, out, hk, rfl, rfl, rfl, hc, hbr, ho1, HS, HI, hg1⟩ := hrel
    have hb1 : Nl wr Y (some ⟨b2, o2, none⟩) d v := Nl.keep hb0 (Kp.of_grown hg1 hY)
    have hol := ho1.len
    have hol1 : n ≤ out.length := by omega
    have hol2 : out.length ≤ n := by omega
    clear hol ho hb hg
    by_cases hlt : k < v.length
    · have cv1 := hb1.cells k hlt
      have hvx := hvb.nth k
      obtain ⟨cu1, fu1⟩ := ho1.cell (i + k) (by omega)
      rw [HS.out (i + k) (.inr (Nat.le_refl _))] at cu1
      have hux := hlb.nth (i + k)
      obtain ⟨x, hx⟩ : ∃ x, x = nth v k := ⟨_, rfl⟩
      obtain ⟨u, hu⟩ : ∃ x, x = nth l (i + k) := ⟨_, rfl⟩
      rw [← hx] at cv1 hvx
      rw [← hu] at cu1 hux
      obtain ⟨px, hpx⟩ : ∃ p, p = q * x := ⟨_, rfl⟩
      have hpx2 : px ≤ 4294967295 * 4294967295 := by rw [hpx]; exact Nat.mul_le_mul hq (by omega)
      have em2 : IntKind.u64.wrap ((q : Int) * (x : Int)) = (px : Int) := by
        have h1 : (q : Int) * (x : Int) = (px : Int) := by rw [hpx]; simp
        rw [h1, wrap_u64]
        omega
      obtain ⟨s, hs⟩ : ∃ s, s = c + px := ⟨_, rfl⟩
      have es : (c : Int) + (px : Int) = (s : Int) := by omega
      obtain ⟨lo, hlo⟩ : ∃ y, y = s % 4294967296 := ⟨_, rfl⟩
      have el : (s : Int) % 4294967296 = (lo : Int) := by omega
      obtain ⟨c2, hc2⟩ : ∃ y, y = s / 4294967296 := ⟨_, rfl⟩
      have ec : (s : Int) / 4294967296 = (c2 : Int) := by omega
      have hc3 : c2 < 4294967296 := by omega
      have hlo2 : lo < 4294967296 := by omega
      have hsb := fun (W : World) => sub32_c u lo br hux hlo2 hbr W
      have hbe := brw_eq u lo br _ hux hlo2 hbr rfl
      have hbl := brw_le u (lo + br)
      obtain ⟨dd, hdd⟩ : ∃ y, y = (u + 4294967296 - lo - br) % 4294967296 := ⟨_, rfl⟩
      have hdl : dd < 4294967296 := by omega
      obtain ⟨b3, hb3⟩ : ∃ y, y = brw u (lo + br) := ⟨_, rfl⟩
      rw [← hdd] at hbe
      simp only [← hdd, ← hb3] at hsb
      rw [← hb3] at hbe hbl
      have hst := ms_step (out := out.drop i) (a := l.drop i) (b := v) (k := k) (q := q) (s := s) (lo := lo) (d := dd) (br' := b3) HI.out (by rw [List.length_drop]; omega) (by rw [← hx, ← hpx]; exact hs) hlo (by rw [nth_drop, ← hu]; exact hbe)
      rw [← drop_set_add, ← hc2] at hst
      have hn1 := ho1.set (i + k) (x := dd) rfl hdl
      have hsm : ∀ j, j < i ∨ i + (k + 1) ≤ j → nth (out.set (i + k) dd) j = nth l j := fun j hj => by
        rw [nth_set_ne (by omega)]; exact HS.out j (by omega)
      have HST := Lib.hid hst; have HSM := Lib.hid hsm; have HSB := Lib.hid hsb
      have iu : (k : Int) < (mu : Int) := by omega
      clear hst hsm hsb hbe hdd hb3 hpx hs hlo hc2 hx hu
      go_wp2_with (go_at_call 154; refine (HSB.out _).mono ?_; rintro e w' ⟨rfl, rfl⟩)
      go_roundw
      case rel => exact ⟨k + 1, c2, b3, _, by omega, by go_num, rfl, rfl, hc3, hbl, hn1, HSM, HST, grownBy_store hg1 _ _⟩
      case measure => simp [intOf] <;> omega
    · obtain rfl : k = v.length := by omega
      obtain ⟨cu1, fu1⟩ := ho1.cell (i + v.length) (by omega)
      rw [HS.out (i + v.length) (.inr (Nat.le_refl _))] at cu1
      have hux := hlb.nth (i + v.length)
      obtain ⟨u, hu⟩ : ∃ x, x = nth l (i + v.length) := ⟨_, rfl⟩
      rw [← hu] at cu1 hux
      have ec : (c : Int) % 4294967296 = (c : Int) := by omega
      have hsb := fun (W : World) => sub32_c u c br hux hc hbr W
      have hbe := brw_eq u c br _ hux hc hbr rfl
      have hbl := brw_le u (c + br)
      obtain ⟨dd, hdd⟩ : ∃ y, y = (u + 4294967296 - c - br) % 4294967296 := ⟨_, rfl⟩
      have hdl : dd < 4294967296 := by omega
      obtain ⟨b3, hb3⟩ : ∃ y, y = brw u (c + br) := ⟨_, rfl⟩
      rw [← hdd] at hbe
      simp only [← hdd, ← hb3] at hsb
      rw [← hb3] at hbe hbl
      have hst := ms_last (out := out.drop i) (a := l.drop i) (b := v) (n := v.length) (q := q) (c := c) (br := br) (lo := c) (d := dd) (br' := b3) HI.out (by rw [List.length_drop]; omega) rfl (by rw [nth_drop, ← hu]; exact hbe)
      rw [← drop_set_add, HVM.out, HUM.out] at hst
      have hn1 := ho1.set (i + v.length) (x := dd) rfl hdl
      have hsm : ∀ j, j < i ∨ i + mu ≤ j → nth (out.set (i + v.length) dd) j = nth l j := fun j hj => by
        rw [nth_set_ne (by omega)]; exact HS.out j (by omega)
      have hg2 := grownBy_store hg1 (i + v.length) (.int .u32 dd)
      have hV0 : 0 < V := by omega
      have hR := nv_lt ((hn1.lb.drop i).take (v.length + 1))
      rw [List.length_take_of_le (by rw [List.length_drop, List.length_set]; omega)] at hR
      have hVlt : V < pw v.length := by rw [HV.out]; exact nv_lt hvb
      obtain ⟨f1, f2, f3⟩ := ms_fine hst hR (by have := Hq.out; omega) hV0 hbl
      have hmod := Nat.mod_lt U hV0
      obtain ⟨out1, hout1⟩ : ∃ o, o = out.set (i + v.length) dd := ⟨_, rfl⟩
      rw [← hout1] at hn1 hsm f2 f3
      have ho1l : out1.length = n := by rw [hout1, List.length_set]; omega
      have HSM := Lib.hid hsm; have HSB := Lib.hid hsb; have HF1 := Lib.hid f1; have HF2 := Lib.hid f2; have HF3 := Lib.hid f3; have HMo := Lib.hid hmod; have HVL := Lib.hid hVlt; have HO1 := Lib.hid ho1l
      have iu : (v.length : Int) < (mu : Int) := by omega
      clear hst hsm hsb hbe hdd hb3 hu hR f1 f2 f3 hmod hVlt hout1 ho1l hV0 hlt HS HI hg1 HUM hb1
      rcases Nat.eq_zero_or_pos b3 with h0 | h0
      · subst h0
        have d0 : decide (((0 : Nat) : Int) > 0) = false := decide_eq_false (by omega)
        go_wp2_with (go_at_call 154; refine (HSB.out _).mono ?_; rintro e w' ⟨rfl, rfl⟩)
        go_ret
        exact ⟨by rw [HF1.out.1 trivial]; rfl, ⟨out1, hn1, HSM.out, HF2.out trivial⟩, hg2⟩
      · obtain rfl : b3 = 1 := by omega
        have hqt : q = U / V + 1 := by
          have h1 := Hq.out
          have h2 : ¬ q = U / V := fun e => absurd (HF1.out.2 e) (by omega)
          omega
        obtain ⟨q', hq'⟩ : ∃ x, x = U / V := ⟨_, rfl⟩
        rw [← hq'] at hqt
        have eq1 : (q : Int) - 1 = (q' : Int) := by omega
        have hq1 : 1 ≤ q := by omega
        have hq2 : q' < 4294967296 := by omega
        have eq2 : (q' : Int) % 4294967296 = (q' : Int) := by omega
        obtain ⟨D, hD⟩ : ∃ D, D = U % V := ⟨_, rfl⟩
        have h3 := HF3.out rfl
        have hD2 : D < pw (v.length + 1) := by
          have h1 := HMo.out; have h2 := HVL.out; have := pw_succ v.length; omega
        rw [← hD] at h3
        have H3 := Lib.hid h3; have HD2 := Lib.hid hD2; have HQ' := Lib.hid hq'; have HDD := Lib.hid hD
        clear hq' hqt h3 hD2 hD HF1 HF2 HF3 HMo HVL Hq
        go_upto_region 16 with fail
        go_upto_region 19 with (go_at_call 154; refine (HSB.out _).mono ?_; rintro e w' ⟨rfl, rfl⟩)
        refine wp_named fun W2 hW2 => ?_
        have hn1 : Nown W2 base (.slice (some ⟨g, 0, none⟩) n cap) out1 := by rw [hW2]; exact hn1
        have hg2 : w.grownBy W2 (some g) := by rw [hW2]; exact hg2
        clear hW2 HSB hux cu1 fu1 ec hbl hdl ho1
        go_wp2_with fail
        go_loopw [13, 132] (fun cv iv wr => ∃ (k c : Nat) (out : List Nat), k ≤ v.length ∧ iv = .int .i64 k ∧ cv = .int .u32 c ∧ c ≤ 1 ∧ Nown wr base (.slice (some ⟨g, 0, none⟩) n cap) out ∧
            Hid (∀ j, j < i ∨ i + k ≤ j → nth out j = nth out1 j) ∧ Hid (nv ((out.drop i).take k) + pw k * c = nv ((out1.drop i).take k) + nv (v.take k)) ∧ w.grownBy wr (some g)) (fun _ iv _ => v.length - (intOf iv).toNat)
        case atStart => exact ⟨0, 0, out1, Nat.zero_le _, rfl, rfl, by omega, hn1, Lib.hid fun _ _ => rfl, Lib.hid (by simp [nv]), hg2⟩
        case round =>
          obtain ⟨k, c, out, hk, rfl, rfl, hc, ho1, HS, HI, hg1⟩ := hrel
          have hb1 : Nl wr Y (some ⟨b2, o2, none⟩) d v := Nl.keep hb0 (Kp.of_grown hg1 hY)
          have hol := ho1.len
          have hol1 : n ≤ out.length := by omega
          have hol2 : out.length ≤ n := by omega
          clear hol hg2
          have hlb1 := hn1.lb
          by_cases hlt : k < v.length
          · have cv1 := hb1.cells k hlt
            have hvx := hvb.nth k
            obtain ⟨cu1, fu1⟩ := ho1.cell (i + k) (by omega)
            rw [HS.out (i + k) (.inr (Nat.le_refl _))] at cu1
            have hux := hlb1.nth (i + k)
            obtain ⟨x, hx⟩ : ∃ x, x = nth v k := ⟨_, rfl⟩
            obtain ⟨u, hu⟩ : ∃ x, x = nth out1 (i + k) := ⟨_, rfl⟩
            rw [← hx] at cv1 hvx
            rw [← hu] at cu1 hux
            have hsb := fun (W : World) => add32_c u x c hux hvx hc W
            obtain ⟨s, hs⟩ : ∃ s, s = u + x + c := ⟨_, rfl⟩
            have hst := ab_step (out := out.drop i) (a := out1.drop i) (b := v) (k := k) (c := c) (s := s) HI.out (by rw [List.length_drop]; omega) (by rw [nth_drop, ← hu, ← hx]; exact hs)
            simp only [← hs] at hsb
            have hs2 : s / 4294967296 ≤ 1 := by omega
            rw [← drop_set_add] at hst
            obtain ⟨dd, hdd⟩ : ∃ y, y = s % 4294967296 := ⟨_, rfl⟩
            obtain ⟨c2, hc2⟩ : ∃ y, y = s / 4294967296 := ⟨_, rfl⟩
            have hdl : dd < 4294967296 := by omega
            simp only [← hdd, ← hc2] at hsb
            rw [← hdd, ← hc2] at hst
            rw [← hc2] at hs2
            have hn2 := ho1.set (i + k) (x := dd) rfl hdl
            have hsm : ∀ j, j < i ∨ i + (k + 1) ≤ j → nth (out.set (i + k) dd) j = nth out1 j := fun j hj => by
              rw [nth_set_ne (by omega)]; exact HS.out j (by omega)
            have HST := Lib.hid hst; have HSM := Lib.hid hsm; have HSB := Lib.hid hsb
            have iu : (k : Int) < (mu : Int) := by omega
            clear hst hsm hsb hdd hc2 hs hx hu
            go_wp2_with (go_at_call 155; refine (HSB.out _).mono ?_; rintro e w' ⟨rfl, rfl⟩)
            go_roundw
            case rel => exact ⟨k + 1, c2, _, by omega, by go_num, rfl, hs2, hn2, HSM, HST, grownBy_store hg1 _ _⟩
            case measure => simp [intOf] <;> omega
          · obtain rfl : k = v.length := by omega
            obtain ⟨cu1, fu1⟩ := ho1.cell (i + v.length) (by omega)
            rw [HS.out (i + v.length) (.inr (Nat.le_refl _))] at cu1
            have hux := hlb1.nth (i + v.length)
            obtain ⟨u, hu⟩ : ∃ x, x = nth out1 (i + v.length) := ⟨_, rfl⟩
            rw [← hu] at cu1 hux
            obtain ⟨dd, hdd⟩ : ∃ y, y = (u + c) % 4294967296 := ⟨_, rfl⟩
            have hdl : dd < 4294967296 := by omega
            have ew : ((u : Int) + (c : Int)) % 4294967296 = (dd : Int) := by omega
            have hn2 := ho1.set (i + v.length) (x := dd) rfl hdl
            have hsm : ∀ j, j < i ∨ i + mu ≤ j → nth (out.set (i + v.length) dd) j = nth l j := fun j hj => by
              rw [nth_set_ne (by omega), HS.out j (by omega)]; exact HSM.out j hj
            have hlst := ab_last (out := out.drop i) (out1 := out1.drop i) (b := v) (n := v.length) (ca := c) (x := u) (R1 := nv ((out1.drop i).take (v.length + 1))) (D := D) HI.out (by rw [List.length_drop]; omega) (by rw [nth_drop]; exact hu) rfl (by rw [HVM.out]; exact HV.out) (Lb.set (ho1.lb.drop i) _ (by omega)) (by rw [← HV.out]; exact H3.out) HD2.out
            rw [← hdd, ← drop_set_add] at hlst
            have hg3 := grownBy_store hg1 (i + v.length) (.int .u32 dd)
            have HL := Lib.hid hlst; have HSM2 := Lib.hid hsm
            have iu : (v.length : Int) < (mu : Int) := by omega
            clear hlst hsm hdd hu HS HI hlt
            go_wp2_with fail
            go_ret
            exact ⟨by rw [← HQ'.out]; rfl, ⟨_, hn2, HSM2.out, by rw [← HDD.out]; exact HL.out⟩, hg3⟩

end Go.Proofs.YthmjgbkakjpfkaaGreatDoor
