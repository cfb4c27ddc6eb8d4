/- Contracts of package riddleref01: Quo, DivMod. No conditions. -/
import Derived.Test.YthmjgbkakjpfkaaGreatDoorGTurnsAc
namespace Go.Proofs.YthmjgbkakjpfkaaGreatDoor
open Go.RowKit

theorem nth_set_eq {l : List Nat} {j v : Nat} (h : j < l.length) : nth (l.set j v) j = v := by
  simp [nth, h]
theorem rquo_step {a out : List Nat} {n L j : Nat} (h : nv (a.drop (j + 1)) = n * nv (out.drop (j + 1)) + L) (hj : j < a.length) (hlo : j < out.length) :
    nv (a.drop j) = n * nv ((out.set j ((L * 4294967296 + nth a j) / n)).drop j) + (L * 4294967296 + nth a j) % n := by
  rw [nv_drop a j hj, nv_drop _ j (by simpa using hlo), nth_set_eq hlo, List.drop_set_of_lt (by omega), h]; have e := Nat.div_add_mod (L * 4294967296 + nth a j) n
  have e2 : n * ((L * 4294967296 + nth a j) / n + 4294967296 * nv (out.drop (j + 1))) = n * ((L * 4294967296 + nth a j) / n) + 4294967296 * (n * nv (out.drop (j + 1))) := by
    rw [Nat.mul_add, ← Nat.mul_assoc, Nat.mul_comm n 4294967296, Nat.mul_assoc]
  rw [e2]
  omega

set_option maxHeartbeats 1600000 in
theorem rquo_c {A : Option Addr} {c : Nat} {a : List Nat} {w : World} {X : Nat → Prop} (ha : Nl w X A c a) (n : Nat) (hn0 : 0 < n) (hn : n < 4294967296) (hL : a.length ≤ 4398046511104) :
    Calls Tryz.prog 140 #[.slice A a.length c, .int .u32 (n : Int)] w fun e w' => ∃ A' c', e = .returned (.tuple #[.slice A' (lim (nv a / n)).length c', .int .u32 ((nv a % n : Nat) : Int)]) ∧ Nl w' (w.heap.size ≤ ·) A' c' (lim (nv a / n)) ∧ Ext w w' := by
  have hla := ha.lb
  go_enter Tryz.func140, Tryz.ntmps140
  go_wp2_with (at_make; refine wpList_makeu (.tmp 10) (.tmp 10) _ a.length (Nat.le_refl _) (by omega) rfl rfl rfl rfl rfl rfl ?_; intro w1 hown hx1)
  go_loopw [7, 8] (fun lv iv wr => ∃ (i L : Nat) (out : List Nat), i ≤ a.length ∧ iv = .int .i64 ((i : Int) - 1) ∧ lv = .int .u64 (L : Int) ∧ L < n ∧ Nown wr w.heap.size (.slice (some ⟨w.heap.size, 0, none⟩) a.length a.length) out ∧
      Hid (nv (a.drop i) = n * nv (out.drop i) + L) ∧ Ext w wr) (fun _ iv _ => (intOf iv + 1).toNat)
  case atStart => exact ⟨a.length, 0, _, Nat.le_refl _, rfl, rfl, hn0, hown, Lib.hid (by simp [nv]), hx1⟩
  case round =>
    obtain ⟨i, L, out, hi, rfl, rfl, hLn, ho, hinv, hx⟩ := hrel; have hlen := ho.len
    have hlen1 : out.length ≤ a.length := by omega
    have hlen2 : a.length ≤ out.length := by omega
    clear hlen; have hsz := hx.size
    rcases Nat.eq_zero_or_pos i with h0 | h0
    · subst h0; have hnl := ho.nl'.2; have hc := rtrim_c hnl (by omega); have e1 := hinv.out; rw [List.drop_zero, List.drop_zero] at e1
      have e2 : nv out = nv a / n := by rw [e1, Nat.mul_comm, Nat.add_comm, Nat.add_mul_div_right _ _ hn0, Nat.div_eq_of_lt hLn, Nat.zero_add]
      have e3 : L = nv a % n := by rw [e1, Nat.mul_add_mod, Nat.mod_eq_of_lt hLn]
      rw [e2, show out.length = a.length by omega] at hc
      have HC := Lib.hid hc; have E3 := Lib.hid e3
      clear hc e1 e2 e3
      go_wp2_with fail
      refine HC.out.mono ?_; rintro e w3 ⟨A3, c3, rfl, h4, hx3⟩
      go_wp2
      (refine bodyPost_ret (v := ?_) ?_ rfl ?_; rotate_left; (simp only [results, Tryz.results140]; go_simp; (first | done | with_reducible rfl)))
      exact ⟨_, _, by rw [← E3.out], h4.widen fun b hb _ => by omega, hx.trans hx3⟩
    · obtain ⟨j, rfl⟩ : ∃ j, i = j + 1 := ⟨i - 1, by omega⟩
      have ej : (((j + 1 : Nat) : Int) - 1) = (j : Int) := by omega
      rw [ej]; clear ej; obtain ⟨b1, o1, rfl, _, hc1, hb1⟩ := (ha.ext hx).at_ (k := j) (by omega); have c1' := hc1 j (by omega); clear hc1
      have i2 : (j : Int) < (a.length : Int) := by omega
      obtain ⟨hco, hfo⟩ := ho.cell j (by omega); have hst := rquo_step hinv.out (j := j) (by omega) (by omega)
      have hq : (L * 4294967296 + nth a j) / n < 4294967296 := by
        rw [Nat.div_lt_iff_lt_mul hn0]; have : (L + 1) * 4294967296 ≤ n * 4294967296 := Nat.mul_le_mul_right _ hLn
        omega
      have hr := Nat.mod_lt (L * 4294967296 + nth a j) hn0
      have hcast : (L : Int) * 4294967296 + (nth a j : Int) = ((L * 4294967296 + nth a j : Nat) : Int) := by omega
      have HST := Lib.hid hst; have HCA := Lib.hid hcast
      clear hst hinv hcast
      go_wp2
      go_roundw
      case rel => exact ⟨j, (L * 4294967296 + nth a j) % n, out.set j ((L * 4294967296 + nth a j) / n), by omega, by go_num, congrArg (Value.int .u64) (by rw [HCA.out]; omega), hr, ho.set j (by rw [HCA.out, ← Int.natCast_ediv]; generalize (L * 4294967296 + nth a j) / n = Q at hq ⊢; omega) hq, HST, xt⟩
      case measure => simp [intOf] <;> omega

theorem rdm_bit {R0 x V q R k : Nat} (h : R0 * 2 ^ (32 - (k + 1)) + x / 2 ^ (k + 1) = V * q + R) (hk : k < 32) :
    R0 * 2 ^ (32 - k) + x / 2 ^ k = V * (2 * q) + (R * 2 + x / 2 ^ k % 2) := by
  have e1 : 2 ^ (32 - k) = 2 * 2 ^ (32 - (k + 1)) := by rw [show 32 - k = 32 - (k + 1) + 1 by omega, Nat.pow_succ, Nat.mul_comm]
  have e2 : x / 2 ^ (k + 1) = x / 2 ^ k / 2 := by rw [Nat.pow_succ, Nat.div_div_eq_div_mul]
  rw [e2] at h
  have e3 : R0 * (2 * 2 ^ (32 - (k + 1))) = 2 * (R0 * 2 ^ (32 - (k + 1))) := by rw [← Nat.mul_assoc, Nat.mul_comm R0 2, Nat.mul_assoc]
  have e4 : V * (2 * q) = 2 * (V * q) := by rw [← Nat.mul_assoc, Nat.mul_comm V 2, Nat.mul_assoc]
  rw [e1, e3, e4]
  omega
theorem rdm_small {R0 x V q R k : Nat} (h : R0 * 2 ^ (32 - k) + x / 2 ^ k = V * q + R) (hk : k ≤ 32) (hx : x < 4294967296) (hR : R0 < V) : q < 2 ^ (32 - k) := by
  have h1 : x / 2 ^ k < 2 ^ (32 - k) := by
    rw [Nat.div_lt_iff_lt_mul (Nat.pos_of_ne_zero (by simp)), ← Nat.pow_add, show 32 - k + k = 32 by omega]; exact hx
  have h2 : (R0 + 1) * 2 ^ (32 - k) ≤ V * 2 ^ (32 - k) := Nat.mul_le_mul_right _ hR
  have h3 : V * q < V * 2 ^ (32 - k) := by rw [Nat.add_mul, Nat.one_mul] at h2; omega
  exact Nat.lt_of_mul_lt_mul_left h3
theorem rdm_limb {a q q' : List Nat} {V R0 R j y : Nat} (h : nv (a.drop (j + 1)) = V * nv (q.drop (j + 1)) + R0) (hj : j < a.length) (hlo : j < q'.length) (hd : q'.drop (j + 1) = q.drop (j + 1))
    (hn : nth q' j = y) (hb : R0 * 4294967296 + nth a j = V * y + R) : nv (a.drop j) = V * nv (q'.drop j) + R := by
  rw [nv_drop a j hj, nv_drop q' j hlo, hn, hd, h, Nat.mul_add, Nat.mul_add, ← Nat.mul_assoc V, Nat.mul_comm V 4294967296, Nat.mul_assoc]
  omega

set_option maxHeartbeats 1600000 in
theorem rdivm_c {A B : Option Addr} {c d : Nat} {a b : List Nat} {w : World} {X Y : Nat → Prop} (ha : Nl w X A c a) (hb : Nl w Y B d b) (h0 : 0 < nv b) (hL : a.length ≤ 549755813888) (hLb : b.length ≤ 549755813888) :
    Calls Tryz.prog 143 #[.slice A a.length c, .slice B b.length d] w fun e w' => ∃ A1 c1 A2 c2, e = .returned (.tuple #[.slice A1 (lim (nv a / nv b)).length c1, .slice A2 (lim (nv a % nv b)).length c2]) ∧
      Nl w' (w.heap.size ≤ ·) A1 c1 (lim (nv a / nv b)) ∧ Nl w' (w.heap.size ≤ ·) A2 c2 (lim (nv a % nv b)) ∧ Ext w w' := by
  have hla := ha.lb; have hlb := lim_len_le hb.lb; have hVp := lt_pw_lim (nv b); obtain ⟨V, hV⟩ : ∃ V, V = nv b := ⟨_, rfl⟩; have hct := rtrim_c hb (by omega); rw [← hV] at h0 hlb hVp hct ⊢; have HCT := Lib.hid hct; clear hct hV; obtain ⟨ly, hly⟩ : ∃ l, l = (lim V).length := ⟨_, rfl⟩
  go_enter Tryz.func143, Tryz.ntmps143
  go_wp2_with fail
  refine HCT.out.mono ?_; rintro e w1 ⟨B1, d1, rfl, hY, hx1⟩
  go_wp2_with (at_make; refine wpList_makeu (.tmp 15) (.tmp 15) w.heap.size a.length hx1.size (by omega) rfl rfl rfl rfl rfl rfl ?_; intro w2 hown hx2)
  have hs1 := hx1.size; have hs2 := hx2.size
  obtain ⟨gq, hgq⟩ : ∃ g, g = w1.heap.size := ⟨_, rfl⟩; rw [← hgq] at hown ⊢
  have HGQ := Lib.hid hgq; have HLY := Lib.hid hly
  have hg1 : w.heap.size ≤ gq := by omega
  clear hgq hly
  go_loopw [8, 9, 10, 11] (fun rv iv _ _ wr => ∃ (i R : Nat) (out : List Nat) (A2 : Option Addr) (c2 : Nat), i ≤ a.length ∧ iv = .int .i64 ((i : Int) - 1) ∧ rv = .slice A2 (lim R).length c2 ∧ Nl wr (fun b => w.heap.size ≤ b ∧ b ≠ gq) A2 c2 (lim R) ∧ R < V ∧
      Nown wr w.heap.size (.slice (some ⟨gq, 0, none⟩) a.length a.length) out ∧ Hid (∀ t, t < i → nth out t = 0) ∧ Hid (nv (a.drop i) = V * nv (out.drop i) + R) ∧ Ext w wr ∧ Nl wr (fun b => w.heap.size ≤ b ∧ b ≠ gq) B1 d1 (lim V)) (fun _ iv _ _ _ => (intOf iv + 1).toNat)
  case atStart => exact ⟨a.length, 0, _, none, 0, Nat.le_refl _, rfl, rfl, Sl.nil0 _ _ _, h0, hown, Lib.hid fun t _ => nth_rep _ _, Lib.hid (by simp [nv]), hx1.trans hx2, (hY.widen fun b hb hl => ⟨hb, by have := HGQ.out; omega⟩).ext hx2⟩
  case round =>
    obtain ⟨i, R, out, A2, c2, hi, rfl, rfl, hr, hR, ho, hz, hinv, hx, hY2⟩ := hrel; have hlen := ho.len
    have hlen1 : out.length ≤ a.length := by omega
    have hlen2 : a.length ≤ out.length := by omega
    clear hlen; have hsz := hx.size
    rcases Nat.eq_zero_or_pos i with hi0 | hi0
    · subst hi0; have e1 := hinv.out; rw [List.drop_zero, List.drop_zero] at e1
      have e2 : nv out = nv a / V := by rw [e1, Nat.mul_comm, Nat.add_comm, Nat.add_mul_div_right _ _ h0, Nat.div_eq_of_lt hR, Nat.zero_add]
      have e3 : R = nv a % V := by rw [e1, Nat.mul_add_mod, Nat.mod_eq_of_lt hR]
      have hc := fun (U : World) (hU : Ext wr U) => rtrim_c (ho.nl'.2.ext hU) (by omega)
      rw [e2, show out.length = a.length by omega] at hc; have hlr : (lim R).length ≤ (lim V).length := lim_pw (Nat.lt_trans hR hVp)
      have hc2 := fun (U : World) (hU : Ext wr U) => rtrim_c (hr.ext hU) (by omega)
      rw [nv_lim] at hc2
      have HC := Lib.hid hc; have HC2 := Lib.hid hc2; have E3 := Lib.hid e3
      clear hc hc2 e1 e2 e3
      go_wp2_with fail
      refine (HC.out _ xt).mono ?_; rintro e w3 ⟨A3, c3, rfl, h4, hx3⟩
      go_wp2_with fail
      refine (HC2.out _ xt).mono ?_; rintro e w4 ⟨A4, c4, rfl, h5, hx4⟩; have hs3 := hx3.size
      go_wp2
      (refine bodyPost_ret (v := ?_) ?_ rfl ?_; rotate_left; (simp only [results, Tryz.results143]; go_simp; (first | done | with_reducible rfl)))
      rw [← E3.out]; exact ⟨_, _, _, _, rfl, (h4.ext hx4).widen fun b hb _ => by omega, h5.widen fun b hb _ => by omega, hx.trans (hx3.trans hx4)⟩
    · obtain ⟨j, rfl⟩ : ∃ j, i = j + 1 := ⟨i - 1, by omega⟩
      have ej : (((j + 1 : Nat) : Int) - 1) = (j : Int) := by omega
      rw [ej]; clear ej
      have i2 : (j : Int) < (a.length : Int) := by omega
      have hx9 := (hla.nth j); obtain ⟨W, rfl⟩ : ∃ V, V = wr := ⟨_, rfl⟩
      go_wp2_with fail
      go_loopw [8, 10, 11] (fun rv kv _ wk => ∃ (K R' q : Nat) (out' : List Nat) (A2 : Option Addr) (c2 : Nat), K ≤ 32 ∧ kv = .int .i64 ((K : Int) - 1) ∧ rv = .slice A2 (lim R').length c2 ∧ Nl wk (fun b => w.heap.size ≤ b ∧ b ≠ gq) A2 c2 (lim R') ∧ R' < V ∧
        Nown wk w.heap.size (.slice (some ⟨gq, 0, none⟩) a.length a.length) out' ∧ Hid (∀ t, t < j → nth out' t = 0) ∧ Hid (nth out' j = q * 2 ^ K) ∧ Hid (out'.drop (j + 1) = out.drop (j + 1)) ∧ Hid (R * 2 ^ (32 - K) + nth a j / 2 ^ K = V * q + R') ∧ Ext w wk ∧ Nl wk (fun b => w.heap.size ≤ b ∧ b ≠ gq) B1 d1 (lim V)) (fun _ kv _ _ => (intOf kv + 1).toNat)
      case atStart => exact ⟨32, R, 0, out, A2, c2, Nat.le_refl _, rfl, rfl, hr, hR, ho, Lib.hid fun t ht => hz.out t (by omega), Lib.hid (by rw [Nat.zero_mul]; exact hz.out j (by omega)), Lib.hid rfl, Lib.hid (by rw [Nat.div_eq_of_lt (by omega)]; simp), hx, hY2⟩
      case round =>
        clear ho hr hx hY2; obtain ⟨K, R', q, out', A3, c3, hK, rfl, rfl, hr, hR', ho, hz', hn, hd, hb, hx, hY2⟩ := hrel; have hlen := ho.len
        have hlen3 : out'.length ≤ a.length := by omega
        have hlen4 : a.length ≤ out'.length := by omega
        clear hlen; have hszw := hx.size
        rcases Nat.eq_zero_or_pos K with hK0 | hK0
        · subst hK0; have e1 := hb.out; rw [Nat.pow_zero, Nat.div_one, Nat.sub_zero] at e1; have e2 := hn.out; rw [Nat.pow_zero, Nat.mul_one] at e2; have e3 := Lib.hid (rdm_limb (y := q) hinv.out (by omega) (by omega) hd.out e2 (by rw [← e1])); clear e1 e2
          go_wp2_with fail
          go_roundw
          case rel => exact ⟨j, R', out', A3, c3, by omega, by go_num, rfl, hr, hR', ho, hz', e3, hx, hY2⟩
          case measure => simp [intOf] <;> omega
        · obtain ⟨k, rfl⟩ : ∃ k, K = k + 1 := ⟨K - 1, by omega⟩
          have ek : (((k + 1 : Nat) : Int) - 1) = (k : Int) := by omega
          rw [ek]; clear ek; obtain ⟨b1, o1, rfl, _, hc1, hb1⟩ := (ha.ext hx).at_ (k := j) (by omega); have c1' := hc1 j (by omega); clear hc1; have hlr : (lim R').length ≤ (lim V).length := lim_pw (Nat.lt_trans hR' hVp); have hstep := rdm_bit hb.out (by omega); have hbit : nth a j / 2 ^ k % 2 < 2 := Nat.mod_lt _ (by omega); obtain ⟨bit, hbt⟩ : ∃ x, x = nth a j / 2 ^ k % 2 := ⟨_, rfl⟩; rw [← hbt] at hstep hbit
          have HBT := Lib.hid hbt; have HST := Lib.hid hstep
          have htm := fun (U : World) (hU : Ext wr U) => rtimes_c (hr.ext hU) 2 bit (by omega) (by omega) (by omega)
          rw [nv_lim] at htm; have HTM := Lib.hid htm; clear htm hbt hstep
          go_wp2_with fail
          have hcb : ((nth a j : Int) / 2 ^ k).tmod 2 = (bit : Int) := by
            have e0 : (nth a j : Int) / 2 ^ k = ((nth a j / 2 ^ k : Nat) : Int) := by rw [Int.natCast_ediv, Int.natCast_pow]; rfl
            rw [e0, HBT.out]; generalize nth a j / 2 ^ k = Q; rw [Int.tmod_eq_emod_of_nonneg (Int.natCast_nonneg _)]
            omega
          rw [hcb]; clear hcb; refine (HTM.out _ xt).mono ?_; rintro e w3 ⟨A4, c4, rfl, h4, hx3⟩
          have hle4 : (lim (R' * 2 + bit)).length ≤ (lim V).length + 1 := by
            apply lim_pw
            rw [pw_succ]
            omega
          have hY3 := hY2.ext hx3; have hcm := rcmp_c h4 hY3 (by omega) (by omega); rw [nv_lim, nv_lim] at hcm; have hs3 := hx3.size; have hgl : gq < wr.heap.size := (ho.row gq rfl).2
          rcases Nat.lt_or_ge (R' * 2 + bit) V with hlt | hge
          · have hcv : cmpN (R' * 2 + bit) V = -1 := cmpN_lt hlt; rw [hcv] at hcm; have HCM := Lib.hid hcm; clear hcm hcv
            go_wp2_with fail
            refine HCM.out.mono ?_; rintro e w4 ⟨rfl, rfl⟩
            go_wp2_with fail
            go_roundw
            case rel => exact ⟨k, R' * 2 + bit, 2 * q, out', A4, c4, by omega, by go_num, rfl, h4.widen fun b hb _ => ⟨by omega, by omega⟩, hlt, ho.ext hx3, hz', Lib.hid (by rw [hn.out, Nat.pow_succ]; rw [Nat.mul_comm 2 q, Nat.mul_assoc, Nat.mul_comm 2]), hd, HST, hx.trans hx3, hY3⟩
            case measure => simp [intOf] <;> omega
          · have hcv : ¬ cmpN (R' * 2 + bit) V < 0 := by unfold cmpN; rw [if_neg (by omega)]; split <;> omega
            obtain ⟨cv, hcv2⟩ : ∃ n, n = cmpN (R' * 2 + bit) V := ⟨_, rfl⟩; rw [← hcv2] at hcm hcv
            have hsb := fun (U : World) (hU : Ext w3 U) => rsub_c (h4.ext hU) (hY3.ext hU) (by rw [nv_lim, nv_lim]; exact hge) (by omega)
            rw [nv_lim, nv_lim] at hsb
            have HCM := Lib.hid hcm; have HSB := Lib.hid hsb
            have hcd : decide (cv ≥ 0) = true := decide_eq_true (by omega); clear hcm hcv2 hsb
            go_wp2_with fail
            refine HCM.out.mono ?_; rintro e w4 ⟨rfl, rfl⟩
            go_wp2_with fail
            refine (HSB.out _ xt).mono ?_; rintro e w5 ⟨A5, c5, rfl, h5, hx5⟩; have hs5 := hx5.size; have ho5 := ho.ext (hx3.trans hx5); obtain ⟨hco, hfo⟩ := ho5.cell j (by omega); have hq2 := rdm_small HST.out (by omega) (hla.nth j) hR
            have hpk : 2 ^ (32 - k) * 2 ^ k = 4294967296 := by rw [← Nat.pow_add, show 32 - k + k = 32 by omega]
            have hqk : q * 2 ^ (k + 1) + 2 ^ k = (2 * q + 1) * 2 ^ k := by rw [Nat.pow_succ, Nat.add_mul, Nat.one_mul, Nat.mul_comm 2 q, Nat.mul_assoc, Nat.mul_comm 2]
            have hql : 2 * q + 1 < 2 ^ (32 - k) := by
              have : 2 ^ (32 - k) = 2 * 2 ^ (31 - k) := by rw [show 32 - k = 31 - k + 1 by omega, Nat.pow_succ, Nat.mul_comm]
              omega
            have hqb : (2 * q + 1) * 2 ^ k < 4294967296 := by rw [← hpk]; exact Nat.mul_lt_mul_of_pos_right hql (Nat.pos_of_ne_zero (by simp))
            obtain ⟨y, hy⟩ : ∃ y, y = nth out' j := ⟨_, rfl⟩; rw [← hy] at hco
            have hys : y + 2 ^ k = (2 * q + 1) * 2 ^ k := by rw [hy, hn.out, hqk]
            have HYS := Lib.hid hys; have HY := Lib.hid hy
            have hyl : y + 2 ^ k < 4294967296 := by omega
            have hkl : k < 32 := by omega
            clear hys hy hqk hpk hqb
            go_wp2_with fail
            go_region
            have hcast : ((y : Int) + 2 ^ k) % 4294967296 = (((2 * q + 1) * 2 ^ k : Nat) : Int) := by
              have e0 : (y : Int) + 2 ^ k = ((y + 2 ^ k : Nat) : Int) := by rw [Int.natCast_add, Int.natCast_pow]; rfl
              rw [← HYS.out, e0]; exact Int.emod_eq_of_lt (Int.natCast_nonneg _) (by generalize 2 ^ k = P at hyl ⊢; omega)
            rw [hcast]; clear hcast; have hn2 := (ho5.set j (x := (2 * q + 1) * 2 ^ k) (y := (((2 * q + 1) * 2 ^ k : Nat) : Int)) rfl (by rw [← HYS.out]; exact hyl))
            go_wp2_with fail
            go_roundw
            case rel =>
              refine ⟨k, R' * 2 + bit - V, 2 * q + 1, out'.set j ((2 * q + 1) * 2 ^ k), A5, c5, by omega, by go_num, rfl, (h5.widen fun b hb _ => ⟨by omega, by omega⟩).keep ?_, by omega, hn2, Lib.hid fun t ht => ?_, Lib.hid (nth_set_eq (by omega)), Lib.hid ?_, Lib.hid ?_, ?_, (hY3.ext hx5).keep ?_⟩
              · exact ((Kp.refl w5).setCell (by simp) _).drew
              · rw [nth_set_ne (by omega)]; exact hz'.out t ht
              · rw [List.drop_set_of_lt (by omega)]; exact hd.out
              · rw [HST.out, Nat.mul_add, Nat.mul_one]; omega
              · exact ((hx.trans (hx3.trans hx5)).setCell (by simp only; omega) _).drew
              · exact ((Kp.refl w5).setCell (by simp) _).drew
            case measure => simp [intOf] <;> omega

end Go.Proofs.YthmjgbkakjpfkaaGreatDoor
