/- Contract of riddleref01.Gcd. No conditions. -/
import Derived.Test.YthmjgbkakjpfkaaGreatDoorGLooksBb
import Derived.Deep.LoopGhost
namespace Go.Proofs.YthmjgbkakjpfkaaGreatDoor
open Go.RowKit

theorem nth_lim0 (x : Nat) : nth (lim x) 0 = x % 4294967296 := by
  rcases Nat.eq_zero_or_pos x with h | h
  · subst h; rfl
  · rw [lim_pos (by omega)]; rfl
theorem even_lim (x : Nat) : nth (lim x) 0 % 2 = x % 2 := by rw [nth_lim0]; omega
theorem lim_half (x : Nat) : (lim (x / 2)).length ≤ (lim x).length := lim_pw (Nat.lt_of_le_of_lt (Nat.div_le_self _ _) (lt_pw_lim x))
theorem gcd_half2 {x y : Nat} (hx : x % 2 = 0) (hy : y % 2 = 0) : Nat.gcd x y = Nat.gcd (x / 2) (y / 2) * 2 := by
  rw [← Nat.gcd_mul_right]
  congr 1 <;> omega
theorem gcd_half {x y : Nat} (hx : x % 2 = 0) (hy : y % 2 = 1) : Nat.gcd (x / 2) y = Nat.gcd x y := by
  have hc : Nat.Coprime 2 y := by
    rw [Nat.Coprime, Nat.gcd_rec, hy]; rfl
  have e : x = 2 * (x / 2) := by omega
  have := Nat.Coprime.gcd_mul_left_cancel (x / 2) hc
  rw [← e] at this
  exact this.symm
theorem gcd_half' {x y : Nat} (hx : x % 2 = 1) (hy : y % 2 = 0) : Nat.gcd x (y / 2) = Nat.gcd x y := by
  rw [Nat.gcd_comm, gcd_half hy hx, Nat.gcd_comm]
theorem gcd_take {x y : Nat} (h : y ≤ x) : Nat.gcd (x - y) y = Nat.gcd x y := Nat.gcd_sub_self_left h
theorem twos_small {x t n : Nat} (h : x * 2 ^ t < pw n) (hx : 0 < x) : t < 32 * n := by
  have h1 : 2 ^ t < 2 ^ (32 * n) := by
    have : 2 ^ (32 * n) = pw n := by unfold pw; rw [Nat.pow_mul]
    rw [this]
    exact Nat.lt_of_le_of_lt (Nat.le_mul_of_pos_left _ hx) h
  exact (Nat.pow_lt_pow_iff_right (by omega)).1 h1
theorem lim_mono {x y : Nat} (h : x ≤ y) : (lim x).length ≤ (lim y).length := lim_pw (Nat.lt_of_le_of_lt h (lt_pw_lim y))
theorem par_true {p : Nat} (h : p % 2 = 0) : (((p : Int) % 2) == 0) = true := by rw [beq_iff_eq]; omega
theorem par_false {p : Nat} (h : p % 2 = 1) : (((p : Int) % 2) == 0) = false := by rw [beq_eq_false_iff_ne]; omega

set_option maxHeartbeats 6400000 in
theorem rgcd1_c {A B : Option Addr} {c d : Nat} {a b : List Nat} {w : World} {X Y : Nat → Prop} (ha : Nl w X A c a) (hb : Nl w Y B d b) (hL : a.length ≤ 549755813888) (hLb : b.length ≤ 549755813888) :
    Calls Tryz.prog 112 #[.slice A a.length c, .slice B b.length d] w fun e w' => ∃ A' c', e = .returned (.slice A' (lim (Nat.gcd (nv a) (nv b))).length c') ∧ Nl w' (w.heap.size ≤ ·) A' c' (lim (Nat.gcd (nv a) (nv b))) ∧ Ext w w' := by
  have hla := lim_len_le ha.lb
  have hlb := lim_len_le hb.lb
  have h1 := rtrim_c ha (by omega)
  have h2 := fun (U : World) (hU : Ext w U) => rtrim_c (hb.ext hU) (by omega)
  have hpa := nv_lt ha.lb
  obtain ⟨G, hG⟩ : ∃ G, G = Nat.gcd (nv a) (nv b) := ⟨_, rfl⟩
  rw [← hG]
  obtain ⟨x0, hx0⟩ : ∃ x, x = nv a := ⟨_, rfl⟩
  obtain ⟨y0, hy0⟩ : ∃ x, x = nv b := ⟨_, rfl⟩
  rw [← hx0, ← hy0] at hG
  rw [← hx0] at hla h1 hpa
  rw [← hy0] at hlb
  simp only [← hy0] at h2
  have H1 := Lib.hid h1; have H2 := Lib.hid h2; have HG := Lib.hid hG; have HPA := Lib.hid hpa
  clear h1 h2 hG hx0 hy0 hpa
  go_enter Tryz.func112, Tryz.ntmps112
  go_wp2_with fail
  refine H1.out.mono ?_
  rintro e w1 ⟨A1, c1, rfl, hA, hx1⟩
  go_wp2_with fail
  refine (H2.out _ hx1).mono ?_
  rintro e w2 ⟨B1, d1, rfl, hB, hx2⟩
  have hs1 := hx1.size
  have hs2 := hx2.size
  rcases Nat.eq_zero_or_pos x0 with hx0 | hx0
  · subst hx0
    have hGe : G = y0 := by have := HG.out; rwa [Nat.gcd_zero_left] at this
    subst hGe
    rw [lim_zero]
    go_wp2_with fail
    go_ret
    exact ⟨B1, d1, rfl, hB.widen fun b hb _ => by omega, hx1.trans hx2⟩
  have hlx := (lim_len_pos x0).2 (by omega)
  rcases Nat.eq_zero_or_pos y0 with hy0 | hy0
  · subst hy0
    have hGe : G = x0 := by have := HG.out; rwa [Nat.gcd_zero_right] at this
    subst hGe
    have i0 : (((lim G).length : Int) == 0) = false := by rw [beq_eq_false_iff_ne]; omega
    obtain ⟨l, hl⟩ : ∃ l, l = (lim G).length := ⟨_, rfl⟩
    rw [← hl] at i0 ⊢
    have HL := Lib.hid hl
    clear hl
    rw [lim_zero]
    go_wp2_with fail
    go_ret
    exact ⟨A1, c1, ret_slice HL.out, hA.ext hx2, hx1.trans hx2⟩
  have hly := (lim_len_pos y0).2 (by omega)
  have i0 : (((lim x0).length : Int) == 0) = false := by rw [beq_eq_false_iff_ne]; omega
  have i1 : (((lim y0).length : Int) == 0) = false := by rw [beq_eq_false_iff_ne]; omega
  go_wp2_with fail
  go_loopg [5, 6, 7] x0 (fun x p q tv wr => ∃ (y t : Nat) (A : Option Addr) (c : Nat) (B : Option Addr) (d : Nat), p = .slice A (lim x).length c ∧ q = .slice B (lim y).length d ∧ tv = .int .i64 (t : Int) ∧ Nl wr (w.heap.size ≤ ·) A c (lim x) ∧ Nl wr (w.heap.size ≤ ·) B d (lim y) ∧ Hid (Nat.gcd x y * 2 ^ t = G) ∧ Hid (x * 2 ^ t < pw a.length) ∧ 0 < x ∧ 0 < y ∧ (lim x).length ≤ 549755813888 ∧ (lim y).length ≤ 549755813888 ∧ Ext w wr)
  case atStart => exact ⟨y0, 0, A1, c1, B1, d1, rfl, rfl, rfl, hA.ext hx2, hB.widen fun b hb _ => by omega, Lib.hid (by rw [Nat.pow_zero, Nat.mul_one]; exact HG.out.symm), Lib.hid (by rw [Nat.pow_zero, Nat.mul_one]; exact HPA.out), hx0, hy0, by omega, by omega, hx1.trans hx2⟩
  case round =>
    obtain ⟨y, t, A, c, B, d, rfl, rfl, rfl, hA, hB, hg, hp, hx0, hy0, hlx, hly, hx⟩ := hrel
    obtain ⟨x, rfl⟩ : ∃ x, x = gk := ⟨_, rfl⟩
    have hlpx := (lim_len_pos x).2 (by omega)
    have hlpy := (lim_len_pos y).2 (by omega)
    have ht := twos_small hp.out hx0
    obtain ⟨bx, ox, rfl, -, hcx, -⟩ := hA.at_ (k := 0) hlpx
    obtain ⟨by_, oy, rfl, -, hcy, -⟩ := hB.at_ (k := 0) hlpy
    have qx := hcx 0 hlpx
    have qy := hcy 0 hlpy
    simp only [Nat.add_zero] at qx qy
    have pex := even_lim x
    have pey := even_lim y
    obtain ⟨px, hpx⟩ : ∃ n, n = nth (lim x) 0 := ⟨_, rfl⟩
    obtain ⟨py, hpy⟩ : ∃ n, n = nth (lim y) 0 := ⟨_, rfl⟩
    rw [← hpx] at qx pex
    rw [← hpy] at qy pey
    clear hcx hcy hpx hpy
    obtain ⟨lx, hlxd⟩ : ∃ l, l = (lim x).length := ⟨_, rfl⟩
    obtain ⟨ly, hlyd⟩ : ∃ l, l = (lim y).length := ⟨_, rfl⟩
    rw [← hlxd] at hlpx hlx ⊢
    rw [← hlyd] at hlpy hly ⊢
    have HLX := Lib.hid hlxd; have HLY := Lib.hid hlyd
    clear hlxd hlyd
    by_cases hev : x % 2 = 0 ∧ y % 2 = 0
    · obtain ⟨hex, hey⟩ := hev
      have kx := par_true (p := px) (by omega)
      have ky := par_true (p := py) (by omega)
      have hq1 := fun (U : World) (hU : Ext wr U) => rquo_c (hA.ext hU) 2 (by omega) (by omega) (by rw [← HLX.out]; omega)
      have hq2 := fun (U : World) (hU : Ext wr U) => rquo_c (hB.ext hU) 2 (by omega) (by omega) (by rw [← HLY.out]; omega)
      rw [nv_lim, ← HLX.out] at hq1
      rw [nv_lim, ← HLY.out] at hq2
      have HQ1 := Lib.hid hq1; have HQ2 := Lib.hid hq2
      have hlx2 := lim_half x
      have hly2 := lim_half y
      have hgn : Nat.gcd (x / 2) (y / 2) * 2 ^ (t + 1) = G := by
        rw [Nat.pow_succ, Nat.mul_comm (2 ^ t), ← Nat.mul_assoc, ← gcd_half2 hex hey, hg.out]
      have hpn : x / 2 * 2 ^ (t + 1) < pw a.length := by
        rw [Nat.pow_succ, Nat.mul_comm (2 ^ t), ← Nat.mul_assoc, show x / 2 * 2 = x by omega]; exact hp.out
      have HGN := Lib.hid hgn; have HPN := Lib.hid hpn
      clear hq1 hq2 hgn hpn
      go_wp2_with fail
      refine (HQ1.out _ xt).mono ?_
      rintro e w3 ⟨A3, c3, rfl, h3, hx3⟩
      go_wp2_with fail
      refine (HQ2.out _ xt).mono ?_
      rintro e w4 ⟨A4, c4, rfl, h4, hx4⟩
      have hsx := hx.size; have hs3 := hx3.size
      go_wp2_with fail
      go_roundg (x / 2)
      case measure => omega
      case rel => exact ⟨y / 2, t + 1, A3, c3, A4, c4, rfl, rfl, by go_num, (h3.ext hx4).widen fun b hb _ => by omega, h4.widen fun b hb _ => by omega, HGN, HPN, by omega, by omega, by rw [← HLX.out] at hlx2; omega, by rw [← HLY.out] at hly2; omega, hx.trans (hx3.trans hx4)⟩
    · have hodd : x % 2 = 1 ∨ x % 2 = 0 ∧ y % 2 = 1 := by omega
      have hor : x % 2 = 1 ∨ y % 2 = 1 := by omega
      have hGl : (lim G).length ≤ 549755813888 := by
        refine Nat.le_trans (lim_pw (Nat.lt_of_le_of_lt ?_ hp.out)) hL
        rw [← hg.out]
        exact Nat.mul_le_mul_right _ (Nat.gcd_le_left _ hx0)
      have HOR := Lib.hid hor; have HGL := Lib.hid hGl
      clear hev hor hGl HG HPA
      rcases hodd with ho | ho
      case' inl =>
        have kx := par_false (p := px) (by omega)
        go_wp2_with fail
      case' inr =>
        obtain ⟨ho1, ho2⟩ := ho
        have kx := par_true (p := px) (by omega)
        have ky := par_false (p := py) (by omega)
        go_wp2_with fail
      all_goals
        clear kx qx qy pex pey
        go_loopg [5, 6, 8] (x + y) (fun s p q _ wr => ∃ (x y : Nat) (A : Option Addr) (c : Nat) (B : Option Addr) (d : Nat), p = .slice A (lim x).length c ∧ q = .slice B (lim y).length d ∧ Nl wr (w.heap.size ≤ ·) A c (lim x) ∧ Nl wr (w.heap.size ≤ ·) B d (lim y) ∧ Hid (Nat.gcd x y * 2 ^ t = G) ∧ Hid (x % 2 = 1 ∨ y % 2 = 1) ∧ 0 < y ∧ (lim x).length ≤ 549755813888 ∧ (lim y).length ≤ 549755813888 ∧ x + y ≤ s ∧ Ext w wr)
        case atStart => exact ⟨x, y, _, c, _, d, by rw [← HLX.out], by rw [← HLY.out], hA, hB, hg, HOR, hy0, by rw [← HLX.out]; exact hlx, by rw [← HLY.out]; exact hly, Nat.le_refl _, hx⟩
        case round =>
          clear hA hB hx hg hp HOR hy0 HLX HLY hlx hly hx0 hlpx hlpy hs1 hs2 i0 i1
          obtain ⟨x, y, A, c, B, d, rfl, rfl, hA, hB, hg, HOR, hy0, hlx, hly, hsum, hx⟩ := hrel
          obtain ⟨s, hs⟩ : ∃ s, s = gk := ⟨_, rfl⟩
          rw [← hs] at hsum
          have HS := Lib.hid hs
          clear hs
          rcases Nat.eq_zero_or_pos x with hx0 | hx0
          · subst hx0
            have hyG : y * 2 ^ t = G := by have := hg.out; rwa [Nat.gcd_zero_left] at this
            have HYG := Lib.hid hyG
            clear hyG hg HOR
            rw [lim_zero]
            go_wp2_with fail
            go_loopg [6, 9] t (fun n q iv wr => ∃ (i z : Nat) (B : Option Addr) (d : Nat), i + n = t ∧ q = .slice B (lim z).length d ∧ iv = .int .i64 (i : Int) ∧ Nl wr (w.heap.size ≤ ·) B d (lim z) ∧ Hid (z * 2 ^ n = G) ∧ Ext w wr)
            case atStart => exact ⟨0, y, B, d, by omega, rfl, rfl, hB, HYG, hx⟩
            case round =>
              clear hA hB hx HYG hly hy0 hsum
              obtain ⟨i, z, B, d, hit, rfl, rfl, hB, hg, hx⟩ := hrel
              obtain ⟨n, rfl⟩ : ∃ s, s = gk := ⟨_, rfl⟩
              rcases Nat.eq_zero_or_pos n with hn | hn
              · subst hn
                obtain rfl : i = t := by omega
                have hzG : z = G := by have := hg.out; rwa [Nat.pow_zero, Nat.mul_one] at this
                subst hzG
                go_wp2_with fail
                go_ret
                exact ⟨B, d, rfl, hB, hx⟩
              · obtain ⟨n, rfl⟩ : ∃ m, n = m + 1 := ⟨n - 1, by omega⟩
                have hzl : (lim z).length ≤ (lim G).length := lim_mono (by rw [← hg.out]; exact Nat.le_mul_of_pos_right _ (Nat.pos_of_ne_zero (by simp)))
                have hgl := HGL.out
                have htm := rtimes_c hB 2 0 (by omega) (by omega) (by omega)
                rw [nv_lim, Nat.add_zero] at htm
                have hgn : z * 2 * 2 ^ n = G := by rw [Nat.mul_assoc, ← Nat.mul_comm (2 ^ n), ← Nat.pow_succ]; exact hg.out
                have HTM := Lib.hid htm; have HGN := Lib.hid hgn
                clear htm hgn hgl
                go_wp2_with fail
                refine HTM.out.mono ?_
                rintro e w3 ⟨A3, c3, rfl, h3, hx3⟩
                have hsx := hx.size
                go_wp2_with fail
                go_roundg n
                case measure => omega
                case rel => exact ⟨i + 1, z * 2, A3, c3, by omega, rfl, by go_num, h3.widen fun b hb _ => by omega, HGN, hx.trans hx3⟩
          · have hlpx := (lim_len_pos x).2 (by omega)
            have hc0 : decide (((lim x).length : Int) > 0) = true := decide_eq_true (by omega)
            obtain ⟨lx, hlxd⟩ : ∃ l, l = (lim x).length := ⟨_, rfl⟩
            rw [← hlxd] at hc0 hlpx ⊢
            have HLX := Lib.hid hlxd
            clear hlxd
            go_wp2_with fail
            go_loopg [5] x (fun k p wr => ∃ (A : Option Addr) (c : Nat), p = .slice A (lim k).length c ∧ Nl wr (w.heap.size ≤ ·) A c (lim k) ∧ Hid (Nat.gcd k y * 2 ^ t = G) ∧ Hid (k % 2 = 1 ∨ y % 2 = 1) ∧ 0 < k ∧ k ≤ x ∧ Ext w wr ∧ Nl wr (w.heap.size ≤ ·) B d (lim y))
            case atStart => exact ⟨A, c, by rw [← HLX.out], hA, hg, HOR, hx0, Nat.le_refl _, hx, hB⟩
            case round =>
              clear hA hg HOR hx hB HLX hc0 hlpx
              obtain ⟨A, c, rfl, hA, hg, HOR, hk0, hkx, hx, hB⟩ := hrel
              obtain ⟨k, rfl⟩ : ∃ s, s = gk := ⟨_, rfl⟩
              have hlk : (lim k).length ≤ 549755813888 := Nat.le_trans (lim_mono hkx) hlx
              have hlpk := (lim_len_pos k).2 (by omega)
              obtain ⟨bx, ox, rfl, -, hcx, -⟩ := hA.at_ (k := 0) hlpk
              have qx := hcx 0 hlpk
              simp only [Nat.add_zero] at qx
              have pex := even_lim k
              obtain ⟨px, hpx⟩ : ∃ n, n = nth (lim k) 0 := ⟨_, rfl⟩
              rw [← hpx] at qx pex
              clear hcx hpx
              rcases Nat.mod_two_eq_zero_or_one k with he | he
              · have kx := par_true (p := px) (by omega)
                have hyo : y % 2 = 1 := by have := HOR.out; omega
                have hq1 := rquo_c hA 2 (by omega) (by omega) (by omega)
                rw [nv_lim] at hq1
                have HQ1 := Lib.hid hq1
                have hgn := Lib.hid (by rw [← hg.out, ← gcd_half he hyo] : Nat.gcd (k / 2) y * 2 ^ t = G)
                have HYO : Hid (k / 2 % 2 = 1 ∨ y % 2 = 1) := Lib.hid (.inr hyo)
                obtain ⟨lk, hlkd⟩ : ∃ l, l = (lim k).length := ⟨_, rfl⟩
                rw [← hlkd] at hlpk HQ1 ⊢
                have HLK := Lib.hid hlkd
                have hsx := hx.size
                clear hq1 hlkd hyo
                go_wp2_with fail
                refine HQ1.out.mono ?_
                rintro e w3 ⟨A3, c3, rfl, h3, hx3⟩
                go_wp2_with fail
                go_roundg (k / 2)
                case measure => omega
                case rel => exact ⟨A3, c3, rfl, h3.widen fun b hb _ => by omega, hgn, HYO, by omega, by omega, hx.trans hx3, hB.ext hx3⟩
              · have kx := par_false (p := px) (by omega)
                obtain ⟨lk, hlkd⟩ : ∃ l, l = (lim k).length := ⟨_, rfl⟩
                rw [← hlkd] at hlpk hlk ⊢
                have HLK := Lib.hid hlkd
                clear hlkd
                go_wp2_with fail
                clear kx qx pex HOR
                go_loopg [6] y (fun m p wr => ∃ (B : Option Addr) (d : Nat), p = .slice B (lim m).length d ∧ Nl wr (w.heap.size ≤ ·) B d (lim m) ∧ Hid (Nat.gcd k m * 2 ^ t = G) ∧ 0 < m ∧ m ≤ y ∧ Ext w wr ∧ Nl wr (w.heap.size ≤ ·) (some ⟨bx, ox, none⟩) c (lim k))
                case atStart => exact ⟨B, d, rfl, hB, hg, hy0, Nat.le_refl _, hx, hA⟩
                case round =>
                  clear hA hg hx hB
                  obtain ⟨B, d, rfl, hB, hg, hm0, hmy, hx, hA⟩ := hrel
                  obtain ⟨m, rfl⟩ : ∃ s, s = gk := ⟨_, rfl⟩
                  have hlm : (lim m).length ≤ 549755813888 := Nat.le_trans (lim_mono hmy) hly
                  have hlpm := (lim_len_pos m).2 (by omega)
                  obtain ⟨by_, oy, rfl, -, hcy, -⟩ := hB.at_ (k := 0) hlpm
                  have qy := hcy 0 hlpm
                  simp only [Nat.add_zero] at qy
                  have pey := even_lim m
                  obtain ⟨py, hpy⟩ : ∃ n, n = nth (lim m) 0 := ⟨_, rfl⟩
                  rw [← hpy] at qy pey
                  clear hcy hpy
                  obtain ⟨lm, hlmd⟩ : ∃ l, l = (lim m).length := ⟨_, rfl⟩
                  rcases Nat.mod_two_eq_zero_or_one m with hem | hem
                  · have ky := par_true (p := py) (by omega)
                    have hq1 := rquo_c hB 2 (by omega) (by omega) (by omega)
                    rw [nv_lim] at hq1
                    have HQ1 := Lib.hid hq1
                    have hgn := Lib.hid (by rw [← hg.out, ← gcd_half' he hem] : Nat.gcd k (m / 2) * 2 ^ t = G)
                    rw [← hlmd] at hlpm HQ1 ⊢
                    have HLM := Lib.hid hlmd
                    have hsx := hx.size
                    clear hq1 hlmd
                    go_wp2_with fail
                    refine HQ1.out.mono ?_
                    rintro e w3 ⟨A3, c3, rfl, h3, hx3⟩
                    go_wp2_with fail
                    go_roundg (m / 2)
                    case measure => omega
                    case rel => exact ⟨A3, c3, rfl, h3.widen fun b hb _ => by omega, hgn, by omega, by omega, hx.trans hx3, hA.ext hx3⟩
                  · have ky := par_false (p := py) (by omega)
                    have hcm := rcmp_c hA hB (by rw [← HLK.out]; omega) (by omega)
                    rw [nv_lim, nv_lim, ← HLK.out, ← hlmd] at hcm
                    rw [← hlmd] at hlpm hlm ⊢
                    have HLM := Lib.hid hlmd
                    have hsx := hx.size
                    rcases Nat.lt_or_ge k m with hkm | hkm
                    · have hcv : cmpN k m = -1 := cmpN_lt hkm
                      rw [hcv] at hcm
                      have hsb := rsub_c hB hA (by rw [nv_lim, nv_lim]; omega) (by rw [← HLM.out]; omega)
                      rw [nv_lim, nv_lim, ← HLK.out, ← HLM.out] at hsb
                      have HCM := Lib.hid hcm; have HSB := Lib.hid hsb
                      have hgn := Lib.hid (by rw [← hg.out, gcd_take (by omega), Nat.gcd_comm] : Nat.gcd (m - k) k * 2 ^ t = G)
                      clear hcm hcv hsb hlmd
                      go_wp2_with fail
                      refine HCM.out.mono ?_
                      rintro e w4 ⟨rfl, rfl⟩
                      go_wp2_with fail
                      refine HSB.out.mono ?_
                      rintro e w5 ⟨A5, c5, rfl, h5, hx5⟩
                      go_wp2_with fail
                      go_roundg (m)
                      case measure => rw [← HS.out]; omega
                      case rel => exact ⟨m - k, k, A5, c5, _, c, rfl, by rw [HLK.out], h5.widen fun b hb _ => by omega, hA.ext hx5, hgn, Lib.hid (.inr he), hk0, Nat.le_trans (lim_mono (y := m) (by omega)) (by rw [← HLM.out]; exact hlm), by rw [← HLK.out]; exact hlk, by omega, hx.trans hx5⟩
                    · have hcv : ¬ cmpN k m < 0 := by unfold cmpN; rw [if_neg (by omega)]; split <;> omega
                      obtain ⟨cv, hcv2⟩ : ∃ n, n = cmpN k m := ⟨_, rfl⟩
                      rw [← hcv2] at hcm hcv
                      have hsb := rsub_c hA hB (by rw [nv_lim, nv_lim]; omega) (by rw [← HLK.out]; omega)
                      rw [nv_lim, nv_lim, ← HLK.out, ← HLM.out] at hsb
                      have HCM := Lib.hid hcm; have HSB := Lib.hid hsb
                      have hgn := Lib.hid (by rw [← hg.out, gcd_take (by omega)] : Nat.gcd (k - m) m * 2 ^ t = G)
                      clear hcm hcv2 hsb hlmd
                      go_wp2_with fail
                      refine HCM.out.mono ?_
                      rintro e w4 ⟨rfl, rfl⟩
                      go_wp2_with fail
                      refine HSB.out.mono ?_
                      rintro e w5 ⟨A5, c5, rfl, h5, hx5⟩
                      go_wp2_with fail
                      go_roundg (k)
                      case measure => rw [← HS.out]; omega
                      case rel => exact ⟨k - m, m, A5, c5, _, d, rfl, by rw [HLM.out], h5.widen fun b hb _ => by omega, hB.ext hx5, hgn, Lib.hid (.inr hem), hm0, Nat.le_trans (lim_mono (y := k) (by omega)) (by rw [← HLK.out]; exact hlk), by rw [← HLM.out]; exact hlm, by omega, hx.trans hx5⟩

end Go.Proofs.YthmjgbkakjpfkaaGreatDoor
