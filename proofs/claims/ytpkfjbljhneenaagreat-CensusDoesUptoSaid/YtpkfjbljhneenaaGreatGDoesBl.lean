/- riddleref18: Pick, lcm, place, same, both, cuts. No conditions. Sets and wanted sets as data. No conditions. riddleref02.Int64; riddleref18: period, rest, whole. No conditions. riddleref18: None. No conditions. riddleref18: cuts. No conditions. riddleref18: joined. No conditions. -/
import Derived.Test.YtpkfjbljhneenaaGreatGDoesBj
import Derived.Test.YtpkfjbljhneenaaGreatGDoesAt
import Derived.Test.YtpkfjbljhneenaaGreatGDoesBk
import Derived.Test.YtpkfjbljhneenaaGreatGDoesAi
import Derived.Test.YtpkfjbljhneenaaGreatGDoesAs
namespace Go.Proofs.YtpkfjbljhneenaaGreat
open Go.RowKit

def dB (r : List Bool) : List (List D) := r.map fun b => [.b b]
def dR (rows : List (List Bool)) : List (List D) := rows.map fun r => [.l (dB r)]
def dS (s : Ps) : List D := [.i .i64 (s.per : Int), .l (s.cuts.map dZ), .l (dR s.rows)]
def gS (f g : Bool) (s : Ps) : SV := .g [.i .i64 (s.per : Int), .l f (s.cuts.map dZ), .l g (dR s.rows)]
def aS (f g : Bool) (s : Ps) : AV := .g [.i .i64 (s.per : Int), .l f (s.cuts.map dZ), .l g (dR s.rows)]
attribute [go_sem] dS gS aS
attribute [go_sem] dB dR
theorem dB_len (r : List Bool) : (dB r).length = r.length := by simp [dB]
theorem rpick_v (c : Int) (hc : i64 c) (n : Nat) (h0 : 0 < n) (hn : n ≤ 4611686018427387904) : Fn Tryz.prog 29 [.c (.i .i64 c), .c (.i .i64 (n : Nat))] (.c (.i .i64 (pickN c n : Nat))) :=
 fn2 fun w _ u v hu hv => by
  obtain ⟨rfl, _⟩ := relD_i hu; obtain ⟨rfl, _⟩ := relD_i hv; have := pickN_lt c h0
  exact (pick18_c c hc n h0 hn w).mono fun _ _ ⟨e, x⟩ => ⟨_, e, cI ⟨by omega, by omega⟩, x⟩
theorem rlcm_v (p q : Nat) (hp : 0 < p) (hq : 0 < q) (hp1 : p ≤ 4096) (hq1 : q ≤ 4096) : Fn Tryz.prog 113 [.c (.i .i64 (p : Nat)), .c (.i .i64 (q : Nat))] (.c (.i .i64 (Nat.lcm p q : Nat))) := by
 refine Fn.intro' Tryz.func113 [.tmp 4] 15 fun _ => ?_
 obtain ⟨L, hL⟩ : ∃ L, L = Nat.lcm p q := ⟨_, rfl⟩
 have hpl : p ≤ L := by rw [hL]; exact Nat.le_of_dvd (Nat.lcm_pos hp hq) (Nat.dvd_lcm_left p q)
 have hL2 : L ≤ 16777216 := by
  rw [hL]; have h1 : Nat.lcm p q ≤ p * q := Nat.le_of_dvd (Nat.mul_pos hp hq) (Nat.lcm_dvd (Nat.dvd_mul_right p q) (Nat.dvd_mul_left q p)); have h2 : p * q ≤ 4096 * 4096 := Nat.mul_le_mul hp1 hq1
  omega
 have step : ∀ n, (∃ k, 0 < k ∧ n = p * k ∧ n ≤ L) → (n % q = 0 → n = L) ∧ (n % q ≠ 0 → ∃ k, 0 < k ∧ n + p = p * k ∧ n + p ≤ L) := by
  rintro n ⟨k, h0, rfl, h1⟩; rw [hL] at h1 ⊢; obtain ⟨h2, h3⟩ := lcm_go (q := q) hp h0 h1; exact ⟨h2, fun h => ⟨k + 1, by omega, by rw [Nat.mul_succ], by have := h3 h; rw [Nat.mul_succ] at this; exact this⟩⟩
 rw [← hL]; clear hL
 (repeat first | refine hku ?_ | refine sw_seqk fun _ _ => ?_ | refine sw_reg ?_ | ((first | refine aops_k fun _ _ => ?_ | with_reducible refine rw_own ?_); simp [go_sem]; try go_ints) | refine sw_block ?_ | refine sw_t ?_ | refine sw_f ?_ | refine sw_e ?_ | refine ai ?_ | simp only [aops, thn, inB, ↓reduceIte, Nat.reduceEqDiff])
 refine sw_loopw 5 (fun n : Nat => [(5, .c (.i .i64 (n : Int)))]) (fun _ => []) (fun n => ∃ k, 0 < k ∧ n = p * k ∧ n ≤ L) (fun n => L - n) p ⟨1, by omega, by omega, hpl⟩ ?_ fun n hn => ?_
 ·simp [go_sem]
 ·obtain ⟨s1, s2⟩ := step n hn; obtain ⟨k, hk0, hk, hnL⟩ := hn
  by_cases h : n % q = 0
  ·have h' : (n : Int) % (q : Int) = 0 := by rw [← Int.natCast_emod, h]; rfl
   (repeat first | refine hku ?_ | refine sw_seqk fun _ _ => ?_ | refine sw_reg ?_ | ((first | refine aops_k fun _ _ => ?_ | with_reducible refine rw_own ?_); simp [go_sem, h']; try go_ints) | refine sw_block ?_ | refine sw_t ?_ | refine sw_f ?_ | refine sw_e ?_ | refine ai ?_ | simp only [aops, thn, inB, ↓reduceIte, Nat.reduceEqDiff])
   simp [go_sem, s1 h]
  ·have h' : ¬ (n : Int) % (q : Int) = 0 := by rw [← Int.natCast_emod]; omega
   (repeat first | refine hku ?_ | refine sw_seqk fun _ _ => ?_ | refine sw_reg ?_ | ((first | refine aops_k fun _ _ => ?_ | with_reducible refine rw_own ?_); simp [go_sem, h']; try go_ints) | refine sw_block ?_ | refine sw_t ?_ | refine sw_f ?_ | refine sw_e ?_ | refine ai ?_ | simp only [aops, thn, inB, ↓reduceIte, Nat.reduceEqDiff])
   refine ⟨n + p, s2 h, by omega, ?_⟩; simp [go_sem]
theorem rplace_v (s : Ps) (N : Nat) (hs : s.ok N) (hN : N ≤ 1099511627776) (x : Z) (hx : x.mag.length ≤ 1099511627776) : Fn Tryz.prog 116 [.g (dS s), .g (dZ x)] (.c (.i .i64 (plc (zv s.cuts) x.v : Nat))) := by
 refine Fn.intro' Tryz.func116 [.tmp 4] 27 fun _ => ?_
 have hl := hs.len; have hzl := zv_len s.cuts
 have step : ∀ i (h : i < s.cuts.length), plc ((zv s.cuts).take (i + 1)) x.v = if (s.cuts[i]).v ≤ x.v then i + 1 else plc ((zv s.cuts).take i) x.v := fun i h => by
  have := plc_step hs.ris x.v (i := i) (by omega)
  simpa [zv] using this
 have hle : ∀ i, plc ((zv s.cuts).take i) x.v ≤ s.cuts.length := fun i => Nat.le_trans (plc_len _ _) (by simp [hzl]; omega)
 have hcm : ∀ i (h : i < s.cuts.length), Fn Tryz.prog 81 [.g (dZ s.cuts[i]), .g (dZ x)] (.c (.i .i64 (cmpI (s.cuts[i]).v x.v))) := fun i h => rcmp_v _ _ (by have := (hs.cut _ (List.getElem_mem h)).1; omega) (by omega)
 have e0 : plc (zv s.cuts) x.v = plc ((zv s.cuts).take s.cuts.length) x.v := by rw [← hzl, List.take_length]
 rw [e0]; generalize zv s.cuts = zc at step hle; clear e0 hzl
 (repeat first | refine hku ?_ | refine sw_seqk fun _ _ => ?_ | refine sw_reg ?_ | ((first | refine aops_k fun _ _ => ?_ | with_reducible refine rw_own ?_); simp [go_sem]; try go_ints) | refine sw_block ?_ | refine sw_t ?_ | refine sw_f ?_ | refine sw_e ?_ | refine ai ?_ | simp only [aops, thn, inB, ↓reduceIte, Nat.reduceEqDiff])
 refine sw_loopv 5 (fun i : Nat => [(5, .c (.i .i64 (plc (zc.take i) x.v : Nat))), (6, .c (.i .i64 (i : Int)))]) (fun _ => []) (fun i => i ≤ s.cuts.length) (fun i => s.cuts.length - i) 0 (Nat.zero_le _) ?_ fun i hi => ?_
 ·simp [go_sem]
  rfl
 ·by_cases hlt : i < s.cuts.length
  ·(repeat first | refine hku ?_ | refine sw_seqk fun _ _ => ?_ | refine sw_reg ?_ | ((first | refine aops_k fun _ _ => ?_ | with_reducible refine rw_own ?_); simp [go_sem, hlt]; try go_ints) | refine sw_block ?_ | refine sw_t ?_ | refine sw_f ?_ | refine sw_e ?_ | refine ai ?_ | simp only [aops, thn, inB, ↓reduceIte, Nat.reduceEqDiff])
   have h1 := step i hlt
   by_cases hc : cmpI (s.cuts[i]).v x.v ≤ 0
   ·have hc' : (s.cuts[i]).v ≤ x.v := by unfold cmpI at hc; split at hc <;> (try split at hc) <;> omega
    rw [if_pos hc'] at h1
    (refine ⟨.v _, hcm i hlt, ?_⟩; simp [go_sem]; (repeat first | refine hku ?_ | refine sw_seqk fun _ _ => ?_ | refine sw_reg ?_ | ((first | refine aops_k fun _ _ => ?_ | with_reducible refine rw_own ?_); simp [go_sem, hc]; try go_ints) | refine sw_block ?_ | refine sw_t ?_ | refine sw_f ?_ | refine sw_e ?_ | refine ai ?_ | simp only [aops, thn, inB, ↓reduceIte, Nat.reduceEqDiff]))
    refine ⟨i + 1, by omega, by omega, ?_⟩; simp [go_sem, h1]
   ·have hc' : ¬ (s.cuts[i]).v ≤ x.v := by unfold cmpI at hc; split at hc <;> (try split at hc) <;> omega
    rw [if_neg hc'] at h1
    (refine ⟨.v _, hcm i hlt, ?_⟩; simp [go_sem]; (repeat first | refine hku ?_ | refine sw_seqk fun _ _ => ?_ | refine sw_reg ?_ | ((first | refine aops_k fun _ _ => ?_ | with_reducible refine rw_own ?_); simp [go_sem, hc]; try go_ints) | refine sw_block ?_ | refine sw_t ?_ | refine sw_f ?_ | refine sw_e ?_ | refine ai ?_ | simp only [aops, thn, inB, ↓reduceIte, Nat.reduceEqDiff]))
    refine ⟨i + 1, by omega, by omega, ?_⟩; simp [go_sem, h1]
  ·(repeat first | refine hku ?_ | refine sw_seqk fun _ _ => ?_ | refine sw_reg ?_ | ((first | refine aops_k fun _ _ => ?_ | with_reducible refine rw_own ?_); simp [go_sem, hlt]; try go_ints) | refine sw_block ?_ | refine sw_t ?_ | refine sw_f ?_ | refine sw_e ?_ | refine ai ?_ | simp only [aops, thn, inB, ↓reduceIte, Nat.reduceEqDiff])
   have : i = s.cuts.length := by omega
   subst this; simp [go_sem]
theorem rsame18_v (a b : List Bool) (hl : a.length = b.length) (ha : a.length ≤ 1099511627776) : Fn Tryz.prog 117 [.c (.l (dB a)), .c (.l (dB b))] (.c (.b (decide (a = b)))) := by
 refine Fn.intro' Tryz.func117 [.tmp 4] 21 fun _ => ?_
 (repeat first | refine hku ?_ | refine sw_seqk fun _ _ => ?_ | refine sw_reg ?_ | ((first | refine aops_k fun _ _ => ?_ | with_reducible refine rw_own ?_); simp [go_sem]; try go_ints) | refine sw_block ?_ | refine sw_t ?_ | refine sw_f ?_ | refine sw_e ?_ | refine ai ?_ | simp only [aops, thn, inB, ↓reduceIte, Nat.reduceEqDiff])
 refine sw_loopv 5 (fun i : Nat => [(5, .c (.i .i64 (i : Int)))]) (fun _ => []) (fun i => i ≤ a.length ∧ a.take i = b.take i) (fun i => a.length - i) 0 ⟨Nat.zero_le _, by simp⟩ ?_ fun i ⟨hi, ht⟩ => ?_
 ·simp [go_sem]
 ·by_cases hlt : i < a.length
  ·have hlb : i < b.length := by omega
   by_cases hab : a[i] = b[i]
   ·(repeat first | refine hku ?_ | refine sw_seqk fun _ _ => ?_ | refine sw_reg ?_ | ((first | refine aops_k fun _ _ => ?_ | with_reducible refine rw_own ?_); simp [go_sem, hlt, hlb, hab]; try go_ints) | refine sw_block ?_ | refine sw_t ?_ | refine sw_f ?_ | refine sw_e ?_ | refine ai ?_ | simp only [aops, thn, inB, ↓reduceIte, Nat.reduceEqDiff])
    refine ⟨i + 1, ⟨by omega, ?_⟩, by omega, ?_⟩
    ·rw [List.take_succ_eq_append_getElem hlt, List.take_succ_eq_append_getElem hlb, ht, hab]
    ·simp [go_sem]
   ·have hne : a ≠ b := fun e => hab (by subst e; rfl)
    have hab' : a[i] = !b[i] := by cases h1 : a[i] <;> cases h2 : b[i] <;> simp_all
    (repeat first | refine hku ?_ | refine sw_seqk fun _ _ => ?_ | refine sw_reg ?_ | ((first | refine aops_k fun _ _ => ?_ | with_reducible refine rw_own ?_); simp [go_sem, hlt, hlb, hab']; try go_ints) | refine sw_block ?_ | refine sw_t ?_ | refine sw_f ?_ | refine sw_e ?_ | refine ai ?_ | simp only [aops, thn, inB, ↓reduceIte, Nat.reduceEqDiff])
    simp [go_sem, hne]
  ·have hi : i = a.length := by omega
   have he : a = b := by
    rw [hi, List.take_length, hl, List.take_length] at ht; exact ht
   (repeat first | refine hku ?_ | refine sw_seqk fun _ _ => ?_ | refine sw_reg ?_ | ((first | refine aops_k fun _ _ => ?_ | with_reducible refine rw_own ?_); simp [go_sem, hlt]; try go_ints) | refine sw_block ?_ | refine sw_t ?_ | refine sw_f ?_ | refine sw_e ?_ | refine ai ?_ | simp only [aops, thn, inB, ↓reduceIte, Nat.reduceEqDiff])
   simp [go_sem, he]
def jf (m : Bool) : Bool → Bool → Bool := if m then and else or
set_option maxHeartbeats 1600000 in
theorem rboth_v (a b : List Bool) (q : Nat) (m : Bool) (ha : 0 < a.length) (hb : 0 < b.length) (hq : q ≤ 16777216) : Fn Tryz.prog 114 [.c (.l (dB a)), .c (.l (dB b)), .c (.i .i64 (q : Nat)), .c (.b m)] (.c (.l true (dB (jrow (jf m) a b q)))) := by
 refine Fn.intro' Tryz.func114 [.tmp 8] 52 fun _ => ?_
 obtain ⟨X, hX⟩ : ∃ X, X = jrow (jf m) a b q := ⟨_, rfl⟩
 have hXl : q = X.length := by rw [hX, jrow_len]
 have hat : ∀ i (h : i < X.length) (h1 : i % a.length < a.length) (h2 : i % b.length < b.length), X[i] = jf m a[i % a.length] b[i % b.length] := fun i h h1 h2 => by
  have h3 := jrow_at (f := jf m) (a := a) (b := b) (j := i) (q := q) (by omega); rw [← hX, bth_eq _ _ h, bth_eq _ _ h1, bth_eq _ _ h2] at h3; exact h3
 have hae : ¬ a = [] := fun e => by rw [e] at ha; simp at ha
 have hbe : ¬ b = [] := fun e => by rw [e] at hb; simp at hb
 rw [← hX]; clear hX
 (repeat first | refine hku ?_ | refine sw_seqk fun _ _ => ?_ | refine sw_reg ?_ | ((first | refine aops_k fun _ _ => ?_ | with_reducible refine rw_own ?_); simp [go_sem]; try go_ints) | refine sw_block ?_ | refine sw_t ?_ | refine sw_f ?_ | refine sw_e ?_ | refine ai ?_ | simp only [aops, thn, inB, ↓reduceIte, Nat.reduceEqDiff])
 refine sw_loopv 10 (fun i : Nat => [(10, .c (.i .i64 (i : Int)))]) (fun i => [(14, .r true 1 4 (dB (X.take i ++ List.replicate (q - i) false)))]) (fun i => i ≤ q) (fun i => q - i) 0 (Nat.zero_le _) ?_ fun i hi => ?_
 ·simp [go_sem]
 ·by_cases hlt : i < q
  ·have h1 : i % a.length < a.length := Nat.mod_lt _ ha; have h2 : i % b.length < b.length := Nat.mod_lt _ hb; have h3 := hat i (by omega) h1 h2; have h4 := fill_step (X := dB X) (d := [D.b false]) (n := q) (i := i) (by rw [dB_len]; exact hXl) (by rw [dB_len]; omega); have h5 := fill_at (X := dB X) (d := [D.b false]) (n := q) (i := i) (by rw [dB_len]; exact hXl) (by rw [dB_len]; omega); simp only [dB, List.getElem_map] at h4 h5; obtain ⟨u, hu⟩ : ∃ u, u = i % a.length := ⟨_, rfl⟩; obtain ⟨v, hv⟩ : ∃ v, v = i % b.length := ⟨_, rfl⟩
   have hu' : (i : Int) % (a.length : Int) = (u : Int) := by rw [← Int.natCast_emod, hu]
   have hv' : (i : Int) % (b.length : Int) = (v : Int) := by rw [← Int.natCast_emod, hv]
   simp only [← hu, ← hv] at h1 h2 h3
   cases hx : a[u] <;> cases hy : b[v] <;> cases m <;> (
    simp [hx, hy, jf] at h3; rw [h3] at h4
    (repeat first | refine hku ?_ | refine sw_seqk fun _ _ => ?_ | refine sw_reg ?_ | ((first | refine aops_k fun _ _ => ?_ | with_reducible refine rw_own ?_); simp [go_sem, hlt, h1, h2, hu', hv', hae, hbe, hx, hy, h5]; try go_ints) | refine sw_block ?_ | refine sw_t ?_ | refine sw_f ?_ | refine sw_e ?_ | refine ai ?_ | simp only [aops, thn, inB, ↓reduceIte, Nat.reduceEqDiff])
    refine ⟨i + 1, by omega, by omega, ?_⟩
    simp [go_sem, h4])
  ·have : i = X.length := by omega
   (repeat first | refine hku ?_ | refine sw_seqk fun _ _ => ?_ | refine sw_reg ?_ | ((first | refine aops_k fun _ _ => ?_ | with_reducible refine rw_own ?_); simp [go_sem, hlt]; try go_ints) | refine sw_block ?_ | refine sw_t ?_ | refine sw_f ?_ | refine sw_e ?_ | refine ai ?_ | simp only [aops, thn, inB, ↓reduceIte, Nat.reduceEqDiff])
   simp [go_sem, this, hXl, List.take_of_length_le]

end Go.Proofs.YtpkfjbljhneenaaGreat

namespace Go.Proofs.YtpkfjbljhneenaaGreat
open Go.RowKit

section
variable {w : World} {X : Nat → Prop}
theorem ed_b {cs : List Value} {b : Bool} : ED w X cs [.b b] ↔ EB w X cs b := by
 constructor
 ·intro h
  cases h with
  | cons h1 h2 => cases h2; cases h1; rfl
 ·rintro rfl; exact .cons .b .nil
theorem rp_b {v : Value} {l : List Bool} : Rp w X v (.l (dB l)) ↔ ∃ A c, v = .slice A l.length c ∧ Rl w X A c l := by
 constructor
 ·exact fun h => Rp.of_enc (sz := 1) (by omega) (fun _ => rfl) (fun _ _ h => ed_b.1 h) h
 ·rintro ⟨A, c, rfl, h⟩; exact Rp.to_enc (by omega) (fun _ _ h => ed_b.2 h) h
theorem ed_r {cs : List Value} {r : List Bool} : ED w X cs [.l (dB r)] ↔ ER w X cs r := by
 constructor
 ·intro h
  cases h with
  | cons h1 h2 =>
   cases h2
   obtain ⟨A, c, rfl, h⟩ := rp_b.1 h1; exact ⟨A, c, rfl, h⟩
 ·rintro ⟨A, c, rfl, h⟩; exact .cons (rp_b.2 ⟨A, c, rfl, h⟩) .nil
theorem rp_r {v : Value} {l : List (List Bool)} : Rp w X v (.l (dR l)) ↔ ∃ A c, v = .slice A l.length c ∧ Rs w X A c l := by
 constructor
 ·exact fun h => Rp.of_enc (sz := 1) (by omega) (fun _ => rfl) (fun _ _ h => ed_r.1 h) h
 ·rintro ⟨A, c, rfl, h⟩; exact Rp.to_enc (by omega) (fun _ _ h => ed_r.2 h) h
theorem rp_zs {v : Value} {l : List Z} : Rp w X v (.l (l.map dZ)) ↔ ∃ A c, v = .slice A l.length c ∧ Zs w X A c l := by
 constructor
 ·exact fun h => Rp.of_enc (sz := 2) (by omega) (fun _ => rfl) (fun _ _ h => ed_z.1 h) h
 ·rintro ⟨A, c, rfl, h⟩; exact Rp.to_enc (by omega) (fun _ _ h => ed_z.2 h) h
def dM (m : Mk) : List D := .i .i64 m.kind :: .i .i64 m.a :: .i .i64 m.b :: (dZ m.k ++ dZ m.d)
theorem ed_m {cs : List Value} {m : Mk} : ED w X cs (dM m) ↔ EM w X cs m ∧ i64 m.kind ∧ i64 m.a ∧ i64 m.b := by
 constructor
 ·intro h
  cases h with
  | cons h1 h =>
   cases h with
   | cons h2 h =>
    cases h with
    | cons h3 h =>
     cases h with
     | cons h4 h =>
      cases h with
      | cons h5 h =>
       obtain ⟨B, d, rfl, h6⟩ := ed_z.1 h; obtain ⟨A, c, rfl, h7⟩ := rp_n.1 h5
       cases h4
       cases h1 with
       | i a1 a2 =>
        cases h2 with
        | i b1 b2 =>
         cases h3 with
         | i c1 c2 =>
          simp only [z_min] at a1 a2 b1 b2 c1 c2; exact ⟨⟨A, c, B, d, rfl, h7, h6⟩, ⟨a1, a2⟩, ⟨b1, b2⟩, ⟨c1, c2⟩⟩
 ·rintro ⟨⟨A, c, B, d, rfl, h1, h2⟩, h3, h4, h5⟩; exact .cons (.i (by simp only [z_min]; exact h3.1) (by simp only [z_min]; exact h3.2)) (.cons (.i (by simp only [z_min]; exact h4.1) (by simp only [z_min]; exact h4.2)) (.cons (.i (by simp only [z_min]; exact h5.1) (by simp only [z_min]; exact h5.2)) (.cons .b (.cons (rp_n.2 ⟨A, c, rfl, h1⟩) (ed_z.2 ⟨B, d, rfl, h2⟩)))))
end

end Go.Proofs.YtpkfjbljhneenaaGreat

namespace Go.Proofs.YtpkfjbljhneenaaGreat
open Go.RowKit

attribute [go_sem] endS
def fits64 (x : Int) : Bool := decide (-9223372036854775808 ≤ x) && decide (x ≤ 9223372036854775807)
theorem or32 (u x : Nat) (hu : u < 4294967296) (hx : x < 4294967296) : bvK .or .u64 ((u : Int) * 4294967296) (x : Int) = ((x + 4294967296 * u : Nat) : Int) := by
 have e1 : ((u : Int) * 4294967296) = ((2 ^ 32 * u : Nat) : Int) := by omega
 have h1 : 2 ^ 32 * u ||| x = 2 ^ 32 * u + x := (Nat.two_pow_add_eq_or_of_lt (i := 32) (b := x) (by omega) u).symm
 rw [e1]
 have h2 : (BitVec.ofInt IntKind.u64.bits ((2 ^ 32 * u : Nat) : Int) ||| BitVec.ofInt IntKind.u64.bits ((x : Nat) : Int)).toNat = 2 ^ 32 * u + x := by
  show (BitVec.ofInt 64 ((2 ^ 32 * u : Nat) : Int) ||| BitVec.ofInt 64 ((x : Nat) : Int)).toNat = 2 ^ 32 * u + x
  rw [BitVec.toNat_or, BitVec.ofInt_natCast, BitVec.ofInt_natCast, BitVec.toNat_ofNat, BitVec.toNat_ofNat, Nat.mod_eq_of_lt (by omega), Nat.mod_eq_of_lt (by omega), h1]
 show IntKind.u64.wrap ((BitVec.ofInt IntKind.u64.bits ((2 ^ 32 * u : Nat) : Int) ||| BitVec.ofInt IntKind.u64.bits ((x : Nat) : Int)).toNat : Int) = _
 rw [h2]; simp [IntKind.wrap, IntKind.bits, IntKind.signed]
 omega
set_option maxHeartbeats 1600000 in
theorem rint64_v (z : Z) (h : z.mag.length ≤ 4398046511104) : Fn Tryz.prog 83 [.g (dZ z)] (.t [.c (.i .i64 (if fits64 z.v then z.v else 0)), .c (.b (fits64 z.v))]) := by
 refine Fn.intro' Tryz.func83 [.tmp 2, .tmp 3] 43 fun _ => ?_
 have hno := rnorm_v z h; obtain ⟨l, hl⟩ : ∃ l, l = lim z.v.natAbs := ⟨_, rfl⟩
 have hnv : nv l = z.v.natAbs := by rw [hl, nv_lim]
 have hlb : Lb l := by rw [hl]; exact lb_lim _
 have hlen : ¬ 2 < l.length → nv l < 18446744073709551616 := fun h => by
  have h1 := nv_lt hlb
  have h2 : pw l.length ≤ pw 2 := by
   rcases (by omega : l.length = 0 ∨ l.length = 1 ∨ l.length = 2) with e | e | e <;> rw [e] <;> decide
  have h3 : pw 2 = 18446744073709551616 := by decide
  omega
 have hlen' : 2 < l.length → 18446744073709551616 ≤ nv l := fun h => by
  rcases Nat.lt_or_ge (nv l) 18446744073709551616 with h1 | h1
  ·have := lim_pw (n := nv l) (k := 2) (Nat.lt_of_lt_of_le h1 (Nat.le_of_eq (by decide)))
   rw [hnv, ← hl] at this; omega
  ·exact h1
 have hcz : cz z.v = ⟨decide (z.v < 0), l⟩ := by rw [hl]; rfl
 rw [hcz] at hno; clear hcz hl
 (repeat first | refine hku ?_ | refine sw_seqk fun _ _ => ?_ | refine sw_reg ?_ | ((first | refine aops_k fun _ _ => ?_ | with_reducible refine rw_own ?_); simp [go_sem]; try go_ints) | refine sw_block ?_ | refine sw_t ?_ | refine sw_f ?_ | refine sw_e ?_ | refine ai ?_ | simp only [aops, thn, inB, ↓reduceIte, Nat.reduceEqDiff])
 by_cases h2 : 2 < l.length
 ·have hf : fits64 z.v = false := by have := hlen' h2; unfold fits64; simp; omega
  have h2' : (2 : Int) < ((dN l).length : Int) := by simp [dN]; omega
  (refine ⟨.v _, hno, ?_⟩; simp [go_sem]; (repeat first | refine hku ?_ | refine sw_seqk fun _ _ => ?_ | refine sw_reg ?_ | ((first | refine aops_k fun _ _ => ?_ | with_reducible refine rw_own ?_); simp [go_sem, h2']; try go_ints) | refine sw_block ?_ | refine sw_t ?_ | refine sw_f ?_ | refine sw_e ?_ | refine ai ?_ | simp only [aops, thn, inB, ↓reduceIte, Nat.reduceEqDiff]))
  simp [go_sem, hf]
 ·have h2' : ¬ (2 : Int) < ((dN l).length : Int) := by simp [dN]; omega
  have hlt := hlen h2
  (refine ⟨.v _, hno, ?_⟩; simp [go_sem]; (repeat first | refine hku ?_ | refine sw_seqk fun _ _ => ?_ | refine sw_reg ?_ | ((first | refine aops_k fun _ _ => ?_ | with_reducible refine rw_own ?_); simp [go_sem, h2']; try go_ints) | refine sw_block ?_ | refine sw_t ?_ | refine sw_f ?_ | refine sw_e ?_ | refine ai ?_ | simp only [aops, thn, inB, ↓reduceIte, Nat.reduceEqDiff]))
  refine sw_loopv 5 (fun i : Nat => [(5, .c (.i .u64 (nv (l.drop i) : Nat))), (6, .c (.i .i64 ((i : Int) - 1)))]) (fun _ => []) (fun i => i ≤ l.length) (fun i => i) l.length (Nat.le_refl _) ?_ fun i hi => ?_
  ·simp [go_sem, dN]
   rfl
  ·cases i with
   | zero =>
    simp only [List.drop_zero, hnv]; rw [hnv] at hlt
    by_cases hn : z.v < 0
    ·by_cases hb : z.v.natAbs ≤ 9223372036854775808
     ·have hf : fits64 z.v = true := by unfold fits64; simp; omega
      obtain ⟨u, hu⟩ : ∃ u, u = z.v.natAbs := ⟨_, rfl⟩
      have hz : z.v = -(u : Int) := by omega
      rw [← hu] at hb hlt ⊢
      have hb' : ¬ (9223372036854775808 : Int) < (u : Int) := by omega
      have hw : IntKind.i64.wrap ((u : Int) - 1) = (u : Int) - 1 := by simp [IntKind.wrap, IntKind.bits, IntKind.signed]; omega
      have hu1 : 1 ≤ u := by omega
      (repeat first | refine hku ?_ | refine sw_seqk fun _ _ => ?_ | refine sw_reg ?_ | ((first | refine aops_k fun _ _ => ?_ | with_reducible refine rw_own ?_); simp [go_sem, hn, hb']; try go_ints) | refine sw_block ?_ | refine sw_t ?_ | refine sw_f ?_ | refine sw_e ?_ | refine ai ?_ | simp only [aops, thn, inB, ↓reduceIte, Nat.reduceEqDiff])
      rw [hz] at hf; simp [go_sem, hf, hz]
      omega
     ·have hf : fits64 z.v = false := by unfold fits64; simp; omega
      have hb' : (9223372036854775808 : Int) < (z.v.natAbs : Int) := by omega
      (repeat first | refine hku ?_ | refine sw_seqk fun _ _ => ?_ | refine sw_reg ?_ | ((first | refine aops_k fun _ _ => ?_ | with_reducible refine rw_own ?_); simp [go_sem, hn, hb']; try go_ints) | refine sw_block ?_ | refine sw_t ?_ | refine sw_f ?_ | refine sw_e ?_ | refine ai ?_ | simp only [aops, thn, inB, ↓reduceIte, Nat.reduceEqDiff])
      simp [go_sem, hf]
    ·by_cases hb : 9223372036854775808 ≤ z.v.natAbs
     ·have hf : fits64 z.v = false := by unfold fits64; simp; omega
      have hb' : (9223372036854775808 : Int) ≤ (z.v.natAbs : Int) := by omega
      (repeat first | refine hku ?_ | refine sw_seqk fun _ _ => ?_ | refine sw_reg ?_ | ((first | refine aops_k fun _ _ => ?_ | with_reducible refine rw_own ?_); simp [go_sem, hn, hb']; try go_ints) | refine sw_block ?_ | refine sw_t ?_ | refine sw_f ?_ | refine sw_e ?_ | refine ai ?_ | simp only [aops, thn, inB, ↓reduceIte, Nat.reduceEqDiff])
      simp [go_sem, hf]
     ·have hf : fits64 z.v = true := by unfold fits64; simp; omega
      have hb' : ¬ (9223372036854775808 : Int) ≤ (z.v.natAbs : Int) := by omega
      obtain ⟨u, hu⟩ : ∃ u, u = z.v.natAbs := ⟨_, rfl⟩
      have hz : z.v = (u : Int) := by omega
      rw [← hu] at hb hlt hb' ⊢
      (repeat first | refine hku ?_ | refine sw_seqk fun _ _ => ?_ | refine sw_reg ?_ | ((first | refine aops_k fun _ _ => ?_ | with_reducible refine rw_own ?_); simp [go_sem, hn, hb']; try go_ints) | refine sw_block ?_ | refine sw_t ?_ | refine sw_f ?_ | refine sw_e ?_ | refine ai ?_ | simp only [aops, thn, inB, ↓reduceIte, Nat.reduceEqDiff])
      rw [hz] at hf; simp [go_sem, hf, hz]
   | succ j =>
    have hj : j < l.length := by omega
    have hd := nv_drop l j hj
    have hu : nv (l.drop (j + 1)) < 4294967296 := by
     have h3 : (l.drop (j + 1)).length ≤ 1 := by rw [List.length_drop]; omega
     have h4 := nv_lt (l := l.drop (j + 1)) (fun x hx => hlb x (List.mem_of_mem_drop hx))
     rcases (by omega : (l.drop (j + 1)).length = 0 ∨ (l.drop (j + 1)).length = 1) with e | e <;> rw [e] at h4
     ·exact Nat.lt_of_lt_of_le h4 (by decide)
     ·exact Nat.lt_of_lt_of_le h4 (Nat.le_of_eq (by decide))
    have hx : nth l j < 4294967296 := hlb _ (by rw [nth_eq l j hj]; exact List.getElem_mem hj); have hor := or32 _ _ hu hx; rw [← hd] at hor; rw [nth_eq l j hj] at hor; obtain ⟨u, hu'⟩ : ∃ u, u = nv (l.drop (j + 1)) := ⟨_, rfl⟩; rw [← hu'] at hor hu ⊢
    have hj2 : j < (dN l).length := by simpa [dN] using hj
    have hdj : (dN l)[j]? = some [.i .u32 (l[j] : Int)] := by simp [dN, hj]
    (repeat first | refine hku ?_ | refine sw_seqk fun _ _ => ?_ | refine sw_reg ?_ | ((first | refine aops_k fun _ _ => ?_ | with_reducible refine rw_own ?_); simp [go_sem, hj, dN, hor]; try go_ints) | refine sw_block ?_ | refine sw_t ?_ | refine sw_f ?_ | refine sw_e ?_ | refine ai ?_ | simp only [aops, thn, inB, ↓reduceIte, Nat.reduceEqDiff])
    have hwr : IntKind.u64.wrap (l[j] : Int) = (l[j] : Int) := by rw [nth_eq l j hj] at hx; simp [IntKind.wrap, IntKind.bits, IntKind.signed]; omega
    refine ⟨j, by omega, by omega, ?_⟩; simp [go_sem, hor, hwr, dN]
theorem rwhole_s (r : List Bool) (hr : r.length ≤ 16777216) : FnS Tryz.prog 53 [.c (.l (dB r))] [.i .i64 (r.length : Int), .nl, .u] 2 false 1 75 [[.l (dB r)]] := by
 refine FnS.intro' Tryz.func53 [.cell 2 38] 8 fun _ => ?_
 (repeat first | refine hku ?_ | refine sw_seqk fun _ _ => ?_ | refine sw_reg ?_ | ((first | refine aops_k fun _ _ => ?_ | with_reducible refine rw_own ?_); simp [go_sem]; try go_ints) | refine sw_block ?_ | refine sw_t ?_ | refine sw_f ?_ | refine sw_e ?_ | refine ai ?_ | simp only [aops, thn, inB, ↓reduceIte, Nat.reduceEqDiff])
 simp [go_sem]
theorem rwhole_v (r : List Bool) (f : Bool) (hr : r.length ≤ 16777216) : Fn Tryz.prog 53 [.c (.l (dB r))] (gS true false ⟨r.length, [], [r]⟩) := by
 refine Fn.intro' Tryz.func53 [.cell 2 38] 8 fun _ => ?_
 (repeat first | refine hku ?_ | refine sw_seqk fun _ _ => ?_ | refine sw_reg ?_ | ((first | refine aops_k fun _ _ => ?_ | with_reducible refine rw_own ?_); simp [go_sem]; try go_ints) | refine sw_block ?_ | refine sw_t ?_ | refine sw_f ?_ | refine sw_e ?_ | refine ai ?_ | simp only [aops, thn, inB, ↓reduceIte, Nat.reduceEqDiff])
 simp [go_sem]
theorem czf (x : Int) : ∃ z : Z, z = cz x ∧ z.v = x ∧ z.mag.length = zl x := ⟨_, rfl, cz_v x, cz_len x⟩
def perN (m : Nat) : Int := if fits64 (m : Int) then (m : Int) else 0
theorem perN_ok {m : Nat} (h : m ≤ 4096) : perN m = (m : Nat) := by
 have : fits64 (m : Int) = true := by unfold fits64; simp; omega
 simp [perN, this]
theorem rperiod_v (d : Z) (h : d.mag.length ≤ 4398046511104) : Fn Tryz.prog 92 [.g (dZ d)] (.t [.c (.i .i64 (perN d.v.natAbs)), .c (.b (decide (d.v.natAbs ≤ 4096)))]) := by
 refine Fn.intro' Tryz.func92 [.tmp 2, .tmp 3] 18 fun hok => ?_
 have hlb := ok_z (hok (.g (dZ d)) (by simp)); have hzl := zl_of hlb; have h1 := rabs_v d h; obtain ⟨a, ha, hav, hal⟩ := czf ((d.v.natAbs : Nat) : Int)
 have hal2 : zl ((d.v.natAbs : Nat) : Int) = zl d.v := by unfold zl; rw [Int.natAbs_natCast]
 have h2 := rint64_v a (by omega); rw [← ha] at h1; rw [hav] at h2; clear ha hal hal2 hav hok; obtain ⟨m, hm⟩ : ∃ m, m = d.v.natAbs := ⟨_, rfl⟩; rw [← hm] at h2 ⊢
 (repeat first | refine hku ?_ | refine sw_seqk fun _ _ => ?_ | refine sw_reg ?_ | ((first | refine aops_k fun _ _ => ?_ | with_reducible refine rw_own ?_); simp [go_sem]; try go_ints) | refine sw_block ?_ | refine sw_t ?_ | refine sw_f ?_ | refine sw_e ?_ | refine ai ?_ | simp only [aops, thn, inB, ↓reduceIte, Nat.reduceEqDiff])
 by_cases hf : fits64 (m : Int) = true
 ·by_cases hle : m ≤ 4096
  ·have hle' : (m : Int) ≤ 4096 := by omega
   (refine ⟨.v _, h1, ?_⟩; simp [go_sem]; (repeat first | refine hku ?_ | refine sw_seqk fun _ _ => ?_ | refine sw_reg ?_ | ((first | refine aops_k fun _ _ => ?_ | with_reducible refine rw_own ?_); simp [go_sem]; try go_ints) | refine sw_block ?_ | refine sw_t ?_ | refine sw_f ?_ | refine sw_e ?_ | refine ai ?_ | simp only [aops, thn, inB, ↓reduceIte, Nat.reduceEqDiff]))
   (refine ⟨.v _, h2, ?_⟩; simp [go_sem]; (repeat first | refine hku ?_ | refine sw_seqk fun _ _ => ?_ | refine sw_reg ?_ | ((first | refine aops_k fun _ _ => ?_ | with_reducible refine rw_own ?_); simp [go_sem, hf, hle', perN, hle]; try go_ints) | refine sw_block ?_ | refine sw_t ?_ | refine sw_f ?_ | refine sw_e ?_ | refine ai ?_ | simp only [aops, thn, inB, ↓reduceIte, Nat.reduceEqDiff]))
   simp [go_sem, hf, hle, perN]
  ·have hle' : ¬ (m : Int) ≤ 4096 := by omega
   (refine ⟨.v _, h1, ?_⟩; simp [go_sem]; (repeat first | refine hku ?_ | refine sw_seqk fun _ _ => ?_ | refine sw_reg ?_ | ((first | refine aops_k fun _ _ => ?_ | with_reducible refine rw_own ?_); simp [go_sem]; try go_ints) | refine sw_block ?_ | refine sw_t ?_ | refine sw_f ?_ | refine sw_e ?_ | refine ai ?_ | simp only [aops, thn, inB, ↓reduceIte, Nat.reduceEqDiff]))
   (refine ⟨.v _, h2, ?_⟩; simp [go_sem]; (repeat first | refine hku ?_ | refine sw_seqk fun _ _ => ?_ | refine sw_reg ?_ | ((first | refine aops_k fun _ _ => ?_ | with_reducible refine rw_own ?_); simp [go_sem, hf, hle', perN, hle]; try go_ints) | refine sw_block ?_ | refine sw_t ?_ | refine sw_f ?_ | refine sw_e ?_ | refine ai ?_ | simp only [aops, thn, inB, ↓reduceIte, Nat.reduceEqDiff]))
   simp [go_sem, hf, hle, perN]
 ·have hle : ¬ m ≤ 4096 := fun h => hf (by unfold fits64; simp; omega)
  have hf' : fits64 (m : Int) = false := by simpa using hf
  (refine ⟨.v _, h1, ?_⟩; simp [go_sem]; (repeat first | refine hku ?_ | refine sw_seqk fun _ _ => ?_ | refine sw_reg ?_ | ((first | refine aops_k fun _ _ => ?_ | with_reducible refine rw_own ?_); simp [go_sem]; try go_ints) | refine sw_block ?_ | refine sw_t ?_ | refine sw_f ?_ | refine sw_e ?_ | refine ai ?_ | simp only [aops, thn, inB, ↓reduceIte, Nat.reduceEqDiff]))
  (refine ⟨.v _, h2, ?_⟩; simp [go_sem]; (repeat first | refine hku ?_ | refine sw_seqk fun _ _ => ?_ | refine sw_reg ?_ | ((first | refine aops_k fun _ _ => ?_ | with_reducible refine rw_own ?_); simp [go_sem, hf', perN, hle]; try go_ints) | refine sw_block ?_ | refine sw_t ?_ | refine sw_f ?_ | refine sw_e ?_ | refine ai ?_ | simp only [aops, thn, inB, ↓reduceIte, Nat.reduceEqDiff]))
  simp [go_sem, hf', hle, perN]
theorem rrest_v (x : Z) (p : Nat) (hp0 : 0 < p) (hp : p ≤ 16777216) (hx : x.mag.length ≤ 274877906943) : Fn Tryz.prog 93 [.g (dZ x), .c (.i .i64 (p : Nat))] (.c (.i .i64 (x.v % (p : Int)))) := by
 refine Fn.intro' Tryz.func93 [.tmp 4] 16 fun _ => ?_
 have h1 := rof_v (p : Int) ⟨by omega, by omega⟩; obtain ⟨a, ha, hav, hal⟩ := czf (p : Int); have hal1 : zl (p : Int) ≤ 1 := zl_small (by omega); have h2 := rmod_v x a (by omega) hx (by omega); rw [hav, Int.fmod_eq_emod_of_nonneg _ (by omega)] at h2; obtain ⟨b, hb, hbv, hbl⟩ := czf (x.v % (p : Int)); have r1 := Int.emod_nonneg x.v (show (p : Int) ≠ 0 by omega); have r2 := Int.emod_lt_of_pos x.v (show (0 : Int) < (p : Int) by omega); have hbl1 : zl (x.v % (p : Int)) ≤ 1 := zl_small (by omega); have h3 := rint64_v b (by omega)
 have hf : fits64 (x.v % (p : Int)) = true := by unfold fits64; simp; omega
 rw [← ha] at h1; rw [← hb] at h2; rw [hbv, hf, if_pos rfl] at h3; clear ha hal hal1 hav hb hbv hbl hbl1 hf; generalize x.v % (p : Int) = r at *
 (repeat first | refine hku ?_ | refine sw_seqk fun _ _ => ?_ | refine sw_reg ?_ | ((first | refine aops_k fun _ _ => ?_ | with_reducible refine rw_own ?_); simp [go_sem]; try go_ints) | refine sw_block ?_ | refine sw_t ?_ | refine sw_f ?_ | refine sw_e ?_ | refine ai ?_ | simp only [aops, thn, inB, ↓reduceIte, Nat.reduceEqDiff])
 (refine ⟨.v _, h1, ?_⟩; simp [go_sem]; (repeat first | refine hku ?_ | refine sw_seqk fun _ _ => ?_ | refine sw_reg ?_ | ((first | refine aops_k fun _ _ => ?_ | with_reducible refine rw_own ?_); simp [go_sem]; try go_ints) | refine sw_block ?_ | refine sw_t ?_ | refine sw_f ?_ | refine sw_e ?_ | refine ai ?_ | simp only [aops, thn, inB, ↓reduceIte, Nat.reduceEqDiff]))
 (refine ⟨.v _, h2, ?_⟩; simp [go_sem]; (repeat first | refine hku ?_ | refine sw_seqk fun _ _ => ?_ | refine sw_reg ?_ | ((first | refine aops_k fun _ _ => ?_ | with_reducible refine rw_own ?_); simp [go_sem]; try go_ints) | refine sw_block ?_ | refine sw_t ?_ | refine sw_f ?_ | refine sw_e ?_ | refine ai ?_ | simp only [aops, thn, inB, ↓reduceIte, Nat.reduceEqDiff]))
 (refine ⟨.v _, h3, ?_⟩; simp [go_sem]; (repeat first | refine hku ?_ | refine sw_seqk fun _ _ => ?_ | refine sw_reg ?_ | ((first | refine aops_k fun _ _ => ?_ | with_reducible refine rw_own ?_); simp [go_sem]; try go_ints) | refine sw_block ?_ | refine sw_t ?_ | refine sw_f ?_ | refine sw_e ?_ | refine ai ?_ | simp only [aops, thn, inB, ↓reduceIte, Nat.reduceEqDiff]))
 simp [go_sem]

end Go.Proofs.YtpkfjbljhneenaaGreat

namespace Go.Proofs.YtpkfjbljhneenaaGreat
open Go.RowKit

set_option maxHeartbeats 800000 in
theorem rnone_v : Fn Tryz.prog 23 [] (gS true true noneP) := by
 intro w X vs hlay hX hargs; obtain ⟨l, rfl⟩ : ∃ l : List Value, vs = l.toArray := ⟨vs.toList, by simp⟩
 cases hargs
 show Calls _ _ #[] w _
 go_enter Tryz.func23, Tryz.ntmps23
 go_wp2_with fail
 have hE : Ext w ((w.alloc (.cells #[.int .i64 0, .slice none 0 0, .slice none 0 0] 38)).alloc (.cells #[.bool false] 4)) := ((Ext.refl w).alloc _).alloc _; have hR : Rl ((w.alloc (.cells #[.int .i64 0, .slice none 0 0, .slice none 0 0] 38)).alloc (.cells #[.bool false] 4)) (fun b => b = w.heap.size + 1) (some ⟨w.heap.size + 1, 0, none⟩) 1 [false] := Rl.one (by simp) rfl; have hb : Box ((w.alloc (.cells #[.int .i64 0, .slice none 0 0, .slice none 0 0] 38)).alloc (.cells #[.bool false] 4)) w.heap.size 38 #[.int .i64 0, .slice none 0 0, .slice none 0 0] := (Box.new _ _ _).alloc _
 have hsz : ((w.alloc (.cells #[.int .i64 0, .slice none 0 0, .slice none 0 0] 38)).alloc (.cells #[.bool false] 4)).heap.size = w.heap.size + 2 := by simp
 generalize (w.alloc (.cells #[.int .i64 0, .slice none 0 0, .slice none 0 0] 38)).alloc (.cells #[.bool false] 4) = W at *; refine (rwhole_v [false] false (by decide) W (fun b => b = w.heap.size + 1) #[_] (hlay.ext hE) (fun b hb => by omega) (.cons (rp_b.2 ⟨_, _, rfl, hR⟩) .nil)).mono ?_; rintro e w1 ⟨v, rfl, hx, us, rfl, hv⟩; have hb1 := hb.ext hx; have hE1 := hE.trans hx; have hs1 := hx.size; obtain ⟨ul, rfl⟩ : ∃ l : List Value, us = l.toArray := ⟨us.toList, by simp⟩
 cases hv with
 | cons v1 hv =>
  cases hv with
  | cons v2 hv =>
   cases hv with
   | cons v3 hv =>
    cases hv
    obtain ⟨rfl, _⟩ := v1; have hb1l := hb1.lt; have hb1r := hb1.rules; obtain ⟨A2, c2, rfl, h2⟩ := (rp_zs (l := [])).1 v2; obtain ⟨A3, c3, rfl, h3⟩ := (rp_r (l := [[false]])).1 v3
    go_wp2_with fail
    (refine bodyPost_ret (v := ?_) ?_ rfl ?_; rotate_left; (simp only [results, Tryz.results23]; go_simp; (first | done | with_reducible rfl)))
    have hk : ∀ b, b ≠ w.heap.size → (((w1.setCell ⟨w.heap.size, 0, none⟩ (.int .i64 1)).setCell ⟨w.heap.size, 1, none⟩ (.slice A2 0 c2)).setCell ⟨w.heap.size, 2, none⟩ (.slice A3 1 c3)).heap[b]? = w1.heap[b]? := fun b hb => by
     simp [World.setCell, Array.getElem?_modify, Ne.symm hb]
    have hw : (((w1.setCell ⟨w.heap.size, 0, none⟩ (.int .i64 1)).setCell ⟨w.heap.size, 1, none⟩ (.slice A2 0 c2)).setCell ⟨w.heap.size, 2, none⟩ (.slice A3 1 c3)).heap.size = w1.heap.size := by simp [World.setCell]
    have hx3 := ((hE1.setCell (p := ⟨w.heap.size, 0, none⟩) (Nat.le_refl _) (.int .i64 1)).setCell (p := ⟨w.heap.size, 1, none⟩) (Nat.le_refl _) (.slice A2 0 c2)).setCell (p := ⟨w.heap.size, 2, none⟩) (Nat.le_refl _) (.slice A3 1 c3); generalize ((w1.setCell ⟨w.heap.size, 0, none⟩ (.int .i64 1)).setCell ⟨w.heap.size, 1, none⟩ (.slice A2 0 c2)).setCell ⟨w.heap.size, 2, none⟩ (.slice A3 1 c3) = W3 at *; refine ⟨_, rfl, hx3, _, rfl, .cons ⟨rfl, by simp [noneP, z_min], by simp [noneP, z_min]⟩ (.cons ?_ (.cons ?_ .nil))⟩
    ·refine (Rp.keep v2 fun b hb _ => hk b ?_).widen fun b hb hl => ?_
     ·rcases hb.1 with h | h <;> omega
     ·exact ⟨.inr ⟨by rcases hb.1 with h | h <;> omega, by rw [hw]; rcases hb.1 with h | h <;> omega⟩, fun _ => by rcases hb.1 with h | h <;> simp only <;> omega⟩
    ·refine (Rp.keep v3 fun b hb _ => hk b ?_).widen fun b hb hl => ?_
     ·rcases hb.1 with h | h <;> omega
     ·exact ⟨.inr ⟨by rcases hb.1 with h | h <;> omega, by rw [hw]; rcases hb.1 with h | h <;> omega⟩, fun _ => by rcases hb.1 with h | h <;> simp only <;> omega⟩

end Go.Proofs.YtpkfjbljhneenaaGreat

namespace Go.Proofs.YtpkfjbljhneenaaGreat
open Go.RowKit

theorem cmp_cases (a b : Int) : (a < b ∧ cmpI a b = -1) ∨ (b < a ∧ cmpI a b = 1) ∨ (a = b ∧ cmpI a b = 0) := by
 unfold cmpI; split
 ·exact .inl ⟨‹_›, rfl⟩
 ·split
  ·exact .inr (.inl ⟨‹_›, rfl⟩)
  ·exact .inr (.inr ⟨by omega, rfl⟩)
set_option maxHeartbeats 1600000 in
theorem rcuts_v (a b : List Z) (ha : a.length ≤ 1048576) (hb : b.length ≤ 1048576) (hza : ∀ z ∈ a, z.mag.length ≤ 1099511627776) (hzb : ∀ z ∈ b, z.mag.length ≤ 1099511627776) : Fn Tryz.prog 115 [.c (.l (a.map dZ)), .c (.l (b.map dZ))] (.c (.l false ((mg a b).map dZ))) := by
 refine Fn.intro' Tryz.func115 [.tmp 4] 61 fun _ => ?_
 obtain ⟨M, hM⟩ : ∃ M, M = mg a b := ⟨_, rfl⟩
 have hMl : M.length ≤ 2097152 := by rw [hM]; have := mg_len a b; omega
 rw [← hM]
 have h0 : M = [] ++ mg (a.drop 0) (b.drop 0) := by simp [hM]
 clear hM
 (repeat first | refine hku ?_ | refine sw_seqk fun _ _ => ?_ | refine sw_reg ?_ | ((first | refine aops_k fun _ _ => ?_ | with_reducible refine rw_own ?_); simp [go_sem]; try go_ints) | refine sw_block ?_ | refine sw_t ?_ | refine sw_f ?_ | refine sw_e ?_ | refine ai ?_ | simp only [aops, thn, inB, ↓reduceIte, Nat.reduceEqDiff])
 refine sw_weak (le_own 5 1005 2 25 rfl rfl (by decide)) ?_; refine sw_loopv 5 (fun x : Nat × Nat × List Z => [(5, .c (.r 1005 x.2.2.length)), (6, .c (.i .i64 (x.1 : Int))), (7, .c (.i .i64 (x.2.1 : Int)))]) (fun x => [(1005, .r false 2 25 (x.2.2.map dZ))]) (fun x => x.1 ≤ a.length ∧ x.2.1 ≤ b.length ∧ M = x.2.2 ++ mg (a.drop x.1) (b.drop x.2.1)) (fun x => (a.length - x.1) + (b.length - x.2.1)) (0, 0, []) ⟨Nat.zero_le _, Nat.zero_le _, h0⟩ ?_ ?_
 ·simp [go_sem]
 ·rintro ⟨i, k, out⟩ ⟨hi, hk, hm⟩; simp only at hi hk hm
  have hol : out.length ≤ 2097152 := by rw [hm, List.length_append] at hMl; omega
  simp only
  by_cases hia : i < a.length
  ·have hie : ¬ (i : Int) = (a.length : Int) := by omega
   by_cases hkb : k < b.length
   ·have hke : ¬ (k : Int) = (b.length : Int) := by omega
    have hc := rcmp_v a[i] b[k] (Nat.le_trans (hza _ (List.getElem_mem _)) (by omega)) (Nat.le_trans (hzb _ (List.getElem_mem _)) (by omega)); have hs := mg_ab hia hkb
    rcases cmp_cases a[i].v b[k].v with ⟨h1, he⟩ | ⟨h1, he⟩ | ⟨h1, he⟩
    ·rw [he] at hc; rw [if_pos h1] at hs
     (repeat first | refine hku ?_ | refine sw_seqk fun _ _ => ?_ | refine sw_reg ?_ | ((first | refine aops_k fun _ _ => ?_ | with_reducible refine rw_own ?_); simp [go_sem, hia, hkb, hie, hke]; try go_ints) | refine sw_block ?_ | refine sw_t ?_ | refine sw_f ?_ | refine sw_e ?_ | refine ai ?_ | simp only [aops, thn, inB, ↓reduceIte, Nat.reduceEqDiff])
     (refine ⟨.v _, hc, ?_⟩; simp [go_sem]; (repeat first | refine hku ?_ | refine sw_seqk fun _ _ => ?_ | refine sw_reg ?_ | ((first | refine aops_k fun _ _ => ?_ | with_reducible refine rw_own ?_); simp [go_sem, hia, hkb]; try go_ints) | refine sw_block ?_ | refine sw_t ?_ | refine sw_f ?_ | refine sw_e ?_ | refine ai ?_ | simp only [aops, thn, inB, ↓reduceIte, Nat.reduceEqDiff]))
     refine ⟨(i + 1, k, out ++ [a[i]]), ⟨by simp only; omega, hk, by rw [hm, hs]; simp⟩, by simp only; omega, ?_⟩; simp [go_sem]
    ·rw [he] at hc; rw [if_neg (by omega), if_pos h1] at hs
     (repeat first | refine hku ?_ | refine sw_seqk fun _ _ => ?_ | refine sw_reg ?_ | ((first | refine aops_k fun _ _ => ?_ | with_reducible refine rw_own ?_); simp [go_sem, hia, hkb, hie, hke]; try go_ints) | refine sw_block ?_ | refine sw_t ?_ | refine sw_f ?_ | refine sw_e ?_ | refine ai ?_ | simp only [aops, thn, inB, ↓reduceIte, Nat.reduceEqDiff])
     (refine ⟨.v _, hc, ?_⟩; simp [go_sem]; (repeat first | refine hku ?_ | refine sw_seqk fun _ _ => ?_ | refine sw_reg ?_ | ((first | refine aops_k fun _ _ => ?_ | with_reducible refine rw_own ?_); simp [go_sem, hia, hkb]; try go_ints) | refine sw_block ?_ | refine sw_t ?_ | refine sw_f ?_ | refine sw_e ?_ | refine ai ?_ | simp only [aops, thn, inB, ↓reduceIte, Nat.reduceEqDiff]))
     refine ⟨(i, k + 1, out ++ [b[k]]), ⟨hi, by simp only; omega, by rw [hm, hs]; simp⟩, by simp only; omega, ?_⟩; simp [go_sem]
    ·rw [he] at hc; rw [if_neg (by omega), if_neg (by omega)] at hs
     (repeat first | refine hku ?_ | refine sw_seqk fun _ _ => ?_ | refine sw_reg ?_ | ((first | refine aops_k fun _ _ => ?_ | with_reducible refine rw_own ?_); simp [go_sem, hia, hkb, hie, hke]; try go_ints) | refine sw_block ?_ | refine sw_t ?_ | refine sw_f ?_ | refine sw_e ?_ | refine ai ?_ | simp only [aops, thn, inB, ↓reduceIte, Nat.reduceEqDiff])
     (refine ⟨.v _, hc, ?_⟩; simp [go_sem]; (repeat first | refine hku ?_ | refine sw_seqk fun _ _ => ?_ | refine sw_reg ?_ | ((first | refine aops_k fun _ _ => ?_ | with_reducible refine rw_own ?_); simp [go_sem, hia, hkb]; try go_ints) | refine sw_block ?_ | refine sw_t ?_ | refine sw_f ?_ | refine sw_e ?_ | refine ai ?_ | simp only [aops, thn, inB, ↓reduceIte, Nat.reduceEqDiff]))
     refine ⟨(i + 1, k + 1, out ++ [a[i]]), ⟨by simp only; omega, by simp only; omega, by rw [hm, hs]; simp⟩, by simp only; omega, ?_⟩; simp [go_sem]
   ·have hke : k = b.length := by omega
    have hs := mg_a hia hke
    (repeat first | refine hku ?_ | refine sw_seqk fun _ _ => ?_ | refine sw_reg ?_ | ((first | refine aops_k fun _ _ => ?_ | with_reducible refine rw_own ?_); simp [go_sem, hia, hkb, hie, hke]; try go_ints) | refine sw_block ?_ | refine sw_t ?_ | refine sw_f ?_ | refine sw_e ?_ | refine ai ?_ | simp only [aops, thn, inB, ↓reduceIte, Nat.reduceEqDiff])
    refine ⟨(i + 1, k, out ++ [a[i]]), ⟨by simp only; omega, hk, by rw [hm, hs]; simp⟩, by simp only; omega, ?_⟩; simp [go_sem, hke]
  ·have hie : i = a.length := by omega
   by_cases hkb : k < b.length
   ·have hs := mg_b hie hkb
    (repeat first | refine hku ?_ | refine sw_seqk fun _ _ => ?_ | refine sw_reg ?_ | ((first | refine aops_k fun _ _ => ?_ | with_reducible refine rw_own ?_); simp [go_sem, hia, hkb, hie]; try go_ints) | refine sw_block ?_ | refine sw_t ?_ | refine sw_f ?_ | refine sw_e ?_ | refine ai ?_ | simp only [aops, thn, inB, ↓reduceIte, Nat.reduceEqDiff])
    refine ⟨(i, k + 1, out ++ [b[k]]), ⟨hi, by simp only; omega, by rw [hm, hs]; simp⟩, by simp only; omega, ?_⟩; simp [go_sem, hie]
   ·have hke : k = b.length := by omega
    have he : M = out := by rw [hm, hie, hke, List.drop_length, List.drop_length]; simp [mg_nil]
    (repeat first | refine hku ?_ | refine sw_seqk fun _ _ => ?_ | refine sw_reg ?_ | ((first | refine aops_k fun _ _ => ?_ | with_reducible refine rw_own ?_); simp [go_sem, hia, hkb, hie, hke]; try go_ints) | refine sw_block ?_ | refine sw_t ?_ | refine sw_f ?_ | refine sw_e ?_ | refine ai ?_ | simp only [aops, thn, inB, ↓reduceIte, Nat.reduceEqDiff])
    simp [go_sem, he]

end Go.Proofs.YtpkfjbljhneenaaGreat

namespace Go.Proofs.YtpkfjbljhneenaaGreat
open Go.RowKit

def jF (f : Bool → Bool → Bool) (s o : Ps) (q : Nat) (l : List Z) (i : Nat) : List Z × List (List Bool) := (l.take i).foldl (jstep f s o q) ([], [jrow f (rth s.rows 0) (rth o.rows 0) q])
theorem jF_step {f : Bool → Bool → Bool} {s o : Ps} {q : Nat} {l : List Z} {i : Nat} (h : i < l.length) : jF f s o q l (i + 1) = jstep f s o q (jF f s o q l i) l[i] := by
 unfold jF; rw [List.take_succ_eq_append_getElem h, List.foldl_append]
 rfl
theorem jF_all (f : Bool → Bool → Bool) (s o : Ps) (q : Nat) (l : List Z) : jF f s o q l l.length = jfold f s o q l := by
 unfold jF jfold; rw [List.take_length]
theorem jF_ok (f : Bool → Bool → Bool) (s o : Ps) (q : Nat) (l : List Z) : ∀ i, i ≤ l.length → 0 < (jF f s o q l i).2.length ∧ (jF f s o q l i).1.length ≤ i ∧ (jF f s o q l i).2.length ≤ i + 1 ∧ ∀ r ∈ (jF f s o q l i).2, r.length = q
 | 0, _ => by
  refine ⟨by simp [jF], by simp [jF], by simp [jF], fun r hr => ?_⟩; simp [jF] at hr; rw [hr, jrow_len]
 | i + 1, h => by
  obtain ⟨h1, h2, h3, h4⟩ := jF_ok f s o q l i (by omega); rw [jF_step (by omega)]; unfold jstep
  split
  ·exact ⟨h1, by omega, by omega, h4⟩
  ·refine ⟨by simp, by simp; omega, by simp; omega, fun r hr => ?_⟩
   rcases List.mem_append.1 hr with hr | hr
   ·exact h4 r hr
   ·simp only [List.mem_singleton] at hr
    rw [hr]; unfold jAt; rw [jrow_len]
theorem rjoin_no_v (s o : Ps) (m : Bool) (N : Nat) (hs : s.ok N) (ho : o.ok N) (hq : ¬ Nat.lcm s.per o.per ≤ 4096) : Fn Tryz.prog 94 [.g (dS s), .g (dS o), .c (.b m)] (.t [.g [.i .i64 0, .nl, .nl], .c (.i .i64 180)]) := by
 refine Fn.intro' Tryz.func94 [.cell 6 38, .tmp 7] 96 fun _ => ?_
 have k1 := rlcm_v s.per o.per hs.per0 ho.per0 hs.per1 ho.per1
 have hq' : (4096 : Int) < ((Nat.lcm s.per o.per : Nat) : Int) := by omega
 generalize Nat.lcm s.per o.per = q at *
 (repeat first | refine hku ?_ | refine sw_seqk fun _ _ => ?_ | refine sw_reg ?_ | ((first | refine aops_k fun _ _ => ?_ | with_reducible refine rw_own ?_); simp [go_sem]; try go_ints) | refine sw_block ?_ | refine sw_t ?_ | refine sw_f ?_ | refine sw_e ?_ | refine ai ?_ | simp only [aops, thn, inB, ↓reduceIte, Nat.reduceEqDiff])
 (refine ⟨.v _, k1, ?_⟩; simp [go_sem]; (repeat first | refine hku ?_ | refine sw_seqk fun _ _ => ?_ | refine sw_reg ?_ | ((first | refine aops_k fun _ _ => ?_ | with_reducible refine rw_own ?_); simp [go_sem, hq']; try go_ints) | refine sw_block ?_ | refine sw_t ?_ | refine sw_f ?_ | refine sw_e ?_ | refine ai ?_ | simp only [aops, thn, inB, ↓reduceIte, Nat.reduceEqDiff]))
 simp [go_sem]
set_option maxRecDepth 8000 in
set_option maxHeartbeats 3200000 in
theorem rjoin_v (s o : Ps) (m : Bool) (N : Nat) (hN : N ≤ 549755813888) (hs : s.ok N) (ho : o.ok N) (hcl : s.cuts.length + o.cuts.length ≤ 1048576) (hq : Nat.lcm s.per o.per ≤ 4096) :
  Fn Tryz.prog 94 [.g (dS s), .g (dS o), .c (.b m)] (.t [aS false false (joinP (jf m) s o (mg s.cuts o.cuts)), .c (.i .i64 0)]) := by
 refine Fn.intro' Tryz.func94 [.cell 6 38, .tmp 7] 96 fun _ => ?_
 have k1 := rlcm_v s.per o.per hs.per0 ho.per0 hs.per1 ho.per1; unfold joinP; obtain ⟨q, hqd⟩ : ∃ q, q = Nat.lcm s.per o.per := ⟨_, rfl⟩; rw [← hqd] at k1 hq ⊢; clear hqd
 have hq' : ¬ (4096 : Int) < (q : Int) := by omega
 have hsr := hs.rows; have hor := ho.rows
 have hs0 : 0 < s.rows.length := by omega
 have ho0 : 0 < o.rows.length := by omega
 have lens : ∀ i (h : i < s.rows.length), 0 < (s.rows[i]).length := fun i h => by rw [hs.row _ (List.getElem_mem h)]; exact hs.per0
 have leno : ∀ i (h : i < o.rows.length), 0 < (o.rows[i]).length := fun i h => by rw [ho.row _ (List.getElem_mem h)]; exact ho.per0
 have k2 := rboth_v s.rows[0] o.rows[0] q m (lens 0 hs0) (leno 0 ho0) (by omega); have k3 := rwhole_s (jrow (jf m) s.rows[0] o.rows[0] q) (by rw [jrow_len]; omega)
 have hsc : ∀ z ∈ s.cuts, z.mag.length ≤ 1099511627776 := fun z hz => by have := (hs.cut z hz).1; omega
 have hoc : ∀ z ∈ o.cuts, z.mag.length ≤ 1099511627776 := fun z hz => by have := (ho.cut z hz).1; omega
 have k4 := rcuts_v s.cuts o.cuts (by omega) (by omega) hsc hoc; have hml := mg_len s.cuts o.cuts
 have hmm : ∀ z ∈ mg s.cuts o.cuts, z.mag.length ≤ 1099511627776 := fun z hz => (mg_mem hz).elim (hsc z) (hoc z)
 obtain ⟨l, hl⟩ : ∃ l, l = mg s.cuts o.cuts := ⟨_, rfl⟩; rw [← hl] at k4 hml hmm ⊢; clear hl; have hF := jF_ok (jf m) s o q l
 have hF0 : jF (jf m) s o q l 0 = ([], [jrow (jf m) s.rows[0] o.rows[0] q]) := by simp [jF, rth_eq _ _ hs0, rth_eq _ _ ho0]
 have hFs := fun i (h : i < l.length) => jF_step (f := jf m) (s := s) (o := o) (q := q) h
 rw [← jF_all]; generalize jF (jf m) s o q l = F at hF hF0 hFs ⊢
 (repeat first | refine hku ?_ | refine sw_seqk fun _ _ => ?_ | refine sw_reg ?_ | ((first | refine aops_k fun _ _ => ?_ | with_reducible refine rw_own ?_); simp [go_sem]; try go_ints) | refine sw_block ?_ | refine sw_t ?_ | refine sw_f ?_ | refine sw_e ?_ | refine ai ?_ | simp only [aops, thn, inB, ↓reduceIte, Nat.reduceEqDiff])
 (refine ⟨.v _, k1, ?_⟩; simp [go_sem]; (repeat first | refine hku ?_ | refine sw_seqk fun _ _ => ?_ | refine sw_reg ?_ | ((first | refine aops_k fun _ _ => ?_ | with_reducible refine rw_own ?_); simp [go_sem, hq', hs0, ho0]; try go_ints) | refine sw_block ?_ | refine sw_t ?_ | refine sw_f ?_ | refine sw_e ?_ | refine ai ?_ | simp only [aops, thn, inB, ↓reduceIte, Nat.reduceEqDiff]))
 (refine ⟨.v _, k2, ?_⟩; simp [go_sem]; (repeat first | refine hku ?_ | refine sw_seqk fun _ _ => ?_ | refine sw_reg ?_ | ((first | refine aops_k fun _ _ => ?_ | with_reducible refine rw_own ?_); simp [go_sem]; try go_ints) | refine sw_block ?_ | refine sw_t ?_ | refine sw_f ?_ | refine sw_e ?_ | refine ai ?_ | simp only [aops, thn, inB, ↓reduceIte, Nat.reduceEqDiff]))
 refine ⟨.s _ _ _ _ _ _, k3, ?_⟩; simp [go_sem, jrow_len]
 (repeat first | refine hku ?_ | refine sw_seqk fun _ _ => ?_ | refine sw_reg ?_ | ((first | refine aops_k fun _ _ => ?_ | with_reducible refine rw_own ?_); simp [go_sem]; try go_ints) | refine sw_block ?_ | refine sw_t ?_ | refine sw_f ?_ | refine sw_e ?_ | refine ai ?_ | simp only [aops, thn, inB, ↓reduceIte, Nat.reduceEqDiff])
 (refine ⟨.v _, k4, ?_⟩; simp [go_sem]; (repeat first | refine hku ?_ | refine sw_seqk fun _ _ => ?_ | refine sw_reg ?_ | ((first | refine aops_k fun _ _ => ?_ | with_reducible refine rw_own ?_); simp [go_sem]; try go_ints) | refine sw_block ?_ | refine sw_t ?_ | refine sw_f ?_ | refine sw_e ?_ | refine ai ?_ | simp only [aops, thn, inB, ↓reduceIte, Nat.reduceEqDiff]))
 refine sw_weak (le_ownx 9 1 1009 2 25 rfl rfl rfl (by decide)) ?_
 refine sw_loopv 11 (fun i : Nat => [(11, .c (.i .i64 (i : Int)))]) (fun i => [(9, .x [.i .i64 (q : Int), .r 1009 (F i).1.length, .r 33 (F i).2.length]), (1009, .r false 2 25 ((F i).1.map dZ)), (33, .r false 1 75 (dR (F i).2))]) (fun i => i ≤ l.length) (fun i => l.length - i) 0 (Nat.zero_le _) ?_ fun i hi => ?_
 ·simp [go_sem, hF0]
 ·by_cases hlt : i < l.length
  ·obtain ⟨f1, f2, f3, f4⟩ := hF i hi; have hst := hFs i hlt; have hc := List.getElem_mem hlt; have c1 := rplace_v s N hs (by omega) l[i] (hmm _ hc); have c2 := rplace_v o N ho (by omega) l[i] (hmm _ hc); have hp := plc_len (zv s.cuts) (l[i]).v; have hp' := plc_len (zv o.cuts) (l[i]).v; rw [zv_len] at hp hp'; obtain ⟨u, hu⟩ : ∃ u, u = plc (zv s.cuts) (l[i]).v := ⟨_, rfl⟩; obtain ⟨v, hv⟩ : ∃ v, v = plc (zv o.cuts) (l[i]).v := ⟨_, rfl⟩
   have hJ : jAt (jf m) s o q l[i] = jrow (jf m) s.rows[u] o.rows[v] q := by
    unfold jAt; rw [← hu, ← hv, rth_eq _ _ (by omega), rth_eq _ _ (by omega)]
   rw [← hu] at c1 hp; rw [← hv] at c2 hp'
   have hur : u < s.rows.length := by omega
   have hvr : v < o.rows.length := by omega
   have c3 := rboth_v s.rows[u] o.rows[v] q m (lens u hur) (leno v hvr) (by omega); unfold jstep at hst; rw [hJ] at hst; have hJl : (jrow (jf m) s.rows[u] o.rows[v] q).length = q := jrow_len _ _ _ _; generalize jrow (jf m) s.rows[u] o.rows[v] q = J at hst c3 hJl; clear hJ hu hv; obtain ⟨C, hC⟩ : ∃ C, C = (F i).1 := ⟨_, rfl⟩; obtain ⟨R, hR⟩ : ∃ R, R = (F i).2 := ⟨_, rfl⟩; obtain ⟨n, hn⟩ : ∃ n, R.length = n + 1 := ⟨R.length - 1, by rw [hR]; omega⟩
   have hnl : n < R.length := by omega
   have c4 := rsame18_v J R[n] (by rw [hJl]; exact (f4 _ (by rw [← hR]; exact List.getElem_mem hnl)).symm) (by omega)
   have hst' : F (i + 1) = if J = R[n] then F i else (C ++ [l[i]], R ++ [J]) := by
    rw [hst, ← hC, ← hR, show R.length - 1 = n by omega, rth_eq _ _ hnl]
   have hRl : R[R.length - 1]? = some R[n] := by rw [show R.length - 1 = n by omega]; exact List.getElem?_eq_getElem hnl
   clear hst; rw [← hC] at f2; rw [← hR] at f1 f3 f4; simp only [← hC, ← hR]
   (repeat first | refine hku ?_ | refine sw_seqk fun _ _ => ?_ | refine sw_reg ?_ | ((first | refine aops_k fun _ _ => ?_ | with_reducible refine rw_own ?_); simp [go_sem, hlt]; try go_ints) | refine sw_block ?_ | refine sw_t ?_ | refine sw_f ?_ | refine sw_e ?_ | refine ai ?_ | simp only [aops, thn, inB, ↓reduceIte, Nat.reduceEqDiff])
   (refine ⟨.v _, c1, ?_⟩; simp [go_sem]; (repeat first | refine hku ?_ | refine sw_seqk fun _ _ => ?_ | refine sw_reg ?_ | ((first | refine aops_k fun _ _ => ?_ | with_reducible refine rw_own ?_); simp [go_sem, hlt, hur]; try go_ints) | refine sw_block ?_ | refine sw_t ?_ | refine sw_f ?_ | refine sw_e ?_ | refine ai ?_ | simp only [aops, thn, inB, ↓reduceIte, Nat.reduceEqDiff]))
   (refine ⟨.v _, c2, ?_⟩; simp [go_sem]; (repeat first | refine hku ?_ | refine sw_seqk fun _ _ => ?_ | refine sw_reg ?_ | ((first | refine aops_k fun _ _ => ?_ | with_reducible refine rw_own ?_); simp [go_sem, hlt, hvr]; try go_ints) | refine sw_block ?_ | refine sw_t ?_ | refine sw_f ?_ | refine sw_e ?_ | refine ai ?_ | simp only [aops, thn, inB, ↓reduceIte, Nat.reduceEqDiff]))
   (refine ⟨.v _, c3, ?_⟩; simp [go_sem]; (repeat first | refine hku ?_ | refine sw_seqk fun _ _ => ?_ | refine sw_reg ?_ | ((first | refine aops_k fun _ _ => ?_ | with_reducible refine rw_own ?_); simp [go_sem, hlt, hRl]; try go_ints) | refine sw_block ?_ | refine sw_t ?_ | refine sw_f ?_ | refine sw_e ?_ | refine ai ?_ | simp only [aops, thn, inB, ↓reduceIte, Nat.reduceEqDiff]))
   by_cases hJR : J = R[n]
   ·rw [if_pos hJR] at hst'
    (refine ⟨.v _, c4, ?_⟩; simp [go_sem]; (repeat first | refine hku ?_ | refine sw_seqk fun _ _ => ?_ | refine sw_reg ?_ | ((first | refine aops_k fun _ _ => ?_ | with_reducible refine rw_own ?_); simp [go_sem, hlt, hJR]; try go_ints) | refine sw_block ?_ | refine sw_t ?_ | refine sw_f ?_ | refine sw_e ?_ | refine ai ?_ | simp only [aops, thn, inB, ↓reduceIte, Nat.reduceEqDiff]))
    refine ⟨i + 1, by omega, by omega, ?_⟩; simp [go_sem, hst', ← hC, ← hR]
   ·rw [if_neg hJR] at hst'
    (refine ⟨.v _, c4, ?_⟩; simp [go_sem]; (repeat first | refine hku ?_ | refine sw_seqk fun _ _ => ?_ | refine sw_reg ?_ | ((first | refine aops_k fun _ _ => ?_ | with_reducible refine rw_own ?_); simp [go_sem, hlt, hJR]; try go_ints) | refine sw_block ?_ | refine sw_t ?_ | refine sw_f ?_ | refine sw_e ?_ | refine ai ?_ | simp only [aops, thn, inB, ↓reduceIte, Nat.reduceEqDiff]))
    refine ⟨i + 1, by omega, by omega, ?_⟩; simp [go_sem, hst']
  ·have : i = l.length := by omega
   (repeat first | refine hku ?_ | refine sw_seqk fun _ _ => ?_ | refine sw_reg ?_ | ((first | refine aops_k fun _ _ => ?_ | with_reducible refine rw_own ?_); simp [go_sem, hlt]; try go_ints) | refine sw_block ?_ | refine sw_t ?_ | refine sw_f ?_ | refine sw_e ?_ | refine ai ?_ | simp only [aops, thn, inB, ↓reduceIte, Nat.reduceEqDiff])
   simp [go_sem, this]

end Go.Proofs.YtpkfjbljhneenaaGreat
