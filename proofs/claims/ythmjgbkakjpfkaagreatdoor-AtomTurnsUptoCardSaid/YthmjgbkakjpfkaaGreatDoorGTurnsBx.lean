/- The program's atoms in the new words; riddleref06: Div, Not, Norm, Same, Valid; atom.Order, atom.Valid. No conditions. riddleref06: Negate, Put. No conditions. riddlelaw06.AtomTurns. No conditions. -/
import Derived.Test.YthmjgbkakjpfkaaGreatDoorGTurnsBw
import Derived.Test.YthmjgbkakjpfkaaGreatDoorGTurnsAz
import Derived.Test.YthmjgbkakjpfkaaGreatDoorGTurnsBg
import Derived.Test.YthmjgbkakjpfkaaGreatDoorGTurnsBe
import Derived.Test.YthmjgbkakjpfkaaGreatDoorGTurnsBi
import Derived.Test.YthmjgbkakjpfkaaGreatDoorGTurnsBa
namespace Go.Proofs.YthmjgbkakjpfkaaGreatDoor
open Go.RowKit

theorem rpartedR_v (d : Z) (t : T) (not : Bool) (N : Nat) (hl : d.mag.length ≤ N) (hs : t.sz N) (hN2 : 2 ≤ N) (hN : N ≤ 16777216) : Fn Tryz.prog 64 [.g (dZ d), .g (dT t), .c (.b not)] (.t [aA true (partedR d.v (vl t.ps) t.k.v not).1, .c (.i .i64 (partedR d.v (vl t.ps) t.k.v not).2)]) := by
  unfold partedR
  split
  · exact rparted0_v d t not (by omega) ‹_›
  · exact rparted_v d t not N hN2 hN hl hs ‹_›
theorem rnorm6_v (a : Ar) (N : Nat) (hs : a.sz N) (hN2 : 2 ≤ N) (hN : N ≤ 16777216) : Fn Tryz.prog 24 [.g (dA a)] (.t [aA true (normA a).1, .c (.i .i64 (normA a).2)]) := by
  refine Fn.intro' Tryz.func24 [.cell 2 29, .tmp 3] 31 fun hok => ?_
  obtain ⟨kd, d, t⟩ := a; obtain ⟨hs1, hs2⟩ := hs; obtain ⟨R, hR⟩ : ∃ R, R = normA ⟨kd, d, t⟩ := ⟨_, rfl⟩; rw [← hR]; unfold normA at hR; simp only at hR
  by_cases h0 : kd = 0
  · rw [if_pos (.inl h0)] at hR
    (repeat (first | (refine hk_use (by assumption) ?_) | (refine sw_seqk fun _ _ => ?_) | (refine sw_reg ?_) | (refine aops_k fun _ _ => ?_; simp [go_sem, h0]; try go_ints) | refine sw_block ?_ | refine sw_ct rfl ?_ | refine sw_cf rfl ?_ | refine sw_skip ?_ | refine sw_exit ?_ | refine sw_ret ?_ | refine And.intro (by first | omega | rfl) ?_ | simp only [aops, thn, inB, ↓reduceIte, Nat.reduceEqDiff]))
    simp [go_sem, hR, h0, constA, dN]; exact ⟨rfl, rfl, rfl, rfl, rfl⟩
  by_cases h1 : kd = 1
  · rw [if_pos (.inr h1)] at hR
    (repeat (first | (refine hk_use (by assumption) ?_) | (refine sw_seqk fun _ _ => ?_) | (refine sw_reg ?_) | (refine aops_k fun _ _ => ?_; simp [go_sem, h0, h1]; try go_ints) | refine sw_block ?_ | refine sw_ct rfl ?_ | refine sw_cf rfl ?_ | refine sw_skip ?_ | refine sw_exit ?_ | refine sw_ret ?_ | refine And.intro (by first | omega | rfl) ?_ | simp only [aops, thn, inB, ↓reduceIte, Nat.reduceEqDiff]))
    simp [go_sem, hR, h0, h1, constA, dN]; exact ⟨rfl, rfl, rfl, rfl, rfl⟩
  rw [if_neg (by omega)] at hR
  by_cases h2 : kd = 2
  · rw [if_pos h2] at hR; have k1 := rless_v t N hN2 (by omega) hs2; generalize lessA (vl t.ps) t.k.v = L at *
    (repeat (first | (refine hk_use (by assumption) ?_) | (refine sw_seqk fun _ _ => ?_) | (refine sw_reg ?_) | (refine aops_k fun _ _ => ?_; simp [go_sem, h0, h1, h2]; try go_ints) | refine sw_block ?_ | refine sw_ct rfl ?_ | refine sw_cf rfl ?_ | refine sw_skip ?_ | refine sw_exit ?_ | refine sw_ret ?_ | refine And.intro (by first | omega | rfl) ?_ | simp only [aops, thn, inB, ↓reduceIte, Nat.reduceEqDiff]))
    (refine ⟨.v _, k1, ?_⟩; simp [go_sem]; (repeat (first | (refine hk_use (by assumption) ?_) | (refine sw_seqk fun _ _ => ?_) | (refine sw_reg ?_) | (refine aops_k fun _ _ => ?_; simp [go_sem]; try go_ints) | refine sw_block ?_ | refine sw_ct rfl ?_ | refine sw_cf rfl ?_ | refine sw_skip ?_ | refine sw_exit ?_ | refine sw_ret ?_ | refine And.intro (by first | omega | rfl) ?_ | simp only [aops, thn, inB, ↓reduceIte, Nat.reduceEqDiff])))
    simp [go_sem, hR]
  rw [if_neg h2] at hR
  by_cases h3 : kd = 3 ∨ kd = 4
  · rw [if_pos h3] at hR; have k1 := rpartedR_v d t (decide (kd = 4)) N hs1 hs2 hN2 hN; have hR : R = partedR d.v (vl t.ps) t.k.v (decide (kd = 4)) := hR; rw [← hR] at k1
    rcases h3 with h3 | h3
    · subst h3
      (repeat (first | (refine hk_use (by assumption) ?_) | (refine sw_seqk fun _ _ => ?_) | (refine sw_reg ?_) | (refine aops_k fun _ _ => ?_; simp [go_sem]; try go_ints) | refine sw_block ?_ | refine sw_ct rfl ?_ | refine sw_cf rfl ?_ | refine sw_skip ?_ | refine sw_exit ?_ | refine sw_ret ?_ | refine And.intro (by first | omega | rfl) ?_ | simp only [aops, thn, inB, ↓reduceIte, Nat.reduceEqDiff]))
      (refine ⟨.v _, k1, ?_⟩; simp [go_sem]; (repeat (first | (refine hk_use (by assumption) ?_) | (refine sw_seqk fun _ _ => ?_) | (refine sw_reg ?_) | (refine aops_k fun _ _ => ?_; simp [go_sem]; try go_ints) | refine sw_block ?_ | refine sw_ct rfl ?_ | refine sw_cf rfl ?_ | refine sw_skip ?_ | refine sw_exit ?_ | refine sw_ret ?_ | refine And.intro (by first | omega | rfl) ?_ | simp only [aops, thn, inB, ↓reduceIte, Nat.reduceEqDiff])))
      simp [go_sem]
    · subst h3
      (repeat (first | (refine hk_use (by assumption) ?_) | (refine sw_seqk fun _ _ => ?_) | (refine sw_reg ?_) | (refine aops_k fun _ _ => ?_; simp [go_sem]; try go_ints) | refine sw_block ?_ | refine sw_ct rfl ?_ | refine sw_cf rfl ?_ | refine sw_skip ?_ | refine sw_exit ?_ | refine sw_ret ?_ | refine And.intro (by first | omega | rfl) ?_ | simp only [aops, thn, inB, ↓reduceIte, Nat.reduceEqDiff]))
      (refine ⟨.v _, k1, ?_⟩; simp [go_sem]; (repeat (first | (refine hk_use (by assumption) ?_) | (refine sw_seqk fun _ _ => ?_) | (refine sw_reg ?_) | (refine aops_k fun _ _ => ?_; simp [go_sem]; try go_ints) | refine sw_block ?_ | refine sw_ct rfl ?_ | refine sw_cf rfl ?_ | refine sw_skip ?_ | refine sw_exit ?_ | refine sw_ret ?_ | refine And.intro (by first | omega | rfl) ?_ | simp only [aops, thn, inB, ↓reduceIte, Nat.reduceEqDiff])))
      simp [go_sem]
  · rw [if_neg h3] at hR
    have h4 : kd ≠ 3 := fun e => h3 (.inl e)
    have h5 : kd ≠ 4 := fun e => h3 (.inr e)
    (repeat (first | (refine hk_use (by assumption) ?_) | (refine sw_seqk fun _ _ => ?_) | (refine sw_reg ?_) | (refine aops_k fun _ _ => ?_; simp [go_sem, h0, h1, h2, h4, h5]; try go_ints) | refine sw_block ?_ | refine sw_ct rfl ?_ | refine sw_cf rfl ?_ | refine sw_skip ?_ | refine sw_exit ?_ | refine sw_ret ?_ | refine And.intro (by first | omega | rfl) ?_ | simp only [aops, thn, inB, ↓reduceIte, Nat.reduceEqDiff]))
    simp [go_sem, hR, constA, dN]; exact ⟨rfl, rfl, rfl, rfl, rfl⟩
end Go.Proofs.YthmjgbkakjpfkaaGreatDoor

namespace Go.Proofs.YthmjgbkakjpfkaaGreatDoor
open Go.RowKit

theorem ct_nil : (cz 0).neg = false ∧ (cz 0).mag = [] ∧ (ct [] 0).ps = [] ∧ (ct [] 0).k.neg = false ∧ (ct [] 0).k.mag = [] := ⟨rfl, rfl, rfl, rfl, rfl⟩
set_option maxRecDepth 100000 in
set_option maxHeartbeats 6400000 in
theorem rnegate6_v (a : Ar) (N : Nat) (hs : a.sz N) (hN2 : 2 ≤ N) (hN : N ≤ 4194304) : Fn Tryz.prog 38 [.g (dA a)] (gA true (negR a)) := by
  refine Fn.intro' Tryz.func38 [.cell 2 29] 43 fun hok => ?_
  obtain ⟨b1, b2, b3⟩ := ok_a (hok (.g (dA a)) (by simp)); have hn : (normA a).1.sz (2 * N) := normA_sz hN2 hs b2 b3; have hF := normA_form a; obtain ⟨-, -, f3, f4, -⟩ := form_facts hF; have k1 := rnorm6_v a N hs hN2 (by omega); have k2 := rpartedR_v (normA a).1.d (normA a).1.t (decide ((normA a).1.kd = 3)) (2 * N) hn.1 hn.2 (by omega) (by omega); obtain ⟨one, o1, o2, o3⟩ := cz_facts 1
  have hz1 : zl 1 ≤ 1 := by decide
  have k3 := rof_v 1 ⟨by omega, by omega⟩; rw [← o1] at k3; have k4 := rconst5_v one (by omega); have hT1 : (ct [] one.v).sz (2 * N) := ⟨Nat.zero_le _, fun _ h => (List.not_mem_nil h).elim, by show (cz one.v).mag.length ≤ _; rw [cz_len, o2]; omega⟩; have k5 := rsub5_v (ct [] one.v) (normA a).1.t (2 * N) (by omega) hT1 hn.2
  have hO : ct (vl (ct [] one.v).ps ++ sc (-1) (vl (normA a).1.t.ps)) ((ct [] one.v).k.v - (normA a).1.t.k.v) = oppT (normA a).1.t := by rw [o1]; rfl
  rw [hO] at k5; have k6 := rless_v (oppT (normA a).1.t) (6 * N) (by omega) (by omega) ((oppT_sz (by omega) f3 hn.2).mono (by omega)); obtain ⟨R, hR⟩ : ∃ R, R = negR a := ⟨_, rfl⟩; rw [← hR]; unfold negR negF at hR; have hkd := normA_kd a; generalize oppT (normA a).1.t = O at *; generalize lessA (vl O.ps) O.k.v = L at *; generalize partedR (normA a).1.d.v (vl (normA a).1.t.ps) (normA a).1.t.k.v (decide ((normA a).1.kd = 3)) = Q at *; generalize ct [] one.v = T1 at *; clear hT1 hO hF f3 f4 hn; generalize normA a = M at *; obtain ⟨M, e⟩ := M; simp only at *
  by_cases he : e = 0
  · subst he; rw [if_neg (by simp)] at hR
    rcases hkd with hk | hk | hk | hk | hk
    · rw [if_pos hk] at hR
      (repeat (first | (refine hk_use (by assumption) ?_) | (refine sw_seqk fun _ _ => ?_) | (refine sw_reg ?_) | (refine aops_k fun _ _ => ?_; simp [go_sem]; try go_ints) | refine sw_block ?_ | refine sw_ct rfl ?_ | refine sw_cf rfl ?_ | refine sw_skip ?_ | refine sw_exit ?_ | refine sw_ret ?_ | refine And.intro (by first | omega | rfl) ?_ | simp only [aops, thn, inB, ↓reduceIte, Nat.reduceEqDiff]))
      (refine ⟨.v _, k1, ?_⟩; simp [go_sem]; (repeat (first | (refine hk_use (by assumption) ?_) | (refine sw_seqk fun _ _ => ?_) | (refine sw_reg ?_) | (refine aops_k fun _ _ => ?_; simp [go_sem, hk]; try go_ints) | refine sw_block ?_ | refine sw_ct rfl ?_ | refine sw_cf rfl ?_ | refine sw_skip ?_ | refine sw_exit ?_ | refine sw_ret ?_ | refine And.intro (by first | omega | rfl) ?_ | simp only [aops, thn, inB, ↓reduceIte, Nat.reduceEqDiff])))
      simp [go_sem, hR, ct_nil, dN, constA]
    · rw [if_neg (by omega), if_pos hk] at hR
      (repeat (first | (refine hk_use (by assumption) ?_) | (refine sw_seqk fun _ _ => ?_) | (refine sw_reg ?_) | (refine aops_k fun _ _ => ?_; simp [go_sem]; try go_ints) | refine sw_block ?_ | refine sw_ct rfl ?_ | refine sw_cf rfl ?_ | refine sw_skip ?_ | refine sw_exit ?_ | refine sw_ret ?_ | refine And.intro (by first | omega | rfl) ?_ | simp only [aops, thn, inB, ↓reduceIte, Nat.reduceEqDiff]))
      (refine ⟨.v _, k1, ?_⟩; simp [go_sem]; (repeat (first | (refine hk_use (by assumption) ?_) | (refine sw_seqk fun _ _ => ?_) | (refine sw_reg ?_) | (refine aops_k fun _ _ => ?_; simp [go_sem, hk]; try go_ints) | refine sw_block ?_ | refine sw_ct rfl ?_ | refine sw_cf rfl ?_ | refine sw_skip ?_ | refine sw_exit ?_ | refine sw_ret ?_ | refine And.intro (by first | omega | rfl) ?_ | simp only [aops, thn, inB, ↓reduceIte, Nat.reduceEqDiff])))
      simp [go_sem, hR, ct_nil, dN, constA]
    · rw [if_neg (by omega), if_neg (by omega), if_pos hk] at hR
      (repeat (first | (refine hk_use (by assumption) ?_) | (refine sw_seqk fun _ _ => ?_) | (refine sw_reg ?_) | (refine aops_k fun _ _ => ?_; simp [go_sem]; try go_ints) | refine sw_block ?_ | refine sw_ct rfl ?_ | refine sw_cf rfl ?_ | refine sw_skip ?_ | refine sw_exit ?_ | refine sw_ret ?_ | refine And.intro (by first | omega | rfl) ?_ | simp only [aops, thn, inB, ↓reduceIte, Nat.reduceEqDiff]))
      (refine ⟨.v _, k1, ?_⟩; simp [go_sem]; (repeat (first | (refine hk_use (by assumption) ?_) | (refine sw_seqk fun _ _ => ?_) | (refine sw_reg ?_) | (refine aops_k fun _ _ => ?_; simp [go_sem, hk]; try go_ints) | refine sw_block ?_ | refine sw_ct rfl ?_ | refine sw_cf rfl ?_ | refine sw_skip ?_ | refine sw_exit ?_ | refine sw_ret ?_ | refine And.intro (by first | omega | rfl) ?_ | simp only [aops, thn, inB, ↓reduceIte, Nat.reduceEqDiff])))
      (refine ⟨.v _, k3, ?_⟩; simp [go_sem]; (repeat (first | (refine hk_use (by assumption) ?_) | (refine sw_seqk fun _ _ => ?_) | (refine sw_reg ?_) | (refine aops_k fun _ _ => ?_; simp [go_sem]; try go_ints) | refine sw_block ?_ | refine sw_ct rfl ?_ | refine sw_cf rfl ?_ | refine sw_skip ?_ | refine sw_exit ?_ | refine sw_ret ?_ | refine And.intro (by first | omega | rfl) ?_ | simp only [aops, thn, inB, ↓reduceIte, Nat.reduceEqDiff])))
      (refine ⟨.v _, k4, ?_⟩; simp [go_sem]; (repeat (first | (refine hk_use (by assumption) ?_) | (refine sw_seqk fun _ _ => ?_) | (refine sw_reg ?_) | (refine aops_k fun _ _ => ?_; simp [go_sem]; try go_ints) | refine sw_block ?_ | refine sw_ct rfl ?_ | refine sw_cf rfl ?_ | refine sw_skip ?_ | refine sw_exit ?_ | refine sw_ret ?_ | refine And.intro (by first | omega | rfl) ?_ | simp only [aops, thn, inB, ↓reduceIte, Nat.reduceEqDiff])))
      (refine ⟨.v _, k5, ?_⟩; simp [go_sem]; (repeat (first | (refine hk_use (by assumption) ?_) | (refine sw_seqk fun _ _ => ?_) | (refine sw_reg ?_) | (refine aops_k fun _ _ => ?_; simp [go_sem]; try go_ints) | refine sw_block ?_ | refine sw_ct rfl ?_ | refine sw_cf rfl ?_ | refine sw_skip ?_ | refine sw_exit ?_ | refine sw_ret ?_ | refine And.intro (by first | omega | rfl) ?_ | simp only [aops, thn, inB, ↓reduceIte, Nat.reduceEqDiff])))
      (refine ⟨.v _, k6, ?_⟩; simp [go_sem]; (repeat (first | (refine hk_use (by assumption) ?_) | (refine sw_seqk fun _ _ => ?_) | (refine sw_reg ?_) | (refine aops_k fun _ _ => ?_; simp [go_sem]; try go_ints) | refine sw_block ?_ | refine sw_ct rfl ?_ | refine sw_cf rfl ?_ | refine sw_skip ?_ | refine sw_exit ?_ | refine sw_ret ?_ | refine And.intro (by first | omega | rfl) ?_ | simp only [aops, thn, inB, ↓reduceIte, Nat.reduceEqDiff])))
      simp [go_sem, hR]
    · rw [if_neg (by omega), if_neg (by omega), if_neg (by omega)] at hR; rw [hk] at k2
      (repeat (first | (refine hk_use (by assumption) ?_) | (refine sw_seqk fun _ _ => ?_) | (refine sw_reg ?_) | (refine aops_k fun _ _ => ?_; simp [go_sem]; try go_ints) | refine sw_block ?_ | refine sw_ct rfl ?_ | refine sw_cf rfl ?_ | refine sw_skip ?_ | refine sw_exit ?_ | refine sw_ret ?_ | refine And.intro (by first | omega | rfl) ?_ | simp only [aops, thn, inB, ↓reduceIte, Nat.reduceEqDiff]))
      (refine ⟨.v _, k1, ?_⟩; simp [go_sem]; (repeat (first | (refine hk_use (by assumption) ?_) | (refine sw_seqk fun _ _ => ?_) | (refine sw_reg ?_) | (refine aops_k fun _ _ => ?_; simp [go_sem, hk]; try go_ints) | refine sw_block ?_ | refine sw_ct rfl ?_ | refine sw_cf rfl ?_ | refine sw_skip ?_ | refine sw_exit ?_ | refine sw_ret ?_ | refine And.intro (by first | omega | rfl) ?_ | simp only [aops, thn, inB, ↓reduceIte, Nat.reduceEqDiff])))
      (refine ⟨.v _, k2, ?_⟩; simp [go_sem]; (repeat (first | (refine hk_use (by assumption) ?_) | (refine sw_seqk fun _ _ => ?_) | (refine sw_reg ?_) | (refine aops_k fun _ _ => ?_; simp [go_sem]; try go_ints) | refine sw_block ?_ | refine sw_ct rfl ?_ | refine sw_cf rfl ?_ | refine sw_skip ?_ | refine sw_exit ?_ | refine sw_ret ?_ | refine And.intro (by first | omega | rfl) ?_ | simp only [aops, thn, inB, ↓reduceIte, Nat.reduceEqDiff])))
      simp [go_sem, hR]
    · rw [if_neg (by omega), if_neg (by omega), if_neg (by omega)] at hR; rw [hk] at k2
      (repeat (first | (refine hk_use (by assumption) ?_) | (refine sw_seqk fun _ _ => ?_) | (refine sw_reg ?_) | (refine aops_k fun _ _ => ?_; simp [go_sem]; try go_ints) | refine sw_block ?_ | refine sw_ct rfl ?_ | refine sw_cf rfl ?_ | refine sw_skip ?_ | refine sw_exit ?_ | refine sw_ret ?_ | refine And.intro (by first | omega | rfl) ?_ | simp only [aops, thn, inB, ↓reduceIte, Nat.reduceEqDiff]))
      (refine ⟨.v _, k1, ?_⟩; simp [go_sem]; (repeat (first | (refine hk_use (by assumption) ?_) | (refine sw_seqk fun _ _ => ?_) | (refine sw_reg ?_) | (refine aops_k fun _ _ => ?_; simp [go_sem, hk]; try go_ints) | refine sw_block ?_ | refine sw_ct rfl ?_ | refine sw_cf rfl ?_ | refine sw_skip ?_ | refine sw_exit ?_ | refine sw_ret ?_ | refine And.intro (by first | omega | rfl) ?_ | simp only [aops, thn, inB, ↓reduceIte, Nat.reduceEqDiff])))
      (refine ⟨.v _, k2, ?_⟩; simp [go_sem]; (repeat (first | (refine hk_use (by assumption) ?_) | (refine sw_seqk fun _ _ => ?_) | (refine sw_reg ?_) | (refine aops_k fun _ _ => ?_; simp [go_sem]; try go_ints) | refine sw_block ?_ | refine sw_ct rfl ?_ | refine sw_cf rfl ?_ | refine sw_skip ?_ | refine sw_exit ?_ | refine sw_ret ?_ | refine And.intro (by first | omega | rfl) ?_ | simp only [aops, thn, inB, ↓reduceIte, Nat.reduceEqDiff])))
      simp [go_sem, hR]
  · rw [if_pos he] at hR
    (repeat (first | (refine hk_use (by assumption) ?_) | (refine sw_seqk fun _ _ => ?_) | (refine sw_reg ?_) | (refine aops_k fun _ _ => ?_; simp [go_sem]; try go_ints) | refine sw_block ?_ | refine sw_ct rfl ?_ | refine sw_cf rfl ?_ | refine sw_skip ?_ | refine sw_exit ?_ | refine sw_ret ?_ | refine And.intro (by first | omega | rfl) ?_ | simp only [aops, thn, inB, ↓reduceIte, Nat.reduceEqDiff]))
    (refine ⟨.v _, k1, ?_⟩; simp [go_sem]; (repeat (first | (refine hk_use (by assumption) ?_) | (refine sw_seqk fun _ _ => ?_) | (refine sw_reg ?_) | (refine aops_k fun _ _ => ?_; simp [go_sem, he]; try go_ints) | refine sw_block ?_ | refine sw_ct rfl ?_ | refine sw_cf rfl ?_ | refine sw_skip ?_ | refine sw_exit ?_ | refine sw_ret ?_ | refine And.intro (by first | omega | rfl) ?_ | simp only [aops, thn, inB, ↓reduceIte, Nat.reduceEqDiff])))
    simp [go_sem, hR, ct_nil, dN, constA]
set_option maxRecDepth 100000 in
set_option maxHeartbeats 6400000 in
theorem rput6_v (a : Ar) (x : Int) (u : T) (N : Nat) (hs : a.sz N) (su : u.sz N) (hN2 : 2 ≤ N) (hN : N ≤ 2097152) : Fn Tryz.prog 39 [.g (dA a), .c (.i .i64 x), .g (dT u)] (gA true (putR a x u)) := by
  refine Fn.intro' Tryz.func39 [.cell 6 29] 31 fun hok => ?_
  obtain ⟨b1, b2, b3⟩ := ok_a (hok (.g (dA a)) (by simp)); have hub : u.lb := ok_t (hok (.g (dT u)) (by simp)); have hn : (normA a).1.sz (2 * N) := normA_sz hN2 hs b2 b3; obtain ⟨-, -, f3, f4, -⟩ := form_facts (normA_form a); have hpz : ((normA a).1.t.put x u).sz (8 * N) := put_szA (by omega) f3 hub hn.2 su; have k1 := rnorm6_v a N hs hN2 (by omega); have k2 := rput5_v (normA a).1.t u x (2 * N) (by omega) hn.2 (su.mono (by omega)); have k3 := rnorm6_v ⟨(normA a).1.kd, (normA a).1.d, (normA a).1.t.put x u⟩ (8 * N) ⟨Nat.le_trans hn.1 (by omega), hpz⟩ (by omega) (by omega); obtain ⟨R, hR⟩ : ∃ R, R = putR a x u := ⟨_, rfl⟩; rw [← hR]; unfold putR at hR; generalize (normA a).1.t.put x u = P at *; clear hpz hn f3 f4; generalize normA a = M at *; obtain ⟨M, e⟩ := M; simp only at *; generalize normA ⟨M.kd, M.d, P⟩ = Q at *
  by_cases he : e = 0
  · subst he; rw [if_neg (by simp)] at hR
    (repeat (first | (refine hk_use (by assumption) ?_) | (refine sw_seqk fun _ _ => ?_) | (refine sw_reg ?_) | (refine aops_k fun _ _ => ?_; simp [go_sem]; try go_ints) | refine sw_block ?_ | refine sw_ct rfl ?_ | refine sw_cf rfl ?_ | refine sw_skip ?_ | refine sw_exit ?_ | refine sw_ret ?_ | refine And.intro (by first | omega | rfl) ?_ | simp only [aops, thn, inB, ↓reduceIte, Nat.reduceEqDiff]))
    (refine ⟨.v _, k1, ?_⟩; simp [go_sem]; (repeat (first | (refine hk_use (by assumption) ?_) | (refine sw_seqk fun _ _ => ?_) | (refine sw_reg ?_) | (refine aops_k fun _ _ => ?_; simp [go_sem]; try go_ints) | refine sw_block ?_ | refine sw_ct rfl ?_ | refine sw_cf rfl ?_ | refine sw_skip ?_ | refine sw_exit ?_ | refine sw_ret ?_ | refine And.intro (by first | omega | rfl) ?_ | simp only [aops, thn, inB, ↓reduceIte, Nat.reduceEqDiff])))
    (refine ⟨.v _, k2, ?_⟩; simp [go_sem]; (repeat (first | (refine hk_use (by assumption) ?_) | (refine sw_seqk fun _ _ => ?_) | (refine sw_reg ?_) | (refine aops_k fun _ _ => ?_; simp [go_sem]; try go_ints) | refine sw_block ?_ | refine sw_ct rfl ?_ | refine sw_cf rfl ?_ | refine sw_skip ?_ | refine sw_exit ?_ | refine sw_ret ?_ | refine And.intro (by first | omega | rfl) ?_ | simp only [aops, thn, inB, ↓reduceIte, Nat.reduceEqDiff])))
    (refine ⟨.v _, k3, ?_⟩; simp [go_sem]; (repeat (first | (refine hk_use (by assumption) ?_) | (refine sw_seqk fun _ _ => ?_) | (refine sw_reg ?_) | (refine aops_k fun _ _ => ?_; simp [go_sem]; try go_ints) | refine sw_block ?_ | refine sw_ct rfl ?_ | refine sw_cf rfl ?_ | refine sw_skip ?_ | refine sw_exit ?_ | refine sw_ret ?_ | refine And.intro (by first | omega | rfl) ?_ | simp only [aops, thn, inB, ↓reduceIte, Nat.reduceEqDiff])))
    simp [go_sem, hR]
  · rw [if_pos he] at hR
    (repeat (first | (refine hk_use (by assumption) ?_) | (refine sw_seqk fun _ _ => ?_) | (refine sw_reg ?_) | (refine aops_k fun _ _ => ?_; simp [go_sem]; try go_ints) | refine sw_block ?_ | refine sw_ct rfl ?_ | refine sw_cf rfl ?_ | refine sw_skip ?_ | refine sw_exit ?_ | refine sw_ret ?_ | refine And.intro (by first | omega | rfl) ?_ | simp only [aops, thn, inB, ↓reduceIte, Nat.reduceEqDiff]))
    (refine ⟨.v _, k1, ?_⟩; simp [go_sem]; (repeat (first | (refine hk_use (by assumption) ?_) | (refine sw_seqk fun _ _ => ?_) | (refine sw_reg ?_) | (refine aops_k fun _ _ => ?_; simp [go_sem, he]; try go_ints) | refine sw_block ?_ | refine sw_ct rfl ?_ | refine sw_cf rfl ?_ | refine sw_skip ?_ | refine sw_exit ?_ | refine sw_ret ?_ | refine And.intro (by first | omega | rfl) ?_ | simp only [aops, thn, inB, ↓reduceIte, Nat.reduceEqDiff])))
    simp [go_sem, hR, ct_nil, dN, constA]

end Go.Proofs.YthmjgbkakjpfkaaGreatDoor

namespace Go.Proofs.YthmjgbkakjpfkaaGreatDoor
open Go.RowKit

theorem ed_of {c : Cx} {m : Mem} {w : World} {f : Bool} : ∀ {ds : List D} {vs : List Value}, F2 (RelC c m w) vs (ds.map (toC f)) → ED w (c.Y f) vs ds
  | [], _, .nil => .nil
  | d :: r, _, .cons (a := v) h1 h2 => .cons (by
      cases d with
      | i k n => obtain ⟨rfl, q1, q2⟩ := (h1 : _ ∧ _ ∧ _); exact .i q1 q2
      | b x => obtain rfl := (h1 : v = .bool x); exact .b
      | s x => obtain ⟨rfl, q1⟩ := (h1 : _ ∧ _); exact .s q1
      | l xs => exact h1) (ed_of h2)
theorem av_of {c : Cx} {w : World} {r : Value} {a : Ar} (h : RelR c [] w r (gA true a)) : Av w (c.Y true) r a :=
  relD_a.1 (let ⟨vs, e, h⟩ := h; ⟨vs, e, ed_of (ds := dA a) h⟩)
theorem fn_av {f : FuncId} {v : Value} {a b : Ar} {w : World} {X : Nat → Prop} (hF : Fn Tryz.prog f [.g (dA a)] (gA true b)) (hl : Lay w) (h : Av w X v a) :
    Calls Tryz.prog f #[v] w fun e w' => ∃ r, e = .returned r ∧ Av w' (fun b => w.heap.size ≤ b ∧ b < w'.heap.size) r b ∧ Ext w w' :=
  (hF w (· < w.heap.size) #[v] hl (fun _ h => h) (.cons (relD_a.2 (h.widen fun b _ hb => hb)) .nil)).mono fun e w' ⟨r, he, hx, hr⟩ => ⟨r, he, (av_of hr).widen fun b hb hl => ⟨hb.2 rfl, hl⟩, hx⟩
theorem fn_ave {f : FuncId} {v : Value} {a b : Ar} {n : Int} {w : World} {X : Nat → Prop} (hF : Fn Tryz.prog f [.g (dA a)] (.t [aA true b, .c (.i .i64 n)])) (hl : Lay w) (h : Av w X v a) :
    Calls Tryz.prog f #[v] w fun e w' => ∃ r, e = .returned (.tuple #[r, .int .i64 n]) ∧ Av w' (fun b => w.heap.size ≤ b ∧ b < w'.heap.size) r b ∧ Ext w w' :=
  (hF w (· < w.heap.size) #[v] hl (fun _ h => h) (.cons (relD_a.2 (h.widen fun b _ hb => hb)) .nil)).mono fun e w' ⟨r, he, hx, hr⟩ => by
    obtain ⟨vs, rfl, h1⟩ := hr; obtain ⟨l, rfl⟩ : ∃ l : List Value, vs = l.toArray := ⟨vs.toList, by simp⟩; rw [List.toList_toArray] at h1
    cases h1 with
    | cons h1 h2 =>
      cases h2 with
      | cons h2 h3 =>
        cases h3
        obtain ⟨rfl, -, -⟩ := (h2 : _ ∧ _ ∧ _); exact ⟨_, he, (av_of (r := _) h1).widen fun b hb hl => ⟨hb.2 rfl, hl⟩, hx⟩
theorem fn_avp {f : FuncId} {v uv : Value} {a b : Ar} {u : T} {x : Int} {w : World} {X Y : Nat → Prop} (hF : Fn Tryz.prog f [.g (dA a), .c (.i .i64 x), .g (dT u)] (gA true b)) (hl : Lay w) (h : Av w X v a) (hx : i64 x) (h' : Tv w Y uv u) :
    Calls Tryz.prog f #[v, .int .i64 x, uv] w fun e w' => ∃ r, e = .returned r ∧ Av w' (fun b => w.heap.size ≤ b ∧ b < w'.heap.size) r b ∧ Ext w w' :=
  (hF w (· < w.heap.size) #[v, .int .i64 x, uv] hl (fun _ h => h) (.cons (relD_a.2 (h.widen fun b _ hb => hb)) (.cons (Rp.i (by simp only [z_min]; exact hx.1) (by simp only [z_min]; exact hx.2)) (.cons (relD_t.2 (h'.widen fun b _ hb => hb)) .nil)))).mono fun e w' ⟨r, he, hx, hr⟩ => ⟨r, he, (av_of hr).widen fun b hb hl => ⟨hb.2 rfl, hl⟩, hx⟩
theorem negR_form (a : Ar) : Form (negR a) := by
  unfold negR
  split
  · exact .inl ⟨_, rfl⟩
  · exact (neg_law (normA_form a)).1
theorem putR_form (a : Ar) (x : Int) (u : T) : Form (putR a x u) := by
  unfold putR
  split
  · exact .inl ⟨_, rfl⟩
  · exact normA_form _
theorem constA_sz (b : Bool) (N : Nat) : (constA b).sz N := by
  cases b <;> exact ⟨Nat.zero_le _, Nat.zero_le _, fun _ h => (List.not_mem_nil h).elim, Nat.zero_le _⟩
theorem negR_sz {a : Ar} {N : Nat} (hs : a.sz N) (hN2 : 2 ≤ N) (b2 : Lb a.d.mag) (b3 : a.t.lb) : (negR a).sz (3 * N) := by
  unfold negR
  split
  · exact constA_sz _ _
  · have h := negF_sz (N := 2 * N) (by omega) (normA_form a) (normA_sz hN2 hs b2 b3); exact ⟨Nat.le_trans h.1 (by omega), h.2.mono (by omega)⟩
theorem putR_sz {a : Ar} {x : Int} {u : T} {N : Nat} (hs : a.sz N) (su : u.sz N) (hN2 : 2 ≤ N) (b2 : Lb a.d.mag) (b3 : a.t.lb) (bu : u.lb) : (putR a x u).sz (16 * N) := by
  unfold putR
  split
  · exact constA_sz _ _
  · have hn := normA_sz hN2 hs b2 b3; obtain ⟨-, -, f3, f4, -⟩ := form_facts (normA_form a); have h := normA_sz (a := ⟨(normA a).1.kd, (normA a).1.d, (normA a).1.t.put x u⟩) (N := 8 * N) (by omega) ⟨Nat.le_trans hn.1 (by omega), put_szA (by omega) f3 bu hn.2 su⟩ f4 (ct_lb _ _); exact ⟨Nat.le_trans h.1 (by omega), h.2.mono (by omega)⟩
theorem over_kp {w w' : World} {B E : Nat} (h1 : Below B w w') (h2 : Kp (E ≤ ·) w w') : Kp (fun b => b < B ∨ E ≤ b) w w' := fun b hb hl => hb.elim (fun h => h1.block b h) fun h => h2 b h hl
theorem over_ext {w0 w w' : World} {B : Nat} (h0 : Ext w0 w) (h1 : Below B w w') (hB : w0.heap.size ≤ B) : Ext w0 w' :=
  ⟨h1.os.trans h0.os, h1.tape.trans h0.tape, h1.output.trans h0.output, Nat.le_trans h0.size h1.size, fun b hb => (h1.block b (Nat.lt_of_lt_of_le hb hB)).trans (h0.block b hb)⟩

set_option maxRecDepth 100000 in
set_option maxHeartbeats 12800000 in
theorem lawturns_c {v0 uv : Value} {a : Ar} {x : Int} {u : T} {w : World} {X0 X2 : Nat → Prop} {N : Nat} (h0 : Av w X0 v0 a) (h1 : i64 x) (h2 : Tv w X2 uv u)
    (s0 : a.sz N) (s2 : u.sz N) (hN2 : 2 ≤ N) (hN : N ≤ 1048576) (htab : Tab w) :
    Calls Tryz.prog 8 #[v0, .int .i64 x, uv] w fun e w' => e = .returned (.bool true) ∧ Ext w w' := by
  have lay := fun (U : World) (hU : Ext w U) => (show Lay U from fun _ => htab.ext hU)
  have haw := fun (U : World) (hU : Ext w U) => awake6_c U (htab.ext hU)
  have hne := fun (U : World) (hU : Ext w U) => anegate_c (h0.ext hU) s0 hN2 (by omega)
  have hpu := fun (U : World) (hU : Ext w U) => aput_c (x := x) (h0.ext hU) (h2.ext hU) s0 s2 hN2 (by omega)
  have hno := fun (U : World) (hU : Ext w U) => anorm_c (h0.ext hU) s0 hN2 (by omega)
  have hrn := fun (U : World) (hU : Ext w U) => fn_av (rnegate6_v a N s0 hN2 (by omega)) (lay U hU) (h0.ext hU)
  have hrp := fun (U : World) (hU : Ext w U) => fn_avp (rput6_v a x u N s0 s2 hN2 (by omega)) (lay U hU) (h0.ext hU) h1 (h2.ext hU)
  have hrm := fun (U : World) (hU : Ext w U) => fn_ave (rnorm6_v a N s0 hN2 (by omega)) (lay U hU) (h0.ext hU)
  have hlbs : Lb a.d.mag ∧ a.t.lb := by
    obtain ⟨D, c, A, e, C, f, -, -, g1, g2, g3⟩ := h0; exact ⟨g1.lb, Tv.lb (⟨A, e, C, f, rfl, g2, g3⟩ : Tv w X0 _ a.t)⟩
  have hsn := negR_sz s0 hN2 hlbs.1 hlbs.2; have hsp := putR_sz (x := x) s0 s2 hN2 hlbs.1 hlbs.2 h2.lb; have hsm := normA_sz hN2 s0 hlbs.1 hlbs.2
  have hsa1 := fun (U : World) (Q Q' : Nat → Prop) (r r' : Value) (hr : Av U Q r (negR a)) (hr' : Av U Q' r' (negR a)) => same6_c hr hr' (negR_form a) (N := 3 * N) hsn (by omega)
  have hsa2 := fun (U : World) (Q Q' : Nat → Prop) (r r' : Value) (hr : Av U Q r (putR a x u)) (hr' : Av U Q' r' (putR a x u)) => same6_c hr hr' (putR_form a x u) (N := 16 * N) hsp (by omega)
  have hsa3 := fun (U : World) (Q Q' : Nat → Prop) (r r' : Value) (hr : Av U Q r (normA a).1) (hr' : Av U Q' r' (normA a).1) => same6_c hr hr' (normA_form a) (N := 2 * N) hsm (by omega)
  obtain ⟨n, hn⟩ : ∃ n, n = negR a := ⟨_, rfl⟩; obtain ⟨p, hp⟩ : ∃ n, n = putR a x u := ⟨_, rfl⟩; obtain ⟨m, hm⟩ : ∃ n, n = (normA a).1 := ⟨_, rfl⟩; obtain ⟨e0, he⟩ : ∃ n, n = (normA a).2 := ⟨_, rfl⟩; simp only [← hn] at hne hrn hsa1; simp only [← hp] at hpu hrp hsa2; simp only [← hm, ← he] at hno hrm hsa3; obtain ⟨Da, ca, Aa, ea, Ca, fa, rfl, hka, ha1, ha2, ha3⟩ := h0; obtain ⟨Au, eu, Cu, fu, rfl, hu1, hu2⟩ := h2
  have HAW := Lib.hid haw; have HNE := Lib.hid hne; have HPU := Lib.hid hpu; have HNO := Lib.hid hno; have HRN := Lib.hid hrn; have HRP := Lib.hid hrp; have HRM := Lib.hid hrm
  have HS1 := Lib.hid hsa1; have HS2 := Lib.hid hsa2; have HS3 := Lib.hid hsa3
  clear haw hne hpu hno hrn hrp hrm hsa1 hsa2 hsa3 hn hp hm he hsn hsp hsm hlbs lay
  go_enter Tryz.func8, Tryz.ntmps8
  go_wp2_with fail
  refine (HAW.out _ xt).mono ?_; rintro e W ⟨rfl, hx⟩
  (have b3 := Box.ext (g := w.heap.size) bxt hx; have b3r := b3.rules; have b3l := b3.lt)
  (have b5 := Box.ext (g := w.heap.size + 1) bxt hx; have b5r := b5.rules; have b5l := b5.lt)
  have hE : Ext w W := xt; clear hx
  go_wp2_with fail
  refine (HNE.out _ hE).mono ?_; rintro e1 w1 ⟨_, rfl, hA, hx1⟩; have hB := hA.bound; have hA' := hB; obtain ⟨D1, c1, A1, g1, C1, k1, rfl, -⟩ := hA'
  go_upto_region 3 with fail
  refine wp_named fun V hV => ?_
  obtain ⟨g8, hg8⟩ : ∃ g, g = w1.heap.size := ⟨_, rfl⟩
  have b8 : Box V g8 29 #[.int .i64 n.kd, .bool n.d.neg, .slice D1 n.d.mag.length c1, .slice A1 n.t.ps.length g1, .bool n.t.k.neg, .slice C1 n.t.k.mag.length k1] := by rw [hV, hg8]; exact Box.new _ _ _
  have hxV : Ext w1 V := by rw [hV]; exact (Ext.refl w1).alloc _
  have hnV := hB.ext hxV; have c3 := (b3.ext hx1).ext hxV; have c5 := (b5.ext hx1).ext hxV; have hEV := (hE.trans hx1).trans hxV; obtain ⟨B1, hB1⟩ : ∃ g, g = W.heap.size := ⟨_, rfl⟩
  have z1 : w.heap.size + 1 < B1 := by rw [hB1]; exact b5l
  have z2 : B1 ≤ g8 := by rw [hB1, hg8]; exact hx1.size
  rw [← hg8] at hnV ⊢; rw [← hB1] at hnV; clear hV hA hB hxV hx1 b3 b3r b3l b5 b5r b5l hE hB1 hg8; have z3 := b8.lt
  have c3r := c3.rules; have c3l := c3.lt; have c5r := c5.rules; have c5l := c5.lt
  go_wp2_with fail
  refine (HPU.out _ hEV).mono ?_; rintro e2 w2 ⟨_, rfl, hA, hx2⟩; have hB := hA.bound; have hA' := hB; obtain ⟨D2, c2, A2, g2, C2, k2, rfl, -⟩ := hA'
  go_upto_region 4 with fail
  refine wp_named fun U hU => ?_
  obtain ⟨g9, hg9⟩ : ∃ g, g = w2.heap.size := ⟨_, rfl⟩
  have b9 : Box U g9 29 #[.int .i64 p.kd, .bool p.d.neg, .slice D2 p.d.mag.length c2, .slice A2 p.t.ps.length g2, .bool p.t.k.neg, .slice C2 p.t.k.mag.length k2] := by rw [hU, hg9]; exact Box.new _ _ _
  have hxU : Ext w2 U := by rw [hU]; exact (Ext.refl w2).alloc _
  have hyU := hx2.trans hxU; have hpU := hB.ext hxU; have hnU := hnV.ext hyU
  have d3 := c3.ext hyU; have d5 := c5.ext hyU; have d8 := b8.ext hyU
  have hEU := hEV.trans hyU; obtain ⟨B2, hB2⟩ : ∃ g, g = V.heap.size := ⟨_, rfl⟩
  have z4 : g8 < B2 := by rw [hB2]; exact z3
  have z5 : B2 ≤ g9 := by rw [hB2, hg9]; exact hx2.size
  rw [← hg9] at hpU ⊢; rw [← hB2] at hpU; clear hU hA hB hxU hx2 hyU c3 c3r c3l c5 c5r c5l hEV hnV b8 hB2 hg9 z3; have z6 := b9.lt
  have d3r := d3.rules; have d3l := d3.lt; have d8r := d8.rules; have d8l := d8.lt
  go_wp2_with fail
  refine wp_region_seq 4 [(0, true), (1, true), (2, false), (3, false), (4, false)] rfl (by kernel_rfl) (by intro _ _ d _ _ h; cases d <;> exact h) ?_
  (repeat (refine sq_take (v := ?_) rfl rfl ?_ ?_; rotate_left; (intro w' hx'; have hc' := hx'.cells.1; (try simp only [wcd] at hc'); go_simp; (first | done | with_reducible rfl)); (try simp only [pt])))
  (refine sq_loud rfl rfl fun K hK => ?_; go_simp)
  refine (HRN.out _ hEU.drew).mono ?_; rintro e3 w3 ⟨_, rfl, hC, hx3⟩; have hnC := (hnU.avf.av.ext (Ext.refl U).drew).ext hx3; have hC' := hC; obtain ⟨D3, c3', A3, g3, C3, k3, rfl, -⟩ := hC'
  (refine hK _ _ xt ?_; clear hK K; (try simp only [pt]))
  (refine sq_loud rfl rfl fun K hK => ?_; go_simp)
  refine (HS1.out _ _ _ _ _ hnC hC).mono ?_; rintro e4 w4 ⟨rfl, hx4⟩
  (refine hK _ _ xt ?_; clear hK K; (try simp only [pt]))
  (refine sq_last rfl rfl fun K hK => ?_; go_simp; refine hK _ _ ?_; clear hK K)
  have hy4 : Ext U w4 := ((Ext.refl U).drew.trans hx3).trans hx4
  have f3 := d3.ext hy4; have f5 := d5.ext hy4; have f8 := d8.ext hy4; have f9 := b9.ext hy4
  have hn4 := hnU.ext hy4; have hp4 := hpU.ext hy4
  have hE4 := hEU.trans hy4; clear hx3 hx4 hC hnC d3 d3r d3l d5 d8 d8r d8l b9 hnU hpU hEU; have z7 : g9 < w4.heap.size := f9.lt
  have f3r := f3.rules; have f3l := f3.lt; have f5r := f5.rules; have f5l := f5.lt; have f9r := f9.rules; have f9l := f9.lt
  go_wp2_with fail
  refine wp_region_seq 6 [(0, true), (1, true), (2, true), (3, true), (4, false), (5, false), (6, false)] rfl (by kernel_rfl) (by intro _ _ d _ _ h; cases d <;> exact h) ?_
  (repeat (refine sq_take (v := ?_) rfl rfl ?_ ?_; rotate_left; (intro w' hx'; have hc' := hx'.cells.1; (try simp only [wcd] at hc'); go_simp; (first | done | with_reducible rfl)); (try simp only [pt])))
  (refine sq_loud rfl rfl fun K hK => ?_; go_simp)
  refine (HRP.out _ hE4.drew).mono ?_; rintro e5 w5 ⟨_, rfl, hC, hx5⟩; have hpC := (hp4.avf.av.ext (Ext.refl w4).drew).ext hx5; have hC' := hC; obtain ⟨D4, c4', A4, g4, C4, k4, rfl, -⟩ := hC'
  (refine hK _ _ xt ?_; clear hK K; (try simp only [pt]))
  (refine sq_loud rfl rfl fun K hK => ?_; go_simp)
  refine (HS2.out _ _ _ _ _ hpC hC).mono ?_; rintro e6 w6 ⟨rfl, hx6⟩
  (refine hK _ _ xt ?_; clear hK K; (try simp only [pt]))
  (refine sq_last rfl rfl fun K hK => ?_; go_simp; refine hK _ _ ?_; clear hK K)
  have hy6 : Ext w4 w6 := ((Ext.refl w4).drew.trans hx5).trans hx6
  have i3 := f3.ext hy6; have i5 := f5.ext hy6; have i8 := f8.ext hy6; have i9 := f9.ext hy6
  have hn6 := hn4.ext hy6; have hp6 := hp4.ext hy6
  have hE6 := hE4.trans hy6; have z8 := hy6.size; clear hx5 hx6 hC hpC f3 f3r f3l f5 f5r f5l f8 f9 f9r f9l hn4 hp4 hE4 hy4 hy6
  have i3r := i3.rules; have i3l := i3.lt
  go_wp2_with fail
  refine (HRM.out _ hE6).mono ?_; rintro e7 w7 ⟨_, rfl, hC, hx7⟩; have hC' := hC; obtain ⟨D5, c5', A5, g5, C5, k5, rfl, -⟩ := hC'
  go_upto_region 7 with fail
  refine wp_named fun S hS => ?_
  obtain ⟨g12, hg12⟩ : ∃ g, g = w7.heap.size := ⟨_, rfl⟩
  have b12 : Box S g12 29 #[.int .i64 m.kd, .bool m.d.neg, .slice D5 m.d.mag.length c5', .slice A5 m.t.ps.length g5, .bool m.t.k.neg, .slice C5 m.t.k.mag.length k5] := by rw [hS, hg12]; exact Box.new _ _ _
  have hxS : Ext w7 S := by rw [hS]; exact (Ext.refl w7).alloc _
  have hyS := hx7.trans hxS; have hwS := hC.ext hxS
  have hnS := hn6.ext hyS; have hpS := hp6.ext hyS
  have j3 := i3.ext hyS; have j8 := i8.ext hyS; have j9 := i9.ext hyS
  have hES := hE6.trans hyS; obtain ⟨B6, hB6⟩ : ∃ g, g = w6.heap.size := ⟨_, rfl⟩
  have z9 : g9 < B6 := by omega
  have z10 : B6 ≤ g12 := by rw [hB6, hg12]; exact hx7.size
  rw [← hg12] at hwS ⊢; rw [← hB6] at hwS; clear hS hC hxS hx7 hyS i3 i3r i3l i5 i8 i9 hn6 hp6 hE6 hB6 hg12 z7 z8; have z11 := b12.lt
  have j8r := j8.rules; have j8l := j8.lt
  go_wp2_with fail
  refine (over6_c hnS (by omega) (by omega)).mono ?_; rintro e8 w8 ⟨rfl, hb8, hk8⟩; have kp8 := over_kp hb8 hk8; have hE8 := over_ext hES hb8 (by omega); have hp8 := hpS.keep (kp8.imp fun b hb => .inr (by omega)); have hw8 := hwS.keep (kp8.imp fun b hb => .inr (by omega)); have l3 := j3.keep (X := fun b => b < B1 ∨ g8 ≤ b) (.inl (by omega)) kp8; have l9 := j9.keep (X := fun b => b < B1 ∨ g8 ≤ b) (.inr (by omega)) kp8; have l12 := b12.keep (X := fun b => b < B1 ∨ g8 ≤ b) (.inr (by omega)) kp8; clear hb8 hk8 kp8 hES hnS hpS hwS j3 j8 j8r j8l j9 b12 z11; have z12 := l12.lt
  have l9r := l9.rules; have l9l := l9.lt
  go_wp2_with fail
  refine (over6_c hp8 (by omega) (by omega)).mono ?_; rintro e9 w9 ⟨rfl, hb9, hk9⟩; have kp9 := over_kp hb9 hk9; have hE9 := over_ext hE8 hb9 (by omega); have hw9 := hw8.keep (kp9.imp fun b hb => .inr (by omega)); have m3 := l3.keep (X := fun b => b < B2 ∨ g9 ≤ b) (.inl (by omega)) kp9; have m12 := l12.keep (X := fun b => b < B2 ∨ g9 ≤ b) (.inr (by omega)) kp9; clear hb9 hk9 kp9 hE8 hp8 hw8 l3 l9 l9r l9l l12 z12
  have m3r := m3.rules; have m3l := m3.lt
  go_wp2_with fail
  refine (HNO.out _ hE9).mono ?_; rintro e10 w10 ⟨_, rfl, hA, hx10⟩; have hB := hA.bound; have hA' := hB; obtain ⟨D6, c6, A6, g6, C6, k6, rfl, -⟩ := hA'
  go_upto_region 10 with fail
  refine wp_named fun R hR => ?_
  obtain ⟨g14, hg14⟩ : ∃ g, g = w10.heap.size := ⟨_, rfl⟩
  have b14 : Box R g14 29 #[.int .i64 m.kd, .bool m.d.neg, .slice D6 m.d.mag.length c6, .slice A6 m.t.ps.length g6, .bool m.t.k.neg, .slice C6 m.t.k.mag.length k6] := by rw [hR, hg14]; exact Box.new _ _ _
  have hxR : Ext w10 R := by rw [hR]; exact (Ext.refl w10).alloc _
  have hyR := hx10.trans hxR; have hmR := hB.ext hxR; have hwR := hw9.ext hyR
  have n3 := m3.ext hyR; have n12 := m12.ext hyR
  have hER := hE9.trans hyR; obtain ⟨B9, hB9⟩ : ∃ g, g = w9.heap.size := ⟨_, rfl⟩
  have z13 : g12 < B9 := by rw [hB9]; exact m12.lt
  have z14 : B9 ≤ g14 := by rw [hB9, hg14]; exact hx10.size
  rw [← hg14] at hmR ⊢; rw [← hB9] at hmR; clear hR hA hB hxR hx10 hyR m3 m3r m3l m12 hE9 hw9 hB9 hg14; have z15 := b14.lt
  have b14r := b14.rules; have b14l := b14.lt; have n12r := n12.rules; have n12l := n12.lt
  go_wp2_with fail
  refine (HS3.out _ _ _ _ _ hmR.avf.av hwR).mono ?_; rintro e11 w11 ⟨rfl, hx11⟩
  have hm11 := hmR.ext hx11; have hw11 := hwR.ext hx11
  have o3 := n3.ext hx11; have o12 := n12.ext hx11; have o14 := b14.ext hx11
  have hE11 := hER.trans hx11; clear hx11 hmR hwR n3 n12 n12r n12l b14 b14r b14l hER z15
  have o14r := o14.rules; have o14l := o14.lt
  go_wp2_with fail
  refine (over6_c hm11 (by omega) (by omega)).mono ?_; rintro e12 w12 ⟨rfl, hb12, hk12⟩; have kp12 := over_kp hb12 hk12; have hE12 := over_ext hE11 hb12 (by omega); have hw12 := hw11.keep (kp12.imp fun b hb => .inl (by omega)); have q3 := o3.keep (X := fun b => b < B9 ∨ g14 ≤ b) (.inl (by omega)) kp12; have q12 := o12.keep (X := fun b => b < B9 ∨ g14 ≤ b) (.inl (by omega)) kp12; have q14 := o14.keep (X := fun b => b < B9 ∨ g14 ≤ b) (.inr (by omega)) kp12; clear hb12 hk12 kp12 hE11 hm11 hw11 o3 o12 o14 o14r o14l
  have q3r := q3.rules; have q3l := q3.lt
  go_wp2_with fail
  refine (HNO.out _ hE12).mono ?_; rintro e13 w13 ⟨_, rfl, hA, hx13⟩; have hB := hA.bound; have hA' := hB; obtain ⟨D7, c7, A7, g7, C7, k7, rfl, -⟩ := hA'
  have r12 := q12.ext hx13; have r14 := q14.ext hx13
  have hw13 := hw12.ext hx13; have hE13 := hE12.trans hx13; have z16 : g14 < w12.heap.size := q14.lt; clear hx13 q3 q3r q3l q12 q14 hw12 hE12
  have r14r := r14.rules; have r14l := r14.lt
  go_upto_region 13 with fail
  refine wp_named fun Y hY => ?_
  have s14 : Box Y g14 29 #[.int .i64 m.kd, .bool m.d.neg, .slice D7 m.d.mag.length c7, .slice A7 m.t.ps.length g7, .bool m.t.k.neg, .slice C7 m.t.k.mag.length k7] := by rw [hY]; exact (((((r14.set_ 0 _).set_ 1 _).set_ 2 _).set_ 3 _).set_ 4 _).set_ 5 _
  have s12 : Box Y g12 29 #[.int .i64 m.kd, .bool m.d.neg, .slice D5 m.d.mag.length c5', .slice A5 m.t.ps.length g5, .bool m.t.k.neg, .slice C5 m.t.k.mag.length k5] := by rw [hY]; exact (((((r12.far (by simp only; omega) _).far (by simp only; omega) _).far (by simp only; omega) _).far (by simp only; omega) _).far (by simp only; omega) _).far (by simp only; omega) _
  have hEY : Ext w Y := by rw [hY]; exact (((((hE13.setCell (by simp only; omega) _).setCell (by simp only; omega) _).setCell (by simp only; omega) _).setCell (by simp only; omega) _).setCell (by simp only; omega) _).setCell (by simp only; omega) _
  have kY : Kp (fun b => b ≠ g14) w13 Y := by rw [hY]; exact ((((((Kp.refl w13).setCell (fun h => h rfl) _).setCell (fun h => h rfl) _).setCell (fun h => h rfl) _).setCell (fun h => h rfl) _).setCell (fun h => h rfl) _).setCell (fun h => h rfl) _
  have hmY := (hB.avf.av.widen (Y := fun b => b ≠ g14) fun b hb _ => by omega).keep kY; have hwY := (hw13.widen (Y := fun b => b ≠ g14) fun b hb _ => by omega).keep kY; clear hY kY hA hB hw13 hE13 r12 r14 r14r r14l
  have s14r := s14.rules; have s14l := s14.lt; have s12r := s12.rules; have s12l := s12.lt
  go_wp2_with fail
  refine (HS3.out _ _ _ _ _ hmY hwY).mono ?_; rintro e14 w14 ⟨rfl, hx14⟩; have hE14 := hEY.trans hx14; have he0 : (e0 == e0) = true := beq_self_eq_true e0; clear hx14 s14 s14r s14l s12 s12r s12l hmY hwY hEY
  go_wp2_with fail
  (refine bodyPost_ret (v := ?_) ?_ rfl ?_; rotate_left; (simp only [results, Tryz.results8]; go_simp; (first | done | with_reducible rfl)))
  exact ⟨rfl, hE14⟩

end Go.Proofs.YthmjgbkakjpfkaaGreatDoor
