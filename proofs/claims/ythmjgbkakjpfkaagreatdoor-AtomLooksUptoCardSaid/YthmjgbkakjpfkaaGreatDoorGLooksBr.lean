/- riddleref06: parted. No conditions. -/
import Derived.Test.YthmjgbkakjpfkaaGreatDoorGLooksBp
import Derived.Test.YthmjgbkakjpfkaaGreatDoorGLooksBc
namespace Go.Proofs.YthmjgbkakjpfkaaGreatDoor
open Go.RowKit

theorem rparted0_v (d : Z) (t : T) (not : Bool) (hd : d.mag.length ≤ 4398046511104) (h0 : d.v = 0) : Fn Tryz.prog 64 [.g (dZ d), .g (dT t), .c (.b not)] (.t [aA true (constA false), .c (.i .i64 11)]) := by
  refine Fn.intro' Tryz.func64 [.cell 6 29, .tmp 7] 115 fun hok => ?_
  (repeat (first | (refine hk_use (by assumption) ?_) | (refine sw_seqk fun _ _ => ?_) | (refine sw_reg ?_) | (refine aops_k fun _ _ => ?_; simp [go_sem]; try go_ints) | refine sw_block ?_ | refine sw_ct rfl ?_ | refine sw_cf rfl ?_ | refine sw_skip ?_ | refine sw_exit ?_ | refine sw_ret ?_ | refine And.intro (by first | omega | rfl) ?_ | simp only [aops, thn, inB, ↓reduceIte, Nat.reduceEqDiff]))
  (refine ⟨.v _, rsign_v d (by omega), ?_⟩; simp [go_sem]; (repeat (first | (refine hk_use (by assumption) ?_) | (refine sw_seqk fun _ _ => ?_) | (refine sw_reg ?_) | (refine aops_k fun _ _ => ?_; simp [go_sem, sgn_zero, h0]; try go_ints) | refine sw_block ?_ | refine sw_ct rfl ?_ | refine sw_cf rfl ?_ | refine sw_skip ?_ | refine sw_exit ?_ | refine sw_ret ?_ | refine And.intro (by first | omega | rfl) ?_ | simp only [aops, thn, inB, ↓reduceIte, Nat.reduceEqDiff])))
  simp [go_sem, constA, cz, ct, cl, dN, show lim 0 = [] from rfl, show cn [] = [] from rfl]
set_option maxRecDepth 100000 in
set_option maxHeartbeats 12800000 in
theorem rparted_v (d : Z) (t : T) (not : Bool) (N : Nat) (hN2 : 2 ≤ N) (hN : N ≤ 16777216) (hd : d.mag.length ≤ N) (hs : t.sz N) (h0 : d.v ≠ 0) :
    Fn Tryz.prog 64 [.g (dZ d), .g (dT t), .c (.b not)] (.t [aA true (partedA d.v (vl t.ps) t.k.v not), .c (.i .i64 0)]) := by
  refine Fn.intro' Tryz.func64 [.cell 6 29, .tmp 7] 115 fun hok => ?_
  have hlb : t.lb := ok_t (hok (.g (dT t)) (by simp))
  have hdb : Lb d.mag := ok_z (hok (.g (dZ d)) (by simp))
  obtain ⟨m, hm⟩ : ∃ m, m = d.v.natAbs := ⟨_, rfl⟩
  have hm0 : (0 : Int) < m := by omega
  have hmz : zl (m : Int) ≤ N := by rw [hm]; unfold zl; rw [Int.natAbs_natCast]; exact Nat.le_trans (zl_of hdb) hd
  have k1 := rsign_v d (by omega)
  have k2 := rabs_v d (by omega)
  have k3 := rnorm5_v t N (by omega) hs
  obtain ⟨mz, m1, m2, m3⟩ := cz_facts (m : Int)
  have k4 := rmodulo_v t.nf mz (by omega) (N + N) (by omega) (nf_sz hs hlb) (by omega)
  have hn0 : vl t.nf.ps = cn (vl t.ps) := by rw [nf_ps, vl_cl]
  obtain ⟨R, hR⟩ : ∃ R, R = partedA d.v (vl t.ps) t.k.v not := ⟨_, rfl⟩
  rw [← hR]
  unfold partedA at hR
  rw [← hm] at hR k2
  rw [← m1] at k2
  rw [hn0, nf_k, cz_v, m2] at k4
  have hf1 : (fm (·.fmod (m : Int)) (cn (vl t.ps))).length ≤ N := by rw [fm_len]; have := cn_len (vl t.ps); rw [vl_len] at this; have := hs.1; omega
  have hf2 : ∀ p ∈ fm (·.fmod (m : Int)) (cn (vl t.ps)), zl p.2 ≤ N := fun p hp => by
    obtain ⟨q, _, rfl⟩ := List.mem_map.1 hp
    exact fmod_zl hm0 hmz
  have hns : (ct (fm (·.fmod (m : Int)) (cn (vl t.ps))) (t.k.v.fmod m)).sz (N + N) := ct_sz hf1 hf2 (Nat.le_trans (fmod_zl hm0 hmz) (by omega))
  have hnb := ct_lb (fm (·.fmod (m : Int)) (cn (vl t.ps))) (t.k.v.fmod m)
  have hcan := canon_cn (fm (·.fmod (m : Int)) (cn (vl t.ps)))
  have hnp : (ct (fm (·.fmod (m : Int)) (cn (vl t.ps))) (t.k.v.fmod m)).ps = cl (cn (fm (·.fmod (m : Int)) (cn (vl t.ps)))) := rfl
  have hnk : (ct (fm (·.fmod (m : Int)) (cn (vl t.ps))) (t.k.v.fmod m)).k.v = t.k.v.fmod m := cz_v _
  generalize ct (fm (·.fmod (m : Int)) (cn (vl t.ps))) (t.k.v.fmod m) = n at *
  generalize cn (fm (·.fmod (m : Int)) (cn (vl t.ps))) = l at *
  rw [← hnk] at hR
  have hnl : n.ps.length = l.length := by rw [hnp, cl_len]
  have hnc : (n.ps.map Prod.snd).map Z.v = l.map Prod.snd := by rw [hnp, cl_snd]
  obtain ⟨s1, s2, s3⟩ := hns
  unfold partedB at hR
  have hsd : decide (sgn d.v = 0) = false := decide_eq_false fun e => h0 (sgn_zero.1 e)
  (repeat (first | (refine hk_use (by assumption) ?_) | (refine sw_seqk fun _ _ => ?_) | (refine sw_reg ?_) | (refine aops_k fun _ _ => ?_; simp [go_sem]; try go_ints) | refine sw_block ?_ | refine sw_ct rfl ?_ | refine sw_cf rfl ?_ | refine sw_skip ?_ | refine sw_exit ?_ | refine sw_ret ?_ | refine And.intro (by first | omega | rfl) ?_ | simp only [aops, thn, inB, ↓reduceIte, Nat.reduceEqDiff]))
  (refine ⟨.v _, k1, ?_⟩; simp [go_sem]; (repeat (first | (refine hk_use (by assumption) ?_) | (refine sw_seqk fun _ _ => ?_) | (refine sw_reg ?_) | (refine aops_k fun _ _ => ?_; simp [go_sem, sgn_zero, h0]; try go_ints) | refine sw_block ?_ | refine sw_ct rfl ?_ | refine sw_cf rfl ?_ | refine sw_skip ?_ | refine sw_exit ?_ | refine sw_ret ?_ | refine And.intro (by first | omega | rfl) ?_ | simp only [aops, thn, inB, ↓reduceIte, Nat.reduceEqDiff])))
  (refine ⟨.v _, k2, ?_⟩; simp [go_sem]; (repeat (first | (refine hk_use (by assumption) ?_) | (refine sw_seqk fun _ _ => ?_) | (refine sw_reg ?_) | (refine aops_k fun _ _ => ?_; simp [go_sem]; try go_ints) | refine sw_block ?_ | refine sw_ct rfl ?_ | refine sw_cf rfl ?_ | refine sw_skip ?_ | refine sw_exit ?_ | refine sw_ret ?_ | refine And.intro (by first | omega | rfl) ?_ | simp only [aops, thn, inB, ↓reduceIte, Nat.reduceEqDiff])))
  (refine ⟨.v _, k3, ?_⟩; simp [go_sem]; (repeat (first | (refine hk_use (by assumption) ?_) | (refine sw_seqk fun _ _ => ?_) | (refine sw_reg ?_) | (refine aops_k fun _ _ => ?_; simp [go_sem]; try go_ints) | refine sw_block ?_ | refine sw_ct rfl ?_ | refine sw_cf rfl ?_ | refine sw_skip ?_ | refine sw_exit ?_ | refine sw_ret ?_ | refine And.intro (by first | omega | rfl) ?_ | simp only [aops, thn, inB, ↓reduceIte, Nat.reduceEqDiff])))
  (refine ⟨.v _, k4, ?_⟩; simp [go_sem]; (repeat (first | (refine hk_use (by assumption) ?_) | (refine sw_seqk fun _ _ => ?_) | (refine sw_reg ?_) | (refine aops_k fun _ _ => ?_; simp [go_sem]; try go_ints) | refine sw_block ?_ | refine sw_ct rfl ?_ | refine sw_cf rfl ?_ | refine sw_skip ?_ | refine sw_exit ?_ | refine sw_ret ?_ | refine And.intro (by first | omega | rfl) ?_ | simp only [aops, thn, inB, ↓reduceIte, Nat.reduceEqDiff])))
  by_cases h1 : l.length = 0
  · have h2 : n.ps = [] := List.eq_nil_of_length_eq_zero (by omega)
    rw [if_pos h1] at hR
    simp [h2]
    (repeat (first | (refine hk_use (by assumption) ?_) | (refine sw_seqk fun _ _ => ?_) | (refine sw_reg ?_) | (refine aops_k fun _ _ => ?_; simp [go_sem]; try go_ints) | refine sw_block ?_ | refine sw_ct rfl ?_ | refine sw_cf rfl ?_ | refine sw_skip ?_ | refine sw_exit ?_ | refine sw_ret ?_ | refine And.intro (by first | omega | rfl) ?_ | simp only [aops, thn, inB, ↓reduceIte, Nat.reduceEqDiff]))
    (refine ⟨.v _, rsign_v n.k (by omega), ?_⟩; simp [go_sem]; (repeat (first | (refine hk_use (by assumption) ?_) | (refine sw_seqk fun _ _ => ?_) | (refine sw_reg ?_) | (refine aops_k fun _ _ => ?_; simp [go_sem, sgn_zero]; try go_ints) | refine sw_block ?_ | refine sw_ct rfl ?_ | refine sw_cf rfl ?_ | refine sw_skip ?_ | refine sw_exit ?_ | refine sw_ret ?_ | refine And.intro (by first | omega | rfl) ?_ | simp only [aops, thn, inB, ↓reduceIte, Nat.reduceEqDiff])))
    (refine ⟨.v _, const6_v (decide (n.k.v = 0) != not), ?_⟩; simp [go_sem]; (repeat (first | (refine hk_use (by assumption) ?_) | (refine sw_seqk fun _ _ => ?_) | (refine sw_reg ?_) | (refine aops_k fun _ _ => ?_; simp [go_sem]; try go_ints) | refine sw_block ?_ | refine sw_ct rfl ?_ | refine sw_cf rfl ?_ | refine sw_skip ?_ | refine sw_exit ?_ | refine sw_ret ?_ | refine And.intro (by first | omega | rfl) ?_ | simp only [aops, thn, inB, ↓reduceIte, Nat.reduceEqDiff])))
    simp [go_sem, hR]
  · have h2 : n.ps ≠ [] := fun e => h1 (by rw [← hnl, e]; rfl)
    rw [if_neg h1] at hR
    simp [h2]
    (repeat (first | (refine hk_use (by assumption) ?_) | (refine sw_seqk fun _ _ => ?_) | (refine sw_reg ?_) | (refine aops_k fun _ _ => ?_; simp [go_sem]; try go_ints) | refine sw_block ?_ | refine sw_ct rfl ?_ | refine sw_cf rfl ?_ | refine sw_skip ?_ | refine sw_exit ?_ | refine sw_ret ?_ | refine And.intro (by first | omega | rfl) ?_ | simp only [aops, thn, inB, ↓reduceIte, Nat.reduceEqDiff]))
    refine ⟨.o _ _ _ _, coefs_o n (by omega), ?_⟩
    simp [go_sem]
    (repeat (first | (refine hk_use (by assumption) ?_) | (refine sw_seqk fun _ _ => ?_) | (refine sw_reg ?_) | (refine aops_k fun _ _ => ?_; simp [go_sem]; try go_ints) | refine sw_block ?_ | refine sw_ct rfl ?_ | refine sw_cf rfl ?_ | refine sw_skip ?_ | refine sw_exit ?_ | refine sw_ret ?_ | refine And.intro (by first | omega | rfl) ?_ | simp only [aops, thn, inB, ↓reduceIte, Nat.reduceEqDiff]))
    obtain ⟨g, hg⟩ : ∃ g, g = gcdL (l.map Prod.snd ++ [(m : Int)]) := ⟨_, rfl⟩
    have hg0 : (0 : Int) < g := by have := gcdL_pos (l := l.map Prod.snd ++ [(m : Int)]) (x := m) (by simp) (by omega); omega
    have hgz : zl (g : Int) ≤ N := by
      have : g ≤ m := by have := gcdL_le (l := l.map Prod.snd ++ [(m : Int)]) (x := (m : Int)) (by simp) (by omega); omega
      exact Nat.le_trans (zl_mono (by omega)) hmz
    have k5 := rgcd_v (n.ps.map Prod.snd ++ [mz]) (fun z hz => by
      rcases List.mem_append.1 hz with hz | hz
      · obtain ⟨q, hq, rfl⟩ := List.mem_map.1 hz; have := s2 q hq; omega
      · rw [List.mem_singleton.1 hz]; omega) (by simp; omega)
    rw [List.map_append, List.map_map, List.map_append, hnc, List.map_singleton, List.map_singleton, m2, ← hg] at k5
    rw [← hg] at hR
    obtain ⟨gz, g1, g2, g3⟩ := cz_facts (g : Int)
    rw [← g1] at k5
    have k6 := rmod_v n.k gz (by omega) (by omega) (by omega)
    obtain ⟨a1, a11, a12, a13⟩ := cz_facts (n.k.v.fmod g)
    rw [g2, ← a11] at k6
    have e1 : zl (n.k.v.fmod g) ≤ N := fmod_zl hg0 hgz
    (refine ⟨.v _, k5, ?_⟩; simp [go_sem]; (repeat (first | (refine hk_use (by assumption) ?_) | (refine sw_seqk fun _ _ => ?_) | (refine sw_reg ?_) | (refine aops_k fun _ _ => ?_; simp [go_sem]; try go_ints) | refine sw_block ?_ | refine sw_ct rfl ?_ | refine sw_cf rfl ?_ | refine sw_skip ?_ | refine sw_exit ?_ | refine sw_ret ?_ | refine And.intro (by first | omega | rfl) ?_ | simp only [aops, thn, inB, ↓reduceIte, Nat.reduceEqDiff])))
    (refine ⟨.v _, k6, ?_⟩; simp [go_sem]; (repeat (first | (refine hk_use (by assumption) ?_) | (refine sw_seqk fun _ _ => ?_) | (refine sw_reg ?_) | (refine aops_k fun _ _ => ?_; simp [go_sem]; try go_ints) | refine sw_block ?_ | refine sw_ct rfl ?_ | refine sw_cf rfl ?_ | refine sw_skip ?_ | refine sw_exit ?_ | refine sw_ret ?_ | refine And.intro (by first | omega | rfl) ?_ | simp only [aops, thn, inB, ↓reduceIte, Nat.reduceEqDiff])))
    (refine ⟨.v _, rsign_v a1 (by omega), ?_⟩; simp [go_sem]; (repeat (first | (refine hk_use (by assumption) ?_) | (refine sw_seqk fun _ _ => ?_) | (refine sw_reg ?_) | (refine aops_k fun _ _ => ?_; simp [go_sem, sgn_zero]; try go_ints) | refine sw_block ?_ | refine sw_ct rfl ?_ | refine sw_cf rfl ?_ | refine sw_skip ?_ | refine sw_exit ?_ | refine sw_ret ?_ | refine And.intro (by first | omega | rfl) ?_ | simp only [aops, thn, inB, ↓reduceIte, Nat.reduceEqDiff])))
    by_cases h3 : n.k.v.fmod g = 0
    · rw [if_neg (by omega)] at hR
      simp [a12, h3]
      (repeat (first | (refine hk_use (by assumption) ?_) | (refine sw_seqk fun _ _ => ?_) | (refine sw_reg ?_) | (refine aops_k fun _ _ => ?_; simp [go_sem]; try go_ints) | refine sw_block ?_ | refine sw_ct rfl ?_ | refine sw_cf rfl ?_ | refine sw_skip ?_ | refine sw_exit ?_ | refine sw_ret ?_ | refine And.intro (by first | omega | rfl) ?_ | simp only [aops, thn, inB, ↓reduceIte, Nat.reduceEqDiff]))
      have h4 : (m : Int).fdiv g * g = m := by
        obtain ⟨y, hy⟩ : (g : Int) ∣ (m : Int) := by rw [hg]; exact gcdL_dvd (by simp)
        rw [hy, Int.mul_fdiv_cancel_left _ (by omega), Int.mul_comm]
      have h5 : 0 < (m : Int).fdiv g := by
        refine pos_of_mul (a := (g : Int)) ?_ hg0
        rw [Int.mul_comm, h4]; exact hm0
      have e2 : zl ((m : Int).fdiv g) ≤ N := fdiv_zl hg0 hmz
      obtain ⟨b1, b11, b12, b13⟩ := cz_facts ((m : Int).fdiv g)
      obtain ⟨one, o1, o2, o3⟩ := cz_facts 1
      have hz1 : zl 1 ≤ 1 := by decide
      have k7 := rfloor_v mz gz (by omega) (by omega) (by omega)
      rw [m2, g2, ← b11] at k7
      have k8 := rof_v 1 ⟨by omega, by omega⟩
      rw [← o1] at k8
      have k9 := rsame_v b1 one (by omega) (by omega)
      rw [b12, o2] at k9
      (refine ⟨.v _, k7, ?_⟩; simp [go_sem]; (repeat (first | (refine hk_use (by assumption) ?_) | (refine sw_seqk fun _ _ => ?_) | (refine sw_reg ?_) | (refine aops_k fun _ _ => ?_; simp [go_sem]; try go_ints) | refine sw_block ?_ | refine sw_ct rfl ?_ | refine sw_cf rfl ?_ | refine sw_skip ?_ | refine sw_exit ?_ | refine sw_ret ?_ | refine And.intro (by first | omega | rfl) ?_ | simp only [aops, thn, inB, ↓reduceIte, Nat.reduceEqDiff])))
      (refine ⟨.v _, k8, ?_⟩; simp [go_sem]; (repeat (first | (refine hk_use (by assumption) ?_) | (refine sw_seqk fun _ _ => ?_) | (refine sw_reg ?_) | (refine aops_k fun _ _ => ?_; simp [go_sem]; try go_ints) | refine sw_block ?_ | refine sw_ct rfl ?_ | refine sw_cf rfl ?_ | refine sw_skip ?_ | refine sw_exit ?_ | refine sw_ret ?_ | refine And.intro (by first | omega | rfl) ?_ | simp only [aops, thn, inB, ↓reduceIte, Nat.reduceEqDiff])))
      (refine ⟨.v _, k9, ?_⟩; simp [go_sem]; (repeat (first | (refine hk_use (by assumption) ?_) | (refine sw_seqk fun _ _ => ?_) | (refine sw_reg ?_) | (refine aops_k fun _ _ => ?_; simp [go_sem]; try go_ints) | refine sw_block ?_ | refine sw_ct rfl ?_ | refine sw_cf rfl ?_ | refine sw_skip ?_ | refine sw_exit ?_ | refine sw_ret ?_ | refine And.intro (by first | omega | rfl) ?_ | simp only [aops, thn, inB, ↓reduceIte, Nat.reduceEqDiff])))
      by_cases h6 : (m : Int).fdiv g = 1
      · rw [if_pos h6] at hR
        simp [h6]
        (repeat (first | (refine hk_use (by assumption) ?_) | (refine sw_seqk fun _ _ => ?_) | (refine sw_reg ?_) | (refine aops_k fun _ _ => ?_; simp [go_sem]; try go_ints) | refine sw_block ?_ | refine sw_ct rfl ?_ | refine sw_cf rfl ?_ | refine sw_skip ?_ | refine sw_exit ?_ | refine sw_ret ?_ | refine And.intro (by first | omega | rfl) ?_ | simp only [aops, thn, inB, ↓reduceIte, Nat.reduceEqDiff]))
        (refine ⟨.v _, const6_v (!not), ?_⟩; simp [go_sem]; (repeat (first | (refine hk_use (by assumption) ?_) | (refine sw_seqk fun _ _ => ?_) | (refine sw_reg ?_) | (refine aops_k fun _ _ => ?_; simp [go_sem]; try go_ints) | refine sw_block ?_ | refine sw_ct rfl ?_ | refine sw_cf rfl ?_ | refine sw_skip ?_ | refine sw_exit ?_ | refine sw_ret ?_ | refine And.intro (by first | omega | rfl) ?_ | simp only [aops, thn, inB, ↓reduceIte, Nat.reduceEqDiff])))
        simp [go_sem, hR]
      · rw [if_neg h6] at hR
        simp [h6]
        obtain ⟨qs, hq⟩ : ∃ qs, qs = n.ps.map fun p => (p.1, cz (p.2.v.fdiv g)) := ⟨_, rfl⟩
        have hql : qs.length = n.ps.length := by rw [hq, List.length_map]
        obtain ⟨a2, a21, a22, a23⟩ := cz_facts (n.k.v.fdiv g)
        have k10 := rfloor_v n.k gz (by omega) (by omega) (by omega)
        rw [g2, ← a21] at k10
        (repeat (first | (refine hk_use (by assumption) ?_) | (refine sw_seqk fun _ _ => ?_) | (refine sw_reg ?_) | (refine aops_k fun _ _ => ?_; simp [go_sem]; try go_ints) | refine sw_block ?_ | refine sw_ct rfl ?_ | refine sw_cf rfl ?_ | refine sw_skip ?_ | refine sw_exit ?_ | refine sw_ret ?_ | refine And.intro (by first | omega | rfl) ?_ | simp only [aops, thn, inB, ↓reduceIte, Nat.reduceEqDiff]))
        (refine ⟨.v _, k10, ?_⟩; simp [go_sem]; (repeat (first | (refine hk_use (by assumption) ?_) | (refine sw_seqk fun _ _ => ?_) | (refine sw_reg ?_) | (refine aops_k fun _ _ => ?_; simp [go_sem]; try go_ints) | refine sw_block ?_ | refine sw_ct rfl ?_ | refine sw_cf rfl ?_ | refine sw_skip ?_ | refine sw_exit ?_ | refine sw_ret ?_ | refine And.intro (by first | omega | rfl) ?_ | simp only [aops, thn, inB, ↓reduceIte, Nat.reduceEqDiff])))
        refine sw_weak (le_ownx 15 0 1015 3 37 rfl rfl rfl (by decide)) ?_
        refine sw_loopv 16 (fun i : Nat => [(16, .c (.i .i64 i))]) (fun i => [(15, .x [.r 1015 i, .b a2.neg, .l true (dN a2.mag)]), (1015, .r true 3 37 ((qs.map dP).take i))]) (fun i => i ≤ n.ps.length) (fun i => n.ps.length - i) 0 (Nat.zero_le _) ?_ fun i hi => ?_
        · simp [go_sem]
        · by_cases hlt : i < n.ps.length
          · (repeat (first | (refine hk_use (by assumption) ?_) | (refine sw_seqk fun _ _ => ?_) | (refine sw_reg ?_) | (refine aops_k fun _ _ => ?_; simp [go_sem, hlt, hql, Nat.min_eq_left hi]; try go_ints) | refine sw_block ?_ | refine sw_ct rfl ?_ | refine sw_cf rfl ?_ | refine sw_skip ?_ | refine sw_exit ?_ | refine sw_ret ?_ | refine And.intro (by first | omega | rfl) ?_ | simp only [aops, thn, inB, ↓reduceIte, Nat.reduceEqDiff]))
            have hi2 : n.ps[i] ∈ n.ps := List.getElem_mem hlt
            have k6 := rfloor_v n.ps[i].2 gz (by omega) (by have := s2 _ hi2; omega) (by omega)
            rw [g2] at k6
            (refine ⟨.v _, k6, ?_⟩; simp [go_sem]; (repeat (first | (refine hk_use (by assumption) ?_) | (refine sw_seqk fun _ _ => ?_) | (refine sw_reg ?_) | (refine aops_k fun _ _ => ?_; simp [go_sem, hql, hlt]; try go_ints) | refine sw_block ?_ | refine sw_ct rfl ?_ | refine sw_cf rfl ?_ | refine sw_skip ?_ | refine sw_exit ?_ | refine sw_ret ?_ | refine And.intro (by first | omega | rfl) ?_ | simp only [aops, thn, inB, ↓reduceIte, Nat.reduceEqDiff])))
            refine ⟨i + 1, by omega, by omega, ?_⟩
            rw [take_snoc (l := qs.map dP) (by simpa [hql] using hlt)]
            simp [go_sem, hq]
            omega
          · (repeat (first | (refine hk_use (by assumption) ?_) | (refine sw_seqk fun _ _ => ?_) | (refine sw_reg ?_) | (refine aops_k fun _ _ => ?_; simp [go_sem, hlt]; try go_ints) | refine sw_block ?_ | refine sw_ct rfl ?_ | refine sw_cf rfl ?_ | refine sw_skip ?_ | refine sw_exit ?_ | refine sw_ret ?_ | refine And.intro (by first | omega | rfl) ?_ | simp only [aops, thn, inB, ↓reduceIte, Nat.reduceEqDiff]))
            have : i = n.ps.length := by omega
            subst this
            have e5 : (qs.map dP).take n.ps.length = qs.map dP := List.take_of_length_le (by simp [hql])
            have hl2 : cn (fm (·.fdiv (g : Int)) l) = fm (·.fdiv (g : Int)) l := cn_canon (canon_fm hcan fun q hq e => by
              obtain ⟨y, hy⟩ : (g : Int) ∣ q.2 := by rw [hg]; exact gcdL_dvd (by simp; exact .inl ⟨q.1, hq⟩)
              have h3 : q.2.fdiv (g : Int) = y := by rw [hy]; exact Int.mul_fdiv_cancel_left _ (by omega)
              exact hcan.2 q hq (by rw [hy, ← h3, e, Int.mul_zero]))
            have hvq : vl qs = fm (·.fdiv (g : Int)) l := by
              rw [hq, hnp]; simp [vl, cl, fm, Function.comp_def, cz_v]
            have hct : ct (fm (·.fdiv (g : Int)) l) (n.k.v.fdiv g) = ⟨qs, a2⟩ := by
              unfold ct
              rw [hl2, ← hvq, a21, hq]
              simp [cl, vl, Function.comp_def, cz_v]
            obtain ⟨mo, mo1, mo2, mo3⟩ := cz_facts (-1)
            have hz2 : zl (-1) ≤ 1 := by decide
            have k11 := rof_v (-1) ⟨by omega, by omega⟩
            rw [← mo1] at k11
            have hqs : T.sz ⟨qs, a2⟩ (N + N) := by
              refine ⟨by show qs.length ≤ N + N; omega, fun p hp => ?_, by show a2.mag.length ≤ N + N; rw [a23]; exact fdiv_zl hg0 (Nat.le_trans (zl_of hnb.2) s3)⟩
              have hp : p ∈ qs := hp
              rw [hq] at hp
              obtain ⟨q, hq, rfl⟩ := List.mem_map.1 hp
              rw [cz_len]; exact fdiv_zl hg0 (Nat.le_trans (zl_of (hnb.1 q hq)) (s2 q hq))
            have k12 := rscale5_v mo ⟨qs, a2⟩ (N + N) (by omega) (by omega) hqs
            have hqz : ∀ p ∈ sc (-1) (vl qs), zl p.2 ≤ N + N := fun p hp => by
              obtain ⟨q, hq2, rfl⟩ := List.mem_map.1 hp
              have : zl q.2 ≤ N + N := zl_vl (fun p hp => by rw [hq] at hp; obtain ⟨q, _, rfl⟩ := List.mem_map.1 hp; exact lb_lim _) hqs.2.1 q hq2
              simpa only [Int.neg_mul, Int.one_mul, zl_neg] using this
            have hT3 : (ct (sc (-1) (vl qs)) (-1 * a2.v)).sz (N + N + (N + N)) := ct_sz (by rw [sc_len, vl_len]; exact hqs.1) hqz (by
              simp only [Int.neg_mul, Int.one_mul, zl_neg]
              have h1 := hqs.2.2
              have h2 : zl a2.v = a2.mag.length := by rw [a22, a23]
              simp only at h1
              omega)
            rw [mo2] at k12
            have v3 : vl (ct (sc (-1) (vl qs)) (-1 * a2.v)).ps = cn (sc (-1) (vl qs)) := vl_cl _
            have w3 : (ct (sc (-1) (vl qs)) (-1 * a2.v)).k.v = -(n.k.v.fdiv g) := by show (cz _).v = _; rw [cz_v, a22]; omega
            have k12 : Fn Tryz.prog 110 [.g (dZ mo), .g (dT ⟨qs, a2⟩)] (gT true (ct (sc (-1) (vl qs)) (-1 * a2.v))) := k12
            generalize ct (sc (-1) (vl qs)) (-1 * a2.v) = T3 at *
            have k13 := rmodulo_v T3 b1 (by omega) (N + N + (N + N)) (by omega) hT3 (by omega)
            rw [v3, w3, b12] at k13
            have hT4 : (ct (fm (·.fmod ((m : Int).fdiv g)) (cn (sc (-1) (vl qs)))) ((-(n.k.v.fdiv g)).fmod ((m : Int).fdiv g))).sz (N + N + (N + N)) := ct_sz (by rw [fm_len]; have := cn_len (sc (-1) (vl qs)); rw [sc_len, vl_len] at this; omega) (fun p hp => by
              obtain ⟨q, _, rfl⟩ := List.mem_map.1 hp
              exact Nat.le_trans (fmod_zl h5 e2) (by omega)) (Nat.le_trans (fmod_zl h5 e2) (by omega))
            have hL : lesser ((m : Int).fdiv g) (cn (fm (·.fdiv (g : Int)) l)) (n.k.v.fdiv g) = if ordT (ct (fm (·.fmod ((m : Int).fdiv g)) (cn (sc (-1) (vl qs)))) ((-(n.k.v.fdiv g)).fmod ((m : Int).fdiv g))) ⟨qs, a2⟩ < 0 then ct (fm (·.fmod ((m : Int).fdiv g)) (cn (sc (-1) (vl qs)))) ((-(n.k.v.fdiv g)).fmod ((m : Int).fdiv g)) else ⟨qs, a2⟩ := by
              unfold lesser
              rw [hl2, hct, ← hvq]
            rw [hL] at hR
            generalize ct (fm (·.fmod ((m : Int).fdiv g)) (cn (sc (-1) (vl qs)))) ((-(n.k.v.fdiv g)).fmod ((m : Int).fdiv g)) = T4 at *
            have k14 := rorder5_v T4 ⟨qs, a2⟩ (N + N + (N + N)) (by omega) hT4 (hqs.mono (by omega))
            simp [hql, e5]
            (refine ⟨.v _, k11, ?_⟩; simp [go_sem]; (repeat (first | (refine hk_use (by assumption) ?_) | (refine sw_seqk fun _ _ => ?_) | (refine sw_reg ?_) | (refine aops_k fun _ _ => ?_; simp [go_sem]; try go_ints) | refine sw_block ?_ | refine sw_ct rfl ?_ | refine sw_cf rfl ?_ | refine sw_skip ?_ | refine sw_exit ?_ | refine sw_ret ?_ | refine And.intro (by first | omega | rfl) ?_ | simp only [aops, thn, inB, ↓reduceIte, Nat.reduceEqDiff])))
            (refine ⟨.v _, k12, ?_⟩; simp [go_sem]; (repeat (first | (refine hk_use (by assumption) ?_) | (refine sw_seqk fun _ _ => ?_) | (refine sw_reg ?_) | (refine aops_k fun _ _ => ?_; simp [go_sem]; try go_ints) | refine sw_block ?_ | refine sw_ct rfl ?_ | refine sw_cf rfl ?_ | refine sw_skip ?_ | refine sw_exit ?_ | refine sw_ret ?_ | refine And.intro (by first | omega | rfl) ?_ | simp only [aops, thn, inB, ↓reduceIte, Nat.reduceEqDiff])))
            (refine ⟨.v _, k13, ?_⟩; simp [go_sem]; (repeat (first | (refine hk_use (by assumption) ?_) | (refine sw_seqk fun _ _ => ?_) | (refine sw_reg ?_) | (refine aops_k fun _ _ => ?_; simp [go_sem]; try go_ints) | refine sw_block ?_ | refine sw_ct rfl ?_ | refine sw_cf rfl ?_ | refine sw_skip ?_ | refine sw_exit ?_ | refine sw_ret ?_ | refine And.intro (by first | omega | rfl) ?_ | simp only [aops, thn, inB, ↓reduceIte, Nat.reduceEqDiff])))
            (refine ⟨.v _, k14, ?_⟩; simp [go_sem]; (repeat (first | (refine hk_use (by assumption) ?_) | (refine sw_seqk fun _ _ => ?_) | (refine sw_reg ?_) | (refine aops_k fun _ _ => ?_; simp [go_sem]; try go_ints) | refine sw_block ?_ | refine sw_ct rfl ?_ | refine sw_cf rfl ?_ | refine sw_skip ?_ | refine sw_exit ?_ | refine sw_ret ?_ | refine And.intro (by first | omega | rfl) ?_ | simp only [aops, thn, inB, ↓reduceIte, Nat.reduceEqDiff])))
            by_cases ho : ordT T4 ⟨qs, a2⟩ < 0
            · rw [if_pos ho] at hR
              simp [ho]
              (repeat (first | (refine hk_use (by assumption) ?_) | (refine sw_seqk fun _ _ => ?_) | (refine sw_reg ?_) | (refine aops_k fun _ _ => ?_; simp [go_sem]; try go_ints) | refine sw_block ?_ | refine sw_ct rfl ?_ | refine sw_cf rfl ?_ | refine sw_skip ?_ | refine sw_exit ?_ | refine sw_ret ?_ | refine And.intro (by first | omega | rfl) ?_ | simp only [aops, thn, inB, ↓reduceIte, Nat.reduceEqDiff]))
              cases not
              all_goals
                (repeat (first | (refine hk_use (by assumption) ?_) | (refine sw_seqk fun _ _ => ?_) | (refine sw_reg ?_) | (refine aops_k fun _ _ => ?_; simp [go_sem]; try go_ints) | refine sw_block ?_ | refine sw_ct rfl ?_ | refine sw_cf rfl ?_ | refine sw_skip ?_ | refine sw_exit ?_ | refine sw_ret ?_ | refine And.intro (by first | omega | rfl) ?_ | simp only [aops, thn, inB, ↓reduceIte, Nat.reduceEqDiff]))
                simp [go_sem, hR, b11, hql]
            · rw [if_neg ho] at hR
              simp [ho]
              (repeat (first | (refine hk_use (by assumption) ?_) | (refine sw_seqk fun _ _ => ?_) | (refine sw_reg ?_) | (refine aops_k fun _ _ => ?_; simp [go_sem]; try go_ints) | refine sw_block ?_ | refine sw_ct rfl ?_ | refine sw_cf rfl ?_ | refine sw_skip ?_ | refine sw_exit ?_ | refine sw_ret ?_ | refine And.intro (by first | omega | rfl) ?_ | simp only [aops, thn, inB, ↓reduceIte, Nat.reduceEqDiff]))
              cases not
              all_goals
                (repeat (first | (refine hk_use (by assumption) ?_) | (refine sw_seqk fun _ _ => ?_) | (refine sw_reg ?_) | (refine aops_k fun _ _ => ?_; simp [go_sem]; try go_ints) | refine sw_block ?_ | refine sw_ct rfl ?_ | refine sw_cf rfl ?_ | refine sw_skip ?_ | refine sw_exit ?_ | refine sw_ret ?_ | refine And.intro (by first | omega | rfl) ?_ | simp only [aops, thn, inB, ↓reduceIte, Nat.reduceEqDiff]))
                simp [go_sem, hR, b11, hql]
    · rw [if_pos h3] at hR
      simp [a12, h3]
      (repeat (first | (refine hk_use (by assumption) ?_) | (refine sw_seqk fun _ _ => ?_) | (refine sw_reg ?_) | (refine aops_k fun _ _ => ?_; simp [go_sem]; try go_ints) | refine sw_block ?_ | refine sw_ct rfl ?_ | refine sw_cf rfl ?_ | refine sw_skip ?_ | refine sw_exit ?_ | refine sw_ret ?_ | refine And.intro (by first | omega | rfl) ?_ | simp only [aops, thn, inB, ↓reduceIte, Nat.reduceEqDiff]))
      (refine ⟨.v _, const6_v not, ?_⟩; simp [go_sem]; (repeat (first | (refine hk_use (by assumption) ?_) | (refine sw_seqk fun _ _ => ?_) | (refine sw_reg ?_) | (refine aops_k fun _ _ => ?_; simp [go_sem]; try go_ints) | refine sw_block ?_ | refine sw_ct rfl ?_ | refine sw_cf rfl ?_ | refine sw_skip ?_ | refine sw_exit ?_ | refine sw_ret ?_ | refine And.intro (by first | omega | rfl) ?_ | simp only [aops, thn, inB, ↓reduceIte, Nat.reduceEqDiff])))
      simp [go_sem, hR]
end Go.Proofs.YthmjgbkakjpfkaaGreatDoor
