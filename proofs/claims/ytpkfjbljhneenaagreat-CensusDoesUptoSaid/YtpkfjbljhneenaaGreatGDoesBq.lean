/- riddleref19: Next. No conditions. riddleref19: Last. No conditions. riddleref19: List. No conditions. riddleref19: Least, List. No conditions. -/
import Derived.Test.YtpkfjbljhneenaaGreatGDoesBp
namespace Go.Proofs.YtpkfjbljhneenaaGreat
open Go.RowKit

theorem nxt_row {s : Ps} {N : Nat} (hs : s.ok N) {x a : Int} (h1 : x ≤ a) (h2 : ∀ z, x ≤ z → z < a → s.has z = false) (h3 : ∀ z, a ≤ z → Fre (zv s.cuts) a z → s.has z = false) :
  (∀ h : plc (zv s.cuts) a < s.cuts.length, x ≤ (s.cuts[plc (zv s.cuts) a]).v ∧ a < (s.cuts[plc (zv s.cuts) a]).v ∧ plc (zv s.cuts) (s.cuts[plc (zv s.cuts) a]).v = plc (zv s.cuts) a + 1 ∧ ∀ z, x ≤ z → z < (s.cuts[plc (zv s.cuts) a]).v → s.has z = false) ∧
  (plc (zv s.cuts) a = s.cuts.length → ∀ z, x ≤ z → s.has z = false) := by
 have hl := zv_len s.cuts; obtain ⟨n1, n2⟩ := plc_next hs.ris a
 constructor
 ·intro h
  have hz : plc (zv s.cuts) a < (zv s.cuts).length := by omega
  obtain ⟨g1, g2⟩ := n1 hz; have hc := plc_cut hs.ris hz
  have e : (zv s.cuts)[plc (zv s.cuts) a] = (s.cuts[plc (zv s.cuts) a]).v := by rw [zv_at s.cuts _ h, zth_eq _ _ h]
  rw [e] at g1 g2 hc; refine ⟨by omega, g1, hc, fun z z1 z2 => ?_⟩
  rcases Int.lt_or_le z a with h4 | h4
  ·exact h2 z z1 h4
  ·exact h3 z h4 (g2.mono (Int.le_refl _) (by omega))
 ·intro h z z1
  rcases Int.lt_or_le z a with h4 | h4
  ·exact h2 z z1 h4
  ·exact h3 z h4 (n2 (by omega) z)
theorem nxt_fre {s : Ps} {N : Nat} (hs : s.ok N) (a : Int) : (∀ h : plc (zv s.cuts) a < s.cuts.length, Fre (zv s.cuts) a ((s.cuts[plc (zv s.cuts) a]).v - 1)) ∧ (plc (zv s.cuts) a = s.cuts.length → ∀ z, Fre (zv s.cuts) a z) := by
 have hl := zv_len s.cuts; obtain ⟨n1, n2⟩ := plc_next hs.ris a; refine ⟨fun h => ?_, fun h => n2 (by omega)⟩; obtain ⟨g1, g2⟩ := n1 (by omega); rw [zv_at s.cuts _ h, zth_eq _ _ h] at g2; exact g2
set_option maxRecDepth 4000 in
set_option maxHeartbeats 3200000 in
theorem nnext_v (s : Ps) (N : Nat) (hs : s.ok N) (hN : N ≤ 137438953472) (x : Z) (hx : x.mag.length ≤ 137438953473) : Fn Tryz.prog 14 [.g (dS s), .g (dZ x)] (.t [aZ true (cz ((nxtV s x).getD 0)), .c (.b (nxtV s x).isSome)]) := by
 refine Fn.intro' Tryz.func14 [.cell 4 25, .tmp 5] 70 fun hok => ?_
 have hzx := zl_of (ok_z (hok (.g (dZ x)) (by simp))); clear hok
 have hp0 := hs.per0; have hp1 := hs.per1; have hrows := hs.rows; have hcl := hs.len
 obtain ⟨xz, e1, e1v, e1l⟩ := czf x.v; have k1 := rnorm_v x (by omega); rw [← e1] at k1; have k2 := nwhere_v s N hs (by omega) xz (by omega); have hxl : xz.mag.length ≤ 137438953473 ∧ zl xz.v ≤ 137438953473 := ⟨by omega, by rw [e1v]; omega⟩
 have hpl : ∀ a, plc (zv s.cuts) a ≤ s.cuts.length := fun a => by have := plc_len (zv s.cuts) a; rw [zv_len] at this; exact this
 have hcz : ∀ i (h : i < s.cuts.length), (s.cuts[i]).mag.length ≤ 137438953473 ∧ zl (s.cuts[i]).v ≤ 137438953473 := fun i h => by
  obtain ⟨h1, h2⟩ := hs.cut _ (List.getElem_mem h); refine ⟨by omega, ?_⟩
  rw [← cz_len, h2]; omega
 have hrl : ∀ i (h : i < s.rows.length), (s.rows[i]).length = s.per := fun i h => hs.row _ (List.getElem_mem h)
 -- a number of a row
 have kI : ∀ (a : Z) (k : Nat), k < s.per → a.mag.length ≤ 137438953473 → zl a.v ≤ 137438953473 → ∃ iz n : Z, ∃ w : Nat, w < s.per ∧ n = cz (a.v + (k : Int)) ∧ n.v = a.v + (k : Int) ∧ n.mag.length ≤ 137438953474 ∧ (w : Int) = (a.v + (k : Int)) % (s.per : Int) ∧
   Fn Tryz.prog 38 [.c (.i .i64 (k : Int))] (gZ true iz) ∧ Fn Tryz.prog 37 [.g (dZ a), .g (dZ iz)] (gZ true n) ∧ Fn Tryz.prog 46 [.g (dZ n), .c (.i .i64 (s.per : Int))] (.c (.i .i64 (w : Int))) := fun a k hk h1 h2 => by
  have zi : zl (k : Int) ≤ 1 := zl_small (by omega); have zj : zl (a.v + (k : Int)) ≤ 137438953474 := zl_add h2 (by omega); have q1 := Int.emod_nonneg (a.v + (k : Int)) (show (s.per : Int) ≠ 0 by omega); have q2 := Int.emod_lt_of_pos (a.v + (k : Int)) (show (0 : Int) < (s.per : Int) by omega); have m1 := radd_v a (cz (k : Int)) (by omega) (by rw [cz_len]; omega); rw [cz_v] at m1; have m2 := nmod_v (cz (a.v + (k : Int))) s.per hp0 (by omega) (by rw [cz_len]; omega); rw [cz_v] at m2; exact ⟨cz (k : Int), cz (a.v + (k : Int)), ((a.v + (k : Int)) % (s.per : Int)).toNat, by omega, rfl, cz_v _, by rw [cz_len]; exact zj, Int.toNat_of_nonneg q1, nnum_v (k : Int) ⟨by omega, by omega⟩, m1, by rw [Int.toNat_of_nonneg q1]; exact m2⟩
 (repeat first | refine hku ?_ | refine sw_seqk fun _ _ => ?_ | refine sw_reg ?_ | ((first | refine aops_k fun _ _ => ?_ | with_reducible refine rw_own ?_); simp [go_sem]; try go_ints) | refine sw_block ?_ | refine sw_t ?_ | refine sw_f ?_ | refine sw_e ?_ | refine ai ?_ | simp only [aops, thn, inB, ↓reduceIte, Nat.reduceEqDiff])
 (refine ⟨.v _, k1, ?_⟩; simp [go_sem]; (repeat first | refine hku ?_ | refine sw_seqk fun _ _ => ?_ | refine sw_reg ?_ | ((first | refine aops_k fun _ _ => ?_ | with_reducible refine rw_own ?_); simp [go_sem]; try go_ints) | refine sw_block ?_ | refine sw_t ?_ | refine sw_f ?_ | refine sw_e ?_ | refine ai ?_ | simp only [aops, thn, inB, ↓reduceIte, Nat.reduceEqDiff]))
 (refine ⟨.v _, k2, ?_⟩; simp [go_sem]; (repeat first | refine hku ?_ | refine sw_seqk fun _ _ => ?_ | refine sw_reg ?_ | ((first | refine aops_k fun _ _ => ?_ | with_reducible refine rw_own ?_); simp [go_sem]; try go_ints) | refine sw_block ?_ | refine sw_t ?_ | refine sw_f ?_ | refine sw_e ?_ | refine ai ?_ | simp only [aops, thn, inB, ↓reduceIte, Nat.reduceEqDiff]))
 refine sw_loopv 7 (fun y : Z × Nat => [(7, .c (.i .i64 (y.2 : Int)))]) (fun y => [(6, .x [.b y.1.neg, .l false (dN y.1.mag)])]) (fun y => y.1.mag.length ≤ 137438953473 ∧ zl y.1.v ≤ 137438953473 ∧ ((y.2 = plc (zv s.cuts) y.1.v ∧ x.v ≤ y.1.v ∧ ∀ z, x.v ≤ z → z < y.1.v → s.has z = false) ∨ (y.2 = s.cuts.length + 1 ∧ ∀ z, x.v ≤ z → s.has z = false))) (fun y => s.cuts.length + 2 - y.2) (xz, plc (zv s.cuts) xz.v) ⟨hxl.1, hxl.2, .inl ⟨rfl, by rw [e1v]; exact Int.le_refl _, fun z h1 h2 => by rw [e1v] at h2; omega⟩⟩ ?_ ?_
 ·simp [go_sem]
 ·rintro ⟨a, i⟩ ⟨a1, a2, a3⟩; simp only at a1 a2 a3 ⊢
  rcases a3 with ⟨hi, a3, a4⟩ | ⟨hi, a4⟩
  ·have hil : i ≤ s.cuts.length := by rw [hi]; exact hpl _
   have hir : i < s.rows.length := by omega
   have hrw := hrl i hir
   -- behind the inner loop
   have hgo := fun (h3 : ∀ z, a.v ≤ z → Fre (zv s.cuts) a.v z → s.has z = false) => nxt_row hs a3 a4 h3
   have hfr := nxt_fre hs a.v; rw [← hi] at hgo hfr
   (repeat first | refine hku ?_ | refine sw_seqk fun _ _ => ?_ | refine sw_reg ?_ | ((first | refine aops_k fun _ _ => ?_ | with_reducible refine rw_own ?_); simp [go_sem, hil]; try go_ints) | refine sw_block ?_ | refine sw_t ?_ | refine sw_f ?_ | refine sw_e ?_ | refine ai ?_ | simp only [aops, thn, inB, ↓reduceIte, Nat.reduceEqDiff])
   refine sw_loopv 8 (fun k : Nat => [(8, .c (.i .i64 (k : Int)))]) (fun _ => []) (fun k => k ≤ s.per ∧ ∀ j : Nat, j < k → s.has (a.v + (j : Int)) = false) (fun k => s.per - k) 0 ⟨Nat.zero_le _, fun j h => absurd h (Nat.not_lt_zero _)⟩ ?_ fun k ⟨hk, hd⟩ => ?_
   ·simp [go_sem]
   ·by_cases hkl : k < s.per
    ·obtain ⟨iz, n, w, hw, hn, hnv, hnl, hwv, m1, m2, m3⟩ := kI a k hkl a1 a2
     have hwr : w < (s.rows[i]).length := by omega
     -- in the row
     have found : Fre (zv s.cuts) a.v (a.v + (k : Int)) → s.has (a.v + (k : Int)) = (s.rows[i])[w] := fun hf => by
      rw [has_row (by omega) hf, ← hi, rth_eq _ _ hir, ← hwv, Int.toNat_natCast, bth_eq _ _ hwr]
     have yes : Fre (zv s.cuts) a.v (a.v + (k : Int)) → (s.rows[i])[w] = true → nxtV s x = some (a.v + (k : Int)) := fun hf hb => by
      refine nxt_is hs (by omega) ((found hf).trans hb) fun z z1 z2 => ?_
      rcases Int.lt_or_le z a.v with h | h
      ·exact a4 z z1 h
      ·have := hd (z - a.v).toNat (by omega); rw [show a.v + ((z - a.v).toNat : Int) = z by omega] at this; exact this
     have nd : Fre (zv s.cuts) a.v (a.v + (k : Int)) → (s.rows[i])[w] = false → ∀ j : Nat, j < k + 1 → s.has (a.v + (j : Int)) = false := fun hf hb j hj => by
      by_cases e : j = k
      ·subst e; exact (found hf).trans hb
      ·exact hd j (by omega)
     have hgo2 := fun (hic : i < s.cuts.length) (hnc : ¬ n.v < (s.cuts[i]).v) => (hgo (fun z z1 z2 => by
      have h5 := z2 (s.cuts[i]).v (List.mem_map.2 ⟨_, List.getElem_mem hic, rfl⟩); have h6 := hfr.1 hic
      have h7 : a.v < (s.cuts[i]).v := by
       have := (plc_next hs.ris a.v).1 (by rw [zv_len, ← hi]; exact hic); have h8 := this.1; rw [zv_at s.cuts _ (by rw [← hi]; exact hic)] at h8; rw [← hi, zth_eq _ _ hic] at h8; exact h8
      have h8 : z < (s.cuts[i]).v := by omega
      have := hd (z - a.v).toNat (by omega); rw [show a.v + ((z - a.v).toNat : Int) = z by omega] at this
      exact this)).1 hic
     by_cases hic : i < s.cuts.length
     ·have c1 := nbelow_v n s.cuts[i] (by omega) (by have := (hcz i hic).1; omega)
      by_cases hnc : n.v < (s.cuts[i]).v
      ·rw [decide_eq_true hnc] at c1; have hf : Fre (zv s.cuts) a.v (a.v + (k : Int)) := (hfr.1 hic).mono (Int.le_refl _) (by omega)
       cases hb : (s.rows[i])[w] with
       | true =>
        have hy := yes hf hb
        (repeat first | refine hku ?_ | refine sw_seqk fun _ _ => ?_ | refine sw_reg ?_ | ((first | refine aops_k fun _ _ => ?_ | with_reducible refine rw_own ?_); simp [go_sem, hkl]; try go_ints) | refine sw_block ?_ | refine sw_t ?_ | refine sw_f ?_ | refine sw_e ?_ | refine ai ?_ | simp only [aops, thn, inB, ↓reduceIte, Nat.reduceEqDiff])
        (refine ⟨.v _, m1, ?_⟩; simp [go_sem]; (repeat first | refine hku ?_ | refine sw_seqk fun _ _ => ?_ | refine sw_reg ?_ | ((first | refine aops_k fun _ _ => ?_ | with_reducible refine rw_own ?_); simp [go_sem]; try go_ints) | refine sw_block ?_ | refine sw_t ?_ | refine sw_f ?_ | refine sw_e ?_ | refine ai ?_ | simp only [aops, thn, inB, ↓reduceIte, Nat.reduceEqDiff]))
        (refine ⟨.v _, m2, ?_⟩; simp [go_sem]; (repeat first | refine hku ?_ | refine sw_seqk fun _ _ => ?_ | refine sw_reg ?_ | ((first | refine aops_k fun _ _ => ?_ | with_reducible refine rw_own ?_); simp [go_sem, hic]; try go_ints) | refine sw_block ?_ | refine sw_t ?_ | refine sw_f ?_ | refine sw_e ?_ | refine ai ?_ | simp only [aops, thn, inB, ↓reduceIte, Nat.reduceEqDiff]))
        (refine ⟨.v _, c1, ?_⟩; simp [go_sem]; (repeat first | refine hku ?_ | refine sw_seqk fun _ _ => ?_ | refine sw_reg ?_ | ((first | refine aops_k fun _ _ => ?_ | with_reducible refine rw_own ?_); simp [go_sem, hic, hir]; try go_ints) | refine sw_block ?_ | refine sw_t ?_ | refine sw_f ?_ | refine sw_e ?_ | refine ai ?_ | simp only [aops, thn, inB, ↓reduceIte, Nat.reduceEqDiff]))
        (refine ⟨.v _, m3, ?_⟩; simp [go_sem]; (repeat first | refine hku ?_ | refine sw_seqk fun _ _ => ?_ | refine sw_reg ?_ | ((first | refine aops_k fun _ _ => ?_ | with_reducible refine rw_own ?_); simp [go_sem, hir, hwr, hb]; try go_ints) | refine sw_block ?_ | refine sw_t ?_ | refine sw_f ?_ | refine sw_e ?_ | refine ai ?_ | simp only [aops, thn, inB, ↓reduceIte, Nat.reduceEqDiff]))
        simp [go_sem, hy, ← hn]
       | false =>
        have hnd := nd hf hb
        (repeat first | refine hku ?_ | refine sw_seqk fun _ _ => ?_ | refine sw_reg ?_ | ((first | refine aops_k fun _ _ => ?_ | with_reducible refine rw_own ?_); simp [go_sem, hkl]; try go_ints) | refine sw_block ?_ | refine sw_t ?_ | refine sw_f ?_ | refine sw_e ?_ | refine ai ?_ | simp only [aops, thn, inB, ↓reduceIte, Nat.reduceEqDiff])
        (refine ⟨.v _, m1, ?_⟩; simp [go_sem]; (repeat first | refine hku ?_ | refine sw_seqk fun _ _ => ?_ | refine sw_reg ?_ | ((first | refine aops_k fun _ _ => ?_ | with_reducible refine rw_own ?_); simp [go_sem]; try go_ints) | refine sw_block ?_ | refine sw_t ?_ | refine sw_f ?_ | refine sw_e ?_ | refine ai ?_ | simp only [aops, thn, inB, ↓reduceIte, Nat.reduceEqDiff]))
        (refine ⟨.v _, m2, ?_⟩; simp [go_sem]; (repeat first | refine hku ?_ | refine sw_seqk fun _ _ => ?_ | refine sw_reg ?_ | ((first | refine aops_k fun _ _ => ?_ | with_reducible refine rw_own ?_); simp [go_sem, hic]; try go_ints) | refine sw_block ?_ | refine sw_t ?_ | refine sw_f ?_ | refine sw_e ?_ | refine ai ?_ | simp only [aops, thn, inB, ↓reduceIte, Nat.reduceEqDiff]))
        (refine ⟨.v _, c1, ?_⟩; simp [go_sem]; (repeat first | refine hku ?_ | refine sw_seqk fun _ _ => ?_ | refine sw_reg ?_ | ((first | refine aops_k fun _ _ => ?_ | with_reducible refine rw_own ?_); simp [go_sem, hic, hir]; try go_ints) | refine sw_block ?_ | refine sw_t ?_ | refine sw_f ?_ | refine sw_e ?_ | refine ai ?_ | simp only [aops, thn, inB, ↓reduceIte, Nat.reduceEqDiff]))
        (refine ⟨.v _, m3, ?_⟩; simp [go_sem]; (repeat first | refine hku ?_ | refine sw_seqk fun _ _ => ?_ | refine sw_reg ?_ | ((first | refine aops_k fun _ _ => ?_ | with_reducible refine rw_own ?_); simp [go_sem, hir, hwr, hb]; try go_ints) | refine sw_block ?_ | refine sw_t ?_ | refine sw_f ?_ | refine sw_e ?_ | refine ai ?_ | simp only [aops, thn, inB, ↓reduceIte, Nat.reduceEqDiff]))
        refine ⟨k + 1, ⟨by omega, hnd⟩, by omega, ?_⟩; simp [go_sem]
      ·rw [decide_eq_false hnc] at c1; obtain ⟨g1, g2, g3, g4⟩ := hgo2 hic hnc
       (repeat first | refine hku ?_ | refine sw_seqk fun _ _ => ?_ | refine sw_reg ?_ | ((first | refine aops_k fun _ _ => ?_ | with_reducible refine rw_own ?_); simp [go_sem, hkl]; try go_ints) | refine sw_block ?_ | refine sw_t ?_ | refine sw_f ?_ | refine sw_e ?_ | refine ai ?_ | simp only [aops, thn, inB, ↓reduceIte, Nat.reduceEqDiff])
       (refine ⟨.v _, m1, ?_⟩; simp [go_sem]; (repeat first | refine hku ?_ | refine sw_seqk fun _ _ => ?_ | refine sw_reg ?_ | ((first | refine aops_k fun _ _ => ?_ | with_reducible refine rw_own ?_); simp [go_sem]; try go_ints) | refine sw_block ?_ | refine sw_t ?_ | refine sw_f ?_ | refine sw_e ?_ | refine ai ?_ | simp only [aops, thn, inB, ↓reduceIte, Nat.reduceEqDiff]))
       (refine ⟨.v _, m2, ?_⟩; simp [go_sem]; (repeat first | refine hku ?_ | refine sw_seqk fun _ _ => ?_ | refine sw_reg ?_ | ((first | refine aops_k fun _ _ => ?_ | with_reducible refine rw_own ?_); simp [go_sem, hic]; try go_ints) | refine sw_block ?_ | refine sw_t ?_ | refine sw_f ?_ | refine sw_e ?_ | refine ai ?_ | simp only [aops, thn, inB, ↓reduceIte, Nat.reduceEqDiff]))
       (refine ⟨.v _, c1, ?_⟩; simp [go_sem]; (repeat first | refine hku ?_ | refine sw_seqk fun _ _ => ?_ | refine sw_reg ?_ | ((first | refine aops_k fun _ _ => ?_ | with_reducible refine rw_own ?_); simp [go_sem, hic, hir]; try go_ints) | refine sw_block ?_ | refine sw_t ?_ | refine sw_f ?_ | refine sw_e ?_ | refine ai ?_ | simp only [aops, thn, inB, ↓reduceIte, Nat.reduceEqDiff]))
       refine ⟨(s.cuts[i], i + 1), ⟨(hcz i hic).1, (hcz i hic).2, .inl ⟨g3.symm, g1, g4⟩⟩, by simp only; omega, ?_⟩; simp [go_sem]
     ·have hf : Fre (zv s.cuts) a.v (a.v + (k : Int)) := hfr.2 (by omega) _
      cases hb : (s.rows[i])[w] with
      | true =>
       have hy := yes hf hb
       (repeat first | refine hku ?_ | refine sw_seqk fun _ _ => ?_ | refine sw_reg ?_ | ((first | refine aops_k fun _ _ => ?_ | with_reducible refine rw_own ?_); simp [go_sem, hkl]; try go_ints) | refine sw_block ?_ | refine sw_t ?_ | refine sw_f ?_ | refine sw_e ?_ | refine ai ?_ | simp only [aops, thn, inB, ↓reduceIte, Nat.reduceEqDiff])
       (refine ⟨.v _, m1, ?_⟩; simp [go_sem]; (repeat first | refine hku ?_ | refine sw_seqk fun _ _ => ?_ | refine sw_reg ?_ | ((first | refine aops_k fun _ _ => ?_ | with_reducible refine rw_own ?_); simp [go_sem]; try go_ints) | refine sw_block ?_ | refine sw_t ?_ | refine sw_f ?_ | refine sw_e ?_ | refine ai ?_ | simp only [aops, thn, inB, ↓reduceIte, Nat.reduceEqDiff]))
       (refine ⟨.v _, m2, ?_⟩; simp [go_sem]; (repeat first | refine hku ?_ | refine sw_seqk fun _ _ => ?_ | refine sw_reg ?_ | ((first | refine aops_k fun _ _ => ?_ | with_reducible refine rw_own ?_); simp [go_sem, hic, hir]; try go_ints) | refine sw_block ?_ | refine sw_t ?_ | refine sw_f ?_ | refine sw_e ?_ | refine ai ?_ | simp only [aops, thn, inB, ↓reduceIte, Nat.reduceEqDiff]))
       (refine ⟨.v _, m3, ?_⟩; simp [go_sem]; (repeat first | refine hku ?_ | refine sw_seqk fun _ _ => ?_ | refine sw_reg ?_ | ((first | refine aops_k fun _ _ => ?_ | with_reducible refine rw_own ?_); simp [go_sem, hir, hwr, hb]; try go_ints) | refine sw_block ?_ | refine sw_t ?_ | refine sw_f ?_ | refine sw_e ?_ | refine ai ?_ | simp only [aops, thn, inB, ↓reduceIte, Nat.reduceEqDiff]))
       simp [go_sem, hy, ← hn]
      | false =>
       have hnd := nd hf hb
       (repeat first | refine hku ?_ | refine sw_seqk fun _ _ => ?_ | refine sw_reg ?_ | ((first | refine aops_k fun _ _ => ?_ | with_reducible refine rw_own ?_); simp [go_sem, hkl]; try go_ints) | refine sw_block ?_ | refine sw_t ?_ | refine sw_f ?_ | refine sw_e ?_ | refine ai ?_ | simp only [aops, thn, inB, ↓reduceIte, Nat.reduceEqDiff])
       (refine ⟨.v _, m1, ?_⟩; simp [go_sem]; (repeat first | refine hku ?_ | refine sw_seqk fun _ _ => ?_ | refine sw_reg ?_ | ((first | refine aops_k fun _ _ => ?_ | with_reducible refine rw_own ?_); simp [go_sem]; try go_ints) | refine sw_block ?_ | refine sw_t ?_ | refine sw_f ?_ | refine sw_e ?_ | refine ai ?_ | simp only [aops, thn, inB, ↓reduceIte, Nat.reduceEqDiff]))
       (refine ⟨.v _, m2, ?_⟩; simp [go_sem]; (repeat first | refine hku ?_ | refine sw_seqk fun _ _ => ?_ | refine sw_reg ?_ | ((first | refine aops_k fun _ _ => ?_ | with_reducible refine rw_own ?_); simp [go_sem, hic, hir]; try go_ints) | refine sw_block ?_ | refine sw_t ?_ | refine sw_f ?_ | refine sw_e ?_ | refine ai ?_ | simp only [aops, thn, inB, ↓reduceIte, Nat.reduceEqDiff]))
       (refine ⟨.v _, m3, ?_⟩; simp [go_sem]; (repeat first | refine hku ?_ | refine sw_seqk fun _ _ => ?_ | refine sw_reg ?_ | ((first | refine aops_k fun _ _ => ?_ | with_reducible refine rw_own ?_); simp [go_sem, hir, hwr, hb]; try go_ints) | refine sw_block ?_ | refine sw_t ?_ | refine sw_f ?_ | refine sw_e ?_ | refine ai ?_ | simp only [aops, thn, inB, ↓reduceIte, Nat.reduceEqDiff]))
       refine ⟨k + 1, ⟨by omega, hnd⟩, by omega, ?_⟩; simp [go_sem]
    ·have hke : k = s.per := by omega
     have hD := hgo (fun z z1 z2 => dead_up hp0 (fun j hj => hd j (by omega)) z1 z2)
     by_cases hic : i < s.cuts.length
     ·obtain ⟨g1, g2, g3, g4⟩ := hD.1 hic
      (repeat first | refine hku ?_ | refine sw_seqk fun _ _ => ?_ | refine sw_reg ?_ | ((first | refine aops_k fun _ _ => ?_ | with_reducible refine rw_own ?_); simp [go_sem, hkl, hic]; try go_ints) | refine sw_block ?_ | refine sw_t ?_ | refine sw_f ?_ | refine sw_e ?_ | refine ai ?_ | simp only [aops, thn, inB, ↓reduceIte, Nat.reduceEqDiff])
      refine ⟨(s.cuts[i], i + 1), ⟨(hcz i hic).1, (hcz i hic).2, .inl ⟨g3.symm, g1, g4⟩⟩, by simp only; omega, ?_⟩; simp [go_sem]
     ·have g := hD.2 (by omega)
      (repeat first | refine hku ?_ | refine sw_seqk fun _ _ => ?_ | refine sw_reg ?_ | ((first | refine aops_k fun _ _ => ?_ | with_reducible refine rw_own ?_); simp [go_sem, hkl, hic]; try go_ints) | refine sw_block ?_ | refine sw_t ?_ | refine sw_f ?_ | refine sw_e ?_ | refine ai ?_ | simp only [aops, thn, inB, ↓reduceIte, Nat.reduceEqDiff])
      refine ⟨(a, i + 1), ⟨a1, a2, .inr ⟨by simp only; omega, g⟩⟩, by simp only; omega, ?_⟩; simp [go_sem]
  ·have he : nxtV s x = none := nxt_isn hs a4
   have hil : ¬ i ≤ s.cuts.length := by omega
   rw [he]; simp only [Option.getD_none, Option.isSome_none, cz0]
   (repeat first | refine hku ?_ | refine sw_seqk fun _ _ => ?_ | refine sw_reg ?_ | ((first | refine aops_k fun _ _ => ?_ | with_reducible refine rw_own ?_); simp [go_sem, hil]; try go_ints) | refine sw_block ?_ | refine sw_t ?_ | refine sw_f ?_ | refine sw_e ?_ | refine ai ?_ | simp only [aops, thn, inB, ↓reduceIte, Nat.reduceEqDiff])
   simp [go_sem, dN, he, cz0]

end Go.Proofs.YtpkfjbljhneenaaGreat

namespace Go.Proofs.YtpkfjbljhneenaaGreat
open Go.RowKit

theorem lst_fre {s : Ps} {N : Nat} (hs : s.ok N) (a : Int) : (∀ (t : Nat) (_ : plc (zv s.cuts) a = t + 1) (h : t < s.cuts.length), (s.cuts[t]).v ≤ a ∧ Fre (zv s.cuts) (s.cuts[t]).v a ∧ plc (zv s.cuts) ((s.cuts[t]).v - 1) = t) ∧ (plc (zv s.cuts) a = 0 → ∀ z, Fre (zv s.cuts) z a) := by
 have hl := zv_len s.cuts; obtain ⟨n1, n2⟩ := plc_prev hs.ris a; refine ⟨fun t ht h => ?_, n2⟩
 have hz : plc (zv s.cuts) a - 1 < (zv s.cuts).length := by omega
 obtain ⟨g1, g2⟩ := n1 hz (by omega)
 have e0 : plc (zv s.cuts) a - 1 = t := by omega
 simp only [e0] at g1 g2
 have e : (zv s.cuts)[t]'(by omega) = (s.cuts[t]).v := by rw [zv_at s.cuts _ h, zth_eq _ _ h]
 rw [e] at g1 g2; have g3 := plc_cut1 hs.ris (i := t) (by omega); rw [e] at g3; exact ⟨g1, g2, g3⟩
set_option maxRecDepth 4000 in
set_option maxHeartbeats 3200000 in
theorem nlast_v (s : Ps) (N : Nat) (hs : s.ok N) (hN : N ≤ 137438953472) (x : Z) (hx : x.mag.length ≤ 137438953473) : Fn Tryz.prog 16 [.g (dS s), .g (dZ x)] (.t [aZ true (cz ((lstV s x).getD 0)), .c (.b (lstV s x).isSome)]) := by
 refine Fn.intro' Tryz.func16 [.cell 4 25, .tmp 5] 64 fun hok => ?_
 have hzx := zl_of (ok_z (hok (.g (dZ x)) (by simp))); clear hok
 have hp0 := hs.per0; have hp1 := hs.per1; have hrows := hs.rows; have hcl := hs.len
 obtain ⟨xz, e1, e1v, e1l⟩ := czf x.v; have k1 := rnorm_v x (by omega); rw [← e1] at k1; have k2 := nwhere_v s N hs (by omega) xz (by omega); have hxl : xz.mag.length ≤ 137438953473 ∧ zl xz.v ≤ 137438953473 := ⟨by omega, by rw [e1v]; omega⟩
 have hpl : ∀ a, plc (zv s.cuts) a ≤ s.cuts.length := fun a => by have := plc_len (zv s.cuts) a; rw [zv_len] at this; exact this
 have hcz : ∀ i (h : i < s.cuts.length), (s.cuts[i]).mag.length ≤ 137438953472 ∧ zl (s.cuts[i]).v ≤ 137438953472 := fun i h => by
  obtain ⟨h1, h2⟩ := hs.cut _ (List.getElem_mem h); refine ⟨by omega, ?_⟩
  rw [← cz_len, h2]; omega
 have hrl : ∀ i (h : i < s.rows.length), (s.rows[i]).length = s.per := fun i h => hs.row _ (List.getElem_mem h)
 obtain ⟨one, o1, o1v, o1l⟩ := czf 1
 have z1 : zl 1 ≤ 1 := by decide
 have k3 := nnum_v 1 ⟨by omega, by omega⟩; rw [← o1] at k3
 have kC : ∀ t (h : t < s.cuts.length), ∃ cz' : Z, cz'.v = (s.cuts[t]).v - 1 ∧ cz'.mag.length ≤ 137438953473 ∧ zl cz'.v ≤ 137438953473 ∧ Fn Tryz.prog 43 [.g (dZ s.cuts[t]), .g (dZ one)] (gZ true cz') := fun t h => by
  obtain ⟨h1, h2⟩ := hcz t h; have h3 : zl ((s.cuts[t]).v - 1) ≤ 137438953473 := zl_sub h2 (by omega); have m := rsub_v s.cuts[t] one (by omega) (by omega); rw [o1v] at m; exact ⟨_, cz_v _, by rw [cz_len]; exact h3, by rw [cz_v]; exact h3, m⟩
 have kI : ∀ (a : Z) (k : Nat), k < s.per → a.mag.length ≤ 137438953473 → zl a.v ≤ 137438953473 → ∃ iz n : Z, ∃ w : Nat, w < s.per ∧ n = cz (a.v - (k : Int)) ∧ n.v = a.v - (k : Int) ∧ n.mag.length ≤ 137438953474 ∧ (w : Int) = (a.v - (k : Int)) % (s.per : Int) ∧
   Fn Tryz.prog 38 [.c (.i .i64 (k : Int))] (gZ true iz) ∧ Fn Tryz.prog 43 [.g (dZ a), .g (dZ iz)] (gZ true n) ∧ Fn Tryz.prog 46 [.g (dZ n), .c (.i .i64 (s.per : Int))] (.c (.i .i64 (w : Int))) := fun a k hk h1 h2 => by
  have zi : zl (k : Int) ≤ 1 := zl_small (by omega); have zj : zl (a.v - (k : Int)) ≤ 137438953474 := zl_sub h2 (by omega); have q1 := Int.emod_nonneg (a.v - (k : Int)) (show (s.per : Int) ≠ 0 by omega); have q2 := Int.emod_lt_of_pos (a.v - (k : Int)) (show (0 : Int) < (s.per : Int) by omega); have m1 := rsub_v a (cz (k : Int)) (by omega) (by rw [cz_len]; omega); rw [cz_v] at m1; have m2 := nmod_v (cz (a.v - (k : Int))) s.per hp0 (by omega) (by rw [cz_len]; omega); rw [cz_v] at m2; exact ⟨cz (k : Int), cz (a.v - (k : Int)), ((a.v - (k : Int)) % (s.per : Int)).toNat, by omega, rfl, cz_v _, by rw [cz_len]; exact zj, Int.toNat_of_nonneg q1, nnum_v (k : Int) ⟨by omega, by omega⟩, m1, by rw [Int.toNat_of_nonneg q1]; exact m2⟩
 clear o1 o1v o1l z1
 (repeat first | refine hku ?_ | refine sw_seqk fun _ _ => ?_ | refine sw_reg ?_ | ((first | refine aops_k fun _ _ => ?_ | with_reducible refine rw_own ?_); simp [go_sem]; try go_ints) | refine sw_block ?_ | refine sw_t ?_ | refine sw_f ?_ | refine sw_e ?_ | refine ai ?_ | simp only [aops, thn, inB, ↓reduceIte, Nat.reduceEqDiff])
 (refine ⟨.v _, k1, ?_⟩; simp [go_sem]; (repeat first | refine hku ?_ | refine sw_seqk fun _ _ => ?_ | refine sw_reg ?_ | ((first | refine aops_k fun _ _ => ?_ | with_reducible refine rw_own ?_); simp [go_sem]; try go_ints) | refine sw_block ?_ | refine sw_t ?_ | refine sw_f ?_ | refine sw_e ?_ | refine ai ?_ | simp only [aops, thn, inB, ↓reduceIte, Nat.reduceEqDiff]))
 (refine ⟨.v _, k2, ?_⟩; simp [go_sem]; (repeat first | refine hku ?_ | refine sw_seqk fun _ _ => ?_ | refine sw_reg ?_ | ((first | refine aops_k fun _ _ => ?_ | with_reducible refine rw_own ?_); simp [go_sem]; try go_ints) | refine sw_block ?_ | refine sw_t ?_ | refine sw_f ?_ | refine sw_e ?_ | refine ai ?_ | simp only [aops, thn, inB, ↓reduceIte, Nat.reduceEqDiff]))
 refine sw_loopv 7 (fun y : Z × Nat => [(7, .c (.i .i64 ((y.2 : Int) - 1)))]) (fun y => [(6, .x [.b y.1.neg, .l false (dN y.1.mag)])]) (fun y => y.1.mag.length ≤ 137438953473 ∧ zl y.1.v ≤ 137438953473 ∧ ((y.2 = plc (zv s.cuts) y.1.v + 1 ∧ y.1.v ≤ x.v ∧ ∀ z, z ≤ x.v → y.1.v < z → s.has z = false) ∨ (y.2 = 0 ∧ ∀ z, z ≤ x.v → s.has z = false))) (fun y => y.2) (xz, plc (zv s.cuts) xz.v + 1) ⟨hxl.1, hxl.2, .inl ⟨rfl, by rw [e1v]; exact Int.le_refl _, fun z h1 h2 => by rw [e1v] at h2; omega⟩⟩ ?_ ?_
 ·simp [go_sem]
 ·rintro ⟨a, i⟩ ⟨a1, a2, a3⟩; simp only at a1 a2 a3 ⊢
  rcases a3 with ⟨hi, a3, a4⟩ | ⟨hi, a4⟩
  ·obtain ⟨r, hr⟩ : ∃ r, r = plc (zv s.cuts) a.v := ⟨_, rfl⟩; rw [← hr] at hi; subst hi
   have hil : r ≤ s.cuts.length := by rw [hr]; exact hpl _
   have hir : r < s.rows.length := by omega
   have hrw := hrl r hir; have hfr := lst_fre hs a.v; rw [← hr] at hfr
   have found : ∀ (k w : Nat) (hwr : w < (s.rows[r]).length), (w : Int) = (a.v - (k : Int)) % (s.per : Int) → Fre (zv s.cuts) (a.v - (k : Int)) a.v → s.has (a.v - (k : Int)) = (s.rows[r])[w] := fun k w hwr hwv hf => by
    rw [has_rowd (by omega) hf, ← hr, rth_eq _ _ hir, ← hwv, Int.toNat_natCast, bth_eq _ _ hwr]
   have yes : ∀ (k : Nat), (∀ j : Nat, j < k → s.has (a.v - (j : Int)) = false) → s.has (a.v - (k : Int)) = true → lstV s x = some (a.v - (k : Int)) := fun k hd hb => by
    refine lst_is hs (by omega) hb fun z z1 z2 => ?_
    rcases Int.lt_or_le a.v z with h | h
    ·exact a4 z z1 h
    ·have := hd (a.v - z).toNat (by omega); rw [show a.v - ((a.v - z).toNat : Int) = z by omega] at this; exact this
   have nd : ∀ (k : Nat), (∀ j : Nat, j < k → s.has (a.v - (j : Int)) = false) → s.has (a.v - (k : Int)) = false → ∀ j : Nat, j < k + 1 → s.has (a.v - (j : Int)) = false := fun k hd hb j hj => by
    by_cases e : j = k
    ·subst e; exact hb
    ·exact hd j (by omega)
   cases r with
   | zero =>
    have hF := hfr.2 rfl
    (repeat first | refine hku ?_ | refine sw_seqk fun _ _ => ?_ | refine sw_reg ?_ | ((first | refine aops_k fun _ _ => ?_ | with_reducible refine rw_own ?_); simp [go_sem, hil]; try go_ints) | refine sw_block ?_ | refine sw_t ?_ | refine sw_f ?_ | refine sw_e ?_ | refine ai ?_ | simp only [aops, thn, inB, ↓reduceIte, Nat.reduceEqDiff])
    refine sw_loopv 8 (fun k : Nat => [(8, .c (.i .i64 (k : Int)))]) (fun _ => []) (fun k => k ≤ s.per ∧ ∀ j : Nat, j < k → s.has (a.v - (j : Int)) = false) (fun k => s.per - k) 0 ⟨Nat.zero_le _, fun j h => absurd h (Nat.not_lt_zero _)⟩ ?_ fun k ⟨hk, hd⟩ => ?_
    ·simp [go_sem]
    ·by_cases hkl : k < s.per
     ·obtain ⟨iz, n, w, hw, hn, hnv, hnl, hwv, m1, m2, m3⟩ := kI a k hkl a1 a2
      have hwr : w < (s.rows[0]).length := by omega
      have hf := found k w hwr hwv (hF _)
      cases hb : (s.rows[0])[w] with
      | true =>
       have hy := yes k hd (hf.trans hb)
       (repeat first | refine hku ?_ | refine sw_seqk fun _ _ => ?_ | refine sw_reg ?_ | ((first | refine aops_k fun _ _ => ?_ | with_reducible refine rw_own ?_); simp [go_sem, hkl]; try go_ints) | refine sw_block ?_ | refine sw_t ?_ | refine sw_f ?_ | refine sw_e ?_ | refine ai ?_ | simp only [aops, thn, inB, ↓reduceIte, Nat.reduceEqDiff])
       (refine ⟨.v _, m1, ?_⟩; simp [go_sem]; (repeat first | refine hku ?_ | refine sw_seqk fun _ _ => ?_ | refine sw_reg ?_ | ((first | refine aops_k fun _ _ => ?_ | with_reducible refine rw_own ?_); simp [go_sem]; try go_ints) | refine sw_block ?_ | refine sw_t ?_ | refine sw_f ?_ | refine sw_e ?_ | refine ai ?_ | simp only [aops, thn, inB, ↓reduceIte, Nat.reduceEqDiff]))
       (refine ⟨.v _, m2, ?_⟩; simp [go_sem]; (repeat first | refine hku ?_ | refine sw_seqk fun _ _ => ?_ | refine sw_reg ?_ | ((first | refine aops_k fun _ _ => ?_ | with_reducible refine rw_own ?_); simp [go_sem, hir]; try go_ints) | refine sw_block ?_ | refine sw_t ?_ | refine sw_f ?_ | refine sw_e ?_ | refine ai ?_ | simp only [aops, thn, inB, ↓reduceIte, Nat.reduceEqDiff]))
       (refine ⟨.v _, m3, ?_⟩; simp [go_sem]; (repeat first | refine hku ?_ | refine sw_seqk fun _ _ => ?_ | refine sw_reg ?_ | ((first | refine aops_k fun _ _ => ?_ | with_reducible refine rw_own ?_); simp [go_sem, hir, hwr, hb]; try go_ints) | refine sw_block ?_ | refine sw_t ?_ | refine sw_f ?_ | refine sw_e ?_ | refine ai ?_ | simp only [aops, thn, inB, ↓reduceIte, Nat.reduceEqDiff]))
       simp [go_sem, hy, ← hn]
      | false =>
       have hnd := nd k hd (hf.trans hb)
       (repeat first | refine hku ?_ | refine sw_seqk fun _ _ => ?_ | refine sw_reg ?_ | ((first | refine aops_k fun _ _ => ?_ | with_reducible refine rw_own ?_); simp [go_sem, hkl]; try go_ints) | refine sw_block ?_ | refine sw_t ?_ | refine sw_f ?_ | refine sw_e ?_ | refine ai ?_ | simp only [aops, thn, inB, ↓reduceIte, Nat.reduceEqDiff])
       (refine ⟨.v _, m1, ?_⟩; simp [go_sem]; (repeat first | refine hku ?_ | refine sw_seqk fun _ _ => ?_ | refine sw_reg ?_ | ((first | refine aops_k fun _ _ => ?_ | with_reducible refine rw_own ?_); simp [go_sem]; try go_ints) | refine sw_block ?_ | refine sw_t ?_ | refine sw_f ?_ | refine sw_e ?_ | refine ai ?_ | simp only [aops, thn, inB, ↓reduceIte, Nat.reduceEqDiff]))
       (refine ⟨.v _, m2, ?_⟩; simp [go_sem]; (repeat first | refine hku ?_ | refine sw_seqk fun _ _ => ?_ | refine sw_reg ?_ | ((first | refine aops_k fun _ _ => ?_ | with_reducible refine rw_own ?_); simp [go_sem, hir]; try go_ints) | refine sw_block ?_ | refine sw_t ?_ | refine sw_f ?_ | refine sw_e ?_ | refine ai ?_ | simp only [aops, thn, inB, ↓reduceIte, Nat.reduceEqDiff]))
       (refine ⟨.v _, m3, ?_⟩; simp [go_sem]; (repeat first | refine hku ?_ | refine sw_seqk fun _ _ => ?_ | refine sw_reg ?_ | ((first | refine aops_k fun _ _ => ?_ | with_reducible refine rw_own ?_); simp [go_sem, hir, hwr, hb]; try go_ints) | refine sw_block ?_ | refine sw_t ?_ | refine sw_f ?_ | refine sw_e ?_ | refine ai ?_ | simp only [aops, thn, inB, ↓reduceIte, Nat.reduceEqDiff]))
       refine ⟨k + 1, ⟨by omega, hnd⟩, by omega, ?_⟩; simp [go_sem]
     ·have g : ∀ z, z ≤ x.v → s.has z = false := fun z z1 => by
       rcases Int.lt_or_le a.v z with h | h
       ·exact a4 z z1 h
       ·exact dead_dn hp0 (fun j hj => hd j (by omega)) h (hF z)
      (repeat first | refine hku ?_ | refine sw_seqk fun _ _ => ?_ | refine sw_reg ?_ | ((first | refine aops_k fun _ _ => ?_ | with_reducible refine rw_own ?_); simp [go_sem, hkl]; try go_ints) | refine sw_block ?_ | refine sw_t ?_ | refine sw_f ?_ | refine sw_e ?_ | refine ai ?_ | simp only [aops, thn, inB, ↓reduceIte, Nat.reduceEqDiff])
      refine ⟨(a, 0), ⟨a1, a2, .inr ⟨rfl, g⟩⟩, by simp only; omega, ?_⟩; simp [go_sem]
   | succ t =>
    have htc : t < s.cuts.length := by omega
    obtain ⟨f1, f2, f3⟩ := hfr.1 t rfl htc; obtain ⟨c', c1, c2, c3, c4⟩ := kC t htc
    have hgo : (∀ z, (s.cuts[t]).v ≤ z → z ≤ a.v → s.has z = false) → c'.v ≤ x.v ∧ t + 1 = plc (zv s.cuts) c'.v + 1 ∧ ∀ z, z ≤ x.v → c'.v < z → s.has z = false := fun h => by
     refine ⟨by omega, by rw [c1, f3], fun z z1 z2 => ?_⟩
     rcases Int.lt_or_le a.v z with h5 | h5
     ·exact a4 z z1 h5
     ·exact h z (by omega) h5
    (repeat first | refine hku ?_ | refine sw_seqk fun _ _ => ?_ | refine sw_reg ?_ | ((first | refine aops_k fun _ _ => ?_ | with_reducible refine rw_own ?_); simp [go_sem, hil]; try go_ints) | refine sw_block ?_ | refine sw_t ?_ | refine sw_f ?_ | refine sw_e ?_ | refine ai ?_ | simp only [aops, thn, inB, ↓reduceIte, Nat.reduceEqDiff])
    refine sw_loopv 8 (fun k : Nat => [(8, .c (.i .i64 (k : Int)))]) (fun _ => []) (fun k => k ≤ s.per ∧ ∀ j : Nat, j < k → s.has (a.v - (j : Int)) = false) (fun k => s.per - k) 0 ⟨Nat.zero_le _, fun j h => absurd h (Nat.not_lt_zero _)⟩ ?_ fun k ⟨hk, hd⟩ => ?_
    ·simp [go_sem]
    ·by_cases hkl : k < s.per
     ·obtain ⟨iz, n, w, hw, hn, hnv, hnl, hwv, m1, m2, m3⟩ := kI a k hkl a1 a2
      have hwr : w < (s.rows[t + 1]).length := by omega
      have b1 := nbelow_v n s.cuts[t] (by omega) (by have := (hcz t htc).1; omega)
      by_cases hnc : n.v < (s.cuts[t]).v
      ·obtain ⟨g1, g2, g3⟩ := hgo fun z z1 z2 => by
        have := hd (a.v - z).toNat (by omega); rw [show a.v - ((a.v - z).toNat : Int) = z by omega] at this; exact this
       rw [decide_eq_true hnc] at b1
       (repeat first | refine hku ?_ | refine sw_seqk fun _ _ => ?_ | refine sw_reg ?_ | ((first | refine aops_k fun _ _ => ?_ | with_reducible refine rw_own ?_); simp [go_sem, hkl]; try go_ints) | refine sw_block ?_ | refine sw_t ?_ | refine sw_f ?_ | refine sw_e ?_ | refine ai ?_ | simp only [aops, thn, inB, ↓reduceIte, Nat.reduceEqDiff])
       (refine ⟨.v _, m1, ?_⟩; simp [go_sem]; (repeat first | refine hku ?_ | refine sw_seqk fun _ _ => ?_ | refine sw_reg ?_ | ((first | refine aops_k fun _ _ => ?_ | with_reducible refine rw_own ?_); simp [go_sem]; try go_ints) | refine sw_block ?_ | refine sw_t ?_ | refine sw_f ?_ | refine sw_e ?_ | refine ai ?_ | simp only [aops, thn, inB, ↓reduceIte, Nat.reduceEqDiff]))
       (refine ⟨.v _, m2, ?_⟩; simp [go_sem]; (repeat first | refine hku ?_ | refine sw_seqk fun _ _ => ?_ | refine sw_reg ?_ | ((first | refine aops_k fun _ _ => ?_ | with_reducible refine rw_own ?_); simp [go_sem, htc]; try go_ints) | refine sw_block ?_ | refine sw_t ?_ | refine sw_f ?_ | refine sw_e ?_ | refine ai ?_ | simp only [aops, thn, inB, ↓reduceIte, Nat.reduceEqDiff]))
       (refine ⟨.v _, b1, ?_⟩; simp [go_sem]; (repeat first | refine hku ?_ | refine sw_seqk fun _ _ => ?_ | refine sw_reg ?_ | ((first | refine aops_k fun _ _ => ?_ | with_reducible refine rw_own ?_); simp [go_sem, htc, hir]; try go_ints) | refine sw_block ?_ | refine sw_t ?_ | refine sw_f ?_ | refine sw_e ?_ | refine ai ?_ | simp only [aops, thn, inB, ↓reduceIte, Nat.reduceEqDiff]))
       (refine ⟨.v _, k3, ?_⟩; simp [go_sem]; (repeat first | refine hku ?_ | refine sw_seqk fun _ _ => ?_ | refine sw_reg ?_ | ((first | refine aops_k fun _ _ => ?_ | with_reducible refine rw_own ?_); simp [go_sem]; try go_ints) | refine sw_block ?_ | refine sw_t ?_ | refine sw_f ?_ | refine sw_e ?_ | refine ai ?_ | simp only [aops, thn, inB, ↓reduceIte, Nat.reduceEqDiff]))
       (refine ⟨.v _, c4, ?_⟩; simp [go_sem]; (repeat first | refine hku ?_ | refine sw_seqk fun _ _ => ?_ | refine sw_reg ?_ | ((first | refine aops_k fun _ _ => ?_ | with_reducible refine rw_own ?_); simp [go_sem]; try go_ints) | refine sw_block ?_ | refine sw_t ?_ | refine sw_f ?_ | refine sw_e ?_ | refine ai ?_ | simp only [aops, thn, inB, ↓reduceIte, Nat.reduceEqDiff]))
       refine ⟨(c', t + 1), ⟨c2, c3, .inl ⟨g2, g1, g3⟩⟩, by simp only; omega, ?_⟩; simp [go_sem]
      ·have hf := found k w hwr hwv (f2.mono (by omega) (Int.le_refl _)); rw [decide_eq_false hnc] at b1
       cases hb : (s.rows[t + 1])[w] with
       | true =>
        have hy := yes k hd (hf.trans hb)
        (repeat first | refine hku ?_ | refine sw_seqk fun _ _ => ?_ | refine sw_reg ?_ | ((first | refine aops_k fun _ _ => ?_ | with_reducible refine rw_own ?_); simp [go_sem, hkl]; try go_ints) | refine sw_block ?_ | refine sw_t ?_ | refine sw_f ?_ | refine sw_e ?_ | refine ai ?_ | simp only [aops, thn, inB, ↓reduceIte, Nat.reduceEqDiff])
        (refine ⟨.v _, m1, ?_⟩; simp [go_sem]; (repeat first | refine hku ?_ | refine sw_seqk fun _ _ => ?_ | refine sw_reg ?_ | ((first | refine aops_k fun _ _ => ?_ | with_reducible refine rw_own ?_); simp [go_sem]; try go_ints) | refine sw_block ?_ | refine sw_t ?_ | refine sw_f ?_ | refine sw_e ?_ | refine ai ?_ | simp only [aops, thn, inB, ↓reduceIte, Nat.reduceEqDiff]))
        (refine ⟨.v _, m2, ?_⟩; simp [go_sem]; (repeat first | refine hku ?_ | refine sw_seqk fun _ _ => ?_ | refine sw_reg ?_ | ((first | refine aops_k fun _ _ => ?_ | with_reducible refine rw_own ?_); simp [go_sem, htc]; try go_ints) | refine sw_block ?_ | refine sw_t ?_ | refine sw_f ?_ | refine sw_e ?_ | refine ai ?_ | simp only [aops, thn, inB, ↓reduceIte, Nat.reduceEqDiff]))
        (refine ⟨.v _, b1, ?_⟩; simp [go_sem]; (repeat first | refine hku ?_ | refine sw_seqk fun _ _ => ?_ | refine sw_reg ?_ | ((first | refine aops_k fun _ _ => ?_ | with_reducible refine rw_own ?_); simp [go_sem, htc, hir]; try go_ints) | refine sw_block ?_ | refine sw_t ?_ | refine sw_f ?_ | refine sw_e ?_ | refine ai ?_ | simp only [aops, thn, inB, ↓reduceIte, Nat.reduceEqDiff]))
        (refine ⟨.v _, m3, ?_⟩; simp [go_sem]; (repeat first | refine hku ?_ | refine sw_seqk fun _ _ => ?_ | refine sw_reg ?_ | ((first | refine aops_k fun _ _ => ?_ | with_reducible refine rw_own ?_); simp [go_sem, hir, hwr, hb]; try go_ints) | refine sw_block ?_ | refine sw_t ?_ | refine sw_f ?_ | refine sw_e ?_ | refine ai ?_ | simp only [aops, thn, inB, ↓reduceIte, Nat.reduceEqDiff]))
        simp [go_sem, hy, ← hn]
       | false =>
        have hnd := nd k hd (hf.trans hb)
        (repeat first | refine hku ?_ | refine sw_seqk fun _ _ => ?_ | refine sw_reg ?_ | ((first | refine aops_k fun _ _ => ?_ | with_reducible refine rw_own ?_); simp [go_sem, hkl]; try go_ints) | refine sw_block ?_ | refine sw_t ?_ | refine sw_f ?_ | refine sw_e ?_ | refine ai ?_ | simp only [aops, thn, inB, ↓reduceIte, Nat.reduceEqDiff])
        (refine ⟨.v _, m1, ?_⟩; simp [go_sem]; (repeat first | refine hku ?_ | refine sw_seqk fun _ _ => ?_ | refine sw_reg ?_ | ((first | refine aops_k fun _ _ => ?_ | with_reducible refine rw_own ?_); simp [go_sem]; try go_ints) | refine sw_block ?_ | refine sw_t ?_ | refine sw_f ?_ | refine sw_e ?_ | refine ai ?_ | simp only [aops, thn, inB, ↓reduceIte, Nat.reduceEqDiff]))
        (refine ⟨.v _, m2, ?_⟩; simp [go_sem]; (repeat first | refine hku ?_ | refine sw_seqk fun _ _ => ?_ | refine sw_reg ?_ | ((first | refine aops_k fun _ _ => ?_ | with_reducible refine rw_own ?_); simp [go_sem, htc]; try go_ints) | refine sw_block ?_ | refine sw_t ?_ | refine sw_f ?_ | refine sw_e ?_ | refine ai ?_ | simp only [aops, thn, inB, ↓reduceIte, Nat.reduceEqDiff]))
        (refine ⟨.v _, b1, ?_⟩; simp [go_sem]; (repeat first | refine hku ?_ | refine sw_seqk fun _ _ => ?_ | refine sw_reg ?_ | ((first | refine aops_k fun _ _ => ?_ | with_reducible refine rw_own ?_); simp [go_sem, htc, hir]; try go_ints) | refine sw_block ?_ | refine sw_t ?_ | refine sw_f ?_ | refine sw_e ?_ | refine ai ?_ | simp only [aops, thn, inB, ↓reduceIte, Nat.reduceEqDiff]))
        (refine ⟨.v _, m3, ?_⟩; simp [go_sem]; (repeat first | refine hku ?_ | refine sw_seqk fun _ _ => ?_ | refine sw_reg ?_ | ((first | refine aops_k fun _ _ => ?_ | with_reducible refine rw_own ?_); simp [go_sem, hir, hwr, hb]; try go_ints) | refine sw_block ?_ | refine sw_t ?_ | refine sw_f ?_ | refine sw_e ?_ | refine ai ?_ | simp only [aops, thn, inB, ↓reduceIte, Nat.reduceEqDiff]))
        refine ⟨k + 1, ⟨by omega, hnd⟩, by omega, ?_⟩; simp [go_sem]
     ·obtain ⟨g1, g2, g3⟩ := hgo fun z z1 z2 => dead_dn hp0 (fun j hj => hd j (by omega)) z2 (f2.mono z1 (Int.le_refl _))
      (repeat first | refine hku ?_ | refine sw_seqk fun _ _ => ?_ | refine sw_reg ?_ | ((first | refine aops_k fun _ _ => ?_ | with_reducible refine rw_own ?_); simp [go_sem, hkl, htc]; try go_ints) | refine sw_block ?_ | refine sw_t ?_ | refine sw_f ?_ | refine sw_e ?_ | refine ai ?_ | simp only [aops, thn, inB, ↓reduceIte, Nat.reduceEqDiff])
      (refine ⟨.v _, k3, ?_⟩; simp [go_sem]; (repeat first | refine hku ?_ | refine sw_seqk fun _ _ => ?_ | refine sw_reg ?_ | ((first | refine aops_k fun _ _ => ?_ | with_reducible refine rw_own ?_); simp [go_sem]; try go_ints) | refine sw_block ?_ | refine sw_t ?_ | refine sw_f ?_ | refine sw_e ?_ | refine ai ?_ | simp only [aops, thn, inB, ↓reduceIte, Nat.reduceEqDiff]))
      (refine ⟨.v _, c4, ?_⟩; simp [go_sem]; (repeat first | refine hku ?_ | refine sw_seqk fun _ _ => ?_ | refine sw_reg ?_ | ((first | refine aops_k fun _ _ => ?_ | with_reducible refine rw_own ?_); simp [go_sem]; try go_ints) | refine sw_block ?_ | refine sw_t ?_ | refine sw_f ?_ | refine sw_e ?_ | refine ai ?_ | simp only [aops, thn, inB, ↓reduceIte, Nat.reduceEqDiff]))
      refine ⟨(c', t + 1), ⟨c2, c3, .inl ⟨g2, g1, g3⟩⟩, by simp only; omega, ?_⟩; simp [go_sem]
  ·have he : lstV s x = none := lst_isn hs a4; subst hi; rw [he]
   (repeat first | refine hku ?_ | refine sw_seqk fun _ _ => ?_ | refine sw_reg ?_ | ((first | refine aops_k fun _ _ => ?_ | with_reducible refine rw_own ?_); simp [go_sem]; try go_ints) | refine sw_block ?_ | refine sw_t ?_ | refine sw_f ?_ | refine sw_e ?_ | refine ai ?_ | simp only [aops, thn, inB, ↓reduceIte, Nat.reduceEqDiff])
   simp [go_sem, dN, he, cz0]

end Go.Proofs.YtpkfjbljhneenaaGreat

namespace Go.Proofs.YtpkfjbljhneenaaGreat
open Go.RowKit

theorem zl_btw {x a b : Int} {B : Nat} (h1 : a ≤ x) (h2 : x ≤ b) (ha : zl a ≤ B) (hb : zl b ≤ B) : zl x ≤ B := by
 rcases Int.lt_or_le x 0 with h | h
 ·exact Nat.le_trans (zl_mono (by omega)) ha
 ·exact Nat.le_trans (zl_mono (by omega)) hb
set_option maxHeartbeats 1600000 in
theorem nlist_v (s : Ps) (N : Nat) (hs : s.ok N) (hN : N ≤ 137438953472) (lo hi : Z) (hlo : lo.mag.length ≤ 137438953472) (hhi : hi.mag.length ≤ 137438953472) (hzc : zl ((mbs s lo.v hi.v).length : Int) ≤ 137438953474) (b : Bool) (hb : b = decide (1000 < (mbs s lo.v hi.v).length)) :
  Fn Tryz.prog 12 [.g (dS s), .g (dZ lo), .g (dZ hi)] (if b then .t [.c .nl, .c (.i .i64 2)] else .t [.c (.l true ((mbs s lo.v hi.v).map fun y => dZ (cz y))), .c (.i .i64 0)]) := by
 refine Fn.intro' Tryz.func12 [.tmp 6, .tmp 7] 44 fun hok => ?_
 have hzl := Nat.le_trans (zl_of (ok_z (hok (.g (dZ lo)) (by simp)))) hlo; have hzh := Nat.le_trans (zl_of (ok_z (hok (.g (dZ hi)) (by simp)))) hhi; clear hok; have k1 := ncount_v s N hs hN lo hi hlo hhi; rw [mbs_cnt hs] at k1; obtain ⟨cn, e1, e1v, e1l⟩ := czf (((mbs s lo.v hi.v).length : Nat) : Int); rw [← e1] at k1; obtain ⟨th, e2, e2v, e2l⟩ := czf 1000; have k2 := nnum_v 1000 ⟨by omega, by omega⟩; rw [← e2] at k2
 have z2 : zl 1000 ≤ 1 := by decide
 have k3 := nbelow_v th cn (by omega) (by omega)
 have e3 : decide (th.v < cn.v) = b := by rw [hb, e2v, e1v]; exact decide_eq_decide.2 (by omega)
 rw [e3] at k3
 cases b with
 | true =>
  simp only [if_true]
  (repeat first | refine hku ?_ | refine sw_seqk fun _ _ => ?_ | refine sw_reg ?_ | ((first | refine aops_k fun _ _ => ?_ | with_reducible refine rw_own ?_); simp [go_sem]; try go_ints) | refine sw_block ?_ | refine sw_t ?_ | refine sw_f ?_ | refine sw_e ?_ | refine ai ?_ | simp only [aops, thn, inB, ↓reduceIte, Nat.reduceEqDiff])
  (refine ⟨.v _, k1, ?_⟩; simp [go_sem]; (repeat first | refine hku ?_ | refine sw_seqk fun _ _ => ?_ | refine sw_reg ?_ | ((first | refine aops_k fun _ _ => ?_ | with_reducible refine rw_own ?_); simp [go_sem]; try go_ints) | refine sw_block ?_ | refine sw_t ?_ | refine sw_f ?_ | refine sw_e ?_ | refine ai ?_ | simp only [aops, thn, inB, ↓reduceIte, Nat.reduceEqDiff]))
  (refine ⟨.v _, k2, ?_⟩; simp [go_sem]; (repeat first | refine hku ?_ | refine sw_seqk fun _ _ => ?_ | refine sw_reg ?_ | ((first | refine aops_k fun _ _ => ?_ | with_reducible refine rw_own ?_); simp [go_sem]; try go_ints) | refine sw_block ?_ | refine sw_t ?_ | refine sw_f ?_ | refine sw_e ?_ | refine ai ?_ | simp only [aops, thn, inB, ↓reduceIte, Nat.reduceEqDiff]))
  (refine ⟨.v _, k3, ?_⟩; simp [go_sem]; (repeat first | refine hku ?_ | refine sw_seqk fun _ _ => ?_ | refine sw_reg ?_ | ((first | refine aops_k fun _ _ => ?_ | with_reducible refine rw_own ?_); simp [go_sem]; try go_ints) | refine sw_block ?_ | refine sw_t ?_ | refine sw_f ?_ | refine sw_e ?_ | refine ai ?_ | simp only [aops, thn, inB, ↓reduceIte, Nat.reduceEqDiff]))
  simp [go_sem]
 | false =>
  have hle : (mbs s lo.v hi.v).length ≤ 1000 := by
   have := hb.symm; simp only [decide_eq_false_iff_not] at this
   omega
  simp only [Bool.false_eq_true, if_false]; obtain ⟨M, hM⟩ : ∃ M, M = mbs s lo.v hi.v := ⟨_, rfl⟩; rw [← hM] at hle ⊢
  have h0 : M = [] ++ mbs s lo.v hi.v := by simp [hM]
  obtain ⟨one, e4, e4v, e4l⟩ := czf 1
  have z4 : zl 1 ≤ 1 := by decide
  have k4 := nnum_v 1 ⟨by omega, by omega⟩; rw [← e4] at k4; clear hM hb e3 hzc e1 e1v e1l e2 e2v e2l z2 e4
  (repeat first | refine hku ?_ | refine sw_seqk fun _ _ => ?_ | refine sw_reg ?_ | ((first | refine aops_k fun _ _ => ?_ | with_reducible refine rw_own ?_); simp [go_sem]; try go_ints) | refine sw_block ?_ | refine sw_t ?_ | refine sw_f ?_ | refine sw_e ?_ | refine ai ?_ | simp only [aops, thn, inB, ↓reduceIte, Nat.reduceEqDiff])
  (refine ⟨.v _, k1, ?_⟩; simp [go_sem]; (repeat first | refine hku ?_ | refine sw_seqk fun _ _ => ?_ | refine sw_reg ?_ | ((first | refine aops_k fun _ _ => ?_ | with_reducible refine rw_own ?_); simp [go_sem]; try go_ints) | refine sw_block ?_ | refine sw_t ?_ | refine sw_f ?_ | refine sw_e ?_ | refine ai ?_ | simp only [aops, thn, inB, ↓reduceIte, Nat.reduceEqDiff]))
  (refine ⟨.v _, k2, ?_⟩; simp [go_sem]; (repeat first | refine hku ?_ | refine sw_seqk fun _ _ => ?_ | refine sw_reg ?_ | ((first | refine aops_k fun _ _ => ?_ | with_reducible refine rw_own ?_); simp [go_sem]; try go_ints) | refine sw_block ?_ | refine sw_t ?_ | refine sw_f ?_ | refine sw_e ?_ | refine ai ?_ | simp only [aops, thn, inB, ↓reduceIte, Nat.reduceEqDiff]))
  (refine ⟨.v _, k3, ?_⟩; simp [go_sem]; (repeat first | refine hku ?_ | refine sw_seqk fun _ _ => ?_ | refine sw_reg ?_ | ((first | refine aops_k fun _ _ => ?_ | with_reducible refine rw_own ?_); simp [go_sem]; try go_ints) | refine sw_block ?_ | refine sw_t ?_ | refine sw_f ?_ | refine sw_e ?_ | refine ai ?_ | simp only [aops, thn, inB, ↓reduceIte, Nat.reduceEqDiff]))
  refine sw_weak (le_own 10 1010 2 25 rfl rfl (by decide)) ?_; refine sw_loopv 10 (fun y : Z × List Int => [(10, .c (.r 1010 y.2.length)), (11, .c (.p 11 0))]) (fun y => [(11, .x [.b y.1.neg, .l false (dN y.1.mag)]), (1010, .r true 2 25 (y.2.map fun y => dZ (cz y)))]) (fun y => (y.1.mag.length ≤ 137438953473 ∧ zl y.1.v ≤ 137438953473) ∧ lo.v ≤ y.1.v ∧ M = y.2 ++ mbs s y.1.v hi.v) (fun y => (hi.v + 1 - y.1.v).toNat) (lo, []) ⟨⟨by simp only; omega, by simp only; omega⟩, Int.le_refl _, h0⟩ ?_ ?_
  ·simp [go_sem]
  ·rintro ⟨a, L⟩ ⟨⟨a1, a0⟩, a2, a3⟩; simp only at a1 a0 a2 a3 ⊢
   have hLl : L.length ≤ 1000 := by rw [a3, List.length_append] at hle; omega
   have c1 := nnext_v s N hs hN a a1
   cases hx : nxtV s a with
   | none =>
    have he : M = L := by rw [a3, mbs_none hs hx, List.append_nil]
    rw [hx] at c1; simp only [Option.getD_none, Option.isSome_none] at c1; have c2 := nbelow_v hi (cz 0) (by omega) (by rw [cz_len]; have : zl 0 = 0 := rfl; omega); generalize cz 0 = z0 at *
    (repeat first | refine hku ?_ | refine sw_seqk fun _ _ => ?_ | refine sw_reg ?_ | ((first | refine aops_k fun _ _ => ?_ | with_reducible refine rw_own ?_); simp [go_sem]; try go_ints) | refine sw_block ?_ | refine sw_t ?_ | refine sw_f ?_ | refine sw_e ?_ | refine ai ?_ | simp only [aops, thn, inB, ↓reduceIte, Nat.reduceEqDiff])
    (refine ⟨.v _, c1, ?_⟩; simp [go_sem]; (repeat first | refine hku ?_ | refine sw_seqk fun _ _ => ?_ | refine sw_reg ?_ | ((first | refine aops_k fun _ _ => ?_ | with_reducible refine rw_own ?_); simp [go_sem]; try go_ints) | refine sw_block ?_ | refine sw_t ?_ | refine sw_f ?_ | refine sw_e ?_ | refine ai ?_ | simp only [aops, thn, inB, ↓reduceIte, Nat.reduceEqDiff]))
    simp [go_sem, he]
   | some y =>
    rw [hx] at c1; simp only [Option.getD_some, Option.isSome_some] at c1; obtain ⟨g1, _, _⟩ := nxt_some hs hx
    have hyl : (cz y).mag.length ≤ 4398046511104 := by
     have := nxt_zl hs hx a0 (by omega) (by omega)
     rw [cz_len]; omega
    have c2 := nbelow_v hi (cz y) (by omega) hyl; rw [cz_v] at c2
    by_cases hy : hi.v < y
    ·have he : M = L := by rw [a3, mbs_far hs hx hy, List.append_nil]
     rw [decide_eq_true hy] at c2; generalize cz y = yz at *
     (repeat first | refine hku ?_ | refine sw_seqk fun _ _ => ?_ | refine sw_reg ?_ | ((first | refine aops_k fun _ _ => ?_ | with_reducible refine rw_own ?_); simp [go_sem]; try go_ints) | refine sw_block ?_ | refine sw_t ?_ | refine sw_f ?_ | refine sw_e ?_ | refine ai ?_ | simp only [aops, thn, inB, ↓reduceIte, Nat.reduceEqDiff])
     (refine ⟨.v _, c1, ?_⟩; simp [go_sem]; (repeat first | refine hku ?_ | refine sw_seqk fun _ _ => ?_ | refine sw_reg ?_ | ((first | refine aops_k fun _ _ => ?_ | with_reducible refine rw_own ?_); simp [go_sem]; try go_ints) | refine sw_block ?_ | refine sw_t ?_ | refine sw_f ?_ | refine sw_e ?_ | refine ai ?_ | simp only [aops, thn, inB, ↓reduceIte, Nat.reduceEqDiff]))
     (refine ⟨.v _, c2, ?_⟩; simp [go_sem]; (repeat first | refine hku ?_ | refine sw_seqk fun _ _ => ?_ | refine sw_reg ?_ | ((first | refine aops_k fun _ _ => ?_ | with_reducible refine rw_own ?_); simp [go_sem]; try go_ints) | refine sw_block ?_ | refine sw_t ?_ | refine sw_f ?_ | refine sw_e ?_ | refine ai ?_ | simp only [aops, thn, inB, ↓reduceIte, Nat.reduceEqDiff]))
     simp [go_sem, he]
    ·have hz := zl_btw (x := y) (by omega) (by omega) hzl hzh; have c3 := radd_v (cz y) one (by rw [cz_len]; omega) (by omega); rw [cz_v, e4v] at c3
     have hm : M = (L ++ [y]) ++ mbs s (y + 1) hi.v := by rw [a3, mbs_next hs hx hy]; simp
     have hz1 : zl (y + 1) ≤ 137438953473 := zl_add hz (by omega); obtain ⟨nz, n1, n2, n3⟩ := czf (y + 1); rw [← n1] at c3; rw [decide_eq_false hy] at c2; obtain ⟨yz, hyz⟩ : ∃ yz, yz = cz y := ⟨_, rfl⟩; rw [← hyz] at c1 c2 c3
     (repeat first | refine hku ?_ | refine sw_seqk fun _ _ => ?_ | refine sw_reg ?_ | ((first | refine aops_k fun _ _ => ?_ | with_reducible refine rw_own ?_); simp [go_sem]; try go_ints) | refine sw_block ?_ | refine sw_t ?_ | refine sw_f ?_ | refine sw_e ?_ | refine ai ?_ | simp only [aops, thn, inB, ↓reduceIte, Nat.reduceEqDiff])
     (refine ⟨.v _, c1, ?_⟩; simp [go_sem]; (repeat first | refine hku ?_ | refine sw_seqk fun _ _ => ?_ | refine sw_reg ?_ | ((first | refine aops_k fun _ _ => ?_ | with_reducible refine rw_own ?_); simp [go_sem]; try go_ints) | refine sw_block ?_ | refine sw_t ?_ | refine sw_f ?_ | refine sw_e ?_ | refine ai ?_ | simp only [aops, thn, inB, ↓reduceIte, Nat.reduceEqDiff]))
     (refine ⟨.v _, c2, ?_⟩; simp [go_sem]; (repeat first | refine hku ?_ | refine sw_seqk fun _ _ => ?_ | refine sw_reg ?_ | ((first | refine aops_k fun _ _ => ?_ | with_reducible refine rw_own ?_); simp [go_sem]; try go_ints) | refine sw_block ?_ | refine sw_t ?_ | refine sw_f ?_ | refine sw_e ?_ | refine ai ?_ | simp only [aops, thn, inB, ↓reduceIte, Nat.reduceEqDiff]))
     (refine ⟨.v _, k4, ?_⟩; simp [go_sem]; (repeat first | refine hku ?_ | refine sw_seqk fun _ _ => ?_ | refine sw_reg ?_ | ((first | refine aops_k fun _ _ => ?_ | with_reducible refine rw_own ?_); simp [go_sem]; try go_ints) | refine sw_block ?_ | refine sw_t ?_ | refine sw_f ?_ | refine sw_e ?_ | refine ai ?_ | simp only [aops, thn, inB, ↓reduceIte, Nat.reduceEqDiff]))
     (refine ⟨.v _, c3, ?_⟩; simp [go_sem]; (repeat first | refine hku ?_ | refine sw_seqk fun _ _ => ?_ | refine sw_reg ?_ | ((first | refine aops_k fun _ _ => ?_ | with_reducible refine rw_own ?_); simp [go_sem]; try go_ints) | refine sw_block ?_ | refine sw_t ?_ | refine sw_f ?_ | refine sw_e ?_ | refine ai ?_ | simp only [aops, thn, inB, ↓reduceIte, Nat.reduceEqDiff]))
     refine ⟨(nz, L ++ [y]), ⟨⟨by simp only; omega, by simp only [n2]; omega⟩, by simp only; omega, by simp only [n2]; exact hm⟩, by simp only; omega, ?_⟩; simp [go_sem, hyz]

end Go.Proofs.YtpkfjbljhneenaaGreat

namespace Go.Proofs.YtpkfjbljhneenaaGreat
open Go.RowKit

set_option maxHeartbeats 800000 in
theorem nleast_v (s : Ps) (N : Nat) (hs : s.ok N) (hN : N ≤ 137438953472) : Fn Tryz.prog 18 [.g (dS s)] (.t [aZ true (cz ((lstE s).getD 0)), .c (.b (lstE s).isSome)]) := by
 refine Fn.intro' Tryz.func18 [.cell 2 25, .tmp 3] 27 fun _ => ?_
 have hr := hs.rows; have hp1 := hs.per1; have hcl := hs.len
 have hr0 : 0 < s.rows.length := by omega
 have k1 := nempty_v s.rows[0] (by rw [hs.row _ (List.getElem_mem hr0)]; omega); rw [lstR hs, rth_eq _ _ hr0]
 cases h1 : emp s.rows[0] with
 | false =>
  rw [h1] at k1; simp only [Bool.not_false, Bool.true_or, if_true, Option.getD_none, Option.isSome_none, cz0]
  (repeat first | refine hku ?_ | refine sw_seqk fun _ _ => ?_ | refine sw_reg ?_ | ((first | refine aops_k fun _ _ => ?_ | with_reducible refine rw_own ?_); simp [go_sem, hr0]; try go_ints) | refine sw_block ?_ | refine sw_t ?_ | refine sw_f ?_ | refine sw_e ?_ | refine ai ?_ | simp only [aops, thn, inB, ↓reduceIte, Nat.reduceEqDiff])
  (refine ⟨.v _, k1, ?_⟩; simp [go_sem]; (repeat first | refine hku ?_ | refine sw_seqk fun _ _ => ?_ | refine sw_reg ?_ | ((first | refine aops_k fun _ _ => ?_ | with_reducible refine rw_own ?_); simp [go_sem]; try go_ints) | refine sw_block ?_ | refine sw_t ?_ | refine sw_f ?_ | refine sw_e ?_ | refine ai ?_ | simp only [aops, thn, inB, ↓reduceIte, Nat.reduceEqDiff]))
  simp [go_sem, dN, cz0]
 | true =>
  rw [h1] at k1
  by_cases h0 : s.cuts.length = 0
  ·have he : s.cuts = [] := List.eq_nil_of_length_eq_zero h0; simp only [Bool.not_true, Bool.false_or, h0, decide_true, if_true, Option.getD_none, Option.isSome_none, cz0]
   (repeat first | refine hku ?_ | refine sw_seqk fun _ _ => ?_ | refine sw_reg ?_ | ((first | refine aops_k fun _ _ => ?_ | with_reducible refine rw_own ?_); simp [go_sem, hr0]; try go_ints) | refine sw_block ?_ | refine sw_t ?_ | refine sw_f ?_ | refine sw_e ?_ | refine ai ?_ | simp only [aops, thn, inB, ↓reduceIte, Nat.reduceEqDiff])
   (refine ⟨.v _, k1, ?_⟩; simp [go_sem]; (repeat first | refine hku ?_ | refine sw_seqk fun _ _ => ?_ | refine sw_reg ?_ | ((first | refine aops_k fun _ _ => ?_ | with_reducible refine rw_own ?_); simp [go_sem, he]; try go_ints) | refine sw_block ?_ | refine sw_t ?_ | refine sw_f ?_ | refine sw_e ?_ | refine ai ?_ | simp only [aops, thn, inB, ↓reduceIte, Nat.reduceEqDiff]))
   simp [go_sem, dN, cz0]
  ·have hne : ¬ s.cuts = [] := fun e => h0 (by rw [e]; rfl)
   have hc0 : 0 < s.cuts.length := by omega
   have k2 := nnext_v s N hs hN s.cuts[0] (by have := (hs.cut _ (List.getElem_mem hc0)).1; omega)
   have e : (if (!true || decide (s.cuts.length = 0)) = true then none else nxtV s (zth s.cuts 0)) = nxtV s s.cuts[0] := by rw [zth_eq _ _ hc0]; simp [h0]
   rw [e]; generalize nxtV s s.cuts[0] = r at *; generalize cz (r.getD 0) = z at *; generalize r.isSome = b at *
   (repeat first | refine hku ?_ | refine sw_seqk fun _ _ => ?_ | refine sw_reg ?_ | ((first | refine aops_k fun _ _ => ?_ | with_reducible refine rw_own ?_); simp [go_sem, hr0]; try go_ints) | refine sw_block ?_ | refine sw_t ?_ | refine sw_f ?_ | refine sw_e ?_ | refine ai ?_ | simp only [aops, thn, inB, ↓reduceIte, Nat.reduceEqDiff])
   (refine ⟨.v _, k1, ?_⟩; simp [go_sem]; (repeat first | refine hku ?_ | refine sw_seqk fun _ _ => ?_ | refine sw_reg ?_ | ((first | refine aops_k fun _ _ => ?_ | with_reducible refine rw_own ?_); simp [go_sem, hne, hc0]; try go_ints) | refine sw_block ?_ | refine sw_t ?_ | refine sw_f ?_ | refine sw_e ?_ | refine ai ?_ | simp only [aops, thn, inB, ↓reduceIte, Nat.reduceEqDiff]))
   (refine ⟨.v _, k2, ?_⟩; simp [go_sem]; (repeat first | refine hku ?_ | refine sw_seqk fun _ _ => ?_ | refine sw_reg ?_ | ((first | refine aops_k fun _ _ => ?_ | with_reducible refine rw_own ?_); simp [go_sem]; try go_ints) | refine sw_block ?_ | refine sw_t ?_ | refine sw_f ?_ | refine sw_e ?_ | refine ai ?_ | simp only [aops, thn, inB, ↓reduceIte, Nat.reduceEqDiff]))
   simp [go_sem]

end Go.Proofs.YtpkfjbljhneenaaGreat
