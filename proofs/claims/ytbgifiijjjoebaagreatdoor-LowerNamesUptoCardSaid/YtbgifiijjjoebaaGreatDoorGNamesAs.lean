/- riddle/syntax: shaped, bare, none, depth. No conditions. riddleref04: term, zero, stands, names, none, Depth. No conditions. riddleref04: kids, May. No conditions. -/
import Derived.Test.YtbgifiijjjoebaaGreatDoorGNamesAp
import Derived.Test.YtbgifiijjjoebaaGreatDoorGNamesAr
namespace Go.Proofs.YtbgifiijjjoebaaGreatDoor
open Go.RowKit

attribute [go_sem] dTr_eq
theorem bare_v (n : Z) : Fn Tryz.prog 79 [.g (dZ n)] (.c (.b (bareB n))) := by
 refine Fn.intro' Tryz.func79 [.tmp 2] 12 fun _ => ?_
 have hl : (dN n.mag).length = n.mag.length := by simp [dN]
 unfold bareB dZ; rw [← hl]; generalize n.neg = p; generalize dN n.mag = l
 cases l
 all_goals
  cases p
  all_goals
   (repeat first | refine hku ?_ | refine sw_seqk fun _ _ => ?_ | refine sw_reg ?_ | (refine sw_reg2 ?_; conv in reord _ => simp [reord, freeO]) | ((first | refine aops_k fun _ _ => ?_ | with_reducible refine rw_own ?_); simp [go_sem]; try go_ints) | refine sw_block ?_ | refine sw_t ?_ | refine sw_f ?_ | refine sw_e ?_ | refine ai ?_ | simp only [aops, thn, inB, ↓reduceIte, Nat.reduceEqDiff])
   first
   | (simp [go_sem]; done)
   | (simp [go_sem]; omega)
theorem trs_ok {l : List (List D)} (h : D.Ok (.l l)) : l.length ≤ 9223372036854775807 := (ok_l.1 h).1
theorem kids_len {t : Tr} (h : ∀ d ∈ dTr t, D.Ok d) : t.kids.length ≤ 9223372036854775807 := by
 have := trs_ok (h (.l (t.kids.map dTr)) (by rw [dTr_eq]; simp))
 simpa using this
theorem names_len {t : Tr} (h : ∀ d ∈ dTr t, D.Ok d) : t.names.length ≤ 9223372036854775807 := by
 have := trs_ok (h (.l (dSs t.names)) (by rw [dTr_eq]; simp))
 simpa [dSs] using this
theorem name_size {t : Tr} (h : ∀ d ∈ dTr t, D.Ok d) : t.name.size ≤ 9223372036854775807 := ok_s.1 (h (.s t.name) (by rw [dTr_eq]; simp))
theorem names_size {t : Tr} (h : ∀ d ∈ dTr t, D.Ok d) : ∀ s ∈ t.names, s.size ≤ 9223372036854775807 := fun s hs => by
 have := (ok_l.1 (h (.l (dSs t.names)) (by rw [dTr_eq]; simp))).2 [.s s] (by simp only [dSs, List.mem_map]; exact ⟨s, hs, rfl⟩) (.s s) (by simp); exact ok_s.1 this
theorem noneB_eq (t : Tr) : noneB t = (decide (t.kind = 15) && bareB t.n || t.kids.any noneB) := by
 cases t with
 | mk k s ns n ks => rw [noneB, nonesB_any]; rfl
theorem none_ent : enterP Tryz.prog 43 = true := by kernel_rfl
set_option maxHeartbeats 3200000 in
theorem none_v (t : Tr) : Fn Tryz.prog 43 [.g (dTr t)] (.c (.b (noneB t))) := by
 refine Tr.ind (P := fun t => Fn Tryz.prog 43 [.g (dTr t)] (.c (.b (noneB t)))) (fun k s ns n ks ih => ?_) t; obtain ⟨t, rfl⟩ : ∃ t, t = Tr.mk k s ns n ks := ⟨_, rfl⟩
 refine Fn.intro' Tryz.func43 [.tmp 2] 16 fun hok => ?_
 have hok := hok (.g (dTr (.mk k s ns n ks))) (by simp); have hl := kids_len hok; have k1 := bare_v n
 have k2 := conT_m 43 ks noneB hl none_ent fun t ht => FnM.of_fn (ih t ht) (by intro m; rw [dTr_eq]; simp [go_sem])
 rw [noneB_eq, dTr_eq]; simp only [Tr.kind, Tr.name, Tr.names, Tr.n, Tr.kids]; generalize bareB n = p at *; generalize ks.any noneB = q at *
 by_cases h : k = 15
 ·(repeat first | refine hku ?_ | refine sw_seqk fun _ _ => ?_ | refine sw_reg ?_ | (refine sw_reg2 ?_; conv in reord _ => simp [reord, freeO]) | ((first | refine aops_k fun _ _ => ?_ | with_reducible refine rw_own ?_); simp [go_sem, h]; try go_ints) | refine sw_block ?_ | refine sw_t ?_ | refine sw_f ?_ | refine sw_e ?_ | refine ai ?_ | simp only [aops, thn, inB, ↓reduceIte, Nat.reduceEqDiff])
  (refine ⟨.v _, k1, ?_⟩; simp [go_sem]; (repeat first | refine hku ?_ | refine sw_seqk fun _ _ => ?_ | refine sw_reg ?_ | (refine sw_reg2 ?_; conv in reord _ => simp [reord, freeO]) | ((first | refine aops_k fun _ _ => ?_ | with_reducible refine rw_own ?_); simp [go_sem]; try go_ints) | refine sw_block ?_ | refine sw_t ?_ | refine sw_f ?_ | refine sw_e ?_ | refine ai ?_ | simp only [aops, thn, inB, ↓reduceIte, Nat.reduceEqDiff]))
  cases p
  ·simp
   (repeat first | refine hku ?_ | refine sw_seqk fun _ _ => ?_ | refine sw_reg ?_ | (refine sw_reg2 ?_; conv in reord _ => simp [reord, freeO]) | ((first | refine aops_k fun _ _ => ?_ | with_reducible refine rw_own ?_); simp [go_sem]; try go_ints) | refine sw_block ?_ | refine sw_t ?_ | refine sw_f ?_ | refine sw_e ?_ | refine ai ?_ | simp only [aops, thn, inB, ↓reduceIte, Nat.reduceEqDiff])
   refine callM_i k2 ?_; simp [go_sem]
   (repeat first | refine hku ?_ | refine sw_seqk fun _ _ => ?_ | refine sw_reg ?_ | (refine sw_reg2 ?_; conv in reord _ => simp [reord, freeO]) | ((first | refine aops_k fun _ _ => ?_ | with_reducible refine rw_own ?_); simp [go_sem]; try go_ints) | refine sw_block ?_ | refine sw_t ?_ | refine sw_f ?_ | refine sw_e ?_ | refine ai ?_ | simp only [aops, thn, inB, ↓reduceIte, Nat.reduceEqDiff])
   simp [go_sem, h]
  ·simp
   (repeat first | refine hku ?_ | refine sw_seqk fun _ _ => ?_ | refine sw_reg ?_ | (refine sw_reg2 ?_; conv in reord _ => simp [reord, freeO]) | ((first | refine aops_k fun _ _ => ?_ | with_reducible refine rw_own ?_); simp [go_sem]; try go_ints) | refine sw_block ?_ | refine sw_t ?_ | refine sw_f ?_ | refine sw_e ?_ | refine ai ?_ | simp only [aops, thn, inB, ↓reduceIte, Nat.reduceEqDiff])
   simp [go_sem, h]
 ·(repeat first | refine hku ?_ | refine sw_seqk fun _ _ => ?_ | refine sw_reg ?_ | (refine sw_reg2 ?_; conv in reord _ => simp [reord, freeO]) | ((first | refine aops_k fun _ _ => ?_ | with_reducible refine rw_own ?_); simp [go_sem, h]; try go_ints) | refine sw_block ?_ | refine sw_t ?_ | refine sw_f ?_ | refine sw_e ?_ | refine ai ?_ | simp only [aops, thn, inB, ↓reduceIte, Nat.reduceEqDiff])
  refine callM_i k2 ?_; simp [go_sem]
  (repeat first | refine hku ?_ | refine sw_seqk fun _ _ => ?_ | refine sw_reg ?_ | (refine sw_reg2 ?_; conv in reord _ => simp [reord, freeO]) | ((first | refine aops_k fun _ _ => ?_ | with_reducible refine rw_own ?_); simp [go_sem]; try go_ints) | refine sw_block ?_ | refine sw_t ?_ | refine sw_f ?_ | refine sw_e ?_ | refine ai ?_ | simp only [aops, thn, inB, ↓reduceIte, Nat.reduceEqDiff])
  simp [go_sem, h]
theorem depN_eq (t : Tr) : depN t = depsN t.kids + 1 := by
 cases t with
 | mk k s ns n ks => rw [depN]; rfl
mutual
def Tr.tall : Tr → Nat
 | .mk _ _ _ _ ks => talls ks + 1
def talls : List Tr → Nat
 | [] => 0
 | t :: r => t.tall + talls r
end
mutual
theorem dep_tall : ∀ t : Tr, depN t ≤ t.tall
 | .mk _ _ _ _ ks => by rw [depN, Tr.tall]; have := deps_talls ks; omega
theorem deps_talls : ∀ l : List Tr, depsN l ≤ talls l
 | [] => by simp [depsN, talls]
 | t :: r => by rw [depsN, talls]; have := dep_tall t; have := deps_talls r; omega
end
theorem tall_mem {t : Tr} : ∀ {l : List Tr}, t ∈ l → t.tall ≤ talls l
 | a :: r, h => by
  rw [talls]
  rcases List.mem_cons.1 h with rfl | h
  ·omega
  ·have := tall_mem h; omega
theorem tall_kids (t : Tr) : t.tall = talls t.kids + 1 := by
 cases t with
 | mk k s ns n ks => rw [Tr.tall]; rfl
theorem tall_kid {t u : Tr} (h : u ∈ t.kids) : u.tall < t.tall := by have h1 := tall_kids t; have := tall_mem h; omega
set_option maxHeartbeats 3200000 in
theorem depth_v (t : Tr) (ht : t.tall ≤ 4611686018427387904) : Fn Tryz.prog 44 [.g (dTr t)] (.c (.i .i64 (depN t : Nat))) := by
 revert ht
 refine Tr.ind (P := fun t => t.tall ≤ 4611686018427387904 → Fn Tryz.prog 44 [.g (dTr t)] (.c (.i .i64 (depN t : Nat)))) (fun k s ns n ks ih ht => ?_) t
 refine Fn.intro' Tryz.func44 [.tmp 2] 20 fun hok => ?_
 have hok := hok (.g (dTr (.mk k s ns n ks))) (by simp); have hl := kids_len hok
 have hih : ∀ i (h : i < ks.length), Fn Tryz.prog 44 [.g (dTr ks[i])] (.c (.i .i64 (depN ks[i] : Nat))) := fun i h => ih _ (List.getElem_mem h) (Nat.le_trans (Nat.le_of_lt (tall_kid (t := .mk k s ns n ks) (List.getElem_mem h))) ht)
 have hd : depsN ks < 4611686018427387904 := by
  have h1 := deps_talls ks; have h2 := tall_kids (.mk k s ns n ks); simp only [Tr.kids] at h2
  omega
 have hdk : ∀ i (h : i < ks.length), depN ks[i] ≤ depsN ks ∧ depsN (ks.take i) ≤ depsN ks ∧ depsN (ks.take (i + 1)) = max (depsN (ks.take i)) (depN ks[i]) := fun i h => by
  have key : ∀ l : List Tr, ∀ j, depsN (l.take j) ≤ depsN l := fun l => by
   induction l with
   | nil => intro j; simp [depsN]
   | cons a r ih => intro j; cases j with
    | zero => simp [depsN]
    | succ j => rw [List.take_succ_cons, depsN, depsN]; have := ih j; omega
  have h1 := depsN_take ks i h; have h2 := key ks (i + 1); exact ⟨by omega, key ks i, h1⟩
 rw [depN_eq, dTr_eq]; simp only [Tr.kind, Tr.name, Tr.names, Tr.n, Tr.kids] at *; simp only [dTr_eq] at hih
 have hend : depsN (ks.take ks.length) = depsN ks := by rw [List.take_length]
 obtain ⟨dk, hdk0⟩ : ∃ dk : Nat → Nat, dk = fun i => depsN (ks.take i) := ⟨_, rfl⟩
 have hz : dk 0 = 0 := by rw [hdk0]; simp [depsN]
 have hstep : ∀ i (h : i < ks.length), dk (i + 1) = max (dk i) (depN ks[i]) ∧ dk i < 4611686018427387904 ∧ depN ks[i] < 4611686018427387904 := fun i h => by
  rw [hdk0]; obtain ⟨h1, h2, h3⟩ := hdk i h; exact ⟨h3, by simp only; omega, by omega⟩
 have he : dk ks.length = depsN ks := by rw [hdk0]; exact hend
 clear hdk hdk0 hend ih
 (repeat first | refine hku ?_ | refine sw_seqk fun _ _ => ?_ | refine sw_reg ?_ | (refine sw_reg2 ?_; conv in reord _ => simp [reord, freeO]) | ((first | refine aops_k fun _ _ => ?_ | with_reducible refine rw_own ?_); simp [go_sem]; try go_ints) | refine sw_block ?_ | refine sw_t ?_ | refine sw_f ?_ | refine sw_e ?_ | refine ai ?_ | simp only [aops, thn, inB, ↓reduceIte, Nat.reduceEqDiff])
 refine sw_loopv 4 (fun i : Nat => [(3, .c (.i .i64 (dk i : Nat))), (7, .c (.l false (ks.map dTr))), (8, .c (.i .i64 (ks.length : Nat))), (9, .c (.i .i64 (i : Int)))]) (fun _ => []) (fun i => i ≤ ks.length) (fun i => ks.length - i) 0 (Nat.zero_le _) ?_ fun i hi => ?_
 ·simp [go_sem, hz]
 ·by_cases hlt : i < ks.length
  ·have k1 := hih i hlt; obtain ⟨h1, h2, h3⟩ := hstep i hlt; generalize depN ks[i] = e at *
   (repeat first | refine hku ?_ | refine sw_seqk fun _ _ => ?_ | refine sw_reg ?_ | (refine sw_reg2 ?_; conv in reord _ => simp [reord, freeO]) | ((first | refine aops_k fun _ _ => ?_ | with_reducible refine rw_own ?_); simp [go_sem, hlt]; try go_ints) | refine sw_block ?_ | refine sw_t ?_ | refine sw_f ?_ | refine sw_e ?_ | refine ai ?_ | simp only [aops, thn, inB, ↓reduceIte, Nat.reduceEqDiff])
   (refine ⟨.v _, k1, ?_⟩; simp [go_sem]; (repeat first | refine hku ?_ | refine sw_seqk fun _ _ => ?_ | refine sw_reg ?_ | (refine sw_reg2 ?_; conv in reord _ => simp [reord, freeO]) | ((first | refine aops_k fun _ _ => ?_ | with_reducible refine rw_own ?_); simp [go_sem]; try go_ints) | refine sw_block ?_ | refine sw_t ?_ | refine sw_f ?_ | refine sw_e ?_ | refine ai ?_ | simp only [aops, thn]))
   by_cases hc : dk i < e
   ·have hc' : (dk i : Int) < (e : Int) := by omega
    have : dk (i + 1) = e := by omega
    simp [hc]
    (repeat first | refine hku ?_ | refine sw_seqk fun _ _ => ?_ | refine sw_reg ?_ | (refine sw_reg2 ?_; conv in reord _ => simp [reord, freeO]) | ((first | refine aops_k fun _ _ => ?_ | with_reducible refine rw_own ?_); simp [go_sem, hc, hc']; try go_ints) | refine sw_block ?_ | refine sw_t ?_ | refine sw_f ?_ | refine sw_e ?_ | refine ai ?_ | simp only [aops, thn, inB, ↓reduceIte, Nat.reduceEqDiff])
    refine ⟨i + 1, by omega, by omega, ?_⟩; simp [go_sem, this]
   ·have hc' : ¬ (dk i : Int) < (e : Int) := by omega
    have : dk (i + 1) = dk i := by omega
    simp [hc]
    (repeat first | refine hku ?_ | refine sw_seqk fun _ _ => ?_ | refine sw_reg ?_ | (refine sw_reg2 ?_; conv in reord _ => simp [reord, freeO]) | ((first | refine aops_k fun _ _ => ?_ | with_reducible refine rw_own ?_); simp [go_sem, hc, hc']; try go_ints) | refine sw_block ?_ | refine sw_t ?_ | refine sw_f ?_ | refine sw_e ?_ | refine ai ?_ | simp only [aops, thn, inB, ↓reduceIte, Nat.reduceEqDiff])
    refine ⟨i + 1, by omega, by omega, ?_⟩; simp [go_sem, this]
  ·have : i = ks.length := by omega
   subst this
   (repeat first | refine hku ?_ | refine sw_seqk fun _ _ => ?_ | refine sw_reg ?_ | (refine sw_reg2 ?_; conv in reord _ => simp [reord, freeO]) | ((first | refine aops_k fun _ _ => ?_ | with_reducible refine rw_own ?_); simp [go_sem]; try go_ints) | refine sw_block ?_ | refine sw_t ?_ | refine sw_f ?_ | refine sw_e ?_ | refine ai ?_ | simp only [aops, thn, inB, ↓reduceIte, Nat.reduceEqDiff])
   simp [go_sem, he]
end Go.Proofs.YtbgifiijjjoebaaGreatDoor

namespace Go.Proofs.YtbgifiijjjoebaaGreatDoor
open Go.RowKit

theorem rterm_v (k : Int) : Fn Tryz.prog 36 [.c (.i .i64 k)] (.c (.b (termB k))) := by
 refine Fn.intro' Tryz.func36 [.tmp 2] 9 fun _ => ?_
 unfold termB
 by_cases h1 : 1 ≤ k <;> by_cases h2 : k ≤ 6
 all_goals
  (repeat first | refine hku ?_ | refine sw_seqk fun _ _ => ?_ | refine sw_reg ?_ | (refine sw_reg2 ?_; conv in reord _ => simp [reord, freeO]) | ((first | refine aops_k fun _ _ => ?_ | with_reducible refine rw_own ?_); simp [go_sem, h1, h2]; try go_ints) | refine sw_block ?_ | refine sw_t ?_ | refine sw_f ?_ | refine sw_e ?_ | refine ai ?_ | simp only [])
  simp [go_sem, h1, h2]
theorem rzero_v (n : Z) : Fn Tryz.prog 72 [.g (dZ n)] (.c (.b (bareB n))) := by
 refine Fn.intro' Tryz.func72 [.tmp 2] 12 fun _ => ?_
 have hl : (dN n.mag).length = n.mag.length := by simp [dN]
 unfold bareB dZ; rw [← hl]; generalize n.neg = p; generalize dN n.mag = l
 cases l
 all_goals
  cases p
  all_goals
   (repeat first | refine hku ?_ | refine sw_seqk fun _ _ => ?_ | refine sw_reg ?_ | (refine sw_reg2 ?_; conv in reord _ => simp [reord, freeO]) | ((first | refine aops_k fun _ _ => ?_ | with_reducible refine rw_own ?_); simp [go_sem]; try go_ints) | refine sw_block ?_ | refine sw_t ?_ | refine sw_f ?_ | refine sw_e ?_ | refine ai ?_ | simp only [aops, thn, inB, ↓reduceIte, Nat.reduceEqDiff])
   first
   | (simp [go_sem]; done)
   | (simp [go_sem]; omega)
theorem rstands_v (n : Z) : Fn Tryz.prog 71 [.g (dZ n)] (.c (.b (!n.neg && n.ok))) := by
 refine Fn.intro' Tryz.func71 [.tmp 2] 23 fun hok => ?_
 have hlm := trs_ok (hok (.g (dZ n)) (by simp) (.l (dN n.mag)) (by simp [dZ]))
 have hl : (dN n.mag).length = n.mag.length := by simp [dN]
 have hok2 : n.neg = false → n.ok = (decide (n.mag.length = 0) || nth n.mag (n.mag.length - 1) != 0) := fun h => by
  unfold Z.ok
  by_cases h0 : n.mag.length = 0
  ·simp [h0, h]
  ·simp [h0]
 have hlast : n.mag.length ≠ 0 → (dN n.mag)[n.mag.length - 1]? = some [D.i .u32 (nth n.mag (n.mag.length - 1) : Nat)] := fun h => by
  have : n.mag.length - 1 < n.mag.length := by omega
  simp [dN, nth, this]
 generalize n.ok = v at *; unfold dZ; rw [← hl] at hok2 hlast; generalize nth n.mag ((dN n.mag).length - 1) = x at *; generalize dN n.mag = l at *; generalize n.neg = p at *; clear hl hok
 cases p
 ·rw [hok2 rfl]
  by_cases h : l.length = 0
  ·have h' : l = [] := List.eq_nil_of_length_eq_zero h; subst h'
   (repeat first | refine hku ?_ | refine sw_seqk fun _ _ => ?_ | refine sw_reg ?_ | (refine sw_reg2 ?_; conv in reord _ => simp [reord, freeO]) | ((first | refine aops_k fun _ _ => ?_ | with_reducible refine rw_own ?_); simp [go_sem]; try go_ints) | refine sw_block ?_ | refine sw_t ?_ | refine sw_f ?_ | refine sw_e ?_ | refine ai ?_ | simp only [aops, thn, inB, ↓reduceIte, Nat.reduceEqDiff])
   simp [go_sem]
  ·have h1 := hlast h
   have h2 : ¬ l = [] := fun e => h (by rw [e]; rfl)
   have i1 : ¬ ((l.length : Nat) : Int) = 0 := by omega
   obtain ⟨m, hm⟩ : ∃ m, l.length = m + 1 := ⟨l.length - 1, by omega⟩; rw [hm] at h1 hlm; simp only [Nat.add_sub_cancel] at h1
   have h3 : m < l.length := by omega
   have h4 : l[m] = [D.i .u32 (x : Nat)] := by rw [List.getElem?_eq_getElem h3] at h1; injection h1
   have i2 : ¬ (m : Int) + 1 = 0 := by omega
   have i3 : ((m : Int) + 1 - 1).toNat = m := by omega
   have hx : decide ((x : Int) = 0) = decide (x = 0) := by rw [Bool.eq_iff_iff]; simp
   (repeat first | refine hku ?_ | refine sw_seqk fun _ _ => ?_ | refine sw_reg ?_ | (refine sw_reg2 ?_; conv in reord _ => simp [reord, freeO]) | ((first | refine aops_k fun _ _ => ?_ | with_reducible refine rw_own ?_); simp [go_sem, hm, h4, i2]; try go_ints) | refine sw_block ?_ | refine sw_t ?_ | refine sw_f ?_ | refine sw_e ?_ | refine ai ?_ | simp only [aops, thn, inB, ↓reduceIte, Nat.reduceEqDiff])
   simp [go_sem, hm]
   by_cases hx0 : x = 0 <;> simp [hx0]
 ·(repeat first | refine hku ?_ | refine sw_seqk fun _ _ => ?_ | refine sw_reg ?_ | (refine sw_reg2 ?_; conv in reord _ => simp [reord, freeO]) | ((first | refine aops_k fun _ _ => ?_ | with_reducible refine rw_own ?_); simp [go_sem]; try go_ints) | refine sw_block ?_ | refine sw_t ?_ | refine sw_f ?_ | refine sw_e ?_ | refine ai ?_ | simp only [aops, thn, inB, ↓reduceIte, Nat.reduceEqDiff])
  simp [go_sem]
set_option maxHeartbeats 3200000 in
theorem rnames_v (l : List ByteArray) : Fn Tryz.prog 70 [.c (.l (dSs l))] (.c (.b (l.all nameB && decide (0 < l.length)))) := by
 refine Fn.intro' Tryz.func70 [.tmp 2] 21 fun hok => ?_
 have hok := hok (.c (.l (dSs l))) (by simp); have hlm := trs_ok hok; rw [dSs_len] at hlm
 have hsz : ∀ s ∈ l, s.size ≤ 9223372036854775807 := fun s hs => ok_s.1 ((ok_l.1 hok).2 [.s s] (by simp only [dSs, List.mem_map]; exact ⟨s, hs, rfl⟩) (.s s) (by simp))
 clear hok
 have hno : ∀ i (h : i < l.length), nameB l[i] = false → l.all nameB = false := fun i h hn => List.all_eq_false.2 ⟨_, List.getElem_mem h, by rw [hn]; decide⟩
 have hall : (∀ j (h : j < l.length), nameB l[j] = true) → l.all nameB = true := fun h => List.all_eq_true.2 fun s hs => by
  obtain ⟨j, hj, rfl⟩ := List.getElem_of_mem hs; exact h j hj
 generalize l.all nameB = q at *
 (repeat first | refine hku ?_ | refine sw_seqk fun _ _ => ?_ | refine sw_reg ?_ | (refine sw_reg2 ?_; conv in reord _ => simp [reord, freeO]) | ((first | refine aops_k fun _ _ => ?_ | with_reducible refine rw_own ?_); simp [go_sem]; try go_ints) | refine sw_block ?_ | refine sw_t ?_ | refine sw_f ?_ | refine sw_e ?_ | refine ai ?_ | simp only [aops, thn, inB, ↓reduceIte, Nat.reduceEqDiff])
 refine sw_loopv 4 (fun i : Nat => [(3, .c (.i .i64 (i : Int)))]) (fun _ => []) (fun i => i ≤ l.length ∧ ∀ j (hj : j < l.length), j < i → nameB l[j] = true) (fun i => l.length - i) 0 ⟨Nat.zero_le _, fun j _ h => absurd h (Nat.not_lt_zero _)⟩ ?_ fun i ⟨hi, ht⟩ => ?_
 ·simp [go_sem]
 ·by_cases hlt : i < l.length
  ·have k1 := risname_v l[i] (hsz _ (List.getElem_mem hlt)); have h1 := hno i hlt
   have h2 : nameB l[i] = true → ∀ j (hj : j < l.length), j < i + 1 → nameB l[j] = true := fun h j hj hji => by
    by_cases e : j = i
    ·subst e; exact h
    ·exact ht j hj (by omega)
   generalize nameB l[i] = p at *
   (repeat first | refine hku ?_ | refine sw_seqk fun _ _ => ?_ | refine sw_reg ?_ | (refine sw_reg2 ?_; conv in reord _ => simp [reord, freeO]) | ((first | refine aops_k fun _ _ => ?_ | with_reducible refine rw_own ?_); simp [go_sem, hlt, dSs_len, dSs_get]; try go_ints) | refine sw_block ?_ | refine sw_t ?_ | refine sw_f ?_ | refine sw_e ?_ | refine ai ?_ | simp only [aops, thn, inB, ↓reduceIte, Nat.reduceEqDiff])
   (refine ⟨.v _, k1, ?_⟩; simp [go_sem]; (repeat first | refine hku ?_ | refine sw_seqk fun _ _ => ?_ | refine sw_reg ?_ | (refine sw_reg2 ?_; conv in reord _ => simp [reord, freeO]) | ((first | refine aops_k fun _ _ => ?_ | with_reducible refine rw_own ?_); simp [go_sem]; try go_ints) | refine sw_block ?_ | refine sw_t ?_ | refine sw_f ?_ | refine sw_e ?_ | refine ai ?_ | simp only [aops, thn, inB, ↓reduceIte, Nat.reduceEqDiff]))
   cases p
   ·(repeat first | refine hku ?_ | refine sw_seqk fun _ _ => ?_ | refine sw_reg ?_ | (refine sw_reg2 ?_; conv in reord _ => simp [reord, freeO]) | ((first | refine aops_k fun _ _ => ?_ | with_reducible refine rw_own ?_); simp [go_sem]; try go_ints) | refine sw_block ?_ | refine sw_t ?_ | refine sw_f ?_ | refine sw_e ?_ | refine ai ?_ | simp only [thn, inB])
    simp [go_sem, h1 rfl]
   ·(repeat first | refine hku ?_ | refine sw_seqk fun _ _ => ?_ | refine sw_reg ?_ | (refine sw_reg2 ?_; conv in reord _ => simp [reord, freeO]) | ((first | refine aops_k fun _ _ => ?_ | with_reducible refine rw_own ?_); simp [go_sem]; try go_ints) | refine sw_block ?_ | refine sw_t ?_ | refine sw_f ?_ | refine sw_e ?_ | refine ai ?_ | simp only [aops, thn])
    refine ⟨i + 1, ⟨by omega, h2 rfl⟩, by omega, ?_⟩; simp [go_sem]
  ·have := hall fun j hj => ht j hj (by omega)
   subst this
   (repeat first | refine hku ?_ | refine sw_seqk fun _ _ => ?_ | refine sw_reg ?_ | (refine sw_reg2 ?_; conv in reord _ => simp [reord, freeO]) | ((first | refine aops_k fun _ _ => ?_ | with_reducible refine rw_own ?_); simp [go_sem, hlt, dSs_len]; try go_ints) | refine sw_block ?_ | refine sw_t ?_ | refine sw_f ?_ | refine sw_e ?_ | refine ai ?_ | simp only [aops, thn, inB, ↓reduceIte, Nat.reduceEqDiff])
   simp [go_sem]
theorem noneB_mk (k : Int) (s : ByteArray) (ns : List ByteArray) (n : Z) (ks : List Tr) : noneB (.mk k s ns n ks) = (decide (k = 15) && bareB n || ks.any noneB) := by rw [noneB, nonesB_any]
set_option maxHeartbeats 3200000 in
theorem rnone_v4 (t : Tr) : Fn Tryz.prog 38 [.g (dTr t)] (.c (.b (noneB t))) := by
 refine Tr.ind (P := fun t => Fn Tryz.prog 38 [.g (dTr t)] (.c (.b (noneB t)))) (fun k s ns n ks ih => ?_) t
 refine Fn.intro' Tryz.func38 [.tmp 2] 32 fun hok => ?_
 have hok := hok (.g (dTr (.mk k s ns n ks))) (by simp); have hl := kids_len hok; have k1 := rzero_v n
 have hih : ∀ i (h : i < ks.length), Fn Tryz.prog 38 [.g (dTr ks[i])] (.c (.b (noneB ks[i]))) := fun i h => ih _ (List.getElem_mem h)
 rw [noneB_mk, dTr_eq]; simp only [Tr.kind, Tr.name, Tr.names, Tr.n, Tr.kids] at *; simp only [dTr_eq] at hih
 obtain ⟨f, hf⟩ : ∃ f : Nat → Bool, f = fun i => (decide (k = 15) && bareB n || (ks.take i).any noneB) := ⟨_, rfl⟩
 have hz : f 0 = (decide (k = 15) && bareB n) := by rw [hf]; simp
 have hstep : ∀ i (h : i < ks.length), f (i + 1) = (f i || noneB ks[i]) := fun i h => by
  rw [hf]; simp only [List.take_succ_eq_append_getElem h, List.any_append, List.any_cons, List.any_nil, Bool.or_false, Bool.or_assoc]
 have he : f ks.length = (decide (k = 15) && bareB n || ks.any noneB) := by rw [hf]; simp
 rw [← he]; clear hf he ih; generalize bareB n = p at *
 by_cases h : k = 15
 all_goals
  simp only [h, decide_true, decide_false, Bool.true_and, Bool.false_and] at hz
  (repeat first | refine hku ?_ | refine sw_seqk fun _ _ => ?_ | refine sw_reg ?_ | (refine sw_reg2 ?_; conv in reord _ => simp [reord, freeO]) | ((first | refine aops_k fun _ _ => ?_ | with_reducible refine rw_own ?_); simp [go_sem, h]; try go_ints) | refine sw_block ?_ | refine sw_t ?_ | refine sw_f ?_ | refine sw_e ?_ | refine ai ?_ | simp only [aops, thn, inB, ↓reduceIte, Nat.reduceEqDiff])
  try
   (refine ⟨.v _, k1, ?_⟩; simp [go_sem]; (repeat first | refine hku ?_ | refine sw_seqk fun _ _ => ?_ | refine sw_reg ?_ | (refine sw_reg2 ?_; conv in reord _ => simp [reord, freeO]) | ((first | refine aops_k fun _ _ => ?_ | with_reducible refine rw_own ?_); simp [go_sem]; try go_ints) | refine sw_block ?_ | refine sw_t ?_ | refine sw_f ?_ | refine sw_e ?_ | refine ai ?_ | simp only [aops, thn, inB, ↓reduceIte, Nat.reduceEqDiff]))
  refine sw_loopv 4 (fun i : Nat => [(3, .c (.b (f i))), (4, .c (.i .i64 (i : Int)))]) (fun _ => []) (fun i => i ≤ ks.length) (fun i => ks.length - i) 0 (Nat.zero_le _) ?_ fun i hi => ?_
  ·simp [go_sem, hz]
  ·by_cases hlt : i < ks.length
   ·have k2 := hih i hlt; have hs := hstep i hlt; generalize noneB ks[i] = e at *; generalize f i = fi at *
    (repeat first | refine hku ?_ | refine sw_seqk fun _ _ => ?_ | refine sw_reg ?_ | (refine sw_reg2 ?_; conv in reord _ => simp [reord, freeO]) | ((first | refine aops_k fun _ _ => ?_ | with_reducible refine rw_own ?_); simp [go_sem, hlt]; try go_ints) | refine sw_block ?_ | refine sw_t ?_ | refine sw_f ?_ | refine sw_e ?_ | refine ai ?_ | simp only [aops, thn, inB, ↓reduceIte, Nat.reduceEqDiff])
    (refine ⟨.v _, k2, ?_⟩; simp [go_sem]; (repeat first | refine hku ?_ | refine sw_seqk fun _ _ => ?_ | refine sw_reg ?_ | (refine sw_reg2 ?_; conv in reord _ => simp [reord, freeO]) | ((first | refine aops_k fun _ _ => ?_ | with_reducible refine rw_own ?_); simp [go_sem]; try go_ints) | refine sw_block ?_ | refine sw_t ?_ | refine sw_f ?_ | refine sw_e ?_ | refine ai ?_ | simp only [aops, thn, inB, ↓reduceIte, Nat.reduceEqDiff]))
    cases fi
    all_goals
     simp
     (repeat first | refine hku ?_ | refine sw_seqk fun _ _ => ?_ | refine sw_reg ?_ | (refine sw_reg2 ?_; conv in reord _ => simp [reord, freeO]) | ((first | refine aops_k fun _ _ => ?_ | with_reducible refine rw_own ?_); simp [go_sem]; try go_ints) | refine sw_block ?_ | refine sw_t ?_ | refine sw_f ?_ | refine sw_e ?_ | refine ai ?_ | simp only [aops, thn])
     refine ⟨i + 1, by omega, by omega, ?_⟩; simp [go_sem, hs]
   ·have : i = ks.length := by omega
    subst this
    (repeat first | refine hku ?_ | refine sw_seqk fun _ _ => ?_ | refine sw_reg ?_ | (refine sw_reg2 ?_; conv in reord _ => simp [reord, freeO]) | ((first | refine aops_k fun _ _ => ?_ | with_reducible refine rw_own ?_); simp [go_sem]; try go_ints) | refine sw_block ?_ | refine sw_t ?_ | refine sw_f ?_ | refine sw_e ?_ | refine ai ?_ | simp only [aops, thn, inB, ↓reduceIte, Nat.reduceEqDiff])
    simp [go_sem]
theorem dep_steps {k : Int} {s : ByteArray} {ns : List ByteArray} {n : Z} {ks : List Tr} (ht : (Tr.mk k s ns n ks).tall ≤ 4611686018427387904) : ∃ dk : Nat → Nat, dk 0 = 0 ∧ (∀ i (h : i < ks.length), dk (i + 1) = max (dk i) (depN ks[i]) ∧ dk i < 4611686018427387904 ∧ depN ks[i] < 4611686018427387904) ∧ dk ks.length = depsN ks ∧ depsN ks < 4611686018427387904 := by
 have hd : depsN ks < 4611686018427387904 := by
  have h1 := deps_talls ks; have h2 := tall_kids (.mk k s ns n ks); simp only [Tr.kids] at h2
  omega
 have key : ∀ l : List Tr, ∀ j, depsN (l.take j) ≤ depsN l := fun l => by
  induction l with
  | nil => intro j; simp [depsN]
  | cons a r ih => intro j; cases j with
   | zero => simp [depsN]
   | succ j => rw [List.take_succ_cons, depsN, depsN]; have := ih j; omega
 refine ⟨fun i => depsN (ks.take i), by simp [depsN], fun i h => ?_, by simp, hd⟩; have h1 := depsN_take ks i h; have h2 := key ks (i + 1); have h3 := key ks i; exact ⟨h1, by simp only; omega, by omega⟩
theorem depN_mk (k : Int) (s : ByteArray) (ns : List ByteArray) (n : Z) (ks : List Tr) : depN (.mk k s ns n ks) = depsN ks + 1 := by rw [depN]
set_option maxHeartbeats 3200000 in
theorem rdepth_v (t : Tr) (ht : t.tall ≤ 4611686018427387904) : Fn Tryz.prog 39 [.g (dTr t)] (.c (.i .i64 (depN t : Nat))) := by
 revert ht
 refine Tr.ind (P := fun t => t.tall ≤ 4611686018427387904 → Fn Tryz.prog 39 [.g (dTr t)] (.c (.i .i64 (depN t : Nat)))) (fun k s ns n ks ih ht => ?_) t
 refine Fn.intro' Tryz.func39 [.tmp 2] 25 fun hok => ?_
 have hok := hok (.g (dTr (.mk k s ns n ks))) (by simp); have hl := kids_len hok
 have hih : ∀ i (h : i < ks.length), Fn Tryz.prog 39 [.g (dTr ks[i])] (.c (.i .i64 (depN ks[i] : Nat))) := fun i h => ih _ (List.getElem_mem h) (Nat.le_trans (Nat.le_of_lt (tall_kid (t := .mk k s ns n ks) (List.getElem_mem h))) ht)
 obtain ⟨dk, hz, hstep, he, hb⟩ := dep_steps ht; rw [depN_mk, dTr_eq]; simp only [Tr.kind, Tr.name, Tr.names, Tr.n, Tr.kids] at *; simp only [dTr_eq] at hih; clear ih
 (repeat first | refine hku ?_ | refine sw_seqk fun _ _ => ?_ | refine sw_reg ?_ | (refine sw_reg2 ?_; conv in reord _ => simp [reord, freeO]) | ((first | refine aops_k fun _ _ => ?_ | with_reducible refine rw_own ?_); simp [go_sem]; try go_ints) | refine sw_block ?_ | refine sw_t ?_ | refine sw_f ?_ | refine sw_e ?_ | refine ai ?_ | simp only [aops, thn, inB, ↓reduceIte, Nat.reduceEqDiff])
 refine sw_loopv 4 (fun i : Nat => [(3, .c (.i .i64 (dk i : Nat))), (4, .c (.i .i64 (i : Int)))]) (fun _ => []) (fun i => i ≤ ks.length) (fun i => ks.length - i) 0 (Nat.zero_le _) ?_ fun i hi => ?_
 ·simp [go_sem, hz]
 ·by_cases hlt : i < ks.length
  ·have k1 := hih i hlt; obtain ⟨h1, h2, h3⟩ := hstep i hlt; generalize depN ks[i] = e at *
   by_cases hc : dk i < e
   all_goals
    first
    | have hc' : (dk i : Int) < (e : Int) := by omega
    | have hc' : ¬ (dk i : Int) < (e : Int) := by omega
    (repeat first | refine hku ?_ | refine sw_seqk fun _ _ => ?_ | refine sw_reg ?_ | (refine sw_reg2 ?_; conv in reord _ => simp [reord, freeO]) | ((first | refine aops_k fun _ _ => ?_ | with_reducible refine rw_own ?_); simp [go_sem, hlt]; try go_ints) | refine sw_block ?_ | refine sw_t ?_ | refine sw_f ?_ | refine sw_e ?_ | refine ai ?_ | simp only [aops, thn, inB, ↓reduceIte, Nat.reduceEqDiff])
    (refine ⟨.v _, k1, ?_⟩; simp [go_sem]; (repeat first | refine hku ?_ | refine sw_seqk fun _ _ => ?_ | refine sw_reg ?_ | (refine sw_reg2 ?_; conv in reord _ => simp [reord, freeO]) | ((first | refine aops_k fun _ _ => ?_ | with_reducible refine rw_own ?_); simp [go_sem, hc']; try go_ints) | refine sw_block ?_ | refine sw_t ?_ | refine sw_f ?_ | refine sw_e ?_ | refine ai ?_ | simp only [aops, thn]))
    refine ⟨i + 1, by omega, by omega, ?_⟩; have : dk (i + 1) = max (dk i) e := h1; rw [this]; simp [go_sem]
    omega
  ·have : i = ks.length := by omega
   subst this
   (repeat first | refine hku ?_ | refine sw_seqk fun _ _ => ?_ | refine sw_reg ?_ | (refine sw_reg2 ?_; conv in reord _ => simp [reord, freeO]) | ((first | refine aops_k fun _ _ => ?_ | with_reducible refine rw_own ?_); simp [go_sem]; try go_ints) | refine sw_block ?_ | refine sw_t ?_ | refine sw_f ?_ | refine sw_e ?_ | refine ai ?_ | simp only [aops, thn, inB, ↓reduceIte, Nat.reduceEqDiff])
   simp [go_sem, he]
end Go.Proofs.YtbgifiijjjoebaaGreatDoor

namespace Go.Proofs.YtbgifiijjjoebaaGreatDoor
open Go.RowKit

set_option maxHeartbeats 6400000 in
theorem rkids_v (k : Int) (h0 : 1 ≤ k ∧ k ≤ 22) : Fn Tryz.prog 73 [.c (.i .i64 k)] (.t [.c (.i .i64 (kidsR k).1), .c (.i .i64 (kidsR k).2.1), .c (.b (kidsR k).2.2)]) := by
 refine Fn.intro' Tryz.func73 [.tmp 2, .tmp 3, .tmp 4] 25 fun _ => ?_
 have hk : k = 1 ∨ k = 2 ∨ k = 3 ∨ k = 4 ∨ k = 5 ∨ k = 6 ∨ k = 7 ∨ k = 8 ∨ k = 9 ∨ k = 10 ∨ k = 11 ∨ k = 12 ∨ k = 13 ∨ k = 14 ∨ k = 15 ∨ k = 16 ∨ k = 17 ∨ k = 18 ∨ k = 19 ∨ k = 20 ∨ k = 21 ∨ k = 22 := by omega
 rcases hk with rfl | rfl | rfl | rfl | rfl | rfl | rfl | rfl | rfl | rfl | rfl | rfl | rfl | rfl | rfl | rfl | rfl | rfl | rfl | rfl | rfl | rfl
 all_goals
  (repeat first | refine hku ?_ | refine sw_seqk fun _ _ => ?_ | refine sw_reg ?_ | (refine sw_reg2 ?_; conv in reord _ => simp [reord, freeO]) | ((first | refine aops_k fun _ _ => ?_ | with_reducible refine rw_own ?_); simp [go_sem]; try go_ints) | refine sw_block ?_ | refine sw_t ?_ | refine sw_f ?_ | refine sw_e ?_ | refine ai ?_ | simp only [thn, inB])
  simp [go_sem, kidsR]
theorem s_em (s : ByteArray) : s.toList.isEmpty = decide (s.size = 0) := by
 rw [← s_ne]
 cases s.toList <;> rfl
theorem maysR_all : ∀ (l : List Tr) (f : Bool), maysR l f = l.all fun t => (termB t.kind == f) && mayR t
 | [], _ => by simp [maysR]
 | t :: r, f => by rw [maysR, List.all_cons, maysR_all r f]
theorem maysR_take (ks : List Tr) (f : Bool) (i : Nat) (h : i < ks.length) : maysR (ks.take (i + 1)) f = (maysR (ks.take i) f && ((termB ks[i].kind == f) && mayR ks[i])) := by
 rw [maysR_all, maysR_all, List.take_succ_eq_append_getElem h, List.all_append]; simp
theorem maysR_no (ks : List Tr) (f : Bool) (i : Nat) (h : i < ks.length) (hn : ((termB ks[i].kind == f) && mayR ks[i]) = false) : maysR ks f = false := by
 rw [maysR_all]; exact List.all_eq_false.2 ⟨_, List.getElem_mem h, by rw [hn]; decide⟩
end Go.Proofs.YtbgifiijjjoebaaGreatDoor
