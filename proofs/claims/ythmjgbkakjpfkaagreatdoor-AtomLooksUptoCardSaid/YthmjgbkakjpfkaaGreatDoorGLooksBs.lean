/- The program's atoms in the new words; riddleref06: Div, Not, Norm, Same, Valid; atom.Order, atom.Valid. No conditions. riddleref06: written, Text. No conditions. riddleref06: Order, Is, Holds; the program's Order, Holds, Text as contracts. No conditions. -/
import Derived.Test.YthmjgbkakjpfkaaGreatDoorGLooksBr
import Derived.Test.YthmjgbkakjpfkaaGreatDoorGLooksAy
import Derived.Test.YthmjgbkakjpfkaaGreatDoorGLooksAz
import Derived.Test.YthmjgbkakjpfkaaGreatDoorGLooksBd
import Derived.Test.YthmjgbkakjpfkaaGreatDoorGLooksBt
import Derived.Test.YthmjgbkakjpfkaaGreatDoorGLooksBu
import Derived.Test.YthmjgbkakjpfkaaGreatDoorGLooksBv
namespace Go.Proofs.YthmjgbkakjpfkaaGreatDoor
open Go.RowKit

theorem fn0 {P : Program} {f : FuncId} {r : SV} (h : ∀ w, Lay w → Calls P f #[] w fun e w' => ∃ u, e = .returned u ∧ (∀ X, RelR (cAns X w w') [] w' u r) ∧ Ext w w') : Fn P f [] r := fun w X vs hl _ ha => by
  obtain ⟨l, rfl⟩ : ∃ l : List Value, vs = l.toArray := ⟨vs.toList, by simp⟩
  cases ha
  exact (h w hl).mono fun e w' ⟨u, h3, h4, h5⟩ => ⟨u, h3, h5, h4 X⟩
theorem Lay.tab {w : World} (h : Lay w) : Tab w := h (by kernel_rfl)
theorem awake6_v : Fn Tryz.prog 10 [] (.c (.b true)) :=
  fn0 fun w hl => (awake6_c w hl.tab).mono fun _ _ ⟨e, x⟩ => ⟨_, e, fun _ => rfl, x⟩
theorem zcmp_v (x y : Z) : Fn Tryz.prog 15 [.g (dZ x), .g (dZ y)] (.c (.i .i64 (cmpI x.v y.v))) :=
  fn2 fun _ _ _ _ hu hv => (zcmp_c (relD_z.1 hu) (relD_z.1 hv)).mono fun _ _ ⟨e, x⟩ => ⟨_, e, cI (cmp64 _ _), x⟩
theorem torder_v (a b : T) (N : Nat) (hN : N ≤ 1073741824) (sa : a.sz N) (sb : b.sz N) : Fn Tryz.prog 75 [.g (dT a), .g (dT b)] (.c (.i .i64 (ordT a b))) :=
  fn2 fun _ _ _ _ hu hv => (torder_c (relD_t.1 hu) (relD_t.1 hv) hN sa sb).mono fun _ _ ⟨e, x⟩ => ⟨_, e, cI (ord64 a b), x⟩
theorem err_rel {c : Cx} {w : World} {n : Int} (h : n = 0 ∨ n = 1 ∨ n = 11 ∨ n = 170) : RelA c [] w (.int .i64 n) (.c (.i .i64 n)) := cI ⟨by omega, by omega⟩
theorem normA_err (a : Ar) : (normA a).2 = 0 ∨ (normA a).2 = 1 ∨ (normA a).2 = 11 ∨ (normA a).2 = 170 := by
  unfold normA
  split
  · simp
  split
  · simp
  split
  · split <;> simp
  · simp
theorem rpartedR_v (d : Z) (t : T) (not : Bool) (N : Nat) (hl : d.mag.length ≤ N) (hs : t.sz N) (hN2 : 2 ≤ N) (hN : N ≤ 16777216) : Fn Tryz.prog 64 [.g (dZ d), .g (dT t), .c (.b not)] (.t [aA true (partedR d.v (vl t.ps) t.k.v not).1, .c (.i .i64 (partedR d.v (vl t.ps) t.k.v not).2)]) := by
  unfold partedR
  split
  · exact rparted0_v d t not (by omega) ‹_›
  · exact rparted_v d t not N hN2 hN hl hs ‹_›
theorem rnorm6_v (a : Ar) (N : Nat) (hs : a.sz N) (hN2 : 2 ≤ N) (hN : N ≤ 16777216) : Fn Tryz.prog 24 [.g (dA a)] (.t [aA true (normA a).1, .c (.i .i64 (normA a).2)]) := by
  refine Fn.intro' Tryz.func24 [.cell 2 29, .tmp 3] 31 fun hok => ?_
  obtain ⟨kd, d, t⟩ := a
  obtain ⟨hs1, hs2⟩ := hs
  obtain ⟨R, hR⟩ : ∃ R, R = normA ⟨kd, d, t⟩ := ⟨_, rfl⟩
  rw [← hR]
  unfold normA at hR
  simp only at hR
  by_cases h0 : kd = 0
  · rw [if_pos (.inl h0)] at hR
    (repeat (first | (refine hk_use (by assumption) ?_) | (refine sw_seqk fun _ _ => ?_) | (refine sw_reg ?_) | (refine aops_k fun _ _ => ?_; simp [go_sem, h0]; try go_ints) | refine sw_block ?_ | refine sw_ct rfl ?_ | refine sw_cf rfl ?_ | refine sw_skip ?_ | refine sw_exit ?_ | refine sw_ret ?_ | refine And.intro (by first | omega | rfl) ?_ | simp only [aops, thn, inB, ↓reduceIte, Nat.reduceEqDiff]))
    simp [go_sem, hR, h0, constA, dN]
    exact ⟨rfl, rfl, rfl, rfl, rfl⟩
  by_cases h1 : kd = 1
  · rw [if_pos (.inr h1)] at hR
    (repeat (first | (refine hk_use (by assumption) ?_) | (refine sw_seqk fun _ _ => ?_) | (refine sw_reg ?_) | (refine aops_k fun _ _ => ?_; simp [go_sem, h0, h1]; try go_ints) | refine sw_block ?_ | refine sw_ct rfl ?_ | refine sw_cf rfl ?_ | refine sw_skip ?_ | refine sw_exit ?_ | refine sw_ret ?_ | refine And.intro (by first | omega | rfl) ?_ | simp only [aops, thn, inB, ↓reduceIte, Nat.reduceEqDiff]))
    simp [go_sem, hR, h0, h1, constA, dN]
    exact ⟨rfl, rfl, rfl, rfl, rfl⟩
  rw [if_neg (by omega)] at hR
  by_cases h2 : kd = 2
  · rw [if_pos h2] at hR
    have k1 := rless_v t N hN2 (by omega) hs2
    generalize lessA (vl t.ps) t.k.v = L at *
    (repeat (first | (refine hk_use (by assumption) ?_) | (refine sw_seqk fun _ _ => ?_) | (refine sw_reg ?_) | (refine aops_k fun _ _ => ?_; simp [go_sem, h0, h1, h2]; try go_ints) | refine sw_block ?_ | refine sw_ct rfl ?_ | refine sw_cf rfl ?_ | refine sw_skip ?_ | refine sw_exit ?_ | refine sw_ret ?_ | refine And.intro (by first | omega | rfl) ?_ | simp only [aops, thn, inB, ↓reduceIte, Nat.reduceEqDiff]))
    (refine ⟨.v _, k1, ?_⟩; simp [go_sem]; (repeat (first | (refine hk_use (by assumption) ?_) | (refine sw_seqk fun _ _ => ?_) | (refine sw_reg ?_) | (refine aops_k fun _ _ => ?_; simp [go_sem]; try go_ints) | refine sw_block ?_ | refine sw_ct rfl ?_ | refine sw_cf rfl ?_ | refine sw_skip ?_ | refine sw_exit ?_ | refine sw_ret ?_ | refine And.intro (by first | omega | rfl) ?_ | simp only [aops, thn, inB, ↓reduceIte, Nat.reduceEqDiff])))
    simp [go_sem, hR]
  rw [if_neg h2] at hR
  by_cases h3 : kd = 3 ∨ kd = 4
  · rw [if_pos h3] at hR
    have k1 := rpartedR_v d t (decide (kd = 4)) N hs1 hs2 hN2 hN
    have hR : R = partedR d.v (vl t.ps) t.k.v (decide (kd = 4)) := hR
    rw [← hR] at k1
    rcases h3 with h3 | h3
    · subst h3
      (repeat (first | (refine hk_use (by assumption) ?_) | (refine sw_seqk fun _ _ => ?_) | (refine sw_reg ?_) | (refine aops_k fun _ _ => ?_; simp [go_sem]; try go_ints) | refine sw_block ?_ | refine sw_ct rfl ?_ | refine sw_cf rfl ?_ | refine sw_skip ?_ | refine sw_exit ?_ | refine sw_ret ?_ | refine And.intro (by first | omega | rfl) ?_ | simp only [aops, thn, inB, ↓reduceIte, Nat.reduceEqDiff]))
      (refine ⟨.v _, k1, ?_⟩; simp [go_sem]; (repeat (first | (refine hk_use (by assumption) ?_) | (refine sw_seqk fun _ _ => ?_) | (refine sw_reg ?_) | (refine aops_k fun _ _ => ?_; simp [go_sem]; try go_ints) | refine sw_block ?_ | refine sw_ct rfl ?_ | refine sw_cf rfl ?_ | refine sw_skip ?_ | refine sw_exit ?_ | refine sw_ret ?_ | refine And.intro (by first | omega | rfl) ?_ | simp only [aops, thn, inB, ↓reduceIte, Nat.reduceEqDiff])))
      simp [go_sem]
    · subst h3
      (repeat (first | (refine hk_use (by assumption) ?_) | (refine sw_seqk fun _ _ => ?_) | (refine sw_reg ?_) | (refine aops_k fun _ _ => ?_; simp [go_sem]; try go_ints) | refine sw_block ?_ | refine sw_ct rfl ?_ | refine sw_cf rfl ?_ | refine sw_skip ?_ | refine sw_exit ?_ | refine sw_ret ?_ | refine And.intro (by first | omega | rfl) ?_ | simp only [aops, thn, inB, ↓reduceIte, Nat.reduceEqDiff]))
      (refine ⟨.v _, k1, ?_⟩; simp [go_sem]; (repeat (first | (refine hk_use (by assumption) ?_) | (refine sw_seqk fun _ _ => ?_) | (refine sw_reg ?_) | (refine aops_k fun _ _ => ?_; simp [go_sem]; try go_ints) | refine sw_block ?_ | refine sw_ct rfl ?_ | refine sw_cf rfl ?_ | refine sw_skip ?_ | refine sw_exit ?_ | refine sw_ret ?_ | refine And.intro (by first | omega | rfl) ?_ | simp only [aops, thn, inB, ↓reduceIte, Nat.reduceEqDiff])))
      simp [go_sem]
  · rw [if_neg h3] at hR
    have h4 : kd ≠ 3 := fun e => h3 (.inl e)
    have h5 : kd ≠ 4 := fun e => h3 (.inr e)
    (repeat (first | (refine hk_use (by assumption) ?_) | (refine sw_seqk fun _ _ => ?_) | (refine sw_reg ?_) | (refine aops_k fun _ _ => ?_; simp [go_sem, h0, h1, h2, h4, h5]; try go_ints) | refine sw_block ?_ | refine sw_ct rfl ?_ | refine sw_cf rfl ?_ | refine sw_skip ?_ | refine sw_exit ?_ | refine sw_ret ?_ | refine And.intro (by first | omega | rfl) ?_ | simp only [aops, thn, inB, ↓reduceIte, Nat.reduceEqDiff]))
    simp [go_sem, hR, constA, dN]
    exact ⟨rfl, rfl, rfl, rfl, rfl⟩
def ordA (a b : Ar) : Int := if a.kd < b.kd then -1 else if b.kd < a.kd then 1 else if cmpI a.d.v b.d.v ≠ 0 then cmpI a.d.v b.d.v else ordT a.t b.t
set_option maxRecDepth 100000 in
theorem aorder_v (a b : Ar) (N : Nat) (hN : N ≤ 1073741824) (sa : a.sz N) (sb : b.sz N) : Fn Tryz.prog 29 [.g (dA a), .g (dA b)] (.c (.i .i64 (ordA a b))) := by
  refine Fn.intro' Tryz.func29 [.tmp 4] 31 fun hok => ?_
  have k1 := zcmp_v a.d b.d
  have k2 := torder_v a.t b.t N hN sa.2 sb.2
  unfold ordA
  generalize cmpI a.d.v b.d.v = c at *
  generalize ordT a.t b.t = o at *
  by_cases h1 : a.kd < b.kd
  · (repeat (first | (refine hk_use (by assumption) ?_) | (refine sw_seqk fun _ _ => ?_) | (refine sw_reg ?_) | (refine aops_k fun _ _ => ?_; simp [go_sem, h1]; try go_ints) | refine sw_block ?_ | refine sw_ct rfl ?_ | refine sw_cf rfl ?_ | refine sw_skip ?_ | refine sw_exit ?_ | refine sw_ret ?_ | refine And.intro (by first | omega | rfl) ?_ | simp only [aops, thn, inB, ↓reduceIte, Nat.reduceEqDiff]))
    simp [go_sem, h1]
  by_cases h2 : b.kd < a.kd
  · (repeat (first | (refine hk_use (by assumption) ?_) | (refine sw_seqk fun _ _ => ?_) | (refine sw_reg ?_) | (refine aops_k fun _ _ => ?_; simp [go_sem, h1, h2]; try go_ints) | refine sw_block ?_ | refine sw_ct rfl ?_ | refine sw_cf rfl ?_ | refine sw_skip ?_ | refine sw_exit ?_ | refine sw_ret ?_ | refine And.intro (by first | omega | rfl) ?_ | simp only [aops, thn, inB, ↓reduceIte, Nat.reduceEqDiff]))
    simp [go_sem, h1, h2]
  (repeat (first | (refine hk_use (by assumption) ?_) | (refine sw_seqk fun _ _ => ?_) | (refine sw_reg ?_) | (refine aops_k fun _ _ => ?_; simp [go_sem, h1, h2]; try go_ints) | refine sw_block ?_ | refine sw_ct rfl ?_ | refine sw_cf rfl ?_ | refine sw_skip ?_ | refine sw_exit ?_ | refine sw_ret ?_ | refine And.intro (by first | omega | rfl) ?_ | simp only [aops, thn, inB, ↓reduceIte, Nat.reduceEqDiff]))
  (refine ⟨.v _, k1, ?_⟩; simp [go_sem]; (repeat (first | (refine hk_use (by assumption) ?_) | (refine sw_seqk fun _ _ => ?_) | (refine sw_reg ?_) | (refine aops_k fun _ _ => ?_; simp [go_sem]; try go_ints) | refine sw_block ?_ | refine sw_ct rfl ?_ | refine sw_cf rfl ?_ | refine sw_skip ?_ | refine sw_exit ?_ | refine sw_ret ?_ | refine And.intro (by first | omega | rfl) ?_ | simp only [aops, thn, inB, ↓reduceIte, Nat.reduceEqDiff])))
  by_cases h : c = 0
  · simp [h]
    (repeat (first | (refine hk_use (by assumption) ?_) | (refine sw_seqk fun _ _ => ?_) | (refine sw_reg ?_) | (refine aops_k fun _ _ => ?_; simp [go_sem, h]; try go_ints) | refine sw_block ?_ | refine sw_ct rfl ?_ | refine sw_cf rfl ?_ | refine sw_skip ?_ | refine sw_exit ?_ | refine sw_ret ?_ | refine And.intro (by first | omega | rfl) ?_ | simp only [aops, thn, inB, ↓reduceIte, Nat.reduceEqDiff]))
    (refine ⟨.v _, k2, ?_⟩; simp [go_sem]; (repeat (first | (refine hk_use (by assumption) ?_) | (refine sw_seqk fun _ _ => ?_) | (refine sw_reg ?_) | (refine aops_k fun _ _ => ?_; simp [go_sem]; try go_ints) | refine sw_block ?_ | refine sw_ct rfl ?_ | refine sw_cf rfl ?_ | refine sw_skip ?_ | refine sw_exit ?_ | refine sw_ret ?_ | refine And.intro (by first | omega | rfl) ?_ | simp only [aops, thn, inB, ↓reduceIte, Nat.reduceEqDiff])))
    simp [go_sem, h, h1, h2]
  · simp [h]
    (repeat (first | (refine hk_use (by assumption) ?_) | (refine sw_seqk fun _ _ => ?_) | (refine sw_reg ?_) | (refine aops_k fun _ _ => ?_; simp [go_sem, h]; try go_ints) | refine sw_block ?_ | refine sw_ct rfl ?_ | refine sw_cf rfl ?_ | refine sw_skip ?_ | refine sw_exit ?_ | refine sw_ret ?_ | refine And.intro (by first | omega | rfl) ?_ | simp only [aops, thn, inB, ↓reduceIte, Nat.reduceEqDiff]))
    simp [go_sem, h, h1, h2]
end Go.Proofs.YthmjgbkakjpfkaaGreatDoor

namespace Go.Proofs.YthmjgbkakjpfkaaGreatDoor
open Go.RowKit

theorem partB_ne (s : List UInt8) (p : Int × Int) : partB s p ≠ [] := by simp [partB]
theorem fold_nil (l : List (Int × Int)) (i : Nat) (h : i ≤ l.length) : (l.take i).foldl partB [] = [] ↔ i = 0 := by
  cases i with
  | zero => simp
  | succ i => rw [take_snoc (by omega), List.foldl_append]; simp [partB_ne]
theorem itoa_one (n : Nat) : Lib.itoa (n : Int) = [49] ↔ n = 1 := by
  rw [Lib.itoa_nonneg]
  constructor
  · intro h
    rw [Lib.decDigits] at h
    split at h
    · rename_i h1
      have h2 := List.singleton_inj.1 h
      have h3 : ∀ k, k < 10 → UInt8.ofNat (48 + k) = 49 → k = 1 := by decide
      exact h3 n h1 h2
    · have h1 := congrArg List.length h
      simp only [List.length_append, List.length_cons, List.length_nil] at h1
      exact absurd (List.eq_nil_of_length_eq_zero (by omega)) (decDigits_ne (n / 10))
  · rintro rfl
    rw [Lib.decDigits_one (by decide)]
    rfl
theorem big_mul {a b N : Nat} (h : a ≤ N + 1) (hN : N ≤ 16777216) (hb : b ≤ 10 * N + 40) : a * b ≤ 2814751000000000 :=
  Nat.le_trans (Nat.mul_le_mul (show a ≤ 16777217 by omega) (show b ≤ 167772200 by omega)) (by decide)
theorem fold_len {l : List (Int × Int)} {N : Nat} (hl : ∀ p ∈ l, zl p.2 ≤ N ∧ i64 p.1) (hn : l.length ≤ N) (hN : N ≤ 16777216) : (l.foldl partB []).length ≤ 2814751000000000 := by
  have h := writtenB_len (k := 0) hl (by rw [zl_zero]; omega)
  have e : writtenB l 0 = l.foldl partB [] := by simp [writtenB]
  rw [e] at h
  exact Nat.le_trans h (big_mul (by omega) hN (by omega))
theorem ok_vl {t : T} (h : ∀ d ∈ dT t, D.Ok d) : ∀ p ∈ t.ps, i64 p.1 := fun p hp => by
  have h1 := (ok_l.1 (h _ (List.mem_cons_self ..))).2 (dP p) (List.mem_map.2 ⟨p, hp, rfl⟩)
  have h2 := ok_i.1 (h1 _ (List.mem_cons_self ..))
  simp only [z_min] at h2
  exact h2
def Vi (l : List (Int × Int)) : Prop := ∀ p ∈ l, i64 p.1
theorem vi_lay : ∀ {l : List (Int × Int)} {p : Int × Int}, Vi l → i64 p.1 → Vi (lay l p)
  | [], p, _, hp => fun q hq => by
    simp only [lay, List.mem_singleton] at hq
    rw [hq]; exact hp
  | a :: l, p, h, hp => fun q hq => by
    have ih := vi_lay (l := l) (p := p) (fun q hq => h q (List.mem_cons_of_mem _ hq)) hp
    unfold lay at hq
    split at hq
    · rcases List.mem_cons.1 hq with rfl | hq
      · exact h _ (List.mem_cons_self ..)
      · exact ih q hq
    · split at hq
      · rcases List.mem_cons.1 hq with rfl | hq
        · exact h a (List.mem_cons_self ..)
        · exact h q (List.mem_cons_of_mem _ hq)
      · rcases List.mem_cons.1 hq with rfl | hq
        · exact hp
        · exact h q hq
theorem vi_cn {l : List (Int × Int)} (h : Vi l) : Vi (cn l) := by
  have key : ∀ (l m : List (Int × Int)), Vi l → Vi m → Vi (l.foldl lay m) := by
    intro l
    induction l with
    | nil => exact fun m _ hm => hm
    | cons p l ih => exact fun m hl hm => ih _ (fun q hq => hl q (List.mem_cons_of_mem _ hq)) (vi_lay hm (hl p (List.mem_cons_self ..)))
  exact fun p hp => key l [] h (fun _ h => (List.not_mem_nil h).elim) p (List.mem_filter.1 hp).1
theorem vi_fm {l : List (Int × Int)} (F : Int → Int) (h : Vi l) : Vi (fm F l) := fun p hp => by
  obtain ⟨q, hq, rfl⟩ := List.mem_map.1 hp
  exact h q hq
theorem vi_sc {l : List (Int × Int)} (k : Int) (h : Vi l) : Vi (sc k l) := fun p hp => by
  obtain ⟨q, hq, rfl⟩ := List.mem_map.1 hp
  exact h q hq
theorem vi_ct {l : List (Int × Int)} (k : Int) (h : Vi l) : Vi (vl (ct l k).ps) := by
  rw [show vl (ct l k).ps = cn l from vl_cl _]
  exact vi_cn h
theorem vi_const (b : Bool) : Vi (vl (constA b).t.ps) := vi_ct 0 fun _ h => (List.not_mem_nil h).elim
theorem lesser_vi {d : Int} {n : List (Int × Int)} {k : Int} (h : Vi n) : Vi (vl (lesser d n k).ps) := by
  have h1 : ∀ (c : Prop) [Decidable c] (x y : T), Vi (vl x.ps) → Vi (vl y.ps) → Vi (vl (if c then x else y).ps) := fun c _ x y hx hy => by by_cases hc : c <;> simp only [hc, if_true, if_false] <;> assumption
  exact h1 _ _ _ (vi_ct _ (vi_fm _ (vi_cn (vi_sc _ h)))) (vi_ct _ h)
theorem ite_vi {c : Prop} [Decidable c] {x y : Ar} (hx : Vi (vl x.t.ps)) (hy : Vi (vl y.t.ps)) : Vi (vl (if c then x else y).t.ps) := by
  by_cases hc : c <;> simp only [hc, if_true, if_false] <;> assumption
theorem partedB_vi {m : Int} {n : List (Int × Int)} {k g : Int} {not : Bool} (h : Vi n) : Vi (vl (partedB m n k g not).t.ps) :=
  ite_vi (vi_const _) (ite_vi (vi_const _) (ite_vi (vi_const _) (lesser_vi (vi_cn (vi_fm _ h)))))
theorem lessA_vi {l : List (Int × Int)} {k : Int} (h : Vi l) : Vi (vl (lessA l k).t.ps) := ite_vi (vi_const _) (vi_ct _ (vi_fm _ (vi_cn h)))
theorem normA_vi {a : Ar} (h : Vi (vl a.t.ps)) : Vi (vl (normA a).1.t.ps) := by
  unfold normA
  split
  · exact vi_const _
  split
  · exact lessA_vi h
  split
  · split
    · exact vi_const _
    · exact partedB_vi (vi_cn (vi_fm _ (vi_cn h)))
  · exact vi_const _
set_option maxRecDepth 100000 in
set_option maxHeartbeats 12800000 in
theorem rwritten_v (t : T) (N : Nat) (hN : N ≤ 16777216) (hs : t.sz N) (hne : t.ps ≠ []) : Fn Tryz.prog 83 [.g (dT t)] (.c (.s ⟨(writtenB (vl t.ps) t.k.v).toArray⟩)) := by
  refine Fn.intro' Tryz.func83 [.tmp 2] 65 fun hok => ?_
  have hlb : t.lb := ok_t (hok (.g (dT t)) (by simp))
  have hi64 := ok_vl (hok (.g (dT t)) (by simp))
  have hvl : ∀ p ∈ vl t.ps, zl p.2 ≤ N ∧ i64 p.1 := fun p hp => ⟨zl_vl hlb.1 hs.2.1 p hp, by obtain ⟨q, hq, rfl⟩ := List.mem_map.1 hp; exact hi64 q hq⟩
  obtain ⟨W, hW⟩ : ∃ W, W = writtenB (vl t.ps) t.k.v := ⟨_, rfl⟩
  rw [← hW]
  unfold writtenB at hW
  have hL := vl_len t.ps
  have h0 := hs.1
  (repeat (first | (refine hk_use (by assumption) ?_) | (refine sw_seqk fun _ _ => ?_) | (refine sw_reg ?_) | (refine aops_k fun _ _ => ?_; simp [go_sem]; try go_ints) | refine sw_block ?_ | refine sw_ct rfl ?_ | refine sw_cf rfl ?_ | refine sw_skip ?_ | refine sw_exit ?_ | refine sw_ret ?_ | refine And.intro (by first | omega | rfl) ?_ | simp only [aops, thn, inB, ↓reduceIte, Nat.reduceEqDiff]))
  refine sw_loopv 3 (fun i : Nat => [(3, .c (.s ⟨(((vl t.ps).take i).foldl partB []).toArray⟩)), (4, .c (.i .i64 i))]) (fun _ => []) (fun i => i ≤ t.ps.length) (fun i => t.ps.length - i) 0 (Nat.zero_le _) ?_ fun i hi => ?_
  · simp [go_sem]
  · by_cases hlt : i < t.ps.length
    · have hfs : ((vl t.ps).take (i + 1)).foldl partB [] = partB (((vl t.ps).take i).foldl partB []) (t.ps[i].1, t.ps[i].2.v) := by
        rw [take_snoc (by rw [hL]; exact hlt), List.foldl_append]; simp [vl]
      have hsl := fold_len (l := (vl t.ps).take i) (fun p hp => hvl p (List.mem_of_mem_take hp)) (by rw [List.length_take]; omega) hN
      have hs0 := fold_nil (vl t.ps) i (by omega)
      generalize ((vl t.ps).take i).foldl partB [] = s at *
      have hpi : t.ps[i] ∈ t.ps := List.getElem_mem hlt
      have hcl := hs.2.1 _ hpi
      have hcz := Nat.le_trans (zl_of (hlb.1 _ hpi)) hcl
      have hxi := hi64 _ hpi
      have hab := itoa_len (t.ps[i].2.v.natAbs : Int)
      rw [zl_natAbs] at hab
      have hxb := itoa_len t.ps[i].1
      have hx2 : zl t.ps[i].1 ≤ 2 := zl_word (by have := hxi.1; have := hxi.2; omega)
      obtain ⟨m, m1, m2, m3⟩ := cz_facts (t.ps[i].2.v.natAbs : Int)
      rw [zl_natAbs] at m3
      obtain ⟨one, o1, o2, o3⟩ := cz_facts 1
      have hz1 : zl 1 ≤ 1 := by decide
      have k1 := rsign_v t.ps[i].2 (by omega)
      have k2 := rabs_v t.ps[i].2 (by omega)
      have k3 := rof_v 1 ⟨by omega, by omega⟩
      have k4 := rsame_v m one (by omega) (by omega)
      have k5 := rtext2_v m (by omega)
      have k6 := itoa_v t.ps[i].1 hxi
      rw [← m1] at k2
      rw [← o1] at k3
      rw [m2, o2] at k4
      rw [m2] at k5
      have hpB : partB s (t.ps[i].1, t.ps[i].2.v) = (signB s t.ps[i].2.v ++ (if t.ps[i].2.v.natAbs = 1 then [] else Lib.itoa (t.ps[i].2.v.natAbs : Int))) ++ (118 :: Lib.itoa t.ps[i].1) := by
        unfold partB
        simp only [itoa_one]
      rw [hpB] at hfs
      have hsB : sgn t.ps[i].2.v < 0 ∧ sgn t.ps[i].2.v ≠ 0 ∧ signB s t.ps[i].2.v = s ++ [45] ∨ ¬ sgn t.ps[i].2.v < 0 ∧ 0 < i ∧ signB s t.ps[i].2.v = s ++ [43] ∨ ¬ sgn t.ps[i].2.v < 0 ∧ ¬ 0 < i ∧ signB s t.ps[i].2.v = s := by
        unfold signB
        rw [sgn_neg]
        by_cases hc : t.ps[i].2.v < 0
        · exact .inl ⟨hc, fun e => by have := sgn_zero.1 e; omega, by rw [if_pos hc]⟩
        · rw [if_neg hc]
          by_cases hi0 : i = 0
          · exact .inr (.inr ⟨hc, by omega, by rw [if_pos (hs0.2 hi0)]⟩)
          · exact .inr (.inl ⟨hc, by omega, by rw [if_neg (fun e => hi0 (hs0.1 e))]⟩)
      clear hpB hW hs0
      generalize Lib.itoa (t.ps[i].2.v.natAbs : Int) = A8 at *
      generalize Lib.itoa t.ps[i].1 = X8 at *
      (repeat (first | (refine hk_use (by assumption) ?_) | (refine sw_seqk fun _ _ => ?_) | (refine sw_reg ?_) | (refine aops_k fun _ _ => ?_; simp [go_sem, hlt]; try go_ints) | refine sw_block ?_ | refine sw_ct rfl ?_ | refine sw_cf rfl ?_ | refine sw_skip ?_ | refine sw_exit ?_ | refine sw_ret ?_ | refine And.intro (by first | omega | rfl) ?_ | simp only [aops, thn, inB, ↓reduceIte, Nat.reduceEqDiff]))
      (refine ⟨.v _, k1, ?_⟩; simp [go_sem]; (repeat (first | (refine hk_use (by assumption) ?_) | (refine sw_seqk fun _ _ => ?_) | (refine sw_reg ?_) | (refine aops_k fun _ _ => ?_; simp [go_sem]; try go_ints) | refine sw_block ?_ | refine sw_ct rfl ?_ | refine sw_cf rfl ?_ | refine sw_skip ?_ | refine sw_exit ?_ | refine sw_ret ?_ | refine And.intro (by first | omega | rfl) ?_ | simp only [aops, thn, inB, ↓reduceIte, Nat.reduceEqDiff])))
      rcases hsB with ⟨q1, q2, q3⟩ | ⟨q1, q2, q3⟩ | ⟨q1, q2, q3⟩
      all_goals
        rw [q3] at hfs
        simp [q1]
        (repeat (first | (refine hk_use (by assumption) ?_) | (refine sw_seqk fun _ _ => ?_) | (refine sw_reg ?_) | (refine aops_k fun _ _ => ?_; simp [go_sem, q2, bs_size, bs_app]; try go_ints) | refine sw_block ?_ | refine sw_ct rfl ?_ | refine sw_cf rfl ?_ | refine sw_skip ?_ | refine sw_exit ?_ | refine sw_ret ?_ | refine And.intro (by first | omega | rfl) ?_ | simp only [aops, thn, inB, ↓reduceIte, Nat.reduceEqDiff]))
        (refine ⟨.v _, k2, ?_⟩; simp [go_sem]; (repeat (first | (refine hk_use (by assumption) ?_) | (refine sw_seqk fun _ _ => ?_) | (refine sw_reg ?_) | (refine aops_k fun _ _ => ?_; simp [go_sem]; try go_ints) | refine sw_block ?_ | refine sw_ct rfl ?_ | refine sw_cf rfl ?_ | refine sw_skip ?_ | refine sw_exit ?_ | refine sw_ret ?_ | refine And.intro (by first | omega | rfl) ?_ | simp only [aops, thn, inB, ↓reduceIte, Nat.reduceEqDiff])))
        (refine ⟨.v _, k3, ?_⟩; simp [go_sem]; (repeat (first | (refine hk_use (by assumption) ?_) | (refine sw_seqk fun _ _ => ?_) | (refine sw_reg ?_) | (refine aops_k fun _ _ => ?_; simp [go_sem]; try go_ints) | refine sw_block ?_ | refine sw_ct rfl ?_ | refine sw_cf rfl ?_ | refine sw_skip ?_ | refine sw_exit ?_ | refine sw_ret ?_ | refine And.intro (by first | omega | rfl) ?_ | simp only [aops, thn, inB, ↓reduceIte, Nat.reduceEqDiff])))
        (refine ⟨.v _, k4, ?_⟩; simp [go_sem]; (repeat (first | (refine hk_use (by assumption) ?_) | (refine sw_seqk fun _ _ => ?_) | (refine sw_reg ?_) | (refine aops_k fun _ _ => ?_; simp [go_sem]; try go_ints) | refine sw_block ?_ | refine sw_ct rfl ?_ | refine sw_cf rfl ?_ | refine sw_skip ?_ | refine sw_exit ?_ | refine sw_ret ?_ | refine And.intro (by first | omega | rfl) ?_ | simp only [aops, thn, inB, ↓reduceIte, Nat.reduceEqDiff])))
        by_cases ho : t.ps[i].2.v.natAbs = 1
        · have ho' : (t.ps[i].2.v.natAbs : Int) = 1 := by omega
          rw [if_pos ho] at hfs
          simp [ho']
          (repeat (first | (refine hk_use (by assumption) ?_) | (refine sw_seqk fun _ _ => ?_) | (refine sw_reg ?_) | (refine aops_k fun _ _ => ?_; simp [go_sem, hlt]; try go_ints) | refine sw_block ?_ | refine sw_ct rfl ?_ | refine sw_cf rfl ?_ | refine sw_skip ?_ | refine sw_exit ?_ | refine sw_ret ?_ | refine And.intro (by first | omega | rfl) ?_ | simp only [aops, thn, inB, ↓reduceIte, Nat.reduceEqDiff]))
          (refine ⟨.v _, k6, ?_⟩; simp [go_sem]; (repeat (first | (refine hk_use (by assumption) ?_) | (refine sw_seqk fun _ _ => ?_) | (refine sw_reg ?_) | (refine aops_k fun _ _ => ?_; simp [go_sem, bs_size, bs_app]; try go_ints) | refine sw_block ?_ | refine sw_ct rfl ?_ | refine sw_cf rfl ?_ | refine sw_skip ?_ | refine sw_exit ?_ | refine sw_ret ?_ | refine And.intro (by first | omega | rfl) ?_ | simp only [aops, thn, inB, ↓reduceIte, Nat.reduceEqDiff])))
          refine ⟨i + 1, by omega, by omega, ?_⟩
          simp [go_sem, hfs]
        · have ho' : ¬ (t.ps[i].2.v.natAbs : Int) = 1 := by omega
          rw [if_neg ho] at hfs
          simp [ho']
          (repeat (first | (refine hk_use (by assumption) ?_) | (refine sw_seqk fun _ _ => ?_) | (refine sw_reg ?_) | (refine aops_k fun _ _ => ?_; simp [go_sem]; try go_ints) | refine sw_block ?_ | refine sw_ct rfl ?_ | refine sw_cf rfl ?_ | refine sw_skip ?_ | refine sw_exit ?_ | refine sw_ret ?_ | refine And.intro (by first | omega | rfl) ?_ | simp only [aops, thn, inB, ↓reduceIte, Nat.reduceEqDiff]))
          (refine ⟨.v _, k5, ?_⟩; simp [go_sem]; (repeat (first | (refine hk_use (by assumption) ?_) | (refine sw_seqk fun _ _ => ?_) | (refine sw_reg ?_) | (refine aops_k fun _ _ => ?_; simp [go_sem, hlt, bs_size, bs_app]; try go_ints) | refine sw_block ?_ | refine sw_ct rfl ?_ | refine sw_cf rfl ?_ | refine sw_skip ?_ | refine sw_exit ?_ | refine sw_ret ?_ | refine And.intro (by first | omega | rfl) ?_ | simp only [aops, thn, inB, ↓reduceIte, Nat.reduceEqDiff])))
          (refine ⟨.v _, k6, ?_⟩; simp [go_sem]; (repeat (first | (refine hk_use (by assumption) ?_) | (refine sw_seqk fun _ _ => ?_) | (refine sw_reg ?_) | (refine aops_k fun _ _ => ?_; simp [go_sem, bs_size, bs_app]; try go_ints) | refine sw_block ?_ | refine sw_ct rfl ?_ | refine sw_cf rfl ?_ | refine sw_skip ?_ | refine sw_exit ?_ | refine sw_ret ?_ | refine And.intro (by first | omega | rfl) ?_ | simp only [aops, thn, inB, ↓reduceIte, Nat.reduceEqDiff])))
          refine ⟨i + 1, by omega, by omega, ?_⟩
          simp [go_sem, hfs]
    · have : i = t.ps.length := by omega
      subst this
      have e1 : (vl t.ps).take t.ps.length = vl t.ps := List.take_of_length_le (by omega)
      have hne2 : (vl t.ps).foldl partB [] ≠ [] := fun e => by
        have := (fold_nil (vl t.ps) (vl t.ps).length (Nat.le_refl _)).1 (by rw [List.take_length]; exact e)
        rw [hL] at this
        exact hne (List.eq_nil_of_length_eq_zero this)
      have hsl := fold_len hvl (by omega) hN
      have hkl := hs.2.2
      have hkz := Nat.le_trans (zl_of hlb.2) hkl
      have k7 := rsign_v t.k (by omega)
      have k8 := rtext2_v t.k (by omega)
      have h8 := itoa_len t.k.v
      simp only [e1]
      have hWs : sgn t.k.v < 0 ∧ W = (vl t.ps).foldl partB [] ++ Lib.itoa t.k.v ∨ sgn t.k.v = 0 ∧ W = (vl t.ps).foldl partB [] ∨ 0 < sgn t.k.v ∧ W = (vl t.ps).foldl partB [] ++ [43] ++ Lib.itoa t.k.v := by
        rw [sgn_neg, sgn_zero, show 0 < sgn t.k.v ↔ 0 < t.k.v from cmpI_pos, hW]
        rcases Int.lt_trichotomy t.k.v 0 with hk | hk | hk
        · refine .inl ⟨hk, ?_⟩
          rw [if_neg (by omega), signB, if_pos hk, itoa_of t.k.v, if_pos hk, Lib.itoa_nonneg, List.append_assoc]
          rfl
        · exact .inr (.inl ⟨hk, by rw [if_pos hk]⟩)
        · refine .inr (.inr ⟨hk, ?_⟩)
          rw [if_neg (by omega), signB, if_neg (by omega), if_neg hne2, show ((t.k.v.natAbs : Nat) : Int) = t.k.v by omega]
      clear hW
      generalize (vl t.ps).foldl partB [] = s at *
      generalize Lib.itoa t.k.v = D8 at *
      (repeat (first | (refine hk_use (by assumption) ?_) | (refine sw_seqk fun _ _ => ?_) | (refine sw_reg ?_) | (refine aops_k fun _ _ => ?_; simp [go_sem]; try go_ints) | refine sw_block ?_ | refine sw_ct rfl ?_ | refine sw_cf rfl ?_ | refine sw_skip ?_ | refine sw_exit ?_ | refine sw_ret ?_ | refine And.intro (by first | omega | rfl) ?_ | simp only [aops, thn, inB, ↓reduceIte, Nat.reduceEqDiff]))
      (refine ⟨.v _, k7, ?_⟩; simp [go_sem]; (repeat (first | (refine hk_use (by assumption) ?_) | (refine sw_seqk fun _ _ => ?_) | (refine sw_reg ?_) | (refine aops_k fun _ _ => ?_; simp [go_sem]; try go_ints) | refine sw_block ?_ | refine sw_ct rfl ?_ | refine sw_cf rfl ?_ | refine sw_skip ?_ | refine sw_exit ?_ | refine sw_ret ?_ | refine And.intro (by first | omega | rfl) ?_ | simp only [aops, thn, inB, ↓reduceIte, Nat.reduceEqDiff])))
      rcases hWs with ⟨q1, q2⟩ | ⟨q1, q2⟩ | ⟨q1, q2⟩
      · have q3 : ¬ 0 < sgn t.k.v := by omega
        have q4 : ¬ sgn t.k.v = 0 := by omega
        simp [q3]
        (repeat (first | (refine hk_use (by assumption) ?_) | (refine sw_seqk fun _ _ => ?_) | (refine sw_reg ?_) | (refine aops_k fun _ _ => ?_; simp [go_sem, q4]; try go_ints) | refine sw_block ?_ | refine sw_ct rfl ?_ | refine sw_cf rfl ?_ | refine sw_skip ?_ | refine sw_exit ?_ | refine sw_ret ?_ | refine And.intro (by first | omega | rfl) ?_ | simp only [aops, thn, inB, ↓reduceIte, Nat.reduceEqDiff]))
        (refine ⟨.v _, k8, ?_⟩; simp [go_sem]; (repeat (first | (refine hk_use (by assumption) ?_) | (refine sw_seqk fun _ _ => ?_) | (refine sw_reg ?_) | (refine aops_k fun _ _ => ?_; simp [go_sem, bs_size, bs_app]; try go_ints) | refine sw_block ?_ | refine sw_ct rfl ?_ | refine sw_cf rfl ?_ | refine sw_skip ?_ | refine sw_exit ?_ | refine sw_ret ?_ | refine And.intro (by first | omega | rfl) ?_ | simp only [aops, thn, inB, ↓reduceIte, Nat.reduceEqDiff])))
        simp [go_sem, q2]
      · simp [q1]
        (repeat (first | (refine hk_use (by assumption) ?_) | (refine sw_seqk fun _ _ => ?_) | (refine sw_reg ?_) | (refine aops_k fun _ _ => ?_; simp [go_sem]; try go_ints) | refine sw_block ?_ | refine sw_ct rfl ?_ | refine sw_cf rfl ?_ | refine sw_skip ?_ | refine sw_exit ?_ | refine sw_ret ?_ | refine And.intro (by first | omega | rfl) ?_ | simp only [aops, thn, inB, ↓reduceIte, Nat.reduceEqDiff]))
        simp [go_sem, q2]
      · have q4 : ¬ sgn t.k.v = 0 := by omega
        simp [q1]
        (repeat (first | (refine hk_use (by assumption) ?_) | (refine sw_seqk fun _ _ => ?_) | (refine sw_reg ?_) | (refine aops_k fun _ _ => ?_; simp [go_sem, q4, bs_size, bs_app]; try go_ints) | refine sw_block ?_ | refine sw_ct rfl ?_ | refine sw_cf rfl ?_ | refine sw_skip ?_ | refine sw_exit ?_ | refine sw_ret ?_ | refine And.intro (by first | omega | rfl) ?_ | simp only [aops, thn, inB, ↓reduceIte, Nat.reduceEqDiff]))
        (refine ⟨.v _, k8, ?_⟩; simp [go_sem]; (repeat (first | (refine hk_use (by assumption) ?_) | (refine sw_seqk fun _ _ => ?_) | (refine sw_reg ?_) | (refine aops_k fun _ _ => ?_; simp [go_sem, bs_size, bs_app]; try go_ints) | refine sw_block ?_ | refine sw_ct rfl ?_ | refine sw_cf rfl ?_ | refine sw_skip ?_ | refine sw_exit ?_ | refine sw_ret ?_ | refine And.intro (by first | omega | rfl) ?_ | simp only [aops, thn, inB, ↓reduceIte, Nat.reduceEqDiff])))
        simp [go_sem, q2]
theorem form_ne {n : Ar} (h : Form n) (h0 : n.kd ≠ 0) (h1 : n.kd ≠ 1) : n.t.ps ≠ [] := by
  have key : ∀ {l : List (Int × Int)} {k : Int}, Canon l → l ≠ [] → (ct l k).ps ≠ [] := fun {l k} hc hl e => by
    have := fine_ps hc k
    rw [e] at this
    exact hl this.symm
  rcases h with ⟨b, hb⟩ | ⟨-, -, l, k, hc, hl, -, ht⟩ | ⟨-, -, -, l, k, hc, -, hl, -, -, -, ht, -⟩
  · rw [hb] at h0 h1; cases b <;> simp [constA] at h0 h1
  · rw [ht]; exact key hc hl
  · rw [ht]; exact key hc hl
set_option maxRecDepth 100000 in
set_option maxHeartbeats 6400000 in
theorem rtext6_v (a : Ar) (N : Nat) (hs : a.sz N) (hN2 : 2 ≤ N) (hN : N ≤ 4194304) : Fn Tryz.prog 34 [.g (dA a)] (.c (.s ⟨(textR a).toArray⟩)) := by
  refine Fn.intro' Tryz.func34 [.tmp 2] 42 fun hok => ?_
  obtain ⟨b1, b2, b3⟩ := ok_a (hok (.g (dA a)) (by simp))
  have hi64 : Vi (vl a.t.ps) := fun p hp => by
    obtain ⟨q, hq, rfl⟩ := List.mem_map.1 hp
    exact ok_vl (t := a.t) (fun d hd => hok (.g (dA a)) (by simp) d (List.mem_cons_of_mem _ (List.mem_append_right _ hd))) q hq
  have hn : (normA a).1.sz (2 * N) := normA_sz hN2 hs b2 b3
  have hF := normA_form a
  obtain ⟨-, -, f3, f4, -⟩ := form_facts hF
  have k1 := rnorm6_v a N hs hN2 (by omega)
  have hvi := normA_vi hi64
  have hwl := writtenB_len (l := vl (normA a).1.t.ps) (k := (normA a).1.t.k.v) (N := 2 * N) (fun p hp => ⟨zl_vl f3.1 hn.2.2.1 p hp, hvi p hp⟩) (Nat.le_trans (zl_of f3.2) hn.2.2.2)
  have hwl := Nat.le_trans hwl (big_mul (N := 2 * N) (by rw [vl_len]; have := hn.2.1; omega) (by omega) (by omega))
  have hdl := itoa_len (normA a).1.d.v
  have hdz := Nat.le_trans (zl_of f4) hn.1
  have k2 := fun h0 h1 => rwritten_v (normA a).1.t (2 * N) (by omega) hn.2 (form_ne hF h0 h1)
  have k3 := rtext2_v (normA a).1.d (by have := hn.1; omega)
  have hkd := normA_kd a
  obtain ⟨R, hR⟩ : ∃ R, R = textR a := ⟨_, rfl⟩
  rw [← hR]
  unfold textR textA at hR
  generalize writtenB (vl (normA a).1.t.ps) (normA a).1.t.k.v = W at *
  generalize Lib.itoa (normA a).1.d.v = D8 at *
  generalize normA a = M at *
  obtain ⟨M, e⟩ := M
  simp only at *
  by_cases he : e = 0
  · subst he
    rw [if_pos rfl] at hR
    rcases hkd with hk | hk | hk | hk | hk
    · rw [hk] at hR
      (repeat (first | (refine hk_use (by assumption) ?_) | (refine sw_seqk fun _ _ => ?_) | (refine sw_reg ?_) | (refine aops_k fun _ _ => ?_; simp [go_sem]; try go_ints) | refine sw_block ?_ | refine sw_ct rfl ?_ | refine sw_cf rfl ?_ | refine sw_skip ?_ | refine sw_exit ?_ | refine sw_ret ?_ | refine And.intro (by first | omega | rfl) ?_ | simp only [aops, thn, inB, ↓reduceIte, Nat.reduceEqDiff]))
      (refine ⟨.v _, k1, ?_⟩; simp [go_sem]; (repeat (first | (refine hk_use (by assumption) ?_) | (refine sw_seqk fun _ _ => ?_) | (refine sw_reg ?_) | (refine aops_k fun _ _ => ?_; simp [go_sem, hk]; try go_ints) | refine sw_block ?_ | refine sw_ct rfl ?_ | refine sw_cf rfl ?_ | refine sw_skip ?_ | refine sw_exit ?_ | refine sw_ret ?_ | refine And.intro (by first | omega | rfl) ?_ | simp only [aops, thn, inB, ↓reduceIte, Nat.reduceEqDiff])))
      simp [go_sem, hR]
    · rw [hk] at hR
      (repeat (first | (refine hk_use (by assumption) ?_) | (refine sw_seqk fun _ _ => ?_) | (refine sw_reg ?_) | (refine aops_k fun _ _ => ?_; simp [go_sem]; try go_ints) | refine sw_block ?_ | refine sw_ct rfl ?_ | refine sw_cf rfl ?_ | refine sw_skip ?_ | refine sw_exit ?_ | refine sw_ret ?_ | refine And.intro (by first | omega | rfl) ?_ | simp only [aops, thn, inB, ↓reduceIte, Nat.reduceEqDiff]))
      (refine ⟨.v _, k1, ?_⟩; simp [go_sem]; (repeat (first | (refine hk_use (by assumption) ?_) | (refine sw_seqk fun _ _ => ?_) | (refine sw_reg ?_) | (refine aops_k fun _ _ => ?_; simp [go_sem, hk]; try go_ints) | refine sw_block ?_ | refine sw_ct rfl ?_ | refine sw_cf rfl ?_ | refine sw_skip ?_ | refine sw_exit ?_ | refine sw_ret ?_ | refine And.intro (by first | omega | rfl) ?_ | simp only [aops, thn, inB, ↓reduceIte, Nat.reduceEqDiff])))
      simp [go_sem, hR]
    · rw [hk] at hR
      have k2 := k2 (by omega) (by omega)
      (repeat (first | (refine hk_use (by assumption) ?_) | (refine sw_seqk fun _ _ => ?_) | (refine sw_reg ?_) | (refine aops_k fun _ _ => ?_; simp [go_sem]; try go_ints) | refine sw_block ?_ | refine sw_ct rfl ?_ | refine sw_cf rfl ?_ | refine sw_skip ?_ | refine sw_exit ?_ | refine sw_ret ?_ | refine And.intro (by first | omega | rfl) ?_ | simp only [aops, thn, inB, ↓reduceIte, Nat.reduceEqDiff]))
      (refine ⟨.v _, k1, ?_⟩; simp [go_sem]; (repeat (first | (refine hk_use (by assumption) ?_) | (refine sw_seqk fun _ _ => ?_) | (refine sw_reg ?_) | (refine aops_k fun _ _ => ?_; simp [go_sem, hk]; try go_ints) | refine sw_block ?_ | refine sw_ct rfl ?_ | refine sw_cf rfl ?_ | refine sw_skip ?_ | refine sw_exit ?_ | refine sw_ret ?_ | refine And.intro (by first | omega | rfl) ?_ | simp only [aops, thn, inB, ↓reduceIte, Nat.reduceEqDiff])))
      (refine ⟨.v _, k2, ?_⟩; simp [go_sem]; (repeat (first | (refine hk_use (by assumption) ?_) | (refine sw_seqk fun _ _ => ?_) | (refine sw_reg ?_) | (refine aops_k fun _ _ => ?_; simp [go_sem, bs_size, bs_app]; try go_ints) | refine sw_block ?_ | refine sw_ct rfl ?_ | refine sw_cf rfl ?_ | refine sw_skip ?_ | refine sw_exit ?_ | refine sw_ret ?_ | refine And.intro (by first | omega | rfl) ?_ | simp only [aops, thn, inB, ↓reduceIte, Nat.reduceEqDiff])))
      simp [go_sem, hR]
    · rw [hk] at hR
      have k2 := k2 (by omega) (by omega)
      (repeat (first | (refine hk_use (by assumption) ?_) | (refine sw_seqk fun _ _ => ?_) | (refine sw_reg ?_) | (refine aops_k fun _ _ => ?_; simp [go_sem]; try go_ints) | refine sw_block ?_ | refine sw_ct rfl ?_ | refine sw_cf rfl ?_ | refine sw_skip ?_ | refine sw_exit ?_ | refine sw_ret ?_ | refine And.intro (by first | omega | rfl) ?_ | simp only [aops, thn, inB, ↓reduceIte, Nat.reduceEqDiff]))
      (refine ⟨.v _, k1, ?_⟩; simp [go_sem]; (repeat (first | (refine hk_use (by assumption) ?_) | (refine sw_seqk fun _ _ => ?_) | (refine sw_reg ?_) | (refine aops_k fun _ _ => ?_; simp [go_sem, hk]; try go_ints) | refine sw_block ?_ | refine sw_ct rfl ?_ | refine sw_cf rfl ?_ | refine sw_skip ?_ | refine sw_exit ?_ | refine sw_ret ?_ | refine And.intro (by first | omega | rfl) ?_ | simp only [aops, thn, inB, ↓reduceIte, Nat.reduceEqDiff])))
      (refine ⟨.v _, k3, ?_⟩; simp [go_sem]; (repeat (first | (refine hk_use (by assumption) ?_) | (refine sw_seqk fun _ _ => ?_) | (refine sw_reg ?_) | (refine aops_k fun _ _ => ?_; simp [go_sem, bs_size, bs_app]; try go_ints) | refine sw_block ?_ | refine sw_ct rfl ?_ | refine sw_cf rfl ?_ | refine sw_skip ?_ | refine sw_exit ?_ | refine sw_ret ?_ | refine And.intro (by first | omega | rfl) ?_ | simp only [aops, thn, inB, ↓reduceIte, Nat.reduceEqDiff])))
      (refine ⟨.v _, k2, ?_⟩; simp [go_sem]; (repeat (first | (refine hk_use (by assumption) ?_) | (refine sw_seqk fun _ _ => ?_) | (refine sw_reg ?_) | (refine aops_k fun _ _ => ?_; simp [go_sem, bs_size, bs_app]; try go_ints) | refine sw_block ?_ | refine sw_ct rfl ?_ | refine sw_cf rfl ?_ | refine sw_skip ?_ | refine sw_exit ?_ | refine sw_ret ?_ | refine And.intro (by first | omega | rfl) ?_ | simp only [aops, thn, inB, ↓reduceIte, Nat.reduceEqDiff])))
      simp [go_sem, hR]
    · rw [hk] at hR
      have k2 := k2 (by omega) (by omega)
      (repeat (first | (refine hk_use (by assumption) ?_) | (refine sw_seqk fun _ _ => ?_) | (refine sw_reg ?_) | (refine aops_k fun _ _ => ?_; simp [go_sem]; try go_ints) | refine sw_block ?_ | refine sw_ct rfl ?_ | refine sw_cf rfl ?_ | refine sw_skip ?_ | refine sw_exit ?_ | refine sw_ret ?_ | refine And.intro (by first | omega | rfl) ?_ | simp only [aops, thn, inB, ↓reduceIte, Nat.reduceEqDiff]))
      (refine ⟨.v _, k1, ?_⟩; simp [go_sem]; (repeat (first | (refine hk_use (by assumption) ?_) | (refine sw_seqk fun _ _ => ?_) | (refine sw_reg ?_) | (refine aops_k fun _ _ => ?_; simp [go_sem, hk]; try go_ints) | refine sw_block ?_ | refine sw_ct rfl ?_ | refine sw_cf rfl ?_ | refine sw_skip ?_ | refine sw_exit ?_ | refine sw_ret ?_ | refine And.intro (by first | omega | rfl) ?_ | simp only [aops, thn, inB, ↓reduceIte, Nat.reduceEqDiff])))
      (refine ⟨.v _, k3, ?_⟩; simp [go_sem]; (repeat (first | (refine hk_use (by assumption) ?_) | (refine sw_seqk fun _ _ => ?_) | (refine sw_reg ?_) | (refine aops_k fun _ _ => ?_; simp [go_sem, bs_size, bs_app]; try go_ints) | refine sw_block ?_ | refine sw_ct rfl ?_ | refine sw_cf rfl ?_ | refine sw_skip ?_ | refine sw_exit ?_ | refine sw_ret ?_ | refine And.intro (by first | omega | rfl) ?_ | simp only [aops, thn, inB, ↓reduceIte, Nat.reduceEqDiff])))
      (refine ⟨.v _, k2, ?_⟩; simp [go_sem]; (repeat (first | (refine hk_use (by assumption) ?_) | (refine sw_seqk fun _ _ => ?_) | (refine sw_reg ?_) | (refine aops_k fun _ _ => ?_; simp [go_sem, bs_size, bs_app]; try go_ints) | refine sw_block ?_ | refine sw_ct rfl ?_ | refine sw_cf rfl ?_ | refine sw_skip ?_ | refine sw_exit ?_ | refine sw_ret ?_ | refine And.intro (by first | omega | rfl) ?_ | simp only [aops, thn, inB, ↓reduceIte, Nat.reduceEqDiff])))
      simp [go_sem, hR]
  · rw [if_neg he] at hR
    (repeat (first | (refine hk_use (by assumption) ?_) | (refine sw_seqk fun _ _ => ?_) | (refine sw_reg ?_) | (refine aops_k fun _ _ => ?_; simp [go_sem]; try go_ints) | refine sw_block ?_ | refine sw_ct rfl ?_ | refine sw_cf rfl ?_ | refine sw_skip ?_ | refine sw_exit ?_ | refine sw_ret ?_ | refine And.intro (by first | omega | rfl) ?_ | simp only [aops, thn, inB, ↓reduceIte, Nat.reduceEqDiff]))
    (refine ⟨.v _, k1, ?_⟩; simp [go_sem]; (repeat (first | (refine hk_use (by assumption) ?_) | (refine sw_seqk fun _ _ => ?_) | (refine sw_reg ?_) | (refine aops_k fun _ _ => ?_; simp [go_sem, he]; try go_ints) | refine sw_block ?_ | refine sw_ct rfl ?_ | refine sw_cf rfl ?_ | refine sw_skip ?_ | refine sw_exit ?_ | refine sw_ret ?_ | refine And.intro (by first | omega | rfl) ?_ | simp only [aops, thn, inB, ↓reduceIte, Nat.reduceEqDiff])))
    simp [go_sem, hR]

end Go.Proofs.YthmjgbkakjpfkaaGreatDoor

namespace Go.Proofs.YthmjgbkakjpfkaaGreatDoor
open Go.RowKit

theorem rorder6_v (a b : Ar) (N : Nat) (hN : N ≤ 1073741824) (sa : a.sz N) (sb : b.sz N) : Fn Tryz.prog 33 [.g (dA a), .g (dA b)] (.c (.i .i64 (ordA a b))) := by
  refine Fn.intro' Tryz.func33 [.tmp 4] 29 fun hok => ?_
  have k1 := rcmp_v a.d b.d (Nat.le_trans sa.1 (by omega)) (Nat.le_trans sb.1 (by omega))
  have k2 := rorder5_v a.t b.t N hN sa.2 sb.2
  unfold ordA
  generalize cmpI a.d.v b.d.v = c at *
  generalize ordT a.t b.t = o at *
  by_cases h1 : a.kd < b.kd
  · have h3 : ¬ a.kd = b.kd := by omega
    (repeat (first | (refine hk_use (by assumption) ?_) | (refine sw_seqk fun _ _ => ?_) | (refine sw_reg ?_) | (refine aops_k fun _ _ => ?_; simp [go_sem, h1, h3]; try go_ints) | refine sw_block ?_ | refine sw_ct rfl ?_ | refine sw_cf rfl ?_ | refine sw_skip ?_ | refine sw_exit ?_ | refine sw_ret ?_ | refine And.intro (by first | omega | rfl) ?_ | simp only [aops, thn, inB, ↓reduceIte, Nat.reduceEqDiff]))
    simp [go_sem, h1]
  by_cases h2 : b.kd < a.kd
  · have h3 : ¬ a.kd = b.kd := by omega
    (repeat (first | (refine hk_use (by assumption) ?_) | (refine sw_seqk fun _ _ => ?_) | (refine sw_reg ?_) | (refine aops_k fun _ _ => ?_; simp [go_sem, h1, h3]; try go_ints) | refine sw_block ?_ | refine sw_ct rfl ?_ | refine sw_cf rfl ?_ | refine sw_skip ?_ | refine sw_exit ?_ | refine sw_ret ?_ | refine And.intro (by first | omega | rfl) ?_ | simp only [aops, thn, inB, ↓reduceIte, Nat.reduceEqDiff]))
    simp [go_sem, h1, h2]
  have h3 : a.kd = b.kd := by omega
  (repeat (first | (refine hk_use (by assumption) ?_) | (refine sw_seqk fun _ _ => ?_) | (refine sw_reg ?_) | (refine aops_k fun _ _ => ?_; simp [go_sem, h3]; try go_ints) | refine sw_block ?_ | refine sw_ct rfl ?_ | refine sw_cf rfl ?_ | refine sw_skip ?_ | refine sw_exit ?_ | refine sw_ret ?_ | refine And.intro (by first | omega | rfl) ?_ | simp only [aops, thn, inB, ↓reduceIte, Nat.reduceEqDiff]))
  (refine ⟨.v _, k1, ?_⟩; simp [go_sem]; (repeat (first | (refine hk_use (by assumption) ?_) | (refine sw_seqk fun _ _ => ?_) | (refine sw_reg ?_) | (refine aops_k fun _ _ => ?_; simp [go_sem]; try go_ints) | refine sw_block ?_ | refine sw_ct rfl ?_ | refine sw_cf rfl ?_ | refine sw_skip ?_ | refine sw_exit ?_ | refine sw_ret ?_ | refine And.intro (by first | omega | rfl) ?_ | simp only [aops, thn, inB, ↓reduceIte, Nat.reduceEqDiff])))
  by_cases h : c = 0
  · simp [h]
    (repeat (first | (refine hk_use (by assumption) ?_) | (refine sw_seqk fun _ _ => ?_) | (refine sw_reg ?_) | (refine aops_k fun _ _ => ?_; simp [go_sem]; try go_ints) | refine sw_block ?_ | refine sw_ct rfl ?_ | refine sw_cf rfl ?_ | refine sw_skip ?_ | refine sw_exit ?_ | refine sw_ret ?_ | refine And.intro (by first | omega | rfl) ?_ | simp only [aops, thn, inB, ↓reduceIte, Nat.reduceEqDiff]))
    (refine ⟨.v _, k2, ?_⟩; simp [go_sem]; (repeat (first | (refine hk_use (by assumption) ?_) | (refine sw_seqk fun _ _ => ?_) | (refine sw_reg ?_) | (refine aops_k fun _ _ => ?_; simp [go_sem]; try go_ints) | refine sw_block ?_ | refine sw_ct rfl ?_ | refine sw_cf rfl ?_ | refine sw_skip ?_ | refine sw_exit ?_ | refine sw_ret ?_ | refine And.intro (by first | omega | rfl) ?_ | simp only [aops, thn, inB, ↓reduceIte, Nat.reduceEqDiff])))
    simp [go_sem, h, h1, h2]
  · simp [h]
    (repeat (first | (refine hk_use (by assumption) ?_) | (refine sw_seqk fun _ _ => ?_) | (refine sw_reg ?_) | (refine aops_k fun _ _ => ?_; simp [go_sem]; try go_ints) | refine sw_block ?_ | refine sw_ct rfl ?_ | refine sw_cf rfl ?_ | refine sw_skip ?_ | refine sw_exit ?_ | refine sw_ret ?_ | refine And.intro (by first | omega | rfl) ?_ | simp only [aops, thn, inB, ↓reduceIte, Nat.reduceEqDiff]))
    simp [go_sem, h1, h2]
theorem ris6_v (a : Ar) (x : Z) (h : (a.kd = 3 ∨ a.kd = 4) → 0 < a.d.v) (hd : a.d.mag.length ≤ 274877906943) (hx : x.mag.length ≤ 274877906943) : Fn Tryz.prog 78 [.g (dA a), .g (dZ x)] (.c (.b (holdsA a x.v))) := by
  refine Fn.intro' Tryz.func78 [.tmp 4] 30 fun hok => ?_
  obtain ⟨kd, d, t⟩ := a
  simp only at h hd
  unfold holdsA
  simp only
  by_cases h1 : kd = 1
  · subst h1
    (repeat (first | (refine hk_use (by assumption) ?_) | (refine sw_seqk fun _ _ => ?_) | (refine sw_reg ?_) | (refine aops_k fun _ _ => ?_; simp [go_sem]; try go_ints) | refine sw_block ?_ | refine sw_ct rfl ?_ | refine sw_cf rfl ?_ | refine sw_skip ?_ | refine sw_exit ?_ | refine sw_ret ?_ | refine And.intro (by first | omega | rfl) ?_ | simp only [aops, thn, inB, ↓reduceIte, Nat.reduceEqDiff]))
    simp [go_sem]
  by_cases h2 : kd = 2
  · subst h2
    have k1 := rsign_v x (by omega)
    have hsg : decide (0 < sgn x.v) = decide (0 < x.v) := decide_eq_decide.2 cmpI_pos
    (repeat (first | (refine hk_use (by assumption) ?_) | (refine sw_seqk fun _ _ => ?_) | (refine sw_reg ?_) | (refine aops_k fun _ _ => ?_; simp [go_sem]; try go_ints) | refine sw_block ?_ | refine sw_ct rfl ?_ | refine sw_cf rfl ?_ | refine sw_skip ?_ | refine sw_exit ?_ | refine sw_ret ?_ | refine And.intro (by first | omega | rfl) ?_ | simp only [aops, thn, inB, ↓reduceIte, Nat.reduceEqDiff]))
    (refine ⟨.v _, k1, ?_⟩; simp [go_sem]; (repeat (first | (refine hk_use (by assumption) ?_) | (refine sw_seqk fun _ _ => ?_) | (refine sw_reg ?_) | (refine aops_k fun _ _ => ?_; simp [go_sem]; try go_ints) | refine sw_block ?_ | refine sw_ct rfl ?_ | refine sw_cf rfl ?_ | refine sw_skip ?_ | refine sw_exit ?_ | refine sw_ret ?_ | refine And.intro (by first | omega | rfl) ?_ | simp only [aops, thn, inB, ↓reduceIte, Nat.reduceEqDiff])))
    simp [go_sem, hsg]
  by_cases h3 : kd = 3
  · subst h3
    have hd0 := h (.inl rfl)
    have k1 := rmod_v x d hd0 (by omega) (by omega)
    have hml : zl (x.v.fmod d.v) ≤ 274877906943 := fmod_zl hd0 (Nat.le_trans (zl_of (ok_a (hok (.g (dA ⟨3, d, t⟩)) (by simp))).2.1) hd)
    obtain ⟨m, m1, m2, m3⟩ := cz_facts (x.v.fmod d.v)
    rw [← m1] at k1
    have k2 := rsign_v m (by omega)
    rw [m2] at k2
    generalize x.v.fmod d.v = y at *
    (repeat (first | (refine hk_use (by assumption) ?_) | (refine sw_seqk fun _ _ => ?_) | (refine sw_reg ?_) | (refine aops_k fun _ _ => ?_; simp [go_sem]; try go_ints) | refine sw_block ?_ | refine sw_ct rfl ?_ | refine sw_cf rfl ?_ | refine sw_skip ?_ | refine sw_exit ?_ | refine sw_ret ?_ | refine And.intro (by first | omega | rfl) ?_ | simp only [aops, thn, inB, ↓reduceIte, Nat.reduceEqDiff]))
    (refine ⟨.v _, k1, ?_⟩; simp [go_sem]; (repeat (first | (refine hk_use (by assumption) ?_) | (refine sw_seqk fun _ _ => ?_) | (refine sw_reg ?_) | (refine aops_k fun _ _ => ?_; simp [go_sem]; try go_ints) | refine sw_block ?_ | refine sw_ct rfl ?_ | refine sw_cf rfl ?_ | refine sw_skip ?_ | refine sw_exit ?_ | refine sw_ret ?_ | refine And.intro (by first | omega | rfl) ?_ | simp only [aops, thn, inB, ↓reduceIte, Nat.reduceEqDiff])))
    (refine ⟨.v _, k2, ?_⟩; simp [go_sem]; (repeat (first | (refine hk_use (by assumption) ?_) | (refine sw_seqk fun _ _ => ?_) | (refine sw_reg ?_) | (refine aops_k fun _ _ => ?_; simp [go_sem, sgn_zero]; try go_ints) | refine sw_block ?_ | refine sw_ct rfl ?_ | refine sw_cf rfl ?_ | refine sw_skip ?_ | refine sw_exit ?_ | refine sw_ret ?_ | refine And.intro (by first | omega | rfl) ?_ | simp only [aops, thn, inB, ↓reduceIte, Nat.reduceEqDiff])))
    simp [go_sem]
  by_cases h4 : kd = 4
  · subst h4
    have hd0 := h (.inr rfl)
    have k1 := rmod_v x d hd0 (by omega) (by omega)
    have hml : zl (x.v.fmod d.v) ≤ 274877906943 := fmod_zl hd0 (Nat.le_trans (zl_of (ok_a (hok (.g (dA ⟨4, d, t⟩)) (by simp))).2.1) hd)
    obtain ⟨m, m1, m2, m3⟩ := cz_facts (x.v.fmod d.v)
    rw [← m1] at k1
    have k2 := rsign_v m (by omega)
    rw [m2] at k2
    generalize x.v.fmod d.v = y at *
    (repeat (first | (refine hk_use (by assumption) ?_) | (refine sw_seqk fun _ _ => ?_) | (refine sw_reg ?_) | (refine aops_k fun _ _ => ?_; simp [go_sem]; try go_ints) | refine sw_block ?_ | refine sw_ct rfl ?_ | refine sw_cf rfl ?_ | refine sw_skip ?_ | refine sw_exit ?_ | refine sw_ret ?_ | refine And.intro (by first | omega | rfl) ?_ | simp only [aops, thn, inB, ↓reduceIte, Nat.reduceEqDiff]))
    (refine ⟨.v _, k1, ?_⟩; simp [go_sem]; (repeat (first | (refine hk_use (by assumption) ?_) | (refine sw_seqk fun _ _ => ?_) | (refine sw_reg ?_) | (refine aops_k fun _ _ => ?_; simp [go_sem]; try go_ints) | refine sw_block ?_ | refine sw_ct rfl ?_ | refine sw_cf rfl ?_ | refine sw_skip ?_ | refine sw_exit ?_ | refine sw_ret ?_ | refine And.intro (by first | omega | rfl) ?_ | simp only [aops, thn, inB, ↓reduceIte, Nat.reduceEqDiff])))
    (refine ⟨.v _, k2, ?_⟩; simp [go_sem]; (repeat (first | (refine hk_use (by assumption) ?_) | (refine sw_seqk fun _ _ => ?_) | (refine sw_reg ?_) | (refine aops_k fun _ _ => ?_; simp [go_sem, sgn_zero]; try go_ints) | refine sw_block ?_ | refine sw_ct rfl ?_ | refine sw_cf rfl ?_ | refine sw_skip ?_ | refine sw_exit ?_ | refine sw_ret ?_ | refine And.intro (by first | omega | rfl) ?_ | simp only [aops, thn, inB, ↓reduceIte, Nat.reduceEqDiff])))
    simp [go_sem]
  · (repeat (first | (refine hk_use (by assumption) ?_) | (refine sw_seqk fun _ _ => ?_) | (refine sw_reg ?_) | (refine aops_k fun _ _ => ?_; simp [go_sem, h1, h2, h3, h4]; try go_ints) | refine sw_block ?_ | refine sw_ct rfl ?_ | refine sw_cf rfl ?_ | refine sw_skip ?_ | refine sw_exit ?_ | refine sw_ret ?_ | refine And.intro (by first | omega | rfl) ?_ | simp only [aops, thn, inB, ↓reduceIte, Nat.reduceEqDiff]))
    simp [go_sem, h1, h2, h3, h4]
theorem relD_vals {w : World} {X : Nat → Prop} {v : Value} {l : List (Int × Z)} : RelD w X v (.c (.l (l.map dP))) ↔ ∃ A c, v = .slice A l.length c ∧ Pl w X A c l := rp_p
def evalR (t : T) (vals : List (Int × Z)) : Z × Int := if cov vals (cn (vl t.ps)) then (cz (t.k.v + ev (fv vals) (vl t.ps)), 0) else (⟨false, []⟩, 170)
theorem reval5_v (t : T) (vals : List (Int × Z)) (N : Nat) (hN : N ≤ 1073741824) (hs : t.sz N) (hvs : ∀ p ∈ vals, p.2.mag.length ≤ N) : Fn Tryz.prog 77 [.g (dT t), .c (.l (vals.map dP))] (.t [aZ true (evalR t vals).1, .c (.i .i64 (evalR t vals).2)]) :=
  fn2 fun w X u v hu hv => by
    obtain ⟨A, c, rfl, h⟩ := relD_vals.1 hv
    refine (reval5_c (relD_t.1 hu) h hN hs hvs).mono fun e w' ⟨h1, h2⟩ => ?_
    unfold EvR at h1
    unfold evalR
    split at h1
    · rename_i hc
      rw [if_pos hc]
      obtain ⟨r, e1, e2⟩ := h1
      exact ⟨_, e1, ⟨_, rfl, .cons (ansA_z e2) (.cons (err_rel (.inl rfl)) .nil)⟩, h2⟩
    · rename_i hc
      rw [if_neg hc]
      exact ⟨_, h1, ⟨_, rfl, .cons ⟨_, rfl, .cons rfl (.cons (ans_n (l := []) (Sl.nil0 _ _ _)) .nil)⟩ (.cons (err_rel (.inr (.inr (.inr rfl)))) .nil)⟩, h2⟩
theorem rholds6_v (a : Ar) (vals : List (Int × Z)) (N : Nat) (hs : a.sz N) (hvs : ∀ p ∈ vals, p.2.mag.length ≤ N) (hN2 : 2 ≤ N) (hN : N ≤ 16777216) : Fn Tryz.prog 31 [.g (dA a), .c (.l (vals.map dP))] (.t [.c (.b (holdsR a vals).1), .c (.i .i64 (holdsR a vals).2)]) := by
  refine Fn.intro' Tryz.func31 [.tmp 4, .tmp 5] 30 fun hok => ?_
  obtain ⟨b1, b2, b3⟩ := ok_a (hok (.g (dA a)) (by simp))
  have hn : (normA a).1.sz (2 * N) := normA_sz hN2 hs b2 b3
  have hF := normA_form a
  obtain ⟨f1, f2, f3, f4, -⟩ := form_facts hF
  have hvb : ∀ p ∈ vals, Lb p.2.mag := fun p hp => by
    have h1 := (ok_l.1 (hok (.c (.l (vals.map dP))) (by simp))).2 (dP p) (List.mem_map.2 ⟨p, hp, rfl⟩)
    exact ok_z fun d hd => h1 d (List.mem_cons_of_mem _ hd)
  have k1 := rnorm6_v a N hs hN2 hN
  have k2 := reval5_v (normA a).1.t vals (2 * N) (by omega) hn.2 (fun p hp => Nat.le_trans (hvs p hp) (by omega))
  have hl := tev_sz (vals := vals) (t := (normA a).1.t) (N := 2 * N) f3 hn.2 hvb (fun p hp => Nat.le_trans (hvs p hp) (by omega))
  have hpos : ((normA a).1.kd = 3 ∨ (normA a).1.kd = 4) → 0 < (normA a).1.d.v := fun hk => by
    rcases hF with ⟨b, hb⟩ | ⟨h2, _⟩ | ⟨_, h2, _⟩
    · rw [hb] at hk; cases b <;> simp [constA] at hk
    · omega
    · omega
  have k3 := ris6_v (normA a).1 (evalR (normA a).1.t vals).1 hpos (Nat.le_trans hn.1 (by omega)) (by
    unfold evalR
    split
    · show (cz _).mag.length ≤ _
      rw [cz_len, Int.add_comm]
      exact Nat.le_trans hl (by omega)
    · exact Nat.zero_le _)
  obtain ⟨R, hR⟩ : ∃ R, R = holdsR a vals := ⟨_, rfl⟩
  rw [← hR]
  unfold holdsR at hR
  by_cases h : (normA a).2 = 0
  · rw [if_neg (by simpa using h)] at hR
    by_cases hc : cov vals (cn (vl (normA a).1.t.ps)) = true
    · rw [if_pos hc] at hR
      have e1 : evalR (normA a).1.t vals = (cz (tev (fv vals) (normA a).1.t), 0) := by
        unfold evalR tev; rw [if_pos hc, Int.add_comm]
      rw [e1] at k2 k3
      rw [show (cz (tev (fv vals) (normA a).1.t), (0 : Int)).1 = cz (tev (fv vals) (normA a).1.t) from rfl, cz_v] at k3
      generalize holdsA (normA a).1 (tev (fv vals) (normA a).1.t) = hb at *
      generalize cz (tev (fv vals) (normA a).1.t) = ez0 at *
      generalize normA a = M at *
      obtain ⟨M, e⟩ := M
      simp only at *
      subst h
      (repeat (first | (refine hk_use (by assumption) ?_) | (refine sw_seqk fun _ _ => ?_) | (refine sw_reg ?_) | (refine aops_k fun _ _ => ?_; simp [go_sem]; try go_ints) | refine sw_block ?_ | refine sw_ct rfl ?_ | refine sw_cf rfl ?_ | refine sw_skip ?_ | refine sw_exit ?_ | refine sw_ret ?_ | refine And.intro (by first | omega | rfl) ?_ | simp only [aops, thn, inB, ↓reduceIte, Nat.reduceEqDiff]))
      (refine ⟨.v _, k1, ?_⟩; simp [go_sem]; (repeat (first | (refine hk_use (by assumption) ?_) | (refine sw_seqk fun _ _ => ?_) | (refine sw_reg ?_) | (refine aops_k fun _ _ => ?_; simp [go_sem]; try go_ints) | refine sw_block ?_ | refine sw_ct rfl ?_ | refine sw_cf rfl ?_ | refine sw_skip ?_ | refine sw_exit ?_ | refine sw_ret ?_ | refine And.intro (by first | omega | rfl) ?_ | simp only [aops, thn, inB, ↓reduceIte, Nat.reduceEqDiff])))
      (refine ⟨.v _, k2, ?_⟩; simp [go_sem]; (repeat (first | (refine hk_use (by assumption) ?_) | (refine sw_seqk fun _ _ => ?_) | (refine sw_reg ?_) | (refine aops_k fun _ _ => ?_; simp [go_sem]; try go_ints) | refine sw_block ?_ | refine sw_ct rfl ?_ | refine sw_cf rfl ?_ | refine sw_skip ?_ | refine sw_exit ?_ | refine sw_ret ?_ | refine And.intro (by first | omega | rfl) ?_ | simp only [aops, thn, inB, ↓reduceIte, Nat.reduceEqDiff])))
      (refine ⟨.v _, k3, ?_⟩; simp [go_sem]; (repeat (first | (refine hk_use (by assumption) ?_) | (refine sw_seqk fun _ _ => ?_) | (refine sw_reg ?_) | (refine aops_k fun _ _ => ?_; simp [go_sem]; try go_ints) | refine sw_block ?_ | refine sw_ct rfl ?_ | refine sw_cf rfl ?_ | refine sw_skip ?_ | refine sw_exit ?_ | refine sw_ret ?_ | refine And.intro (by first | omega | rfl) ?_ | simp only [aops, thn, inB, ↓reduceIte, Nat.reduceEqDiff])))
      simp [go_sem, hR]
    · rw [if_neg hc] at hR
      have e1 : evalR (normA a).1.t vals = (⟨false, []⟩, 170) := by
        unfold evalR; rw [if_neg hc]
      rw [e1] at k2
      generalize normA a = M at *
      obtain ⟨M, e⟩ := M
      simp only at *
      subst h
      (repeat (first | (refine hk_use (by assumption) ?_) | (refine sw_seqk fun _ _ => ?_) | (refine sw_reg ?_) | (refine aops_k fun _ _ => ?_; simp [go_sem]; try go_ints) | refine sw_block ?_ | refine sw_ct rfl ?_ | refine sw_cf rfl ?_ | refine sw_skip ?_ | refine sw_exit ?_ | refine sw_ret ?_ | refine And.intro (by first | omega | rfl) ?_ | simp only [aops, thn, inB, ↓reduceIte, Nat.reduceEqDiff]))
      (refine ⟨.v _, k1, ?_⟩; simp [go_sem]; (repeat (first | (refine hk_use (by assumption) ?_) | (refine sw_seqk fun _ _ => ?_) | (refine sw_reg ?_) | (refine aops_k fun _ _ => ?_; simp [go_sem]; try go_ints) | refine sw_block ?_ | refine sw_ct rfl ?_ | refine sw_cf rfl ?_ | refine sw_skip ?_ | refine sw_exit ?_ | refine sw_ret ?_ | refine And.intro (by first | omega | rfl) ?_ | simp only [aops, thn, inB, ↓reduceIte, Nat.reduceEqDiff])))
      (refine ⟨.v _, k2, ?_⟩; simp [go_sem]; (repeat (first | (refine hk_use (by assumption) ?_) | (refine sw_seqk fun _ _ => ?_) | (refine sw_reg ?_) | (refine aops_k fun _ _ => ?_; simp [go_sem]; try go_ints) | refine sw_block ?_ | refine sw_ct rfl ?_ | refine sw_cf rfl ?_ | refine sw_skip ?_ | refine sw_exit ?_ | refine sw_ret ?_ | refine And.intro (by first | omega | rfl) ?_ | simp only [aops, thn, inB, ↓reduceIte, Nat.reduceEqDiff])))
      simp [go_sem, hR]
  · rw [if_pos h] at hR
    generalize normA a = M at *
    obtain ⟨M, e⟩ := M
    simp only at *
    (repeat (first | (refine hk_use (by assumption) ?_) | (refine sw_seqk fun _ _ => ?_) | (refine sw_reg ?_) | (refine aops_k fun _ _ => ?_; simp [go_sem]; try go_ints) | refine sw_block ?_ | refine sw_ct rfl ?_ | refine sw_cf rfl ?_ | refine sw_skip ?_ | refine sw_exit ?_ | refine sw_ret ?_ | refine And.intro (by first | omega | rfl) ?_ | simp only [aops, thn, inB, ↓reduceIte, Nat.reduceEqDiff]))
    (refine ⟨.v _, k1, ?_⟩; simp [go_sem]; (repeat (first | (refine hk_use (by assumption) ?_) | (refine sw_seqk fun _ _ => ?_) | (refine sw_reg ?_) | (refine aops_k fun _ _ => ?_; simp [go_sem, h]; try go_ints) | refine sw_block ?_ | refine sw_ct rfl ?_ | refine sw_cf rfl ?_ | refine sw_skip ?_ | refine sw_exit ?_ | refine sw_ret ?_ | refine And.intro (by first | omega | rfl) ?_ | simp only [aops, thn, inB, ↓reduceIte, Nat.reduceEqDiff])))
    simp [go_sem, hR]
theorem holdsR_err (a : Ar) (vals : List (Int × Z)) : (holdsR a vals).2 = 0 ∨ (holdsR a vals).2 = 1 ∨ (holdsR a vals).2 = 11 ∨ (holdsR a vals).2 = 170 := by
  unfold holdsR
  split
  · exact normA_err a
  split <;> simp
theorem aholds_v (a : Ar) (vals : List (Int × Z)) (N : Nat) (hs : a.sz N) (hvs : ∀ p ∈ vals, p.2.mag.length ≤ N) (hN2 : 2 ≤ N) (hN : N ≤ 16777216) : Fn Tryz.prog 30 [.g (dA a), .c (.l (vals.map dP))] (.t [.c (.b (holdsR a vals).1), .c (.i .i64 (holdsR a vals).2)]) :=
  fn2 fun w X u v hu hv => by
    obtain ⟨A, c, rfl, h⟩ := relD_vals.1 hv
    exact (aholds_c (relD_a.1 hu) h hs hvs hN2 hN).mono fun e w' ⟨h1, h2⟩ => ⟨_, h1, ⟨_, rfl, .cons rfl (.cons (err_rel (holdsR_err a vals)) .nil)⟩, h2⟩

end Go.Proofs.YthmjgbkakjpfkaaGreatDoor
