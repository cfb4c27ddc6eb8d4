/- The program's atoms in the new words; riddleref06: Div, Not, Norm, Same, Valid; atom.Order, atom.Valid. No conditions. The law AtomForms: it returns true. Condition: the sizes. -/
import Derived.Test.YthmjgbkakjpfkaaGreatDoorGFormsBr
import Derived.Test.YthmjgbkakjpfkaaGreatDoorGFormsAy
import Derived.Test.YthmjgbkakjpfkaaGreatDoorGFormsAz
import Derived.Test.YthmjgbkakjpfkaaGreatDoorGFormsBd
namespace Go.Proofs.YthmjgbkakjpfkaaGreatDoor
open Go.RowKit

theorem fn0 {P : Program} {f : FuncId} {r : SV} (h : ∀ w, Lay w → Calls P f #[] w fun e w' => ∃ u, e = .returned u ∧ (∀ X, RelR (cAns X w w') [] w' u r) ∧ Ext w w') : Fn P f [] r := fun w X vs hl _ ha => by
  obtain ⟨l, rfl⟩ : ∃ l : List Value, vs = l.toArray := ⟨vs.toList, by simp⟩
  cases ha
  exact (h w hl).mono fun e w' ⟨u, h3, h4, h5⟩ => ⟨u, h3, h5, h4 X⟩
theorem Lay.tab {w : World} (h : Lay w) : Tab w := h (by kernel_rfl)
theorem awake6_v : Fn Tryz.prog 10 [] (.c (.b true)) :=
  fn0 fun w hl => (awake6_c w hl.tab).mono fun _ _ ⟨e, x⟩ => ⟨_, e, fun _ => rfl, x⟩
theorem zvalid_v (z : Z) : Fn Tryz.prog 53 [.g (dZ z)] (.c (.b z.ok)) :=
  fn1 fun _ _ _ hv => (zvalid_c (relD_z.1 hv)).mono fun _ _ ⟨e, x⟩ => ⟨_, e, rfl, x⟩
theorem zcmp_v (x y : Z) : Fn Tryz.prog 15 [.g (dZ x), .g (dZ y)] (.c (.i .i64 (cmpI x.v y.v))) :=
  fn2 fun _ _ _ _ hu hv => (zcmp_c (relD_z.1 hu) (relD_z.1 hv)).mono fun _ _ ⟨e, x⟩ => ⟨_, e, cI (cmp64 _ _), x⟩
theorem tvalid_v (t : T) : Fn Tryz.prog 17 [.g (dT t)] (.c (.b t.valid)) :=
  fn1 fun _ _ _ hv => (tvalid_c (relD_t.1 hv)).mono fun _ _ ⟨e, x⟩ => ⟨_, e, rfl, x⟩
theorem torder_v (a b : T) (N : Nat) (hN : N ≤ 1073741824) (sa : a.sz N) (sb : b.sz N) : Fn Tryz.prog 75 [.g (dT a), .g (dT b)] (.c (.i .i64 (ordT a b))) :=
  fn2 fun _ _ _ _ hu hv => (torder_c (relD_t.1 hu) (relD_t.1 hv) hN sa sb).mono fun _ _ ⟨e, x⟩ => ⟨_, e, cI (ord64 a b), x⟩
theorem err_rel {c : Cx} {w : World} {n : Int} (h : n = 0 ∨ n = 1 ∨ n = 11 ∨ n = 170) : RelA c [] w (.int .i64 n) (.c (.i .i64 n)) := cI ⟨by omega, by omega⟩
theorem normA_err (a : Ar) : (normA a).2 = 0 ∨ (normA a).2 = 1 ∨ (normA a).2 = 11 ∨ (normA a).2 = 170 := by
  unfold normA
  split
  · simp
  split
  · simp
  split
  · split <;> simp
  · simp
theorem partedR_err (d : Int) (l : List (Int × Int)) (k : Int) (not : Bool) : (partedR d l k not).2 = 0 ∨ (partedR d l k not).2 = 1 ∨ (partedR d l k not).2 = 11 ∨ (partedR d l k not).2 = 170 := by
  unfold partedR
  split <;> simp
theorem aless_v (t : T) (N : Nat) (hs : t.sz N) (hN : N ≤ 1073741824) : Fn Tryz.prog 19 [.g (dT t)] (gA true (lessA (vl t.ps) t.k.v)) :=
  fn1 fun _ _ _ hv => (aless_c (relD_t.1 hv) hs hN).mono fun _ _ ⟨r, e, h, x⟩ => ⟨_, e, ans_a h.av, x⟩
theorem anorm_v (a : Ar) (N : Nat) (hs : a.sz N) (hN2 : 2 ≤ N) (hN : N ≤ 16777216) : Fn Tryz.prog 11 [.g (dA a)] (.t [aA true (normA a).1, .c (.i .i64 (normA a).2)]) :=
  fn1 fun _ _ _ hv => (anorm_c (relD_a.1 hv) hs hN2 hN).mono fun _ _ ⟨r, e, h, x⟩ => ⟨_, e, ⟨_, rfl, .cons (ansA_a h.av) (.cons (err_rel (normA_err a)) .nil)⟩, x⟩
theorem adiv_v (d : Z) (t : T) (N : Nat) (hl : d.mag.length ≤ N) (hs : t.sz N) (hN2 : 2 ≤ N) (hN : N ≤ 16777216) : Fn Tryz.prog 20 [.g (dZ d), .g (dT t)] (.t [aA true (partedR d.v (vl t.ps) t.k.v false).1, .c (.i .i64 (partedR d.v (vl t.ps) t.k.v false).2)]) :=
  fn2 fun _ _ _ _ hu hv => (adiv_c (relD_z.1 hu) (relD_t.1 hv) hl hs hN2 hN).mono fun _ _ ⟨r, e, h, x⟩ => ⟨_, e, ⟨_, rfl, .cons (ansA_a h.av) (.cons (err_rel (partedR_err _ _ _ _)) .nil)⟩, x⟩
theorem anot_v (d : Z) (t : T) (N : Nat) (hl : d.mag.length ≤ N) (hs : t.sz N) (hN2 : 2 ≤ N) (hN : N ≤ 16777216) : Fn Tryz.prog 22 [.g (dZ d), .g (dT t)] (.t [aA true (partedR d.v (vl t.ps) t.k.v true).1, .c (.i .i64 (partedR d.v (vl t.ps) t.k.v true).2)]) :=
  fn2 fun _ _ _ _ hu hv => (anot_c (relD_z.1 hu) (relD_t.1 hv) hl hs hN2 hN).mono fun _ _ ⟨r, e, h, x⟩ => ⟨_, e, ⟨_, rfl, .cons (ansA_a h.av) (.cons (err_rel (partedR_err _ _ _ _)) .nil)⟩, x⟩

/-! riddleref06. -/
theorem rpartedR_v (d : Z) (t : T) (not : Bool) (N : Nat) (hl : d.mag.length ≤ N) (hs : t.sz N) (hN2 : 2 ≤ N) (hN : N ≤ 16777216) : Fn Tryz.prog 64 [.g (dZ d), .g (dT t), .c (.b not)] (.t [aA true (partedR d.v (vl t.ps) t.k.v not).1, .c (.i .i64 (partedR d.v (vl t.ps) t.k.v not).2)]) := by
  unfold partedR
  split
  · exact rparted0_v d t not (by omega) ‹_›
  · exact rparted_v d t not N hN2 hN hl hs ‹_›
theorem rdiv6_v (d : Z) (t : T) (N : Nat) (hl : d.mag.length ≤ N) (hs : t.sz N) (hN2 : 2 ≤ N) (hN : N ≤ 16777216) : Fn Tryz.prog 21 [.g (dZ d), .g (dT t)] (.t [aA true (partedR d.v (vl t.ps) t.k.v false).1, .c (.i .i64 (partedR d.v (vl t.ps) t.k.v false).2)]) := by
  refine Fn.intro' Tryz.func21 [.cell 4 29, .tmp 5] 11 fun hok => ?_
  have k1 := rpartedR_v d t false N hl hs hN2 hN
  generalize partedR d.v (vl t.ps) t.k.v false = R at *
  (repeat (first | (refine hk_use (by assumption) ?_) | (refine sw_seqk fun _ _ => ?_) | (refine sw_reg ?_) | (refine aops_k fun _ _ => ?_; simp [go_sem]; try go_ints) | (refine sw_block ?_) | (refine sw_ct rfl ?_) | (refine sw_cf rfl ?_) | (refine sw_skip ?_) | (refine sw_exit ?_) | (refine sw_ret ?_) | (refine And.intro (by first | omega | rfl) ?_) | (simp only [aops, thn, inB, ↓reduceIte, Nat.reduceEqDiff])))
  (refine ⟨.v _, k1, ?_⟩; simp [go_sem]; (repeat (first | (refine hk_use (by assumption) ?_) | (refine sw_seqk fun _ _ => ?_) | (refine sw_reg ?_) | (refine aops_k fun _ _ => ?_; simp [go_sem]; try go_ints) | (refine sw_block ?_) | (refine sw_ct rfl ?_) | (refine sw_cf rfl ?_) | (refine sw_skip ?_) | (refine sw_exit ?_) | (refine sw_ret ?_) | (refine And.intro (by first | omega | rfl) ?_) | (simp only [aops, thn, inB, ↓reduceIte, Nat.reduceEqDiff]))))
  simp [go_sem]
theorem rnot6_v (d : Z) (t : T) (N : Nat) (hl : d.mag.length ≤ N) (hs : t.sz N) (hN2 : 2 ≤ N) (hN : N ≤ 16777216) : Fn Tryz.prog 23 [.g (dZ d), .g (dT t)] (.t [aA true (partedR d.v (vl t.ps) t.k.v true).1, .c (.i .i64 (partedR d.v (vl t.ps) t.k.v true).2)]) := by
  refine Fn.intro' Tryz.func23 [.cell 4 29, .tmp 5] 11 fun hok => ?_
  have k1 := rpartedR_v d t true N hl hs hN2 hN
  generalize partedR d.v (vl t.ps) t.k.v true = R at *
  (repeat (first | (refine hk_use (by assumption) ?_) | (refine sw_seqk fun _ _ => ?_) | (refine sw_reg ?_) | (refine aops_k fun _ _ => ?_; simp [go_sem]; try go_ints) | (refine sw_block ?_) | (refine sw_ct rfl ?_) | (refine sw_cf rfl ?_) | (refine sw_skip ?_) | (refine sw_exit ?_) | (refine sw_ret ?_) | (refine And.intro (by first | omega | rfl) ?_) | (simp only [aops, thn, inB, ↓reduceIte, Nat.reduceEqDiff])))
  (refine ⟨.v _, k1, ?_⟩; simp [go_sem]; (repeat (first | (refine hk_use (by assumption) ?_) | (refine sw_seqk fun _ _ => ?_) | (refine sw_reg ?_) | (refine aops_k fun _ _ => ?_; simp [go_sem]; try go_ints) | (refine sw_block ?_) | (refine sw_ct rfl ?_) | (refine sw_cf rfl ?_) | (refine sw_skip ?_) | (refine sw_exit ?_) | (refine sw_ret ?_) | (refine And.intro (by first | omega | rfl) ?_) | (simp only [aops, thn, inB, ↓reduceIte, Nat.reduceEqDiff]))))
  simp [go_sem]
theorem rnorm6_v (a : Ar) (N : Nat) (hs : a.sz N) (hN2 : 2 ≤ N) (hN : N ≤ 16777216) : Fn Tryz.prog 24 [.g (dA a)] (.t [aA true (normA a).1, .c (.i .i64 (normA a).2)]) := by
  refine Fn.intro' Tryz.func24 [.cell 2 29, .tmp 3] 31 fun hok => ?_
  obtain ⟨kd, d, t⟩ := a
  obtain ⟨hs1, hs2⟩ := hs
  obtain ⟨R, hR⟩ : ∃ R, R = normA ⟨kd, d, t⟩ := ⟨_, rfl⟩
  rw [← hR]
  unfold normA at hR
  simp only at hR
  by_cases h0 : kd = 0
  · rw [if_pos (.inl h0)] at hR
    (repeat (first | (refine hk_use (by assumption) ?_) | (refine sw_seqk fun _ _ => ?_) | (refine sw_reg ?_) | (refine aops_k fun _ _ => ?_; simp [go_sem, h0]; try go_ints) | (refine sw_block ?_) | (refine sw_ct rfl ?_) | (refine sw_cf rfl ?_) | (refine sw_skip ?_) | (refine sw_exit ?_) | (refine sw_ret ?_) | (refine And.intro (by first | omega | rfl) ?_) | (simp only [aops, thn, inB, ↓reduceIte, Nat.reduceEqDiff])))
    simp [go_sem, hR, h0, constA, dN]
    exact ⟨rfl, rfl, rfl, rfl, rfl⟩
  by_cases h1 : kd = 1
  · rw [if_pos (.inr h1)] at hR
    (repeat (first | (refine hk_use (by assumption) ?_) | (refine sw_seqk fun _ _ => ?_) | (refine sw_reg ?_) | (refine aops_k fun _ _ => ?_; simp [go_sem, h0, h1]; try go_ints) | (refine sw_block ?_) | (refine sw_ct rfl ?_) | (refine sw_cf rfl ?_) | (refine sw_skip ?_) | (refine sw_exit ?_) | (refine sw_ret ?_) | (refine And.intro (by first | omega | rfl) ?_) | (simp only [aops, thn, inB, ↓reduceIte, Nat.reduceEqDiff])))
    simp [go_sem, hR, h0, h1, constA, dN]
    exact ⟨rfl, rfl, rfl, rfl, rfl⟩
  rw [if_neg (by omega)] at hR
  by_cases h2 : kd = 2
  · rw [if_pos h2] at hR
    have k1 := rless_v t N hN2 (by omega) hs2
    generalize lessA (vl t.ps) t.k.v = L at *
    (repeat (first | (refine hk_use (by assumption) ?_) | (refine sw_seqk fun _ _ => ?_) | (refine sw_reg ?_) | (refine aops_k fun _ _ => ?_; simp [go_sem, h0, h1, h2]; try go_ints) | (refine sw_block ?_) | (refine sw_ct rfl ?_) | (refine sw_cf rfl ?_) | (refine sw_skip ?_) | (refine sw_exit ?_) | (refine sw_ret ?_) | (refine And.intro (by first | omega | rfl) ?_) | (simp only [aops, thn, inB, ↓reduceIte, Nat.reduceEqDiff])))
    (refine ⟨.v _, k1, ?_⟩; simp [go_sem]; (repeat (first | (refine hk_use (by assumption) ?_) | (refine sw_seqk fun _ _ => ?_) | (refine sw_reg ?_) | (refine aops_k fun _ _ => ?_; simp [go_sem]; try go_ints) | (refine sw_block ?_) | (refine sw_ct rfl ?_) | (refine sw_cf rfl ?_) | (refine sw_skip ?_) | (refine sw_exit ?_) | (refine sw_ret ?_) | (refine And.intro (by first | omega | rfl) ?_) | (simp only [aops, thn, inB, ↓reduceIte, Nat.reduceEqDiff]))))
    simp [go_sem, hR]
  rw [if_neg h2] at hR
  by_cases h3 : kd = 3 ∨ kd = 4
  · rw [if_pos h3] at hR
    have k1 := rpartedR_v d t (decide (kd = 4)) N hs1 hs2 hN2 hN
    have hR : R = partedR d.v (vl t.ps) t.k.v (decide (kd = 4)) := hR
    rw [← hR] at k1
    rcases h3 with h3 | h3
    · subst h3
      (repeat (first | (refine hk_use (by assumption) ?_) | (refine sw_seqk fun _ _ => ?_) | (refine sw_reg ?_) | (refine aops_k fun _ _ => ?_; simp [go_sem]; try go_ints) | (refine sw_block ?_) | (refine sw_ct rfl ?_) | (refine sw_cf rfl ?_) | (refine sw_skip ?_) | (refine sw_exit ?_) | (refine sw_ret ?_) | (refine And.intro (by first | omega | rfl) ?_) | (simp only [aops, thn, inB, ↓reduceIte, Nat.reduceEqDiff])))
      (refine ⟨.v _, k1, ?_⟩; simp [go_sem]; (repeat (first | (refine hk_use (by assumption) ?_) | (refine sw_seqk fun _ _ => ?_) | (refine sw_reg ?_) | (refine aops_k fun _ _ => ?_; simp [go_sem]; try go_ints) | (refine sw_block ?_) | (refine sw_ct rfl ?_) | (refine sw_cf rfl ?_) | (refine sw_skip ?_) | (refine sw_exit ?_) | (refine sw_ret ?_) | (refine And.intro (by first | omega | rfl) ?_) | (simp only [aops, thn, inB, ↓reduceIte, Nat.reduceEqDiff]))))
      simp [go_sem]
    · subst h3
      (repeat (first | (refine hk_use (by assumption) ?_) | (refine sw_seqk fun _ _ => ?_) | (refine sw_reg ?_) | (refine aops_k fun _ _ => ?_; simp [go_sem]; try go_ints) | (refine sw_block ?_) | (refine sw_ct rfl ?_) | (refine sw_cf rfl ?_) | (refine sw_skip ?_) | (refine sw_exit ?_) | (refine sw_ret ?_) | (refine And.intro (by first | omega | rfl) ?_) | (simp only [aops, thn, inB, ↓reduceIte, Nat.reduceEqDiff])))
      (refine ⟨.v _, k1, ?_⟩; simp [go_sem]; (repeat (first | (refine hk_use (by assumption) ?_) | (refine sw_seqk fun _ _ => ?_) | (refine sw_reg ?_) | (refine aops_k fun _ _ => ?_; simp [go_sem]; try go_ints) | (refine sw_block ?_) | (refine sw_ct rfl ?_) | (refine sw_cf rfl ?_) | (refine sw_skip ?_) | (refine sw_exit ?_) | (refine sw_ret ?_) | (refine And.intro (by first | omega | rfl) ?_) | (simp only [aops, thn, inB, ↓reduceIte, Nat.reduceEqDiff]))))
      simp [go_sem]
  · rw [if_neg h3] at hR
    have h4 : kd ≠ 3 := fun e => h3 (.inl e)
    have h5 : kd ≠ 4 := fun e => h3 (.inr e)
    (repeat (first | (refine hk_use (by assumption) ?_) | (refine sw_seqk fun _ _ => ?_) | (refine sw_reg ?_) | (refine aops_k fun _ _ => ?_; simp [go_sem, h0, h1, h2, h4, h5]; try go_ints) | (refine sw_block ?_) | (refine sw_ct rfl ?_) | (refine sw_cf rfl ?_) | (refine sw_skip ?_) | (refine sw_exit ?_) | (refine sw_ret ?_) | (refine And.intro (by first | omega | rfl) ?_) | (simp only [aops, thn, inB, ↓reduceIte, Nat.reduceEqDiff])))
    simp [go_sem, hR, constA, dN]
    exact ⟨rfl, rfl, rfl, rfl, rfl⟩
theorem rsame5_v (a b : T) (N : Nat) (hN : N ≤ 1073741824) (sa : a.sz N) (sb : b.sz N) : Fn Tryz.prog 66 [.g (dT a), .g (dT b)] (.c (.b (a.valid && b.valid && decide (ordT a b = 0)))) := by
  refine Fn.intro' Tryz.func66 [.tmp 4] 23 fun hok => ?_
  have k1 := rvalid5_v a N (by omega) sa
  have k2 := rvalid5_v b N (by omega) sb
  have k3 := rorder5_v a b N hN sa sb
  generalize a.valid = p at *
  generalize b.valid = q at *
  generalize ordT a b = o at *
  (repeat (first | (refine hk_use (by assumption) ?_) | (refine sw_seqk fun _ _ => ?_) | (refine sw_reg ?_) | (refine aops_k fun _ _ => ?_; simp [go_sem]; try go_ints) | (refine sw_block ?_) | (refine sw_ct rfl ?_) | (refine sw_cf rfl ?_) | (refine sw_skip ?_) | (refine sw_exit ?_) | (refine sw_ret ?_) | (refine And.intro (by first | omega | rfl) ?_) | (simp only [aops, thn, inB, ↓reduceIte, Nat.reduceEqDiff])))
  (refine ⟨.v _, k1, ?_⟩; simp [go_sem]; (repeat (first | (refine hk_use (by assumption) ?_) | (refine sw_seqk fun _ _ => ?_) | (refine sw_reg ?_) | (refine aops_k fun _ _ => ?_; simp [go_sem]; try go_ints) | (refine sw_block ?_) | (refine sw_ct rfl ?_) | (refine sw_cf rfl ?_) | (refine sw_skip ?_) | (refine sw_exit ?_) | (refine sw_ret ?_) | (refine And.intro (by first | omega | rfl) ?_) | (simp only [aops, thn, inB, ↓reduceIte, Nat.reduceEqDiff]))))
  (refine ⟨.v _, k2, ?_⟩; simp [go_sem]; (repeat (first | (refine hk_use (by assumption) ?_) | (refine sw_seqk fun _ _ => ?_) | (refine sw_reg ?_) | (refine aops_k fun _ _ => ?_; simp [go_sem]; try go_ints) | (refine sw_block ?_) | (refine sw_ct rfl ?_) | (refine sw_cf rfl ?_) | (refine sw_skip ?_) | (refine sw_exit ?_) | (refine sw_ret ?_) | (refine And.intro (by first | omega | rfl) ?_) | (simp only [aops, thn, inB, ↓reduceIte, Nat.reduceEqDiff]))))
  (refine ⟨.v _, k3, ?_⟩; simp [go_sem]; (repeat (first | (refine hk_use (by assumption) ?_) | (refine sw_seqk fun _ _ => ?_) | (refine sw_reg ?_) | (refine aops_k fun _ _ => ?_; simp [go_sem]; try go_ints) | (refine sw_block ?_) | (refine sw_ct rfl ?_) | (refine sw_cf rfl ?_) | (refine sw_skip ?_) | (refine sw_exit ?_) | (refine sw_ret ?_) | (refine And.intro (by first | omega | rfl) ?_) | (simp only [aops, thn, inB, ↓reduceIte, Nat.reduceEqDiff]))))
  cases p
  all_goals
    cases q
    all_goals
      simp
      (repeat (first | (refine hk_use (by assumption) ?_) | (refine sw_seqk fun _ _ => ?_) | (refine sw_reg ?_) | (refine aops_k fun _ _ => ?_; simp [go_sem]; try go_ints) | (refine sw_block ?_) | (refine sw_ct rfl ?_) | (refine sw_cf rfl ?_) | (refine sw_skip ?_) | (refine sw_exit ?_) | (refine sw_ret ?_) | (refine And.intro (by first | omega | rfl) ?_) | (simp only [aops, thn, inB, ↓reduceIte, Nat.reduceEqDiff])))
      simp [go_sem]
def sameA (a b : Ar) : Bool := decide (a.kd = b.kd) && (a.d.ok && decide (a.d.v = b.d.v)) && b.d.ok && (a.t.valid && b.t.valid && decide (ordT a.t b.t = 0))
theorem rsame6_v (a b : Ar) (N : Nat) (hN : N ≤ 1073741824) (sa : a.sz N) (sb : b.sz N) : Fn Tryz.prog 26 [.g (dA a), .g (dA b)] (.c (.b (sameA a b))) := by
  refine Fn.intro' Tryz.func26 [.tmp 4] 35 fun hok => ?_
  have k1 := ris_v a.d b.d (Nat.le_trans sa.1 (by omega)) (Nat.le_trans sb.1 (by omega))
  have k2 := rvalid_v b.d (Nat.le_trans sb.1 (by omega))
  have k3 := rsame5_v a.t b.t N hN sa.2 sb.2
  unfold sameA
  generalize (a.d.ok && decide (a.d.v = b.d.v)) = p at *
  generalize b.d.ok = q at *
  generalize (a.t.valid && b.t.valid && decide (ordT a.t b.t = 0)) = o at *
  (repeat (first | (refine hk_use (by assumption) ?_) | (refine sw_seqk fun _ _ => ?_) | (refine sw_reg ?_) | (refine aops_k fun _ _ => ?_; simp [go_sem]; try go_ints) | (refine sw_block ?_) | (refine sw_ct rfl ?_) | (refine sw_cf rfl ?_) | (refine sw_skip ?_) | (refine sw_exit ?_) | (refine sw_ret ?_) | (refine And.intro (by first | omega | rfl) ?_) | (simp only [aops, thn, inB, ↓reduceIte, Nat.reduceEqDiff])))
  (refine ⟨.v _, k1, ?_⟩; simp [go_sem]; (repeat (first | (refine hk_use (by assumption) ?_) | (refine sw_seqk fun _ _ => ?_) | (refine sw_reg ?_) | (refine aops_k fun _ _ => ?_; simp [go_sem]; try go_ints) | (refine sw_block ?_) | (refine sw_ct rfl ?_) | (refine sw_cf rfl ?_) | (refine sw_skip ?_) | (refine sw_exit ?_) | (refine sw_ret ?_) | (refine And.intro (by first | omega | rfl) ?_) | (simp only [aops, thn, inB, ↓reduceIte, Nat.reduceEqDiff]))))
  (refine ⟨.v _, k2, ?_⟩; simp [go_sem]; (repeat (first | (refine hk_use (by assumption) ?_) | (refine sw_seqk fun _ _ => ?_) | (refine sw_reg ?_) | (refine aops_k fun _ _ => ?_; simp [go_sem]; try go_ints) | (refine sw_block ?_) | (refine sw_ct rfl ?_) | (refine sw_cf rfl ?_) | (refine sw_skip ?_) | (refine sw_exit ?_) | (refine sw_ret ?_) | (refine And.intro (by first | omega | rfl) ?_) | (simp only [aops, thn, inB, ↓reduceIte, Nat.reduceEqDiff]))))
  (refine ⟨.v _, k3, ?_⟩; simp [go_sem]; (repeat (first | (refine hk_use (by assumption) ?_) | (refine sw_seqk fun _ _ => ?_) | (refine sw_reg ?_) | (refine aops_k fun _ _ => ?_; simp [go_sem]; try go_ints) | (refine sw_block ?_) | (refine sw_ct rfl ?_) | (refine sw_cf rfl ?_) | (refine sw_skip ?_) | (refine sw_exit ?_) | (refine sw_ret ?_) | (refine And.intro (by first | omega | rfl) ?_) | (simp only [aops, thn, inB, ↓reduceIte, Nat.reduceEqDiff]))))
  by_cases e : a.kd = b.kd
  all_goals
    cases p
    all_goals
      cases q
      all_goals
        simp [e]
        (repeat (first | (refine hk_use (by assumption) ?_) | (refine sw_seqk fun _ _ => ?_) | (refine sw_reg ?_) | (refine aops_k fun _ _ => ?_; simp [go_sem, e]; try go_ints) | (refine sw_block ?_) | (refine sw_ct rfl ?_) | (refine sw_cf rfl ?_) | (refine sw_skip ?_) | (refine sw_exit ?_) | (refine sw_ret ?_) | (refine And.intro (by first | omega | rfl) ?_) | (simp only [aops, thn, inB, ↓reduceIte, Nat.reduceEqDiff])))
        simp [go_sem, e]

theorem rvalid6_v (a : Ar) (N : Nat) (hs : a.sz N) (hN2 : 2 ≤ N) (hN : N ≤ 16777216) : Fn Tryz.prog 28 [.g (dA a)] (.c (.b (decide ((normA a).2 = 0) && sameA a (normA a).1))) := by
  refine Fn.intro' Tryz.func28 [.tmp 2] 19 fun hok => ?_
  obtain ⟨b1, b2, b3⟩ := ok_a (hok (.g (dA a)) (by simp))
  have hn : (normA a).1.sz (2 * N) := normA_sz hN2 hs b2 b3
  have k1 := rnorm6_v a N hs hN2 hN
  have k2 := rsame6_v a (normA a).1 (2 * N) (by omega) ⟨Nat.le_trans hs.1 (by omega), hs.2.mono (by omega)⟩ hn
  generalize sameA a (normA a).1 = p at *
  generalize normA a = R at *
  obtain ⟨R, e⟩ := R
  simp only at *
  (repeat (first | (refine hk_use (by assumption) ?_) | (refine sw_seqk fun _ _ => ?_) | (refine sw_reg ?_) | (refine aops_k fun _ _ => ?_; simp [go_sem]; try go_ints) | (refine sw_block ?_) | (refine sw_ct rfl ?_) | (refine sw_cf rfl ?_) | (refine sw_skip ?_) | (refine sw_exit ?_) | (refine sw_ret ?_) | (refine And.intro (by first | omega | rfl) ?_) | (simp only [aops, thn, inB, ↓reduceIte, Nat.reduceEqDiff])))
  (refine ⟨.v _, k1, ?_⟩; simp [go_sem]; (repeat (first | (refine hk_use (by assumption) ?_) | (refine sw_seqk fun _ _ => ?_) | (refine sw_reg ?_) | (refine aops_k fun _ _ => ?_; simp [go_sem]; try go_ints) | (refine sw_block ?_) | (refine sw_ct rfl ?_) | (refine sw_cf rfl ?_) | (refine sw_skip ?_) | (refine sw_exit ?_) | (refine sw_ret ?_) | (refine And.intro (by first | omega | rfl) ?_) | (simp only [aops, thn, inB, ↓reduceIte, Nat.reduceEqDiff]))))
  (refine ⟨.v _, k2, ?_⟩; simp [go_sem]; (repeat (first | (refine hk_use (by assumption) ?_) | (refine sw_seqk fun _ _ => ?_) | (refine sw_reg ?_) | (refine aops_k fun _ _ => ?_; simp [go_sem]; try go_ints) | (refine sw_block ?_) | (refine sw_ct rfl ?_) | (refine sw_cf rfl ?_) | (refine sw_skip ?_) | (refine sw_exit ?_) | (refine sw_ret ?_) | (refine And.intro (by first | omega | rfl) ?_) | (simp only [aops, thn, inB, ↓reduceIte, Nat.reduceEqDiff]))))
  by_cases h : e = 0
  all_goals
    simp [h]
    (repeat (first | (refine hk_use (by assumption) ?_) | (refine sw_seqk fun _ _ => ?_) | (refine sw_reg ?_) | (refine aops_k fun _ _ => ?_; simp [go_sem, h]; try go_ints) | (refine sw_block ?_) | (refine sw_ct rfl ?_) | (refine sw_cf rfl ?_) | (refine sw_skip ?_) | (refine sw_exit ?_) | (refine sw_ret ?_) | (refine And.intro (by first | omega | rfl) ?_) | (simp only [aops, thn, inB, ↓reduceIte, Nat.reduceEqDiff])))
    simp [go_sem, h]
def ordA (a b : Ar) : Int := if a.kd < b.kd then -1 else if b.kd < a.kd then 1 else if cmpI a.d.v b.d.v ≠ 0 then cmpI a.d.v b.d.v else ordT a.t b.t
set_option maxRecDepth 100000 in
theorem aorder_v (a b : Ar) (N : Nat) (hN : N ≤ 1073741824) (sa : a.sz N) (sb : b.sz N) : Fn Tryz.prog 29 [.g (dA a), .g (dA b)] (.c (.i .i64 (ordA a b))) := by
  refine Fn.intro' Tryz.func29 [.tmp 4] 31 fun hok => ?_
  have k1 := zcmp_v a.d b.d
  have k2 := torder_v a.t b.t N hN sa.2 sb.2
  unfold ordA
  generalize cmpI a.d.v b.d.v = c at *
  generalize ordT a.t b.t = o at *
  by_cases h1 : a.kd < b.kd
  · (repeat (first | (refine hk_use (by assumption) ?_) | (refine sw_seqk fun _ _ => ?_) | (refine sw_reg ?_) | (refine aops_k fun _ _ => ?_; simp [go_sem, h1]; try go_ints) | (refine sw_block ?_) | (refine sw_ct rfl ?_) | (refine sw_cf rfl ?_) | (refine sw_skip ?_) | (refine sw_exit ?_) | (refine sw_ret ?_) | (refine And.intro (by first | omega | rfl) ?_) | (simp only [aops, thn, inB, ↓reduceIte, Nat.reduceEqDiff])))
    simp [go_sem, h1]
  by_cases h2 : b.kd < a.kd
  · (repeat (first | (refine hk_use (by assumption) ?_) | (refine sw_seqk fun _ _ => ?_) | (refine sw_reg ?_) | (refine aops_k fun _ _ => ?_; simp [go_sem, h1, h2]; try go_ints) | (refine sw_block ?_) | (refine sw_ct rfl ?_) | (refine sw_cf rfl ?_) | (refine sw_skip ?_) | (refine sw_exit ?_) | (refine sw_ret ?_) | (refine And.intro (by first | omega | rfl) ?_) | (simp only [aops, thn, inB, ↓reduceIte, Nat.reduceEqDiff])))
    simp [go_sem, h1, h2]
  (repeat (first | (refine hk_use (by assumption) ?_) | (refine sw_seqk fun _ _ => ?_) | (refine sw_reg ?_) | (refine aops_k fun _ _ => ?_; simp [go_sem, h1, h2]; try go_ints) | (refine sw_block ?_) | (refine sw_ct rfl ?_) | (refine sw_cf rfl ?_) | (refine sw_skip ?_) | (refine sw_exit ?_) | (refine sw_ret ?_) | (refine And.intro (by first | omega | rfl) ?_) | (simp only [aops, thn, inB, ↓reduceIte, Nat.reduceEqDiff])))
  (refine ⟨.v _, k1, ?_⟩; simp [go_sem]; (repeat (first | (refine hk_use (by assumption) ?_) | (refine sw_seqk fun _ _ => ?_) | (refine sw_reg ?_) | (refine aops_k fun _ _ => ?_; simp [go_sem]; try go_ints) | (refine sw_block ?_) | (refine sw_ct rfl ?_) | (refine sw_cf rfl ?_) | (refine sw_skip ?_) | (refine sw_exit ?_) | (refine sw_ret ?_) | (refine And.intro (by first | omega | rfl) ?_) | (simp only [aops, thn, inB, ↓reduceIte, Nat.reduceEqDiff]))))
  by_cases h : c = 0
  · simp [h]
    (repeat (first | (refine hk_use (by assumption) ?_) | (refine sw_seqk fun _ _ => ?_) | (refine sw_reg ?_) | (refine aops_k fun _ _ => ?_; simp [go_sem, h]; try go_ints) | (refine sw_block ?_) | (refine sw_ct rfl ?_) | (refine sw_cf rfl ?_) | (refine sw_skip ?_) | (refine sw_exit ?_) | (refine sw_ret ?_) | (refine And.intro (by first | omega | rfl) ?_) | (simp only [aops, thn, inB, ↓reduceIte, Nat.reduceEqDiff])))
    (refine ⟨.v _, k2, ?_⟩; simp [go_sem]; (repeat (first | (refine hk_use (by assumption) ?_) | (refine sw_seqk fun _ _ => ?_) | (refine sw_reg ?_) | (refine aops_k fun _ _ => ?_; simp [go_sem]; try go_ints) | (refine sw_block ?_) | (refine sw_ct rfl ?_) | (refine sw_cf rfl ?_) | (refine sw_skip ?_) | (refine sw_exit ?_) | (refine sw_ret ?_) | (refine And.intro (by first | omega | rfl) ?_) | (simp only [aops, thn, inB, ↓reduceIte, Nat.reduceEqDiff]))))
    simp [go_sem, h, h1, h2]
  · simp [h]
    (repeat (first | (refine hk_use (by assumption) ?_) | (refine sw_seqk fun _ _ => ?_) | (refine sw_reg ?_) | (refine aops_k fun _ _ => ?_; simp [go_sem, h]; try go_ints) | (refine sw_block ?_) | (refine sw_ct rfl ?_) | (refine sw_cf rfl ?_) | (refine sw_skip ?_) | (refine sw_exit ?_) | (refine sw_ret ?_) | (refine And.intro (by first | omega | rfl) ?_) | (simp only [aops, thn, inB, ↓reduceIte, Nat.reduceEqDiff])))
    simp [go_sem, h, h1, h2]
set_option maxRecDepth 100000 in
theorem avalid_v (a : Ar) (N : Nat) (hs : a.sz N) (hN2 : 2 ≤ N) (hN : N ≤ 16777216) : Fn Tryz.prog 25 [.g (dA a)] (.c (.b (decide ((normA a).2 = 0) && a.d.ok && a.t.valid && decide (ordA a (normA a).1 = 0)))) := by
  refine Fn.intro' Tryz.func25 [.tmp 2] 28 fun hok => ?_
  obtain ⟨b1, b2, b3⟩ := ok_a (hok (.g (dA a)) (by simp))
  have hn : (normA a).1.sz (2 * N) := normA_sz hN2 hs b2 b3
  have k1 := anorm_v a N hs hN2 hN
  have k2 := aorder_v a (normA a).1 (2 * N) (by omega) ⟨Nat.le_trans hs.1 (by omega), hs.2.mono (by omega)⟩ hn
  have k3 := zvalid_v a.d
  have k4 := tvalid_v a.t
  generalize ordA a (normA a).1 = o at *
  generalize a.d.ok = p at *
  generalize a.t.valid = q at *
  generalize normA a = R at *
  obtain ⟨R, e⟩ := R
  simp only at *
  (repeat (first | (refine hk_use (by assumption) ?_) | (refine sw_seqk fun _ _ => ?_) | (refine sw_reg ?_) | (refine aops_k fun _ _ => ?_; simp [go_sem]; try go_ints) | (refine sw_block ?_) | (refine sw_ct rfl ?_) | (refine sw_cf rfl ?_) | (refine sw_skip ?_) | (refine sw_exit ?_) | (refine sw_ret ?_) | (refine And.intro (by first | omega | rfl) ?_) | (simp only [aops, thn, inB, ↓reduceIte, Nat.reduceEqDiff])))
  (refine ⟨.v _, k1, ?_⟩; simp [go_sem]; (repeat (first | (refine hk_use (by assumption) ?_) | (refine sw_seqk fun _ _ => ?_) | (refine sw_reg ?_) | (refine aops_k fun _ _ => ?_; simp [go_sem]; try go_ints) | (refine sw_block ?_) | (refine sw_ct rfl ?_) | (refine sw_cf rfl ?_) | (refine sw_skip ?_) | (refine sw_exit ?_) | (refine sw_ret ?_) | (refine And.intro (by first | omega | rfl) ?_) | (simp only [aops, thn, inB, ↓reduceIte, Nat.reduceEqDiff]))))
  by_cases h : e = 0
  · simp [h]
    (repeat (first | (refine hk_use (by assumption) ?_) | (refine sw_seqk fun _ _ => ?_) | (refine sw_reg ?_) | (refine aops_k fun _ _ => ?_; simp [go_sem, h]; try go_ints) | (refine sw_block ?_) | (refine sw_ct rfl ?_) | (refine sw_cf rfl ?_) | (refine sw_skip ?_) | (refine sw_exit ?_) | (refine sw_ret ?_) | (refine And.intro (by first | omega | rfl) ?_) | (simp only [aops, thn, inB, ↓reduceIte, Nat.reduceEqDiff])))
    (refine ⟨.v _, k3, ?_⟩; simp [go_sem]; (repeat (first | (refine hk_use (by assumption) ?_) | (refine sw_seqk fun _ _ => ?_) | (refine sw_reg ?_) | (refine aops_k fun _ _ => ?_; simp [go_sem, h]; try go_ints) | (refine sw_block ?_) | (refine sw_ct rfl ?_) | (refine sw_cf rfl ?_) | (refine sw_skip ?_) | (refine sw_exit ?_) | (refine sw_ret ?_) | (refine And.intro (by first | omega | rfl) ?_) | (simp only [aops, thn, inB, ↓reduceIte, Nat.reduceEqDiff]))))
    cases p
    · simp
      (repeat (first | (refine hk_use (by assumption) ?_) | (refine sw_seqk fun _ _ => ?_) | (refine sw_reg ?_) | (refine aops_k fun _ _ => ?_; simp [go_sem, h]; try go_ints) | (refine sw_block ?_) | (refine sw_ct rfl ?_) | (refine sw_cf rfl ?_) | (refine sw_skip ?_) | (refine sw_exit ?_) | (refine sw_ret ?_) | (refine And.intro (by first | omega | rfl) ?_) | (simp only [aops, thn, inB, ↓reduceIte, Nat.reduceEqDiff])))
      simp [go_sem, h]
    · simp
      (repeat (first | (refine hk_use (by assumption) ?_) | (refine sw_seqk fun _ _ => ?_) | (refine sw_reg ?_) | (refine aops_k fun _ _ => ?_; simp [go_sem, h]; try go_ints) | (refine sw_block ?_) | (refine sw_ct rfl ?_) | (refine sw_cf rfl ?_) | (refine sw_skip ?_) | (refine sw_exit ?_) | (refine sw_ret ?_) | (refine And.intro (by first | omega | rfl) ?_) | (simp only [aops, thn, inB, ↓reduceIte, Nat.reduceEqDiff])))
      (refine ⟨.v _, k4, ?_⟩; simp [go_sem]; (repeat (first | (refine hk_use (by assumption) ?_) | (refine sw_seqk fun _ _ => ?_) | (refine sw_reg ?_) | (refine aops_k fun _ _ => ?_; simp [go_sem, h]; try go_ints) | (refine sw_block ?_) | (refine sw_ct rfl ?_) | (refine sw_cf rfl ?_) | (refine sw_skip ?_) | (refine sw_exit ?_) | (refine sw_ret ?_) | (refine And.intro (by first | omega | rfl) ?_) | (simp only [aops, thn, inB, ↓reduceIte, Nat.reduceEqDiff]))))
      cases q
      · simp
        (repeat (first | (refine hk_use (by assumption) ?_) | (refine sw_seqk fun _ _ => ?_) | (refine sw_reg ?_) | (refine aops_k fun _ _ => ?_; simp [go_sem, h]; try go_ints) | (refine sw_block ?_) | (refine sw_ct rfl ?_) | (refine sw_cf rfl ?_) | (refine sw_skip ?_) | (refine sw_exit ?_) | (refine sw_ret ?_) | (refine And.intro (by first | omega | rfl) ?_) | (simp only [aops, thn, inB, ↓reduceIte, Nat.reduceEqDiff])))
        simp [go_sem, h]
      · simp
        (repeat (first | (refine hk_use (by assumption) ?_) | (refine sw_seqk fun _ _ => ?_) | (refine sw_reg ?_) | (refine aops_k fun _ _ => ?_; simp [go_sem, h]; try go_ints) | (refine sw_block ?_) | (refine sw_ct rfl ?_) | (refine sw_cf rfl ?_) | (refine sw_skip ?_) | (refine sw_exit ?_) | (refine sw_ret ?_) | (refine And.intro (by first | omega | rfl) ?_) | (simp only [aops, thn, inB, ↓reduceIte, Nat.reduceEqDiff])))
        (refine ⟨.v _, k2, ?_⟩; simp [go_sem]; (repeat (first | (refine hk_use (by assumption) ?_) | (refine sw_seqk fun _ _ => ?_) | (refine sw_reg ?_) | (refine aops_k fun _ _ => ?_; simp [go_sem, h]; try go_ints) | (refine sw_block ?_) | (refine sw_ct rfl ?_) | (refine sw_cf rfl ?_) | (refine sw_skip ?_) | (refine sw_exit ?_) | (refine sw_ret ?_) | (refine And.intro (by first | omega | rfl) ?_) | (simp only [aops, thn, inB, ↓reduceIte, Nat.reduceEqDiff]))))
        simp [go_sem, h]
  · simp [h]
    (repeat (first | (refine hk_use (by assumption) ?_) | (refine sw_seqk fun _ _ => ?_) | (refine sw_reg ?_) | (refine aops_k fun _ _ => ?_; simp [go_sem, h]; try go_ints) | (refine sw_block ?_) | (refine sw_ct rfl ?_) | (refine sw_cf rfl ?_) | (refine sw_skip ?_) | (refine sw_exit ?_) | (refine sw_ret ?_) | (refine And.intro (by first | omega | rfl) ?_) | (simp only [aops, thn, inB, ↓reduceIte, Nat.reduceEqDiff])))
    simp [go_sem, h]
/-- The program's and the document's answer are the same. -/
theorem valid_same (a : Ar) : (decide ((normA a).2 = 0) && a.d.ok && a.t.valid && decide (ordA a (normA a).1 = 0)) = (decide ((normA a).2 = 0) && sameA a (normA a).1) := by
  obtain ⟨f1, f2, -, -, -⟩ := form_facts (normA_form a)
  unfold sameA ordA
  rw [f1, f2]
  by_cases h1 : a.kd = (normA a).1.kd
  · rw [if_neg (by omega), if_neg (by omega)]
    by_cases h2 : a.d.v = (normA a).1.d.v
    · rw [if_neg (by rw [cmpI_eq h2]; omega)]
      simp [h1, h2, Bool.and_assoc]
    · have h3 : cmpI a.d.v (normA a).1.d.v ≠ 0 := fun e => h2 (cmpI_zero.1 e)
      rw [if_pos h3]
      simp [h2, h3]
  · have h4 : (if a.kd < (normA a).1.kd then (-1 : Int) else if (normA a).1.kd < a.kd then 1 else if cmpI a.d.v (normA a).1.d.v ≠ 0 then cmpI a.d.v (normA a).1.d.v else ordT a.t (normA a).1.t) ≠ 0 := by
      split
      · omega
      split
      · omega
      · omega
    rw [decide_eq_false h4]
    simp [h1]
theorem same_form {n : Ar} (h : Form n) : sameA n n = true := by
  obtain ⟨f1, f2, -, -, f3⟩ := form_facts h
  simp [sameA, f1, f2, ordT_zero.2 ⟨rfl, rfl⟩]
theorem valid_form {n : Ar} (h : Form n) : (decide ((normA n).2 = 0) && n.d.ok && n.t.valid && decide (ordA n (normA n).1 = 0)) = true := by
  rw [valid_same, form_norm h, same_form h]
  rfl

end Go.Proofs.YthmjgbkakjpfkaaGreatDoor

namespace Go.Proofs.YthmjgbkakjpfkaaGreatDoor
open Go.RowKit

theorem partedR_form (d : Int) (l : List (Int × Int)) (k : Int) (not : Bool) : Form (partedR d l k not).1 := by
  unfold partedR
  split
  · exact .inl ⟨_, rfl⟩
  · exact partedA_form _ _ _ _ ‹_›
theorem partedR_sz {d : Int} {l : List (Int × Int)} {k : Int} {not : Bool} {N : Nat} (hl : l.length ≤ N) (hd : zl d ≤ N) : (partedR d l k not).1.sz (2 * N) := by
  unfold partedR
  split
  · exact ⟨Nat.zero_le _, Nat.zero_le _, fun _ h => (List.not_mem_nil h).elim, Nat.zero_le _⟩
  · exact partedA_sz ‹_› hl hd
set_option maxRecDepth 100000 in
set_option maxHeartbeats 6400000 in
theorem lawforms_v (d : Z) (t : T) (a : Ar) (N : Nat) (hd : d.mag.length ≤ N) (ht : t.sz N) (ha : a.sz N) (hN2 : 2 ≤ N) (hN : N ≤ 1048576) : Fn Tryz.prog 4 [.g (dZ d), .g (dT t), .g (dA a)] (.c (.b true)) := by
  refine Fn.intro' Tryz.func4 [.tmp 6] 110 fun hok => ?_
  have hdb : Lb d.mag := ok_z (hok (.g (dZ d)) (by simp))
  have htb : t.lb := ok_t (hok (.g (dT t)) (by simp))
  obtain ⟨-, b2, b3⟩ := ok_a (hok (.g (dA a)) (by simp))
  have hdz := Nat.le_trans (zl_of hdb) hd
  have hvl : (vl t.ps).length ≤ N := by rw [vl_len]; exact ht.1
  have k1 := aless_v t N ht (by omega)
  have k2 := adiv_v d t N hd ht hN2 (by omega)
  have k3 := rdiv6_v d t N hd ht hN2 (by omega)
  have k4 := anot_v d t N hd ht hN2 (by omega)
  have k5 := rnot6_v d t N hd ht hN2 (by omega)
  have k6 := anorm_v a N ha hN2 (by omega)
  have k7 := rnorm6_v a N ha hN2 (by omega)
  have k8 := avalid_v a N ha hN2 (by omega)
  have k9 := rvalid6_v a N ha hN2 (by omega)
  have k11 := rless_v t N hN2 (by omega) ht
  rw [valid_same] at k8
  have hLF := lessA_form (vl t.ps) t.k.v
  have hLs : (lessA (vl t.ps) t.k.v).sz (2 * N) := lessA_sz hN2 hvl (zl_vl htb.1 ht.2.1) (Nat.le_trans (zl_of htb.2) ht.2.2)
  have hF1 := partedR_form d.v (vl t.ps) t.k.v false
  have hF2 := partedR_form d.v (vl t.ps) t.k.v true
  have hs1 := partedR_sz (k := t.k.v) (not := false) hvl hdz
  have hs2 := partedR_sz (k := t.k.v) (not := true) hvl hdz
  have hF3 := normA_form a
  have hs3 := normA_sz hN2 ha b2 b3
  have k12 := avalid_v _ (2 * N) hLs (by omega) (by omega)
  rw [valid_form hLF] at k12
  have k13 := rsame6_v _ _ (2 * N) (by omega) hLs hLs
  have k14 := rsame6_v _ _ (2 * N) (by omega) hs1 hs1
  have k15 := rsame6_v _ _ (2 * N) (by omega) hs2 hs2
  have k16 := rsame6_v _ _ (2 * N) (by omega) hs3 hs3
  rw [same_form hLF] at k13
  rw [same_form hF1] at k14
  rw [same_form hF2] at k15
  rw [same_form hF3] at k16
  clear hLF hLs hF1 hF2 hs1 hs2 hF3 hs3
  generalize lessA (vl t.ps) t.k.v = L at *
  generalize partedR d.v (vl t.ps) t.k.v false = P1 at *
  generalize partedR d.v (vl t.ps) t.k.v true = P2 at *
  generalize (decide ((normA a).2 = 0) && sameA a (normA a).1) = V at *
  generalize normA a = M at *
  (repeat (first | (refine hk_use (by assumption) ?_) | (refine sw_seqk fun _ _ => ?_) | (refine sw_reg ?_) | (refine aops_k fun _ _ => ?_; simp [go_sem]; try go_ints) | (refine sw_block ?_) | (refine sw_ct rfl ?_) | (refine sw_cf rfl ?_) | (refine sw_skip ?_) | (refine sw_exit ?_) | (refine sw_ret ?_) | (refine And.intro (by first | omega | rfl) ?_) | (simp only [aops, thn, inB, ↓reduceIte, Nat.reduceEqDiff])))
  (refine ⟨.v _, awake6_v, ?_⟩; simp [go_sem]; (repeat (first | (refine hk_use (by assumption) ?_) | (refine sw_seqk fun _ _ => ?_) | (refine sw_reg ?_) | (refine aops_k fun _ _ => ?_; simp [go_sem]; try go_ints) | (refine sw_block ?_) | (refine sw_ct rfl ?_) | (refine sw_cf rfl ?_) | (refine sw_skip ?_) | (refine sw_exit ?_) | (refine sw_ret ?_) | (refine And.intro (by first | omega | rfl) ?_) | (simp only [aops, thn, inB, ↓reduceIte, Nat.reduceEqDiff]))))
  (refine ⟨.v _, k1, ?_⟩; simp [go_sem]; (repeat (first | (refine hk_use (by assumption) ?_) | (refine sw_seqk fun _ _ => ?_) | (refine sw_reg ?_) | (refine aops_k fun _ _ => ?_; simp [go_sem]; try go_ints) | (refine sw_block ?_) | (refine sw_ct rfl ?_) | (refine sw_cf rfl ?_) | (refine sw_skip ?_) | (refine sw_exit ?_) | (refine sw_ret ?_) | (refine And.intro (by first | omega | rfl) ?_) | (simp only [aops, thn, inB, ↓reduceIte, Nat.reduceEqDiff]))))
  (refine ⟨.v _, k2, ?_⟩; simp [go_sem]; (repeat (first | (refine hk_use (by assumption) ?_) | (refine sw_seqk fun _ _ => ?_) | (refine sw_reg ?_) | (refine aops_k fun _ _ => ?_; simp [go_sem]; try go_ints) | (refine sw_block ?_) | (refine sw_ct rfl ?_) | (refine sw_cf rfl ?_) | (refine sw_skip ?_) | (refine sw_exit ?_) | (refine sw_ret ?_) | (refine And.intro (by first | omega | rfl) ?_) | (simp only [aops, thn, inB, ↓reduceIte, Nat.reduceEqDiff]))))
  (refine ⟨.v _, k3, ?_⟩; simp [go_sem]; (repeat (first | (refine hk_use (by assumption) ?_) | (refine sw_seqk fun _ _ => ?_) | (refine sw_reg ?_) | (refine aops_k fun _ _ => ?_; simp [go_sem]; try go_ints) | (refine sw_block ?_) | (refine sw_ct rfl ?_) | (refine sw_cf rfl ?_) | (refine sw_skip ?_) | (refine sw_exit ?_) | (refine sw_ret ?_) | (refine And.intro (by first | omega | rfl) ?_) | (simp only [aops, thn, inB, ↓reduceIte, Nat.reduceEqDiff]))))
  (refine ⟨.v _, k4, ?_⟩; simp [go_sem]; (repeat (first | (refine hk_use (by assumption) ?_) | (refine sw_seqk fun _ _ => ?_) | (refine sw_reg ?_) | (refine aops_k fun _ _ => ?_; simp [go_sem]; try go_ints) | (refine sw_block ?_) | (refine sw_ct rfl ?_) | (refine sw_cf rfl ?_) | (refine sw_skip ?_) | (refine sw_exit ?_) | (refine sw_ret ?_) | (refine And.intro (by first | omega | rfl) ?_) | (simp only [aops, thn, inB, ↓reduceIte, Nat.reduceEqDiff]))))
  (refine ⟨.v _, k5, ?_⟩; simp [go_sem]; (repeat (first | (refine hk_use (by assumption) ?_) | (refine sw_seqk fun _ _ => ?_) | (refine sw_reg ?_) | (refine aops_k fun _ _ => ?_; simp [go_sem]; try go_ints) | (refine sw_block ?_) | (refine sw_ct rfl ?_) | (refine sw_cf rfl ?_) | (refine sw_skip ?_) | (refine sw_exit ?_) | (refine sw_ret ?_) | (refine And.intro (by first | omega | rfl) ?_) | (simp only [aops, thn, inB, ↓reduceIte, Nat.reduceEqDiff]))))
  (refine ⟨.v _, k6, ?_⟩; simp [go_sem]; (repeat (first | (refine hk_use (by assumption) ?_) | (refine sw_seqk fun _ _ => ?_) | (refine sw_reg ?_) | (refine aops_k fun _ _ => ?_; simp [go_sem]; try go_ints) | (refine sw_block ?_) | (refine sw_ct rfl ?_) | (refine sw_cf rfl ?_) | (refine sw_skip ?_) | (refine sw_exit ?_) | (refine sw_ret ?_) | (refine And.intro (by first | omega | rfl) ?_) | (simp only [aops, thn, inB, ↓reduceIte, Nat.reduceEqDiff]))))
  (refine ⟨.v _, k7, ?_⟩; simp [go_sem]; (repeat (first | (refine hk_use (by assumption) ?_) | (refine sw_seqk fun _ _ => ?_) | (refine sw_reg ?_) | (refine aops_k fun _ _ => ?_; simp [go_sem]; try go_ints) | (refine sw_block ?_) | (refine sw_ct rfl ?_) | (refine sw_cf rfl ?_) | (refine sw_skip ?_) | (refine sw_exit ?_) | (refine sw_ret ?_) | (refine And.intro (by first | omega | rfl) ?_) | (simp only [aops, thn, inB, ↓reduceIte, Nat.reduceEqDiff]))))
  (refine ⟨.v _, k8, ?_⟩; simp [go_sem]; (repeat (first | (refine hk_use (by assumption) ?_) | (refine sw_seqk fun _ _ => ?_) | (refine sw_reg ?_) | (refine aops_k fun _ _ => ?_; simp [go_sem]; try go_ints) | (refine sw_block ?_) | (refine sw_ct rfl ?_) | (refine sw_cf rfl ?_) | (refine sw_skip ?_) | (refine sw_exit ?_) | (refine sw_ret ?_) | (refine And.intro (by first | omega | rfl) ?_) | (simp only [aops, thn, inB, ↓reduceIte, Nat.reduceEqDiff]))))
  (refine ⟨.v _, k12, ?_⟩; simp [go_sem]; (repeat (first | (refine hk_use (by assumption) ?_) | (refine sw_seqk fun _ _ => ?_) | (refine sw_reg ?_) | (refine aops_k fun _ _ => ?_; simp [go_sem]; try go_ints) | (refine sw_block ?_) | (refine sw_ct rfl ?_) | (refine sw_cf rfl ?_) | (refine sw_skip ?_) | (refine sw_exit ?_) | (refine sw_ret ?_) | (refine And.intro (by first | omega | rfl) ?_) | (simp only [aops, thn, inB, ↓reduceIte, Nat.reduceEqDiff]))))
  (refine ⟨.v _, k11, ?_⟩; simp [go_sem]; (repeat (first | (refine hk_use (by assumption) ?_) | (refine sw_seqk fun _ _ => ?_) | (refine sw_reg ?_) | (refine aops_k fun _ _ => ?_; simp [go_sem]; try go_ints) | (refine sw_block ?_) | (refine sw_ct rfl ?_) | (refine sw_cf rfl ?_) | (refine sw_skip ?_) | (refine sw_exit ?_) | (refine sw_ret ?_) | (refine And.intro (by first | omega | rfl) ?_) | (simp only [aops, thn, inB, ↓reduceIte, Nat.reduceEqDiff]))))
  (refine ⟨.v _, k13, ?_⟩; simp [go_sem]; (repeat (first | (refine hk_use (by assumption) ?_) | (refine sw_seqk fun _ _ => ?_) | (refine sw_reg ?_) | (refine aops_k fun _ _ => ?_; simp [go_sem]; try go_ints) | (refine sw_block ?_) | (refine sw_ct rfl ?_) | (refine sw_cf rfl ?_) | (refine sw_skip ?_) | (refine sw_exit ?_) | (refine sw_ret ?_) | (refine And.intro (by first | omega | rfl) ?_) | (simp only [aops, thn, inB, ↓reduceIte, Nat.reduceEqDiff]))))
  (refine ⟨.v _, k14, ?_⟩; simp [go_sem]; (repeat (first | (refine hk_use (by assumption) ?_) | (refine sw_seqk fun _ _ => ?_) | (refine sw_reg ?_) | (refine aops_k fun _ _ => ?_; simp [go_sem]; try go_ints) | (refine sw_block ?_) | (refine sw_ct rfl ?_) | (refine sw_cf rfl ?_) | (refine sw_skip ?_) | (refine sw_exit ?_) | (refine sw_ret ?_) | (refine And.intro (by first | omega | rfl) ?_) | (simp only [aops, thn, inB, ↓reduceIte, Nat.reduceEqDiff]))))
  (refine ⟨.v _, k15, ?_⟩; simp [go_sem]; (repeat (first | (refine hk_use (by assumption) ?_) | (refine sw_seqk fun _ _ => ?_) | (refine sw_reg ?_) | (refine aops_k fun _ _ => ?_; simp [go_sem]; try go_ints) | (refine sw_block ?_) | (refine sw_ct rfl ?_) | (refine sw_cf rfl ?_) | (refine sw_skip ?_) | (refine sw_exit ?_) | (refine sw_ret ?_) | (refine And.intro (by first | omega | rfl) ?_) | (simp only [aops, thn, inB, ↓reduceIte, Nat.reduceEqDiff]))))
  (refine ⟨.v _, k16, ?_⟩; simp [go_sem]; (repeat (first | (refine hk_use (by assumption) ?_) | (refine sw_seqk fun _ _ => ?_) | (refine sw_reg ?_) | (refine aops_k fun _ _ => ?_; simp [go_sem]; try go_ints) | (refine sw_block ?_) | (refine sw_ct rfl ?_) | (refine sw_cf rfl ?_) | (refine sw_skip ?_) | (refine sw_exit ?_) | (refine sw_ret ?_) | (refine And.intro (by first | omega | rfl) ?_) | (simp only [aops, thn, inB, ↓reduceIte, Nat.reduceEqDiff]))))
  (refine ⟨.v _, k9, ?_⟩; simp [go_sem]; (repeat (first | (refine hk_use (by assumption) ?_) | (refine sw_seqk fun _ _ => ?_) | (refine sw_reg ?_) | (refine aops_k fun _ _ => ?_; simp [go_sem]; try go_ints) | (refine sw_block ?_) | (refine sw_ct rfl ?_) | (refine sw_cf rfl ?_) | (refine sw_skip ?_) | (refine sw_exit ?_) | (refine sw_ret ?_) | (refine And.intro (by first | omega | rfl) ?_) | (simp only [aops, thn, inB, ↓reduceIte, Nat.reduceEqDiff]))))
  simp [go_sem]

end Go.Proofs.YthmjgbkakjpfkaaGreatDoor
