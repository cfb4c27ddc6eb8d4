/- Terms compared, in plain words. No program here. -/
import Derived.Test.YtbblgjjomgipfaaOrder
namespace Go.Proofs.Ytbblgjjomgipfaa

/-- Two parts compared, by values. -/
def cmpQ (p q : Int × Int) : Int := if p.1 < q.1 then -1 else if q.1 < p.1 then 1 else cmpI p.2 q.2
def cmpV : List (Int × Int) → List (Int × Int) → Int
  | [], [] => 0
  | [], _ :: _ => -1
  | _ :: _, [] => 1
  | p :: l, q :: m => if cmpQ p q = 0 then cmpV l m else cmpQ p q
theorem cmpL_cl : ∀ (l m : List (Int × Int)), cmpL (cl l) (cl m) = cmpV l m
  | [], [] => rfl
  | [], _ :: _ => rfl
  | _ :: _, [] => rfl
  | p :: l, q :: m => by
    have e : cmpP (p.1, cz p.2) (q.1, cz q.2) = cmpQ p q := by unfold cmpP cmpQ; rw [cz_v, cz_v]
    have ih := cmpL_cl l m
    show (if cmpP (p.1, cz p.2) (q.1, cz q.2) = 0 then cmpL (cl l) (cl m) else cmpP (p.1, cz p.2) (q.1, cz q.2)) = _
    rw [e, ih]; rfl
theorem cmpQ_swap (p q : Int × Int) : cmpQ q p = -cmpQ p q := by
  unfold cmpQ
  rw [cmpI_swap]
  split <;> (try split) <;> (try split) <;> omega
theorem cmpQ_zero {p q : Int × Int} : cmpQ p q = 0 ↔ p = q := by
  obtain ⟨a, b⟩ := p
  obtain ⟨c, d⟩ := q
  unfold cmpQ
  simp only [Prod.mk.injEq]
  have := cmpI_zero (a := b) (b := d)
  split
  · constructor
    · intro h; omega
    · intro h; omega
  · split
    · constructor
      · intro h; omega
      · intro h; omega
    · rw [this]
      constructor
      · intro h; exact ⟨by omega, h⟩
      · intro h; exact h.2
theorem cmpI_le {a b : Int} : cmpI a b ≤ 0 ↔ a ≤ b := by unfold cmpI; split <;> (try split) <;> omega
theorem cmpQ_le {p q : Int × Int} : cmpQ p q ≤ 0 ↔ p.1 < q.1 ∨ p.1 = q.1 ∧ p.2 ≤ q.2 := by
  unfold cmpQ
  have := cmpI_le (a := p.2) (b := q.2)
  split
  · constructor <;> intro h <;> omega
  · split
    · constructor <;> intro h <;> omega
    · rw [this]
      constructor <;> intro h <;> omega
theorem cmpV_swap : ∀ (l m : List (Int × Int)), cmpV m l = -cmpV l m
  | [], [] => rfl
  | [], _ :: _ => rfl
  | _ :: _, [] => rfl
  | p :: l, q :: m => by
    have h := cmpQ_swap p q
    have ih := cmpV_swap l m
    unfold cmpV
    by_cases e : cmpQ p q = 0
    · rw [if_pos e, if_pos (by omega), ih]
    · rw [if_neg e, if_neg (by omega), h]
theorem cmpV_zero : ∀ {l m : List (Int × Int)}, cmpV l m = 0 ↔ l = m
  | [], [] => by simp [cmpV]
  | [], _ :: _ => by simp [cmpV]
  | _ :: _, [] => by simp [cmpV]
  | p :: l, q :: m => by
    have h := cmpQ_zero (p := p) (q := q)
    have ih := cmpV_zero (l := l) (m := m)
    unfold cmpV
    rw [List.cons.injEq]
    by_cases e : cmpQ p q = 0
    · rw [if_pos e, ih]
      exact ⟨fun h1 => ⟨h.1 e, h1⟩, fun h1 => h1.2⟩
    · rw [if_neg e]
      exact ⟨fun h1 => absurd h1 e, fun h1 => absurd (h.2 h1.1) e⟩
theorem cmpV_trans : ∀ {l m n : List (Int × Int)}, cmpV l m ≤ 0 → cmpV m n ≤ 0 → cmpV l n ≤ 0
  | [], _, [], _, _ => by simp [cmpV]
  | [], _, _ :: _, _, _ => by simp [cmpV]
  | _ :: _, [], _, h, _ => by simp [cmpV] at h
  | _ :: _, _ :: _, [], _, h => by simp [cmpV] at h
  | p :: l, q :: m, r :: n, h1, h2 => by
    unfold cmpV at *
    by_cases e1 : cmpQ p q = 0
    · have e := cmpQ_zero.1 e1
      subst e
      rw [if_pos e1] at h1
      by_cases e2 : cmpQ p r = 0
      · rw [if_pos e2] at h2 ⊢
        exact cmpV_trans h1 h2
      · rw [if_neg e2] at h2 ⊢
        exact h2
    · rw [if_neg e1] at h1
      by_cases e2 : cmpQ q r = 0
      · have e := cmpQ_zero.1 e2
        subst e
        rw [if_neg e1]
        exact h1
      · rw [if_neg e2] at h2
        have h3 := cmpQ_le.1 h1
        have h4 := cmpQ_le.1 h2
        have h5 : cmpQ p r ≤ 0 := cmpQ_le.2 (by omega)
        have h6 : cmpQ p r ≠ 0 := fun h => by
          have e := cmpQ_zero.1 h
          subst e
          have := cmpQ_swap p q
          omega
        rw [if_neg h6]
        exact h5

/-- Terms compared, by values. -/
theorem ordT_eq (a b : T) : ordT a b = if cmpV (cn (vl a.ps)) (cn (vl b.ps)) = 0 then cmpI a.k.v b.k.v else cmpV (cn (vl a.ps)) (cn (vl b.ps)) := by
  unfold ordT
  have e : ∀ t : T, t.nf.ps = cl (cn (vl t.ps)) := fun _ => rfl
  rw [e, e, cmpL_cl]
theorem ordT_swap (a b : T) : ordT b a = -ordT a b := by
  rw [ordT_eq, ordT_eq, cmpV_swap (cn (vl a.ps)), cmpI_swap a.k.v]
  by_cases e : cmpV (cn (vl a.ps)) (cn (vl b.ps)) = 0
  · rw [if_pos e, if_pos (by omega)]
  · rw [if_neg e, if_neg (by omega)]
theorem ordT_zero {a b : T} : ordT a b = 0 ↔ cn (vl a.ps) = cn (vl b.ps) ∧ a.k.v = b.k.v := by
  rw [ordT_eq]
  by_cases e : cmpV (cn (vl a.ps)) (cn (vl b.ps)) = 0
  · rw [if_pos e, cmpI_zero]
    exact ⟨fun h => ⟨cmpV_zero.1 e, h⟩, fun h => h.2⟩
  · rw [if_neg e]
    exact ⟨fun h => absurd h e, fun h => absurd (cmpV_zero.2 h.1) e⟩
theorem ordT_trans {a b c : T} (h1 : ordT a b ≤ 0) (h2 : ordT b c ≤ 0) : ordT a c ≤ 0 := by
  rw [ordT_eq] at *
  by_cases e1 : cmpV (cn (vl a.ps)) (cn (vl b.ps)) = 0
  · have e := cmpV_zero.1 e1
    rw [if_pos e1, cmpI_le] at h1
    rw [e]
    by_cases e2 : cmpV (cn (vl b.ps)) (cn (vl c.ps)) = 0
    · rw [if_pos e2, cmpI_le] at h2 ⊢
      omega
    · rw [if_neg e2] at h2 ⊢
      exact h2
  · rw [if_neg e1] at h1
    by_cases e2 : cmpV (cn (vl b.ps)) (cn (vl c.ps)) = 0
    · have e := cmpV_zero.1 e2
      rw [← e, if_neg e1]
      exact h1
    · rw [if_neg e2] at h2
      have h3 := cmpV_trans h1 h2
      have h4 : cmpV (cn (vl a.ps)) (cn (vl c.ps)) ≠ 0 := fun h => by
        have e := cmpV_zero.1 h
        rw [← e, cmpV_swap] at h2
        omega
      rw [if_neg h4]
      exact h3
theorem ordT_both {a b c : T} (h1 : ordT a b ≤ 0) (h2 : ordT b c ≤ 0) (h3 : ordT a c = 0) : ordT a b = 0 ∧ ordT b c = 0 := by
  have h4 : ordT c b ≤ 0 := by
    have h5 : ordT c a ≤ 0 := by rw [ordT_swap a c, h3]; omega
    exact ordT_trans h5 h1
  rw [ordT_swap b c] at h4
  have h6 : ordT b c = 0 := by omega
  refine ⟨?_, h6⟩
  have h7 : ordT b a ≤ 0 := ordT_trans h2 (by rw [ordT_swap a c, h3]; omega)
  rw [ordT_swap a b] at h7
  omega
theorem ordT_bd (a b : T) : -1 ≤ ordT a b ∧ ordT a b ≤ 1 := by
  have key : ∀ l m, -1 ≤ cmpV l m ∧ cmpV l m ≤ 1 := by
    intro l
    induction l with
    | nil => intro m; cases m <;> simp [cmpV]
    | cons p l ih =>
      intro m
      cases m with
      | nil => simp [cmpV]
      | cons q m =>
        unfold cmpV
        split
        · exact ih m
        · unfold cmpQ
          have := cmpI_bd p.2 q.2
          split <;> (try split) <;> omega
  rw [ordT_eq]
  have h1 := key (cn (vl a.ps)) (cn (vl b.ps))
  have h2 := cmpI_bd a.k.v b.k.v
  split <;> omega
/-- Nothing is left of the difference just where they are the same. -/
theorem sub_none (a b : T) : ((ct (vl a.ps ++ sc (-1) (vl b.ps)) (a.k.v - b.k.v)).ps.length = 0 ∧ (ct (vl a.ps ++ sc (-1) (vl b.ps)) (a.k.v - b.k.v)).k.mag.length = 0) ↔ ordT a b = 0 := by
  rw [ordT_zero]
  have h1 : (ct (vl a.ps ++ sc (-1) (vl b.ps)) (a.k.v - b.k.v)).ps.length = 0 ↔ cn (vl a.ps) = cn (vl b.ps) := by
    have e : (ct (vl a.ps ++ sc (-1) (vl b.ps)) (a.k.v - b.k.v)).ps.length = (cn (vl a.ps ++ sc (-1) (vl b.ps))).length := cl_len _
    rw [e, List.length_eq_zero_iff, cn_eq_iff]
    constructor
    · intro h x
      have h2 := cf_cn (vl a.ps ++ sc (-1) (vl b.ps)) x
      rw [h, cf_append, cf_sc] at h2
      simp only [cf] at h2
      omega
    · intro h
      have h2 : cn (vl a.ps ++ sc (-1) (vl b.ps)) = cn [] := cn_congr fun x => by
        rw [cf_append, cf_sc, h x]
        simp only [cf]
        omega
      rw [h2]
      rfl
  have h2 : (ct (vl a.ps ++ sc (-1) (vl b.ps)) (a.k.v - b.k.v)).k.mag.length = 0 ↔ a.k.v = b.k.v := by
    have e : (ct (vl a.ps ++ sc (-1) (vl b.ps)) (a.k.v - b.k.v)).k.mag.length = zl (a.k.v - b.k.v) := cz_len _
    rw [e]
    constructor
    · intro h
      have h3 := lt_pw_zl (a.k.v - b.k.v)
      rw [h, pw_zero] at h3
      omega
    · intro h
      rw [show a.k.v - b.k.v = 0 from by omega, zl_zero]
  rw [h1, h2]

end Go.Proofs.Ytbblgjjomgipfaa
