/- Values of terms, in plain words. No program here. -/
import Derived.Test.YthmjgbkakjpfkaaGreatDoorGShortAa
namespace Go.Proofs.YthmjgbkakjpfkaaGreatDoor

/-- The value of x, first found. -/
def lk : List (Int × Z) → Int → Option Int
  | [], _ => none
  | p :: l, x => if p.1 = x then some p.2.v else lk l x
/-- Its place, or none. -/
def ix : List (Int × Z) → Int → Option Nat
  | [], _ => none
  | p :: l, x => if p.1 = x then some 0 else (ix l x).map (· + 1)
theorem ix_some : ∀ {l : List (Int × Z)} {x : Int} {i : Nat}, ix l x = some i → i < l.length ∧ ∀ h : i < l.length, l[i].1 = x ∧ lk l x = some l[i].2.v
  | [], _, _, h => by simp [ix] at h
  | p :: l, x, i, h => by
    unfold ix at h
    unfold lk
    by_cases e : p.1 = x
    · rw [if_pos e] at h
      injection h with h
      subst h
      exact ⟨by simp, fun _ => ⟨e, by rw [if_pos e]; rfl⟩⟩
    · rw [if_neg e] at h
      rw [if_neg e]
      rcases h2 : ix l x with _ | j
      · rw [h2] at h; simp at h
      · rw [h2] at h
        simp only [Option.map_some, Option.some.injEq] at h
        subst h
        obtain ⟨h3, h4⟩ := ix_some h2
        exact ⟨by simp; omega, fun _ => h4 h3⟩
theorem ix_none : ∀ {l : List (Int × Z)} {x : Int}, ix l x = none → lk l x = none
  | [], _, _ => rfl
  | p :: l, x, h => by
    unfold ix at h
    unfold lk
    by_cases e : p.1 = x
    · rw [if_pos e] at h; cases h
    · rw [if_neg e] at h
      rw [if_neg e]
      exact ix_none (by simpa using h)
/-- What a search from the front has seen. -/
theorem ix_step : ∀ (l : List (Int × Z)) (x : Int) (k : Nat), (∀ i (h : i < l.length), i < k → l[i].1 ≠ x) → ix l x = (ix (l.drop k) x).map (· + k)
  | l, x, 0, _ => by simp
  | [], x, k + 1, _ => by simp [ix]
  | p :: l, x, k + 1, h => by
    have h0 := h 0 (by simp) (by omega)
    have ih := ix_step l x k fun i hi hk => by
      have := h (i + 1) (by simpa using hi) (by omega)
      rwa [List.getElem_cons_succ] at this
    simp only [List.getElem_cons_zero] at h0
    conv => lhs; unfold ix
    rw [if_neg h0, ih, List.drop_succ_cons, Option.map_map]
    congr 1

/-- The value of parts. -/
def ev (f : Int → Int) : List (Int × Int) → Int
  | [] => 0
  | p :: l => p.2 * f p.1 + ev f l
theorem ev_append (f : Int → Int) (l m : List (Int × Int)) : ev f (l ++ m) = ev f l + ev f m := by
  induction l with
  | nil => simp [ev]
  | cons p l ih => simp only [List.cons_append, ev, ih]; omega
theorem ev_sc (f : Int → Int) (k : Int) (l : List (Int × Int)) : ev f (sc k l) = k * ev f l := by
  induction l with
  | nil => simp [ev, sc]
  | cons p l ih =>
    have e : sc k (p :: l) = (p.1, k * p.2) :: sc k l := rfl
    rw [e]
    simp only [ev, ih, Int.mul_add, Int.mul_assoc]
theorem ev_lay (f : Int → Int) (l : List (Int × Int)) (p : Int × Int) : ev f (lay l p) = ev f l + p.2 * f p.1 := by
  induction l with
  | nil => simp [lay, ev]
  | cons q l ih =>
    unfold lay
    split
    · simp only [ev, ih]; omega
    · split
      · rename_i _ e
        simp only [ev, e, Int.add_mul]
        omega
      · simp only [ev]; omega
theorem ev_foldl (f : Int → Int) : ∀ (l m : List (Int × Int)), ev f (l.foldl lay m) = ev f m + ev f l
  | [], m => by simp [ev]
  | p :: l, m => by rw [List.foldl_cons, ev_foldl f l, ev_lay]; simp only [ev]; omega
theorem ev_filter (f : Int → Int) (l : List (Int × Int)) : ev f (l.filter fun p => p.2 != 0) = ev f l := by
  induction l with
  | nil => rfl
  | cons p l ih =>
    rw [List.filter_cons]
    split
    · simp only [ev, ih]
    · rename_i e
      have : p.2 = 0 := by simpa using e
      simp only [ev, ih, this, Int.zero_mul, Int.zero_add]
theorem ev_cn (f : Int → Int) (l : List (Int × Int)) : ev f (cn l) = ev f l := by
  rw [cn, ev_filter, laidL, ev_foldl]
  simp [ev]
theorem ev_congr {f g : Int → Int} : ∀ {l : List (Int × Int)}, (∀ p ∈ l, f p.1 = g p.1) → ev f l = ev g l
  | [], _ => rfl
  | p :: l, h => by simp only [ev, h p (by simp), ev_congr (l := l) fun q hq => h q (by simp [hq])]
theorem ev_cf {f : Int → Int} {l m : List (Int × Int)} (h : ∀ x, cf l x = cf m x) : ev f l = ev f m := by
  rw [← ev_cn f l, ← ev_cn f m, cn_congr h]

/-- Has each variable a value? -/
def cov (vals : List (Int × Z)) (l : List (Int × Int)) : Bool := l.all fun p => (lk vals p.1).isSome
/-- The variables' values. -/
def fv (vals : List (Int × Z)) (x : Int) : Int := (lk vals x).getD 0
theorem cov_drop {vals : List (Int × Z)} {l : List (Int × Int)} {k : Nat} {p : Int × Int} {r : List (Int × Int)} (h : l.drop k = p :: r) : cov vals (l.drop k) = ((lk vals p.1).isSome && cov vals r) := by
  rw [h]; rfl
theorem cov_iff {vals : List (Int × Z)} {l : List (Int × Int)} : cov vals (cn l) = true ↔ ∀ x, cf l x ≠ 0 → (lk vals x).isSome = true := by
  unfold cov
  rw [List.all_eq_true]
  constructor
  · intro h x hx
    exact h (x, cf l x) ((canon_cn l).mem.2 ⟨cf_cn l x, hx⟩)
  · intro h p hp
    obtain ⟨h1, h2⟩ := cn_mem hp
    exact h p.1 (by rw [h1]; exact h2)
/-- Covered sums. -/
theorem cov_sum {vals : List (Int × Z)} {l m : List (Int × Int)} {k j : Int} (hl : cov vals (cn l) = true) (hm : cov vals (cn m) = true) : cov vals (cn (sc k l ++ sc j m)) = true := by
  rw [cov_iff] at *
  intro x hx
  rw [cf_append, cf_sc, cf_sc] at hx
  by_cases h1 : cf l x = 0
  · refine hm x fun h2 => hx ?_
    rw [h1, h2]; simp
  · exact hl x h1
theorem zl_ev {f : Int → Int} {N M : Nat} : ∀ {l : List (Int × Int)}, (∀ p ∈ l, zl p.2 ≤ N ∧ zl (f p.1) ≤ M) → zl (ev f l) ≤ N + M + l.length
  | [], _ => by simp [ev, zl_zero]
  | p :: l, h => by
    have h1 := zl_ev (l := l) fun q hq => h q (by simp [hq])
    obtain ⟨h2, h3⟩ := h p (by simp)
    have h4 := zl_mul p.2 (f p.1)
    have := zl_add (x := p.2 * f p.1) (y := ev f l) (k := N + M + l.length) (by omega) h1
    simp only [ev, List.length_cons]
    omega
theorem lk_zl {vals : List (Int × Z)} {N : Nat} (hb : ∀ p ∈ vals, Lb p.2.mag) (h : ∀ p ∈ vals, p.2.mag.length ≤ N) (x : Int) : zl (fv vals x) ≤ N := by
  unfold fv
  induction vals with
  | nil => simp [lk, zl_zero]
  | cons p l ih =>
    unfold lk
    split
    · exact Nat.le_trans (zl_of (hb p (by simp))) (h p (by simp))
    · exact ih (fun q hq => hb q (by simp [hq])) fun q hq => h q (by simp [hq])

end Go.Proofs.YthmjgbkakjpfkaaGreatDoor
