/- Linear terms, in plain words: lists of (variable, coefficient), their canonical form, values, order. No program here. -/
import Derived.Test.YtbblgjjomgipfaaGreatPlain
namespace Go.Proofs.YtbblgjjomgipfaaGreat

/-- A term: parts and a constant. -/
structure T where
  ps : List (Int × Z)
  k : Z

/-- The values of parts. -/
def vl (ps : List (Int × Z)) : List (Int × Int) := ps.map fun p => (p.1, p.2.v)
/-- The canonical numbers of values. -/
def cl (l : List (Int × Int)) : List (Int × Z) := l.map fun p => (p.1, cz p.2)
theorem vl_cl (l : List (Int × Int)) : vl (cl l) = l := by
  unfold vl cl
  rw [List.map_map]
  conv => rhs; rw [← List.map_id l]
  apply List.map_congr_left
  intro p _
  simp [Function.comp, cz_v]
theorem cl_len (l : List (Int × Int)) : (cl l).length = l.length := by simp [cl]
theorem vl_len (l : List (Int × Z)) : (vl l).length = l.length := by simp [vl]
theorem cl_append (l m : List (Int × Int)) : cl (l ++ m) = cl l ++ cl m := by simp [cl]
theorem vl_append (l m : List (Int × Z)) : vl (l ++ m) = vl l ++ vl m := by simp [vl]
theorem cl_inj {l m : List (Int × Int)} (h : cl l = cl m) : l = m := by rw [← vl_cl l, h, vl_cl]

/-- The coefficient of x. -/
def cf : List (Int × Int) → Int → Int
  | [], _ => 0
  | p :: l, x => (if p.1 = x then p.2 else 0) + cf l x
theorem cf_append (l m : List (Int × Int)) (x : Int) : cf (l ++ m) x = cf l x + cf m x := by
  induction l with
  | nil => simp [cf]
  | cons p l ih => simp only [List.cons_append, cf, ih]; omega
/-- So many times. -/
def sc (k : Int) (l : List (Int × Int)) : List (Int × Int) := l.map fun p => (p.1, k * p.2)
theorem cf_sc (k : Int) (l : List (Int × Int)) (x : Int) : cf (sc k l) x = k * cf l x := by
  induction l with
  | nil => simp [cf, sc]
  | cons p l ih =>
    have e : sc k (p :: l) = (p.1, k * p.2) :: sc k l := rfl
    rw [e]
    simp only [cf, ih, Int.mul_add]
    split <;> simp
theorem sc_len (k : Int) (l : List (Int × Int)) : (sc k l).length = l.length := by simp [sc]
theorem sc_one (l : List (Int × Int)) : sc 1 l = l := by
  unfold sc
  conv => rhs; rw [← List.map_id l]
  apply List.map_congr_left
  intro p _
  simp

/-- It stands as it should. -/
def Canon (l : List (Int × Int)) : Prop := l.Pairwise (fun p q => p.1 < q.1) ∧ ∀ p ∈ l, p.2 ≠ 0
abbrev Rise (l : List (Int × Int)) : Prop := l.Pairwise fun p q => p.1 < q.1
theorem cf_none {l : List (Int × Int)} {x : Int} (h : ∀ p ∈ l, p.1 ≠ x) : cf l x = 0 := by
  induction l with
  | nil => rfl
  | cons p l ih =>
    have h1 := h p (by simp)
    simp only [cf, if_neg h1, Int.zero_add]
    exact ih fun q hq => h q (by simp [hq])
theorem cf_mem {l : List (Int × Int)} (h : Rise l) {p : Int × Int} (hp : p ∈ l) : cf l p.1 = p.2 := by
  induction l with
  | nil => cases hp
  | cons q l ih =>
    obtain ⟨h1, h2⟩ := List.pairwise_cons.1 h
    rcases List.mem_cons.1 hp with rfl | hp
    · simp only [cf, if_pos]
      rw [cf_none fun r hr => by have := h1 r hr; omega]
      omega
    · have := h1 p hp
      simp only [cf]
      rw [if_neg (by omega), Int.zero_add, ih h2 hp]
theorem mem_of_cf {l : List (Int × Int)} {x : Int} (h : cf l x ≠ 0) : ∃ p ∈ l, p.1 = x := by
  apply Classical.byContradiction
  intro hc
  exact h (cf_none fun p hp e => hc ⟨p, hp, e⟩)
theorem Canon.mem {l : List (Int × Int)} (h : Canon l) {x y : Int} : (x, y) ∈ l ↔ cf l x = y ∧ y ≠ 0 := by
  constructor
  · intro hp
    exact ⟨cf_mem h.1 hp, h.2 _ hp⟩
  · rintro ⟨rfl, hy⟩
    obtain ⟨p, hp, rfl⟩ := mem_of_cf hy
    rw [cf_mem h.1 hp]
    exact hp
/-- Two rising lists with the same members are one. -/
theorem rise_ext : ∀ {l m : List (Int × Int)}, Rise l → Rise m → (∀ p, p ∈ l ↔ p ∈ m) → l = m
  | [], [], _, _, _ => rfl
  | [], q :: m, _, _, h => absurd ((h q).2 (by simp)) (by simp)
  | p :: l, [], _, _, h => absurd ((h p).1 (by simp)) (by simp)
  | p :: l, q :: m, hl, hm, h => by
    obtain ⟨h1, h2⟩ := List.pairwise_cons.1 hl
    obtain ⟨h3, h4⟩ := List.pairwise_cons.1 hm
    have e : p = q := by
      rcases List.mem_cons.1 ((h p).1 (by simp)) with e | hp
      · exact e
      · rcases List.mem_cons.1 ((h q).2 (by simp)) with e | hq
        · exact e.symm
        · have a := h3 p hp
          have b := h1 q hq
          omega
    subst e
    congr 1
    refine rise_ext h2 h4 fun r => ⟨fun hr => ?_, fun hr => ?_⟩
    · rcases List.mem_cons.1 ((h r).1 (by simp [hr])) with rfl | hr'
      · have := h1 r hr; omega
      · exact hr'
    · rcases List.mem_cons.1 ((h r).2 (by simp [hr])) with rfl | hr'
      · have := h3 r hr; omega
      · exact hr'
theorem canon_ext {l m : List (Int × Int)} (hl : Canon l) (hm : Canon m) (h : ∀ x, cf l x = cf m x) : l = m :=
  rise_ext hl.1 hm.1 fun p => by
    obtain ⟨x, y⟩ := p
    rw [hl.mem, hm.mem, h]

/-- One more laid in. -/
def lay : List (Int × Int) → Int × Int → List (Int × Int)
  | [], p => [p]
  | q :: l, p => if q.1 < p.1 then q :: lay l p else if q.1 = p.1 then (q.1, q.2 + p.2) :: l else p :: q :: l
theorem cf_lay (l : List (Int × Int)) (p : Int × Int) (x : Int) : cf (lay l p) x = cf l x + (if p.1 = x then p.2 else 0) := by
  induction l with
  | nil => simp [lay, cf]
  | cons q l ih =>
    unfold lay
    split
    · simp only [cf, ih]; omega
    · split
      · rename_i _ e
        simp only [cf, e]
        split <;> omega
      · simp only [cf]; omega
theorem lay_mem {l : List (Int × Int)} {p r : Int × Int} (h : r ∈ lay l p) : r.1 = p.1 ∨ r ∈ l := by
  induction l with
  | nil => simp [lay] at h; exact .inl (by rw [h])
  | cons q l ih =>
    unfold lay at h
    split at h
    · rcases List.mem_cons.1 h with rfl | h
      · exact .inr (by simp)
      · rcases ih h with h | h
        · exact .inl h
        · exact .inr (by simp [h])
    · split at h
      · rename_i _ e
        rcases List.mem_cons.1 h with rfl | h
        · exact .inl e
        · exact .inr (by simp [h])
      · rcases List.mem_cons.1 h with rfl | h
        · exact .inl rfl
        · exact .inr h
theorem rise_lay {l : List (Int × Int)} (h : Rise l) (p : Int × Int) : Rise (lay l p) := by
  induction l with
  | nil => simp [lay]
  | cons q l ih =>
    obtain ⟨h1, h2⟩ := List.pairwise_cons.1 h
    unfold lay
    split
    · rename_i hq
      refine List.pairwise_cons.2 ⟨fun r hr => ?_, ih h2⟩
      rcases lay_mem hr with e | hr
      · omega
      · exact h1 r hr
    · split
      · rename_i _ e
        exact List.pairwise_cons.2 ⟨h1, h2⟩
      · rename_i e1 e2
        refine List.pairwise_cons.2 ⟨fun r hr => ?_, h⟩
        rcases List.mem_cons.1 hr with rfl | hr
        · omega
        · have := h1 r hr; omega
theorem lay_len (l : List (Int × Int)) (p : Int × Int) : (lay l p).length ≤ l.length + 1 := by
  induction l with
  | nil => simp [lay]
  | cons q l ih => unfold lay; split <;> (try split) <;> simp <;> omega

/-- Laid out by rising variables. -/
def laidL (l : List (Int × Int)) : List (Int × Int) := l.foldl lay []
theorem laid_snoc (l : List (Int × Int)) (p : Int × Int) : laidL (l ++ [p]) = lay (laidL l) p := by simp [laidL]
theorem laid_aux : ∀ (l m : List (Int × Int)), Rise m → Rise (l.foldl lay m) ∧ (∀ x, cf (l.foldl lay m) x = cf m x + cf l x) ∧ (l.foldl lay m).length ≤ m.length + l.length
  | [], m, h => ⟨h, by simp [cf], by simp⟩
  | p :: l, m, h => by
    obtain ⟨h1, h2, h3⟩ := laid_aux l (lay m p) (rise_lay h p)
    refine ⟨h1, fun x => ?_, ?_⟩
    · rw [List.foldl_cons, h2, cf_lay]; simp only [cf]; omega
    · have := lay_len m p
      simp only [List.foldl_cons, List.length_cons]
      omega
theorem rise_laid (l : List (Int × Int)) : Rise (laidL l) := (laid_aux l [] List.Pairwise.nil).1
theorem cf_laid (l : List (Int × Int)) (x : Int) : cf (laidL l) x = cf l x := by rw [laidL, (laid_aux l [] List.Pairwise.nil).2.1]; simp [cf]
theorem laid_len (l : List (Int × Int)) : (laidL l).length ≤ l.length := by have := (laid_aux l [] List.Pairwise.nil).2.2; simpa [laidL] using this

/-- The canonical form. -/
def cn (l : List (Int × Int)) : List (Int × Int) := (laidL l).filter fun p => p.2 != 0
theorem cf_filter {l : List (Int × Int)} (h : Rise l) (x : Int) : cf (l.filter fun p => p.2 != 0) x = cf l x := by
  induction l with
  | nil => rfl
  | cons q l ih =>
    obtain ⟨h1, h2⟩ := List.pairwise_cons.1 h
    rw [List.filter_cons]
    split
    · simp only [cf, ih h2]
    · rename_i e
      have : q.2 = 0 := by simpa using e
      simp only [cf, ih h2, this]
      split <;> omega
theorem cf_cn (l : List (Int × Int)) (x : Int) : cf (cn l) x = cf l x := by rw [cn, cf_filter (rise_laid l), cf_laid]
theorem canon_cn (l : List (Int × Int)) : Canon (cn l) :=
  ⟨List.Pairwise.filter _ (rise_laid l), fun p hp => by have := (List.mem_filter.1 hp).2; simpa using this⟩
theorem cn_len (l : List (Int × Int)) : (cn l).length ≤ l.length := Nat.le_trans (List.length_filter_le _ _) (laid_len l)
theorem cn_canon {l : List (Int × Int)} (h : Canon l) : cn l = l := canon_ext (canon_cn l) h (cf_cn l)
theorem cn_cn (l : List (Int × Int)) : cn (cn l) = cn l := cn_canon (canon_cn l)
theorem cn_congr {l m : List (Int × Int)} (h : ∀ x, cf l x = cf m x) : cn l = cn m := canon_ext (canon_cn l) (canon_cn m) fun x => by rw [cf_cn, cf_cn, h]
theorem cn_eq_iff {l m : List (Int × Int)} : cn l = cn m ↔ ∀ x, cf l x = cf m x := ⟨fun h x => by rw [← cf_cn l, h, cf_cn], cn_congr⟩
theorem cn_mem {l : List (Int × Int)} {p : Int × Int} (h : p ∈ cn l) : cf l p.1 = p.2 ∧ p.2 ≠ 0 := by
  have := (canon_cn l).mem.1 (show (p.1, p.2) ∈ cn l from h)
  rw [cf_cn] at this
  exact this
/-- Its variables are variables of the list. -/
theorem cn_var {l : List (Int × Int)} {p : Int × Int} (h : p ∈ cn l) : ∃ q ∈ l, q.1 = p.1 := by
  obtain ⟨h1, h2⟩ := cn_mem h
  exact mem_of_cf (by rw [h1]; exact h2)

/-! ### Sizes -/
theorem zl_mono_add {x y : Int} {k j : Nat} (hx : zl x ≤ k) (hy : zl y ≤ j) : zl (x + y) ≤ Nat.max k j + 1 := zl_add (Nat.le_trans hx (Nat.le_max_left _ _)) (Nat.le_trans hy (Nat.le_max_right _ _))
theorem zl_cf {l : List (Int × Int)} {N : Nat} (h : ∀ p ∈ l, zl p.2 ≤ N) (x : Int) : zl (cf l x) ≤ N + l.length := by
  induction l with
  | nil => simp [cf, zl_zero]
  | cons p l ih =>
    have h1 := ih fun q hq => h q (by simp [hq])
    have h2 := h p (by simp)
    simp only [cf, List.length_cons]
    split
    · have := zl_add (x := p.2) (y := cf l x) (k := N + l.length) (by omega) h1
      omega
    · rw [Int.zero_add]; omega
theorem zl_cn {l : List (Int × Int)} {N : Nat} (h : ∀ p ∈ l, zl p.2 ≤ N) : ∀ p ∈ cn l, zl p.2 ≤ N + l.length := fun p hp => by
  rw [← (cn_mem hp).1]
  exact zl_cf h _

/-- The canonical term of values. -/
def ct (l : List (Int × Int)) (k : Int) : T := ⟨cl (cn l), cz k⟩
theorem ct_congr {l m : List (Int × Int)} {k j : Int} (h : ∀ x, cf l x = cf m x) (hk : k = j) : ct l k = ct m j := by unfold ct; rw [cn_congr h, hk]
theorem ct_inj {l m : List (Int × Int)} {k j : Int} (h : ct l k = ct m j) : cn l = cn m ∧ k = j := by
  injection h with h1 h2
  exact ⟨cl_inj h1, cz_inj h2⟩
/-- The term as it should stand. -/
def T.nf (t : T) : T := ct (vl t.ps) t.k.v
theorem nf_ct (l : List (Int × Int)) (k : Int) : (ct l k).nf = ct l k := by
  unfold T.nf ct
  rw [vl_cl, cz_v, cn_cn]
/-- Sizes. -/
def T.sz (t : T) (N : Nat) : Prop := t.ps.length ≤ N ∧ (∀ p ∈ t.ps, p.2.mag.length ≤ N) ∧ t.k.mag.length ≤ N
def T.lb (t : T) : Prop := (∀ p ∈ t.ps, Lb p.2.mag) ∧ Lb t.k.mag
theorem T.sz.mono {t : T} {N M : Nat} (h : t.sz N) (hm : N ≤ M) : t.sz M := ⟨Nat.le_trans h.1 hm, fun p hp => Nat.le_trans (h.2.1 p hp) hm, Nat.le_trans h.2.2 hm⟩
theorem zl_vl {ps : List (Int × Z)} {N : Nat} (hb : ∀ p ∈ ps, Lb p.2.mag) (h : ∀ p ∈ ps, p.2.mag.length ≤ N) : ∀ p ∈ vl ps, zl p.2 ≤ N := by
  intro p hp
  obtain ⟨q, hq, rfl⟩ := List.mem_map.1 hp
  exact Nat.le_trans (zl_of (hb q hq)) (h q hq)
theorem ct_lb (l : List (Int × Int)) (k : Int) : (ct l k).lb := ⟨fun p hp => by
  obtain ⟨q, _, rfl⟩ := List.mem_map.1 hp
  exact lb_lim _, lb_lim _⟩
theorem ct_sz {l : List (Int × Int)} {k : Int} {N M : Nat} (hl : l.length ≤ N) (h : ∀ p ∈ l, zl p.2 ≤ M) (hk : zl k ≤ N + M) : (ct l k).sz (N + M) := by
  refine ⟨by rw [ct, cl_len]; have := cn_len l; omega, fun p hp => ?_, hk⟩
  obtain ⟨q, hq, rfl⟩ := List.mem_map.1 hp
  have := zl_cn h q hq
  show zl q.2 ≤ _
  omega
theorem nf_sz {t : T} {N : Nat} (h : t.sz N) (hb : t.lb) : t.nf.sz (N + N) := ct_sz (by rw [vl_len]; exact h.1) (zl_vl hb.1 h.2.1) (by have := zl_of hb.2; have := h.2.2; omega)

/-- Does it stand as it should? -/
def validF : Option Int → List (Int × Z) → Bool
  | _, [] => true
  | w, p :: l => p.2.ok && (p.2.v != 0) && (match w with | none => true | some x => decide (x < p.1)) && validF (some p.1) l
theorem validF_iff : ∀ (l : List (Int × Z)) (w : Option Int), (∀ p ∈ l, Lb p.2.mag) → (validF w l = true ↔ (cl (vl l) = l ∧ Canon (vl l) ∧ ∀ x, w = some x → ∀ p ∈ l, x < p.1))
  | [], w, _ => by simp [validF, vl, cl, Canon]
  | p :: l, w, hb => by
    have ih := validF_iff l (some p.1) fun q hq => hb q (by simp [hq])
    have h1 := ok_iff (hb p (by simp))
    unfold validF
    simp only [Bool.and_eq_true, ih, h1]
    have e1 : vl (p :: l) = (p.1, p.2.v) :: vl l := rfl
    have e2 : cl ((p.1, p.2.v) :: vl l) = (p.1, cz p.2.v) :: cl (vl l) := rfl
    have hv : ∀ q ∈ vl l, ∃ r ∈ l, r.1 = q.1 := fun q hq => by
      obtain ⟨r, hr, rfl⟩ := List.mem_map.1 hq
      exact ⟨r, hr, rfl⟩
    rw [e1, e2]
    constructor
    · rintro ⟨⟨⟨h2, h3⟩, h4⟩, h5, h6, h7⟩
      refine ⟨by rw [h2, h5], ⟨List.pairwise_cons.2 ⟨fun q hq => ?_, h6.1⟩, fun q hq => ?_⟩, ?_⟩
      · obtain ⟨r, hr, e⟩ := hv q hq
        have := h7 p.1 rfl r hr
        show p.1 < q.1
        omega
      · rcases List.mem_cons.1 hq with rfl | hq
        · simpa using h3
        · exact h6.2 q hq
      · rintro x rfl q hq
        have h4 : x < p.1 := by simpa using h4
        rcases List.mem_cons.1 hq with rfl | hq
        · exact h4
        · have := h7 p.1 rfl q hq
          omega
    · rintro ⟨h2, ⟨h3, h4⟩, h5⟩
      injection h2 with h2 h6
      obtain ⟨h7, h8⟩ := List.pairwise_cons.1 h3
      refine ⟨⟨⟨congrArg Prod.snd h2, by simpa using h4 (p.1, p.2.v) (by simp)⟩, ?_⟩, h6, ⟨h8, fun q hq => h4 q (by simp [hq])⟩, ?_⟩
      · cases w with
        | none => rfl
        | some x => simpa using h5 x rfl p (by simp)
      · rintro x hx q hq
        injection hx with hx
        subst hx
        exact h7 (q.1, q.2.v) (List.mem_map.2 ⟨q, hq, rfl⟩)
def T.valid (t : T) : Bool := validF none t.ps && t.k.ok
theorem valid_iff {t : T} (hb : t.lb) : t.valid = true ↔ t.nf = t := by
  unfold T.valid T.nf ct
  rw [Bool.and_eq_true, validF_iff _ _ hb.1, ok_iff hb.2]
  constructor
  · rintro ⟨⟨h1, h2, _⟩, h3⟩
    rw [cn_canon h2, h1, h3]
  · intro h
    obtain ⟨ps, k⟩ := t
    injection h with h1 h2
    have e : vl ps = cn (vl ps) := by
      have := congrArg vl h1
      rw [vl_cl] at this
      exact this.symm
    exact ⟨⟨by rw [e]; simpa using h1, by rw [e]; exact canon_cn _, by simp⟩, h2⟩
theorem ct_valid (l : List (Int × Int)) (k : Int) : (ct l k).valid = true := (valid_iff (ct_lb l k)).2 (nf_ct l k)

end Go.Proofs.YtbblgjjomgipfaaGreat
