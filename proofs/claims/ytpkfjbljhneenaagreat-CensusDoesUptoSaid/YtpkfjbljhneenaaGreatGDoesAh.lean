/- A region that draws its order, walked once for all orders: of each operation is told what it leaves in its slot; the last ones wait for all others. No conditions. Contracts of package riddleref01: Quo, DivMod. No conditions. -/
import Derived.Test.YtpkfjbljhneenaaGreatGDoesAf
import Derived.Test.YtpkfjbljhneenaaGreatGDoesAc
namespace Go.Proofs.YtpkfjbljhneenaaGreat
open Go.RowKit

def fillA (a : Act) : List Nat → (Nat → Value) → Act
 | [], _ => a
 | t :: ds, f => (fillA a ds f).put (some t) (f t)
def updF (f : Nat → Value) (t : Nat) (v : Value) : Nat → Value := fun k => if k = t then v else f k

theorem fillA_defers (a : Act) (f : Nat → Value) : ∀ ds : List Nat, (fillA a ds f).defers = a.defers
 | [] => rfl
 | _ :: ds => fillA_defers a f ds
theorem fillA_size (a : Act) (f : Nat → Value) : ∀ ds : List Nat, (fillA a ds f).tmps.size = a.tmps.size
 | [] => rfl
 | t :: ds => by
  show ((fillA a ds f).tmps.setIfInBounds t (f t)).size = _
  rw [Array.size_setIfInBounds, fillA_size a f ds]
theorem fillA_get (a : Act) (f : Nat → Value) (k : Nat) : ∀ ds : List Nat, (fillA a ds f).tmps[k]? = if k ∈ ds ∧ k < a.tmps.size then some (f k) else a.tmps[k]?
 | [] => by simp [fillA]
 | t :: ds => by
  show ((fillA a ds f).tmps.setIfInBounds t (f t))[k]? = _
  rw [Array.getElem?_setIfInBounds, fillA_get a f k ds, fillA_size]
  by_cases e : t = k
  ·subst e
   by_cases h : t < a.tmps.size
   ·simp [h]
   ·simp [h]
  ·have e' : ¬ k = t := fun h => e h.symm
   simp [e, e']
theorem act_ext {a b : Act} (h1 : ∀ k : Nat, a.tmps[k]? = b.tmps[k]?) (h2 : a.defers = b.defers) : a = b := by
 obtain ⟨x, d⟩ := a; obtain ⟨y, e⟩ := b; simp only at h1 h2; subst h2
 congr 1
 exact Array.ext_getElem? h1
theorem fillA_put {a : Act} {f : Nat → Value} {ds : List Nat} {t : Nat} {v : Value} (ht : t ∈ ds) : (fillA a ds f).put (some t) v = fillA a ds (updF f t v) := by
 refine act_ext (fun k => ?_) ?_
 ·show ((fillA a ds f).tmps.setIfInBounds t v)[k]? = _
  rw [Array.getElem?_setIfInBounds, fillA_get, fillA_get, fillA_size]
  by_cases e : t = k
  ·subst e
   by_cases h : t < a.tmps.size
   ·simp [h, ht, updF]
   ·simp [h]
  ·have e' : ¬ k = t := fun h => e h.symm
   simp [e, updF, e']
 ·show (fillA a ds f).defers = _
  rw [fillA_defers, fillA_defers]
theorem fillA_self (a : Act) (ds : List Nat) : ∃ f, fillA a ds f = a := by
 refine ⟨fun k => a.tmps.getD k undef, act_ext (fun k => ?_) (fillA_defers _ _ _)⟩; rw [fillA_get]
 split
 ·rename_i h
  rw [Array.getElem?_eq_getElem h.2]; simp [Array.getD, h.2]
 ·rfl

section
variable {P : Program} {ops : Array Oper} {Q : Exit → Act → World → Prop} {md : Region.Mode}
def PhiDeps (Φ : Nat → Value → World → Prop) (f : Nat → Value) (w : World) : List (Nat × Nat) → Prop
 | [] => True
 | (j, t) :: r => Φ j (f t) w ∧ PhiDeps Φ f w r
def PhiSteps (P : Program) (ops : Array Oper) (Q : Exit → Act → World → Prop) (a : Act) (ds Al Pu : List Nat) (Φ : Nat → Value → World → Prop) (w0 : World) : List (Nat × Nat × List (Nat × Nat)) → Prop
 | [] => True
 | (i, t, js) :: r => ((Pu.contains i = false → ∀ f w, Ext w0 w → PhiDeps Φ f w js → wpOp P ops Q i (fun a' w' => ∃ v, a' = (fillA a ds f).put (some t) v ∧ Ext w w' ∧ Φ i v w' ∧ (Al.contains i = true → ∀ j u, Al.contains j = true → Φ j u w → u ≠ v)) (fillA a ds f) w) ∧
   (Pu.contains i = true → ∀ f w, Ext w0 w → PhiDeps Φ f w js → ∃ o v, ops[i]? = some o ∧ o.dst = some t ∧ Yields P ops o v (fillA a ds f) ∧ Φ i v w)) ∧ PhiSteps P ops Q a ds Al Pu Φ w0 r
def PhiAll (Φ : Nat → Value → World → Prop) (f : Nat → Value) (w : World) : List (Nat × Nat × List (Nat × Nat)) → Prop
 | [] => True
 | (i, t, _) :: r => Φ i (f t) w ∧ PhiAll Φ f w r
def PhiDist (Al : List Nat) (f : Nat → Value) (T : List (Nat × Nat × List (Nat × Nat))) : Prop := ∀ e ∈ T, ∀ e' ∈ T, Al.contains e.1 = true → Al.contains e'.1 = true → e.1 ≠ e'.1 → f e.2.1 ≠ f e'.2.1
def startArr (ops : Array Oper) (late : Nat → Bool) : Array Bool := (Array.range ops.size).map fun i => !late i
def waitsAllP (md : Region.Mode) (ops : Array Oper) (late : Nat → Bool) (Pu : List Nat) : Bool :=
 (List.range ops.size).all fun L => !late L || (List.range ops.size).all fun k => late k || Pu.contains k || reach md ops 6 L k
theorem waitsAllP_spec {late : Nat → Bool} {Pu : List Nat} (h : waitsAllP md ops late Pu = true) {listed : Array Bool} (hC : Cls md ops listed) {L : Nat} (hL : late L = true) (hr : L ∈ Region.ready md ops listed) {k : Nat} (hk : k < ops.size) (hne : late k = false) (hp : Pu.contains k = false) : listed.getD k false = true := by
 obtain ⟨_, o, ho, hall⟩ := mem_ready.1 hr; have hl : L < ops.size := (Array.getElem?_eq_some_iff.1 ho).1; simp only [waitsAllP, List.all_eq_true, List.mem_range, Bool.or_eq_true, Bool.not_eq_true'] at h
 rcases h L hl with h1 | h1
 ·rw [hL] at h1; cases h1
 ·rcases h1 k hk with (h2 | h2) | h2
  ·rw [hne] at h2; cases h2
  ·rw [hp] at h2; cases h2
  ·exact reach_ready hC 6 L k hr h2
def freeAll (md : Region.Mode) (ops : Array Oper) (i : Nat) : Bool :=
 match ops[i]? with
 | none => false
 | some oi => (List.range ops.size).all fun j => j == i || direct md ops j i || direct md ops i j || match ops[j]? with
   | some oj => oi.apart ops oj
   | none => true
def phiOk (md : Region.Mode) (ops : Array Oper) (late : Nat → Bool) (Pu ls ds : List Nat) (T : List (Nat × Nat × List (Nat × Nat))) : Bool :=
 ((List.range ops.size).all fun i => late i || T.any fun e => e.1 == i) &&
 (T.all fun e => decide (e.1 < ops.size) && !late e.1 && ds.contains e.2.1 && (T.all fun e' => (e.2.1 == e'.2.1) == (e.1 == e'.1)) &&
  ((ops[e.1]?).map fun o => o.after.all fun x => !Region.binds md x || (decide (x.on < e.1) && !late x.on)).getD false &&
  e.2.2.all fun j => direct md ops e.1 j.1 && T.any fun e' => e'.1 == j.1 && e'.2.1 == j.2) &&
 lateOk md ops late ls (startArr ops late) && waitsAllP md ops late Pu && (Pu.all fun i => freeAll md ops i) && Region.noSelect ops

def cnt (p : Nat → Bool) : Nat → Nat
 | 0 => 0
 | n + 1 => cnt p n + (if p n then 1 else 0)
theorem cnt_congr {p q : Nat → Bool} : ∀ {n : Nat}, (∀ i, i < n → p i = q i) → cnt p n = cnt q n
 | 0, _ => rfl
 | n + 1, h => by
  unfold cnt; rw [cnt_congr (n := n) fun i hi => h i (by omega), h n (by omega)]
theorem cnt_drop {p q : Nat → Bool} {i : Nat} : ∀ {n : Nat}, i < n → p i = true → q i = false → (∀ j, j ≠ i → p j = q j) → cnt p n = cnt q n + 1
 | 0, h, _, _, _ => absurd h (Nat.not_lt_zero _)
 | n + 1, h, hp, hq, hj => by
  unfold cnt
  by_cases e : i = n
  ·subst e; rw [cnt_congr (n := i) fun k hk => hj k (by omega), hp, hq]; simp
  ·rw [cnt_drop (n := n) (by omega) hp hq hj, hj n (fun h => e h.symm)]
   omega
theorem cnt_pos {p : Nat → Bool} : ∀ {n : Nat}, 0 < cnt p n → ∃ i, i < n ∧ p i = true ∧ ∀ j, j < i → p j = false
 | 0, h => absurd h (Nat.lt_irrefl _)
 | n + 1, h => by
  rcases Nat.eq_zero_or_pos (cnt p n) with h0 | h0
  ·unfold cnt at h; rw [h0] at h
   have hn : p n = true := by
    rcases hp : p n with _ | _
    ·rw [hp] at h; simp at h
    ·rfl
   refine ⟨n, by omega, hn, fun j hj => ?_⟩
   rcases hpj : p j with _ | _
   ·rfl
   ·exfalso
    have : ∀ {m : Nat}, j < m → 0 < cnt p m := by
     intro m
     induction m with
     | zero => intro h; omega
     | succ m ih =>
      intro h; unfold cnt
      by_cases e : j = m
      ·subst e; rw [hpj]; simp
      ·have := ih (by omega); omega
    have := this hj
    omega
  ·obtain ⟨i, h1, h2, h3⟩ := cnt_pos h0; exact ⟨i, by omega, h2, h3⟩
theorem cnt_zero {p : Nat → Bool} : ∀ {n : Nat}, cnt p n = 0 → ∀ i, i < n → p i = false
 | 0, _, i, hi => absurd hi (Nat.not_lt_zero _)
 | n + 1, h, i, hi => by
  unfold cnt at h
  by_cases e : i = n
  ·subst e
   rcases hp : p i with _ | _
   ·rfl
   ·rw [hp] at h; simp at h
  ·exact cnt_zero (n := n) (by omega) i (by omega)

theorem phi_deps {Φ : Nat → Value → World → Prop} {f : Nat → Value} {w : World} : ∀ {js : List (Nat × Nat)}, (∀ j ∈ js, Φ j.1 (f j.2) w) → PhiDeps Φ f w js
 | [], _ => trivial
 | (j, t) :: r, h => ⟨h (j, t) (by simp), phi_deps fun x hx => h x (by simp [hx])⟩
theorem phi_all {Φ : Nat → Value → World → Prop} {f : Nat → Value} {w : World} : ∀ {T : List (Nat × Nat × List (Nat × Nat))}, (∀ e ∈ T, Φ e.1 (f e.2.1) w) → PhiAll Φ f w T
 | [], _ => trivial
 | (j, t, js) :: r, h => ⟨h (j, t, js) (by simp), phi_all fun x hx => h x (by simp [hx])⟩
theorem phi_step {Φ : Nat → Value → World → Prop} {a : Act} {ds Al Pu : List Nat} {w0 : World} : ∀ {T : List (Nat × Nat × List (Nat × Nat))}, PhiSteps P ops Q a ds Al Pu Φ w0 T → ∀ e ∈ T,
  (Pu.contains e.1 = false → ∀ f w, Ext w0 w → PhiDeps Φ f w e.2.2 → wpOp P ops Q e.1 (fun a' w' => ∃ v, a' = (fillA a ds f).put (some e.2.1) v ∧ Ext w w' ∧ Φ e.1 v w' ∧ (Al.contains e.1 = true → ∀ j u, Al.contains j = true → Φ j u w → u ≠ v)) (fillA a ds f) w) ∧
   (Pu.contains e.1 = true → ∀ f w, Ext w0 w → PhiDeps Φ f w e.2.2 → ∃ o v, ops[e.1]? = some o ∧ o.dst = some e.2.1 ∧ Yields P ops o v (fillA a ds f) ∧ Φ e.1 v w)
 | [], _, e, he => absurd he (by simp)
 | (i, t, js) :: r, h, e, he => by
  rcases List.mem_cons.1 he with rfl | he
  ·exact h.1
  ·exact phi_step h.2 e he

theorem phi_sound {late : Nat → Bool} {ls ds Al Pu : List Nat} {T : List (Nat × Nat × List (Nat × Nat))} {Φ : Nat → Value → World → Prop} {a : Act} {w0 : World} (hok : phiOk md ops late Pu ls ds T = true) (hQ : ∀ c a d v w, Q (.panic c) (Act.put a d v) w → Q (.panic c) a w)
  (hAP : ∀ i, Pu.contains i = true → Al.contains i = false) (hst : ∀ i v w w', Ext w w' → Φ i v w → Φ i v w') (hstep : PhiSteps P ops Q a ds Al Pu Φ w0 T) (hend : ∀ f w, Ext w0 w → PhiAll Φ f w T → PhiDist Al f T → LateW P ops Q ls (fillA a ds f) w) :
  ∀ (m : Nat) (listed : Array Bool) (f : Nat → Value) (w : World), listed.size = ops.size → Cls md ops listed → (∀ i, i < ops.size → late i = true → listed.getD i true = false) →
   cnt (fun i => !late i && !listed.getD i true) ops.size = m → Ext w0 w → (∀ e ∈ T, listed.getD e.1 false = true → Φ e.1 (f e.2.1) w) → (∀ e ∈ T, ∀ e' ∈ T, listed.getD e.1 false = true → listed.getD e'.1 false = true → Al.contains e.1 = true → Al.contains e'.1 = true → e.1 ≠ e'.1 → f e.2.1 ≠ f e'.2.1) → wpAny P md ops Q (m + ls.length) listed (fillA a ds f) w := by
 simp only [phiOk, Bool.and_eq_true, List.all_eq_true, List.mem_range, Bool.or_eq_true] at hok; obtain ⟨⟨⟨⟨⟨hcov, hT⟩, hlo⟩, hwa⟩, hfr⟩, hns⟩ := hok
 have gdd : ∀ (listed : Array Bool) (i : Nat), i < listed.size → listed.getD i true = listed.getD i false := fun listed i hi => by simp [Array.getD, hi]
 intro m
 induction m with
 | zero =>
  intro listed f w hsz hC hlate hcnt hx hΦ hne; have hall := cnt_zero hcnt
  have hlist : ∀ i, i < ops.size → late i = false → listed.getD i false = true := fun i hi hl => by
   have := hall i hi; rw [hl] at this; simp only [Bool.not_false, Bool.true_and, Bool.not_eq_false'] at this; rw [← gdd listed i (by omega)]; exact this
  have heq : listed = startArr ops late := by
   apply Array.ext
   ·simp [startArr, hsz]
   ·intro i h1 h2
    have hi : i < ops.size := by omega
    simp only [startArr, Array.getElem_map, Array.getElem_range]
    rcases hl : late i with _ | _
    ·have := hlist i hi hl
     simpa [Array.getD, h1] using this
    ·have := hlate i hi hl
     simpa [Array.getD, h1] using this
  rw [Nat.zero_add]
  have hle : ∀ e ∈ T, listed.getD e.1 false = true := fun e he => by
   have h3 := hT e he; simp only [decide_eq_true_eq, Bool.not_eq_true'] at h3; exact hlist e.1 h3.1.1.1.1.1 h3.1.1.1.1.2
  refine wpAny_of_H (late := late) (S := fun _ => True) _ _ _ _ (late_sound ls listed _ _ (by rw [heq]; exact hlo) (hend f w hx (phi_all fun e he => hΦ e he (hle e he)) fun e he e' he' => hne e he e' he' (hle e he) (hle e' he')))
 | succ m ih =>
  intro listed f w hsz hC hlate hcnt hx hΦ hne
  have e1 : m + 1 + ls.length = (m + ls.length) + 1 := by omega
  rw [e1]; obtain ⟨i0, hi0, hp0, hmin⟩ := cnt_pos (p := fun i => !late i && !listed.getD i true) (n := ops.size) (by omega); simp only [Bool.and_eq_true, Bool.not_eq_true'] at hp0
  have hmem : i0 ∈ Region.ready md ops listed := by
   obtain ⟨e, he⟩ := List.any_eq_true.1 ((hcov i0 hi0).resolve_left (by rw [hp0.1]; simp)); have h3 := hT e he.1
   have e2 : e.1 = i0 := by simpa using he.2
   rw [e2] at h3; refine mem_ready.2 ⟨hp0.2, ops[i0], Array.getElem?_eq_getElem hi0, fun x hx' hb => ?_⟩; have h4 := h3.1.2; rw [Array.getElem?_eq_getElem hi0] at h4; simp only [Option.map_some, Option.getD_some, Array.all_eq_true_iff_forall_mem, Bool.or_eq_true, Bool.not_eq_true', Bool.and_eq_true, decide_eq_true_eq] at h4; have h5 := (h4 x hx').resolve_left (by rw [hb]; simp); have h6 := hmin x.on h5.1; rw [h5.2] at h6; simp only [Bool.not_false, Bool.true_and, Bool.not_eq_false'] at h6; rw [← gdd listed x.on (by omega)]; exact h6
  have hdep : ∀ i, i ∈ Region.ready md ops listed → ∀ e ∈ T, e.1 = i → PhiDeps Φ f w e.2.2 := fun i hi e he0 ei => phi_deps fun j hj => by
   have h3 := hT e he0; obtain ⟨h41, h42⟩ := h3.2 j hj; obtain ⟨e', he', h43⟩ := List.any_eq_true.1 h42; simp only [Bool.and_eq_true, beq_iff_eq] at h43; rw [← h43.1, ← h43.2]; refine hΦ e' he' ?_; rw [h43.1]; rw [ei] at h41; exact direct_spec h41 hi
  have upd_ok : ∀ i, i ∈ Region.ready md ops listed → late i = false → ∀ e ∈ T, e.1 = i → ∀ v w', Ext w w' → Φ i v w' → (Al.contains i = true → ∀ j u, Al.contains j = true → Φ j u w → u ≠ v) → wpAny P md ops Q (m + ls.length) (listed.setIfInBounds i true) (fillA a ds (updF f e.2.1 v)) w' := by
   intro i hi hnl e he0 ei v w' hx' hv hvn; obtain ⟨hiu, oi, hoi, hdeps⟩ := mem_ready.1 hi; have hil : i < ops.size := (Array.getElem?_eq_some_iff.1 hoi).1; have h3 := hT e he0; simp only [decide_eq_true_eq, Bool.not_eq_true'] at h3; obtain ⟨⟨⟨⟨⟨h31, h32⟩, h33⟩, h34⟩, h35⟩, h36⟩ := h3
   have hsame : ∀ e' ∈ T, e'.1 = i → e'.2.1 = e.2.1 := fun e' he' ek => by
    have h7 := h34 e' he'
    have h9 : (e.1 == e'.1) = true := by rw [ei, ek]; simp
    rw [h9] at h7
    have h10 : (e.2.1 == e'.2.1) = true := by simpa using h7
    exact (beq_iff_eq.1 h10).symm
   have hoth : ∀ e' ∈ T, e'.1 ≠ i → e'.2.1 ≠ e.2.1 := fun e' he' ek h => by
    have h7 := h34 e' he'
    have h9 : (e.1 == e'.1) = false := by rw [ei]; simpa using fun h => ek h.symm
    rw [h9] at h7
    have h10 : (e.2.1 == e'.2.1) = false := by simpa using h7
    rw [h] at h10; simp at h10
   have hold : ∀ e' : Nat × Nat × List (Nat × Nat), e'.1 ≠ i → (listed.setIfInBounds i true).getD e'.1 false = true → listed.getD e'.1 false = true := fun e' ek hl => by
    rw [Array.getD_eq_getD_getElem?] at hl ⊢; rw [Array.getElem?_setIfInBounds_ne (fun h => ek h.symm)] at hl; exact hl
   refine ih _ _ _ (by simp [hsz]) (hC.set hi) (fun k hk hl => ?_) ?_ (hx.trans hx') (fun e' he' hl => ?_) fun e1 he1 e2 he2 hl1 hl2 ha1 ha2 hne12 => ?_
   ·have hne : i ≠ k := fun h => by rw [h, hl] at hnl; cases hnl
    rw [getD_set_ne true hne]; exact hlate k hk hl
   ·have := cnt_drop (p := fun k => !late k && !listed.getD k true) (q := fun k => !late k && !(listed.setIfInBounds i true).getD k true) hil (by simp [hnl, hiu]) (by
     simp [hnl, Array.getD, show i < listed.size by omega]) (fun k hk => by
     rw [getD_set_ne true (fun h => hk h.symm)])
    omega
   ·by_cases ek : e'.1 = i
    ·rw [ek, hsame e' he' ek]; simp only [updF, if_true]; exact hv
    ·simp only [updF, if_neg (hoth e' he' ek)]; exact hst _ _ _ _ hx' (hΦ e' he' (hold e' ek hl))
   ·by_cases e1k : e1.1 = i
    ·have e2k : e2.1 ≠ i := fun h => hne12 (e1k.trans h.symm)
     rw [hsame e1 he1 e1k]; simp only [updF, if_true, if_neg (hoth e2 he2 e2k)]; exact (hvn (by rw [← e1k]; exact ha1) e2.1 _ ha2 (hΦ e2 he2 (hold e2 e2k hl2))).symm
    ·by_cases e2k : e2.1 = i
     ·rw [hsame e2 he2 e2k]; simp only [updF, if_true, if_neg (hoth e1 he1 e1k)]; exact hvn (by rw [← e2k]; exact ha2) e1.1 _ ha1 (hΦ e1 he1 (hold e1 e1k hl1))
     ·simp only [updF, if_neg (hoth e1 he1 e1k), if_neg (hoth e2 he2 e2k)]; exact hne e1 he1 e2 he2 (hold e1 e1k hl1) (hold e2 e2k hl2) ha1 ha2 hne12
  by_cases hq : ∃ i ∈ Region.ready md ops listed, Pu.contains i = true ∧ late i = false
  ·obtain ⟨i, hi, hpi, hnl⟩ := hq; obtain ⟨hiu, oi, hoi, hdeps⟩ := mem_ready.1 hi; have hil : i < ops.size := (Array.getElem?_eq_some_iff.1 hoi).1; obtain ⟨e, he⟩ := List.any_eq_true.1 ((hcov i hil).resolve_left (by rw [hnl]; simp))
   have ei : e.1 = i := by simpa using he.2
   obtain ⟨o, v, ho, hod, hy, hv⟩ := (phi_step hstep e he.1).2 (by rw [ei]; exact hpi) f w hx (hdep i hi e he.1 ei); rw [ei, hoi] at ho; obtain rfl := Option.some.inj ho; rw [ei] at hv; have h3 := hT e he.1; have hfree := hfr i (by simpa using hpi); refine wpAny_first hoi (Region.noSelect_spec hns) (fun c a w => hQ c a oi.dst v w) (m + ls.length) listed _ w (fun j oj hoj hji hun hno => ?_) hi hy ?_
   ·simp only [freeAll, hoi, List.all_eq_true, List.mem_range, Bool.or_eq_true, beq_iff_eq] at hfree
    rcases hfree j (Array.getElem?_eq_some_iff.1 hoj).1 with ((h | h) | h) | h
    ·exact absurd h hji
    ·simp only [direct, hoj, Option.map_some, Option.getD_some, Array.any_eq_true', Bool.and_eq_true, beq_iff_eq] at h; obtain ⟨x, hx1, hx2, hx3⟩ := h; exact absurd hx3 (hno x hx1 hx2)
    ·have h5 := direct_spec h hi; rw [gdd listed j (by have := (Array.getElem?_eq_some_iff.1 hoj).1; omega)] at hun; rw [h5] at hun
     cases hun
    ·rw [hoj] at h; exact h
   ·rw [hod, fillA_put (by simpa using h3.1.1.1.2)]; exact upd_ok i hi hnl e he.1 ei v w (Ext.refl w) hv (fun h => by rw [hAP i hpi] at h; cases h)
  have hno : ∀ i ∈ Region.ready md ops listed, late i = false → Pu.contains i = false := fun i hi hl => by
   rcases hp : Pu.contains i with _ | _
   ·rfl
   ·exact absurd ⟨i, hi, hp, hl⟩ hq
  refine ⟨fun hr => ?_, fun i hi => ?_⟩
  ·exfalso
   rw [hr] at hmem
   cases hmem
  ·obtain ⟨hiu, oi, hoi, hdeps⟩ := mem_ready.1 hi; have hil : i < ops.size := (Array.getElem?_eq_some_iff.1 hoi).1
   have hnl : late i = false := by
    rcases hl : late i with _ | _
    ·rfl
    ·have := waitsAllP_spec hwa hC hl hi hi0 hp0.1 (hno i0 hmem hp0.1); rw [gdd listed i0 (by omega)] at hp0; rw [this] at hp0; exact absurd hp0.2 (by simp)
   obtain ⟨e, he⟩ := List.any_eq_true.1 ((hcov i hil).resolve_left (by rw [hnl]; simp))
   have ei : e.1 = i := by simpa using he.2
   have h3 := hT e he.1; have hs := (phi_step hstep e he.1).1 (by rw [ei]; exact hno i hi hnl) f w hx (hdep i hi e he.1 ei); rw [ei] at hs; refine wpOp_mono (fun a' w' h' => ?_) hs; obtain ⟨v, rfl, hx', hv, hvn⟩ := h'; rw [fillA_put (by simpa using h3.1.1.1.2)]; exact upd_ok i hi hnl e he.1 ei v w' hx' hv hvn

theorem wp_region_free0 {id : Nat} {a : Act} {w : World} (T : List (Nat × Nat × List (Nat × Nat))) (ls ds Al Pu : List Nat) (Φ : Nat → Value → World → Prop) (hm : P.follows .mixedOrders = true)
  (hok : (phiOk .any ops (fun i => ls.contains i) Pu ls ds T && Pu.all (fun i => !Al.contains i)) = true) (hQ : ∀ c a d v w, Q (.panic c) (Act.put a d v) w → Q (.panic c) a w) (hlen : (T.length + ls.length == ops.size) = true) (hcn : (cnt (fun i => !ls.contains i) ops.size == T.length) = true)
  (hst : ∀ i v w w', Ext w w' → Φ i v w → Φ i v w') (hstep : PhiSteps P ops Q a ds Al Pu Φ w.drew T) (hend : ∀ f w', Ext w.drew w' → PhiAll Φ f w' T → PhiDist Al f T → LateW P ops Q ls (fillA a ds f) w') : (Code.region id ops true).wp P Q a w := by
 refine wp_region_any hm ?_; obtain ⟨f, hf⟩ := fillA_self a ds
 have h0 : ∀ k, (Array.replicate ops.size false).getD k false = false := fun k => by
  by_cases h : k < ops.size <;> simp [Array.getD, h]
 have h1 : ∀ k, k < ops.size → (Array.replicate ops.size false).getD k true = false := fun k h => by simp [Array.getD, h]
 simp only [Bool.and_eq_true] at hok
 have hAP : ∀ i, Pu.contains i = true → Al.contains i = false := fun i hi => by
  have := List.all_eq_true.1 hok.2 i (by simpa using hi)
  simpa using this
 have := phi_sound (md := .any) (Q := Q) (P := P) hok.1 hQ hAP hst hstep hend T.length (Array.replicate ops.size false) f w.drew (by simp) Cls.init (fun i hi _ => h1 i hi) (by
  rw [cnt_congr (q := fun i => !ls.contains i) fun i hi => by simp only [h1 i hi, Bool.not_false, Bool.and_true]]
  simpa using hcn) (Ext.refl _) (fun e _ h => by rw [h0] at h; cases h) (fun e _ _ _ h => by rw [h0] at h; cases h)
 rw [hf, (by simpa using hlen : T.length + ls.length = ops.size)] at this; exact this

def PhiT : Type := { φ : Value → World → Prop // ∀ v w w', Ext w w' → φ v w → φ v w' }
def phiAny : PhiT := ⟨fun _ _ => True, fun _ _ _ _ h => h⟩
def phiEq (x : Value) : PhiT := ⟨fun v _ => v = x, fun _ _ _ _ h => h⟩
def phiZ (X : Nat → Prop) (z : Z) : PhiT := ⟨fun v w => Zi w X v z, fun _ _ _ hx h => h.ext hx⟩
def phiBox (b : Nat) (t : TypeId) (cs : Array Value) : PhiT := ⟨fun v w => ∃ g, v = .pointer (some ⟨g, 0, none⟩) ∧ b ≤ g ∧ Box w g t cs, fun _ _ _ hx ⟨g, h1, h2, h3⟩ => ⟨g, h1, h2, h3.ext hx⟩⟩
def phiAt : List PhiT → Nat → PhiT
 | [], _ => phiAny
 | x :: _, 0 => x
 | _ :: r, n + 1 => phiAt r n
theorem wp_region_free {id : Nat} {a : Act} {w : World} (T : List (Nat × Nat × List (Nat × Nat))) (ls ds Al Pu : List Nat) (L : List PhiT) (hm : P.follows .mixedOrders = true)
  (hok : (phiOk .any ops (fun i => ls.contains i) Pu ls ds T && Pu.all (fun i => !Al.contains i)) = true) (hQ : ∀ c a d v w, Q (.panic c) (Act.put a d v) w → Q (.panic c) a w) (hlen : (T.length + ls.length == ops.size) = true) (hcn : (cnt (fun i => !ls.contains i) ops.size == T.length) = true)
  (hstep : PhiSteps P ops Q a ds Al Pu (fun i v w => (phiAt L i).1 v w) w.drew T) (hend : ∀ f w', Ext w.drew w' → PhiAll (fun i v w => (phiAt L i).1 v w) f w' T → PhiDist Al f T → LateW P ops Q ls (fillA a ds f) w') : (Code.region id ops true).wp P Q a w :=
 wp_region_free0 T ls ds Al Pu (fun i v w => (phiAt L i).1 v w) hm hok hQ hlen hcn (fun i v w w' hx h => (phiAt L i).2 v w w' hx h) hstep hend

theorem ps_nil {a : Act} {ds Al Pu : List Nat} {Φ : Nat → Value → World → Prop} {w0 : World} : PhiSteps P ops Q a ds Al Pu Φ w0 [] := trivial
theorem ps_take {a : Act} {ds Al Pu : List Nat} {Φ : Nat → Value → World → Prop} {w0 : World} {i t : Nat} {js : List (Nat × Nat)} {r : List (Nat × Nat × List (Nat × Nat))} {o : Oper} (ho : opAt ops.toList i = some o) (hg : o.guard = none) (hd : o.dst = some t) (hal : Al.contains i = false) (hpu : Pu.contains i = false)
  (h : ∀ f w, Ext w0 w → PhiDeps Φ f w js → ∃ v, (execOp (fillA a ds f).eval o).run P w = .ok (.value v) w ∧ Φ i v w) (hr : PhiSteps P ops Q a ds Al Pu Φ w0 r) : PhiSteps P ops Q a ds Al Pu Φ w0 ((i, t, js) :: r) := by
 refine ⟨⟨fun _ f w hx hdp => ?_, fun h => by rw [hpu] at h; cases h⟩, hr⟩; obtain ⟨v, h1, h2⟩ := h f w hx hdp; unfold wpOp; simp only [opAt_ops ho, Region.wanted, hg, if_true]; refine .inl ?_; unfold Oper.wp; simp only [h1]; exact ⟨v, by rw [hd], Ext.refl w, h2, fun h => by rw [hal] at h; cases h⟩
theorem ps_loud {a : Act} {ds Al Pu : List Nat} {Φ : Nat → Value → World → Prop} {w0 : World} {i t : Nat} {js : List (Nat × Nat)} {r : List (Nat × Nat × List (Nat × Nat))} {o : Oper} (ho : opAt ops.toList i = some o) (hg : o.guard = none) (hd : o.dst = some t) (hal : Al.contains i = false) (hpu : Pu.contains i = false)
  (h : ∀ f w, Ext w0 w → PhiDeps Φ f w js → ∀ K : Act → World → Prop, (∀ v w', Ext w w' → Φ i v w' → K ((fillA a ds f).put o.dst v) w') → o.wp P (fillA a ds f) w K Q) (hr : PhiSteps P ops Q a ds Al Pu Φ w0 r) : PhiSteps P ops Q a ds Al Pu Φ w0 ((i, t, js) :: r) := by
 refine ⟨⟨fun _ f w hx hdp => ?_, fun h => by rw [hpu] at h; cases h⟩, hr⟩; unfold wpOp; simp only [opAt_ops ho, Region.wanted, hg, if_true]; exact .inl (h f w hx hdp _ fun v w' hx' hv => ⟨v, by rw [hd], hx', hv, fun h => by rw [hal] at h; cases h⟩)
theorem ps_pure {a : Act} {ds Al Pu : List Nat} {Φ : Nat → Value → World → Prop} {w0 : World} {i t : Nat} {js : List (Nat × Nat)} {r : List (Nat × Nat × List (Nat × Nat))} {o : Oper} (ho : opAt ops.toList i = some o) (hg : o.guard = none) (hd : o.dst = some t) (hpu : Pu.contains i = true)
  (h : ∀ f w, Ext w0 w → PhiDeps Φ f w js → ∃ v, (∀ w', (execOp (fillA a ds f).eval o).run P w' = .ok (.value v) w') ∧ Φ i v w) (hr : PhiSteps P ops Q a ds Al Pu Φ w0 r) : PhiSteps P ops Q a ds Al Pu Φ w0 ((i, t, js) :: r) := by
 refine ⟨⟨fun h => by rw [hpu] at h; (cases h), fun _ f w hx hdp => ?_⟩, hr⟩; obtain ⟨v, h1, h2⟩ := h f w hx hdp; exact ⟨o, v, opAt_ops ho, hd, .inl ⟨by simp [Region.wanted, hg], h1⟩, h2⟩
theorem ps_eq {a : Act} {ds Al Pu : List Nat} {L : List PhiT} {w0 : World} {i t : Nat} {js : List (Nat × Nat)} {r : List (Nat × Nat × List (Nat × Nat))} {o : Oper} {x : Value} (ho : opAt ops.toList i = some o) (hg : o.guard = none) (hd : o.dst = some t) (hal : Al.contains i = false) (hpu : Pu.contains i = false) (hL : phiAt L i = phiEq x)
  (h : ∀ f w, Ext w0 w → PhiDeps (fun i v w => (phiAt L i).1 v w) f w js → (execOp (fillA a ds f).eval o).run P w = .ok (.value x) w) (hr : PhiSteps P ops Q a ds Al Pu (fun i v w => (phiAt L i).1 v w) w0 r) : PhiSteps P ops Q a ds Al Pu (fun i v w => (phiAt L i).1 v w) w0 ((i, t, js) :: r) :=
 ps_take ho hg hd hal hpu (fun f w hx hdp => ⟨x, h f w hx hdp, by rw [hL]; rfl⟩) hr
theorem ps_peq {a : Act} {ds Al Pu : List Nat} {L : List PhiT} {w0 : World} {i t : Nat} {js : List (Nat × Nat)} {r : List (Nat × Nat × List (Nat × Nat))} {o : Oper} {x : Value} (ho : opAt ops.toList i = some o) (hg : o.guard = none) (hd : o.dst = some t) (hpu : Pu.contains i = true) (hL : phiAt L i = phiEq x)
  (h : ∀ f w, Ext w0 w → PhiDeps (fun i v w => (phiAt L i).1 v w) f w js → ∀ w', (execOp (fillA a ds f).eval o).run P w' = .ok (.value x) w') (hr : PhiSteps P ops Q a ds Al Pu (fun i v w => (phiAt L i).1 v w) w0 r) : PhiSteps P ops Q a ds Al Pu (fun i v w => (phiAt L i).1 v w) w0 ((i, t, js) :: r) :=
 ps_pure ho hg hd hpu (fun f w hx hdp => ⟨x, h f w hx hdp, by rw [hL]; rfl⟩) hr
def AllBox (L : List PhiT) : List Nat → Prop
 | [] => True
 | j :: r => (∃ b ty cs, phiAt L j = phiBox b ty cs) ∧ AllBox L r
theorem ab_nil {L : List PhiT} : AllBox L [] := trivial
theorem ab_cons {L : List PhiT} {j : Nat} {r : List Nat} {b : Nat} {ty : TypeId} {cs : Array Value} (h : phiAt L j = phiBox b ty cs) (hr : AllBox L r) : AllBox L (j :: r) := ⟨⟨b, ty, cs, h⟩, hr⟩
theorem allBox_at {L : List PhiT} : ∀ {Al : List Nat}, AllBox L Al → ∀ {j : Nat}, j ∈ Al → ∃ b ty cs, phiAt L j = phiBox b ty cs
 | [], _, j, hj => absurd hj (by simp)
 | k :: r, h, j, hj => by
  rcases List.mem_cons.1 hj with rfl | hj
  ·exact h.1
  ·exact allBox_at h.2 hj
theorem ps_alloc {a : Act} {ds Al Pu : List Nat} {L : List PhiT} {w0 : World} {i t b : Nat} {ty : TypeId} {cs : Array Value} {js : List (Nat × Nat)} {r : List (Nat × Nat × List (Nat × Nat))} {o : Oper} (ho : opAt ops.toList i = some o) (hg : o.guard = none) (hd : o.dst = some t)
  (hpu : Pu.contains i = false) (hL : phiAt L i = phiBox b ty cs) (hb : b ≤ w0.heap.size) (hall : AllBox L Al)
  (h : ∀ f w, (execOp (fillA a ds f).eval o).run P w = .ok (.value (.pointer (some ⟨w.heap.size, 0, none⟩))) (w.alloc (.cells cs ty))) (hr : PhiSteps P ops Q a ds Al Pu (fun i v w => (phiAt L i).1 v w) w0 r) :
  PhiSteps P ops Q a ds Al Pu (fun i v w => (phiAt L i).1 v w) w0 ((i, t, js) :: r) := by
 refine ⟨⟨fun _ f w hx hdp => ?_, fun h => by rw [hpu] at h; cases h⟩, hr⟩; unfold wpOp; simp only [opAt_ops ho, Region.wanted, hg, if_true]; refine .inl ?_; unfold Oper.wp; simp only [h f w]; refine ⟨_, by rw [hd], (Ext.refl w).alloc _, ?_, fun _ j u hj hu e => ?_⟩
 ·rw [hL]; exact ⟨w.heap.size, rfl, by have := hx.size; omega, Box.new _ _ _⟩
 ·obtain ⟨b', ty', cs', hj'⟩ := allBox_at hall (by simpa using hj); rw [hj'] at hu; obtain ⟨g, rfl, _, hbx⟩ := hu; have := hbx.lt
  injection e with e
  injection e with e
  injection e with e
  omega
end

theorem tk0 {p : Prop} (h : p := by intro f w1 hx hd; have hc' := hx.cells.1; (try simp only [wcd] at hc'); (dsimp only [PhiDeps, phiAt, phiEq, phiZ, phiAny, phiBox] at hd); (simp only [fillA]; (try simp only [pt])); (try simp only [hd]); go_simp; (first | done | with_reducible rfl)) : p := h
end Go.Proofs.YtpkfjbljhneenaaGreat

namespace Go.Proofs.YtpkfjbljhneenaaGreat
open Go.RowKit

theorem nth_set_eq {l : List Nat} {j v : Nat} (h : j < l.length) : nth (l.set j v) j = v := by
 simp [nth, h]
theorem rdm_bit {R0 x V q R k : Nat} (h : R0 * 2 ^ (32 - (k + 1)) + x / 2 ^ (k + 1) = V * q + R) (hk : k < 32) :
  R0 * 2 ^ (32 - k) + x / 2 ^ k = V * (2 * q) + (R * 2 + x / 2 ^ k % 2) := by
 have e1 : 2 ^ (32 - k) = 2 * 2 ^ (32 - (k + 1)) := by rw [show 32 - k = 32 - (k + 1) + 1 by omega, Nat.pow_succ, Nat.mul_comm]
 have e2 : x / 2 ^ (k + 1) = x / 2 ^ k / 2 := by rw [Nat.pow_succ, Nat.div_div_eq_div_mul]
 rw [e2] at h
 have e3 : R0 * (2 * 2 ^ (32 - (k + 1))) = 2 * (R0 * 2 ^ (32 - (k + 1))) := by rw [← Nat.mul_assoc, Nat.mul_comm R0 2, Nat.mul_assoc]
 have e4 : V * (2 * q) = 2 * (V * q) := by rw [← Nat.mul_assoc, Nat.mul_comm V 2, Nat.mul_assoc]
 rw [e1, e3, e4]
 omega
theorem rdm_small {R0 x V q R k : Nat} (h : R0 * 2 ^ (32 - k) + x / 2 ^ k = V * q + R) (hk : k ≤ 32) (hx : x < 4294967296) (hR : R0 < V) : q < 2 ^ (32 - k) := by
 have h1 : x / 2 ^ k < 2 ^ (32 - k) := by
  rw [Nat.div_lt_iff_lt_mul (Nat.pos_of_ne_zero (by simp)), ← Nat.pow_add, show 32 - k + k = 32 by omega]; exact hx
 have h2 : (R0 + 1) * 2 ^ (32 - k) ≤ V * 2 ^ (32 - k) := Nat.mul_le_mul_right _ hR
 have h3 : V * q < V * 2 ^ (32 - k) := by rw [Nat.add_mul, Nat.one_mul] at h2; omega
 exact Nat.lt_of_mul_lt_mul_left h3
theorem rdm_limb {a q q' : List Nat} {V R0 R j y : Nat} (h : nv (a.drop (j + 1)) = V * nv (q.drop (j + 1)) + R0) (hj : j < a.length) (hlo : j < q'.length) (hd : q'.drop (j + 1) = q.drop (j + 1))
  (hn : nth q' j = y) (hb : R0 * 4294967296 + nth a j = V * y + R) : nv (a.drop j) = V * nv (q'.drop j) + R := by
 rw [nv_drop a j hj, nv_drop q' j hlo, hn, hd, h, Nat.mul_add, Nat.mul_add, ← Nat.mul_assoc V, Nat.mul_comm V 4294967296, Nat.mul_assoc]
 omega

set_option maxHeartbeats 1600000 in
theorem rdivm_c {A B : Option Addr} {c d : Nat} {a b : List Nat} {w : World} {X Y : Nat → Prop} (ha : Nl w X A c a) (hb : Nl w Y B d b) (h0 : 0 < nv b) (hL : a.length ≤ 549755813888) (hLb : b.length ≤ 549755813888) :
  Calls Tryz.prog 129 #[.slice A a.length c, .slice B b.length d] w fun e w' => ∃ A1 c1 A2 c2, e = .returned (.tuple #[.slice A1 (lim (nv a / nv b)).length c1, .slice A2 (lim (nv a % nv b)).length c2]) ∧
   Nl w' (w.heap.size ≤ ·) A1 c1 (lim (nv a / nv b)) ∧ Nl w' (w.heap.size ≤ ·) A2 c2 (lim (nv a % nv b)) ∧ Ext w w' := by
 have hla := ha.lb; have hlb := lim_len_le hb.lb; have hVp := lt_pw_lim (nv b); obtain ⟨V, hV⟩ : ∃ V, V = nv b := ⟨_, rfl⟩; have hct := rtrim_c hb (by omega); rw [← hV] at h0 hlb hVp hct ⊢; have HCT := Lib.hid hct; clear hct hV; obtain ⟨ly, hly⟩ : ∃ l, l = (lim V).length := ⟨_, rfl⟩
 go_enter Tryz.func129, Tryz.ntmps129
 go_wp2_with fail
 refine HCT.out.mono ?_; rintro e w1 ⟨B1, d1, rfl, hY, hx1⟩
 go_wp2_with (at_make; refine wpList_makeu (.tmp 15) (.tmp 15) w.heap.size a.length hx1.size (by omega) rfl rfl rfl rfl rfl rfl ?_; intro w2 hown hx2)
 have hs1 := hx1.size; have hs2 := hx2.size
 obtain ⟨gq, hgq⟩ : ∃ g, g = w1.heap.size := ⟨_, rfl⟩; rw [← hgq] at hown ⊢
 have HGQ := Lib.hid hgq; have HLY := Lib.hid hly
 have hg1 : w.heap.size ≤ gq := by omega
 clear hgq hly
 go_loopw [8, 9, 10, 11] (fun rv iv _ _ wr => ∃ (i R : Nat) (out : List Nat) (A2 : Option Addr) (c2 : Nat), i ≤ a.length ∧ iv = .int .i64 ((i : Int) - 1) ∧ rv = .slice A2 (lim R).length c2 ∧ Nl wr (fun b => w.heap.size ≤ b ∧ b ≠ gq) A2 c2 (lim R) ∧ R < V ∧
   Nown wr w.heap.size (.slice (some ⟨gq, 0, none⟩) a.length a.length) out ∧ Hid (∀ t, t < i → nth out t = 0) ∧ Hid (nv (a.drop i) = V * nv (out.drop i) + R) ∧ Ext w wr ∧ Nl wr (fun b => w.heap.size ≤ b ∧ b ≠ gq) B1 d1 (lim V)) (fun _ iv _ _ _ => (intOf iv + 1).toNat)
 case atStart => exact ⟨a.length, 0, _, none, 0, Nat.le_refl _, rfl, rfl, Sl.nil0 _ _ _, h0, hown, Lib.hid fun t _ => nth_rep _ _, Lib.hid (by simp [nv]), hx1.trans hx2, (hY.widen fun b hb hl => ⟨hb, by have := HGQ.out; omega⟩).ext hx2⟩
 case round =>
  obtain ⟨i, R, out, A2, c2, hi, rfl, rfl, hr, hR, ho, hz, hinv, hx, hY2⟩ := hrel; have hlen := ho.len
  have hlen1 : out.length ≤ a.length := by omega
  have hlen2 : a.length ≤ out.length := by omega
  clear hlen; have hsz := hx.size
  rcases Nat.eq_zero_or_pos i with hi0 | hi0
  ·subst hi0; have e1 := hinv.out; rw [List.drop_zero, List.drop_zero] at e1
   have e2 : nv out = nv a / V := by rw [e1, Nat.mul_comm, Nat.add_comm, Nat.add_mul_div_right _ _ h0, Nat.div_eq_of_lt hR, Nat.zero_add]
   have e3 : R = nv a % V := by rw [e1, Nat.mul_add_mod, Nat.mod_eq_of_lt hR]
   have hc := fun (U : World) (hU : Ext wr U) => rtrim_c (ho.nl'.2.ext hU) (by omega)
   rw [e2, show out.length = a.length by omega] at hc; have hlr : (lim R).length ≤ (lim V).length := lim_pw (Nat.lt_trans hR hVp)
   have hc2 := fun (U : World) (hU : Ext wr U) => rtrim_c (hr.ext hU) (by omega)
   rw [nv_lim] at hc2
   have HC := Lib.hid hc; have HC2 := Lib.hid hc2; have E3 := Lib.hid e3
   clear hc hc2 e1 e2 e3
   go_wp2_with fail
   refine (HC.out _ xt).mono ?_; rintro e w3 ⟨A3, c3, rfl, h4, hx3⟩
   go_wp2_with fail
   refine (HC2.out _ xt).mono ?_; rintro e w4 ⟨A4, c4, rfl, h5, hx4⟩; have hs3 := hx3.size
   go_wp2
   (refine bodyPost_ret (v := ?_) ?_ rfl ?_; rotate_left; (simp only [results, Tryz.results129]; go_simp; (first | done | with_reducible rfl)))
   rw [← E3.out]; exact ⟨_, _, _, _, rfl, (h4.ext hx4).widen fun b hb _ => by omega, h5.widen fun b hb _ => by omega, hx.trans (hx3.trans hx4)⟩
  ·obtain ⟨j, rfl⟩ : ∃ j, i = j + 1 := ⟨i - 1, by omega⟩
   have ej : (((j + 1 : Nat) : Int) - 1) = (j : Int) := by omega
   rw [ej]; clear ej
   have i2 : (j : Int) < (a.length : Int) := by omega
   have hx9 := (hla.nth j); obtain ⟨W, rfl⟩ : ∃ V, V = wr := ⟨_, rfl⟩
   go_wp2_with fail
   go_loopw [8, 10, 11] (fun rv kv _ wk => ∃ (K R' q : Nat) (out' : List Nat) (A2 : Option Addr) (c2 : Nat), K ≤ 32 ∧ kv = .int .i64 ((K : Int) - 1) ∧ rv = .slice A2 (lim R').length c2 ∧ Nl wk (fun b => w.heap.size ≤ b ∧ b ≠ gq) A2 c2 (lim R') ∧ R' < V ∧
    Nown wk w.heap.size (.slice (some ⟨gq, 0, none⟩) a.length a.length) out' ∧ Hid (∀ t, t < j → nth out' t = 0) ∧ Hid (nth out' j = q * 2 ^ K) ∧ Hid (out'.drop (j + 1) = out.drop (j + 1)) ∧ Hid (R * 2 ^ (32 - K) + nth a j / 2 ^ K = V * q + R') ∧ Ext w wk ∧ Nl wk (fun b => w.heap.size ≤ b ∧ b ≠ gq) B1 d1 (lim V)) (fun _ kv _ _ => (intOf kv + 1).toNat)
   case atStart => exact ⟨32, R, 0, out, A2, c2, Nat.le_refl _, rfl, rfl, hr, hR, ho, Lib.hid fun t ht => hz.out t (by omega), Lib.hid (by rw [Nat.zero_mul]; exact hz.out j (by omega)), Lib.hid rfl, Lib.hid (by rw [Nat.div_eq_of_lt (by omega)]; simp), hx, hY2⟩
   case round =>
    clear ho hr hx hY2; obtain ⟨K, R', q, out', A3, c3, hK, rfl, rfl, hr, hR', ho, hz', hn, hd, hb, hx, hY2⟩ := hrel; have hlen := ho.len
    have hlen3 : out'.length ≤ a.length := by omega
    have hlen4 : a.length ≤ out'.length := by omega
    clear hlen; have hszw := hx.size
    rcases Nat.eq_zero_or_pos K with hK0 | hK0
    ·subst hK0; have e1 := hb.out; rw [Nat.pow_zero, Nat.div_one, Nat.sub_zero] at e1; have e2 := hn.out; rw [Nat.pow_zero, Nat.mul_one] at e2; have e3 := Lib.hid (rdm_limb (y := q) hinv.out (by omega) (by omega) hd.out e2 (by rw [← e1])); clear e1 e2
     go_wp2_with fail
     go_roundw
     case rel => exact ⟨j, R', out', A3, c3, by omega, by go_num, rfl, hr, hR', ho, hz', e3, hx, hY2⟩
     case measure => simp [intOf] <;> omega
    ·obtain ⟨k, rfl⟩ : ∃ k, K = k + 1 := ⟨K - 1, by omega⟩
     have ek : (((k + 1 : Nat) : Int) - 1) = (k : Int) := by omega
     rw [ek]; clear ek; obtain ⟨b1, o1, rfl, _, hc1, hb1⟩ := (ha.ext hx).at_ (k := j) (by omega); have c1' := hc1 j (by omega); clear hc1; have hlr : (lim R').length ≤ (lim V).length := lim_pw (Nat.lt_trans hR' hVp); have hstep := rdm_bit hb.out (by omega); have hbit : nth a j / 2 ^ k % 2 < 2 := Nat.mod_lt _ (by omega); obtain ⟨bit, hbt⟩ : ∃ x, x = nth a j / 2 ^ k % 2 := ⟨_, rfl⟩; rw [← hbt] at hstep hbit
     have HBT := Lib.hid hbt; have HST := Lib.hid hstep
     have htm := fun (U : World) (hU : Ext wr U) => rtimes_c (hr.ext hU) 2 bit (by omega) (by omega) (by omega)
     rw [nv_lim] at htm; have HTM := Lib.hid htm; clear htm hbt hstep
     go_wp2_with fail
     have hcb : ((nth a j : Int) / 2 ^ k).tmod 2 = (bit : Int) := by
      have e0 : (nth a j : Int) / 2 ^ k = ((nth a j / 2 ^ k : Nat) : Int) := by rw [Int.natCast_ediv, Int.natCast_pow]; rfl
      rw [e0, HBT.out]; generalize nth a j / 2 ^ k = Q; rw [Int.tmod_eq_emod_of_nonneg (Int.natCast_nonneg _)]
      omega
     rw [hcb]; clear hcb; refine (HTM.out _ xt).mono ?_; rintro e w3 ⟨A4, c4, rfl, h4, hx3⟩
     have hle4 : (lim (R' * 2 + bit)).length ≤ (lim V).length + 1 := by
      apply lim_pw
      rw [pw_succ]
      omega
     have hY3 := hY2.ext hx3; have hcm := rcmp_c h4 hY3 (by omega) (by omega); rw [nv_lim, nv_lim] at hcm; have hs3 := hx3.size; have hgl : gq < wr.heap.size := (ho.row gq rfl).2
     rcases Nat.lt_or_ge (R' * 2 + bit) V with hlt | hge
     ·have hcv : cmpN (R' * 2 + bit) V = -1 := cmpN_lt hlt; rw [hcv] at hcm; have HCM := Lib.hid hcm; clear hcm hcv
      go_wp2_with fail
      refine HCM.out.mono ?_; rintro e w4 ⟨rfl, rfl⟩
      go_wp2_with fail
      go_roundw
      case rel => exact ⟨k, R' * 2 + bit, 2 * q, out', A4, c4, by omega, by go_num, rfl, h4.widen fun b hb _ => ⟨by omega, by omega⟩, hlt, ho.ext hx3, hz', Lib.hid (by rw [hn.out, Nat.pow_succ]; rw [Nat.mul_comm 2 q, Nat.mul_assoc, Nat.mul_comm 2]), hd, HST, hx.trans hx3, hY3⟩
      case measure => simp [intOf] <;> omega
     ·have hcv : ¬ cmpN (R' * 2 + bit) V < 0 := by unfold cmpN; rw [if_neg (by omega)]; split <;> omega
      obtain ⟨cv, hcv2⟩ : ∃ n, n = cmpN (R' * 2 + bit) V := ⟨_, rfl⟩; rw [← hcv2] at hcm hcv
      have hsb := fun (U : World) (hU : Ext w3 U) => rsub_c (h4.ext hU) (hY3.ext hU) (by rw [nv_lim, nv_lim]; exact hge) (by omega)
      rw [nv_lim, nv_lim] at hsb
      have HCM := Lib.hid hcm; have HSB := Lib.hid hsb
      have hcd : decide (cv ≥ 0) = true := decide_eq_true (by omega); clear hcm hcv2 hsb
      go_wp2_with fail
      refine HCM.out.mono ?_; rintro e w4 ⟨rfl, rfl⟩
      go_wp2_with fail
      refine (HSB.out _ xt).mono ?_; rintro e w5 ⟨A5, c5, rfl, h5, hx5⟩; have hs5 := hx5.size; have ho5 := ho.ext (hx3.trans hx5); obtain ⟨hco, hfo⟩ := ho5.cell j (by omega); have hq2 := rdm_small HST.out (by omega) (hla.nth j) hR
      have hpk : 2 ^ (32 - k) * 2 ^ k = 4294967296 := by rw [← Nat.pow_add, show 32 - k + k = 32 by omega]
      have hqk : q * 2 ^ (k + 1) + 2 ^ k = (2 * q + 1) * 2 ^ k := by rw [Nat.pow_succ, Nat.add_mul, Nat.one_mul, Nat.mul_comm 2 q, Nat.mul_assoc, Nat.mul_comm 2]
      have hql : 2 * q + 1 < 2 ^ (32 - k) := by
       have : 2 ^ (32 - k) = 2 * 2 ^ (31 - k) := by rw [show 32 - k = 31 - k + 1 by omega, Nat.pow_succ, Nat.mul_comm]
       omega
      have hqb : (2 * q + 1) * 2 ^ k < 4294967296 := by rw [← hpk]; exact Nat.mul_lt_mul_of_pos_right hql (Nat.pos_of_ne_zero (by simp))
      obtain ⟨y, hy⟩ : ∃ y, y = nth out' j := ⟨_, rfl⟩; rw [← hy] at hco
      have hys : y + 2 ^ k = (2 * q + 1) * 2 ^ k := by rw [hy, hn.out, hqk]
      have HYS := Lib.hid hys; have HY := Lib.hid hy
      have hyl : y + 2 ^ k < 4294967296 := by omega
      have hkl : k < 32 := by omega
      clear hys hy hqk hpk hqb
      go_wp2_with fail
      go_region
      have hcast : ((y : Int) + 2 ^ k) % 4294967296 = (((2 * q + 1) * 2 ^ k : Nat) : Int) := by
       have e0 : (y : Int) + 2 ^ k = ((y + 2 ^ k : Nat) : Int) := by rw [Int.natCast_add, Int.natCast_pow]; rfl
       rw [← HYS.out, e0]; exact Int.emod_eq_of_lt (Int.natCast_nonneg _) (by generalize 2 ^ k = P at hyl ⊢; omega)
      rw [hcast]; clear hcast; have hn2 := (ho5.set j (x := (2 * q + 1) * 2 ^ k) (y := (((2 * q + 1) * 2 ^ k : Nat) : Int)) rfl (by rw [← HYS.out]; exact hyl))
      go_wp2_with fail
      go_roundw
      case rel =>
       refine ⟨k, R' * 2 + bit - V, 2 * q + 1, out'.set j ((2 * q + 1) * 2 ^ k), A5, c5, by omega, by go_num, rfl, (h5.widen fun b hb _ => ⟨by omega, by omega⟩).keep ?_, by omega, hn2, Lib.hid fun t ht => ?_, Lib.hid (nth_set_eq (by omega)), Lib.hid ?_, Lib.hid ?_, ?_, (hY3.ext hx5).keep ?_⟩
       ·exact ((Kp.refl w5).setCell (by simp) _).drew
       ·rw [nth_set_ne (by omega)]; exact hz'.out t ht
       ·rw [List.drop_set_of_lt (by omega)]; exact hd.out
       ·rw [HST.out, Nat.mul_add, Nat.mul_one]; omega
       ·exact ((hx.trans (hx3.trans hx5)).setCell (by simp only; omega) _).drew
       ·exact ((Kp.refl w5).setCell (by simp) _).drew
      case measure => simp [intOf] <;> omega

end Go.Proofs.YtpkfjbljhneenaaGreat
