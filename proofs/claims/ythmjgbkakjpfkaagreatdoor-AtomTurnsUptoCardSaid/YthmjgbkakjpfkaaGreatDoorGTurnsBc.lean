/- A region that draws its order, walked once for all orders: of each operation is told what it leaves in its slot; the last ones wait for all others. No conditions. A region that draws its order, walked by a relation of what is done so far, the slots, and the world; the last few operations late. No conditions. riddleref05.Valid, Const, Var. No conditions. -/
import Derived.Test.YthmjgbkakjpfkaaGreatDoorGTurnsAh
import Derived.Test.YthmjgbkakjpfkaaGreatDoorGTurnsAd
namespace Go.Proofs.YthmjgbkakjpfkaaGreatDoor
open Go.RowKit

def fillA (a : Act) : List Nat → (Nat → Value) → Act
  | [], _ => a
  | t :: ds, f => (fillA a ds f).put (some t) (f t)
def updF (f : Nat → Value) (t : Nat) (v : Value) : Nat → Value := fun k => if k = t then v else f k

theorem fillA_defers (a : Act) (f : Nat → Value) : ∀ ds : List Nat, (fillA a ds f).defers = a.defers
  | [] => rfl
  | _ :: ds => fillA_defers a f ds
theorem fillA_size (a : Act) (f : Nat → Value) : ∀ ds : List Nat, (fillA a ds f).tmps.size = a.tmps.size
  | [] => rfl
  | t :: ds => by
    show ((fillA a ds f).tmps.setIfInBounds t (f t)).size = _
    rw [Array.size_setIfInBounds, fillA_size a f ds]
theorem fillA_get (a : Act) (f : Nat → Value) (k : Nat) : ∀ ds : List Nat, (fillA a ds f).tmps[k]? = if k ∈ ds ∧ k < a.tmps.size then some (f k) else a.tmps[k]?
  | [] => by simp [fillA]
  | t :: ds => by
    show ((fillA a ds f).tmps.setIfInBounds t (f t))[k]? = _
    rw [Array.getElem?_setIfInBounds, fillA_get a f k ds, fillA_size]
    by_cases e : t = k
    · subst e
      by_cases h : t < a.tmps.size
      · simp [h]
      · simp [h]
    · have e' : ¬ k = t := fun h => e h.symm
      simp [e, e']
theorem act_ext {a b : Act} (h1 : ∀ k : Nat, a.tmps[k]? = b.tmps[k]?) (h2 : a.defers = b.defers) : a = b := by
  obtain ⟨x, d⟩ := a; obtain ⟨y, e⟩ := b; simp only at h1 h2; subst h2
  congr 1
  exact Array.ext_getElem? h1
theorem fillA_put {a : Act} {f : Nat → Value} {ds : List Nat} {t : Nat} {v : Value} (ht : t ∈ ds) : (fillA a ds f).put (some t) v = fillA a ds (updF f t v) := by
  refine act_ext (fun k => ?_) ?_
  · show ((fillA a ds f).tmps.setIfInBounds t v)[k]? = _
    rw [Array.getElem?_setIfInBounds, fillA_get, fillA_get, fillA_size]
    by_cases e : t = k
    · subst e
      by_cases h : t < a.tmps.size
      · simp [h, ht, updF]
      · simp [h]
    · have e' : ¬ k = t := fun h => e h.symm
      simp [e, updF, e']
  · show (fillA a ds f).defers = _
    rw [fillA_defers, fillA_defers]
theorem fillA_self (a : Act) (ds : List Nat) : ∃ f, fillA a ds f = a := by
  refine ⟨fun k => a.tmps.getD k undef, act_ext (fun k => ?_) (fillA_defers _ _ _)⟩; rw [fillA_get]
  split
  · rename_i h
    rw [Array.getElem?_eq_getElem h.2]; simp [Array.getD, h.2]
  · rfl

section
variable {P : Program} {ops : Array Oper} {Q : Exit → Act → World → Prop} {md : Region.Mode}
def PhiDeps (Φ : Nat → Value → World → Prop) (f : Nat → Value) (w : World) : List (Nat × Nat) → Prop
  | [] => True
  | (j, t) :: r => Φ j (f t) w ∧ PhiDeps Φ f w r
def PhiSteps (P : Program) (ops : Array Oper) (Q : Exit → Act → World → Prop) (a : Act) (ds Al Pu : List Nat) (Φ : Nat → Value → World → Prop) (w0 : World) : List (Nat × Nat × List (Nat × Nat)) → Prop
  | [] => True
  | (i, t, js) :: r => ((Pu.contains i = false → ∀ f w, Ext w0 w → PhiDeps Φ f w js → wpOp P ops Q i (fun a' w' => ∃ v, a' = (fillA a ds f).put (some t) v ∧ Ext w w' ∧ Φ i v w' ∧ (Al.contains i = true → ∀ j u, Al.contains j = true → Φ j u w → u ≠ v)) (fillA a ds f) w) ∧
      (Pu.contains i = true → ∀ f w, Ext w0 w → PhiDeps Φ f w js → ∃ o v, ops[i]? = some o ∧ o.dst = some t ∧ Yields P ops o v (fillA a ds f) ∧ Φ i v w)) ∧ PhiSteps P ops Q a ds Al Pu Φ w0 r
def PhiAll (Φ : Nat → Value → World → Prop) (f : Nat → Value) (w : World) : List (Nat × Nat × List (Nat × Nat)) → Prop
  | [] => True
  | (i, t, _) :: r => Φ i (f t) w ∧ PhiAll Φ f w r
def PhiDist (Al : List Nat) (f : Nat → Value) (T : List (Nat × Nat × List (Nat × Nat))) : Prop := ∀ e ∈ T, ∀ e' ∈ T, Al.contains e.1 = true → Al.contains e'.1 = true → e.1 ≠ e'.1 → f e.2.1 ≠ f e'.2.1
def startArr (ops : Array Oper) (late : Nat → Bool) : Array Bool := (Array.range ops.size).map fun i => !late i
def waitsAllP (md : Region.Mode) (ops : Array Oper) (late : Nat → Bool) (Pu : List Nat) : Bool :=
  (List.range ops.size).all fun L => !late L || (List.range ops.size).all fun k => late k || Pu.contains k || reach md ops 6 L k
theorem waitsAllP_spec {late : Nat → Bool} {Pu : List Nat} (h : waitsAllP md ops late Pu = true) {listed : Array Bool} (hC : Cls md ops listed) {L : Nat} (hL : late L = true) (hr : L ∈ Region.ready md ops listed) {k : Nat} (hk : k < ops.size) (hne : late k = false) (hp : Pu.contains k = false) : listed.getD k false = true := by
  obtain ⟨_, o, ho, hall⟩ := mem_ready.1 hr; have hl : L < ops.size := (Array.getElem?_eq_some_iff.1 ho).1; simp only [waitsAllP, List.all_eq_true, List.mem_range, Bool.or_eq_true, Bool.not_eq_true'] at h
  rcases h L hl with h1 | h1
  · rw [hL] at h1; cases h1
  · rcases h1 k hk with (h2 | h2) | h2
    · rw [hne] at h2; cases h2
    · rw [hp] at h2; cases h2
    · exact reach_ready hC 6 L k hr h2
def freeAll (md : Region.Mode) (ops : Array Oper) (i : Nat) : Bool :=
  match ops[i]? with
  | none => false
  | some oi => (List.range ops.size).all fun j => j == i || direct md ops j i || direct md ops i j || match ops[j]? with
      | some oj => oi.apart ops oj
      | none => true
def phiOk (md : Region.Mode) (ops : Array Oper) (late : Nat → Bool) (Pu ls ds : List Nat) (T : List (Nat × Nat × List (Nat × Nat))) : Bool :=
  ((List.range ops.size).all fun i => late i || T.any fun e => e.1 == i) &&
  (T.all fun e => decide (e.1 < ops.size) && !late e.1 && ds.contains e.2.1 && (T.all fun e' => (e.2.1 == e'.2.1) == (e.1 == e'.1)) &&
    ((ops[e.1]?).map fun o => o.after.all fun x => !Region.binds md x || (decide (x.on < e.1) && !late x.on)).getD false &&
    e.2.2.all fun j => direct md ops e.1 j.1 && T.any fun e' => e'.1 == j.1 && e'.2.1 == j.2) &&
  lateOk md ops late ls (startArr ops late) && waitsAllP md ops late Pu && (Pu.all fun i => freeAll md ops i) && Region.noSelect ops

def cnt (p : Nat → Bool) : Nat → Nat
  | 0 => 0
  | n + 1 => cnt p n + (if p n then 1 else 0)
theorem cnt_congr {p q : Nat → Bool} : ∀ {n : Nat}, (∀ i, i < n → p i = q i) → cnt p n = cnt q n
  | 0, _ => rfl
  | n + 1, h => by
    unfold cnt; rw [cnt_congr (n := n) fun i hi => h i (by omega), h n (by omega)]
theorem cnt_drop {p q : Nat → Bool} {i : Nat} : ∀ {n : Nat}, i < n → p i = true → q i = false → (∀ j, j ≠ i → p j = q j) → cnt p n = cnt q n + 1
  | 0, h, _, _, _ => absurd h (Nat.not_lt_zero _)
  | n + 1, h, hp, hq, hj => by
    unfold cnt
    by_cases e : i = n
    · subst e; rw [cnt_congr (n := i) fun k hk => hj k (by omega), hp, hq]; simp
    · rw [cnt_drop (n := n) (by omega) hp hq hj, hj n (fun h => e h.symm)]
      omega
theorem cnt_pos {p : Nat → Bool} : ∀ {n : Nat}, 0 < cnt p n → ∃ i, i < n ∧ p i = true ∧ ∀ j, j < i → p j = false
  | 0, h => absurd h (Nat.lt_irrefl _)
  | n + 1, h => by
    rcases Nat.eq_zero_or_pos (cnt p n) with h0 | h0
    · unfold cnt at h; rw [h0] at h
      have hn : p n = true := by
        rcases hp : p n with _ | _
        · rw [hp] at h; simp at h
        · rfl
      refine ⟨n, by omega, hn, fun j hj => ?_⟩
      rcases hpj : p j with _ | _
      · rfl
      · exfalso
        have : ∀ {m : Nat}, j < m → 0 < cnt p m := by
          intro m
          induction m with
          | zero => intro h; omega
          | succ m ih =>
            intro h; unfold cnt
            by_cases e : j = m
            · subst e; rw [hpj]; simp
            · have := ih (by omega); omega
        have := this hj
        omega
    · obtain ⟨i, h1, h2, h3⟩ := cnt_pos h0; exact ⟨i, by omega, h2, h3⟩
theorem cnt_zero {p : Nat → Bool} : ∀ {n : Nat}, cnt p n = 0 → ∀ i, i < n → p i = false
  | 0, _, i, hi => absurd hi (Nat.not_lt_zero _)
  | n + 1, h, i, hi => by
    unfold cnt at h
    by_cases e : i = n
    · subst e
      rcases hp : p i with _ | _
      · rfl
      · rw [hp] at h; simp at h
    · exact cnt_zero (n := n) (by omega) i (by omega)

theorem phi_deps {Φ : Nat → Value → World → Prop} {f : Nat → Value} {w : World} : ∀ {js : List (Nat × Nat)}, (∀ j ∈ js, Φ j.1 (f j.2) w) → PhiDeps Φ f w js
  | [], _ => trivial
  | (j, t) :: r, h => ⟨h (j, t) (by simp), phi_deps fun x hx => h x (by simp [hx])⟩
theorem phi_all {Φ : Nat → Value → World → Prop} {f : Nat → Value} {w : World} : ∀ {T : List (Nat × Nat × List (Nat × Nat))}, (∀ e ∈ T, Φ e.1 (f e.2.1) w) → PhiAll Φ f w T
  | [], _ => trivial
  | (j, t, js) :: r, h => ⟨h (j, t, js) (by simp), phi_all fun x hx => h x (by simp [hx])⟩
theorem phi_step {Φ : Nat → Value → World → Prop} {a : Act} {ds Al Pu : List Nat} {w0 : World} : ∀ {T : List (Nat × Nat × List (Nat × Nat))}, PhiSteps P ops Q a ds Al Pu Φ w0 T → ∀ e ∈ T,
    (Pu.contains e.1 = false → ∀ f w, Ext w0 w → PhiDeps Φ f w e.2.2 → wpOp P ops Q e.1 (fun a' w' => ∃ v, a' = (fillA a ds f).put (some e.2.1) v ∧ Ext w w' ∧ Φ e.1 v w' ∧ (Al.contains e.1 = true → ∀ j u, Al.contains j = true → Φ j u w → u ≠ v)) (fillA a ds f) w) ∧
      (Pu.contains e.1 = true → ∀ f w, Ext w0 w → PhiDeps Φ f w e.2.2 → ∃ o v, ops[e.1]? = some o ∧ o.dst = some e.2.1 ∧ Yields P ops o v (fillA a ds f) ∧ Φ e.1 v w)
  | [], _, e, he => absurd he (by simp)
  | (i, t, js) :: r, h, e, he => by
    rcases List.mem_cons.1 he with rfl | he
    · exact h.1
    · exact phi_step h.2 e he

theorem phi_sound {late : Nat → Bool} {ls ds Al Pu : List Nat} {T : List (Nat × Nat × List (Nat × Nat))} {Φ : Nat → Value → World → Prop} {a : Act} {w0 : World} (hok : phiOk md ops late Pu ls ds T = true) (hQ : ∀ c a d v w, Q (.panic c) (Act.put a d v) w → Q (.panic c) a w)
    (hAP : ∀ i, Pu.contains i = true → Al.contains i = false) (hst : ∀ i v w w', Ext w w' → Φ i v w → Φ i v w') (hstep : PhiSteps P ops Q a ds Al Pu Φ w0 T) (hend : ∀ f w, Ext w0 w → PhiAll Φ f w T → PhiDist Al f T → LateW P ops Q ls (fillA a ds f) w) :
    ∀ (m : Nat) (listed : Array Bool) (f : Nat → Value) (w : World), listed.size = ops.size → Cls md ops listed → (∀ i, i < ops.size → late i = true → listed.getD i true = false) →
      cnt (fun i => !late i && !listed.getD i true) ops.size = m → Ext w0 w → (∀ e ∈ T, listed.getD e.1 false = true → Φ e.1 (f e.2.1) w) → (∀ e ∈ T, ∀ e' ∈ T, listed.getD e.1 false = true → listed.getD e'.1 false = true → Al.contains e.1 = true → Al.contains e'.1 = true → e.1 ≠ e'.1 → f e.2.1 ≠ f e'.2.1) → wpAny P md ops Q (m + ls.length) listed (fillA a ds f) w := by
  simp only [phiOk, Bool.and_eq_true, List.all_eq_true, List.mem_range, Bool.or_eq_true] at hok; obtain ⟨⟨⟨⟨⟨hcov, hT⟩, hlo⟩, hwa⟩, hfr⟩, hns⟩ := hok
  have gdd : ∀ (listed : Array Bool) (i : Nat), i < listed.size → listed.getD i true = listed.getD i false := fun listed i hi => by simp [Array.getD, hi]
  intro m
  induction m with
  | zero =>
    intro listed f w hsz hC hlate hcnt hx hΦ hne; have hall := cnt_zero hcnt
    have hlist : ∀ i, i < ops.size → late i = false → listed.getD i false = true := fun i hi hl => by
      have := hall i hi; rw [hl] at this; simp only [Bool.not_false, Bool.true_and, Bool.not_eq_false'] at this; rw [← gdd listed i (by omega)]; exact this
    have heq : listed = startArr ops late := by
      apply Array.ext
      · simp [startArr, hsz]
      · intro i h1 h2
        have hi : i < ops.size := by omega
        simp only [startArr, Array.getElem_map, Array.getElem_range]
        rcases hl : late i with _ | _
        · have := hlist i hi hl
          simpa [Array.getD, h1] using this
        · have := hlate i hi hl
          simpa [Array.getD, h1] using this
    rw [Nat.zero_add]
    have hle : ∀ e ∈ T, listed.getD e.1 false = true := fun e he => by
      have h3 := hT e he; simp only [decide_eq_true_eq, Bool.not_eq_true'] at h3; exact hlist e.1 h3.1.1.1.1.1 h3.1.1.1.1.2
    refine wpAny_of_H (late := late) (S := fun _ => True) _ _ _ _ (late_sound ls listed _ _ (by rw [heq]; exact hlo) (hend f w hx (phi_all fun e he => hΦ e he (hle e he)) fun e he e' he' => hne e he e' he' (hle e he) (hle e' he')))
  | succ m ih =>
    intro listed f w hsz hC hlate hcnt hx hΦ hne
    have e1 : m + 1 + ls.length = (m + ls.length) + 1 := by omega
    rw [e1]; obtain ⟨i0, hi0, hp0, hmin⟩ := cnt_pos (p := fun i => !late i && !listed.getD i true) (n := ops.size) (by omega); simp only [Bool.and_eq_true, Bool.not_eq_true'] at hp0
    have hmem : i0 ∈ Region.ready md ops listed := by
      obtain ⟨e, he⟩ := List.any_eq_true.1 ((hcov i0 hi0).resolve_left (by rw [hp0.1]; simp)); have h3 := hT e he.1
      have e2 : e.1 = i0 := by simpa using he.2
      rw [e2] at h3; refine mem_ready.2 ⟨hp0.2, ops[i0], Array.getElem?_eq_getElem hi0, fun x hx' hb => ?_⟩; have h4 := h3.1.2; rw [Array.getElem?_eq_getElem hi0] at h4; simp only [Option.map_some, Option.getD_some, Array.all_eq_true_iff_forall_mem, Bool.or_eq_true, Bool.not_eq_true', Bool.and_eq_true, decide_eq_true_eq] at h4; have h5 := (h4 x hx').resolve_left (by rw [hb]; simp); have h6 := hmin x.on h5.1; rw [h5.2] at h6; simp only [Bool.not_false, Bool.true_and, Bool.not_eq_false'] at h6; rw [← gdd listed x.on (by omega)]; exact h6
    have hdep : ∀ i, i ∈ Region.ready md ops listed → ∀ e ∈ T, e.1 = i → PhiDeps Φ f w e.2.2 := fun i hi e he0 ei => phi_deps fun j hj => by
      have h3 := hT e he0; obtain ⟨h41, h42⟩ := h3.2 j hj; obtain ⟨e', he', h43⟩ := List.any_eq_true.1 h42; simp only [Bool.and_eq_true, beq_iff_eq] at h43; rw [← h43.1, ← h43.2]; refine hΦ e' he' ?_; rw [h43.1]; rw [ei] at h41; exact direct_spec h41 hi
    have upd_ok : ∀ i, i ∈ Region.ready md ops listed → late i = false → ∀ e ∈ T, e.1 = i → ∀ v w', Ext w w' → Φ i v w' → (Al.contains i = true → ∀ j u, Al.contains j = true → Φ j u w → u ≠ v) → wpAny P md ops Q (m + ls.length) (listed.setIfInBounds i true) (fillA a ds (updF f e.2.1 v)) w' := by
      intro i hi hnl e he0 ei v w' hx' hv hvn; obtain ⟨hiu, oi, hoi, hdeps⟩ := mem_ready.1 hi; have hil : i < ops.size := (Array.getElem?_eq_some_iff.1 hoi).1; have h3 := hT e he0; simp only [decide_eq_true_eq, Bool.not_eq_true'] at h3; obtain ⟨⟨⟨⟨⟨h31, h32⟩, h33⟩, h34⟩, h35⟩, h36⟩ := h3
      have hsame : ∀ e' ∈ T, e'.1 = i → e'.2.1 = e.2.1 := fun e' he' ek => by
        have h7 := h34 e' he'
        have h9 : (e.1 == e'.1) = true := by rw [ei, ek]; simp
        rw [h9] at h7
        have h10 : (e.2.1 == e'.2.1) = true := by simpa using h7
        exact (beq_iff_eq.1 h10).symm
      have hoth : ∀ e' ∈ T, e'.1 ≠ i → e'.2.1 ≠ e.2.1 := fun e' he' ek h => by
        have h7 := h34 e' he'
        have h9 : (e.1 == e'.1) = false := by rw [ei]; simpa using fun h => ek h.symm
        rw [h9] at h7
        have h10 : (e.2.1 == e'.2.1) = false := by simpa using h7
        rw [h] at h10; simp at h10
      have hold : ∀ e' : Nat × Nat × List (Nat × Nat), e'.1 ≠ i → (listed.setIfInBounds i true).getD e'.1 false = true → listed.getD e'.1 false = true := fun e' ek hl => by
        rw [Array.getD_eq_getD_getElem?] at hl ⊢; rw [Array.getElem?_setIfInBounds_ne (fun h => ek h.symm)] at hl; exact hl
      refine ih _ _ _ (by simp [hsz]) (hC.set hi) (fun k hk hl => ?_) ?_ (hx.trans hx') (fun e' he' hl => ?_) fun e1 he1 e2 he2 hl1 hl2 ha1 ha2 hne12 => ?_
      · have hne : i ≠ k := fun h => by rw [h, hl] at hnl; cases hnl
        rw [getD_set_ne true hne]; exact hlate k hk hl
      · have := cnt_drop (p := fun k => !late k && !listed.getD k true) (q := fun k => !late k && !(listed.setIfInBounds i true).getD k true) hil (by simp [hnl, hiu]) (by
          simp [hnl, Array.getD, show i < listed.size by omega]) (fun k hk => by
          rw [getD_set_ne true (fun h => hk h.symm)])
        omega
      · by_cases ek : e'.1 = i
        · rw [ek, hsame e' he' ek]; simp only [updF, if_true]; exact hv
        · simp only [updF, if_neg (hoth e' he' ek)]; exact hst _ _ _ _ hx' (hΦ e' he' (hold e' ek hl))
      · by_cases e1k : e1.1 = i
        · have e2k : e2.1 ≠ i := fun h => hne12 (e1k.trans h.symm)
          rw [hsame e1 he1 e1k]; simp only [updF, if_true, if_neg (hoth e2 he2 e2k)]; exact (hvn (by rw [← e1k]; exact ha1) e2.1 _ ha2 (hΦ e2 he2 (hold e2 e2k hl2))).symm
        · by_cases e2k : e2.1 = i
          · rw [hsame e2 he2 e2k]; simp only [updF, if_true, if_neg (hoth e1 he1 e1k)]; exact hvn (by rw [← e2k]; exact ha2) e1.1 _ ha1 (hΦ e1 he1 (hold e1 e1k hl1))
          · simp only [updF, if_neg (hoth e1 he1 e1k), if_neg (hoth e2 he2 e2k)]; exact hne e1 he1 e2 he2 (hold e1 e1k hl1) (hold e2 e2k hl2) ha1 ha2 hne12
    by_cases hq : ∃ i ∈ Region.ready md ops listed, Pu.contains i = true ∧ late i = false
    · obtain ⟨i, hi, hpi, hnl⟩ := hq; obtain ⟨hiu, oi, hoi, hdeps⟩ := mem_ready.1 hi; have hil : i < ops.size := (Array.getElem?_eq_some_iff.1 hoi).1; obtain ⟨e, he⟩ := List.any_eq_true.1 ((hcov i hil).resolve_left (by rw [hnl]; simp))
      have ei : e.1 = i := by simpa using he.2
      obtain ⟨o, v, ho, hod, hy, hv⟩ := (phi_step hstep e he.1).2 (by rw [ei]; exact hpi) f w hx (hdep i hi e he.1 ei); rw [ei, hoi] at ho; obtain rfl := Option.some.inj ho; rw [ei] at hv; have h3 := hT e he.1; have hfree := hfr i (by simpa using hpi); refine wpAny_first hoi (Region.noSelect_spec hns) (fun c a w => hQ c a oi.dst v w) (m + ls.length) listed _ w (fun j oj hoj hji hun hno => ?_) hi hy ?_
      · simp only [freeAll, hoi, List.all_eq_true, List.mem_range, Bool.or_eq_true, beq_iff_eq] at hfree
        rcases hfree j (Array.getElem?_eq_some_iff.1 hoj).1 with ((h | h) | h) | h
        · exact absurd h hji
        · simp only [direct, hoj, Option.map_some, Option.getD_some, Array.any_eq_true', Bool.and_eq_true, beq_iff_eq] at h; obtain ⟨x, hx1, hx2, hx3⟩ := h; exact absurd hx3 (hno x hx1 hx2)
        · have h5 := direct_spec h hi; rw [gdd listed j (by have := (Array.getElem?_eq_some_iff.1 hoj).1; omega)] at hun; rw [h5] at hun
          cases hun
        · rw [hoj] at h; exact h
      · rw [hod, fillA_put (by simpa using h3.1.1.1.2)]; exact upd_ok i hi hnl e he.1 ei v w (Ext.refl w) hv (fun h => by rw [hAP i hpi] at h; cases h)
    have hno : ∀ i ∈ Region.ready md ops listed, late i = false → Pu.contains i = false := fun i hi hl => by
      rcases hp : Pu.contains i with _ | _
      · rfl
      · exact absurd ⟨i, hi, hp, hl⟩ hq
    refine ⟨fun hr => ?_, fun i hi => ?_⟩
    · exfalso
      rw [hr] at hmem
      cases hmem
    · obtain ⟨hiu, oi, hoi, hdeps⟩ := mem_ready.1 hi; have hil : i < ops.size := (Array.getElem?_eq_some_iff.1 hoi).1
      have hnl : late i = false := by
        rcases hl : late i with _ | _
        · rfl
        · have := waitsAllP_spec hwa hC hl hi hi0 hp0.1 (hno i0 hmem hp0.1); rw [gdd listed i0 (by omega)] at hp0; rw [this] at hp0; exact absurd hp0.2 (by simp)
      obtain ⟨e, he⟩ := List.any_eq_true.1 ((hcov i hil).resolve_left (by rw [hnl]; simp))
      have ei : e.1 = i := by simpa using he.2
      have h3 := hT e he.1; have hs := (phi_step hstep e he.1).1 (by rw [ei]; exact hno i hi hnl) f w hx (hdep i hi e he.1 ei); rw [ei] at hs; refine wpOp_mono (fun a' w' h' => ?_) hs; obtain ⟨v, rfl, hx', hv, hvn⟩ := h'; rw [fillA_put (by simpa using h3.1.1.1.2)]; exact upd_ok i hi hnl e he.1 ei v w' hx' hv hvn

theorem wp_region_free0 {id : Nat} {a : Act} {w : World} (T : List (Nat × Nat × List (Nat × Nat))) (ls ds Al Pu : List Nat) (Φ : Nat → Value → World → Prop) (hm : P.follows .mixedOrders = true)
    (hok : (phiOk .any ops (fun i => ls.contains i) Pu ls ds T && Pu.all (fun i => !Al.contains i)) = true) (hQ : ∀ c a d v w, Q (.panic c) (Act.put a d v) w → Q (.panic c) a w) (hlen : (T.length + ls.length == ops.size) = true) (hcn : (cnt (fun i => !ls.contains i) ops.size == T.length) = true)
    (hst : ∀ i v w w', Ext w w' → Φ i v w → Φ i v w') (hstep : PhiSteps P ops Q a ds Al Pu Φ w.drew T) (hend : ∀ f w', Ext w.drew w' → PhiAll Φ f w' T → PhiDist Al f T → LateW P ops Q ls (fillA a ds f) w') : (Code.region id ops true).wp P Q a w := by
  refine wp_region_any hm ?_; obtain ⟨f, hf⟩ := fillA_self a ds
  have h0 : ∀ k, (Array.replicate ops.size false).getD k false = false := fun k => by
    by_cases h : k < ops.size <;> simp [Array.getD, h]
  have h1 : ∀ k, k < ops.size → (Array.replicate ops.size false).getD k true = false := fun k h => by simp [Array.getD, h]
  simp only [Bool.and_eq_true] at hok
  have hAP : ∀ i, Pu.contains i = true → Al.contains i = false := fun i hi => by
    have := List.all_eq_true.1 hok.2 i (by simpa using hi)
    simpa using this
  have := phi_sound (md := .any) (Q := Q) (P := P) hok.1 hQ hAP hst hstep hend T.length (Array.replicate ops.size false) f w.drew (by simp) Cls.init (fun i hi _ => h1 i hi) (by
    rw [cnt_congr (q := fun i => !ls.contains i) fun i hi => by simp only [h1 i hi, Bool.not_false, Bool.and_true]]
    simpa using hcn) (Ext.refl _) (fun e _ h => by rw [h0] at h; cases h) (fun e _ _ _ h => by rw [h0] at h; cases h)
  rw [hf, (by simpa using hlen : T.length + ls.length = ops.size)] at this; exact this

def PhiT : Type := { φ : Value → World → Prop // ∀ v w w', Ext w w' → φ v w → φ v w' }
def phiAny : PhiT := ⟨fun _ _ => True, fun _ _ _ _ h => h⟩
def phiEq (x : Value) : PhiT := ⟨fun v _ => v = x, fun _ _ _ _ h => h⟩
def phiZ (X : Nat → Prop) (z : Z) : PhiT := ⟨fun v w => Zi w X v z, fun _ _ _ hx h => h.ext hx⟩
def phiBox (b : Nat) (t : TypeId) (cs : Array Value) : PhiT := ⟨fun v w => ∃ g, v = .pointer (some ⟨g, 0, none⟩) ∧ b ≤ g ∧ Box w g t cs, fun _ _ _ hx ⟨g, h1, h2, h3⟩ => ⟨g, h1, h2, h3.ext hx⟩⟩
def phiAt : List PhiT → Nat → PhiT
  | [], _ => phiAny
  | x :: _, 0 => x
  | _ :: r, n + 1 => phiAt r n
theorem wp_region_free {id : Nat} {a : Act} {w : World} (T : List (Nat × Nat × List (Nat × Nat))) (ls ds Al Pu : List Nat) (L : List PhiT) (hm : P.follows .mixedOrders = true)
    (hok : (phiOk .any ops (fun i => ls.contains i) Pu ls ds T && Pu.all (fun i => !Al.contains i)) = true) (hQ : ∀ c a d v w, Q (.panic c) (Act.put a d v) w → Q (.panic c) a w) (hlen : (T.length + ls.length == ops.size) = true) (hcn : (cnt (fun i => !ls.contains i) ops.size == T.length) = true)
    (hstep : PhiSteps P ops Q a ds Al Pu (fun i v w => (phiAt L i).1 v w) w.drew T) (hend : ∀ f w', Ext w.drew w' → PhiAll (fun i v w => (phiAt L i).1 v w) f w' T → PhiDist Al f T → LateW P ops Q ls (fillA a ds f) w') : (Code.region id ops true).wp P Q a w :=
  wp_region_free0 T ls ds Al Pu (fun i v w => (phiAt L i).1 v w) hm hok hQ hlen hcn (fun i v w w' hx h => (phiAt L i).2 v w w' hx h) hstep hend

theorem ps_nil {a : Act} {ds Al Pu : List Nat} {Φ : Nat → Value → World → Prop} {w0 : World} : PhiSteps P ops Q a ds Al Pu Φ w0 [] := trivial
theorem ps_take {a : Act} {ds Al Pu : List Nat} {Φ : Nat → Value → World → Prop} {w0 : World} {i t : Nat} {js : List (Nat × Nat)} {r : List (Nat × Nat × List (Nat × Nat))} {o : Oper} (ho : opAt ops.toList i = some o) (hg : o.guard = none) (hd : o.dst = some t) (hal : Al.contains i = false) (hpu : Pu.contains i = false)
    (h : ∀ f w, Ext w0 w → PhiDeps Φ f w js → ∃ v, (execOp (fillA a ds f).eval o).run P w = .ok (.value v) w ∧ Φ i v w) (hr : PhiSteps P ops Q a ds Al Pu Φ w0 r) : PhiSteps P ops Q a ds Al Pu Φ w0 ((i, t, js) :: r) := by
  refine ⟨⟨fun _ f w hx hdp => ?_, fun h => by rw [hpu] at h; cases h⟩, hr⟩; obtain ⟨v, h1, h2⟩ := h f w hx hdp; unfold wpOp; simp only [opAt_ops ho, Region.wanted, hg, if_true]; refine .inl ?_; unfold Oper.wp; simp only [h1]; exact ⟨v, by rw [hd], Ext.refl w, h2, fun h => by rw [hal] at h; cases h⟩
theorem ps_loud {a : Act} {ds Al Pu : List Nat} {Φ : Nat → Value → World → Prop} {w0 : World} {i t : Nat} {js : List (Nat × Nat)} {r : List (Nat × Nat × List (Nat × Nat))} {o : Oper} (ho : opAt ops.toList i = some o) (hg : o.guard = none) (hd : o.dst = some t) (hal : Al.contains i = false) (hpu : Pu.contains i = false)
    (h : ∀ f w, Ext w0 w → PhiDeps Φ f w js → ∀ K : Act → World → Prop, (∀ v w', Ext w w' → Φ i v w' → K ((fillA a ds f).put o.dst v) w') → o.wp P (fillA a ds f) w K Q) (hr : PhiSteps P ops Q a ds Al Pu Φ w0 r) : PhiSteps P ops Q a ds Al Pu Φ w0 ((i, t, js) :: r) := by
  refine ⟨⟨fun _ f w hx hdp => ?_, fun h => by rw [hpu] at h; cases h⟩, hr⟩; unfold wpOp; simp only [opAt_ops ho, Region.wanted, hg, if_true]; exact .inl (h f w hx hdp _ fun v w' hx' hv => ⟨v, by rw [hd], hx', hv, fun h => by rw [hal] at h; cases h⟩)
theorem ps_eq {a : Act} {ds Al Pu : List Nat} {L : List PhiT} {w0 : World} {i t : Nat} {js : List (Nat × Nat)} {r : List (Nat × Nat × List (Nat × Nat))} {o : Oper} {x : Value} (ho : opAt ops.toList i = some o) (hg : o.guard = none) (hd : o.dst = some t) (hal : Al.contains i = false) (hpu : Pu.contains i = false) (hL : phiAt L i = phiEq x)
    (h : ∀ f w, Ext w0 w → PhiDeps (fun i v w => (phiAt L i).1 v w) f w js → (execOp (fillA a ds f).eval o).run P w = .ok (.value x) w) (hr : PhiSteps P ops Q a ds Al Pu (fun i v w => (phiAt L i).1 v w) w0 r) : PhiSteps P ops Q a ds Al Pu (fun i v w => (phiAt L i).1 v w) w0 ((i, t, js) :: r) :=
  ps_take ho hg hd hal hpu (fun f w hx hdp => ⟨x, h f w hx hdp, by rw [hL]; rfl⟩) hr
def AllBox (L : List PhiT) : List Nat → Prop
  | [] => True
  | j :: r => (∃ b ty cs, phiAt L j = phiBox b ty cs) ∧ AllBox L r
theorem ab_nil {L : List PhiT} : AllBox L [] := trivial
theorem ab_cons {L : List PhiT} {j : Nat} {r : List Nat} {b : Nat} {ty : TypeId} {cs : Array Value} (h : phiAt L j = phiBox b ty cs) (hr : AllBox L r) : AllBox L (j :: r) := ⟨⟨b, ty, cs, h⟩, hr⟩
theorem allBox_at {L : List PhiT} : ∀ {Al : List Nat}, AllBox L Al → ∀ {j : Nat}, j ∈ Al → ∃ b ty cs, phiAt L j = phiBox b ty cs
  | [], _, j, hj => absurd hj (by simp)
  | k :: r, h, j, hj => by
    rcases List.mem_cons.1 hj with rfl | hj
    · exact h.1
    · exact allBox_at h.2 hj
theorem ps_alloc {a : Act} {ds Al Pu : List Nat} {L : List PhiT} {w0 : World} {i t b : Nat} {ty : TypeId} {cs : Array Value} {js : List (Nat × Nat)} {r : List (Nat × Nat × List (Nat × Nat))} {o : Oper} (ho : opAt ops.toList i = some o) (hg : o.guard = none) (hd : o.dst = some t)
    (hpu : Pu.contains i = false) (hL : phiAt L i = phiBox b ty cs) (hb : b ≤ w0.heap.size) (hall : AllBox L Al)
    (h : ∀ f w, (execOp (fillA a ds f).eval o).run P w = .ok (.value (.pointer (some ⟨w.heap.size, 0, none⟩))) (w.alloc (.cells cs ty))) (hr : PhiSteps P ops Q a ds Al Pu (fun i v w => (phiAt L i).1 v w) w0 r) :
    PhiSteps P ops Q a ds Al Pu (fun i v w => (phiAt L i).1 v w) w0 ((i, t, js) :: r) := by
  refine ⟨⟨fun _ f w hx hdp => ?_, fun h => by rw [hpu] at h; cases h⟩, hr⟩; unfold wpOp; simp only [opAt_ops ho, Region.wanted, hg, if_true]; refine .inl ?_; unfold Oper.wp; simp only [h f w]; refine ⟨_, by rw [hd], (Ext.refl w).alloc _, ?_, fun _ j u hj hu e => ?_⟩
  · rw [hL]; exact ⟨w.heap.size, rfl, by have := hx.size; omega, Box.new _ _ _⟩
  · obtain ⟨b', ty', cs', hj'⟩ := allBox_at hall (by simpa using hj); rw [hj'] at hu; obtain ⟨g, rfl, _, hbx⟩ := hu; have := hbx.lt
    injection e with e
    injection e with e
    injection e with e
    omega
end

end Go.Proofs.YthmjgbkakjpfkaaGreatDoor

namespace Go.Proofs.YthmjgbkakjpfkaaGreatDoor
open Go.RowKit

section
variable {P : Program} {ops : Array Oper} {Q : Exit → Act → World → Prop} {md : Region.Mode}
def setL (L : Nat → Bool) (i : Nat) : Nat → Bool := fun k => if k = i then true else L k
def InvSteps (P : Program) (ops : Array Oper) (Q : Exit → Act → World → Prop) (a : Act) (ds : List Nat) (I : (Nat → Bool) → (Nat → Value) → World → Prop) : List (Nat × Nat × List (Nat × Nat)) → Prop
  | [] => True
  | (i, t, js) :: r => (∀ (L : Nat → Bool) f w, I L f w → L i = false → (∀ j ∈ js, L j.1 = true) → wpOp P ops Q i (fun a' w' => ∃ v, a' = (fillA a ds f).put (some t) v ∧ I (setL L i) (updF f t v) w') (fillA a ds f) w) ∧ InvSteps P ops Q a ds I r
theorem inv_step {a : Act} {ds : List Nat} {I : (Nat → Bool) → (Nat → Value) → World → Prop} : ∀ {T : List (Nat × Nat × List (Nat × Nat))}, InvSteps P ops Q a ds I T → ∀ e ∈ T,
    ∀ (L : Nat → Bool) f w, I L f w → L e.1 = false → (∀ j ∈ e.2.2, L j.1 = true) → wpOp P ops Q e.1 (fun a' w' => ∃ v, a' = (fillA a ds f).put (some e.2.1) v ∧ I (setL L e.1) (updF f e.2.1 v) w') (fillA a ds f) w
  | [], _, e, he => absurd he (by simp)
  | (i, t, js) :: r, h, e, he => by
    rcases List.mem_cons.1 he with rfl | he
    · exact h.1
    · exact inv_step h.2 e he
theorem inv_sound {late : Nat → Bool} {ls ds : List Nat} {T : List (Nat × Nat × List (Nat × Nat))} {I : (Nat → Bool) → (Nat → Value) → World → Prop} {a : Act} (hok : phiOk md ops late [] ls ds T = true)
    (hstep : InvSteps P ops Q a ds I T) (hend : ∀ L f w, (∀ e ∈ T, L e.1 = true) → I L f w → LateW P ops Q ls (fillA a ds f) w) :
    ∀ (m : Nat) (listed : Array Bool) (f : Nat → Value) (w : World), listed.size = ops.size → Cls md ops listed → (∀ i, i < ops.size → late i = true → listed.getD i true = false) →
      cnt (fun i => !late i && !listed.getD i true) ops.size = m → I (fun k => listed.getD k false) f w → wpAny P md ops Q (m + ls.length) listed (fillA a ds f) w := by
  simp only [phiOk, Bool.and_eq_true, List.all_eq_true, List.mem_range, Bool.or_eq_true] at hok; obtain ⟨⟨⟨⟨⟨hcov, hT⟩, hlo⟩, hwa⟩, -⟩, hns⟩ := hok
  have gdd : ∀ (listed : Array Bool) (i : Nat), i < listed.size → listed.getD i true = listed.getD i false := fun listed i hi => by simp [Array.getD, hi]
  intro m
  induction m with
  | zero =>
    intro listed f w hsz hC hlate hcnt hI; have hall := cnt_zero hcnt
    have hlist : ∀ i, i < ops.size → late i = false → listed.getD i false = true := fun i hi hl => by
      have := hall i hi; rw [hl] at this; simp only [Bool.not_false, Bool.true_and, Bool.not_eq_false'] at this; rw [← gdd listed i (by omega)]; exact this
    have heq : listed = startArr ops late := by
      apply Array.ext
      · simp [startArr, hsz]
      · intro i h1 h2
        have hi : i < ops.size := by omega
        simp only [startArr, Array.getElem_map, Array.getElem_range]
        rcases hl : late i with _ | _
        · have := hlist i hi hl
          simpa [Array.getD, h1] using this
        · have := hlate i hi hl
          simpa [Array.getD, h1] using this
    rw [Nat.zero_add]
    have hle : ∀ e ∈ T, listed.getD e.1 false = true := fun e he => by
      have h3 := hT e he; simp only [decide_eq_true_eq, Bool.not_eq_true'] at h3; exact hlist e.1 h3.1.1.1.1.1 h3.1.1.1.1.2
    exact wpAny_of_H (late := late) (S := fun _ => True) _ _ _ _ (late_sound ls listed _ _ (by rw [heq]; exact hlo) (hend _ f w hle hI))
  | succ m ih =>
    intro listed f w hsz hC hlate hcnt hI
    have e1 : m + 1 + ls.length = (m + ls.length) + 1 := by omega
    rw [e1]; obtain ⟨i0, hi0, hp0, hmin⟩ := cnt_pos (p := fun i => !late i && !listed.getD i true) (n := ops.size) (by omega); simp only [Bool.and_eq_true, Bool.not_eq_true'] at hp0
    have hmem : i0 ∈ Region.ready md ops listed := by
      obtain ⟨e, he⟩ := List.any_eq_true.1 ((hcov i0 hi0).resolve_left (by rw [hp0.1]; simp)); have h3 := hT e he.1
      have e2 : e.1 = i0 := by simpa using he.2
      rw [e2] at h3; refine mem_ready.2 ⟨hp0.2, ops[i0], Array.getElem?_eq_getElem hi0, fun x hx' hb => ?_⟩; have h4 := h3.1.2; rw [Array.getElem?_eq_getElem hi0] at h4; simp only [Option.map_some, Option.getD_some, Array.all_eq_true_iff_forall_mem, Bool.or_eq_true, Bool.not_eq_true', Bool.and_eq_true, decide_eq_true_eq] at h4; have h5 := (h4 x hx').resolve_left (by rw [hb]; simp); have h6 := hmin x.on h5.1; rw [h5.2] at h6; simp only [Bool.not_false, Bool.true_and, Bool.not_eq_false'] at h6; rw [← gdd listed x.on (by omega)]; exact h6
    refine ⟨fun hr => ?_, fun i hi => ?_⟩
    · exfalso
      rw [hr] at hmem
      cases hmem
    · obtain ⟨hiu, oi, hoi, hdeps⟩ := mem_ready.1 hi; have hil : i < ops.size := (Array.getElem?_eq_some_iff.1 hoi).1
      have hnl : late i = false := by
        rcases hl : late i with _ | _
        · rfl
        · have := waitsAllP_spec hwa hC hl hi hi0 hp0.1 (by simp); rw [gdd listed i0 (by omega)] at hp0; rw [this] at hp0; exact absurd hp0.2 (by simp)
      obtain ⟨e, he⟩ := List.any_eq_true.1 ((hcov i hil).resolve_left (by rw [hnl]; simp))
      have ei : e.1 = i := by simpa using he.2
      have h3 := hT e he.1; simp only [decide_eq_true_eq, Bool.not_eq_true'] at h3
      have hs := inv_step hstep e he.1 (fun k => listed.getD k false) f w hI (by rw [ei, ← gdd listed i (by omega)]; exact hiu) (fun j hj => by
        obtain ⟨h41, -⟩ := h3.2 j hj; rw [ei] at h41
        exact direct_spec h41 hi)
      rw [ei] at hs; refine wpOp_mono (fun a' w' h' => ?_) hs; obtain ⟨v, rfl, hI'⟩ := h'; rw [fillA_put (by simpa using h3.1.1.1.2)]; refine ih _ _ _ (by simp [hsz]) (hC.set hi) (fun k hk hl => ?_) ?_ ?_
      · have hne : i ≠ k := fun h => by rw [h, hl] at hnl; cases hnl
        rw [getD_set_ne true hne]; exact hlate k hk hl
      · have := cnt_drop (p := fun k => !late k && !listed.getD k true) (q := fun k => !late k && !(listed.setIfInBounds i true).getD k true) hil (by simp [hnl, hiu]) (by
          simp [hnl, Array.getD, show i < listed.size by omega]) (fun k hk => by
          rw [getD_set_ne true (fun h => hk h.symm)])
        omega
      · have : (fun k => (listed.setIfInBounds i true).getD k false) = setL (fun k => listed.getD k false) i := by
          funext k
          unfold setL
          by_cases hk : k = i
          · subst hk; simp [Array.getD, show k < listed.size by omega]
          · rw [if_neg hk]
            show (listed.setIfInBounds i true).getD k false = listed.getD k false
            rw [getD_set_ne false (fun h => hk h.symm)]
        rw [this]; exact hI'

theorem wp_region_inv {id : Nat} {a : Act} {w : World} (T : List (Nat × Nat × List (Nat × Nat))) (ls ds : List Nat) (I : (Nat → Bool) → (Nat → Value) → World → Prop) (hm : P.follows .mixedOrders = true)
    (hok : phiOk .any ops (fun i => ls.contains i) [] ls ds T = true) (hlen : (T.length + ls.length == ops.size) = true) (hcn : (cnt (fun i => !ls.contains i) ops.size == T.length) = true)
    (h0 : ∀ f, I (fun _ => false) f w.drew) (hstep : InvSteps P ops Q a ds I T) (hend : ∀ L f w', (∀ e ∈ T, L e.1 = true) → I L f w' → LateW P ops Q ls (fillA a ds f) w') : (Code.region id ops true).wp P Q a w := by
  refine wp_region_any hm ?_; obtain ⟨f, hf⟩ := fillA_self a ds
  have h00 : (fun k => (Array.replicate ops.size false).getD k false) = fun _ => false := by
    funext k
    by_cases h : k < ops.size <;> simp [Array.getD, h]
  have h1 : ∀ k, k < ops.size → (Array.replicate ops.size false).getD k true = false := fun k h => by simp [Array.getD, h]
  have := inv_sound (md := .any) (Q := Q) (P := P) hok hstep hend T.length (Array.replicate ops.size false) f w.drew (by simp) Cls.init (fun i hi _ => h1 i hi) (by
    rw [cnt_congr (q := fun i => !ls.contains i) fun i hi => by simp only [h1 i hi, Bool.not_false, Bool.and_true]]
    simpa using hcn) (by rw [h00]; exact h0 f)
  rw [hf, (by simpa using hlen : T.length + ls.length = ops.size)] at this; exact this
theorem iv_nil {a : Act} {ds : List Nat} {I : (Nat → Bool) → (Nat → Value) → World → Prop} : InvSteps P ops Q a ds I [] := trivial
theorem iv_step {a : Act} {ds : List Nat} {I : (Nat → Bool) → (Nat → Value) → World → Prop} {i t : Nat} {js : List (Nat × Nat)} {r : List (Nat × Nat × List (Nat × Nat))} {o : Oper} (ho : opAt ops.toList i = some o) (hg : o.guard = none) (hd : o.dst = some t)
    (h : ∀ L f w, I L f w → L i = false → (∀ j ∈ js, L j.1 = true) → ∀ K : Act → World → Prop, (∀ v w', I (setL L i) (updF f t v) w' → K ((fillA a ds f).put o.dst v) w') → o.wp P (fillA a ds f) w K Q) (hr : InvSteps P ops Q a ds I r) : InvSteps P ops Q a ds I ((i, t, js) :: r) := by
  refine ⟨fun L f w hI hL hj => ?_, hr⟩; unfold wpOp; simp only [opAt_ops ho, Region.wanted, hg, if_true]; exact .inl (h L f w hI hL hj _ fun v w' hv => ⟨v, by rw [hd], hv⟩)
end

end Go.Proofs.YthmjgbkakjpfkaaGreatDoor

namespace Go.Proofs.YthmjgbkakjpfkaaGreatDoor
open Go.RowKit

set_option maxHeartbeats 1600000 in
theorem rvalid5_c {v : Value} {t : T} {w : World} {X : Nat → Prop} {N : Nat} (h : Tv w X v t) (hN : N ≤ 17179869184) (hs : t.sz N) :
    Calls Tryz.prog 18 #[v] w fun e w' => e = .returned (.bool t.valid) ∧ Ext w w' := by
  obtain ⟨A, c, B, d, rfl, h1, h2⟩ := h; obtain ⟨s1, s2, s3⟩ := hs
  have hm := h1.2.1; have hl := h1.1
  simp only [maxLen] at hm; obtain ⟨v, hv⟩ : ∃ v, v = t.valid := ⟨_, rfl⟩; rw [← hv]
  have Hv := Lib.hid hv; clear hv
  go_enter Tryz.func18, Tryz.ntmps18
  go_wp2_with fail
  refine (rvalid_c (z := t.k) ⟨_, _, rfl, h2.ext xt⟩ (by omega)).mono ?_; rintro e W ⟨rfl, hx0⟩
  (have hb0 := Box.ext (g := w.heap.size) bxt hx0; have hb0r := hb0.rules; have hb0l := hb0.lt)
  have hE : Ext w W := xt; clear hx0 hb0r
  go_wp2_with fail
  go_loopw [4] (fun iv wr => ∃ k : Nat, k ≤ t.ps.length ∧ iv = .int .i64 k ∧ Hid (validF none t.ps = validF (prv t.ps k) (t.ps.drop k)) ∧ Ext W wr) (fun iv _ => t.ps.length - (intOf iv).toNat)
  case atStart => exact ⟨0, Nat.zero_le _, rfl, Lib.hid rfl, xt⟩
  case round =>
    obtain ⟨k, hk, rfl, Hz, hx⟩ := hrel; have r0 := (hb0.ext hx).rules; have r0l := (hb0.ext hx).lt
    by_cases hlt : k < t.ps.length
    · obtain ⟨b, o, B', d', rfl, hX, hc0, hc1, hc2, hi, hN0⟩ := (h1.ext (hE.trans hx)).at_ hlt; have hb := World.block_lt_of_cell? _ _ hc0; have Hd := Lib.hid (drop_pth t.ps k hlt)
      have kl : (k : Int) < (t.ps.length : Int) := by omega
      have kw := w64n (n := k) (by omega); have hsz := s2 _ (pth_mem hlt)
      go_wp2_with fail
      refine (rvalid_c (z := (pth t.ps k).2) ⟨_, _, rfl, hN0.ext xt⟩ (by omega)).mono ?_; rintro e w1 ⟨rfl, hx1⟩; have hc0' := (hx1.cells.1 b (o + k * 3) hb).trans hc0; have hc1' := (hx1.cells.1 b (o + k * 3 + 1) hb).trans hc1; have hc2' := (hx1.cells.1 b (o + k * 3 + 2) hb).trans hc2; have hb1 := Nat.lt_of_lt_of_le hb hx1.size; have r1 := ((hb0.ext hx).ext hx1).rules; have r1l := ((hb0.ext hx).ext hx1).lt; clear r0 hc1 hc2
      go_wp2_with fail
      refine (rsign_c (z := (pth t.ps k).2) ⟨_, _, rfl, hN0.ext xt⟩ (by omega)).mono ?_; rintro e w2 ⟨rfl, hx2⟩; have hc0'' := (hx2.cells.1 b (o + k * 3) hb1).trans hc0'; have hb2 := Nat.lt_of_lt_of_le hb1 hx2.size; have r2 := (((hb0.ext hx).ext hx1).ext hx2).rules; have r2l := (((hb0.ext hx).ext hx1).ext hx2).lt; have hx3 : Ext W w2 := hx.trans (hx1.trans hx2); clear r1 hc0' hc1' hc2'
      rcases hok : (pth t.ps k).2.ok with _ | _
      · have Hok := Lib.hid hok
        go_wp2_with fail
        refine wp_region_seq 26 [(0, true), (1, true), (2, true), (3, true), (4, true), (5, true), (6, true), (7, true), (8, true), (9, true), (10, true), (11, true), (12, true), (13, true), (14, true), (15, true), (16, true), (17, true), (18, true), (19, true), (20, true), (21, true), (22, true), (23, true), (24, true), (25, true)] rfl (by kernel_rfl) (by intro _ _ d _ _ h; cases d <;> exact h) ?_
        (repeat (first | (refine sq_take (v := ?_) rfl rfl ?_ ?_; rotate_left; (intro w' hx'; have hc' := hx'.cells.1; (try simp only [wcd] at hc'); go_simp; (first | done | with_reducible rfl)); (try simp only [pt])) | (refine sq_skip rfl rfl ?_; (try simp only [pt])) | (refine sq_noloud rfl rfl ?_; (try simp only [pt])) | (refine sq_takeg (v := ?_) rfl rfl ?_ ?_; rotate_left; (intro w' hx'; have hc' := hx'.cells.1; (try simp only [wcd] at hc'); go_simp; (first | done | with_reducible rfl)); (try simp only [pt]))))
        refine sq_done ?_
        go_wp2_with fail
        go_ret
        refine ⟨ret_bool ?_, hE.trans hx3.drew⟩; rw [Hv.out, T.valid, Hz.out, Hd.out]; simp [validF, Hok.out]
      · by_cases hz0 : (pth t.ps k).2.v = 0
        · have e0 : (sgn (pth t.ps k).2.v == 0) = true := by rw [hz0]; rfl
          have HZ := Lib.hid hz0; clear hz0
          go_wp2_with fail
          refine wp_region_seq 26 [(0, true), (1, true), (2, true), (3, true), (4, true), (5, true), (6, true), (7, true), (8, true), (9, true), (10, true), (11, true), (12, true), (13, true), (14, true), (15, true), (16, true), (17, true), (18, true), (19, true), (20, true), (21, true), (22, true), (23, true), (24, true), (25, true)] rfl (by kernel_rfl) (by intro _ _ d _ _ h; cases d <;> exact h) ?_
          (repeat (first | (refine sq_take (v := ?_) rfl rfl ?_ ?_; rotate_left; (intro w' hx'; have hc' := hx'.cells.1; (try simp only [wcd] at hc'); go_simp; (first | done | with_reducible rfl)); (try simp only [pt])) | (refine sq_skip rfl rfl ?_; (try simp only [pt])) | (refine sq_noloud rfl rfl ?_; (try simp only [pt])) | (refine sq_takeg (v := ?_) rfl rfl ?_ ?_; rotate_left; (intro w' hx'; have hc' := hx'.cells.1; (try simp only [wcd] at hc'); go_simp; (first | done | with_reducible rfl)); (try simp only [pt]))))
          refine sq_done ?_
          go_wp2_with fail
          go_ret
          refine ⟨ret_bool ?_, hE.trans hx3.drew⟩; rw [Hv.out, T.valid, Hz.out, Hd.out]; simp [validF, prv, HZ.out]
        · have e0 : (sgn (pth t.ps k).2.v == 0) = false := by rw [beq_eq_false_iff_ne]; exact fun h => hz0 (sgn_zero.1 h)
          cases k with
          | zero =>
            simp only [Nat.zero_mul, Nat.add_zero] at hc0 hc0''
            go_wp2_with fail
            refine wp_region_seq 26 [(0, true), (1, true), (2, true), (3, true), (4, true), (5, true), (6, true), (7, true), (8, true), (9, true), (10, true), (11, true), (12, true), (13, true), (14, true), (15, true), (16, true), (17, true), (18, true), (19, true), (20, true), (21, true), (22, true), (23, true), (24, true), (25, true)] rfl (by kernel_rfl) (by intro _ _ d _ _ h; cases d <;> exact h) ?_
            (repeat (first | (refine sq_take (v := ?_) rfl rfl ?_ ?_; rotate_left; (intro w' hx'; have hc' := hx'.cells.1; (try simp only [wcd] at hc'); go_simp; (first | done | with_reducible rfl)); (try simp only [pt])) | (refine sq_skip rfl rfl ?_; (try simp only [pt])) | (refine sq_noloud rfl rfl ?_; (try simp only [pt])) | (refine sq_takeg (v := ?_) rfl rfl ?_ ?_; rotate_left; (intro w' hx'; have hc' := hx'.cells.1; (try simp only [wcd] at hc'); go_simp; (first | done | with_reducible rfl)); (try simp only [pt]))))
            refine sq_done ?_
            go_wp2_with fail
            go_roundw
            case rel =>
              refine ⟨0 + 1, by omega, by go_num, Lib.hid ?_, hx3.drew⟩; rw [Hz.out, Hd.out]; simp [validF, prv, hok, hz0]
            case measure => simp [intOf] <;> omega
          | succ j =>
            obtain ⟨b', o', B2, d2, hA, _, hp0, _, _, hpi, _⟩ := (h1.ext (hE.trans hx3)).at_ (k := j) (by omega)
            injection hA with hA
            injection hA with hA1 hA2
            subst hA1; subst hA2
            have hwj := w64n (n := j) (by omega)
            have hjl : j < t.ps.length := by omega
            have hji : (j : Int) < (t.ps.length : Int) := by omega
            have hj0 : (0 : Int) < (j : Int) + 1 := by omega
            have hj1 : (0 : Int) ≤ (j : Int) + 1 := by omega
            have hj2 : (j : Int) + 1 < (t.ps.length : Int) := by omega
            have hj3 : IntKind.i64.wrap ((j : Int) + 1) = (j : Int) + 1 := w64 ⟨by omega, by omega⟩
            have hj4 : (j : Int) + 1 - 1 = (j : Int) := by omega
            by_cases hlt2 : (pth t.ps j).1 < (pth t.ps (j + 1)).1
            · have hlt3 : ¬ (pth t.ps (j + 1)).1 ≤ (pth t.ps j).1 := by omega
              go_wp2_with fail
              refine wp_region_seq 26 [(0, true), (1, true), (2, true), (3, true), (4, true), (5, true), (6, true), (7, true), (8, true), (9, true), (10, true), (11, true), (12, true), (13, true), (14, true), (15, true), (16, true), (17, true), (18, true), (19, true), (20, true), (21, true), (22, true), (23, true), (24, true), (25, true)] rfl (by kernel_rfl) (by intro _ _ d _ _ h; cases d <;> exact h) ?_
              (repeat (first | (refine sq_take (v := ?_) rfl rfl ?_ ?_; rotate_left; (intro w' hx'; have hc' := hx'.cells.1; (try simp only [wcd] at hc'); go_simp; (first | done | with_reducible rfl)); (try simp only [pt])) | (refine sq_skip rfl rfl ?_; (try simp only [pt])) | (refine sq_noloud rfl rfl ?_; (try simp only [pt])) | (refine sq_takeg (v := ?_) rfl rfl ?_ ?_; rotate_left; (intro w' hx'; have hc' := hx'.cells.1; (try simp only [wcd] at hc'); go_simp; (first | done | with_reducible rfl)); (try simp only [pt]))))
              refine sq_done ?_
              go_wp2_with fail
              go_roundw
              case rel =>
                refine ⟨j + 1 + 1, by omega, by go_num, Lib.hid ?_, hx3.drew⟩; rw [Hz.out, Hd.out]; simp [validF, prv, hok, hz0, hlt2]
              case measure => simp [intOf] <;> omega
            · have hlt3 : (pth t.ps (j + 1)).1 ≤ (pth t.ps j).1 := by omega
              go_wp2_with fail
              refine wp_region_seq 26 [(0, true), (1, true), (2, true), (3, true), (4, true), (5, true), (6, true), (7, true), (8, true), (9, true), (10, true), (11, true), (12, true), (13, true), (14, true), (15, true), (16, true), (17, true), (18, true), (19, true), (20, true), (21, true), (22, true), (23, true), (24, true), (25, true)] rfl (by kernel_rfl) (by intro _ _ d _ _ h; cases d <;> exact h) ?_
              (repeat (first | (refine sq_take (v := ?_) rfl rfl ?_ ?_; rotate_left; (intro w' hx'; have hc' := hx'.cells.1; (try simp only [wcd] at hc'); go_simp; (first | done | with_reducible rfl)); (try simp only [pt])) | (refine sq_skip rfl rfl ?_; (try simp only [pt])) | (refine sq_noloud rfl rfl ?_; (try simp only [pt])) | (refine sq_takeg (v := ?_) rfl rfl ?_ ?_; rotate_left; (intro w' hx'; have hc' := hx'.cells.1; (try simp only [wcd] at hc'); go_simp; (first | done | with_reducible rfl)); (try simp only [pt]))))
              refine sq_done ?_
              go_wp2_with fail
              go_ret
              refine ⟨ret_bool ?_, hE.trans hx3.drew⟩; rw [Hv.out, T.valid, Hz.out, Hd.out]; simp [validF, prv]; intro _ _ h
              omega
    · obtain rfl : k = t.ps.length := by omega
      go_wp2_with fail
      go_ret
      refine ⟨ret_bool ?_, hE.trans hx⟩; rw [Hv.out, T.valid, Hz.out, List.drop_length]; simp [validF]

set_option maxHeartbeats 400000 in
theorem rconst5_c {v : Value} {z : Z} {w : World} {X : Nat → Prop} (h : Zi w X v z) (hL : z.mag.length ≤ 4398046511104) :
    Calls Tryz.prog 89 #[v] w fun e w' => ∃ r, e = .returned r ∧ Tv w' (w.heap.size ≤ ·) r (ct [] z.v) ∧ Ext w w' := by
  obtain ⟨A, c, rfl, h⟩ := h
  go_enter Tryz.func89, Tryz.ntmps89
  go_wp2_with fail
  refine (rnorm_c (z := z) ⟨_, _, rfl, h.ext xt⟩ hL).mono ?_; rintro e w1 ⟨r, rfl, ⟨A1, c1, rfl, h1⟩, hx⟩; have hc := hx.cells
  go_wp2_with fail
  (refine bodyPost_ret (v := ?_) ?_ rfl ?_; rotate_left; (simp only [results, Tryz.results89]; go_simp; (first | done | with_reducible rfl)))
  exact ⟨_, rfl, ⟨none, 0, A1, c1, rfl, Sl.nil0 _ _ _, (h1.keep kpt).widen (fun b hb _ => by first | omega | (dsimp only at hb ⊢; omega) | (dsimp only at hb; omega) | (simp only [wsz] at hb ⊢; omega) | (simp only [wsz] at hb; omega))⟩, xt⟩

end Go.Proofs.YthmjgbkakjpfkaaGreatDoor
