/- A region that draws its order, one operation of which writes (a row of the call's own), walked once for all orders. No conditions. -/
import Derived.Test.YtpkfjbljhneenaaGreatGDoesAh
import Derived.Test.YtpkfjbljhneenaaGreatGDoesAl
namespace Go.Proofs.YtpkfjbljhneenaaGreat
open Go.RowKit

section
variable {P : Program} {ops : Array Oper} {Q : Exit → Act → World → Prop} {md : Region.Mode}
def PhiStepsW (P : Program) (ops : Array Oper) (Q : Exit → Act → World → Prop) (a : Act) (ds Pu : List Nat) (wr : Nat) (row : Option Nat) (Φ : Nat → Value → World → Prop) (w0 : World) : List (Nat × Nat × List (Nat × Nat)) → Prop
 | [] => True
 | (i, t, js) :: r => ((Pu.contains i = false → i ≠ wr → ∀ f w, w0.grownBy w row → PhiDeps Φ f w js → wpOp P ops Q i (fun a' w' => ∃ v, a' = (fillA a ds f).put (some t) v ∧ Ext w w' ∧ Φ i v w') (fillA a ds f) w) ∧
   (i = wr → ∀ f w, Ext w0 w → PhiDeps Φ f w js → wpOp P ops Q i (fun a' w' => ∃ v, a' = (fillA a ds f).put (some t) v ∧ w.grownBy w' row ∧ Φ i v w') (fillA a ds f) w) ∧
   (Pu.contains i = true → ∀ f w, w0.grownBy w row → PhiDeps Φ f w js → ∃ o v, ops[i]? = some o ∧ o.dst = some t ∧ Yields P ops o v (fillA a ds f) ∧ Φ i v w)) ∧ PhiStepsW P ops Q a ds Pu wr row Φ w0 r
theorem phi_stepW {Φ : Nat → Value → World → Prop} {a : Act} {ds Pu : List Nat} {wr : Nat} {row : Option Nat} {w0 : World} : ∀ {T : List (Nat × Nat × List (Nat × Nat))}, PhiStepsW P ops Q a ds Pu wr row Φ w0 T → ∀ e ∈ T,
  (Pu.contains e.1 = false → e.1 ≠ wr → ∀ f w, w0.grownBy w row → PhiDeps Φ f w e.2.2 → wpOp P ops Q e.1 (fun a' w' => ∃ v, a' = (fillA a ds f).put (some e.2.1) v ∧ Ext w w' ∧ Φ e.1 v w') (fillA a ds f) w) ∧
   (e.1 = wr → ∀ f w, Ext w0 w → PhiDeps Φ f w e.2.2 → wpOp P ops Q e.1 (fun a' w' => ∃ v, a' = (fillA a ds f).put (some e.2.1) v ∧ w.grownBy w' row ∧ Φ e.1 v w') (fillA a ds f) w) ∧
   (Pu.contains e.1 = true → ∀ f w, w0.grownBy w row → PhiDeps Φ f w e.2.2 → ∃ o v, ops[e.1]? = some o ∧ o.dst = some e.2.1 ∧ Yields P ops o v (fillA a ds f) ∧ Φ e.1 v w)
 | [], _, e, he => absurd he (by simp)
 | (i, t, js) :: r, h, e, he => by
  rcases List.mem_cons.1 he with rfl | he
  ·exact h.1
  ·exact phi_stepW h.2 e he

theorem phi_soundW {late : Nat → Bool} {ls ds Pu : List Nat} {wr : Nat} {row : Option Nat} {T : List (Nat × Nat × List (Nat × Nat))} {Φ : Nat → Value → World → Prop} {a : Act} {w0 : World} (hok : phiOk md ops late Pu ls ds T = true) (hQ : ∀ c a d v w, Q (.panic c) (Act.put a d v) w → Q (.panic c) a w)
  (_hAP : Pu.contains wr = false) (hst : ∀ i v w w', Ext w w' → Φ i v w → Φ i v w') (hstR : ∀ i v w w', i ≠ wr → w.grownBy w' row → Φ i v w → Φ i v w') (hstep : PhiStepsW P ops Q a ds Pu wr row Φ w0 T) (hend : ∀ f w, w0.grownBy w row → PhiAll Φ f w T → LateW P ops Q ls (fillA a ds f) w) :
  ∀ (m : Nat) (listed : Array Bool) (f : Nat → Value) (w : World), listed.size = ops.size → Cls md ops listed → (∀ i, i < ops.size → late i = true → listed.getD i true = false) →
   cnt (fun i => !late i && !listed.getD i true) ops.size = m → w0.grownBy w row → (listed.getD wr false = false → Ext w0 w) → (∀ e ∈ T, listed.getD e.1 false = true → Φ e.1 (f e.2.1) w) → wpAny P md ops Q (m + ls.length) listed (fillA a ds f) w := by
 simp only [phiOk, Bool.and_eq_true, List.all_eq_true, List.mem_range, Bool.or_eq_true] at hok; obtain ⟨⟨⟨⟨⟨hcov, hT⟩, hlo⟩, hwa⟩, hfr⟩, hns⟩ := hok
 have gdd : ∀ (listed : Array Bool) (i : Nat), i < listed.size → listed.getD i true = listed.getD i false := fun listed i hi => by simp [Array.getD, hi]
 intro m
 induction m with
 | zero =>
  intro listed f w hsz hC hlate hcnt hx hxE hΦ; have hall := cnt_zero hcnt
  have hlist : ∀ i, i < ops.size → late i = false → listed.getD i false = true := fun i hi hl => by
   have := hall i hi; rw [hl] at this; simp only [Bool.not_false, Bool.true_and, Bool.not_eq_false'] at this; rw [← gdd listed i (by omega)]; exact this
  have heq : listed = startArr ops late := by
   apply Array.ext
   ·simp [startArr, hsz]
   ·intro i h1 h2
    have hi : i < ops.size := by omega
    simp only [startArr, Array.getElem_map, Array.getElem_range]
    rcases hl : late i with _ | _
    ·have := hlist i hi hl
     simpa [Array.getD, h1] using this
    ·have := hlate i hi hl
     simpa [Array.getD, h1] using this
  rw [Nat.zero_add]
  have hle : ∀ e ∈ T, listed.getD e.1 false = true := fun e he => by
   have h3 := hT e he; simp only [decide_eq_true_eq, Bool.not_eq_true'] at h3; exact hlist e.1 h3.1.1.1.1.1 h3.1.1.1.1.2
  refine wpAny_of_H (late := late) (S := fun _ => True) _ _ _ _ (late_sound ls listed _ _ (by rw [heq]; exact hlo) (hend f w hx (phi_all fun e he => hΦ e he (hle e he))))
 | succ m ih =>
  intro listed f w hsz hC hlate hcnt hx hxE hΦ
  have e1 : m + 1 + ls.length = (m + ls.length) + 1 := by omega
  rw [e1]; obtain ⟨i0, hi0, hp0, hmin⟩ := cnt_pos (p := fun i => !late i && !listed.getD i true) (n := ops.size) (by omega); simp only [Bool.and_eq_true, Bool.not_eq_true'] at hp0
  have hmem : i0 ∈ Region.ready md ops listed := by
   obtain ⟨e, he⟩ := List.any_eq_true.1 ((hcov i0 hi0).resolve_left (by rw [hp0.1]; simp)); have h3 := hT e he.1
   have e2 : e.1 = i0 := by simpa using he.2
   rw [e2] at h3; refine mem_ready.2 ⟨hp0.2, ops[i0], Array.getElem?_eq_getElem hi0, fun x hx' hb => ?_⟩; have h4 := h3.1.2; rw [Array.getElem?_eq_getElem hi0] at h4; simp only [Option.map_some, Option.getD_some, Array.all_eq_true_iff_forall_mem, Bool.or_eq_true, Bool.not_eq_true', Bool.and_eq_true, decide_eq_true_eq] at h4; have h5 := (h4 x hx').resolve_left (by rw [hb]; simp); have h6 := hmin x.on h5.1; rw [h5.2] at h6; simp only [Bool.not_false, Bool.true_and, Bool.not_eq_false'] at h6; rw [← gdd listed x.on (by omega)]; exact h6
  have hdep : ∀ i, i ∈ Region.ready md ops listed → ∀ e ∈ T, e.1 = i → PhiDeps Φ f w e.2.2 := fun i hi e he0 ei => phi_deps fun j hj => by
   have h3 := hT e he0; obtain ⟨h41, h42⟩ := h3.2 j hj; obtain ⟨e', he', h43⟩ := List.any_eq_true.1 h42; simp only [Bool.and_eq_true, beq_iff_eq] at h43; rw [← h43.1, ← h43.2]; refine hΦ e' he' ?_; rw [h43.1]; rw [ei] at h41; exact direct_spec h41 hi
  have upd_ok : ∀ i, i ∈ Region.ready md ops listed → late i = false → ∀ e ∈ T, e.1 = i → ∀ v w', w.grownBy w' row → (i ≠ wr → Ext w w') → Φ i v w' → wpAny P md ops Q (m + ls.length) (listed.setIfInBounds i true) (fillA a ds (updF f e.2.1 v)) w' := by
   intro i hi hnl e he0 ei v w' hg' hx' hv; obtain ⟨hiu, oi, hoi, hdeps⟩ := mem_ready.1 hi; have hil : i < ops.size := (Array.getElem?_eq_some_iff.1 hoi).1; have h3 := hT e he0; simp only [decide_eq_true_eq, Bool.not_eq_true'] at h3; obtain ⟨⟨⟨⟨⟨h31, h32⟩, h33⟩, h34⟩, h35⟩, h36⟩ := h3
   have hsame : ∀ e' ∈ T, e'.1 = i → e'.2.1 = e.2.1 := fun e' he' ek => by
    have h7 := h34 e' he'
    have h9 : (e.1 == e'.1) = true := by rw [ei, ek]; simp
    rw [h9] at h7
    have h10 : (e.2.1 == e'.2.1) = true := by simpa using h7
    exact (beq_iff_eq.1 h10).symm
   have hoth : ∀ e' ∈ T, e'.1 ≠ i → e'.2.1 ≠ e.2.1 := fun e' he' ek h => by
    have h7 := h34 e' he'
    have h9 : (e.1 == e'.1) = false := by rw [ei]; simpa using fun h => ek h.symm
    rw [h9] at h7
    have h10 : (e.2.1 == e'.2.1) = false := by simpa using h7
    rw [h] at h10; simp at h10
   have hold : ∀ e' : Nat × Nat × List (Nat × Nat), e'.1 ≠ i → (listed.setIfInBounds i true).getD e'.1 false = true → listed.getD e'.1 false = true := fun e' ek hl => by
    rw [Array.getD_eq_getD_getElem?] at hl ⊢; rw [Array.getElem?_setIfInBounds_ne (fun h => ek h.symm)] at hl; exact hl
   refine ih _ _ _ (by simp [hsz]) (hC.set hi) (fun k hk hl => ?_) ?_ (grown_both hx hg') (fun hw => ?_) (fun e' he' hl => ?_)
   ·have hne : i ≠ k := fun h => by rw [h, hl] at hnl; cases hnl
    rw [getD_set_ne true hne]; exact hlate k hk hl
   ·have := cnt_drop (p := fun k => !late k && !listed.getD k true) (q := fun k => !late k && !(listed.setIfInBounds i true).getD k true) hil (by simp [hnl, hiu]) (by
     simp [hnl, Array.getD, show i < listed.size by omega]) (fun k hk => by
     rw [getD_set_ne true (fun h => hk h.symm)])
    omega
   ·have hne : i ≠ wr := fun h => by
     rw [h, Array.getD_eq_getD_getElem?, Array.getElem?_setIfInBounds_self_of_lt (by omega)] at hw; simp at hw
    rw [getD_set_ne false hne] at hw; exact (hxE hw).trans (hx' hne)
   ·by_cases ek : e'.1 = i
    ·rw [ek, hsame e' he' ek]; simp only [updF, if_true]; exact hv
    ·simp only [updF, if_neg (hoth e' he' ek)]; have hΦ' := hΦ e' he' (hold e' ek hl)
     by_cases hiw : i = wr
     ·exact hstR _ _ _ _ (fun h => ek (h.trans hiw.symm)) hg' hΦ'
     ·exact hst _ _ _ _ (hx' hiw) hΦ'
  by_cases hq : ∃ i ∈ Region.ready md ops listed, Pu.contains i = true ∧ late i = false
  ·obtain ⟨i, hi, hpi, hnl⟩ := hq; obtain ⟨hiu, oi, hoi, hdeps⟩ := mem_ready.1 hi; have hil : i < ops.size := (Array.getElem?_eq_some_iff.1 hoi).1; obtain ⟨e, he⟩ := List.any_eq_true.1 ((hcov i hil).resolve_left (by rw [hnl]; simp))
   have ei : e.1 = i := by simpa using he.2
   obtain ⟨o, v, ho, hod, hy, hv⟩ := (phi_stepW hstep e he.1).2.2 (by rw [ei]; exact hpi) f w hx (hdep i hi e he.1 ei); rw [ei, hoi] at ho; obtain rfl := Option.some.inj ho; rw [ei] at hv; have h3 := hT e he.1; have hfree := hfr i (by simpa using hpi); refine wpAny_first hoi (Region.noSelect_spec hns) (fun c a w => hQ c a oi.dst v w) (m + ls.length) listed _ w (fun j oj hoj hji hun hno => ?_) hi hy ?_
   ·simp only [freeAll, hoi, List.all_eq_true, List.mem_range, Bool.or_eq_true, beq_iff_eq] at hfree
    rcases hfree j (Array.getElem?_eq_some_iff.1 hoj).1 with ((h | h) | h) | h
    ·exact absurd h hji
    ·simp only [direct, hoj, Option.map_some, Option.getD_some, Array.any_eq_true', Bool.and_eq_true, beq_iff_eq] at h; obtain ⟨x, hx1, hx2, hx3⟩ := h; exact absurd hx3 (hno x hx1 hx2)
    ·have h5 := direct_spec h hi; rw [gdd listed j (by have := (Array.getElem?_eq_some_iff.1 hoj).1; omega)] at hun; rw [h5] at hun
     cases hun
    ·rw [hoj] at h; exact h
   ·rw [hod, fillA_put (by simpa using h3.1.1.1.2)]; exact upd_ok i hi hnl e he.1 ei v w (World.grownBy.refl _ _) (fun _ => Ext.refl w) hv
  have hno : ∀ i ∈ Region.ready md ops listed, late i = false → Pu.contains i = false := fun i hi hl => by
   rcases hp : Pu.contains i with _ | _
   ·rfl
   ·exact absurd ⟨i, hi, hp, hl⟩ hq
  refine ⟨fun hr => ?_, fun i hi => ?_⟩
  ·exfalso
   rw [hr] at hmem
   cases hmem
  ·obtain ⟨hiu, oi, hoi, hdeps⟩ := mem_ready.1 hi; have hil : i < ops.size := (Array.getElem?_eq_some_iff.1 hoi).1
   have hnl : late i = false := by
    rcases hl : late i with _ | _
    ·rfl
    ·have := waitsAllP_spec hwa hC hl hi hi0 hp0.1 (hno i0 hmem hp0.1); rw [gdd listed i0 (by omega)] at hp0; rw [this] at hp0; exact absurd hp0.2 (by simp)
   obtain ⟨e, he⟩ := List.any_eq_true.1 ((hcov i hil).resolve_left (by rw [hnl]; simp))
   have ei : e.1 = i := by simpa using he.2
   have h3 := hT e he.1
   by_cases hiw : i = wr
   ·have hs := (phi_stepW hstep e he.1).2.1 (by rw [ei]; exact hiw) f w (hxE (by rw [← gdd listed wr (by omega), ← hiw]; exact hiu)) (hdep i hi e he.1 ei); rw [ei] at hs; refine wpOp_mono (fun a' w' h' => ?_) hs; obtain ⟨v, rfl, hx', hv⟩ := h'; rw [fillA_put (by simpa using h3.1.1.1.2)]; exact upd_ok i hi hnl e he.1 ei v w' hx' (fun h => absurd hiw h) hv
   ·have hs := (phi_stepW hstep e he.1).1 (by rw [ei]; exact hno i hi hnl) (by rw [ei]; exact hiw) f w hx (hdep i hi e he.1 ei); rw [ei] at hs; refine wpOp_mono (fun a' w' h' => ?_) hs; obtain ⟨v, rfl, hx', hv⟩ := h'; rw [fillA_put (by simpa using h3.1.1.1.2)]; exact upd_ok i hi hnl e he.1 ei v w' (ext_then hx' (World.grownBy.refl _ _)) (fun _ => hx') hv

def RSt (row : Option Nat) (wr : Nat) : Nat → List PhiT → Prop
 | _, [] => True
 | n, x :: r => (n ≠ wr → ∀ v w w', w.grownBy w' row → x.1 v w → x.1 v w') ∧ RSt row wr (n + 1) r
theorem rst_at {row : Option Nat} {wr : Nat} : ∀ {L : List PhiT} {n : Nat}, RSt row wr n L → ∀ (i : Nat) v w w', i + n ≠ wr → w.grownBy w' row → (phiAt L i).1 v w → (phiAt L i).1 v w'
 | [], _, _, _, _, _, _, _, _, h => h
 | _ :: _, _, hL, 0, v, w, w', hn, hg, h => hL.1 (by omega) v w w' hg h
 | _ :: _, n, hL, i + 1, v, w, w', hn, hg, h => rst_at hL.2 i v w w' (by omega) hg h
theorem rst_nil {row : Option Nat} {wr n : Nat} : RSt row wr n [] := trivial
theorem rst_eq {row : Option Nat} {wr n : Nat} {x : Value} {L : List PhiT} (h : RSt row wr (n + 1) L) : RSt row wr n (phiEq x :: L) := ⟨fun _ _ _ _ _ h => h, h⟩
theorem rst_wr {row : Option Nat} {wr : Nat} {x : PhiT} {L : List PhiT} (h : RSt row wr (wr + 1) L) : RSt row wr wr (x :: L) := ⟨fun h => absurd rfl h, h⟩

theorem wp_region_freew {id : Nat} {a : Act} {w : World} (T : List (Nat × Nat × List (Nat × Nat))) (ls ds _Al Pu : List Nat) (wr : Nat) (row : Option Nat) (L : List PhiT) (hm : P.follows .mixedOrders = true)
  (hok : (phiOk .any ops (fun i => ls.contains i) Pu ls ds T && !Pu.contains wr) = true) (hQ : ∀ c a d v w, Q (.panic c) (Act.put a d v) w → Q (.panic c) a w) (hlen : (T.length + ls.length == ops.size) = true) (hcn : (cnt (fun i => !ls.contains i) ops.size == T.length) = true)
  (hL : RSt row wr 0 L) (hstep : PhiStepsW P ops Q a ds Pu wr row (fun i v w => (phiAt L i).1 v w) w.drew T) (hend : ∀ f w', w.drew.grownBy w' row → PhiAll (fun i v w => (phiAt L i).1 v w) f w' T → LateW P ops Q ls (fillA a ds f) w') : (Code.region id ops true).wp P Q a w := by
 refine wp_region_any hm ?_; obtain ⟨f, hf⟩ := fillA_self a ds
 have h0 : ∀ k, (Array.replicate ops.size false).getD k false = false := fun k => by
  by_cases h : k < ops.size <;> simp [Array.getD, h]
 have h1 : ∀ k, k < ops.size → (Array.replicate ops.size false).getD k true = false := fun k h => by simp [Array.getD, h]
 simp only [Bool.and_eq_true, Bool.not_eq_true'] at hok
 have := phi_soundW (md := .any) (Q := Q) (P := P) (row := row) (wr := wr) hok.1 hQ hok.2 (fun i v w w' hx h => (phiAt L i).2 v w w' hx h) (fun i v w w' hi hg h => rst_at hL i v w w' (by omega) hg h) hstep hend T.length (Array.replicate ops.size false) f w.drew (by simp) Cls.init (fun i hi _ => h1 i hi) (by
  rw [cnt_congr (q := fun i => !ls.contains i) fun i hi => by simp only [h1 i hi, Bool.not_false, Bool.and_true]]
  simpa using hcn) (World.grownBy.refl _ _) (fun _ => Ext.refl _) (fun e _ h => by rw [h0] at h; cases h)
 rw [hf, (by simpa using hlen : T.length + ls.length = ops.size)] at this; exact this

section
variable {a : Act} {ds Pu : List Nat} {wr : Nat} {row : Option Nat} {L : List PhiT} {w0 : World} {i t : Nat} {js : List (Nat × Nat)} {r : List (Nat × Nat × List (Nat × Nat))} {o : Oper}
theorem pw_nil : PhiStepsW P ops Q a ds Pu wr row (fun i v w => (phiAt L i).1 v w) w0 [] := trivial
theorem pw_take (ho : opAt ops.toList i = some o) (hg : o.guard = none) (hd : o.dst = some t) (hwr : (i == wr) = false) (hpu : Pu.contains i = false)
  (h : ∀ f w, w0.grownBy w row → PhiDeps (fun i v w => (phiAt L i).1 v w) f w js → ∃ v, (execOp (fillA a ds f).eval o).run P w = .ok (.value v) w ∧ (phiAt L i).1 v w) (hr : PhiStepsW P ops Q a ds Pu wr row (fun i v w => (phiAt L i).1 v w) w0 r) : PhiStepsW P ops Q a ds Pu wr row (fun i v w => (phiAt L i).1 v w) w0 ((i, t, js) :: r) := by
 refine ⟨⟨fun _ _ f w hx hdp => ?_, fun h => by simp [h] at hwr, fun h => by rw [hpu] at h; cases h⟩, hr⟩; obtain ⟨v, h1, h2⟩ := h f w hx hdp; unfold wpOp; simp only [opAt_ops ho, Region.wanted, hg, if_true]; refine .inl ?_; unfold Oper.wp; simp only [h1]; exact ⟨v, by rw [hd], Ext.refl w, h2⟩
theorem pw_eq {x : Value} (ho : opAt ops.toList i = some o) (hg : o.guard = none) (hd : o.dst = some t) (hwr : (i == wr) = false) (hpu : Pu.contains i = false) (hL : phiAt L i = phiEq x)
  (h : ∀ f w, w0.grownBy w row → PhiDeps (fun i v w => (phiAt L i).1 v w) f w js → (execOp (fillA a ds f).eval o).run P w = .ok (.value x) w) (hr : PhiStepsW P ops Q a ds Pu wr row (fun i v w => (phiAt L i).1 v w) w0 r) : PhiStepsW P ops Q a ds Pu wr row (fun i v w => (phiAt L i).1 v w) w0 ((i, t, js) :: r) :=
 pw_take ho hg hd hwr hpu (fun f w hx hdp => ⟨x, h f w hx hdp, by rw [hL]; rfl⟩) hr
theorem pw_loud (ho : opAt ops.toList i = some o) (hg : o.guard = none) (hd : o.dst = some t) (hwr : (i == wr) = false) (hpu : Pu.contains i = false)
  (h : ∀ f w, w0.grownBy w row → PhiDeps (fun i v w => (phiAt L i).1 v w) f w js → ∀ K : Act → World → Prop, (∀ v w', Ext w w' → (phiAt L i).1 v w' → K ((fillA a ds f).put o.dst v) w') → o.wp P (fillA a ds f) w K Q) (hr : PhiStepsW P ops Q a ds Pu wr row (fun i v w => (phiAt L i).1 v w) w0 r) : PhiStepsW P ops Q a ds Pu wr row (fun i v w => (phiAt L i).1 v w) w0 ((i, t, js) :: r) := by
 refine ⟨⟨fun _ _ f w hx hdp => ?_, fun h => by simp [h] at hwr, fun h => by rw [hpu] at h; cases h⟩, hr⟩; unfold wpOp; simp only [opAt_ops ho, Region.wanted, hg, if_true]; exact .inl (h f w hx hdp _ fun v w' hx' hv => ⟨v, by rw [hd], hx', hv⟩)
theorem pw_write (ho : opAt ops.toList i = some o) (hg : o.guard = none) (hd : o.dst = some t) (hwr : (i == wr) = true) (hpu : Pu.contains i = false)
  (h : ∀ f w, Ext w0 w → PhiDeps (fun i v w => (phiAt L i).1 v w) f w js → ∀ K : Act → World → Prop, (∀ v w', w.grownBy w' row → (phiAt L i).1 v w' → K ((fillA a ds f).put o.dst v) w') → o.wp P (fillA a ds f) w K Q) (hr : PhiStepsW P ops Q a ds Pu wr row (fun i v w => (phiAt L i).1 v w) w0 r) : PhiStepsW P ops Q a ds Pu wr row (fun i v w => (phiAt L i).1 v w) w0 ((i, t, js) :: r) := by
 refine ⟨⟨fun _ h => absurd (beq_iff_eq.1 hwr) h, fun _ f w hx hdp => ?_, fun h => by rw [hpu] at h; cases h⟩, hr⟩; unfold wpOp; simp only [opAt_ops ho, Region.wanted, hg, if_true]; exact .inl (h f w hx hdp _ fun v w' hx' hv => ⟨v, by rw [hd], hx', hv⟩)
theorem pw_peq {x : Value} (ho : opAt ops.toList i = some o) (hg : o.guard = none) (hd : o.dst = some t) (hwr : (i == wr) = false) (hpu : Pu.contains i = true) (hL : phiAt L i = phiEq x)
  (h : ∀ f w, w0.grownBy w row → PhiDeps (fun i v w => (phiAt L i).1 v w) f w js → ∀ w', (execOp (fillA a ds f).eval o).run P w' = .ok (.value x) w') (hr : PhiStepsW P ops Q a ds Pu wr row (fun i v w => (phiAt L i).1 v w) w0 r) : PhiStepsW P ops Q a ds Pu wr row (fun i v w => (phiAt L i).1 v w) w0 ((i, t, js) :: r) := by
 refine ⟨⟨fun h => by rw [hpu] at h; (cases h), fun h => by simp [h] at hwr, fun _ f w hx hdp => ?_⟩, hr⟩; refine ⟨o, x, opAt_ops ho, hd, .inl ⟨by simp [Region.wanted, hg], h f w hx hdp⟩, ?_⟩
 show (phiAt L i).1 x w
 rw [hL]
 rfl
end
end

end Go.Proofs.YtpkfjbljhneenaaGreat
