/- Regions: what only moves or reckons may stay behind what writes. No conditions. -/
import Derived.Test.YtbgifiijjjoebaaGreatDoorGNamesAm
namespace Go.Proofs.YtbgifiijjjoebaaGreatDoor
open Go.RowKit

def pureO (o : Oper) : Bool :=
 match o.op, o.guard with
 | .move _, none => true
 | .binOp .., none => true
 | _, _ => false
def pureAt (ops : Array Oper) (i : Nat) : Bool := ((ops[i]?).map pureO).getD false
def regOk3 (P : Program) (ops : Array Oper) : Bool :=
 (List.range ops.size).all fun i =>
  (((ops[i]?).map fun o => o.after.all fun e => !Region.binds .any e || decide (e.on < i)).getD true) && !(((ops[i]?).map fun o => isN o.op).getD false) &&
  (List.range ops.size).all fun j => i == j || (disB ops i j && rdB ops i j && (quietAt P ops i || pureAt ops j || anc ops ops.size i j || anc ops ops.size j i))
section
variable {P : Program} {ops : Array Oper} {Q : Exit → Act → World → Prop} {w0 : Beg} {KF : AS → Prop}
theorem pure_quiet {o : Oper} (h : pureO o = true) : isQ P o.op = true := by
 unfold pureO at h
 split at h
 ·rename_i h1 _; rw [h1]; rfl
 ·rename_i h1 _; rw [h1]; rfl
 ·cases h
def PAl (P : Program) (ops : Array Oper) (o : Oper) (S : AS) (r : SV) : Prop := ∀ S' : AS, S'.n = S.n → (∀ t ∈ reads ops o, S'.f t = S.f t) → ∀ K' : SV → Mem → Prop, K' r S'.m → opK P ops o S' K'
theorem pure_alike {o : Oper} {S : AS} {K : SV → Mem → Prop} (h : pureO o = true) (hK : opK P ops o S K) : ∃ r, K r S.m ∧ PAl P ops o S r := by
 obtain ⟨hd, hK⟩ := hK; unfold pureO at h
 split at h
 ·rename_i x h1 h2
  simp only [h2, astep, h1] at hK; refine ⟨_, hK, fun S' hn hf K' hK' => ⟨fun t ht => hn ▸ hd t ht, ?_⟩⟩
  have e : ez S' x = ez S x := ev_same hn fun t ht => hf t (List.mem_append_left _ (List.mem_filterMap.2 ⟨x, by rw [h1]; simp [Op.operands], ht⟩))
  simp only [h2, astep, h1, e]; exact hK'
 ·rename_i op t x y u h1 h2
  simp only [h2, astep, h1] at hK; obtain ⟨r, e, q1, q2, q3⟩ := binK_q (P := P) (d := none) (m := S.m) op t (ez S x) (ez S y) K hK
  have he : e = .id := by
   rcases q2 with q2 | ⟨_, _, _, q2, _⟩
   ·exact q2
   ·cases q2
  subst he; refine ⟨r, q1, fun S' hn hf K' hK' => ⟨fun t ht => hn ▸ hd t ht, ?_⟩⟩
  have e1 : ez S' x = ez S x := ev_same hn fun t ht => hf t (List.mem_append_left _ (List.mem_filterMap.2 ⟨x, by rw [h1]; simp [Op.operands], ht⟩))
  have e2 : ez S' y = ez S y := ev_same hn fun t ht => hf t (List.mem_append_left _ (List.mem_filterMap.2 ⟨y, by rw [h1]; simp [Op.operands], ht⟩))
  simp only [h2, astep, h1, e1, e2]; exact q3 S'.m (fun _ h => by cases h) (fun _ _ h => by cases h) K' hK'
 ·cases h
structure Chain3 (P : Program) (ops : Array Oper) (T : Nat → AS) (rv : Nat → SV) (ef : Nat → Ef) : Prop where
 s : ∀ i (o : Oper), ops[i]? = some o → T (i + 1) = (T i).put o.dst (rv i) ((ef i).on (T i).m) ∧ isNew (isQ P o.op) o.dst (T i).m (ef i)
 p : ∀ i (o : Oper), ops[i]? = some o → pureO o = true → ef i = .id ∧ PAl P ops o (T i) (rv i)
 q : ∀ i (o : Oper), ops[i]? = some o → pureO o = false → Alike P ops o (T i) (rv i) (ef i)
theorem chain3_of (hN : ∀ (i : Nat) (o : Oper), ops[i]? = some o → isN o.op = false) : ∀ (l : List Oper) (k : Nat) (S : AS), (∀ j, l[j]? = ops[k + j]?) → aops P ops KF l S →
  ∃ (T : Nat → AS) (rv : Nat → SV) (ef : Nat → Ef), T k = S ∧ KF (T (k + l.length)) ∧ ∀ i (o : Oper), k ≤ i → ops[i]? = some o → (T (i + 1) = (T i).put o.dst (rv i) ((ef i).on (T i).m) ∧ isNew (isQ P o.op) o.dst (T i).m (ef i)) ∧ (pureO o = true → ef i = .id ∧ PAl P ops o (T i) (rv i)) ∧ (pureO o = false → Alike P ops o (T i) (rv i) (ef i))
 | [], k, S, hl, h => by
  refine ⟨fun _ => S, fun _ => .u, fun _ => .id, rfl, h, fun i o hi ho => ?_⟩; have := hl (i - k); rw [show k + (i - k) = i by omega, ho] at this; simp at this
 | o :: r, k, S, hl, h => by
  have h0 : ops[k]? = some o := by simpa using (hl 0).symm
  have hl' : ∀ j, r[j]? = ops[k + 1 + j]? := fun j => by have := hl (j + 1); simpa [Nat.add_assoc, Nat.add_comm 1 j] using this
  have h : opK P ops o S fun rv m' => aops P ops KF r (S.put o.dst rv m') := h
  obtain ⟨rv0, e0, h1, h2, h3⟩ : ∃ rv0 e0, aops P ops KF r (S.put o.dst rv0 (Ef.on e0 S.m)) ∧ isNew (isQ P o.op) o.dst S.m e0 ∧ ((pureO o = true → e0 = .id ∧ PAl P ops o S rv0) ∧ (pureO o = false → Alike P ops o S rv0 e0)) := by
   cases hp : pureO o with
   | true =>
    obtain ⟨r0, q1, q2⟩ := pure_alike hp h; exact ⟨r0, .id, q1, ⟨fun _ _ e => (by cases e), fun _ => ⟨fun _ _ e => (by cases e), fun _ _ e => (by cases e)⟩⟩, fun _ => ⟨rfl, q2⟩, fun e => by cases e⟩
   | false =>
    obtain ⟨r0, e0, q1, q2, q3⟩ := opK_alike h (hN k o h0); exact ⟨r0, e0, q1, q2, fun e => (by cases e), fun _ => q3⟩
  obtain ⟨T, rv, ef, h4, h5, h6⟩ := chain3_of hN r (k + 1) _ hl' h1; refine ⟨fun i => if i ≤ k then S else T i, fun i => if i = k then rv0 else rv i, fun i => if i = k then e0 else ef i, by simp, ?_, fun i o' hi ho => ?_⟩
  ·show KF (if k + (r.length + 1) ≤ k then S else T (k + (r.length + 1)))
   rw [if_neg (by omega), show k + (r.length + 1) = k + 1 + r.length by omega]; exact h5
  ·by_cases e : i = k
   ·subst e; rw [h0] at ho
    injection ho with ho
    subst ho; simp only [Nat.le_refl, if_true, show ¬ i + 1 ≤ i by omega, if_false]; exact ⟨⟨h4, h2⟩, h3⟩
   ·simp only [show ¬ i ≤ k by omega, show ¬ i + 1 ≤ k by omega, if_false, e]; exact h6 i o' (by omega) ho
structure Ok3 (P : Program) (ops : Array Oper) : Prop where
 e : ∀ (i : Nat) (o : Oper), ops[i]? = some o → ∀ e ∈ o.after, Region.binds .any e = true → e.on < i
 n : ∀ (i : Nat) (o : Oper), ops[i]? = some o → isN o.op = false
 d : ∀ (i j : Nat) (o o' : Oper) (t : Nat), i ≠ j → ops[i]? = some o → ops[j]? = some o' → o.dst = some t → o'.dst ≠ some t
 r : ∀ (i j : Nat) (o o' : Oper) (t : Nat), i ≠ j → ops[i]? = some o → ops[j]? = some o' → o'.dst = some t → t ∈ reads ops o → anc ops ops.size i j = true ∨ anc ops ops.size j i = true
 q : ∀ (i j : Nat) (o o' : Oper), i ≠ j → ops[i]? = some o → ops[j]? = some o' → isQ P o.op = false → pureO o' = false → anc ops ops.size i j = true ∨ anc ops ops.size j i = true
theorem regOk3_spec (h : regOk3 P ops = true) : Ok3 P ops := by
 simp only [regOk3, List.all_eq_true, List.mem_range, Bool.and_eq_true] at h
 have sz : ∀ {i : Nat} {o : Oper}, ops[i]? = some o → i < ops.size := fun ho => (Array.getElem?_eq_some_iff.1 ho).1
 have pr : ∀ i j, i ≠ j → i < ops.size → j < ops.size → disB ops i j = true ∧ rdB ops i j = true ∧ (quietAt P ops i || pureAt ops j || anc ops ops.size i j || anc ops ops.size j i) = true := fun i j hne hi hj => by
  have := (h i hi).2 j hj; simp only [Bool.or_eq_true, beq_iff_eq, hne, false_or, Bool.and_eq_true] at this; refine ⟨this.1.1, this.1.2, ?_⟩
  simpa only [Bool.or_eq_true] using this.2
 refine ⟨fun i o ho e he hb => ?_, fun i o ho => ?_, fun i j o o' t hne ho ho' ht ht' => ?_, fun i j o o' t hne ho ho' ht hr => ?_, fun i j o o' hne ho ho' hq hf => ?_⟩
 ·have h1 := (h i (sz ho)).1.1; rw [ho, Option.map_some, Option.getD_some, Array.all_eq_true_iff_forall_mem] at h1
  simpa [hb] using h1 e he
 ·have h1 := (h i (sz ho)).1.2
  simpa [ho] using h1
 ·have := (pr i j hne (sz ho) (sz ho')).1; simp [disB, ho, ho', ht, ht'] at this
 ·have := (pr i j hne (sz ho) (sz ho')).2.1; simp only [rdB, ho, ho', Option.bind_some, ht, Bool.or_eq_true, Bool.not_eq_true', List.contains_eq_mem, decide_eq_false_iff_not] at this
  rcases this with (h | h) | h
  ·exact absurd hr h
  ·exact .inl h
  ·exact .inr h
 ·have := (pr i j hne (sz ho) (sz ho')).2.2; simp only [quietAt, pureAt, ho, ho', Option.map_some, Option.getD_some, hq, hf, Bool.or_eq_true, Bool.false_eq_true, false_or] at this; exact this
theorem chain3_f {T : Nat → AS} {rv : Nat → SV} {ef : Nat → Ef} (hok : Ok3 P ops) (hT : Chain3 P ops T rv ef) : ∀ i, i ≤ ops.size → (T i).n = (T 0).n ∧ (∀ j (o : Oper) t, j < i → ops[j]? = some o → o.dst = some t → (T i).f t = rv j) ∧ ∀ t, (∀ j (o : Oper), j < i → ops[j]? = some o → o.dst ≠ some t) → (T i).f t = (T 0).f t
 | 0, _ => ⟨rfl, fun _ _ _ h => absurd h (Nat.not_lt_zero _), fun _ _ => rfl⟩
 | i + 1, hi => by
  obtain ⟨h1, h2, h3⟩ := chain3_f hok hT i (by omega); have ho : ops[i]? = some ops[i] := Array.getElem?_eq_getElem (by omega); rw [(hT.s i _ ho).1]; refine ⟨h1, fun j o t hj ho' ht => ?_, fun t ht => ?_⟩
  ·by_cases e : j = i
   ·subst e; rw [ho] at ho'; injection ho' with ho'; subst ho'; rw [ht, put_at]
   ·rw [put_f fun e2 => hok.d i j _ o t (fun e3 => e e3.symm) ho ho' e2 ht]; exact h2 j o t (by omega) ho' ht
  ·rw [put_f fun e2 => ht i _ (by omega) ho e2]
   exact h3 t fun j o hj => ht j o (by omega)
theorem chain3_inv {T : Nat → AS} {rv : Nat → SV} {ef : Nat → Ef} (hok : Ok3 P ops) (hT : Chain3 P ops T rv ef) {b : Nat} : ∀ i, b ≤ i → i ≤ ops.size → (∀ (j : Nat) (o : Oper), b ≤ j → j < i → ops[j]? = some o → isQ P o.op = true) → Inv ops (T b) rv ef (fun j => b ≤ j ∧ j < i) (T i) := by
 intro i hi
 induction i with
 | zero =>
  intro _ _
  have : b = 0 := by omega
  subst this; exact ⟨rfl, fun _ _ _ h => absurd h.2 (Nat.not_lt_zero _), fun _ _ => rfl, fun k ob => ⟨.inl, fun h => h.elim (fun h => h) fun ⟨_, h, _⟩ => absurd h.2 (Nat.not_lt_zero _)⟩⟩
 | succ i ih =>
  intro his hq
  by_cases hb : b = i + 1
  ·subst hb; exact ⟨rfl, fun j _ _ h => absurd h.2 (by omega), fun _ _ => rfl, fun k ob => ⟨.inl, fun h => h.elim (fun h => h) fun ⟨_, h, _⟩ => absurd h.2 (by omega)⟩⟩
  ·have ih := ih (by omega) (by omega) fun j o h1 h2 => hq j o h1 (by omega)
   have ho : ops[i]? = some ops[i] := Array.getElem?_eq_getElem (by omega); obtain ⟨h1, h2⟩ := hT.s i _ ho; rw [h1]
   exact Inv.congr (Inv.put ih ho (fun j o' t hj ho' ht ht' => hok.d i j _ _ t (by omega) ho ho' ht ht') (h2.2 (hq i _ (by omega) (by omega) ho)) fun k ob he => (h2.1 k ob he).2) fun j => by omega
structure Inv3 (P : Program) (ops : Array Oper) (T : Nat → AS) (rv : Nat → SV) (ef : Nat → Ef) (L : Nat → Prop) (b : Nat) (S : AS) : Prop where
 n : S.n = (T 0).n
 b1 : ∀ (i : Nat) (o : Oper), i < b → ops[i]? = some o → pureO o = false → L i
 b2 : ∀ (i : Nat) (o : Oper), b ≤ i → L i → ops[i]? = some o → isQ P o.op = true
 f1 : ∀ (i : Nat) (o : Oper) (t : Nat), L i → ops[i]? = some o → o.dst = some t → S.f t = rv i
 f2 : ∀ t, (∀ (i : Nat) (o : Oper), L i → ops[i]? = some o → o.dst ≠ some t) → S.f t = (T 0).f t
 m : ∀ k ob, mat S.m k = some ob ↔ mat (T b).m k = some ob ∨ ∃ i, (b ≤ i ∧ L i ∧ i < ops.size) ∧ ef i = .new k ob
theorem ready_val {T : Nat → AS} {rv : Nat → SV} {ef : Nat → Ef} {L : Nat → Prop} {b : Nat} {S : AS} (hok : Ok3 P ops) (hT : Chain3 P ops T rv ef) (hI : Inv3 P ops T rv ef L b S)
  (hC : ∀ j o, L j → ops[j]? = some o → ∀ e ∈ o.after, Region.binds .any e = true → L e.on) {i : Nat} {o : Oper} (ho : ops[i]? = some o) (hiu : ¬ L i) (hdeps : ∀ e ∈ o.after, Region.binds .any e = true → L e.on) :
  S.n = (T i).n ∧ ∀ t ∈ reads ops o, S.f t = (T i).f t := by
 have hil : i < ops.size := (Array.getElem?_eq_some_iff.1 ho).1; obtain ⟨h1, h2, h3⟩ := chain3_f hok hT i (by omega)
 have anI : ∀ j, anc ops ops.size i j = true → L j := fun j h => anc_in (L := L) hC (fun o' ho' => by rw [ho] at ho'; injection ho' with ho'; subst ho'; exact hdeps) h
 have anJ : ∀ j, L j → anc ops ops.size j i = true → False := fun j hj h => hiu (anc_in (L := L) hC (fun o' ho' => hC j o' hj ho') h)
 refine ⟨hI.n.trans h1.symm, fun t ht => ?_⟩
 by_cases hx : ∃ (j : Nat) (o' : Oper), ops[j]? = some o' ∧ o'.dst = some t
 ·obtain ⟨j, o', ho', ht'⟩ := hx
  have only : ∀ (j' : Nat) (o2 : Oper), ops[j']? = some o2 → o2.dst = some t → j' = j := fun j' o2 q1 q2 => Classical.byContradiction fun hne => hok.d j' j o2 o' t hne q1 ho' q2 ht'
  by_cases hd : L j
  ·rw [hI.f1 j o' t hd ho' ht']
   have hne : i ≠ j := fun e => by subst e; exact hiu hd
   rcases hok.r i j o o' t hne ho ho' ht' ht with h | h
   ·exact (h2 j o' t (anc_lt hok.e h) ho' ht').symm
   ·exact (anJ j hd h).elim
  ·rw [hI.f2 t fun j' o2 q1 q2 q3 => hd (only j' o2 q2 q3 ▸ q1)]; refine (h3 t fun j' o2 q1 q2 q3 => ?_).symm; have := only j' o2 q2 q3; subst this
   rcases hok.r i j' o o' t (by omega) ho ho' ht' ht with h | h
   ·exact hd (anI j' h)
   ·have := anc_lt hok.e h; omega
 ·rw [hI.f2 t fun j' o2 _ q2 q3 => hx ⟨j', o2, q2, q3⟩, h3 t fun j' o2 _ q2 q3 => hx ⟨j', o2, q2, q3⟩]
theorem step_f {T : Nat → AS} {rv : Nat → SV} {ef : Nat → Ef} {L : Nat → Prop} {b : Nat} {S : AS} {m' : Mem} (hok : Ok3 P ops) (hI : Inv3 P ops T rv ef L b S) {i : Nat} {o : Oper} (ho : ops[i]? = some o) (hiu : ¬ L i) :
  (∀ (j : Nat) (o' : Oper) (t : Nat), L j ∨ j = i → ops[j]? = some o' → o'.dst = some t → (S.put o.dst (rv i) m').f t = rv j) ∧ ∀ t, (∀ (j : Nat) (o' : Oper), L j ∨ j = i → ops[j]? = some o' → o'.dst ≠ some t) → (S.put o.dst (rv i) m').f t = (T 0).f t := by
 refine ⟨fun j o' t hj ho' ht => ?_, fun t ht => ?_⟩
 ·rcases hj with hj | rfl
  ·rw [put_f fun e => hok.d j i o' o t (fun e => by subst e; exact hiu hj) ho' ho ht e]; exact hI.f1 j o' t hj ho' ht
  ·rw [ho] at ho'; injection ho' with ho'; subst ho'; rw [ht, put_at]
 ·rw [put_f (ht i o (.inr rfl) ho)]
  exact hI.f2 t fun j o' hj => ht j o' (.inl hj)
theorem step_pure {T : Nat → AS} {rv : Nat → SV} {ef : Nat → Ef} {L : Nat → Prop} {b : Nat} {S : AS} (hok : Ok3 P ops) (hT : Chain3 P ops T rv ef) (hI : Inv3 P ops T rv ef L b S)
  (hC : ∀ j o, L j → ops[j]? = some o → ∀ e ∈ o.after, Region.binds .any e = true → L e.on) {i : Nat} {o : Oper} (ho : ops[i]? = some o) (hp : pureO o = true) (hiu : ¬ L i) (hdeps : ∀ e ∈ o.after, Region.binds .any e = true → L e.on) :
  opK P ops o S (fun r m' => S.put o.dst r m' = S.put o.dst (rv i) S.m) ∧ Inv3 P ops T rv ef (fun j => L j ∨ j = i) b (S.put o.dst (rv i) S.m) := by
 obtain ⟨hn, hv⟩ := ready_val hok hT hI hC ho hiu hdeps; obtain ⟨h1, h2⟩ := hT.p i o ho hp; obtain ⟨g1, g2⟩ := step_f (m' := S.m) hok hI ho hiu; refine ⟨h2 S hn hv _ rfl, hI.n, fun j o' q1 q2 q3 => .inl (hI.b1 j o' q1 q2 q3), fun j o' q1 q2 q3 => ?_, g1, g2, fun k ob => ?_⟩
 ·rcases q2 with q2 | rfl
  ·exact hI.b2 j o' q1 q2 q3
  ·rw [ho] at q3; injection q3 with q3; subst q3; exact pure_quiet hp
 ·show mat S.m k = some ob ↔ _
  rw [hI.m]
  constructor
  ·rintro (h | ⟨j, ⟨q1, q2, q4⟩, q3⟩)
   ·exact .inl h
   ·exact .inr ⟨j, ⟨q1, .inl q2, q4⟩, q3⟩
  ·rintro (h | ⟨j, ⟨q1, q2 | rfl, q4⟩, q3⟩)
   ·exact .inl h
   ·exact .inr ⟨j, ⟨q1, q2, q4⟩, q3⟩
   ·rw [h1] at q3; cases q3
theorem ready_mem {T : Nat → AS} {rv : Nat → SV} {ef : Nat → Ef} {L : Nat → Prop} {b : Nat} {S : AS} {c : Cx} {a : Act} {w : World} (hok : Ok3 P ops) (hT : Chain3 P ops T rv ef) (hI : Inv3 P ops T rv ef L b S) (hR : RelX w0 c S a w)
  (hC : ∀ j o, L j → ops[j]? = some o → ∀ e ∈ o.after, Region.binds .any e = true → L e.on) {i : Nat} {o : Oper} (ho : ops[i]? = some o) (hp : pureO o = false) (hiu : ¬ L i) (hdeps : ∀ e ∈ o.after, Region.binds .any e = true → L e.on) :
  b ≤ i ∧ Inv ops (T b) rv ef (fun j => b ≤ j ∧ j < i) (T i) ∧ Agree ((reads ops o).flatMap fun t => nmR (ez (T i) (.tmp t))) (T i).m S.m ∧ (∀ k ob, ef i = .new k ob → mat S.m k = none) := by
 have hil : i < ops.size := (Array.getElem?_eq_some_iff.1 ho).1; obtain ⟨hn, hval⟩ := ready_val hok hT hI hC ho hiu hdeps
 have hb : b ≤ i := by
  rcases Nat.lt_or_ge i b with h | h
  ·exact absurd (hI.b1 i o h ho hp) hiu
  ·exact h
 have anI : ∀ j, anc ops ops.size i j = true → L j := fun j h => anc_in (L := L) hC (fun o' ho' => by rw [ho] at ho'; injection ho' with ho'; subst ho'; exact hdeps) h
 have pq : ∀ (l : Nat) (o' : Oper), ops[l]? = some o' → ∀ k ob, ef l = .new k ob → pureO o' = false := fun l o' q1 k ob q2 => by
  cases h : pureO o' with
  | false => rfl
  | true => rw [(hT.p l o' q1 h).1] at q2; cases q2
 have quiet : ∀ (l : Nat) (ol : Oper), ops[l]? = some ol → pureO ol = false → l ≤ ops.size → (∀ j, anc ops ops.size l j = true → L j) → ∀ j o', b ≤ j → j < l → ops[j]? = some o' → isQ P o'.op = true := fun l ol hl hpl _ han j o' h1 h2 h3 => by
  cases hq : isQ P o'.op with
  | true => rfl
  | false =>
   rcases hok.q j l o' ol (by omega) h3 hl hq hpl with h | h
   ·have := anc_lt hok.e h; omega
   ·rw [hI.b2 j o' h1 (han j h) h3] at hq; cases hq
 have hTi := chain3_inv hok hT i hb (by omega) (quiet i o ho hp (by omega) anI)
 have hex : ∀ k ∈ (reads ops o).flatMap fun t => nmR (ez (T i) (.tmp t)), ∃ ob', mat S.m k = some ob' := fun k hk => by
  obtain ⟨t, ht, hk⟩ := List.mem_flatMap.1 hk; rw [← ev_same hn (x := .tmp t) fun t' e => by injection e with e; subst e; exact hval _ ht] at hk; exact nm_there (hR.evs (.tmp t)) k hk
 have same : ∀ k ob, mat (T i).m k = some ob → ∀ ob', mat S.m k = some ob' → ob' = ob := fun k ob hob ob' hob' => by
  rcases (hI.m k ob').1 hob' with h6 | ⟨j', h6, h7⟩
  ·have := (hTi.m k ob').2 (.inl h6); rw [hob] at this
   injection this with this
   exact this.symm
  ·have hj's : j' < ops.size := h6.2.2; have ho2 : ops[j']? = some ops[j'] := Array.getElem?_eq_getElem hj's; have hp2 := pq j' _ ho2 k ob' h7; have e2 := ((hT.s j' _ ho2).2.1 k ob' h7)
   rcases (hTi.m k ob).1 hob with h4 | ⟨j, h4, h5⟩
   ·exfalso
    have hTj := chain3_inv hok hT j' h6.1 (by omega) (quiet j' _ ho2 hp2 (by omega) fun j h => anc_in (L := L) hC (fun o'' ho'' => hC j' o'' h6.2.1 ho'') h); have := (hTj.m k ob).2 (.inl h4); rw [e2.2] at this
    cases this
   ·have hoj : ops[j]? = some ops[j] := Array.getElem?_eq_getElem (show j < ops.size by omega); have e1 := ((hT.s j _ hoj).2.1 k ob h5).1
    have hjj : j = j' := Classical.byContradiction fun hne => hok.d j j' _ _ k hne hoj ho2 e1 e2.1
    subst hjj; rw [h5] at h7
    injection h7 with _ h7
    exact h7.symm
 refine ⟨hb, hTi, fun k hk ob hob => ?_, fun k ob he => ?_⟩
 ·obtain ⟨ob', hob'⟩ := hex k hk; rw [hob', same k ob hob ob' hob']
 ·obtain ⟨hd, hnn⟩ := (hT.s i o ho).2.1 k ob he
  cases hk : mat S.m k with
  | none => rfl
  | some ob' =>
   exfalso
   rcases (hI.m k ob').1 hk with h4 | ⟨j, h4, h5⟩
   ·rw [(hTi.m k ob').2 (.inl h4)] at hnn; cases hnn
   ·have hjs : j < ops.size := h4.2.2; have ho' : ops[j]? = some ops[j] := Array.getElem?_eq_getElem hjs; have h6 := ((hT.s j _ ho').2.1 k ob' h5).1
    have hne : i ≠ j := fun e => by subst e; exact hiu h4.2.1
    exact hok.d i j o _ k hne ho ho' hd h6
theorem step_quiet3 {T : Nat → AS} {rv : Nat → SV} {ef : Nat → Ef} {L : Nat → Prop} {b : Nat} {S : AS} {c : Cx} {a : Act} {w : World} (hok : Ok3 P ops) (hT : Chain3 P ops T rv ef) (hI : Inv3 P ops T rv ef L b S) (hR : RelX w0 c S a w)
  (hC : ∀ j o, L j → ops[j]? = some o → ∀ e ∈ o.after, Region.binds .any e = true → L e.on) {i : Nat} {o : Oper} (ho : ops[i]? = some o) (hp : pureO o = false) (hiu : ¬ L i) (hdeps : ∀ e ∈ o.after, Region.binds .any e = true → L e.on) (hq : isQ P o.op = true) :
  opK P ops o S (fun r m' => S.put o.dst r m' = S.put o.dst (rv i) ((ef i).on S.m)) ∧ Inv3 P ops T rv ef (fun j => L j ∨ j = i) b (S.put o.dst (rv i) ((ef i).on S.m)) := by
 have hil : i < ops.size := (Array.getElem?_eq_some_iff.1 ho).1; obtain ⟨hn, hval⟩ := ready_val hok hT hI hC ho hiu hdeps; obtain ⟨hb, hTi, hag, hnone⟩ := ready_mem hok hT hI hR hC ho hp hiu hdeps; obtain ⟨h1, h2⟩ := hT.s i o ho; have h3 := hT.q i o ho hp; have hsets := h2.2 hq
 have hag2 : Look (ef i) ((reads ops o).flatMap fun t => nmR (ez (T i) (.tmp t))) (T i).m S.m := by
  cases he : ef i with
  | upd m1 ks => exact absurd he (hsets.2 m1 ks)
  | set k ob => exact absurd he (hsets.1 k ob)
  | id => exact hag
  | new k ob => exact hag
 obtain ⟨g1, g2⟩ := step_f (m' := (ef i).on S.m) hok hI ho hiu
 have hmem : ∀ k ob, mat ((ef i).on S.m) k = some ob ↔ mat S.m k = some ob ∨ ef i = .new k ob := fun k ob => by
  cases he : ef i with
  | upd m1 ks => exact absurd he (hsets.2 m1 ks)
  | set k ob => exact absurd he (hsets.1 k ob)
  | id => simp [Ef.on]
  | new k' ob' =>
   have hnn := hnone k' ob' he; simp only [Ef.on, mat]
   by_cases e : k' = k
   ·subst e; simp only [if_true, Option.some.injEq]
    constructor
    ·rintro rfl; exact .inr rfl
    ·rintro (h | h)
     ·rw [hnn] at h; cases h
     ·injection h
   ·simp only [e, if_false]
    constructor
    ·exact .inl
    ·rintro (h | h)
     ·exact h
     ·injection h with e1; exact absurd e1 e
 refine ⟨h3.2 S hn hval hag2 hnone _ rfl, hI.n, fun j o' q1 q2 q3 => .inl (hI.b1 j o' q1 q2 q3), fun j o' q1 q2 q3 => ?_, g1, g2, fun k ob => ?_⟩
 ·rcases q2 with q2 | rfl
  ·exact hI.b2 j o' q1 q2 q3
  ·rw [ho] at q3; injection q3 with q3; subst q3; exact hq
 ·show mat ((ef i).on S.m) k = some ob ↔ _
  rw [hmem, hI.m]
  constructor
  ·rintro ((h | ⟨j, ⟨q1, q2, q4⟩, q3⟩) | h)
   ·exact .inl h
   ·exact .inr ⟨j, ⟨q1, .inl q2, q4⟩, q3⟩
   ·exact .inr ⟨i, ⟨hb, .inr rfl, hil⟩, h⟩
  ·rintro (h | ⟨j, ⟨q1, q2 | rfl, q4⟩, q3⟩)
   ·exact .inl (.inl h)
   ·exact .inl (.inr ⟨j, ⟨q1, q2, q4⟩, q3⟩)
   ·exact .inr q3
theorem step_loud3 {T : Nat → AS} {rv : Nat → SV} {ef : Nat → Ef} {L : Nat → Prop} {b : Nat} {S : AS} {c : Cx} {a : Act} {w : World} (hok : Ok3 P ops) (hT : Chain3 P ops T rv ef) (hI : Inv3 P ops T rv ef L b S) (hR : RelX w0 c S a w)
  (hC : ∀ j o, L j → ops[j]? = some o → ∀ e ∈ o.after, Region.binds .any e = true → L e.on) {i : Nat} {o : Oper} (ho : ops[i]? = some o) (hp : pureO o = false) (hiu : ¬ L i) (hdeps : ∀ e ∈ o.after, Region.binds .any e = true → L e.on) (hq : isQ P o.op = false) :
  opK P ops o S (fun r m' => S.put o.dst r m' = S.put o.dst (rv i) ((ef i).on S.m)) ∧ Inv3 P ops T rv ef (fun j => L j ∨ j = i) (i + 1) (S.put o.dst (rv i) ((ef i).on S.m)) := by
 have hil : i < ops.size := (Array.getElem?_eq_some_iff.1 ho).1; obtain ⟨hn, hval⟩ := ready_val hok hT hI hC ho hiu hdeps; obtain ⟨hb, hTi, hag, hnone⟩ := ready_mem hok hT hI hR hC ho hp hiu hdeps; obtain ⟨h1, h2⟩ := hT.s i o ho; have h3 := hT.q i o ho hp
 have anI : ∀ j, anc ops ops.size i j = true → L j := fun j h => anc_in (L := L) hC (fun o' ho' => by rw [ho] at ho'; injection ho' with ho'; subst ho'; exact hdeps) h
 have anJ : ∀ j, L j → anc ops ops.size j i = true → False := fun j hj h => hiu (anc_in (L := L) hC (fun o' ho' => hC j o' hj ho') h)
 have before : ∀ (j : Nat) (o' : Oper), j < i → ops[j]? = some o' → pureO o' = false → L j := fun j o' hji ho' hf' => by
  rcases hok.q i j o o' (by omega) ho ho' hq hf' with h | h
  ·exact anI j h
  ·have := anc_lt hok.e h; omega
 have behind : ∀ (j : Nat) (o' : Oper), i ≤ j → ops[j]? = some o' → pureO o' = false → ¬ L j := fun j o' hij ho' hf' hl => by
  by_cases e : i = j
  ·subst e; exact hiu hl
  ·rcases hok.q i j o o' e ho ho' hq hf' with h | h
   ·have := anc_lt hok.e h; omega
   ·exact anJ j hl h
 have pn : ∀ (j : Nat) (o' : Oper), ops[j]? = some o' → pureO o' = true → ∀ k ob, ef j ≠ .new k ob := fun j o' q1 q2 k ob e => by rw [(hT.p j o' q1 q2).1] at e; cases e
 have hm : ∀ k, mat S.m k = mat (T i).m k := fun k => by
  have key : ∀ ob, mat S.m k = some ob ↔ mat (T i).m k = some ob := fun ob => by
   rw [hI.m, hTi.m]
   constructor
   ·rintro (h | ⟨j, ⟨q1, q2, q4⟩, q3⟩)
    ·exact .inl h
    ·refine .inr ⟨j, ⟨q1, ?_⟩, q3⟩; have ho' : ops[j]? = some ops[j] := Array.getElem?_eq_getElem q4
     rcases Nat.lt_or_ge j i with h | h
     ·exact h
     ·cases hpj : pureO ops[j] with
      | true => exact absurd q3 (pn j _ ho' hpj k ob)
      | false => exact absurd q2 (behind j _ h ho' hpj)
   ·rintro (h | ⟨j, ⟨q1, q2⟩, q3⟩)
    ·exact .inl h
    ·have ho' : ops[j]? = some ops[j] := Array.getElem?_eq_getElem (show j < ops.size by omega); refine .inr ⟨j, ⟨q1, ?_, by omega⟩, q3⟩
     cases hpj : pureO ops[j] with
     | true => exact absurd q3 (pn j _ ho' hpj k ob)
     | false => exact before j _ q2 ho' hpj
  cases h4 : mat (T i).m k with
  | some ob => exact (key ob).2 h4
  | none =>
   cases h5 : mat S.m k with
   | none => rfl
   | some ob => rw [(key ob).1 h5] at h4; cases h4
 obtain ⟨g1, g2⟩ := step_f (m' := (ef i).on S.m) hok hI ho hiu; refine ⟨h3.2 S hn hval (look_full hm) hnone _ rfl, hI.n, fun j o' q1 q2 q3 => ?_, fun j o' q1 q2 q3 => ?_, g1, g2, fun k ob => ?_⟩
 ·rcases Nat.lt_or_ge j i with h | h
  ·exact .inl (before j o' h q2 q3)
  ·exact .inr (by omega)
 ·cases hpj : pureO o' with
  | true => exact pure_quiet hpj
  | false =>
   rcases q2 with q2 | rfl
   ·exact absurd q2 (behind j o' (by omega) q3 hpj)
   ·omega
 ·have hno : ¬ ∃ j, (i + 1 ≤ j ∧ (L j ∨ j = i) ∧ j < ops.size) ∧ ef j = .new k ob := fun ⟨j, ⟨q1, q2, q4⟩, q3⟩ => by
   have ho' : ops[j]? = some ops[j] := Array.getElem?_eq_getElem q4
   rcases q2 with q2 | rfl
   ·cases hpj : pureO ops[j] with
    | true => exact pn j _ ho' hpj k ob q3
    | false => exact behind j _ (by omega) ho' hpj q2
   ·omega
  show mat ((ef i).on S.m) k = some ob ↔ _
  rw [h1]; simp only [hno, or_false]
  show _ ↔ mat ((ef i).on (T i).m) k = some ob
  have hk := hm k
  cases he : ef i with
  | id => simp only [Ef.on]; rw [hk]
  | new k' ob' => simp only [Ef.on, mat]; rw [hk]
  | set k' ob' =>
   simp only [Ef.on]
   by_cases e : k = k'
   ·subst e
    cases h4 : mat (T i).m k with
    | none => rw [mat_set_none h4, mat_set_none (by rw [hk]; exact h4)]
    | some ob2 => rw [mat_set_same h4, mat_set_same (by rw [hk]; exact h4)]
   ·rw [mat_set_other e, mat_set_other e, hk]
  | upd m1 ks => simp only [Ef.on]; rw [mat_app, mat_app, mat_mdelL, mat_mdelL, hk]
theorem sim_far3 {T : Nat → AS} {rv : Nat → SV} {ef : Nat → Ef} (hok : Ok3 P ops) (hT : Chain3 P ops T rv ef) (hQ : ∀ a w, Rel w0 (T ops.size) a w → Q .normal a w) :
  ∀ (m : Nat) (listed : Array Bool) (b : Nat) (S : AS) (a : Act) (w : World), listed.size = ops.size → b ≤ ops.size → (∀ j o, listed.getD j false = true → ops[j]? = some o → ∀ e ∈ o.after, Region.binds .any e = true → listed.getD e.on false = true) →
   Inv3 P ops T rv ef (fun i => listed.getD i false = true) b S → Rel w0 S a w → ((List.range ops.size).filter fun i => !listed.getD i false).length ≤ m → wpAny P .any ops Q m listed a w := by
 have gdd : ∀ {listed : Array Bool} {i : Nat}, listed.size = ops.size → i < ops.size → listed.getD i true = listed.getD i false := fun hs hi => by
  simp [Array.getD, hs, hi]
 -- nothing is ready: all are listed
 have fin : ∀ (listed : Array Bool) (b : Nat) (S : AS) (a : Act) (w : World), listed.size = ops.size → b ≤ ops.size → Inv3 P ops T rv ef (fun i => listed.getD i false = true) b S → Rel w0 S a w → Region.ready .any ops listed = [] → Q .normal a w := by
  intro listed b S a w hs hbs hI hR hr
  have hall : ∀ i, i < ops.size → listed.getD i false = true := by
   intro i
   induction i using Nat.strongRecOn with
   | _ i ih =>
    intro hi
    cases hl : listed.getD i false with
    | true => rfl
    | false =>
     have : i ∈ Region.ready .any ops listed := mem_ready.2 ⟨by rw [gdd hs hi]; exact hl, ops[i], Array.getElem?_eq_getElem hi, fun e he hb => by
      have := hok.e i _ (Array.getElem?_eq_getElem hi) e he hb
      exact ih e.on this (by omega)⟩
     rw [hr] at this
     cases this
  have hTi := chain3_inv hok hT ops.size hbs (Nat.le_refl _) fun j o h1 h2 h3 => hI.b2 j o h1 (hall j h2) h3
  obtain ⟨e1, e2, e3⟩ := chain3_f hok hT ops.size (Nat.le_refl _)
  have sz : ∀ {i : Nat} {o : Oper}, ops[i]? = some o → i < ops.size := fun ho => (Array.getElem?_eq_some_iff.1 ho).1
  refine hQ a w (hR.eqv ⟨e1.trans hI.n.symm, fun t => ?_, fun k => ?_⟩)
  ·by_cases hx : ∃ (j : Nat) (o' : Oper), ops[j]? = some o' ∧ o'.dst = some t
   ·obtain ⟨j, o', ho', ht'⟩ := hx; rw [hI.f1 j o' t (hall j (sz ho')) ho' ht', e2 j o' t (sz ho') ho' ht']
   ·rw [hI.f2 t fun j o' _ q2 q3 => hx ⟨j, o', q2, q3⟩, e3 t fun j o' _ q2 q3 => hx ⟨j, o', q2, q3⟩]
  ·have key : ∀ ob, mat S.m k = some ob ↔ mat (T ops.size).m k = some ob := fun ob => by
    rw [hI.m, hTi.m]
    constructor
    ·rintro (h | ⟨j, ⟨q1, q2, q4⟩, q3⟩)
     ·exact .inl h
     ·exact .inr ⟨j, ⟨q1, q4⟩, q3⟩
    ·rintro (h | ⟨j, ⟨q1, q2⟩, q3⟩)
     ·exact .inl h
     ·exact .inr ⟨j, ⟨q1, hall j q2, q2⟩, q3⟩
   cases h4 : mat S.m k with
   | some ob => exact (key ob).1 h4
   | none =>
    cases h5 : mat (T ops.size).m k with
    | none => rfl
    | some ob => rw [(key ob).2 h5] at h4; cases h4
 intro m
 induction m with
 | zero =>
  intro listed b S a w hs hbs hC hI hR hm
  have hr : Region.ready .any ops listed = [] := by
   cases hx : Region.ready .any ops listed with
   | nil => rfl
   | cons i r =>
    have hi : i ∈ Region.ready .any ops listed := by rw [hx]; exact List.mem_cons_self
    obtain ⟨h1, o, h2, _⟩ := mem_ready.1 hi; have hil := (Array.getElem?_eq_some_iff.1 h2).1
    have : i ∈ (List.range ops.size).filter fun i => !listed.getD i false := List.mem_filter.2 ⟨List.mem_range.2 hil, by rw [← gdd hs hil, h1]; rfl⟩
    have := List.length_pos_of_mem this
    omega
  exact ⟨hr, fin listed b S a w hs hbs hI hR hr⟩
 | succ m ih =>
  intro listed b S a w hs hbs hC hI hR hm; refine ⟨fin listed b S a w hs hbs hI hR, fun i hi => ?_⟩; obtain ⟨hiu, o, ho, hdeps⟩ := mem_ready.1 hi; have hil := (Array.getElem?_eq_some_iff.1 ho).1
  have hiu' : ¬ listed.getD i false = true := by rw [← gdd hs hil, hiu]; decide
  have hset : ∀ k, (listed.setIfInBounds i true).getD k false = true ↔ listed.getD k false = true ∨ k = i := by
   intro k
   by_cases hk : i = k
   ·subst hk; simp [Array.getD, hs, hil]
   ·rw [getD_set_ne false hk]
    constructor
    ·exact .inl
    ·rintro (h | h)
     ·exact h
     ·exact absurd h.symm hk
  have hfun : (fun k => (listed.setIfInBounds i true).getD k false = true) = fun k => listed.getD k false = true ∨ k = i := by
   funext k
   exact propext (hset k)
  have hC' : ∀ j o, (listed.setIfInBounds i true).getD j false = true → ops[j]? = some o → ∀ e ∈ o.after, Region.binds .any e = true → (listed.setIfInBounds i true).getD e.on false = true := by
   intro j o' hj ho' e he hb; rw [hset] at hj ⊢
   rcases hj with hj | rfl
   ·exact .inl (hC j o' hj ho' e he hb)
   ·rw [ho] at ho'
    injection ho' with ho'
    subst ho'; exact .inl (hdeps e he hb)
  have hcount : ((List.range ops.size).filter fun k => !(listed.setIfInBounds i true).getD k false).length ≤ m := by
   have h1 : ((List.range ops.size).filter fun k => !(listed.setIfInBounds i true).getD k false).length < ((List.range ops.size).filter fun k => !listed.getD k false).length := by
    have e : (List.range ops.size).filter (fun k => !(listed.setIfInBounds i true).getD k false) = ((List.range ops.size).filter fun k => !listed.getD k false).filter fun k => k != i := by
     rw [List.filter_filter]
     apply List.filter_congr
     intro k _
     by_cases hk : k = i
     ·subst hk; have := (hset k).2 (.inr rfl); simp [this]
     ·have : (listed.setIfInBounds i true).getD k false = listed.getD k false := getD_set_ne false (fun h => hk h.symm); simp [this, hk]
    rw [e]; refine List.length_filter_lt_length_iff_exists.2 ⟨i, List.mem_filter.2 ⟨List.mem_range.2 hil, by simp [Bool.eq_false_iff.2 hiu']⟩, by simp⟩
   omega
  obtain ⟨c, hR'⟩ := hR
  have go : ∀ (b' : Nat) (S1 : AS), b' ≤ ops.size → opK P ops o S (fun r m' => S.put o.dst r m' = S1) → Inv3 P ops T rv ef (fun k => listed.getD k false = true ∨ k = i) b' S1 → wpOp P ops Q i (wpAny P .any ops Q m (listed.setIfInBounds i true)) a w := by
   intro b' S1 hb' hK hI1; have h1 := sim_op (Q := Q) hR' hK; unfold wpOp; simp only [ho]
   split at h1
   ·rename_i hw
    rw [if_pos hw]; exact .inl (Oper.wp_mono (fun a' w' ⟨r, m', h2, h3⟩ => ih _ b' S1 a' w' (by simp [hs]) hb' hC' (hfun ▸ hI1) (h2 ▸ h3) hcount) h1)
   ·rename_i hw
    rw [if_neg hw]; obtain ⟨r, m', h2, h3⟩ := h1; exact ih _ b' S1 _ w (by simp [hs]) hb' hC' (hfun ▸ hI1) (h2 ▸ h3) hcount
  cases hf : pureO o with
  | true =>
   obtain ⟨h1, h2⟩ := step_pure hok hT hI hC ho hf hiu' hdeps; exact go b _ hbs h1 h2
  | false =>
   cases hq : isQ P o.op with
   | true =>
    obtain ⟨h1, h2⟩ := step_quiet3 hok hT hI hR' hC ho hf hiu' hdeps hq; exact go b _ hbs h1 h2
   | false =>
    obtain ⟨h1, h2⟩ := step_loud3 hok hT hI hR' hC ho hf hiu' hdeps hq; exact go (i + 1) _ (by omega) h1 h2
theorem sim_region3 {id : Nat} {l : List Oper} {S : AS} {a : Act} {w : World} (hm : P.follows .mixedOrders = true) (hok : regOk3 P l.toArray = true) (hR : Rel w0 S a w) (hK : aops P l.toArray KF l S) (hQ : ∀ S a w, KF S → Rel w0 S a w → Q .normal a w) : (Code.region id l.toArray true).wp P Q a w := by
 have ok := regOk3_spec hok; refine wp_region_any hm ?_; obtain ⟨T, rv, ef, h1, h2, h3⟩ := chain3_of (P := P) (ops := l.toArray) (KF := KF) ok.n l 0 S (by simp) hK; simp only [Nat.zero_add] at h2; have hT : Chain3 P l.toArray T rv ef := ⟨fun i o ho => (h3 i o (Nat.zero_le _) ho).1, fun i o ho => (h3 i o (Nat.zero_le _) ho).2.1, fun i o ho => (h3 i o (Nat.zero_le _) ho).2.2⟩
 have hz : ∀ k, (Array.replicate l.toArray.size false).getD k false = true → False := fun k h => by
  simp only [Array.getD] at h
  split at h
  ·simp at h
  ·cases h
 refine sim_far3 (w0 := w0) (S := S) (b := 0) ok hT (fun a w h => hQ _ a w h2 (by simpa using h)) l.toArray.size _ a _ (by simp) (Nat.zero_le _) (fun j o h => (hz j h).elim) ⟨?_, fun i o h => absurd h (Nat.not_lt_zero _), fun i o _ h => (hz i h).elim, fun i o t h => (hz i h).elim, fun t _ => ?_, fun k ob => ?_⟩ ?_ ?_
 ·rw [h1]
 ·rw [h1]
 ·rw [h1]; exact ⟨.inl, fun h => h.elim (fun h => h) fun ⟨i, h, _⟩ => (hz i h.2.1).elim⟩
 ·obtain ⟨c, h⟩ := hR; have hmn : Mon c S.m w c S.m w.drew := ⟨rfl, fun _ h => h, fun _ _ _ => rfl, fun k cs hk => ⟨rfl, cs, hk⟩, fun k fr sz T xs hk => ⟨fr, xs, hk, Nat.le_refl _, fun _ => rfl⟩, fun k fr kk es hk => ⟨rfl, fr, kk, es, hk⟩, fun k fr mk rem la hk => ⟨rfl, rfl, rfl, fr, rem, la, hk⟩⟩; exact ⟨c, h.go hmn h.ext.drew h.xl h.xo (fun k o hk => RelO.mon hmn (h.mem k o hk) hk hk (fun b hb => ⟨rfl, (h.bk hk b hb).2.2⟩) rfl) h.dis⟩
 ·have := List.length_filter_le (fun i => !(Array.replicate l.toArray.size false).getD i false) (List.range l.toArray.size)
  simpa using this
end
theorem sw_region3 {P : Program} {Q : Exit → AS → Prop} {S : AS} {id : Nat} {l : List Oper} (hm : P.follows .mixedOrders = true) (hok : regOk3 P l.toArray = true) (h : aops P l.toArray (Q .normal) l S) : SW P (.region id l.toArray true) Q S := fun _ _ _ hr =>
 sim_region3 hm hok hr h fun S' _ _ h1 h2 => ⟨S', h1, h2⟩
end Go.Proofs.YtbgifiijjjoebaaGreatDoor
