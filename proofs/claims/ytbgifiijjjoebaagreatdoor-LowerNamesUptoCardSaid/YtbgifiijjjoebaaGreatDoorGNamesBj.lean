/- Regions: what moves or reckons may stay behind what writes, a load of a block of the call's own behind calls. No conditions. -/
import Derived.Test.YtbgifiijjjoebaaGreatDoorGNamesBh
namespace Go.Proofs.YtbgifiijjjoebaaGreatDoor
open Go.RowKit

def ldO (o : Oper) : Option Nat :=
 match o.op, o.guard with
 | .load _ (.tmp t), none => some t
 | _, _ => none
def lateB (ops : Array Oper) (j : Nat) : Bool :=
 match (ops[j]?).bind ldO with
 | some t => ops.all fun o => o.dst != some t
 | none => false
def softB (ops : Array Oper) (j : Nat) : Bool := pureAt ops j || lateB ops j
def callL (P : Program) (o : Oper) : Bool :=
 match o.op, o.guard with
 | .call { callee := .value (.func f), .. }, none => loudP P f
 | _, _ => false
def callAt (P : Program) (ops : Array Oper) (i : Nat) : Bool := ((ops[i]?).map (callL P)).getD false
def lateS (ops : Array Oper) : List Nat := (List.range ops.size).filterMap fun j => if lateB ops j then (ops[j]?).bind ldO else none
def regOk4 (P : Program) (ops : Array Oper) : Bool :=
 (List.range ops.size).all fun i =>
  (((ops[i]?).map fun o => o.after.all fun e => !Region.binds .any e || decide (e.on < i)).getD true) && !(((ops[i]?).map fun o => isN o.op).getD false) &&
  (List.range ops.size).all fun j => i == j || (disB ops i j && rdB ops i j && (quietAt P ops i || pureAt ops j || (lateB ops j && callAt P ops i) || anc ops ops.size i j || anc ops ops.size j i))
section
variable {P : Program} {ops : Array Oper} {Q : Exit → Act → World → Prop} {w0 : Beg} {KF : AS → Prop}
theorem ld_op {o : Oper} {t : Nat} (h : ldO o = some t) : ∃ T, o.op = .load T (.tmp t) ∧ o.guard = none := by
 unfold ldO at h
 split at h
 ·rename_i T t' h1 h2; injection h with h; subst h; exact ⟨T, h1, h2⟩
 ·cases h
def LAl (P : Program) (ops : Array Oper) (o : Oper) (t : Nat) (S : AS) (r : SV) : Prop := ∀ S' : AS, S'.n = S.n → S'.f t = S.f t → Agree (nmR (ez S (.tmp t))) S.m S'.m → ∀ K' : SV → Mem → Prop, K' r S'.m → opK P ops o S' K'
theorem ld_alike {o : Oper} {t : Nat} {S : AS} {K : SV → Mem → Prop} (h : ldO o = some t) (hK : opK P ops o S K) : ∃ r, K r S.m ∧ LAl P ops o t S r := by
 obtain ⟨T, h1, h2⟩ := ld_op h; obtain ⟨hd, hK⟩ := hK; simp only [h2, astep, h1] at hK
 split at hK
 ·rename_i g n hl
  obtain ⟨r, e, q1, q2, q3⟩ := loadK_q (d := none) (m := S.m) g n (toE (ez S (.tmp t))) K hK
  have he : e = .id := by
   rcases q2 with q2 | ⟨_, _, _, q2, _⟩
   ·exact q2
   ·cases q2
  subst he; refine ⟨r, q1, fun S' hn hf ha K' hK' => ⟨fun t ht => hn ▸ hd t ht, ?_⟩⟩
  have e1 : ez S' (.tmp t) = ez S (.tmp t) := ev_same hn fun t' e => by injection e with e; subst e; exact hf
  simp only [h2, astep, h1, hl, e1]; exact q3 S'.m (by rw [nm_toE]; exact ha) (fun _ _ h => by cases h) K' hK'
 ·exact hK.elim
theorem call_alike {o : Oper} {S : AS} {K : SV → Mem → Prop} (h : callL P o = true) (hK : opK P ops o S K) : ∃ r m1 ks, K r (Ef.on (.upd m1 ks) S.m) ∧ Alike P ops o S r (.upd m1 ks) := by
 unfold callL at h
 split at h
 ·rename_i f al ts ho hg
  obtain ⟨hd, hK⟩ := hK; simp only [hg, astep, ho, h] at hK; obtain ⟨r, m1, ks, h1, h0, h2⟩ := callM_q hK; refine ⟨r, m1, ks, h1, ⟨(fun _ _ h => by cases h), (fun _ _ h => by injection h with e1 e2; subst e1; subst e2; exact h0)⟩, fun S' hn hf ha _ K' hK' => ⟨by rw [hn]; exact hd, ?_⟩⟩
  have hs : al.toList.map (ez S') = al.toList.map (ez S) := List.map_congr_left fun x hx => ev_same hn fun t ht => hf t (List.mem_append_left _ (List.mem_filterMap.2 ⟨x, by simp [ho, Op.operands, Call.operands]; exact .inr (by simpa using hx), ht⟩))
  simp only [hg, astep, ho, h]; rw [hs]; exact h2 S'.m ha.1 ha.2.2 K' hK'
 ·cases h
theorem call_loud {o : Oper} (h : callL P o = true) : isQ P o.op = false := by
 unfold callL at h
 split at h
 ·rename_i f al ts ho hg; rw [ho]; simp [isQ, h]
 ·cases h
theorem late_ld {j : Nat} {o : Oper} (ho : ops[j]? = some o) (h : lateB ops j = true) : ∃ t, ldO o = some t ∧ ∀ (i : Nat) (o' : Oper), ops[i]? = some o' → o'.dst ≠ some t := by
 unfold lateB at h; rw [ho, Option.bind_some] at h
 split at h
 ·rename_i t ht
  refine ⟨t, ht, fun i o' ho' => ?_⟩; rw [Array.all_eq_true_iff_forall_mem] at h
  simpa using h o' (Array.mem_of_getElem? ho')
 ·cases h
theorem soft_quiet {j : Nat} {o : Oper} (ho : ops[j]? = some o) (h : softB ops j = true) : isQ P o.op = true := by
 unfold softB at h; rw [Bool.or_eq_true] at h
 rcases h with h | h
 ·exact pure_quiet (by simpa [pureAt, ho] using h)
 ·obtain ⟨t, ht, _⟩ := late_ld ho h; obtain ⟨T, h1, _⟩ := ld_op ht
  rw [h1]; rfl
theorem soft_no {j : Nat} {o : Oper} (ho : ops[j]? = some o) (h : softB ops j = false) : pureO o = false ∧ lateB ops j = false := by
 unfold softB at h; rw [Bool.or_eq_false_iff] at h; exact ⟨by simpa [pureAt, ho] using h.1, h.2⟩
structure Chain4 (P : Program) (ops : Array Oper) (T : Nat → AS) (rv : Nat → SV) (ef : Nat → Ef) : Prop where
 s : ∀ i (o : Oper), ops[i]? = some o → T (i + 1) = (T i).put o.dst (rv i) ((ef i).on (T i).m) ∧ isNew (isQ P o.op) o.dst (T i).m (ef i)
 p : ∀ i (o : Oper), ops[i]? = some o → pureO o = true → ef i = .id ∧ PAl P ops o (T i) (rv i)
 l : ∀ i (o : Oper) (t : Nat), ops[i]? = some o → ldO o = some t → ef i = .id ∧ LAl P ops o t (T i) (rv i)
 c : ∀ i (o : Oper), ops[i]? = some o → callL P o = true → ∃ m1 ks, ef i = .upd m1 ks
 q : ∀ i (o : Oper), ops[i]? = some o → pureO o = false → Alike P ops o (T i) (rv i) (ef i)
theorem lal_alike {o : Oper} {t : Nat} {S : AS} {r : SV} (ht : ldO o = some t) (h : LAl P ops o t S r) : Alike P ops o S r .id := by
 obtain ⟨T, h1, h2⟩ := ld_op ht; have hm : t ∈ reads ops o := List.mem_append_left _ (List.mem_filterMap.2 ⟨.tmp t, by rw [h1]; simp [Op.operands], rfl⟩); exact ⟨⟨(fun _ _ e => by cases e), (fun _ _ e => by cases e)⟩, fun S' hn hf ha _ K' hK' => h S' hn (hf t hm) (fun k hk ob hob => ha k (List.mem_flatMap.2 ⟨t, hm, hk⟩) ob hob) K' hK'⟩
theorem one_of {o : Oper} {S : AS} {K : SV → Mem → Prop} (hN : isN o.op = false) (h : opK P ops o S K) : ∃ rv0 e0, K rv0 (Ef.on e0 S.m) ∧ isNew (isQ P o.op) o.dst S.m e0 ∧ (pureO o = true → e0 = .id ∧ PAl P ops o S rv0) ∧ (∀ t, ldO o = some t → e0 = .id ∧ LAl P ops o t S rv0) ∧ (callL P o = true → ∃ m1 ks, e0 = .upd m1 ks) ∧ (pureO o = false → Alike P ops o S rv0 e0) := by
 have hpl : ∀ t, pureO o = true → ldO o = some t → False := fun t hp hl => by
  obtain ⟨T, h1, h2⟩ := ld_op hl; simp [pureO, h1, h2] at hp
 cases hp : pureO o with
 | true =>
  obtain ⟨r0, q1, q2⟩ := pure_alike hp h; exact ⟨r0, .id, q1, ⟨fun _ _ e => (by cases e), fun _ => ⟨fun _ _ e => (by cases e), fun _ _ e => (by cases e)⟩⟩, fun _ => ⟨rfl, q2⟩, fun t ht => (hpl t hp ht).elim, fun hc => (by have := call_loud hc; rw [pure_quiet hp] at this; cases this), fun e => by cases e⟩
 | false =>
  cases hl : ldO o with
  | some t =>
   obtain ⟨r0, q1, q2⟩ := ld_alike hl h; refine ⟨r0, .id, q1, ⟨fun _ _ e => (by cases e), fun _ => ⟨fun _ _ e => (by cases e), fun _ _ e => (by cases e)⟩⟩, fun e => (by cases e), fun t' ht' => (by injection ht' with ht'; subst ht'; exact ⟨rfl, q2⟩), fun hc => ?_, fun _ => lal_alike hl q2⟩; obtain ⟨T, h1, _⟩ := ld_op hl; have := call_loud hc
   rw [h1] at this; cases this
  | none =>
   cases hc : callL P o with
   | true =>
    obtain ⟨r0, m1, ks, q1, q2⟩ := call_alike hc h; exact ⟨r0, .upd m1 ks, q1, ⟨fun _ _ e => (by cases e), fun e => (by rw [call_loud hc] at e; cases e)⟩, fun e => (by cases e), fun t e => (by cases e), fun _ => ⟨m1, ks, rfl⟩, fun _ => q2⟩
   | false =>
    obtain ⟨r0, e0, q1, q2, q3⟩ := opK_alike h hN; exact ⟨r0, e0, q1, q2, fun e => (by cases e), fun t e => (by cases e), fun e => (by cases e), fun _ => q3⟩
theorem chain4_of (hN : ∀ (i : Nat) (o : Oper), ops[i]? = some o → isN o.op = false) : ∀ (l : List Oper) (k : Nat) (S : AS), (∀ j, l[j]? = ops[k + j]?) → aops P ops KF l S →
  ∃ (T : Nat → AS) (rv : Nat → SV) (ef : Nat → Ef), T k = S ∧ KF (T (k + l.length)) ∧ ∀ i (o : Oper), k ≤ i → ops[i]? = some o → (T (i + 1) = (T i).put o.dst (rv i) ((ef i).on (T i).m) ∧ isNew (isQ P o.op) o.dst (T i).m (ef i)) ∧ (pureO o = true → ef i = .id ∧ PAl P ops o (T i) (rv i)) ∧ (∀ t, ldO o = some t → ef i = .id ∧ LAl P ops o t (T i) (rv i)) ∧ (callL P o = true → ∃ m1 ks, ef i = .upd m1 ks) ∧ (pureO o = false → Alike P ops o (T i) (rv i) (ef i))
 | [], k, S, hl, h => by
  refine ⟨fun _ => S, fun _ => .u, fun _ => .id, rfl, h, fun i o hi ho => ?_⟩; have := hl (i - k); rw [show k + (i - k) = i by omega, ho] at this; simp at this
 | o :: r, k, S, hl, h => by
  have h0 : ops[k]? = some o := by simpa using (hl 0).symm
  have hl' : ∀ j, r[j]? = ops[k + 1 + j]? := fun j => by have := hl (j + 1); simpa [Nat.add_assoc, Nat.add_comm 1 j] using this
  have h : opK P ops o S fun rv m' => aops P ops KF r (S.put o.dst rv m') := h
  obtain ⟨rv0, e0, h1, h2, h3⟩ := one_of (hN k o h0) h; obtain ⟨T, rv, ef, h4, h5, h6⟩ := chain4_of hN r (k + 1) _ hl' h1; refine ⟨fun i => if i ≤ k then S else T i, fun i => if i = k then rv0 else rv i, fun i => if i = k then e0 else ef i, by simp, ?_, fun i o' hi ho => ?_⟩
  ·show KF (if k + (r.length + 1) ≤ k then S else T (k + (r.length + 1)))
   rw [if_neg (by omega), show k + (r.length + 1) = k + 1 + r.length by omega]; exact h5
  ·by_cases e : i = k
   ·subst e; rw [h0] at ho
    injection ho with ho
    subst ho; simp only [Nat.le_refl, if_true, show ¬ i + 1 ≤ i by omega, if_false]; exact ⟨⟨h4, h2⟩, h3⟩
   ·simp only [show ¬ i ≤ k by omega, show ¬ i + 1 ≤ k by omega, if_false, e]; exact h6 i o' (by omega) ho
structure Ok4 (P : Program) (ops : Array Oper) : Prop where
 e : ∀ (i : Nat) (o : Oper), ops[i]? = some o → ∀ e ∈ o.after, Region.binds .any e = true → e.on < i
 n : ∀ (i : Nat) (o : Oper), ops[i]? = some o → isN o.op = false
 d : ∀ (i j : Nat) (o o' : Oper) (t : Nat), i ≠ j → ops[i]? = some o → ops[j]? = some o' → o.dst = some t → o'.dst ≠ some t
 r : ∀ (i j : Nat) (o o' : Oper) (t : Nat), i ≠ j → ops[i]? = some o → ops[j]? = some o' → o'.dst = some t → t ∈ reads ops o → anc ops ops.size i j = true ∨ anc ops ops.size j i = true
 q : ∀ (i j : Nat) (o o' : Oper), i ≠ j → ops[i]? = some o → ops[j]? = some o' → isQ P o.op = false → softB ops j = false → anc ops ops.size i j = true ∨ anc ops ops.size j i = true
 c : ∀ (i j : Nat) (o o' : Oper), i ≠ j → ops[i]? = some o → ops[j]? = some o' → isQ P o.op = false → pureO o' = false → callL P o = true ∨ anc ops ops.size i j = true ∨ anc ops ops.size j i = true
theorem regOk4_spec (h : regOk4 P ops = true) : Ok4 P ops := by
 simp only [regOk4, List.all_eq_true, List.mem_range, Bool.and_eq_true] at h
 have sz : ∀ {i : Nat} {o : Oper}, ops[i]? = some o → i < ops.size := fun ho => (Array.getElem?_eq_some_iff.1 ho).1
 have pr : ∀ i j, i ≠ j → i < ops.size → j < ops.size → disB ops i j = true ∧ rdB ops i j = true ∧ (quietAt P ops i || pureAt ops j || (lateB ops j && callAt P ops i) || anc ops ops.size i j || anc ops ops.size j i) = true := fun i j hne hi hj => by
  have := (h i hi).2 j hj; simp only [Bool.or_eq_true, beq_iff_eq, hne, false_or, Bool.and_eq_true] at this; refine ⟨this.1.1, this.1.2, ?_⟩
  simpa only [Bool.or_eq_true, Bool.and_eq_true] using this.2
 refine ⟨fun i o ho e he hb => ?_, fun i o ho => ?_, fun i j o o' t hne ho ho' ht ht' => ?_, fun i j o o' t hne ho ho' ht hr => ?_, fun i j o o' hne ho ho' hq hf => ?_, fun i j o o' hne ho ho' hq hf => ?_⟩
 ·have h1 := (h i (sz ho)).1.1; rw [ho, Option.map_some, Option.getD_some, Array.all_eq_true_iff_forall_mem] at h1
  simpa [hb] using h1 e he
 ·have h1 := (h i (sz ho)).1.2
  simpa [ho] using h1
 ·have := (pr i j hne (sz ho) (sz ho')).1; simp [disB, ho, ho', ht, ht'] at this
 ·have := (pr i j hne (sz ho) (sz ho')).2.1; simp only [rdB, ho, ho', Option.bind_some, ht, Bool.or_eq_true, Bool.not_eq_true', List.contains_eq_mem, decide_eq_false_iff_not] at this
  rcases this with (h | h) | h
  ·exact absurd hr h
  ·exact .inl h
  ·exact .inr h
 ·have := (pr i j hne (sz ho) (sz ho')).2.2; obtain ⟨h1, h2⟩ := soft_no ho' hf; simp only [quietAt, pureAt, ho, ho', Option.map_some, Option.getD_some, hq, h1, h2, Bool.or_eq_true, Bool.false_and, Bool.false_eq_true, false_or] at this; exact this
 ·have := (pr i j hne (sz ho) (sz ho')).2.2; simp only [quietAt, pureAt, callAt, ho, ho', Option.map_some, Option.getD_some, hq, hf, Bool.or_eq_true, Bool.and_eq_true, Bool.false_eq_true, false_or] at this
  rcases this with (h | h) | h
  ·exact .inl h.2
  ·exact .inr (.inl h)
  ·exact .inr (.inr h)
theorem chain4_f {T : Nat → AS} {rv : Nat → SV} {ef : Nat → Ef} (hok : Ok4 P ops) (hT : Chain4 P ops T rv ef) : ∀ i, i ≤ ops.size → (T i).n = (T 0).n ∧ (∀ j (o : Oper) t, j < i → ops[j]? = some o → o.dst = some t → (T i).f t = rv j) ∧ ∀ t, (∀ j (o : Oper), j < i → ops[j]? = some o → o.dst ≠ some t) → (T i).f t = (T 0).f t
 | 0, _ => ⟨rfl, fun _ _ _ h => absurd h (Nat.not_lt_zero _), fun _ _ => rfl⟩
 | i + 1, hi => by
  obtain ⟨h1, h2, h3⟩ := chain4_f hok hT i (by omega); have ho : ops[i]? = some ops[i] := Array.getElem?_eq_getElem (by omega); rw [(hT.s i _ ho).1]; refine ⟨h1, fun j o t hj ho' ht => ?_, fun t ht => ?_⟩
  ·by_cases e : j = i
   ·subst e; rw [ho] at ho'; injection ho' with ho'; subst ho'; rw [ht, put_at]
   ·rw [put_f fun e2 => hok.d i j _ o t (fun e3 => e e3.symm) ho ho' e2 ht]; exact h2 j o t (by omega) ho' ht
  ·rw [put_f fun e2 => ht i _ (by omega) ho e2]
   exact h3 t fun j o hj => ht j o (by omega)
theorem chain4_inv {T : Nat → AS} {rv : Nat → SV} {ef : Nat → Ef} (hok : Ok4 P ops) (hT : Chain4 P ops T rv ef) {b : Nat} : ∀ i, b ≤ i → i ≤ ops.size → (∀ (j : Nat) (o : Oper), b ≤ j → j < i → ops[j]? = some o → isQ P o.op = true) → Inv ops (T b) rv ef (fun j => b ≤ j ∧ j < i) (T i) := by
 intro i hi
 induction i with
 | zero =>
  intro _ _
  have : b = 0 := by omega
  subst this; exact ⟨rfl, fun _ _ _ h => absurd h.2 (Nat.not_lt_zero _), fun _ _ => rfl, fun k ob => ⟨.inl, fun h => h.elim (fun h => h) fun ⟨_, h, _⟩ => absurd h.2 (Nat.not_lt_zero _)⟩⟩
 | succ i ih =>
  intro his hq
  by_cases hb : b = i + 1
  ·subst hb; exact ⟨rfl, fun j _ _ h => absurd h.2 (by omega), fun _ _ => rfl, fun k ob => ⟨.inl, fun h => h.elim (fun h => h) fun ⟨_, h, _⟩ => absurd h.2 (by omega)⟩⟩
  ·have ih := ih (by omega) (by omega) fun j o h1 h2 => hq j o h1 (by omega)
   have ho : ops[i]? = some ops[i] := Array.getElem?_eq_getElem (by omega); obtain ⟨h1, h2⟩ := hT.s i _ ho; rw [h1]
   exact Inv.congr (Inv.put ih ho (fun j o' t hj ho' ht ht' => hok.d i j _ _ t (by omega) ho ho' ht ht') (h2.2 (hq i _ (by omega) (by omega) ho)) fun k ob he => (h2.1 k ob he).2) fun j => by omega
structure Inv4 (P : Program) (ops : Array Oper) (T : Nat → AS) (rv : Nat → SV) (ef : Nat → Ef) (L : Nat → Prop) (b : Nat) (S : AS) : Prop where
 n : S.n = (T 0).n
 b1 : ∀ (i : Nat) (o : Oper), i < b → ops[i]? = some o → softB ops i = false → L i
 b2 : ∀ (i : Nat) (o : Oper), b ≤ i → L i → ops[i]? = some o → isQ P o.op = true
 f1 : ∀ (i : Nat) (o : Oper) (t : Nat), L i → ops[i]? = some o → o.dst = some t → S.f t = rv i
 f2 : ∀ t, (∀ (i : Nat) (o : Oper), L i → ops[i]? = some o → o.dst ≠ some t) → S.f t = (T 0).f t
 m : ∀ k ob, mat S.m k = some ob ↔ mat (T b).m k = some ob ∨ ∃ i, (b ≤ i ∧ L i ∧ i < ops.size) ∧ ef i = .new k ob
theorem ready_val4 {T : Nat → AS} {rv : Nat → SV} {ef : Nat → Ef} {L : Nat → Prop} {b : Nat} {S : AS} (hok : Ok4 P ops) (hT : Chain4 P ops T rv ef) (hI : Inv4 P ops T rv ef L b S)
  (hC : ∀ j o, L j → ops[j]? = some o → ∀ e ∈ o.after, Region.binds .any e = true → L e.on) {i : Nat} {o : Oper} (ho : ops[i]? = some o) (hiu : ¬ L i) (hdeps : ∀ e ∈ o.after, Region.binds .any e = true → L e.on) :
  S.n = (T i).n ∧ ∀ t ∈ reads ops o, S.f t = (T i).f t := by
 have hil : i < ops.size := (Array.getElem?_eq_some_iff.1 ho).1; obtain ⟨h1, h2, h3⟩ := chain4_f hok hT i (by omega)
 have anI : ∀ j, anc ops ops.size i j = true → L j := fun j h => anc_in (L := L) hC (fun o' ho' => by rw [ho] at ho'; injection ho' with ho'; subst ho'; exact hdeps) h
 have anJ : ∀ j, L j → anc ops ops.size j i = true → False := fun j hj h => hiu (anc_in (L := L) hC (fun o' ho' => hC j o' hj ho') h)
 refine ⟨hI.n.trans h1.symm, fun t ht => ?_⟩
 by_cases hx : ∃ (j : Nat) (o' : Oper), ops[j]? = some o' ∧ o'.dst = some t
 ·obtain ⟨j, o', ho', ht'⟩ := hx
  have only : ∀ (j' : Nat) (o2 : Oper), ops[j']? = some o2 → o2.dst = some t → j' = j := fun j' o2 q1 q2 => Classical.byContradiction fun hne => hok.d j' j o2 o' t hne q1 ho' q2 ht'
  by_cases hd : L j
  ·rw [hI.f1 j o' t hd ho' ht']
   have hne : i ≠ j := fun e => by subst e; exact hiu hd
   rcases hok.r i j o o' t hne ho ho' ht' ht with h | h
   ·exact (h2 j o' t (anc_lt hok.e h) ho' ht').symm
   ·exact (anJ j hd h).elim
  ·rw [hI.f2 t fun j' o2 q1 q2 q3 => hd (only j' o2 q2 q3 ▸ q1)]; refine (h3 t fun j' o2 q1 q2 q3 => ?_).symm; have := only j' o2 q2 q3; subst this
   rcases hok.r i j' o o' t (by omega) ho ho' ht' ht with h | h
   ·exact hd (anI j' h)
   ·have := anc_lt hok.e h; omega
 ·rw [hI.f2 t fun j' o2 _ q2 q3 => hx ⟨j', o2, q2, q3⟩, h3 t fun j' o2 _ q2 q3 => hx ⟨j', o2, q2, q3⟩]
theorem step_f4 {T : Nat → AS} {rv : Nat → SV} {ef : Nat → Ef} {L : Nat → Prop} {b : Nat} {S : AS} {m' : Mem} (hok : Ok4 P ops) (hI : Inv4 P ops T rv ef L b S) {i : Nat} {o : Oper} (ho : ops[i]? = some o) (hiu : ¬ L i) :
  (∀ (j : Nat) (o' : Oper) (t : Nat), L j ∨ j = i → ops[j]? = some o' → o'.dst = some t → (S.put o.dst (rv i) m').f t = rv j) ∧ ∀ t, (∀ (j : Nat) (o' : Oper), L j ∨ j = i → ops[j]? = some o' → o'.dst ≠ some t) → (S.put o.dst (rv i) m').f t = (T 0).f t := by
 refine ⟨fun j o' t hj ho' ht => ?_, fun t ht => ?_⟩
 ·rcases hj with hj | rfl
  ·rw [put_f fun e => hok.d j i o' o t (fun e => by subst e; exact hiu hj) ho' ho ht e]; exact hI.f1 j o' t hj ho' ht
  ·rw [ho] at ho'; injection ho' with ho'; subst ho'; rw [ht, put_at]
 ·rw [put_f (ht i o (.inr rfl) ho)]
  exact hI.f2 t fun j o' hj => ht j o' (.inl hj)
theorem step_pure4 {T : Nat → AS} {rv : Nat → SV} {ef : Nat → Ef} {L : Nat → Prop} {b : Nat} {S : AS} (hok : Ok4 P ops) (hT : Chain4 P ops T rv ef) (hI : Inv4 P ops T rv ef L b S)
  (hC : ∀ j o, L j → ops[j]? = some o → ∀ e ∈ o.after, Region.binds .any e = true → L e.on) {i : Nat} {o : Oper} (ho : ops[i]? = some o) (hp : pureO o = true) (hiu : ¬ L i) (hdeps : ∀ e ∈ o.after, Region.binds .any e = true → L e.on) :
  opK P ops o S (fun r m' => S.put o.dst r m' = S.put o.dst (rv i) S.m) ∧ Inv4 P ops T rv ef (fun j => L j ∨ j = i) b (S.put o.dst (rv i) S.m) := by
 obtain ⟨hn, hv⟩ := ready_val4 hok hT hI hC ho hiu hdeps; obtain ⟨h1, h2⟩ := hT.p i o ho hp; obtain ⟨g1, g2⟩ := step_f4 (m' := S.m) hok hI ho hiu; refine ⟨h2 S hn hv _ rfl, hI.n, fun j o' q1 q2 q3 => .inl (hI.b1 j o' q1 q2 q3), fun j o' q1 q2 q3 => ?_, g1, g2, fun k ob => ?_⟩
 ·rcases q2 with q2 | rfl
  ·exact hI.b2 j o' q1 q2 q3
  ·rw [ho] at q3; injection q3 with q3; subst q3; exact pure_quiet hp
 ·show mat S.m k = some ob ↔ _
  rw [hI.m]
  constructor
  ·rintro (h | ⟨j, ⟨q1, q2, q4⟩, q3⟩)
   ·exact .inl h
   ·exact .inr ⟨j, ⟨q1, .inl q2, q4⟩, q3⟩
  ·rintro (h | ⟨j, ⟨q1, q2 | rfl, q4⟩, q3⟩)
   ·exact .inl h
   ·exact .inr ⟨j, ⟨q1, q2, q4⟩, q3⟩
   ·rw [h1] at q3; cases q3
theorem keep_one {T : Nat → AS} {rv : Nat → SV} {ef : Nat → Ef} (hT : Chain4 P ops T rv ef) {l : Nat} {o : Oper} (ho : ops[l]? = some o) {k : Nat} (hk : k < 1000) {ob : Ob} (h : mat (T l).m k = some ob) :
  (mat (T (l + 1)).m k).isSome = true ∧ (isQ P o.op = true ∨ callL P o = true → mat (T (l + 1)).m k = some ob) := by
 obtain ⟨h1, h2⟩ := hT.s l o ho; rw [h1]
 show (mat ((ef l).on (T l).m) k).isSome = true ∧ (_ → mat ((ef l).on (T l).m) k = some ob)
 cases he : ef l with
 | id => simp only [Ef.on]; exact ⟨by rw [h]; rfl, fun _ => h⟩
 | new k' ob' =>
  have hne : ¬ k' = k := fun e => by subst e; have := (h2.1 k' ob' he).2; rw [h] at this; cases this
  simp only [Ef.on, mat, hne, if_false]; exact ⟨by rw [h]; rfl, fun _ => h⟩
 | set k' ob' =>
  simp only [Ef.on]; refine ⟨?_, fun hq => ?_⟩
  ·by_cases e : k = k'
   ·subst e; rw [mat_set_same h]; rfl
   ·rw [mat_set_other e, h]; rfl
  ·rcases hq with hq | hq
   ·exact absurd he ((h2.2 hq).1 k' ob')
   ·obtain ⟨m1, ks, e⟩ := hT.c l o ho hq
    rw [he] at e; cases e
 | upd m1 ks =>
  have hp : pureO o = false := by
   cases hp : pureO o with
   | false => rfl
   | true => have := (hT.p l o ho hp).1; rw [he] at this; cases this
  obtain ⟨g1, g2⟩ := (hT.q l o ho hp).1.2 m1 ks he
  have hks : k ∉ ks := fun h => by have := g1 k h; omega
  have hm1 : mat m1 k = none := mat_none.2 fun p hp e => by
   rcases g2 p.1 (List.mem_map_of_mem hp) with h3 | h3
   ·exact hks (e ▸ h3)
   ·rw [e, h] at h3; cases h3
  simp only [Ef.on]; rw [mat_app, hm1, mat_mdelL, if_neg hks]; exact ⟨by simp only [h]; rfl, fun _ => h⟩
theorem keep_there {T : Nat → AS} {rv : Nat → SV} {ef : Nat → Ef} (hT : Chain4 P ops T rv ef) {k : Nat} (hk : k < 1000) (h : (mat (T 0).m k).isSome = true) : ∀ i, i ≤ ops.size → (mat (T i).m k).isSome = true
 | 0, _ => h
 | i + 1, hi => by
  obtain ⟨ob, hob⟩ := Option.isSome_iff_exists.1 (keep_there hT hk h i (by omega)); exact (keep_one hT (Array.getElem?_eq_getElem (show i < ops.size by omega)) hk hob).1
theorem keep_to {T : Nat → AS} {rv : Nat → SV} {ef : Nat → Ef} (hT : Chain4 P ops T rv ef) {k : Nat} (hk : k < 1000) {ob : Ob} {a : Nat} (h : mat (T a).m k = some ob) : ∀ i, a ≤ i → i ≤ ops.size → (∀ (l : Nat) (o : Oper), a ≤ l → l < i → ops[l]? = some o → isQ P o.op = true ∨ callL P o = true) → mat (T i).m k = some ob := by
 intro i hi
 induction i with
 | zero =>
  intro _ _
  have : a = 0 := by omega
  subst this; exact h
 | succ i ih =>
  intro hs hq
  by_cases e : a = i + 1
  ·subst e; exact h
  ·have h1 := ih (by omega) (by omega) fun l o q1 q2 => hq l o q1 (by omega)
   have ho : ops[i]? = some ops[i] := Array.getElem?_eq_getElem (show i < ops.size by omega); exact (keep_one hT ho hk h1).2 (hq i _ (by omega) (by omega) ho)
theorem step_late4 {T : Nat → AS} {rv : Nat → SV} {ef : Nat → Ef} {L : Nat → Prop} {b : Nat} {S : AS} (hok : Ok4 P ops) (hT : Chain4 P ops T rv ef) (hI : Inv4 P ops T rv ef L b S) (hbs : b ≤ ops.size)
  (hS : ∀ (j : Nat) (t : Nat) (o : Oper), ops[j]? = some o → lateB ops j = true → ldO o = some t → ∃ k off, ez (T 0) (.tmp t) = .c (.p k off) ∧ k < 1000 ∧ (mat (T 0).m k).isSome = true)
  (hC : ∀ j o, L j → ops[j]? = some o → ∀ e ∈ o.after, Region.binds .any e = true → L e.on) {i : Nat} {o : Oper} (ho : ops[i]? = some o) (hp : lateB ops i = true) (hpp : pureO o = false) (hiu : ¬ L i) (hdeps : ∀ e ∈ o.after, Region.binds .any e = true → L e.on) :
  opK P ops o S (fun r m' => S.put o.dst r m' = S.put o.dst (rv i) S.m) ∧ Inv4 P ops T rv ef (fun j => L j ∨ j = i) b (S.put o.dst (rv i) S.m) := by
 have hil : i < ops.size := (Array.getElem?_eq_some_iff.1 ho).1; obtain ⟨t, ht, hnw⟩ := late_ld ho hp; obtain ⟨hn, hv⟩ := ready_val4 hok hT hI hC ho hiu hdeps; obtain ⟨h1, h2⟩ := hT.l i o t ho ht; obtain ⟨g1, g2⟩ := step_f4 (m' := S.m) hok hI ho hiu; obtain ⟨c1, c2, c3⟩ := chain4_f hok hT i (by omega); obtain ⟨TT, o1, o2⟩ := ld_op ht; have htr : t ∈ reads ops o := List.mem_append_left _ (List.mem_filterMap.2 ⟨.tmp t, by rw [o1]; simp [Op.operands], rfl⟩)
 have hft : (T i).f t = (T 0).f t := c3 t fun j o' _ q2 => hnw j o' q2
 have hez : ez (T i) (.tmp t) = ez (T 0) (.tmp t) := ev_same c1 fun t' e => by injection e with e; subst e; exact hft
 obtain ⟨k, off, e1, e2, e3⟩ := hS i t o ho hp ht
 have anI : ∀ j, anc ops ops.size i j = true → L j := fun j h => anc_in (L := L) hC (fun o' ho' => by rw [ho] at ho'; injection ho' with ho'; subst ho'; exact hdeps) h
 have anJ : ∀ j, L j → anc ops ops.size j i = true → False := fun j hj h => hiu (anc_in (L := L) hC (fun o' ho' => hC j o' hj ho') h)
 have hag : Agree (nmR (ez (T i) (.tmp t))) (T i).m S.m := fun k' hk' ob hob => by
  rw [hez, e1] at hk'
  have : k' = k := by simpa [nmR, nmC] using hk'
  subst this; refine (hI.m k' ob).2 (.inl ?_)
  rcases Nat.lt_or_ge i b with hib | hib
  ·refine keep_to hT e2 hob b (by omega) hbs fun l ol q1 q2 q3 => ?_
   cases hq : isQ P ol.op with
   | true => exact .inl rfl
   | false =>
    have hll : L l := hI.b1 l ol q2 q3 (by
     cases hs : softB ops l with
     | false => rfl
     | true => rw [soft_quiet q3 hs] at hq; cases hq)
    have hne : l ≠ i := fun e => hiu (e ▸ hll)
    rcases hok.c l i ol o hne q3 ho hq hpp with h | h | h
    ·exact .inr h
    ·exact (anJ l hll h).elim
    ·have := anc_lt hok.e h; omega
  ·obtain ⟨ob', hob'⟩ := Option.isSome_iff_exists.1 (keep_there hT e2 e3 b hbs)
   have := keep_to hT e2 hob' i hib (by omega) fun l ol q1 q2 q3 => by
    cases hq : isQ P ol.op with
    | true => exact .inl rfl
    | false =>
     rcases hok.c l i ol o (by omega) q3 ho hq hpp with h | h | h
     ·exact .inr h
     ·have := anc_lt hok.e h; omega
     ·rw [hI.b2 l ol q1 (anI l h) q3] at hq; cases hq
   rw [hob] at this
   injection this with this
   subst this; exact hob'
 refine ⟨h2 S hn (hv t htr) hag _ rfl, hI.n, fun j o' q1 q2 q3 => .inl (hI.b1 j o' q1 q2 q3), fun j o' q1 q2 q3 => ?_, g1, g2, fun k ob => ?_⟩
 ·rcases q2 with q2 | rfl
  ·exact hI.b2 j o' q1 q2 q3
  ·rw [ho] at q3; injection q3 with q3; subst q3; rw [o1]; rfl
 ·show mat S.m k = some ob ↔ _
  rw [hI.m]
  constructor
  ·rintro (h | ⟨j, ⟨q1, q2, q4⟩, q3⟩)
   ·exact .inl h
   ·exact .inr ⟨j, ⟨q1, .inl q2, q4⟩, q3⟩
  ·rintro (h | ⟨j, ⟨q1, q2 | rfl, q4⟩, q3⟩)
   ·exact .inl h
   ·exact .inr ⟨j, ⟨q1, q2, q4⟩, q3⟩
   ·rw [h1] at q3; cases q3
theorem soft_new {T : Nat → AS} {rv : Nat → SV} {ef : Nat → Ef} (hT : Chain4 P ops T rv ef) {j : Nat} {o : Oper} (ho : ops[j]? = some o) (h : softB ops j = true) (k : Nat) (ob : Ob) : ef j ≠ .new k ob := fun e => by
 have hid : ef j = .id := by
  unfold softB at h; rw [Bool.or_eq_true] at h
  rcases h with h | h
  ·exact (hT.p j o ho (by simpa [pureAt, ho] using h)).1
  ·obtain ⟨t, ht, _⟩ := late_ld ho h; exact (hT.l j o t ho ht).1
 rw [hid] at e; cases e
theorem ready_mem4 {T : Nat → AS} {rv : Nat → SV} {ef : Nat → Ef} {L : Nat → Prop} {b : Nat} {S : AS} {c : Cx} {a : Act} {w : World} (hok : Ok4 P ops) (hT : Chain4 P ops T rv ef) (hI : Inv4 P ops T rv ef L b S) (hR : RelX w0 c S a w)
  (hC : ∀ j o, L j → ops[j]? = some o → ∀ e ∈ o.after, Region.binds .any e = true → L e.on) {i : Nat} {o : Oper} (ho : ops[i]? = some o) (hp : softB ops i = false) (hiu : ¬ L i) (hdeps : ∀ e ∈ o.after, Region.binds .any e = true → L e.on) :
  b ≤ i ∧ Inv ops (T b) rv ef (fun j => b ≤ j ∧ j < i) (T i) ∧ Agree ((reads ops o).flatMap fun t => nmR (ez (T i) (.tmp t))) (T i).m S.m ∧ (∀ k ob, ef i = .new k ob → mat S.m k = none) := by
 have hil : i < ops.size := (Array.getElem?_eq_some_iff.1 ho).1; obtain ⟨hn, hval⟩ := ready_val4 hok hT hI hC ho hiu hdeps
 have hb : b ≤ i := by
  rcases Nat.lt_or_ge i b with h | h
  ·exact absurd (hI.b1 i o h ho hp) hiu
  ·exact h
 have anI : ∀ j, anc ops ops.size i j = true → L j := fun j h => anc_in (L := L) hC (fun o' ho' => by rw [ho] at ho'; injection ho' with ho'; subst ho'; exact hdeps) h
 have pq : ∀ (l : Nat) (o' : Oper), ops[l]? = some o' → ∀ k ob, ef l = .new k ob → softB ops l = false := fun l o' q1 k ob q2 => by
  cases h : softB ops l with
  | false => rfl
  | true => exact absurd q2 (soft_new hT q1 h k ob)
 have quiet : ∀ (l : Nat) (ol : Oper), ops[l]? = some ol → softB ops l = false → l ≤ ops.size → (∀ j, anc ops ops.size l j = true → L j) → ∀ j o', b ≤ j → j < l → ops[j]? = some o' → isQ P o'.op = true := fun l ol hl hpl _ han j o' h1 h2 h3 => by
  cases hq : isQ P o'.op with
  | true => rfl
  | false =>
   rcases hok.q j l o' ol (by omega) h3 hl hq hpl with h | h
   ·have := anc_lt hok.e h; omega
   ·rw [hI.b2 j o' h1 (han j h) h3] at hq; cases hq
 have hTi := chain4_inv hok hT i hb (by omega) (quiet i o ho hp (by omega) anI)
 have hex : ∀ k ∈ (reads ops o).flatMap fun t => nmR (ez (T i) (.tmp t)), ∃ ob', mat S.m k = some ob' := fun k hk => by
  obtain ⟨t, ht, hk⟩ := List.mem_flatMap.1 hk; rw [← ev_same hn (x := .tmp t) fun t' e => by injection e with e; subst e; exact hval _ ht] at hk; exact nm_there (hR.evs (.tmp t)) k hk
 have same : ∀ k ob, mat (T i).m k = some ob → ∀ ob', mat S.m k = some ob' → ob' = ob := fun k ob hob ob' hob' => by
  rcases (hI.m k ob').1 hob' with h6 | ⟨j', h6, h7⟩
  ·have := (hTi.m k ob').2 (.inl h6); rw [hob] at this
   injection this with this
   exact this.symm
  ·have hj's : j' < ops.size := h6.2.2; have ho2 : ops[j']? = some ops[j'] := Array.getElem?_eq_getElem hj's; have hp2 := pq j' _ ho2 k ob' h7; have e2 := ((hT.s j' _ ho2).2.1 k ob' h7)
   rcases (hTi.m k ob).1 hob with h4 | ⟨j, h4, h5⟩
   ·exfalso
    have hTj := chain4_inv hok hT j' h6.1 (by omega) (quiet j' _ ho2 hp2 (by omega) fun j h => anc_in (L := L) hC (fun o'' ho'' => hC j' o'' h6.2.1 ho'') h); have := (hTj.m k ob).2 (.inl h4); rw [e2.2] at this
    cases this
   ·have hoj : ops[j]? = some ops[j] := Array.getElem?_eq_getElem (show j < ops.size by omega); have e1 := ((hT.s j _ hoj).2.1 k ob h5).1
    have hjj : j = j' := Classical.byContradiction fun hne => hok.d j j' _ _ k hne hoj ho2 e1 e2.1
    subst hjj; rw [h5] at h7
    injection h7 with _ h7
    exact h7.symm
 refine ⟨hb, hTi, fun k hk ob hob => ?_, fun k ob he => ?_⟩
 ·obtain ⟨ob', hob'⟩ := hex k hk; rw [hob', same k ob hob ob' hob']
 ·obtain ⟨hd, hnn⟩ := (hT.s i o ho).2.1 k ob he
  cases hk : mat S.m k with
  | none => rfl
  | some ob' =>
   exfalso
   rcases (hI.m k ob').1 hk with h4 | ⟨j, h4, h5⟩
   ·rw [(hTi.m k ob').2 (.inl h4)] at hnn; cases hnn
   ·have hjs : j < ops.size := h4.2.2; have ho' : ops[j]? = some ops[j] := Array.getElem?_eq_getElem hjs; have h6 := ((hT.s j _ ho').2.1 k ob' h5).1
    have hne : i ≠ j := fun e => by subst e; exact hiu h4.2.1
    exact hok.d i j o _ k hne ho ho' hd h6
theorem step_quiet4 {T : Nat → AS} {rv : Nat → SV} {ef : Nat → Ef} {L : Nat → Prop} {b : Nat} {S : AS} {c : Cx} {a : Act} {w : World} (hok : Ok4 P ops) (hT : Chain4 P ops T rv ef) (hI : Inv4 P ops T rv ef L b S) (hR : RelX w0 c S a w)
  (hC : ∀ j o, L j → ops[j]? = some o → ∀ e ∈ o.after, Region.binds .any e = true → L e.on) {i : Nat} {o : Oper} (ho : ops[i]? = some o) (hp : softB ops i = false) (hiu : ¬ L i) (hdeps : ∀ e ∈ o.after, Region.binds .any e = true → L e.on) (hq : isQ P o.op = true) :
  opK P ops o S (fun r m' => S.put o.dst r m' = S.put o.dst (rv i) ((ef i).on S.m)) ∧ Inv4 P ops T rv ef (fun j => L j ∨ j = i) b (S.put o.dst (rv i) ((ef i).on S.m)) := by
 have hil : i < ops.size := (Array.getElem?_eq_some_iff.1 ho).1; obtain ⟨hn, hval⟩ := ready_val4 hok hT hI hC ho hiu hdeps; obtain ⟨hb, hTi, hag, hnone⟩ := ready_mem4 hok hT hI hR hC ho hp hiu hdeps; obtain ⟨h1, h2⟩ := hT.s i o ho; have h3 := hT.q i o ho (soft_no ho hp).1; have hsets := h2.2 hq
 have hag2 : Look (ef i) ((reads ops o).flatMap fun t => nmR (ez (T i) (.tmp t))) (T i).m S.m := by
  cases he : ef i with
  | upd m1 ks => exact absurd he (hsets.2 m1 ks)
  | set k ob => exact absurd he (hsets.1 k ob)
  | id => exact hag
  | new k ob => exact hag
 obtain ⟨g1, g2⟩ := step_f4 (m' := (ef i).on S.m) hok hI ho hiu
 have hmem : ∀ k ob, mat ((ef i).on S.m) k = some ob ↔ mat S.m k = some ob ∨ ef i = .new k ob := fun k ob => by
  cases he : ef i with
  | upd m1 ks => exact absurd he (hsets.2 m1 ks)
  | set k ob => exact absurd he (hsets.1 k ob)
  | id => simp [Ef.on]
  | new k' ob' =>
   have hnn := hnone k' ob' he; simp only [Ef.on, mat]
   by_cases e : k' = k
   ·subst e; simp only [if_true, Option.some.injEq]
    constructor
    ·rintro rfl; exact .inr rfl
    ·rintro (h | h)
     ·rw [hnn] at h; cases h
     ·injection h
   ·simp only [e, if_false]
    constructor
    ·exact .inl
    ·rintro (h | h)
     ·exact h
     ·injection h with e1; exact absurd e1 e
 refine ⟨h3.2 S hn hval hag2 hnone _ rfl, hI.n, fun j o' q1 q2 q3 => .inl (hI.b1 j o' q1 q2 q3), fun j o' q1 q2 q3 => ?_, g1, g2, fun k ob => ?_⟩
 ·rcases q2 with q2 | rfl
  ·exact hI.b2 j o' q1 q2 q3
  ·rw [ho] at q3; injection q3 with q3; subst q3; exact hq
 ·show mat ((ef i).on S.m) k = some ob ↔ _
  rw [hmem, hI.m]
  constructor
  ·rintro ((h | ⟨j, ⟨q1, q2, q4⟩, q3⟩) | h)
   ·exact .inl h
   ·exact .inr ⟨j, ⟨q1, .inl q2, q4⟩, q3⟩
   ·exact .inr ⟨i, ⟨hb, .inr rfl, hil⟩, h⟩
  ·rintro (h | ⟨j, ⟨q1, q2 | rfl, q4⟩, q3⟩)
   ·exact .inl (.inl h)
   ·exact .inl (.inr ⟨j, ⟨q1, q2, q4⟩, q3⟩)
   ·exact .inr q3
theorem step_loud4 {T : Nat → AS} {rv : Nat → SV} {ef : Nat → Ef} {L : Nat → Prop} {b : Nat} {S : AS} {c : Cx} {a : Act} {w : World} (hok : Ok4 P ops) (hT : Chain4 P ops T rv ef) (hI : Inv4 P ops T rv ef L b S) (hR : RelX w0 c S a w)
  (hC : ∀ j o, L j → ops[j]? = some o → ∀ e ∈ o.after, Region.binds .any e = true → L e.on) {i : Nat} {o : Oper} (ho : ops[i]? = some o) (hp : softB ops i = false) (hiu : ¬ L i) (hdeps : ∀ e ∈ o.after, Region.binds .any e = true → L e.on) (hq : isQ P o.op = false) :
  opK P ops o S (fun r m' => S.put o.dst r m' = S.put o.dst (rv i) ((ef i).on S.m)) ∧ Inv4 P ops T rv ef (fun j => L j ∨ j = i) (i + 1) (S.put o.dst (rv i) ((ef i).on S.m)) := by
 have hil : i < ops.size := (Array.getElem?_eq_some_iff.1 ho).1; obtain ⟨hn, hval⟩ := ready_val4 hok hT hI hC ho hiu hdeps; obtain ⟨hb, hTi, hag, hnone⟩ := ready_mem4 hok hT hI hR hC ho hp hiu hdeps; obtain ⟨h1, h2⟩ := hT.s i o ho; have h3 := hT.q i o ho (soft_no ho hp).1
 have anI : ∀ j, anc ops ops.size i j = true → L j := fun j h => anc_in (L := L) hC (fun o' ho' => by rw [ho] at ho'; injection ho' with ho'; subst ho'; exact hdeps) h
 have anJ : ∀ j, L j → anc ops ops.size j i = true → False := fun j hj h => hiu (anc_in (L := L) hC (fun o' ho' => hC j o' hj ho') h)
 have before : ∀ (j : Nat) (o' : Oper), j < i → ops[j]? = some o' → softB ops j = false → L j := fun j o' hji ho' hf' => by
  rcases hok.q i j o o' (by omega) ho ho' hq hf' with h | h
  ·exact anI j h
  ·have := anc_lt hok.e h; omega
 have behind : ∀ (j : Nat) (o' : Oper), i ≤ j → ops[j]? = some o' → softB ops j = false → ¬ L j := fun j o' hij ho' hf' hl => by
  by_cases e : i = j
  ·subst e; exact hiu hl
  ·rcases hok.q i j o o' e ho ho' hq hf' with h | h
   ·have := anc_lt hok.e h; omega
   ·exact anJ j hl h
 have pn : ∀ (j : Nat) (o' : Oper), ops[j]? = some o' → softB ops j = true → ∀ k ob, ef j ≠ .new k ob := fun j o' q1 q2 k ob => soft_new hT q1 q2 k ob
 have hm : ∀ k, mat S.m k = mat (T i).m k := fun k => by
  have key : ∀ ob, mat S.m k = some ob ↔ mat (T i).m k = some ob := fun ob => by
   rw [hI.m, hTi.m]
   constructor
   ·rintro (h | ⟨j, ⟨q1, q2, q4⟩, q3⟩)
    ·exact .inl h
    ·refine .inr ⟨j, ⟨q1, ?_⟩, q3⟩; have ho' : ops[j]? = some ops[j] := Array.getElem?_eq_getElem q4
     rcases Nat.lt_or_ge j i with h | h
     ·exact h
     ·cases hpj : softB ops j with
      | true => exact absurd q3 (pn j _ ho' hpj k ob)
      | false => exact absurd q2 (behind j _ h ho' hpj)
   ·rintro (h | ⟨j, ⟨q1, q2⟩, q3⟩)
    ·exact .inl h
    ·have ho' : ops[j]? = some ops[j] := Array.getElem?_eq_getElem (show j < ops.size by omega); refine .inr ⟨j, ⟨q1, ?_, by omega⟩, q3⟩
     cases hpj : softB ops j with
     | true => exact absurd q3 (pn j _ ho' hpj k ob)
     | false => exact before j _ q2 ho' hpj
  cases h4 : mat (T i).m k with
  | some ob => exact (key ob).2 h4
  | none =>
   cases h5 : mat S.m k with
   | none => rfl
   | some ob => rw [(key ob).1 h5] at h4; cases h4
 obtain ⟨g1, g2⟩ := step_f4 (m' := (ef i).on S.m) hok hI ho hiu; refine ⟨h3.2 S hn hval (look_full hm) hnone _ rfl, hI.n, fun j o' q1 q2 q3 => ?_, fun j o' q1 q2 q3 => ?_, g1, g2, fun k ob => ?_⟩
 ·rcases Nat.lt_or_ge j i with h | h
  ·exact .inl (before j o' h q2 q3)
  ·exact .inr (by omega)
 ·cases hpj : softB ops j with
  | true => exact soft_quiet q3 hpj
  | false =>
   rcases q2 with q2 | rfl
   ·exact absurd q2 (behind j o' (by omega) q3 hpj)
   ·omega
 ·have hno : ¬ ∃ j, (i + 1 ≤ j ∧ (L j ∨ j = i) ∧ j < ops.size) ∧ ef j = .new k ob := fun ⟨j, ⟨q1, q2, q4⟩, q3⟩ => by
   have ho' : ops[j]? = some ops[j] := Array.getElem?_eq_getElem q4
   rcases q2 with q2 | rfl
   ·cases hpj : softB ops j with
    | true => exact pn j _ ho' hpj k ob q3
    | false => exact behind j _ (by omega) ho' hpj q2
   ·omega
  show mat ((ef i).on S.m) k = some ob ↔ _
  rw [h1]; simp only [hno, or_false]
  show _ ↔ mat ((ef i).on (T i).m) k = some ob
  have hk := hm k
  cases he : ef i with
  | id => simp only [Ef.on]; rw [hk]
  | new k' ob' => simp only [Ef.on, mat]; rw [hk]
  | set k' ob' =>
   simp only [Ef.on]
   by_cases e : k = k'
   ·subst e
    cases h4 : mat (T i).m k with
    | none => rw [mat_set_none h4, mat_set_none (by rw [hk]; exact h4)]
    | some ob2 => rw [mat_set_same h4, mat_set_same (by rw [hk]; exact h4)]
   ·rw [mat_set_other e, mat_set_other e, hk]
  | upd m1 ks => simp only [Ef.on]; rw [mat_app, mat_app, mat_mdelL, mat_mdelL, hk]
theorem sim_far4 {T : Nat → AS} {rv : Nat → SV} {ef : Nat → Ef} (hok : Ok4 P ops) (hT : Chain4 P ops T rv ef) (hS : ∀ (j : Nat) (t : Nat) (o : Oper), ops[j]? = some o → lateB ops j = true → ldO o = some t → ∃ k off, ez (T 0) (.tmp t) = .c (.p k off) ∧ k < 1000 ∧ (mat (T 0).m k).isSome = true) (hQ : ∀ a w, Rel w0 (T ops.size) a w → Q .normal a w) :
  ∀ (m : Nat) (listed : Array Bool) (b : Nat) (S : AS) (a : Act) (w : World), listed.size = ops.size → b ≤ ops.size → (∀ j o, listed.getD j false = true → ops[j]? = some o → ∀ e ∈ o.after, Region.binds .any e = true → listed.getD e.on false = true) →
   Inv4 P ops T rv ef (fun i => listed.getD i false = true) b S → Rel w0 S a w → ((List.range ops.size).filter fun i => !listed.getD i false).length ≤ m → wpAny P .any ops Q m listed a w := by
 have gdd : ∀ {listed : Array Bool} {i : Nat}, listed.size = ops.size → i < ops.size → listed.getD i true = listed.getD i false := fun hs hi => by
  simp [Array.getD, hs, hi]
 -- nothing is ready: all are listed
 have fin : ∀ (listed : Array Bool) (b : Nat) (S : AS) (a : Act) (w : World), listed.size = ops.size → b ≤ ops.size → Inv4 P ops T rv ef (fun i => listed.getD i false = true) b S → Rel w0 S a w → Region.ready .any ops listed = [] → Q .normal a w := by
  intro listed b S a w hs hbs hI hR hr
  have hall : ∀ i, i < ops.size → listed.getD i false = true := by
   intro i
   induction i using Nat.strongRecOn with
   | _ i ih =>
    intro hi
    cases hl : listed.getD i false with
    | true => rfl
    | false =>
     have : i ∈ Region.ready .any ops listed := mem_ready.2 ⟨by rw [gdd hs hi]; exact hl, ops[i], Array.getElem?_eq_getElem hi, fun e he hb => by
      have := hok.e i _ (Array.getElem?_eq_getElem hi) e he hb
      exact ih e.on this (by omega)⟩
     rw [hr] at this
     cases this
  have hTi := chain4_inv hok hT ops.size hbs (Nat.le_refl _) fun j o h1 h2 h3 => hI.b2 j o h1 (hall j h2) h3
  obtain ⟨e1, e2, e3⟩ := chain4_f hok hT ops.size (Nat.le_refl _)
  have sz : ∀ {i : Nat} {o : Oper}, ops[i]? = some o → i < ops.size := fun ho => (Array.getElem?_eq_some_iff.1 ho).1
  refine hQ a w (hR.eqv ⟨e1.trans hI.n.symm, fun t => ?_, fun k => ?_⟩)
  ·by_cases hx : ∃ (j : Nat) (o' : Oper), ops[j]? = some o' ∧ o'.dst = some t
   ·obtain ⟨j, o', ho', ht'⟩ := hx; rw [hI.f1 j o' t (hall j (sz ho')) ho' ht', e2 j o' t (sz ho') ho' ht']
   ·rw [hI.f2 t fun j o' _ q2 q3 => hx ⟨j, o', q2, q3⟩, e3 t fun j o' _ q2 q3 => hx ⟨j, o', q2, q3⟩]
  ·have key : ∀ ob, mat S.m k = some ob ↔ mat (T ops.size).m k = some ob := fun ob => by
    rw [hI.m, hTi.m]
    constructor
    ·rintro (h | ⟨j, ⟨q1, q2, q4⟩, q3⟩)
     ·exact .inl h
     ·exact .inr ⟨j, ⟨q1, q4⟩, q3⟩
    ·rintro (h | ⟨j, ⟨q1, q2⟩, q3⟩)
     ·exact .inl h
     ·exact .inr ⟨j, ⟨q1, hall j q2, q2⟩, q3⟩
   cases h4 : mat S.m k with
   | some ob => exact (key ob).1 h4
   | none =>
    cases h5 : mat (T ops.size).m k with
    | none => rfl
    | some ob => rw [(key ob).2 h5] at h4; cases h4
 intro m
 induction m with
 | zero =>
  intro listed b S a w hs hbs hC hI hR hm
  have hr : Region.ready .any ops listed = [] := by
   cases hx : Region.ready .any ops listed with
   | nil => rfl
   | cons i r =>
    have hi : i ∈ Region.ready .any ops listed := by rw [hx]; exact List.mem_cons_self
    obtain ⟨h1, o, h2, _⟩ := mem_ready.1 hi; have hil := (Array.getElem?_eq_some_iff.1 h2).1
    have : i ∈ (List.range ops.size).filter fun i => !listed.getD i false := List.mem_filter.2 ⟨List.mem_range.2 hil, by rw [← gdd hs hil, h1]; rfl⟩
    have := List.length_pos_of_mem this
    omega
  exact ⟨hr, fin listed b S a w hs hbs hI hR hr⟩
 | succ m ih =>
  intro listed b S a w hs hbs hC hI hR hm; refine ⟨fin listed b S a w hs hbs hI hR, fun i hi => ?_⟩; obtain ⟨hiu, o, ho, hdeps⟩ := mem_ready.1 hi; have hil := (Array.getElem?_eq_some_iff.1 ho).1
  have hiu' : ¬ listed.getD i false = true := by rw [← gdd hs hil, hiu]; decide
  have hset : ∀ k, (listed.setIfInBounds i true).getD k false = true ↔ listed.getD k false = true ∨ k = i := by
   intro k
   by_cases hk : i = k
   ·subst hk; simp [Array.getD, hs, hil]
   ·rw [getD_set_ne false hk]
    constructor
    ·exact .inl
    ·rintro (h | h)
     ·exact h
     ·exact absurd h.symm hk
  have hfun : (fun k => (listed.setIfInBounds i true).getD k false = true) = fun k => listed.getD k false = true ∨ k = i := by
   funext k
   exact propext (hset k)
  have hC' : ∀ j o, (listed.setIfInBounds i true).getD j false = true → ops[j]? = some o → ∀ e ∈ o.after, Region.binds .any e = true → (listed.setIfInBounds i true).getD e.on false = true := by
   intro j o' hj ho' e he hb; rw [hset] at hj ⊢
   rcases hj with hj | rfl
   ·exact .inl (hC j o' hj ho' e he hb)
   ·rw [ho] at ho'
    injection ho' with ho'
    subst ho'; exact .inl (hdeps e he hb)
  have hcount : ((List.range ops.size).filter fun k => !(listed.setIfInBounds i true).getD k false).length ≤ m := by
   have h1 : ((List.range ops.size).filter fun k => !(listed.setIfInBounds i true).getD k false).length < ((List.range ops.size).filter fun k => !listed.getD k false).length := by
    have e : (List.range ops.size).filter (fun k => !(listed.setIfInBounds i true).getD k false) = ((List.range ops.size).filter fun k => !listed.getD k false).filter fun k => k != i := by
     rw [List.filter_filter]
     apply List.filter_congr
     intro k _
     by_cases hk : k = i
     ·subst hk; have := (hset k).2 (.inr rfl); simp [this]
     ·have : (listed.setIfInBounds i true).getD k false = listed.getD k false := getD_set_ne false (fun h => hk h.symm); simp [this, hk]
    rw [e]; refine List.length_filter_lt_length_iff_exists.2 ⟨i, List.mem_filter.2 ⟨List.mem_range.2 hil, by simp [Bool.eq_false_iff.2 hiu']⟩, by simp⟩
   omega
  obtain ⟨c, hR'⟩ := hR
  have go : ∀ (b' : Nat) (S1 : AS), b' ≤ ops.size → opK P ops o S (fun r m' => S.put o.dst r m' = S1) → Inv4 P ops T rv ef (fun k => listed.getD k false = true ∨ k = i) b' S1 → wpOp P ops Q i (wpAny P .any ops Q m (listed.setIfInBounds i true)) a w := by
   intro b' S1 hb' hK hI1; have h1 := sim_op (Q := Q) hR' hK; unfold wpOp; simp only [ho]
   split at h1
   ·rename_i hw
    rw [if_pos hw]; exact .inl (Oper.wp_mono (fun a' w' ⟨r, m', h2, h3⟩ => ih _ b' S1 a' w' (by simp [hs]) hb' hC' (hfun ▸ hI1) (h2 ▸ h3) hcount) h1)
   ·rename_i hw
    rw [if_neg hw]; obtain ⟨r, m', h2, h3⟩ := h1; exact ih _ b' S1 _ w (by simp [hs]) hb' hC' (hfun ▸ hI1) (h2 ▸ h3) hcount
  cases hf0 : pureO o with
  | true =>
   obtain ⟨h1, h2⟩ := step_pure4 hok hT hI hC ho hf0 hiu' hdeps; exact go b _ hbs h1 h2
  | false =>
  cases hf1 : lateB ops i with
  | true =>
   obtain ⟨h1, h2⟩ := step_late4 hok hT hI hbs hS hC ho hf1 hf0 hiu' hdeps; exact go b _ hbs h1 h2
  | false =>
   have hf : softB ops i = false := by simp [softB, pureAt, ho, hf0, hf1]
   cases hq : isQ P o.op with
   | true =>
    obtain ⟨h1, h2⟩ := step_quiet4 hok hT hI hR' hC ho hf hiu' hdeps hq; exact go b _ hbs h1 h2
   | false =>
    obtain ⟨h1, h2⟩ := step_loud4 hok hT hI hR' hC ho hf hiu' hdeps hq; exact go (i + 1) _ (by omega) h1 h2
theorem sim_region4 {id : Nat} {l : List Oper} {S : AS} {a : Act} {w : World} (hm : P.follows .mixedOrders = true) (hok : regOk4 P l.toArray = true) (hl : ∀ t ∈ lateS l.toArray, ∃ k off, ez S (.tmp t) = .c (.p k off) ∧ k < 1000 ∧ (mat S.m k).isSome = true) (hR : Rel w0 S a w) (hK : aops P l.toArray KF l S) (hQ : ∀ S a w, KF S → Rel w0 S a w → Q .normal a w) : (Code.region id l.toArray true).wp P Q a w := by
 have ok := regOk4_spec hok; refine wp_region_any hm ?_; obtain ⟨T, rv, ef, h1, h2, h3⟩ := chain4_of (P := P) (ops := l.toArray) (KF := KF) ok.n l 0 S (by simp) hK; simp only [Nat.zero_add] at h2; have hT : Chain4 P l.toArray T rv ef := ⟨fun i o ho => (h3 i o (Nat.zero_le _) ho).1, fun i o ho => (h3 i o (Nat.zero_le _) ho).2.1, fun i o t ho => (h3 i o (Nat.zero_le _) ho).2.2.1 t, fun i o ho => (h3 i o (Nat.zero_le _) ho).2.2.2.1, fun i o ho => (h3 i o (Nat.zero_le _) ho).2.2.2.2⟩
 have hz : ∀ k, (Array.replicate l.toArray.size false).getD k false = true → False := fun k h => by
  simp only [Array.getD] at h
  split at h
  ·simp at h
  ·cases h
 refine sim_far4 (w0 := w0) (S := S) (b := 0) ok hT (fun j t o q1 q2 q3 => by rw [h1]; exact hl t (List.mem_filterMap.2 ⟨j, List.mem_range.2 (Array.getElem?_eq_some_iff.1 q1).1, by rw [if_pos q2, q1]; exact q3⟩)) (fun a w h => hQ _ a w h2 (by simpa using h)) l.toArray.size _ a _ (by simp) (Nat.zero_le _) (fun j o h => (hz j h).elim) ⟨?_, fun i o h => absurd h (Nat.not_lt_zero _), fun i o _ h => (hz i h).elim, fun i o t h => (hz i h).elim, fun t _ => ?_, fun k ob => ?_⟩ ?_ ?_
 ·rw [h1]
 ·rw [h1]
 ·rw [h1]; exact ⟨.inl, fun h => h.elim (fun h => h) fun ⟨i, h, _⟩ => (hz i h.2.1).elim⟩
 ·obtain ⟨c, h⟩ := hR; have hmn : Mon c S.m w c S.m w.drew := ⟨rfl, fun _ h => h, fun _ _ _ => rfl, fun k cs hk => ⟨rfl, cs, hk⟩, fun k fr sz T xs hk => ⟨fr, xs, hk, Nat.le_refl _, fun _ => rfl⟩, fun k fr kk es hk => ⟨rfl, fr, kk, es, hk⟩, fun k fr mk rem la hk => ⟨rfl, rfl, rfl, fr, rem, la, hk⟩⟩; exact ⟨c, h.go hmn h.ext.drew h.xl h.xo (fun k o hk => RelO.mon hmn (h.mem k o hk) hk hk (fun b hb => ⟨rfl, (h.bk hk b hb).2.2⟩) rfl) h.dis⟩
 ·have := List.length_filter_le (fun i => !(Array.replicate l.toArray.size false).getD i false) (List.range l.toArray.size)
  simpa using this
end
theorem sw_region4 {P : Program} {Q : Exit → AS → Prop} {S : AS} {id : Nat} {l : List Oper} (hm : P.follows .mixedOrders = true) (hok : regOk4 P l.toArray = true) (hl : ∀ t ∈ lateS l.toArray, ∃ k off, ez S (.tmp t) = .c (.p k off) ∧ k < 1000 ∧ (mat S.m k).isSome = true) (h : aops P l.toArray (Q .normal) l S) : SW P (.region id l.toArray true) Q S := fun _ _ _ hr =>
 sim_region4 hm hok hl hr h fun S' _ _ h1 h2 => ⟨S', h1, h2⟩
end Go.Proofs.YtbgifiijjjoebaaGreatDoor
