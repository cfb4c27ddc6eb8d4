/- Regions that draw their order, with calls that write and new blocks that wait for nothing. No conditions. -/
import Derived.Test.YtbgifiijjjoebaaGreatDoorGNamesAk
namespace Go.Proofs.YtbgifiijjjoebaaGreatDoor
open Go.RowKit

def freeO (o : Oper) : Bool :=
 match o.op, o.guard, o.dst with
 | .alloc _, none, some k => decide (k < 1000) && decide (o.after.size = 0)
 | _, _, _ => false
def freeAt (ops : Array Oper) (i : Nat) : Bool := ((ops[i]?).map freeO).getD false
def quietAt (P : Program) (ops : Array Oper) (i : Nat) : Bool := ((ops[i]?).map fun o => isQ P o.op).getD true
def regOk2 (P : Program) (ops : Array Oper) : Bool :=
 (List.range ops.size).all fun i =>
  (((ops[i]?).map fun o => o.after.all fun e => !Region.binds .any e || decide (e.on < i)).getD true) && !(((ops[i]?).map fun o => isN o.op).getD false) &&
  (List.range ops.size).all fun j => i == j || (disB ops i j && rdB ops i j && (quietAt P ops i || freeAt ops j || anc ops ops.size i j || anc ops ops.size j i))
def reord (l : List Oper) : List Oper := l.filter freeO ++ l.filter fun o => !freeO o
theorem freeO_spec {o : Oper} (h : freeO o = true) : ∃ T k, o.op = .alloc T ∧ o.guard = none ∧ o.dst = some k ∧ k < 1000 ∧ ∀ e ∈ o.after, Region.binds .any e = false := by
 unfold freeO at h
 split at h
 ·rename_i T k h1 h2 h3
  simp only [Bool.and_eq_true, decide_eq_true_eq] at h; exact ⟨T, k, h1, h2, h3, h.1, fun e he => by have := Array.size_pos_of_mem he; omega⟩
 ·cases h
section
variable {P : Program} {ops : Array Oper} {Q : Exit → Act → World → Prop} {w0 : Beg} {KF : AS → Prop}
theorem aops_app : ∀ {l1 l2 : List Oper} {S : AS}, aops P ops KF (l1 ++ l2) S → aops P ops (fun A => aops P ops KF l2 A) l1 S
 | [], _, _, h => h
 | o :: r, l2, S, h => by
  have : opK P ops o S fun rv m' => aops P ops KF (r ++ l2) (S.put o.dst rv m') := h
  show opK P ops o S fun rv m' => aops P ops _ r (S.put o.dst rv m')
  have e : (fun rv m' => aops P ops (fun A => aops P ops KF l2 A) r (S.put o.dst rv m')) = fun rv m' => aops P ops KF (r ++ l2) (S.put o.dst rv m') := by
   funext rv m'
   exact propext ⟨fun h => aops_app' h, fun h => aops_app h⟩
  rw [e]; exact this
where aops_app' : ∀ {l1 l2 : List Oper} {S : AS}, aops P ops (fun A => aops P ops KF l2 A) l1 S → aops P ops KF (l1 ++ l2) S
 | [], _, _, h => h
 | o :: r, l2, S, h => by
  have : opK P ops o S fun rv m' => aops P ops (fun A => aops P ops KF l2 A) r (S.put o.dst rv m') := h
  show opK P ops o S fun rv m' => aops P ops KF (r ++ l2) (S.put o.dst rv m')
  have e : (fun rv m' => aops P ops KF (r ++ l2) (S.put o.dst rv m')) = fun rv m' => aops P ops (fun A => aops P ops KF l2 A) r (S.put o.dst rv m') := by
   funext rv m'
   exact propext ⟨fun h => aops_app h, fun h => aops_app' h⟩
  rw [e]; exact this
structure AllF (P : Program) (l : List Oper) (S A : AS) : Prop where
 n : A.n = S.n
 o : ∀ o ∈ l, ∃ T k cs, o.op = .alloc T ∧ o.guard = none ∧ o.dst = some k ∧ k < 1000 ∧ k < S.n ∧ zeroC P T = some cs ∧ mat S.m k = none ∧ mat A.m k = some (.x cs) ∧ A.f k = .c (.p k 0)
 f : ∀ t, (∀ o ∈ l, o.dst ≠ some t) → A.f t = S.f t
 m : ∀ k, (∀ o ∈ l, o.dst ≠ some k) → mat A.m k = mat S.m k
theorem allF_of {KF : AS → Prop} : ∀ {l : List Oper} {S : AS}, (∀ o ∈ l, freeO o = true) → aops P ops KF l S → ∃ A, KF A ∧ AllF P l S A
 | [], S, _, h => ⟨S, h, rfl, (fun o ho => by cases ho), fun _ _ => rfl, fun _ _ => rfl⟩
 | o :: r, S, hf, h => by
  obtain ⟨T, k, h1, h2, h3, h4, -⟩ := freeO_spec (hf o List.mem_cons_self)
  have h : opK P ops o S fun rv m' => aops P ops KF r (S.put o.dst rv m') := h
  obtain ⟨hd, hK⟩ := h; simp only [h2] at hK; simp only [astep, h1, allocK, h3] at hK
  split at hK
  ·rename_i k' cs e1 e2
   injection e1 with e1
   subst e1; obtain ⟨q1, q2⟩ := hK; have hkn : k < S.n := hd k h3; obtain ⟨A, a1, a2⟩ := allF_of (fun o ho => hf o (List.mem_cons_of_mem _ ho)) q2
   have hne : ∀ o' ∈ r, o'.dst ≠ some k := fun o' ho' e => by
    obtain ⟨T', k', cs', -, -, b3, -, -, -, b7, -⟩ := a2.o o' ho'; rw [e] at b3
    injection b3 with b3
    subst b3; simp [AS.put, mat] at b7
   refine ⟨A, a1, a2.n, fun o' ho' => ?_, fun t ht => ?_, fun j hj => ?_⟩
   ·rcases List.mem_cons.1 ho' with rfl | ho'
    ·refine ⟨T, k, cs, h1, h2, h3, h4, hkn, e2, q1, ?_, ?_⟩
     ·rw [a2.m k hne]; simp [AS.put, mat]
     ·rw [a2.f k hne]; simp [AS.put, fset]
    ·obtain ⟨T', k', cs', b1, b2, b3, b4, b5, b6, b7, b8, b9⟩ := a2.o o' ho'; refine ⟨T', k', cs', b1, b2, b3, b4, b5, b6, ?_, b8, b9⟩; simp only [AS.put, mat] at b7
     split at b7
     ·cases b7
     ·exact b7
   ·rw [a2.f t fun o' ho' => ht o' (List.mem_cons_of_mem _ ho')]
    have : t ≠ k := fun e => ht o List.mem_cons_self (by rw [h3, e])
    simp [AS.put, fset, this]
   ·rw [a2.m j fun o' ho' => hj o' (List.mem_cons_of_mem _ ho')]
    have : ¬ k = j := fun e => hj o List.mem_cons_self (by rw [h3, e])
    simp [AS.put, mat, this]
  ·exact hK.elim
structure Chain2 (P : Program) (ops : Array Oper) (T : Nat → AS) (rv : Nat → SV) (ef : Nat → Ef) : Prop where
 fr : ∀ i (o : Oper), ops[i]? = some o → freeO o = true → T (i + 1) = T i
 step : ∀ i (o : Oper), ops[i]? = some o → freeO o = false → T (i + 1) = (T i).put o.dst (rv i) ((ef i).on (T i).m) ∧ isNew (isQ P o.op) o.dst (T i).m (ef i) ∧ Alike P ops o (T i) (rv i) (ef i)
theorem chain2_of (hN : ∀ (i : Nat) (o : Oper), ops[i]? = some o → isN o.op = false) : ∀ (l : List Oper) (k : Nat) (S : AS), (∀ j, l[j]? = ops[k + j]?) → aops P ops KF (l.filter fun o => !freeO o) S →
  ∃ (T : Nat → AS) (rv : Nat → SV) (ef : Nat → Ef), T k = S ∧ KF (T (k + l.length)) ∧ ∀ i (o : Oper), k ≤ i → ops[i]? = some o → (freeO o = true → T (i + 1) = T i) ∧ (freeO o = false → T (i + 1) = (T i).put o.dst (rv i) ((ef i).on (T i).m) ∧ isNew (isQ P o.op) o.dst (T i).m (ef i) ∧ Alike P ops o (T i) (rv i) (ef i))
 | [], k, S, hl, h => by
  refine ⟨fun _ => S, fun _ => .u, fun _ => .id, rfl, h, fun i o hi ho => ?_⟩; have := hl (i - k); rw [show k + (i - k) = i by omega, ho] at this; simp at this
 | o :: r, k, S, hl, h => by
  have h0 : ops[k]? = some o := by simpa using (hl 0).symm
  have hl' : ∀ j, r[j]? = ops[k + 1 + j]? := fun j => by have := hl (j + 1); simpa [Nat.add_assoc, Nat.add_comm 1 j] using this
  cases hf : freeO o with
  | true =>
   simp only [List.filter_cons, hf, Bool.not_true, Bool.false_eq_true, if_false] at h; obtain ⟨T, rv, ef, h4, h5, h6⟩ := chain2_of hN r (k + 1) _ hl' h; refine ⟨fun i => if i ≤ k then S else T i, rv, ef, by simp, ?_, fun i o' hi ho => ?_⟩
   ·show KF (if k + (r.length + 1) ≤ k then S else T (k + (r.length + 1)))
    rw [if_neg (by omega), show k + (r.length + 1) = k + 1 + r.length by omega]; exact h5
   ·by_cases e : i = k
    ·subst e; rw [h0] at ho
     injection ho with ho
     subst ho; simp only [Nat.le_refl, if_true, show ¬ i + 1 ≤ i by omega, if_false]; exact ⟨fun _ => h4, fun e => by rw [hf] at e; cases e⟩
    ·simp only [show ¬ i ≤ k by omega, show ¬ i + 1 ≤ k by omega, if_false]; exact h6 i o' (by omega) ho
  | false =>
   simp only [List.filter_cons, hf, Bool.not_false, if_true] at h
   have h : opK P ops o S fun rv m' => aops P ops KF (r.filter fun o => !freeO o) (S.put o.dst rv m') := h
   obtain ⟨rv0, e0, h1, h2, h3⟩ := opK_alike h (hN k o h0); obtain ⟨T, rv, ef, h4, h5, h6⟩ := chain2_of hN r (k + 1) _ hl' h1; refine ⟨fun i => if i ≤ k then S else T i, fun i => if i = k then rv0 else rv i, fun i => if i = k then e0 else ef i, by simp, ?_, fun i o' hi ho => ?_⟩
   ·show KF (if k + (r.length + 1) ≤ k then S else T (k + (r.length + 1)))
    rw [if_neg (by omega), show k + (r.length + 1) = k + 1 + r.length by omega]; exact h5
   ·by_cases e : i = k
    ·subst e; rw [h0] at ho
     injection ho with ho
     subst ho; simp only [Nat.le_refl, if_true, show ¬ i + 1 ≤ i by omega, if_false]; exact ⟨(fun e => by rw [hf] at e; cases e), fun _ => ⟨h4, h2, h3⟩⟩
    ·simp only [show ¬ i ≤ k by omega, show ¬ i + 1 ≤ k by omega, if_false, e]; exact h6 i o' (by omega) ho
structure Ok2 (P : Program) (ops : Array Oper) : Prop where
 e : ∀ (i : Nat) (o : Oper), ops[i]? = some o → ∀ e ∈ o.after, Region.binds .any e = true → e.on < i
 n : ∀ (i : Nat) (o : Oper), ops[i]? = some o → isN o.op = false
 d : ∀ (i j : Nat) (o o' : Oper) (t : Nat), i ≠ j → ops[i]? = some o → ops[j]? = some o' → o.dst = some t → o'.dst ≠ some t
 r : ∀ (i j : Nat) (o o' : Oper) (t : Nat), i ≠ j → ops[i]? = some o → ops[j]? = some o' → o'.dst = some t → t ∈ reads ops o → anc ops ops.size i j = true ∨ anc ops ops.size j i = true
 q : ∀ (i j : Nat) (o o' : Oper), i ≠ j → ops[i]? = some o → ops[j]? = some o' → isQ P o.op = false → freeO o' = false → anc ops ops.size i j = true ∨ anc ops ops.size j i = true
theorem regOk2_spec (h : regOk2 P ops = true) : Ok2 P ops := by
 simp only [regOk2, List.all_eq_true, List.mem_range, Bool.and_eq_true] at h
 have sz : ∀ {i : Nat} {o : Oper}, ops[i]? = some o → i < ops.size := fun ho => (Array.getElem?_eq_some_iff.1 ho).1
 have pr : ∀ i j, i ≠ j → i < ops.size → j < ops.size → disB ops i j = true ∧ rdB ops i j = true ∧ (quietAt P ops i || freeAt ops j || anc ops ops.size i j || anc ops ops.size j i) = true := fun i j hne hi hj => by
  have := (h i hi).2 j hj; simp only [Bool.or_eq_true, beq_iff_eq, hne, false_or, Bool.and_eq_true] at this; refine ⟨this.1.1, this.1.2, ?_⟩
  simpa only [Bool.or_eq_true] using this.2
 refine ⟨fun i o ho e he hb => ?_, fun i o ho => ?_, fun i j o o' t hne ho ho' ht ht' => ?_, fun i j o o' t hne ho ho' ht hr => ?_, fun i j o o' hne ho ho' hq hf => ?_⟩
 ·have h1 := (h i (sz ho)).1.1; rw [ho, Option.map_some, Option.getD_some, Array.all_eq_true_iff_forall_mem] at h1
  simpa [hb] using h1 e he
 ·have h1 := (h i (sz ho)).1.2
  simpa [ho] using h1
 ·have := (pr i j hne (sz ho) (sz ho')).1; simp [disB, ho, ho', ht, ht'] at this
 ·have := (pr i j hne (sz ho) (sz ho')).2.1; simp only [rdB, ho, ho', Option.bind_some, ht, Bool.or_eq_true, Bool.not_eq_true', List.contains_eq_mem, decide_eq_false_iff_not] at this
  rcases this with (h | h) | h
  ·exact absurd hr h
  ·exact .inl h
  ·exact .inr h
 ·have := (pr i j hne (sz ho) (sz ho')).2.2; simp only [quietAt, freeAt, ho, ho', Option.map_some, Option.getD_some, hq, hf, Bool.or_eq_true, Bool.false_eq_true, false_or] at this; exact this
theorem anc_free {i j f : Nat} {o : Oper} (ho : ops[i]? = some o) (hf : freeO o = true) : anc ops f i j = false := by
 obtain ⟨T, k, -, -, -, -, h⟩ := freeO_spec hf
 cases f with
 | zero => rfl
 | succ f =>
  unfold anc; rw [ho]; simp only [Bool.or_eq_false_iff, Array.any_eq_false]; refine ⟨fun x hx => ?_, fun x hx => ?_⟩
  ·rw [h _ (Array.getElem_mem hx)]; simp
  ·rw [h _ (Array.getElem_mem hx)]; simp
def Und (ops : Array Oper) (L : Nat → Prop) (k : Nat) : Prop := ∃ (i : Nat) (o : Oper), ¬ L i ∧ ops[i]? = some o ∧ freeO o = true ∧ o.dst = some k
def Dn (ops : Array Oper) (L : Nat → Prop) (b i : Nat) : Prop := b ≤ i ∧ L i ∧ ∃ o, ops[i]? = some o ∧ freeO o = false
structure Inv2 (P : Program) (ops : Array Oper) (T : Nat → AS) (rv : Nat → SV) (ef : Nat → Ef) (L : Nat → Prop) (b : Nat) (S : AS) : Prop where
 n : S.n = (T b).n
 b1 : ∀ (i : Nat) (o : Oper), i < b → ops[i]? = some o → freeO o = false → L i
 b2 : ∀ (i : Nat) (o : Oper), b ≤ i → L i → ops[i]? = some o → isQ P o.op = true
 f1 : ∀ (i : Nat) (o : Oper) (t : Nat), Dn ops L b i → ops[i]? = some o → o.dst = some t → S.f t = rv i
 f2 : ∀ t, (∀ (i : Nat) (o : Oper), Dn ops L b i → ops[i]? = some o → o.dst ≠ some t) → ¬ Und ops L t → S.f t = (T b).f t
 m : ∀ k, ¬ Und ops L k → ∀ ob, mat S.m k = some ob ↔ mat (T b).m k = some ob ∨ ∃ i, Dn ops L b i ∧ ef i = .new k ob
 u : ∀ k, Und ops L k → mat S.m k = none
structure Has (P : Program) (ops : Array Oper) (T : Nat → AS) (L : Nat → Prop) (b : Nat) : Prop where
 f : ∀ (i : Nat) (o : Oper) (k : Nat), ops[i]? = some o → freeO o = true → o.dst = some k → (T b).f k = .c (.p k 0)
 m : ∀ k, Und ops L k → ∃ (i : Nat) (o : Oper) (TT : TypeId) (cs : List CV), ¬ L i ∧ ops[i]? = some o ∧ freeO o = true ∧ o.dst = some k ∧ o.op = .alloc TT ∧ zeroC P TT = some cs ∧ k < (T b).n ∧ mat (T b).m k = some (.x cs)
theorem chain2_inv {T : Nat → AS} {rv : Nat → SV} {ef : Nat → Ef} (hok : Ok2 P ops) (hT : Chain2 P ops T rv ef) {b : Nat} : ∀ i, b ≤ i → i ≤ ops.size → (∀ (j : Nat) (o : Oper), b ≤ j → j < i → ops[j]? = some o → freeO o = false → isQ P o.op = true) → Inv ops (T b) rv ef (fun j => b ≤ j ∧ j < i ∧ freeAt ops j = false) (T i) := by
 intro i hi
 induction i with
 | zero =>
  intro _ _
  have : b = 0 := by omega
  subst this; exact ⟨rfl, fun _ _ _ h => absurd h.2.1 (Nat.not_lt_zero _), fun _ _ => rfl, fun k ob => ⟨.inl, fun h => h.elim (fun h => h) fun ⟨_, h, _⟩ => absurd h.2.1 (Nat.not_lt_zero _)⟩⟩
 | succ i ih =>
  intro his hq
  by_cases hb : b = i + 1
  ·subst hb; exact ⟨rfl, fun j _ _ h => absurd h.2.1 (by omega), fun _ _ => rfl, fun k ob => ⟨.inl, fun h => h.elim (fun h => h) fun ⟨_, h, _⟩ => absurd h.2.1 (by omega)⟩⟩
  ·have ih := ih (by omega) (by omega) fun j o h1 h2 => hq j o h1 (by omega)
   have hil : i < ops.size := by omega
   have ho : ops[i]? = some ops[i] := Array.getElem?_eq_getElem hil
   cases hf : freeO ops[i] with
   | true =>
    rw [hT.fr i _ ho hf]
    refine ih.congr fun j => ⟨fun ⟨h1, h2, h3⟩ => ⟨h1, by omega, h3⟩, fun ⟨h1, h2, h3⟩ => ⟨h1, ?_, h3⟩⟩
    have : j ≠ i := fun e => by subst e; simp [freeAt, ho, hf] at h3
    omega
   | false =>
    obtain ⟨h1, h2, h3⟩ := hT.step i _ ho hf; rw [h1]
    refine Inv.congr (Inv.put ih ho (fun j o' t hj ho' ht ht' => hok.d i j _ _ t (by omega) ho ho' ht ht') (h2.2 (hq i _ (by omega) (by omega) ho hf)) fun k ob he => (h2.1 k ob he).2) fun j => ?_
    constructor
    ·rintro (⟨q1, q2, q3⟩ | rfl)
     ·exact ⟨q1, by omega, q3⟩
     ·exact ⟨by omega, by omega, by simp [freeAt, ho, hf]⟩
    ·rintro ⟨q1, q2, q3⟩
     by_cases e : j = i
     ·exact .inr e
     ·exact .inl ⟨q1, by omega, q3⟩
theorem freeAt_f {i : Nat} {o : Oper} (ho : ops[i]? = some o) : freeAt ops i = freeO o := by simp [freeAt, ho]
theorem dn_free {L : Nat → Prop} {b i : Nat} (h : Dn ops L b i) : freeAt ops i = false := by
 obtain ⟨_, _, o, ho, hf⟩ := h; rw [freeAt_f ho, hf]
theorem ready_facts {T : Nat → AS} {rv : Nat → SV} {ef : Nat → Ef} {L : Nat → Prop} {b : Nat} {S : AS} {c : Cx} {a : Act} {w : World} (hok : Ok2 P ops) (hT : Chain2 P ops T rv ef) (hI : Inv2 P ops T rv ef L b S) (hR : RelX w0 c S a w)
  (hC : ∀ j o, L j → ops[j]? = some o → ∀ e ∈ o.after, Region.binds .any e = true → L e.on) {i : Nat} {o : Oper} (ho : ops[i]? = some o) (hf : freeO o = false) (hiu : ¬ L i) (hdeps : ∀ e ∈ o.after, Region.binds .any e = true → L e.on) :
  b ≤ i ∧ Inv ops (T b) rv ef (fun j => b ≤ j ∧ j < i ∧ freeAt ops j = false) (T i) ∧ (∀ t ∈ reads ops o, S.f t = (T i).f t) ∧ Agree ((reads ops o).flatMap fun t => nmR (ez (T i) (.tmp t))) (T i).m S.m ∧
   (∀ k ∈ (reads ops o).flatMap fun t => nmR (ez (T i) (.tmp t)), ¬ Und ops L k) ∧ (∀ k ob, ef i = .new k ob → mat S.m k = none) ∧ S.n = (T i).n := by
 have hil : i < ops.size := (Array.getElem?_eq_some_iff.1 ho).1
 have hb : b ≤ i := by
  rcases Nat.lt_or_ge i b with h | h
  ·exact absurd (hI.b1 i o h ho hf) hiu
  ·exact h
 have anI : ∀ j, anc ops ops.size i j = true → L j := fun j h => anc_in (L := L) hC (fun o' ho' => by rw [ho] at ho'; injection ho' with ho'; subst ho'; exact hdeps) h
 have anJ : ∀ j, L j → anc ops ops.size j i = true → False := fun j hj h => hiu (anc_in (L := L) hC (fun o' ho' => hC j o' hj ho') h)
 have hquiet : ∀ j o', b ≤ j → j < i → ops[j]? = some o' → freeO o' = false → isQ P o'.op = true := fun j o' h1 h2 h3 h4 => by
  cases hq : isQ P o'.op with
  | true => rfl
  | false =>
   rcases hok.q j i o' o (by omega) h3 ho hq hf with h | h
   ·have := anc_lt hok.e h; omega
   ·rw [hI.b2 j o' h1 (anI j h) h3] at hq; cases hq
 have hTi := chain2_inv hok hT i hb (by omega) hquiet; have hn : S.n = (T i).n := hI.n.trans hTi.n.symm
 have hund : ∀ t ∈ reads ops o, ¬ Und ops L t := fun t ht ⟨j, o', hj, ho', hf', hd'⟩ => by
  have hne : i ≠ j := fun e => by subst e; rw [ho] at ho'; injection ho' with ho'; subst ho'; rw [hf] at hf'; cases hf'
  rcases hok.r i j o o' t hne ho ho' hd' ht with h | h
  ·exact hj (anI j h)
  ·rw [anc_free ho' hf'] at h; cases h
 have hval : ∀ t ∈ reads ops o, S.f t = (T i).f t := by
  intro t ht
  by_cases hx : ∃ j o', Dn ops L b j ∧ ops[j]? = some o' ∧ o'.dst = some t
  ·obtain ⟨j, o', hj, ho', ht'⟩ := hx
   have hne : i ≠ j := fun e => by subst e; exact hiu hj.2.1
   rw [hI.f1 j o' t hj ho' ht']
   rcases hok.r i j o o' t hne ho ho' ht' ht with h | h
   ·exact (hTi.f1 j o' t ⟨hj.1, anc_lt hok.e h, dn_free hj⟩ ho' ht').symm
   ·exact (anJ j hj.2.1 h).elim
  ·rw [hI.f2 t (fun j o' h1 h2 h3 => hx ⟨j, o', h1, h2, h3⟩) (hund t ht)]; refine (hTi.f2 t fun j o' hji ho' ht' => ?_).symm
   have hfj : freeO o' = false := by rw [← freeAt_f ho']; exact hji.2.2
   rcases hok.r i j o o' t (by omega) ho ho' ht' ht with h | h
   ·exact hx ⟨j, o', ⟨hji.1, anI j h, o', ho', hfj⟩, ho', ht'⟩
   ·have := anc_lt hok.e h; omega
 have hex : ∀ k ∈ (reads ops o).flatMap fun t => nmR (ez (T i) (.tmp t)), ∃ ob', mat S.m k = some ob' := fun k hk => by
  obtain ⟨t, ht, hk⟩ := List.mem_flatMap.1 hk; rw [← ev_same hn (x := .tmp t) fun t' e => by injection e with e; subst e; exact hval _ ht] at hk; exact nm_there (hR.evs (.tmp t)) k hk
 have hnu : ∀ k ∈ (reads ops o).flatMap fun t => nmR (ez (T i) (.tmp t)), ¬ Und ops L k := fun k hk hu => by
  obtain ⟨ob, h⟩ := hex k hk; rw [hI.u k hu] at h
  cases h
 have same : ∀ k ob, mat (T i).m k = some ob → ∀ ob', mat S.m k = some ob' → ¬ Und ops L k → ob' = ob := fun k ob hob ob' hob' hu => by
  rcases (hI.m k hu ob').1 hob' with h6 | ⟨j', h6, h7⟩
  ·have := (hTi.m k ob').2 (.inl h6); rw [hob] at this
   injection this with this
   exact this.symm
  ·obtain ⟨o2, ho2, hf2⟩ := h6.2.2; have e2 := ((hT.step j' o2 ho2 hf2).2.1.1 k ob' h7)
   rcases (hTi.m k ob).1 hob with h4 | ⟨j, h4, h5⟩
   ·-- new at j' though it was there at b
    exfalso
    have hbj : ∀ l o', b ≤ l → l < j' → ops[l]? = some o' → freeO o' = false → isQ P o'.op = true := fun l o' h1 h2 h3 h8 => by
     cases hq : isQ P o'.op with
     | true => rfl
     | false =>
      rcases hok.q l j' o' o2 (by omega) h3 ho2 hq hf2 with h | h
      ·have := anc_lt hok.e h; omega
      ·have hl : L l := anc_in (L := L) hC (fun o'' ho'' => hC j' o'' h6.2.1 ho'') h
       rw [hI.b2 l o' h1 hl h3] at hq; cases hq
    have hTj := chain2_inv hok hT j' h6.1 (by have := (Array.getElem?_eq_some_iff.1 ho2).1; omega) hbj; have := (hTj.m k ob).2 (.inl h4); rw [e2.2] at this
    cases this
   ·obtain ⟨oj, hoj⟩ : ∃ oj, ops[j]? = some oj := ⟨_, Array.getElem?_eq_getElem (show j < ops.size by omega)⟩
    have hfj : freeO oj = false := by rw [← freeAt_f hoj]; exact h4.2.2
    have e1 := ((hT.step j oj hoj hfj).2.1.1 k ob h5).1
    have hjj : j = j' := Classical.byContradiction fun hne => hok.d j j' oj o2 k hne hoj ho2 e1 e2.1
    subst hjj; rw [h5] at h7
    injection h7 with _ h7
    exact h7.symm
 refine ⟨hb, hTi, hval, fun k hk ob hob => ?_, hnu, fun k ob he => ?_, hn⟩
 ·obtain ⟨ob', hob'⟩ := hex k hk; rw [hob', same k ob hob ob' hob' (hnu k hk)]
 ·obtain ⟨hd, hnn⟩ := (hT.step i o ho hf).2.1.1 k ob he
  cases hk : mat S.m k with
  | none => rfl
  | some ob' =>
   exfalso
   have hu : ¬ Und ops L k := fun hu => by rw [hI.u k hu] at hk; cases hk
   rcases (hI.m k hu ob').1 hk with h4 | ⟨j, h4, h5⟩
   ·rw [(hTi.m k ob').2 (.inl h4)] at hnn; cases hnn
   ·obtain ⟨o', ho', hf'⟩ := h4.2.2; have h6 := ((hT.step j o' ho' hf').2.1.1 k ob' h5).1
    have hne : i ≠ j := fun e => by subst e; exact hiu h4.2.1
    exact hok.d i j o o' k hne ho ho' hd h6
theorem und_more {L : Nat → Prop} {i k : Nat} (h : Und ops (fun j => L j ∨ j = i) k) : Und ops L k := by
 obtain ⟨j, o, h1, h2, h3, h4⟩ := h; exact ⟨j, o, fun h => h1 (.inl h), h2, h3, h4⟩
theorem und_same {L : Nat → Prop} {i k : Nat} {o : Oper} (ho : ops[i]? = some o) (hf : freeO o = false) : Und ops (fun j => L j ∨ j = i) k ↔ Und ops L k := by
 refine ⟨und_more, fun ⟨j, o', h1, h2, h3, h4⟩ => ⟨j, o', fun h => h.elim h1 fun e => ?_, h2, h3, h4⟩⟩; subst e; rw [ho] at h2
 injection h2 with h2
 subst h2; rw [hf] at h3
 cases h3
theorem put_f {S : AS} {d : Option Nat} {r : SV} {m : Mem} {t : Nat} (h : d ≠ some t) : (S.put d r m).f t = S.f t := by
 cases d with
 | none => rfl
 | some d => have : t ≠ d := fun e => h (by rw [e]); simp [AS.put, fset, this]
theorem put_at {S : AS} {r : SV} {m : Mem} {t : Nat} : (S.put (some t) r m).f t = r := by simp [AS.put, fset]
theorem step_quiet {T : Nat → AS} {rv : Nat → SV} {ef : Nat → Ef} {L : Nat → Prop} {b : Nat} {S : AS} {c : Cx} {a : Act} {w : World} (hok : Ok2 P ops) (hT : Chain2 P ops T rv ef) (hI : Inv2 P ops T rv ef L b S) (hR : RelX w0 c S a w)
  (hC : ∀ j o, L j → ops[j]? = some o → ∀ e ∈ o.after, Region.binds .any e = true → L e.on) {i : Nat} {o : Oper} (ho : ops[i]? = some o) (hf : freeO o = false) (hiu : ¬ L i) (hdeps : ∀ e ∈ o.after, Region.binds .any e = true → L e.on) (hq : isQ P o.op = true) :
  opK P ops o S (fun r m' => S.put o.dst r m' = S.put o.dst (rv i) ((ef i).on S.m)) ∧ Inv2 P ops T rv ef (fun j => L j ∨ j = i) b (S.put o.dst (rv i) ((ef i).on S.m)) := by
 obtain ⟨hb, hTi, hval, hag, hnu, hnone, hn⟩ := ready_facts hok hT hI hR hC ho hf hiu hdeps; obtain ⟨h1, h2, h3⟩ := hT.step i o ho hf; have hsets := h2.2 hq
 have hag2 : Look (ef i) ((reads ops o).flatMap fun t => nmR (ez (T i) (.tmp t))) (T i).m S.m := by
  cases he : ef i with
  | upd m1 ks => exact absurd he (hsets.2 m1 ks)
  | set k ob => exact absurd he (hsets.1 k ob)
  | id => exact hag
  | new k ob => exact hag
 refine ⟨h3.2 S hn hval hag2 hnone _ rfl, ?_⟩
 have hdn : ∀ j, Dn ops (fun j => L j ∨ j = i) b j ↔ Dn ops L b j ∨ j = i := fun j => by
  constructor
  ·rintro ⟨q1, q2 | q2, q3⟩
   ·exact .inl ⟨q1, q2, q3⟩
   ·exact .inr q2
  ·rintro (⟨q1, q2, q3⟩ | rfl)
   ·exact ⟨q1, .inl q2, q3⟩
   ·exact ⟨hb, .inr rfl, o, ho, hf⟩
 have hdj : ∀ j o' t, Dn ops L b j → ops[j]? = some o' → o'.dst = some t → o.dst ≠ some t := fun j o' t hj ho' ht => hok.d j i o' o t (fun e => by subst e; exact hiu hj.2.1) ho' ho ht
 have hdu : ∀ t, Und ops L t → o.dst ≠ some t := fun t ⟨j, o', q1, q2, q3, q4⟩ => hok.d j i o' o t (fun e => by subst e; rw [ho] at q2; injection q2 with q2; subst q2; rw [hf] at q3; cases q3) q2 ho q4
 have hnewd : ∀ k ob, ef i = .new k ob → o.dst = some k := fun k ob he => (h2.1 k ob he).1
 have hmem : ∀ k ob, mat ((ef i).on S.m) k = some ob ↔ mat S.m k = some ob ∨ ef i = .new k ob := fun k ob => by
  cases he : ef i with
  | upd m1 ks => exact absurd he (hsets.2 m1 ks)
  | set k ob => exact absurd he (hsets.1 k ob)
  | id => simp [Ef.on]
  | new k' ob' =>
   have hnn := hnone k' ob' he; simp only [Ef.on, mat]
   by_cases e : k' = k
   ·subst e; simp only [if_true, Option.some.injEq]
    constructor
    ·rintro rfl; exact .inr rfl
    ·rintro (h | h)
     ·rw [hnn] at h; cases h
     ·injection h
   ·simp only [e, if_false]
    constructor
    ·exact .inl
    ·rintro (h | h)
     ·exact h
     ·injection h with e1; exact absurd e1 e
 refine ⟨hI.n, fun j o' q1 q2 q3 => .inl (hI.b1 j o' q1 q2 q3), fun j o' q1 q2 q3 => ?_, fun j o' t q1 q2 q3 => ?_, fun t q1 q2 => ?_, fun k q1 ob => ?_, fun k q1 => ?_⟩
 ·rcases q2 with q2 | rfl
  ·exact hI.b2 j o' q1 q2 q3
  ·rw [ho] at q3; injection q3 with q3; subst q3; exact hq
 ·rcases (hdn j).1 q1 with q1 | rfl
  ·rw [put_f (hdj j o' t q1 q2 q3)]; exact hI.f1 j o' t q1 q2 q3
  ·rw [ho] at q2; injection q2 with q2; subst q2
   rw [q3, put_at]
 ·rw [put_f (q1 i o ((hdn i).2 (.inr rfl)) ho)]
  exact hI.f2 t (fun j o' q3 q4 => q1 j o' ((hdn j).2 (.inl q3)) q4) fun h => q2 ((und_same ho hf).2 h)
 ·show mat ((ef i).on S.m) k = some ob ↔ _
  rw [hmem, hI.m k (fun h => q1 ((und_same ho hf).2 h))]
  constructor
  ·rintro ((h | ⟨j, q3, q4⟩) | h)
   ·exact .inl h
   ·exact .inr ⟨j, (hdn j).2 (.inl q3), q4⟩
   ·exact .inr ⟨i, (hdn i).2 (.inr rfl), h⟩
  ·rintro (h | ⟨j, q3, q4⟩)
   ·exact .inl (.inl h)
   ·rcases (hdn j).1 q3 with q3 | rfl
    ·exact .inl (.inr ⟨j, q3, q4⟩)
    ·exact .inr q4
 ·have hu := (und_same ho hf).1 q1
  cases hk : mat ((ef i).on S.m) k with
  | none => exact hk
  | some ob =>
   rcases (hmem k ob).1 hk with h | h
   ·rw [hI.u k hu] at h; cases h
   ·exact absurd (hnewd k ob h) (hdu k hu)
theorem step_free {T : Nat → AS} {rv : Nat → SV} {ef : Nat → Ef} {L : Nat → Prop} {b : Nat} {S : AS} (hok : Ok2 P ops) (hT : Chain2 P ops T rv ef) (hI : Inv2 P ops T rv ef L b S) (hH : Has P ops T L b) {i : Nat} {o : Oper} (ho : ops[i]? = some o) (hf : freeO o = true) (hiu : ¬ L i) :
  ∃ S1, opK P ops o S (fun r m' => S.put o.dst r m' = S1) ∧ Inv2 P ops T rv ef (fun j => L j ∨ j = i) b S1 := by
 obtain ⟨TT, k, e1, e2, e3, hk1000, e4⟩ := freeO_spec hf; have hund : Und ops L k := ⟨i, o, hiu, ho, hf, e3⟩; obtain ⟨i', o', TT', cs, q1, q2, q3, q4, q5, q6, q7, q8⟩ := hH.m k hund
 have hii : i' = i := Classical.byContradiction fun hne => hok.d i' i o' o k hne q2 ho q4 e3
 subst hii; rw [ho] at q2
 injection q2 with q2
 subst q2; rw [e1] at q5
 injection q5 with q5
 subst q5; have hnone := hI.u k hund
 have hother : ∀ t, Und ops (fun j => L j ∨ j = i') t ↔ Und ops L t ∧ t ≠ k := fun t => by
  constructor
  ·rintro ⟨j, oj, h1, h2, h3, h4⟩; exact ⟨⟨j, oj, fun h => h1 (.inl h), h2, h3, h4⟩, fun e => h1 (.inr (Classical.byContradiction fun hne => hok.d j i' oj o t hne h2 ho h4 (by rw [e3, e])))⟩
  ·rintro ⟨⟨j, oj, h1, h2, h3, h4⟩, hne⟩; exact ⟨j, oj, fun h => h.elim h1 fun e => by subst e; rw [ho] at h2; injection h2 with h2; subst h2; rw [e3] at h4; injection h4 with h4; exact hne h4.symm, h2, h3, h4⟩
 have hdn : ∀ j, Dn ops (fun j => L j ∨ j = i') b j ↔ Dn ops L b j := fun j => by
  constructor
  ·rintro ⟨h1, h2 | h2, o2, h3, h4⟩
   ·exact ⟨h1, h2, o2, h3, h4⟩
   ·subst h2; rw [ho] at h3; injection h3 with h3; subst h3; rw [hf] at h4; cases h4
  ·rintro ⟨h1, h2, h3⟩; exact ⟨h1, .inl h2, h3⟩
 have hdk : ∀ j o2, Dn ops L b j → ops[j]? = some o2 → o2.dst ≠ some k := fun j o2 hj ho2 h => hok.d j i' o2 o k (fun e => by subst e; exact hiu hj.2.1) ho2 ho h e3
 refine ⟨S.put o.dst (.c (.p k 0)) ((k, .x cs) :: S.m), ⟨fun t ht => ?_, ?_⟩, hI.n, fun j o' h1 h2 h3 => .inl (hI.b1 j o' h1 h2 h3), fun j o' h1 h2 h3 => ?_, fun j o' t h1 h2 h3 => ?_, fun t h1 h2 => ?_, fun t h1 ob => ?_, fun t h1 => ?_⟩
 ·rw [e3] at ht
  injection ht with ht
  subst ht; rw [hI.n]; exact q7
 ·simp only [e2, astep, e1, e3, allocK, q6]; exact ⟨hnone, trivial⟩
 ·rcases h2 with h2 | rfl
  ·exact hI.b2 j o' h1 h2 h3
  ·rw [ho] at h3; injection h3 with h3; subst h3; simp [isQ, e1]
 ·rw [e3, put_f fun e => by injection e with e; subst e; exact hdk j o' ((hdn j).1 h1) h2 h3]; exact hI.f1 j o' t ((hdn j).1 h1) h2 h3
 ·by_cases hk : t = k
  ·subst hk; rw [e3, put_at]; exact (hH.f i' o t ho hf e3).symm
  ·rw [e3, put_f fun e => by injection e with e; exact hk e.symm]
   exact hI.f2 t (fun j o' h3 h4 => h1 j o' ((hdn j).2 h3) h4) fun h => h2 ((hother t).2 ⟨h, hk⟩)
 ·show mat ((k, .x cs) :: S.m) t = some ob ↔ _
  simp only [mat]
  by_cases hk : k = t
  ·subst hk; simp only [if_true, Option.some.injEq]
   constructor
   ·rintro rfl; exact .inl q8
   ·rintro (h | ⟨j, h3, h4⟩)
    ·rw [q8] at h; injection h
    ·obtain ⟨h5, h6, o2, h7, h8⟩ := (hdn j).1 h3; exact absurd ((hT.step j o2 h7 h8).2.1.1 k ob h4).1 (hdk j o2 ⟨h5, h6, o2, h7, h8⟩ h7)
  ·simp only [hk, if_false]; rw [hI.m t (fun h => h1 ((hother t).2 ⟨h, fun e => hk e.symm⟩))]; simp only [hdn]
 ·obtain ⟨h2, h3⟩ := (hother t).1 h1
  show mat ((k, .x cs) :: S.m) t = none
  rw [mat, if_neg (Ne.symm h3)]; exact hI.u t h2
theorem step_loud {T : Nat → AS} {rv : Nat → SV} {ef : Nat → Ef} {L : Nat → Prop} {b : Nat} {S : AS} {c : Cx} {a : Act} {w : World} (hok : Ok2 P ops) (hT : Chain2 P ops T rv ef) (hI : Inv2 P ops T rv ef L b S) (hH : Has P ops T L b) (hR : RelX w0 c S a w)
  (hC : ∀ j o, L j → ops[j]? = some o → ∀ e ∈ o.after, Region.binds .any e = true → L e.on) {i : Nat} {o : Oper} (ho : ops[i]? = some o) (hf : freeO o = false) (hiu : ¬ L i) (hdeps : ∀ e ∈ o.after, Region.binds .any e = true → L e.on) (hq : isQ P o.op = false) :
  opK P ops o S (fun r m' => S.put o.dst r m' = S.put o.dst (rv i) ((ef i).on S.m)) ∧ Inv2 P ops T rv ef (fun j => L j ∨ j = i) (i + 1) (S.put o.dst (rv i) ((ef i).on S.m)) ∧ Has P ops T (fun j => L j ∨ j = i) (i + 1) := by
 obtain ⟨hb, hTi, hval, hag, hnu, hnone, hn⟩ := ready_facts hok hT hI hR hC ho hf hiu hdeps; obtain ⟨h1, h2, h3⟩ := hT.step i o ho hf
 have anI : ∀ j, anc ops ops.size i j = true → L j := fun j h => anc_in (L := L) hC (fun o' ho' => by rw [ho] at ho'; injection ho' with ho'; subst ho'; exact hdeps) h
 have anJ : ∀ j, L j → anc ops ops.size j i = true → False := fun j hj h => hiu (anc_in (L := L) hC (fun o' ho' => hC j o' hj ho') h)
 have before : ∀ j o', j < i → ops[j]? = some o' → freeO o' = false → L j := fun j o' hji ho' hf' => by
  rcases hok.q i j o o' (by omega) ho ho' hq hf' with h | h
  ·exact anI j h
  ·have := anc_lt hok.e h; omega
 have behind : ∀ j o', i ≤ j → ops[j]? = some o' → freeO o' = false → ¬ L j := fun j o' hij ho' hf' hl => by
  by_cases e : i = j
  ·subst e; exact hiu hl
  ·rcases hok.q i j o o' e ho ho' hq hf' with h | h
   ·have := anc_lt hok.e h; omega
   ·exact anJ j hl h
 have hdn : ∀ j, Dn ops L b j ↔ b ≤ j ∧ j < i ∧ freeAt ops j = false := fun j => by
  constructor
  ·intro h; refine ⟨h.1, ?_, dn_free h⟩; obtain ⟨q1, q2, o', q3, q4⟩ := h
   rcases Nat.lt_or_ge j i with h | h
   ·exact h
   ·exact absurd q2 (behind j o' h q3 q4)
  ·rintro ⟨q1, q2, q3⟩
   have hjs : j < ops.size := by have := (Array.getElem?_eq_some_iff.1 ho).1; omega
   have ho' : ops[j]? = some ops[j] := Array.getElem?_eq_getElem hjs
   have hf' : freeO ops[j] = false := by rw [← freeAt_f ho']; exact q3
   exact ⟨q1, before j _ q2 ho' hf', _, ho', hf'⟩
 have hm : ∀ k, ¬ Und ops L k → mat S.m k = mat (T i).m k := fun k hu => by
  have key : ∀ ob, mat S.m k = some ob ↔ mat (T i).m k = some ob := fun ob => by
   rw [hI.m k hu, hTi.m]; simp only [hdn]
  cases h4 : mat (T i).m k with
  | some ob => exact (key ob).2 h4
  | none =>
   cases h5 : mat S.m k with
   | none => rfl
   | some ob => rw [(key ob).1 h5] at h4; cases h4
 have hv : ∀ t, ¬ Und ops L t → S.f t = (T i).f t := fun t hu => by
  by_cases hx : ∃ j o', Dn ops L b j ∧ ops[j]? = some o' ∧ o'.dst = some t
  ·obtain ⟨j, o', hj, ho', ht'⟩ := hx; rw [hI.f1 j o' t hj ho' ht', hTi.f1 j o' t ((hdn j).1 hj) ho' ht']
  ·rw [hI.f2 t (fun j o' q1 q2 q3 => hx ⟨j, o', q1, q2, q3⟩) hu, hTi.f2 t fun j o' q1 q2 q3 => hx ⟨j, o', (hdn j).2 q1, q2, q3⟩]
 have u1000 : ∀ k, Und ops L k → k < 1000 := fun k ⟨j, o', _, _, q3, q4⟩ => by
  obtain ⟨_, k', _, _, e3, e5, _⟩ := freeO_spec q3; rw [q4] at e3
  injection e3 with e3
  rw [e3]; exact e5
 have hTu : ∀ k, Und ops L k → ∃ i' o' TT cs, ¬ L i' ∧ ops[i']? = some o' ∧ freeO o' = true ∧ o'.dst = some k ∧ o'.op = .alloc TT ∧ zeroC P TT = some cs ∧ k < (T b).n ∧ mat (T i).m k = some (.x cs) := fun k hu => by
  obtain ⟨i', o', TT, cs, q1, q2, q3, q4, q5, q6, q7, q8⟩ := hH.m k hu; exact ⟨i', o', TT, cs, q1, q2, q3, q4, q5, q6, q7, (hTi.m k _).2 (.inl q8)⟩
 have hless : Less ((reads ops o).flatMap fun t => nmR (ez (T i) (.tmp t))) (T i).m S.m := by
  refine ⟨fun k ob hk => ?_, hag, fun k hk => hm k fun hu => by have := u1000 k hu; omega⟩
  have hu : ¬ Und ops L k := fun hu => by rw [hI.u k hu] at hk; cases hk
  rw [← hm k hu]; exact hk
 have hag2 : Look (ef i) ((reads ops o).flatMap fun t => nmR (ez (T i) (.tmp t))) (T i).m S.m := by
  cases he : ef i with
  | upd m1 ks => exact hless
  | set k ob => exact hless
  | id => exact hag
  | new k ob => exact hag
 have hus : ∀ k, Und ops (fun j => L j ∨ j = i) k ↔ Und ops L k := fun k => und_same ho hf
 have hdu : ∀ t, Und ops L t → o.dst ≠ some t := fun t ⟨j, o', q1, q2, q3, q4⟩ => hok.d j i o' o t (fun e => by subst e; rw [ho] at q2; injection q2 with q2; subst q2; rw [hf] at q3; cases q3) q2 ho q4
 -- what the effect does to a block that is not laid yet
 have hundm : ∀ k, Und ops L k → mat ((ef i).on S.m) k = none ∧ mat ((ef i).on (T i).m) k = mat (T i).m k := fun k hu => by
  obtain ⟨_, _, _, cs, _, _, _, _, _, _, _, q8⟩ := hTu k hu; have hSn := hI.u k hu
  cases he : ef i with
  | id => exact ⟨hSn, rfl⟩
  | new k' ob =>
   have hne : ¬ k' = k := fun e => hdu k hu (by rw [← e]; exact (h2.1 k' ob he).1)
   simp only [Ef.on, mat, hne, if_false]; exact ⟨hSn, trivial⟩
  | set k' ob =>
   have hne : k ≠ k' := fun e => hnu k' (h3.1.1 k' ob he) (e ▸ hu)
   simp only [Ef.on]; exact ⟨by rw [mat_set_other hne]; exact hSn, mat_set_other hne⟩
  | upd m1 ks =>
   obtain ⟨g1, g2⟩ := h3.1.2 m1 ks he; have hk := u1000 k hu
   have hks : k ∉ ks := fun h => by have := g1 k h; omega
   have hm1 : mat m1 k = none := mat_none.2 fun p hp e => by
    rcases g2 p.1 (List.mem_map_of_mem hp) with h | h
    ·exact hks (e ▸ h)
    ·rw [e, q8] at h; cases h
   simp only [Ef.on]; rw [mat_app, mat_app, hm1, mat_mdelL, mat_mdelL, if_neg hks, if_neg hks]; exact ⟨hSn, rfl⟩
 refine ⟨h3.2 S hn hval hag2 hnone _ rfl, ⟨?_, fun j o' q1 q2 q3 => ?_, fun j o' q1 q2 q3 => ?_, fun j o' t q1 => ?_, fun t q1 q2 => ?_, fun k q1 ob => ?_, fun k q1 => (hundm k ((hus k).1 q1)).1⟩, fun j o' k q1 q2 q3 => ?_, fun k q1 => ?_⟩
 ·rw [h1]; exact hn
 ·rcases Nat.lt_or_ge j i with h | h
  ·exact .inl (before j o' h q2 q3)
  ·exact .inr (by omega)
 ·cases hfj : freeO o' with
  | true =>
   obtain ⟨TT, _, e1, _⟩ := freeO_spec hfj; simp [isQ, e1]
  | false =>
   rcases q2 with q2 | rfl
   ·exact absurd q2 (behind j o' (by omega) q3 hfj)
   ·omega
 ·obtain ⟨q2, q3, o2, q4, q5⟩ := q1
  rcases q3 with q3 | rfl
  ·exact absurd q3 (behind j o2 (by omega) q4 q5)
  ·omega
 ·have hu : ¬ Und ops L t := fun h => q2 ((hus t).2 h)
  rw [h1]
  by_cases hd : o.dst = some t
  ·rw [hd, put_at, put_at]
  ·rw [put_f hd, put_f hd, hv t hu]
 ·have hu : ¬ Und ops L k := fun h => q1 ((hus k).2 h)
  have hno : ¬ ∃ j, Dn ops (fun j => L j ∨ j = i) (i + 1) j ∧ ef j = .new k ob := fun ⟨j, ⟨q2, q3, o2, q4, q5⟩, _⟩ => by
   rcases q3 with q3 | rfl
   ·exact absurd q3 (behind j o2 (by omega) q4 q5)
   ·omega
  show mat ((ef i).on S.m) k = some ob ↔ _
  rw [h1]; simp only [hno, or_false]
  show _ ↔ mat ((ef i).on (T i).m) k = some ob
  have hk := hm k hu
  cases he : ef i with
  | id => simp only [Ef.on]; rw [hk]
  | new k' ob' => simp only [Ef.on, mat]; rw [hk]
  | set k' ob' =>
   simp only [Ef.on]
   by_cases e : k = k'
   ·subst e
    cases h4 : mat (T i).m k with
    | none => rw [mat_set_none h4, mat_set_none (by rw [hk]; exact h4)]
    | some ob2 => rw [mat_set_same h4, mat_set_same (by rw [hk]; exact h4)]
   ·rw [mat_set_other e, mat_set_other e, hk]
  | upd m1 ks => simp only [Ef.on]; rw [mat_app, mat_app, mat_mdelL, mat_mdelL, hk]
 ·rw [h1, put_f fun e => hok.d i j o o' k (fun e2 => by subst e2; rw [ho] at q1; injection q1 with q1; subst q1; rw [hf] at q2; cases q2) ho q1 e q3]; have h5 := hH.f j o' k q1 q2 q3; rw [← h5]
  exact hTi.f2 k fun j2 o2 q4 q5 q6 => hok.d j2 j o2 o' k (fun e => by subst e; rw [q1] at q5; injection q5 with q5; subst q5; have := q4.2.2; rw [freeAt_f q1, q2] at this; cases this) q5 q1 q6 q3
 ·have hu := (hus k).1 q1; obtain ⟨i', o', TT, cs, r1, r2, r3, r4, r5, r6, r7, r8⟩ := hTu k hu; refine ⟨i', o', TT, cs, fun h => h.elim r1 fun e => ?_, r2, r3, r4, r5, r6, ?_, ?_⟩
  ·subst e; rw [ho] at r2; injection r2 with r2; subst r2; rw [hf] at r3; cases r3
  ·rw [h1]; show k < (T i).n; rw [hTi.n]; exact r7
  ·rw [h1]; show mat ((ef i).on (T i).m) k = _; rw [(hundm k hu).2]; exact r8
theorem sim_far2 {T : Nat → AS} {rv : Nat → SV} {ef : Nat → Ef} (hok : Ok2 P ops) (hT : Chain2 P ops T rv ef) (hQ : ∀ a w, Rel w0 (T ops.size) a w → Q .normal a w) :
  ∀ (m : Nat) (listed : Array Bool) (b : Nat) (S : AS) (a : Act) (w : World), listed.size = ops.size → b ≤ ops.size → (∀ j o, listed.getD j false = true → ops[j]? = some o → ∀ e ∈ o.after, Region.binds .any e = true → listed.getD e.on false = true) →
   Inv2 P ops T rv ef (fun i => listed.getD i false = true) b S → Has P ops T (fun i => listed.getD i false = true) b → Rel w0 S a w → ((List.range ops.size).filter fun i => !listed.getD i false).length ≤ m → wpAny P .any ops Q m listed a w := by
 have gdd : ∀ {listed : Array Bool} {i : Nat}, listed.size = ops.size → i < ops.size → listed.getD i true = listed.getD i false := fun hs hi => by
  simp [Array.getD, hs, hi]
 -- nothing is ready: all are listed
 have fin : ∀ (listed : Array Bool) (b : Nat) (S : AS) (a : Act) (w : World), listed.size = ops.size → b ≤ ops.size → Inv2 P ops T rv ef (fun i => listed.getD i false = true) b S → Rel w0 S a w → Region.ready .any ops listed = [] → Q .normal a w := by
  intro listed b S a w hs hbs hI hR hr
  have hall : ∀ i, i < ops.size → listed.getD i false = true := by
   intro i
   induction i using Nat.strongRecOn with
   | _ i ih =>
    intro hi
    cases hl : listed.getD i false with
    | true => rfl
    | false =>
     have : i ∈ Region.ready .any ops listed := mem_ready.2 ⟨by rw [gdd hs hi]; exact hl, ops[i], Array.getElem?_eq_getElem hi, fun e he hb => by
      have := hok.e i _ (Array.getElem?_eq_getElem hi) e he hb
      exact ih e.on this (by omega)⟩
     rw [hr] at this
     cases this
  have hq : ∀ j o, b ≤ j → j < ops.size → ops[j]? = some o → freeO o = false → isQ P o.op = true := fun j o h1 h2 h3 _ => hI.b2 j o h1 (hall j h2) h3
  have hTi := chain2_inv hok hT ops.size hbs (Nat.le_refl _) hq
  have hu : ∀ k, ¬ Und ops (fun i => listed.getD i false = true) k := fun k ⟨i, o, h1, h2, _⟩ => h1 (hall i (Array.getElem?_eq_some_iff.1 h2).1)
  have hdn : ∀ j, Dn ops (fun i => listed.getD i false = true) b j ↔ b ≤ j ∧ j < ops.size ∧ freeAt ops j = false := fun j => by
   constructor
   ·intro h; obtain ⟨q1, q2, o', q3, q4⟩ := h; exact ⟨q1, (Array.getElem?_eq_some_iff.1 q3).1, by rw [freeAt_f q3]; exact q4⟩
   ·rintro ⟨q1, q2, q3⟩; have ho' : ops[j]? = some ops[j] := Array.getElem?_eq_getElem q2; exact ⟨q1, hall j q2, _, ho', by rw [← freeAt_f ho']; exact q3⟩
  refine hQ a w (hR.eqv ⟨hTi.n.trans hI.n.symm, fun t => ?_, fun k => ?_⟩)
  ·by_cases hx : ∃ j o', Dn ops (fun i => listed.getD i false = true) b j ∧ ops[j]? = some o' ∧ o'.dst = some t
   ·obtain ⟨j, o', hj, ho', ht'⟩ := hx; rw [hI.f1 j o' t hj ho' ht', hTi.f1 j o' t ((hdn j).1 hj) ho' ht']
   ·rw [hI.f2 t (fun j o' q1 q2 q3 => hx ⟨j, o', q1, q2, q3⟩) (hu t), hTi.f2 t fun j o' q1 q2 q3 => hx ⟨j, o', (hdn j).2 q1, q2, q3⟩]
  ·have key : ∀ ob, mat S.m k = some ob ↔ mat (T ops.size).m k = some ob := fun ob => by
    rw [hI.m k (hu k), hTi.m]; simp only [hdn]
   cases h4 : mat S.m k with
   | some ob => exact (key ob).1 h4
   | none =>
    cases h5 : mat (T ops.size).m k with
    | none => rfl
    | some ob => rw [(key ob).2 h5] at h4; cases h4
 intro m
 induction m with
 | zero =>
  intro listed b S a w hs hbs hC hI hH hR hm
  have hr : Region.ready .any ops listed = [] := by
   cases hx : Region.ready .any ops listed with
   | nil => rfl
   | cons i r =>
    have hi : i ∈ Region.ready .any ops listed := by rw [hx]; exact List.mem_cons_self
    obtain ⟨h1, o, h2, _⟩ := mem_ready.1 hi; have hil := (Array.getElem?_eq_some_iff.1 h2).1
    have : i ∈ (List.range ops.size).filter fun i => !listed.getD i false := List.mem_filter.2 ⟨List.mem_range.2 hil, by rw [← gdd hs hil, h1]; rfl⟩
    have := List.length_pos_of_mem this
    omega
  exact ⟨hr, fin listed b S a w hs hbs hI hR hr⟩
 | succ m ih =>
  intro listed b S a w hs hbs hC hI hH hR hm; refine ⟨fin listed b S a w hs hbs hI hR, fun i hi => ?_⟩; obtain ⟨hiu, o, ho, hdeps⟩ := mem_ready.1 hi; have hil := (Array.getElem?_eq_some_iff.1 ho).1
  have hiu' : ¬ listed.getD i false = true := by rw [← gdd hs hil, hiu]; decide
  have hset : ∀ k, (listed.setIfInBounds i true).getD k false = true ↔ listed.getD k false = true ∨ k = i := by
   intro k
   by_cases hk : i = k
   ·subst hk; simp [Array.getD, hs, hil]
   ·rw [getD_set_ne false hk]
    constructor
    ·exact .inl
    ·rintro (h | h)
     ·exact h
     ·exact absurd h.symm hk
  have hfun : (fun k => (listed.setIfInBounds i true).getD k false = true) = fun k => listed.getD k false = true ∨ k = i := by
   funext k
   exact propext (hset k)
  have hC' : ∀ j o, (listed.setIfInBounds i true).getD j false = true → ops[j]? = some o → ∀ e ∈ o.after, Region.binds .any e = true → (listed.setIfInBounds i true).getD e.on false = true := by
   intro j o' hj ho' e he hb; rw [hset] at hj ⊢
   rcases hj with hj | rfl
   ·exact .inl (hC j o' hj ho' e he hb)
   ·rw [ho] at ho'
    injection ho' with ho'
    subst ho'; exact .inl (hdeps e he hb)
  have hcount : ((List.range ops.size).filter fun k => !(listed.setIfInBounds i true).getD k false).length ≤ m := by
   have h1 : ((List.range ops.size).filter fun k => !(listed.setIfInBounds i true).getD k false).length < ((List.range ops.size).filter fun k => !listed.getD k false).length := by
    have e : (List.range ops.size).filter (fun k => !(listed.setIfInBounds i true).getD k false) = ((List.range ops.size).filter fun k => !listed.getD k false).filter fun k => k != i := by
     rw [List.filter_filter]
     apply List.filter_congr
     intro k _
     by_cases hk : k = i
     ·subst hk; have := (hset k).2 (.inr rfl); simp [this]
     ·have : (listed.setIfInBounds i true).getD k false = listed.getD k false := getD_set_ne false (fun h => hk h.symm); simp [this, hk]
    rw [e]; refine List.length_filter_lt_length_iff_exists.2 ⟨i, List.mem_filter.2 ⟨List.mem_range.2 hil, by simp [Bool.eq_false_iff.2 hiu']⟩, by simp⟩
   omega
  obtain ⟨c, hR'⟩ := hR
  have go : ∀ (b' : Nat) (S1 : AS), b' ≤ ops.size → opK P ops o S (fun r m' => S.put o.dst r m' = S1) → Inv2 P ops T rv ef (fun k => listed.getD k false = true ∨ k = i) b' S1 → Has P ops T (fun k => listed.getD k false = true ∨ k = i) b' → wpOp P ops Q i (wpAny P .any ops Q m (listed.setIfInBounds i true)) a w := by
   intro b' S1 hb' hK hI1 hH1; have h1 := sim_op (Q := Q) hR' hK; unfold wpOp; simp only [ho]
   split at h1
   ·rename_i hw
    rw [if_pos hw]; exact .inl (Oper.wp_mono (fun a' w' ⟨r, m', h2, h3⟩ => ih _ b' S1 a' w' (by simp [hs]) hb' hC' (hfun ▸ hI1) (hfun ▸ hH1) (h2 ▸ h3) hcount) h1)
   ·rename_i hw
    rw [if_neg hw]; obtain ⟨r, m', h2, h3⟩ := h1; exact ih _ b' S1 _ w (by simp [hs]) hb' hC' (hfun ▸ hI1) (hfun ▸ hH1) (h2 ▸ h3) hcount
  have keepH : Has P ops T (fun k => listed.getD k false = true ∨ k = i) b := ⟨hH.f, fun k hu => by
   obtain ⟨i', o', TT, cs, q1, q2, q3, q4, q5, q6, q7, q8⟩ := hH.m k (und_more hu); obtain ⟨j, oj, r1, r2, r3, r4⟩ := hu
   have : j = i' := Classical.byContradiction fun hne => hok.d j i' oj o' k hne r2 q2 r4 q4
   subst this
   exact ⟨j, o', TT, cs, r1, q2, q3, q4, q5, q6, q7, q8⟩⟩
  cases hf : freeO o with
  | true =>
   obtain ⟨S1, h1, h2⟩ := step_free hok hT hI hH ho hf hiu'; exact go b S1 hbs h1 h2 keepH
  | false =>
   cases hq : isQ P o.op with
   | true =>
    obtain ⟨h1, h2⟩ := step_quiet hok hT hI hR' hC ho hf hiu' hdeps hq; exact go b _ hbs h1 h2 keepH
   | false =>
    obtain ⟨h1, h2, h3⟩ := step_loud hok hT hI hH hR' hC ho hf hiu' hdeps hq; exact go (i + 1) _ (by omega) h1 h2 h3
theorem sim_region2 {id : Nat} {l : List Oper} {S : AS} {a : Act} {w : World} (hm : P.follows .mixedOrders = true) (hok : regOk2 P l.toArray = true) (hR : Rel w0 S a w) (hK : aops P l.toArray KF (reord l) S) (hQ : ∀ S a w, KF S → Rel w0 S a w → Q .normal a w) : (Code.region id l.toArray true).wp P Q a w := by
 have ok := regOk2_spec hok; refine wp_region_any hm ?_; obtain ⟨A, hA, hAF⟩ := allF_of (l := l.filter freeO) (fun o ho => (List.mem_filter.1 ho).2) (aops_app hK); obtain ⟨T, rv, ef, h1, h2, h3⟩ := chain2_of (P := P) (ops := l.toArray) (KF := KF) ok.n l 0 A (by simp) hA; simp only [Nat.zero_add] at h2; have hT : Chain2 P l.toArray T rv ef := ⟨fun i o ho hf => (h3 i o (Nat.zero_le _) ho).1 hf, fun i o ho hf => (h3 i o (Nat.zero_le _) ho).2 hf⟩
 have hz : ∀ k, (Array.replicate l.toArray.size false).getD k false = true → False := fun k h => by
  simp only [Array.getD] at h
  split at h
  ·simp at h
  ·cases h
 have hin : ∀ i (o : Oper), l.toArray[i]? = some o → freeO o = true → o ∈ l.filter freeO := fun i o ho hf => List.mem_filter.2 ⟨by
  have := Array.mem_of_getElem? ho
  simpa using this, hf⟩
 have hun : ∀ k, Und l.toArray (fun i => (Array.replicate l.toArray.size false).getD i false = true) k ↔ ∃ o ∈ l.filter freeO, o.dst = some k := fun k => by
  constructor
  ·rintro ⟨i, o, _, ho, hf, hd⟩; exact ⟨o, hin i o ho hf, hd⟩
  ·rintro ⟨o, ho, hd⟩; obtain ⟨ho, hf⟩ := List.mem_filter.1 ho; obtain ⟨i, hi, rfl⟩ := List.getElem_of_mem ho; exact ⟨i, l[i], fun h => hz i h, by simp [hi], hf, hd⟩
 refine sim_far2 (w0 := w0) (S := S) (b := 0) ok hT (fun a w h => hQ _ a w h2 (by simpa using h)) l.toArray.size _ a _ (by simp) (Nat.zero_le _) (fun j o h => (hz j h).elim) ⟨?_, fun i o h => absurd h (Nat.not_lt_zero _), fun i o _ h => (hz i h).elim, fun i o t h => (hz i h.2.1).elim, fun t _ hu => ?_, fun k hu ob => ?_, fun k hu => ?_⟩ ⟨fun i o k ho hf hd => ?_, fun k hu => ?_⟩ ?_ ?_
 ·rw [h1, hAF.n]
 ·rw [h1, hAF.f t fun o ho hd => hu ((hun t).2 ⟨o, ho, hd⟩)]
 ·rw [h1, hAF.m k fun o ho hd => hu ((hun k).2 ⟨o, ho, hd⟩)]; exact ⟨.inl, fun h => h.elim (fun h => h) fun ⟨i, h, _⟩ => (hz i h.2.1).elim⟩
 ·obtain ⟨o, ho, hd⟩ := (hun k).1 hu; obtain ⟨_, k', _, _, _, e3, _, _, _, e7, _⟩ := hAF.o o ho; rw [hd] at e3
  injection e3 with e3
  rw [e3]; exact e7
 ·obtain ⟨_, k', _, _, _, e3, _, _, _, _, _, e9⟩ := hAF.o o (hin i o ho hf); rw [hd] at e3
  injection e3 with e3
  rw [h1, e3]; exact e9
 ·obtain ⟨i, o, q1, q2, q3, q4⟩ := hu; obtain ⟨TT, k', cs, e1, e2, e3, e4, e5, e6, e7, e8, e9⟩ := hAF.o o (hin i o q2 q3); rw [q4] at e3
  injection e3 with e3
  subst e3; refine ⟨i, o, TT, cs, q1, q2, q3, q4, e1, e6, ?_, ?_⟩
  ·rw [h1, hAF.n]; exact e5
  ·rw [h1]; exact e8
 ·obtain ⟨c, h⟩ := hR; have hmn : Mon c S.m w c S.m w.drew := ⟨rfl, fun _ h => h, fun _ _ _ => rfl, fun k cs hk => ⟨rfl, cs, hk⟩, fun k fr sz T xs hk => ⟨fr, xs, hk, Nat.le_refl _, fun _ => rfl⟩, fun k fr kk es hk => ⟨rfl, fr, kk, es, hk⟩, fun k fr mk rem la hk => ⟨rfl, rfl, rfl, fr, rem, la, hk⟩⟩; exact ⟨c, h.go hmn h.ext.drew h.xl h.xo (fun k o hk => RelO.mon hmn (h.mem k o hk) hk hk (fun b hb => ⟨rfl, (h.bk hk b hb).2.2⟩) rfl) h.dis⟩
 ·have := List.length_filter_le (fun i => !(Array.replicate l.toArray.size false).getD i false) (List.range l.toArray.size)
  simpa using this
end
theorem sw_region2 {P : Program} {Q : Exit → AS → Prop} {S : AS} {id : Nat} {l : List Oper} (hm : P.follows .mixedOrders = true) (hok : regOk2 P l.toArray = true) (h : aops P l.toArray (Q .normal) (reord l) S) : SW P (.region id l.toArray true) Q S := fun _ _ _ hr =>
 sim_region2 hm hok hr h fun S' _ _ h1 h2 => ⟨S', h1, h2⟩
end Go.Proofs.YtbgifiijjjoebaaGreatDoor
