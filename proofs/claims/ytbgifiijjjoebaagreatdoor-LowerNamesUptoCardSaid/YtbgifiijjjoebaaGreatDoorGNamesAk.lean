/- Regions: one order stands for all. No conditions. Code over states without addresses; contracts. No conditions. -/
import Derived.Test.YtbgifiijjjoebaaGreatDoorGNamesAj
namespace Go.Proofs.YtbgifiijjjoebaaGreatDoor
open Go.RowKit

def aops (P : Program) (ops : Array Oper) (KF : AS → Prop) : List Oper → AS → Prop
 | [], S => KF S
 | o :: r, S => opK P ops o S fun rv m' => aops P ops KF r (S.put o.dst rv m')

def anc (ops : Array Oper) : Nat → Nat → Nat → Bool
 | 0, _, _ => false
 | f + 1, j, i => match ops[j]? with
  | some o => o.after.any (fun e => Region.binds .any e && e.on == i) || o.after.any fun e => Region.binds .any e && anc ops f e.on i
  | none => false
def qlen (P : Program) : List Oper → Nat
 | [] => 0
 | o :: r => if isQ P o.op then qlen P r + 1 else 0
def qn (P : Program) (ops : Array Oper) : Nat := qlen P ops.toList
def disB (ops : Array Oper) (i j : Nat) : Bool :=
 match (ops[i]?).bind (·.dst), (ops[j]?).bind (·.dst) with
 | some x, some y => x != y
 | _, _ => true
def rdB (ops : Array Oper) (i j : Nat) : Bool :=
 match ops[i]?, (ops[j]?).bind (·.dst) with
 | some o, some t => !(reads ops o).contains t || anc ops ops.size i j || anc ops ops.size j i
 | _, _ => true
def regOk (P : Program) (ops : Array Oper) : Bool :=
 (List.range ops.size).all fun i =>
  (((ops[i]?).map fun o => o.after.all fun e => !Region.binds .any e || decide (e.on < i)).getD true) && !(((ops[i]?).map fun o => isN o.op).getD false) &&
  (if i < qn P ops then (List.range (qn P ops)).all fun j => i == j || (disB ops i j && rdB ops i j) else (List.range i).all fun j => anc ops ops.size i j)

section
variable {P : Program} {ops : Array Oper} {Q : Exit → Act → World → Prop} {w0 : Beg} {KF : AS → Prop}
theorem sim_list (hQ : ∀ S a w, KF S → Rel w0 S a w → Q .normal a w) : ∀ (l : List Oper) (S : AS) (a : Act) (w : World), Rel w0 S a w → aops P ops KF l S → wpList P ops Q l a w
 | [], S, a, w, h, hK => hQ S a w hK h
 | o :: r, S, a, w, ⟨c, h⟩, hK => by
  have h1 := sim_op (Q := Q) h hK; unfold wpList
  split at h1
  ·rename_i hw
   rw [if_pos hw]; exact .inl (Oper.wp_mono (fun a' w' ⟨rv, m', h2, h3⟩ => sim_list hQ r _ a' w' h3 h2) h1)
  ·rename_i hw
   rw [if_neg hw]; obtain ⟨rv, m', h2, h3⟩ := h1; exact sim_list hQ r _ _ w h3 h2

structure Chain (P : Program) (ops : Array Oper) (S : Nat → AS) (rv : Nat → SV) (ef : Nat → Ef) : Prop where
 step : ∀ i (o : Oper), ops[i]? = some o → S (i + 1) = (S i).put o.dst (rv i) ((ef i).on (S i).m) ∧ isNew (isQ P o.op) o.dst (S i).m (ef i) ∧ Alike P ops o (S i) (rv i) (ef i)
theorem chain_of (hN : ∀ (i : Nat) (o : Oper), ops[i]? = some o → isN o.op = false) : ∀ (l : List Oper) (k : Nat) (S : AS), (∀ j, l[j]? = ops[k + j]?) → aops P ops KF l S →
  ∃ (T : Nat → AS) (rv : Nat → SV) (ef : Nat → Ef), T k = S ∧ KF (T (k + l.length)) ∧ ∀ i (o : Oper), k ≤ i → ops[i]? = some o → T (i + 1) = (T i).put o.dst (rv i) ((ef i).on (T i).m) ∧ isNew (isQ P o.op) o.dst (T i).m (ef i) ∧ Alike P ops o (T i) (rv i) (ef i)
 | [], k, S, hl, h => by
  refine ⟨fun _ => S, fun _ => .u, fun _ => .id, rfl, h, fun i o hi ho => ?_⟩; have := hl (i - k); rw [show k + (i - k) = i by omega, ho] at this; simp at this
 | o :: r, k, S, hl, h => by
  have h0 : ops[k]? = some o := by simpa using (hl 0).symm
  obtain ⟨rv0, e0, h1, h2, h3⟩ := opK_alike h (hN k o h0); obtain ⟨T, rv, ef, h4, h5, h6⟩ := chain_of hN r (k + 1) _ (fun j => by have := hl (j + 1); simpa [Nat.add_assoc, Nat.add_comm 1 j] using this) h1; refine ⟨fun i => if i ≤ k then S else T i, fun i => if i = k then rv0 else rv i, fun i => if i = k then e0 else ef i, by simp, ?_, fun i o' hi ho => ?_⟩
  ·show KF (if k + (r.length + 1) ≤ k then S else T (k + (r.length + 1)))
   rw [if_neg (by omega), show k + (r.length + 1) = k + 1 + r.length by omega]; exact h5
  ·by_cases e : i = k
   ·subst e; rw [h0] at ho
    injection ho with ho
    subst ho; simp only [Nat.le_refl, if_true, show ¬ i + 1 ≤ i by omega, if_false]; exact ⟨h4, h2, h3⟩
   ·simp only [show ¬ i ≤ k by omega, show ¬ i + 1 ≤ k by omega, if_false, e]; exact h6 i o' (by omega) ho

structure Inv (ops : Array Oper) (S0 : AS) (rv : Nat → SV) (ef : Nat → Ef) (L : Nat → Prop) (S : AS) : Prop where
 n : S.n = S0.n
 f1 : ∀ i o t, L i → ops[i]? = some o → o.dst = some t → S.f t = rv i
 f2 : ∀ t, (∀ i o, L i → ops[i]? = some o → o.dst ≠ some t) → S.f t = S0.f t
 m : ∀ k ob, mat S.m k = some ob ↔ mat S0.m k = some ob ∨ ∃ i, L i ∧ ef i = .new k ob
theorem Inv.congr {S0 S : AS} {rv : Nat → SV} {ef : Nat → Ef} {L L' : Nat → Prop} (h : Inv ops S0 rv ef L S) (hL : ∀ i, L i ↔ L' i) : Inv ops S0 rv ef L' S :=
 ⟨h.n, fun i o t hi => h.f1 i o t ((hL i).2 hi), fun t ht => h.f2 t fun i o hi => ht i o ((hL i).1 hi), fun k ob => by rw [h.m]; simp only [hL]⟩
theorem Inv.put {S0 S : AS} {rv : Nat → SV} {ef : Nat → Ef} {L : Nat → Prop} {i : Nat} {o : Oper} (h : Inv ops S0 rv ef L S) (ho : ops[i]? = some o) (hd : ∀ j o' t, L j → ops[j]? = some o' → o.dst = some t → o'.dst ≠ some t) (hns : (∀ k ob, ef i ≠ .set k ob) ∧ ∀ m1 ks, ef i ≠ .upd m1 ks)
  (hn : ∀ k ob, ef i = .new k ob → mat S.m k = none) : Inv ops S0 rv ef (fun j => L j ∨ j = i) (S.put o.dst (rv i) ((ef i).on S.m)) := by
 refine ⟨h.n, fun j o' t hj ho' ht => ?_, fun t ht => ?_, fun k ob => ?_⟩
 ·rcases hj with hj | rfl
  ·have h1 := h.f1 j o' t hj ho' ht
   cases hod : o.dst with
   | none => simpa [AS.put] using h1
   | some t' =>
    have : t ≠ t' := fun e => hd j o' t' hj ho' hod (by rw [← e]; exact ht)
    simp only [AS.put, fset, this, if_false]; exact h1
  ·rw [ho] at ho'
   injection ho' with ho'
   subst ho'; simp [AS.put, ht, fset]
 ·have h1 := h.f2 t fun j o' hj => ht j o' (.inl hj)
  cases hod : o.dst with
  | none => simpa [AS.put] using h1
  | some t' =>
   have : t ≠ t' := fun e => ht i o (.inr rfl) ho (by rw [hod, e])
   simp only [AS.put, fset, this, if_false]; exact h1
 ·show mat ((ef i).on S.m) k = some ob ↔ _
  cases he : ef i with
  | id =>
   simp only [Ef.on]; rw [h.m]
   constructor
   ·rintro (h1 | ⟨j, h1, h2⟩)
    ·exact .inl h1
    ·exact .inr ⟨j, .inl h1, h2⟩
   ·rintro (h1 | ⟨j, h1 | rfl, h2⟩)
    ·exact .inl h1
    ·exact .inr ⟨j, h1, h2⟩
    ·rw [he] at h2; cases h2
  | set k' ob' => exact absurd he (hns.1 k' ob')
  | upd m1 ks => exact absurd he (hns.2 m1 ks)
  | new k' ob' =>
   simp only [Ef.on, mat]
   by_cases e : k' = k
   ·subst e; have hnone := hn k' ob' he; simp only [if_true, Option.some.injEq]
    constructor
    ·rintro rfl; exact .inr ⟨i, .inr rfl, he⟩
    ·rintro (h1 | ⟨j, h1 | rfl, h2⟩)
     ·have := (h.m k' ob).2 (.inl h1); rw [hnone] at this; cases this
     ·have := (h.m k' ob).2 (.inr ⟨j, h1, h2⟩); rw [hnone] at this; cases this
     ·rw [he] at h2; injection h2
   ·simp only [e, if_false]; rw [h.m]
    constructor
    ·rintro (h1 | ⟨j, h1, h2⟩)
     ·exact .inl h1
     ·exact .inr ⟨j, .inl h1, h2⟩
    ·rintro (h1 | ⟨j, h1 | rfl, h2⟩)
     ·exact .inl h1
     ·exact .inr ⟨j, h1, h2⟩
     ·rw [he] at h2; injection h2 with e1; exact absurd e1 e
def Eqv (S S' : AS) : Prop := S'.n = S.n ∧ (∀ t, S'.f t = S.f t) ∧ ∀ k, mat S'.m k = mat S.m k
theorem Inv.eqv {S0 S S' : AS} {rv : Nat → SV} {ef : Nat → Ef} {L : Nat → Prop} (h : Inv ops S0 rv ef L S) (h' : Inv ops S0 rv ef L S') : Eqv S S' := by
 refine ⟨h'.n.trans h.n.symm, fun t => ?_, fun k => ?_⟩
 ·by_cases hx : ∃ i o, L i ∧ ops[i]? = some o ∧ o.dst = some t
  ·obtain ⟨i, o, h1, h2, h3⟩ := hx; rw [h.f1 i o t h1 h2 h3, h'.f1 i o t h1 h2 h3]
  ·have h0 : ∀ i o, L i → ops[i]? = some o → o.dst ≠ some t := fun i o h1 h2 h3 => hx ⟨i, o, h1, h2, h3⟩
   rw [h.f2 t h0, h'.f2 t h0]
 ·cases hk : mat S.m k with
  | some ob => rw [h'.m, ← h.m, hk]
  | none =>
   cases hk' : mat S'.m k with
   | none => rfl
   | some ob => rw [h'.m, ← h.m, hk] at hk'; cases hk'
theorem eqv_mon {c : Cx} {m m' : Mem} {w : World} (h : ∀ k, mat m' k = mat m k) : Mon c m w c m' w :=
 ⟨rfl, fun _ h => h, .refl w, fun k cs hk => ⟨rfl, cs, by rw [h]; exact hk⟩, fun k fr sz T xs hk => ⟨fr, xs, by rw [h]; exact hk, Nat.le_refl _, fun _ => rfl⟩, fun k fr kk es hk => ⟨rfl, fr, kk, es, by rw [h]; exact hk⟩, fun k fr mk rem la hk => ⟨rfl, rfl, rfl, fr, rem, la, by rw [h]; exact hk⟩⟩
theorem Rel.eqv {S S' : AS} {a : Act} {w : World} (h : Rel w0 S a w) (e : Eqv S S') : Rel w0 S' a w := by
 obtain ⟨c, h⟩ := h; have hm := eqv_mon (c := c) (w := w) e.2.2; refine ⟨c, h.n0, h.ext, h.df, h.xl, h.xo, by rw [e.1]; exact h.sz, fun t ht => by rw [e.2.1]; exact RelR.mon hm (h.sl t (by rw [← e.1]; exact ht)), fun k o hk => ?_, fun k k' o o' hne hk hk' => h.dis k k' o o' hne (by rw [← e.2.2]; exact hk) (by rw [← e.2.2]; exact hk')⟩
 have hk' : mat S.m k = some o := by rw [← e.2.2]; exact hk
 exact RelO.mon hm (h.mem k o hk') hk' hk (fun b hb => ⟨rfl, (h.bk hk' b hb).2.2⟩) rfl
theorem Eqv.put {S S' : AS} (e : Eqv S S') (d : Option Nat) (r : SV) (ef : Ef) : Eqv (S.put d r (ef.on S.m)) (S'.put d r (ef.on S'.m)) := by
 refine ⟨e.1, fun t => ?_, fun k => ?_⟩
 ·cases d with
  | none => exact e.2.1 t
  | some d => simp only [AS.put, fset]; rw [e.2.1]
 ·show mat (ef.on S'.m) k = mat (ef.on S.m) k
  cases ef with
  | id => exact e.2.2 k
  | new k' ob => simp only [Ef.on, mat, e.2.2]
  | upd m1 ks => simp only [Ef.on]; rw [mat_app, mat_app, mat_mdelL, mat_mdelL, e.2.2]
  | set k' ob =>
   simp only [Ef.on]
   by_cases hk : k = k'
   ·subst hk
    cases h1 : mat S.m k with
    | some o1 => rw [mat_set_same h1, mat_set_same (by rw [e.2.2]; exact h1)]
    | none =>
     have key : ∀ m : Mem, mat m k = none → mat (mset m k ob) k = none := by
      intro m
      induction m with
      | nil => exact fun h => h
      | cons x r ih =>
       intro h; unfold mat at h; unfold mset
       by_cases hx : x.1 = k
       ·simp [hx] at h
       ·simp only [hx, if_false] at h ⊢; simp only [mat, hx, if_false]; exact ih h
     rw [key _ h1, key _ (by rw [e.2.2]; exact h1)]
   ·rw [mat_set_other hk, mat_set_other hk, e.2.2]

theorem nm_thereC {c : Cx} {m : Mem} {w : World} {v : Value} {x : CV} (h : RelC c m w v x) : ∀ k ∈ nmC x, ∃ ob, mat m k = some ob := by
 intro k hk
 cases x with
 | p j o => simp [nmC] at hk; subst hk; obtain ⟨_, cs, h⟩ := h; exact ⟨_, h⟩
 | r j n => simp [nmC] at hk; subst hk; obtain ⟨_, _, _, _, h, _⟩ := h; exact ⟨_, h⟩
 | m j => simp [nmC] at hk; subst hk; obtain ⟨_, _, _, _, h⟩ := h; exact ⟨_, h⟩
 | t j => simp [nmC] at hk; subst hk; obtain ⟨_, _, _, _, _, h⟩ := h; exact ⟨_, h⟩
 | f n ks =>
  obtain ⟨cap, -, h2⟩ := h; obtain ⟨p, hp, rfl⟩ := List.mem_map.1 hk; obtain ⟨i, hi, rfl⟩ := List.getElem_of_mem hp; obtain ⟨_, _, h3⟩ := forall2_get h2 i (by rw [forall2_len h2]; exact hi) hi; exact ⟨_, h3⟩
 | _ => cases hk
theorem nm_thereCs {c : Cx} {m : Mem} {w : World} : ∀ {vs : List Value} {xs : List CV}, F2 (RelC c m w) vs xs → ∀ k ∈ xs.flatMap nmC, ∃ ob, mat m k = some ob
 | _, _, .nil, k, hk => by cases hk
 | _, _, .cons h1 h2, k, hk => by
  simp only [List.flatMap_cons, List.mem_append] at hk; exact hk.elim (nm_thereC h1 k) (nm_thereCs h2 k)
theorem nm_there {c : Cx} {m : Mem} {w : World} {v : Value} {x : SV} (h : RelR c m w v x) : ∀ k ∈ nmR x, ∃ ob, mat m k = some ob := by
 intro k hk
 cases x with
 | c x => exact nm_thereC h k hk
 | g cs => obtain ⟨vs, _, h⟩ := h; exact nm_thereCs h k hk
 | t xs =>
  obtain ⟨vs, _, h⟩ := h
  have key : ∀ {vs : List Value} {xs : List AV}, F2 (RelA c m w) vs xs → k ∈ xs.flatMap nmA → ∃ ob, mat m k = some ob := by
   intro vs xs h
   induction h with
   | nil => exact fun h => by cases h
   | @cons v x _ _ h1 _ ih =>
    intro hk; simp only [List.flatMap_cons, List.mem_append] at hk; refine hk.elim (fun hk => ?_) ih
    cases x with
    | c x => exact nm_thereC h1 k hk
    | g cs => obtain ⟨vs, _, h⟩ := h1; exact nm_thereCs h k hk
  exact key h hk
 | q j n i o => simp [nmR] at hk; subst hk; obtain ⟨_, _, _, _, h, _⟩ := h; exact ⟨_, h⟩
 | u => cases hk
 | e fr ds => cases hk

theorem anc_in {L : Nat → Prop} (hL : ∀ j o, L j → ops[j]? = some o → ∀ e ∈ o.after, Region.binds .any e = true → L e.on) : ∀ {f j i : Nat}, (∀ o, ops[j]? = some o → ∀ e ∈ o.after, Region.binds .any e = true → L e.on) → anc ops f j i = true → L i
 | 0, _, _, _, h => by cases h
 | f + 1, j, i, hj, h => by
  unfold anc at h
  split at h
  ·rename_i o ho
   rcases Bool.or_eq_true _ _ ▸ h with h | h
   ·obtain ⟨x, hx, h⟩ := Array.any_eq_true.1 h; simp only [Bool.and_eq_true, beq_iff_eq] at h; rw [← h.2]; exact hj o ho _ (Array.getElem_mem hx) h.1
   ·obtain ⟨x, hx, h⟩ := Array.any_eq_true.1 h; simp only [Bool.and_eq_true] at h; have h1 := hj o ho _ (Array.getElem_mem hx) h.1; exact anc_in hL (fun o' ho' => hL _ o' h1 ho') h.2
  ·cases h
theorem anc_lt (hE : ∀ i o, ops[i]? = some o → ∀ e ∈ o.after, Region.binds .any e = true → e.on < i) {f j i : Nat} (h : anc ops f j i = true) : i < j :=
 anc_in (L := fun x => x < j) (fun k o hk ho e he hb => Nat.lt_trans (hE k o ho e he hb) hk) (fun o ho => hE j o ho) h
theorem regOk_spec (h : regOk P ops = true) : (∀ i o, ops[i]? = some o → ∀ e ∈ o.after, Region.binds .any e = true → e.on < i) ∧ (∀ i, i < qn P ops → i < ops.size → ∀ j, j < qn P ops → i ≠ j → disB ops i j = true ∧ rdB ops i j = true) ∧ ∀ i, qn P ops ≤ i → i < ops.size → ∀ j, j < i → anc ops ops.size i j = true := by
 simp only [regOk, List.all_eq_true, List.mem_range, Bool.and_eq_true] at h; refine ⟨fun i o ho e he hb => ?_, fun i hi hs j hj hne => ?_, fun i hi hs j hj => ?_⟩
 ·have hs := (Array.getElem?_eq_some_iff.1 ho).1; have h1 := (h i hs).1.1; rw [ho, Option.map_some, Option.getD_some, Array.all_eq_true_iff_forall_mem] at h1
  simpa [hb] using h1 e he
 ·have h1 := (h i hs).2; rw [if_pos hi, List.all_eq_true] at h1; have := h1 j (List.mem_range.2 hj)
  simpa [hne] using this
 ·have h1 := (h i hs).2; rw [if_neg (by omega), List.all_eq_true] at h1; exact h1 j (List.mem_range.2 hj)
theorem regOk_n (h : regOk P ops = true) : ∀ (i : Nat) (o : Oper), ops[i]? = some o → isN o.op = false := fun i o ho => by
 simp only [regOk, List.all_eq_true, List.mem_range, Bool.and_eq_true] at h; have h1 := (h i (Array.getElem?_eq_some_iff.1 ho).1).1.2
 simpa [ho] using h1
theorem qlen_spec : ∀ {l : List Oper} {i : Nat}, i < qlen P l → ∃ o, l[i]? = some o ∧ isQ P o.op = true
 | [], i, h => absurd h (Nat.not_lt_zero _)
 | o :: r, i, h => by
  unfold qlen at h
  split at h
  ·rename_i hq
   cases i with
   | zero => exact ⟨o, rfl, hq⟩
   | succ i => exact qlen_spec (l := r) (by omega)
  ·exact absurd h (Nat.not_lt_zero _)
theorem qlen_le : ∀ l : List Oper, qlen P l ≤ l.length
 | [] => Nat.le_refl _
 | o :: r => by
  unfold qlen; have := qlen_le r
  split <;> simp only [List.length_cons] <;> omega
theorem qn_spec {i : Nat} (hi : i < qn P ops) : ∃ o, ops[i]? = some o ∧ isQ P o.op = true := by
 obtain ⟨o, h1, h2⟩ := qlen_spec hi; exact ⟨o, by rw [← Array.getElem?_toList]; exact h1, h2⟩
theorem qn_le : qn P ops ≤ ops.size := by
 have := qlen_le (P := P) ops.toList; rw [Array.length_toList] at this; exact this
theorem chain_inv {T : Nat → AS} {rv : Nat → SV} {ef : Nat → Ef} (hok : regOk P ops = true) (hT : Chain P ops T rv ef) : ∀ i, i ≤ qn P ops → Inv ops (T 0) rv ef (fun j => j < i) (T i)
 | 0, _ => ⟨rfl, fun _ _ _ h => absurd h (Nat.not_lt_zero _), fun _ _ => rfl, fun k ob => ⟨.inl, fun h => h.elim id fun ⟨_, h, _⟩ => absurd h (Nat.not_lt_zero _)⟩⟩
 | i + 1, hi => by
  obtain ⟨hE, hD, _⟩ := regOk_spec hok; obtain ⟨o, ho, hq⟩ := qn_spec (P := P) (ops := ops) (i := i) (by omega); obtain ⟨h1, h2, _⟩ := hT.step i o ho; rw [h1]
  refine Inv.congr (Inv.put (chain_inv hok hT i (by omega)) ho (fun j o' t hj ho' ht ht' => ?_) (h2.2 hq) fun k ob he => (h2.1 k ob he).2) fun j => by omega
  have := (hD i (by omega) (Array.getElem?_eq_some_iff.1 ho).1 j (by omega) (by omega)).1; simp [disB, ho, ho', ht, ht'] at this
def Far (P : Program) (ops : Array Oper) (T : Nat → AS) (rv : Nat → SV) (ef : Nat → Ef) (L : Nat → Prop) (S : AS) : Prop :=
 ((∀ i, L i → i < qn P ops) ∧ Inv ops (T 0) rv ef L S) ∨ ∃ j, qn P ops ≤ j ∧ (∀ i, L i ↔ i < j) ∧ Eqv (T j) S
theorem sim_far {T : Nat → AS} {rv : Nat → SV} {ef : Nat → Ef} (hok : regOk P ops = true) (hT : Chain P ops T rv ef) (hQ : ∀ a w, Rel w0 (T ops.size) a w → Q .normal a w) :
  ∀ (m : Nat) (listed : Array Bool) (S : AS) (a : Act) (w : World), listed.size = ops.size → (∀ j o, listed.getD j false = true → ops[j]? = some o → ∀ e ∈ o.after, Region.binds .any e = true → listed.getD e.on false = true) →
   Far P ops T rv ef (fun i => listed.getD i false = true) S → Rel w0 S a w → ((List.range ops.size).filter fun i => !listed.getD i false).length ≤ m → wpAny P .any ops Q m listed a w := by
 obtain ⟨hE, hD, hA⟩ := regOk_spec hok; have hql := qn_le (P := P) (ops := ops)
 have bound : ∀ {listed : Array Bool} {i : Nat}, listed.size = ops.size → listed.getD i false = true → i < ops.size := fun hs h => by
  simp only [Array.getD] at h
  split at h
  ·omega
  ·cases h
 have gdd : ∀ {listed : Array Bool} {i : Nat}, listed.size = ops.size → i < ops.size → listed.getD i true = listed.getD i false := fun hs hi => by
  simp [Array.getD, hs, hi]
 -- nothing is ready: all are listed
 have fin : ∀ (listed : Array Bool) (S : AS) (a : Act) (w : World), listed.size = ops.size → Far P ops T rv ef (fun i => listed.getD i false = true) S → Rel w0 S a w → Region.ready .any ops listed = [] → Q .normal a w := by
  intro listed S a w hs hF hR hr
  have hall : ∀ i, i < ops.size → listed.getD i false = true := by
   intro i
   induction i using Nat.strongRecOn with
   | _ i ih =>
    intro hi
    cases hl : listed.getD i false with
    | true => rfl
    | false =>
     have : i ∈ Region.ready .any ops listed := mem_ready.2 ⟨by rw [gdd hs hi]; exact hl, ops[i], Array.getElem?_eq_getElem hi, fun e he hb => by
      have := hE i _ (Array.getElem?_eq_getElem hi) e he hb
      exact ih e.on this (by omega)⟩
     rw [hr] at this
     cases this
  rcases hF with ⟨h1, h2⟩ | ⟨j, h1, h2, h3⟩
  ·have hq : qn P ops = ops.size := by
    rcases Nat.lt_or_ge (qn P ops) ops.size with h | h
    ·exact absurd (h1 _ (hall _ h)) (by omega)
    ·omega
   have h4 := chain_inv hok hT (qn P ops) (Nat.le_refl _); refine hQ a w (hq ▸ hR.eqv ((h2.congr fun i => ⟨fun h => h1 i h, fun h => hall i (by omega)⟩).eqv h4))
  ·have hj : j = ops.size := by
    rcases Nat.lt_trichotomy j ops.size with h | h | h
    ·exact absurd ((h2 j).1 (hall j h)) (by omega)
    ·exact h
    ·exact absurd (bound hs ((h2 ops.size).2 h)) (by omega)
   subst hj; exact hQ a w (hR.eqv ⟨h3.1.symm, fun t => (h3.2.1 t).symm, fun k => (h3.2.2 k).symm⟩)
 intro m
 induction m with
 | zero =>
  intro listed S a w hs hC hF hR hm
  have hr : Region.ready .any ops listed = [] := by
   cases hx : Region.ready .any ops listed with
   | nil => rfl
   | cons i r =>
    have hi : i ∈ Region.ready .any ops listed := by rw [hx]; exact List.mem_cons_self
    obtain ⟨h1, o, h2, _⟩ := mem_ready.1 hi; have hil := (Array.getElem?_eq_some_iff.1 h2).1
    have : i ∈ (List.range ops.size).filter fun i => !listed.getD i false := List.mem_filter.2 ⟨List.mem_range.2 hil, by rw [← gdd hs hil, h1]; rfl⟩
    have := List.length_pos_of_mem this
    omega
  exact ⟨hr, fin listed S a w hs hF hR hr⟩
 | succ m ih =>
  intro listed S a w hs hC hF hR hm; refine ⟨fin listed S a w hs hF hR, fun i hi => ?_⟩; obtain ⟨hiu, o, ho, hdeps⟩ := mem_ready.1 hi; have hil := (Array.getElem?_eq_some_iff.1 ho).1
  have hiu' : listed.getD i false = false := by rw [← gdd hs hil]; exact hiu
  have hset : ∀ k, (listed.setIfInBounds i true).getD k false = true ↔ listed.getD k false = true ∨ k = i := by
   intro k
   by_cases hk : i = k
   ·subst hk; simp [Array.getD, hs, hil]
   ·rw [getD_set_ne false hk]
    constructor
    ·exact .inl
    ·rintro (h | h)
     ·exact h
     ·exact absurd h.symm hk
  have hC' : ∀ j o, (listed.setIfInBounds i true).getD j false = true → ops[j]? = some o → ∀ e ∈ o.after, Region.binds .any e = true → (listed.setIfInBounds i true).getD e.on false = true := by
   intro j o' hj ho' e he hb; rw [hset] at hj ⊢
   rcases hj with hj | rfl
   ·exact .inl (hC j o' hj ho' e he hb)
   ·rw [ho] at ho'
    injection ho' with ho'
    subst ho'; exact .inl (hdeps e he hb)
  have hcount : ((List.range ops.size).filter fun k => !(listed.setIfInBounds i true).getD k false).length ≤ m := by
   have h1 : ((List.range ops.size).filter fun k => !(listed.setIfInBounds i true).getD k false).length < ((List.range ops.size).filter fun k => !listed.getD k false).length := by
    have e : (List.range ops.size).filter (fun k => !(listed.setIfInBounds i true).getD k false) = ((List.range ops.size).filter fun k => !listed.getD k false).filter fun k => k != i := by
     rw [List.filter_filter]
     apply List.filter_congr
     intro k _
     by_cases hk : k = i
     ·subst hk; have := (hset k).2 (.inr rfl); simp [this]
     ·have : (listed.setIfInBounds i true).getD k false = listed.getD k false := getD_set_ne false (fun h => hk h.symm); simp [this, hk]
    rw [e]; refine List.length_filter_lt_length_iff_exists.2 ⟨i, List.mem_filter.2 ⟨List.mem_range.2 hil, by rw [hiu']; rfl⟩, by simp⟩
   omega
  obtain ⟨c, hR'⟩ := hR
  -- the step, once the operation does in S what it does in the text
  have go : ∀ S1 : AS, S1 = S.put o.dst (rv i) ((ef i).on S.m) → opK P ops o S (fun r m' => S.put o.dst r m' = S1) → Far P ops T rv ef (fun k => (listed.setIfInBounds i true).getD k false = true) S1 → wpOp P ops Q i (wpAny P .any ops Q m (listed.setIfInBounds i true)) a w := by
   intro S1 hS1 hK hF1; have h1 := sim_op (Q := Q) hR' hK; unfold wpOp; simp only [ho]
   split at h1
   ·rename_i hw
    rw [if_pos hw]; exact .inl (Oper.wp_mono (fun a' w' ⟨r, m', h2, h3⟩ => ih _ S1 a' w' (by simp [hs]) hC' hF1 (h2 ▸ h3) hcount) h1)
   ·rename_i hw
    rw [if_neg hw]; obtain ⟨r, m', h2, h3⟩ := h1; exact ih _ S1 _ w (by simp [hs]) hC' hF1 (h2 ▸ h3) hcount
  rcases Nat.lt_or_ge i (qn P ops) with hiq | hiq
  ·-- it only reads, or makes a new block
   have hq : isQ P o.op = true := by
    obtain ⟨o', ho', hq⟩ := qn_spec hiq; rw [ho] at ho'
    injection ho' with ho'
    subst ho'; exact hq
   rcases hF with ⟨hLq, hI⟩ | ⟨j, hj1, hj2, _⟩
   ·obtain ⟨h1, h2, h3⟩ := hT.step i o ho; have hTi := chain_inv hok hT i (by omega)
    have hdis : ∀ j o' t, listed.getD j false = true → ops[j]? = some o' → o.dst = some t → o'.dst ≠ some t := fun j o' t hj ho' ht ht' => by
     have := (hD i hiq hil j (hLq j hj) (fun e => by subst e; rw [hj] at hiu'; cases hiu')).1; simp [disB, ho, ho', ht, ht'] at this
    have hnone : ∀ k ob, ef i = .new k ob → mat S.m k = none := by
     intro k ob he; obtain ⟨hd, hn⟩ := h2.1 k ob he
     cases hk : mat S.m k with
     | none => rfl
     | some ob' =>
      rcases (hI.m k ob').1 hk with h4 | ⟨j, h4, h5⟩
      ·rw [(hTi.m k ob').2 (.inl h4)] at hn; cases hn
      ·obtain ⟨o', ho', _⟩ := qn_spec (hLq j h4); have h6 := ((hT.step j o' ho').2.1.1 k ob' h5).1; exact absurd h6 (hdis j o' k h4 ho' hd)
    have hval : ∀ t ∈ reads ops o, S.f t = (T i).f t := by
     intro t ht
     have wr : ∀ j o', j < qn P ops → j ≠ i → ops[j]? = some o' → o'.dst = some t → (anc ops ops.size i j = true ∨ anc ops ops.size j i = true) := by
      intro j o' hj hne ho' ht'; have := (hD i hiq hil j hj (Ne.symm hne)).2; simp only [rdB, ho, ho', Option.bind_some, ht', Bool.or_eq_true, Bool.not_eq_true', List.contains_eq_mem, decide_eq_false_iff_not] at this
      rcases this with (h | h) | h
      ·exact absurd ht h
      ·exact .inl h
      ·exact .inr h
     by_cases hx : ∃ j o', listed.getD j false = true ∧ ops[j]? = some o' ∧ o'.dst = some t
     ·obtain ⟨j, o', hj, ho', ht'⟩ := hx
      have hne : j ≠ i := fun e => by subst e; rw [hj] at hiu'; cases hiu'
      rw [hI.f1 j o' t hj ho' ht']
      have hji : j < i := by
       rcases wr j o' (hLq j hj) hne ho' ht' with h | h
       ·exact anc_lt hE h
       ·have := anc_in (L := fun k => listed.getD k false = true) hC (fun o'' ho'' => hC j o'' hj ho'') h; rw [hiu'] at this
        cases this
      exact (hTi.f1 j o' t hji ho' ht').symm
     ·rw [hI.f2 t fun j o' h1 h2 h3 => hx ⟨j, o', h1, h2, h3⟩]; refine (hTi.f2 t fun j o' hji ho' ht' => ?_).symm
      rcases wr j o' (by omega) (by omega) ho' ht' with h | h
      ·exact hx ⟨j, o', anc_in (L := fun k => listed.getD k false = true) hC (fun o'' ho'' => by
        rw [ho] at ho''
        injection ho'' with ho''
        subst ho''
        exact hdeps) h, ho', ht'⟩
      ·have := anc_lt hE h; omega
    have hn : S.n = (T i).n := hI.n.trans hTi.n.symm
    have hagree : Agree ((reads ops o).flatMap fun t => nmR (ez (T i) (.tmp t))) (T i).m S.m := by
     intro k hk ob hob; obtain ⟨t, ht, hk⟩ := List.mem_flatMap.1 hk; rw [← ev_same hn (x := .tmp t) fun t' e => by injection e with e; subst e; exact hval _ ht] at hk; have hthere : ∃ ob', mat S.m k = some ob' := nm_there (hR'.evs (.tmp t)) k hk; obtain ⟨ob', hob'⟩ := hthere
     rcases (hTi.m k ob).1 hob with h4 | ⟨j, h4, h5⟩
     ·exact (hI.m k ob).2 (.inl h4)
     ·rcases (hI.m k ob').1 hob' with h6 | ⟨j', h6, h7⟩
      ·have := (hTi.m k ob').2 (.inl h6); rw [hob] at this; rw [hob']; exact this.symm
      ·obtain ⟨o1, ho1, _⟩ := qn_spec (P := P) (ops := ops) (i := j) (by omega); obtain ⟨o2, ho2, _⟩ := qn_spec (hLq j' h6); have e1 := ((hT.step j o1 ho1).2.1.1 k ob h5).1; have e2 := ((hT.step j' o2 ho2).2.1.1 k ob' h7).1
       have hjj : j = j' := by
        rcases Nat.lt_trichotomy j j' with h | h | h
        ·have := (hD j (by omega) (Array.getElem?_eq_some_iff.1 ho1).1 j' (hLq j' h6) (by omega)).1; simp [disB, ho1, ho2, e1, e2] at this
        ·exact h
        ·have := (hD j (by omega) (Array.getElem?_eq_some_iff.1 ho1).1 j' (hLq j' h6) (by omega)).1; simp [disB, ho1, ho2, e1, e2] at this
       subst hjj; rw [h5] at h7
       injection h7 with _ h7
       rw [hob', h7]
    have hag2 : Look (ef i) ((reads ops o).flatMap fun t => nmR (ez (T i) (.tmp t))) (T i).m S.m := by
     have h9 := h2.2 hq; generalize ef i = e at h9
     cases e with
     | upd m1 ks => exact absurd rfl (h9.2 m1 ks)
     | set k ob => exact absurd rfl (h9.1 k ob)
     | _ => exact hagree
    refine go _ rfl (h3.2 S hn hval hag2 hnone _ rfl) (.inl ⟨fun k hk => ((hset k).1 hk).elim (hLq k) fun e => by rw [e]; exact hiq, ?_⟩)
    exact (hI.put ho hdis (h2.2 hq) hnone).congr fun k => (hset k).symm
   ·have := (hj2 i).2 (by omega); simp only at this; rw [hiu'] at this
    cases this
  ·-- all ahead of it are through
   have hpre : ∀ k, k < i → listed.getD k false = true := fun k hk => anc_in (L := fun k => listed.getD k false = true) hC (fun o'' ho'' => by
    rw [ho] at ho''
    injection ho'' with ho''
    subst ho''
    exact hdeps) (hA i hiq hil k hk)
   have hE2 : Eqv (T i) S ∧ ∀ k, listed.getD k false = true ↔ k < i := by
    rcases hF with ⟨hLq, hI⟩ | ⟨j, hj1, hj2, hj3⟩
    ·have e : i = qn P ops := by
      rcases Nat.lt_or_ge (qn P ops) i with h | h
      ·exact absurd (hLq _ (hpre _ h)) (by omega)
      ·omega
     have hiff : ∀ k, listed.getD k false = true ↔ k < i := fun k => ⟨fun h => by have := hLq k h; omega, hpre k⟩
     exact ⟨(chain_inv hok hT i (by omega)).eqv (hI.congr hiff), hiff⟩
    ·have e : i = j := by
      rcases Nat.lt_trichotomy i j with h | h | h
      ·have := (hj2 i).2 h; simp only at this; rw [hiu'] at this
       cases this
      ·exact h
      ·exact absurd ((hj2 j).1 (hpre j h)) (by omega)
     subst e; exact ⟨hj3, hj2⟩
   obtain ⟨h1, h2, h3⟩ := hT.step i o ho; have hagree : Look (ef i) ((reads ops o).flatMap fun t => nmR (ez (T i) (.tmp t))) (T i).m S.m := look_full hE2.1.2.2; refine go _ rfl (h3.2 S hE2.1.1 (fun t _ => hE2.1.2.1 t) hagree (fun k ob he => by rw [hE2.1.2.2]; exact (h2.1 k ob he).2) _ rfl) (.inr ⟨i + 1, by omega, fun k => by show (listed.setIfInBounds i true).getD k false = true ↔ _; rw [hset, hE2.2]; omega, ?_⟩); rw [h1]; exact hE2.1.put o.dst (rv i) (ef i)
theorem sim_region {id : Nat} {draw : Bool} {S : AS} {a : Act} {w : World} (hm : P.follows .mixedOrders = true) (hok : draw = true → regOk P ops = true) (hR : Rel w0 S a w) (hK : aops P ops KF ops.toList S) (hQ : ∀ S a w, KF S → Rel w0 S a w → Q .normal a w) : (Code.region id ops draw).wp P Q a w := by
 cases draw with
 | false => exact wp_region_list (sim_list hQ _ _ _ _ hR hK)
 | true =>
  refine wp_region_any hm ?_; obtain ⟨T, rv, ef, h1, h2, h3⟩ := chain_of (regOk_n (hok rfl)) ops.toList 0 S (by simp) hK; simp only [Nat.zero_add, Array.length_toList] at h2; have hT : Chain P ops T rv ef := ⟨fun i o ho => h3 i o (Nat.zero_le _) ho⟩
  have hz : ∀ k, (Array.replicate ops.size false).getD k false = true → False := fun k h => by
   simp only [Array.getD] at h
   split at h
   ·simp at h
   ·cases h
  refine sim_far (w0 := w0) (S := S) (hok rfl) hT (fun a w h => hQ _ a w h2 h) ops.size _ a _ (by simp) (fun j o h => (hz j h).elim) (.inl ⟨fun i h => (hz i h).elim, ?_⟩) ?_ ?_
  ·rw [h1]; exact ⟨rfl, fun i o t h => (hz i h).elim, fun _ _ => rfl, fun k ob => ⟨.inl, fun h => h.elim (fun h => h) fun ⟨i, h, _⟩ => (hz i h).elim⟩⟩
  ·obtain ⟨c, h⟩ := hR; have hmn : Mon c S.m w c S.m w.drew := ⟨rfl, fun _ h => h, fun _ _ _ => rfl, fun k cs hk => ⟨rfl, cs, hk⟩, fun k fr sz T xs hk => ⟨fr, xs, hk, Nat.le_refl _, fun _ => rfl⟩, fun k fr kk es hk => ⟨rfl, fr, kk, es, hk⟩, fun k fr mk rem la hk => ⟨rfl, rfl, rfl, fr, rem, la, hk⟩⟩; exact ⟨c, h.go hmn h.ext.drew h.xl h.xo (fun k o hk => RelO.mon hmn (h.mem k o hk) hk hk (fun b hb => ⟨rfl, (h.bk hk b hb).2.2⟩) rfl) h.dis⟩
  ·have := List.length_filter_le (fun i => !(Array.replicate ops.size false).getD i false) (List.range ops.size)
   simpa using this
end

end Go.Proofs.YtbgifiijjjoebaaGreatDoor

namespace Go.Proofs.YtbgifiijjjoebaaGreatDoor
open Go.RowKit

def Le (S' S : AS) : Prop := ∀ w0 a w, Rel w0 S a w → Rel w0 S' a w
def SW (P : Program) (c : Code) (Q : Exit → AS → Prop) (S : AS) : Prop :=
 ∀ w0 a w, Rel w0 S a w → c.wp P (fun e a' w' => ∃ S', Q e S' ∧ Rel w0 S' a' w') a w
def thn (N : AS → Prop) (Q : Exit → AS → Prop) : Exit → AS → Prop
 | .normal, S => N S
 | e, S => Q e S
def inB (id : Nat) (Q : Exit → AS → Prop) : Exit → AS → Prop
 | .exit j, S => if j = id then Q .normal S else Q (.exit j) S
 | e, S => Q e S

section
variable {P : Program} {Q : Exit → AS → Prop} {S : AS}
theorem sw_weak {c : Code} {S' : AS} (h : Le S' S) (k : SW P c Q S') : SW P c Q S := fun w0 a w hr => k w0 a w (h w0 a w hr)
theorem sw_mono {c : Code} {Q' : Exit → AS → Prop} (h : SW P c Q S) (k : ∀ e S', Q e S' → Q' e S') : SW P c Q' S := fun w0 a w hr => wp_mono (h w0 a w hr) fun e _ _ ⟨S', h1, h2⟩ => ⟨S', k e S' h1, h2⟩
theorem sw_skip (h : Q .normal S) : SW P .skip Q S := fun _ _ _ hr => wp_skip ⟨S, h, hr⟩
theorem sw_exit {id : Nat} (h : Q (.exit id) S) : SW P (.exit id) Q S := fun _ _ _ hr => wp_exit ⟨S, h, hr⟩
theorem sw_ret (h : Q .ret S) : SW P .ret Q S := fun _ _ _ hr => wp_ret ⟨S, h, hr⟩
theorem sw_seq {x y : Code} (h : SW P x (thn (SW P y Q) Q) S) : SW P (.seq x y) Q S := fun w0 a w hr => wp_seq (wp_mono (h w0 a w hr) fun e a' w' ⟨S', h1, h2⟩ => by
 cases e with
 | normal => exact h1 w0 a' w' h2
 | _ => exact ⟨S', h1, h2⟩)
theorem sw_cond {c : Operand} {x y : Code} {t : Bool} (hc : ez S c = .c (.b t)) (h1 : t = true → SW P x Q S) (h2 : t = false → SW P y Q S) : SW P (.cond c x y) Q S := fun w0 a w hr => by
 obtain ⟨cx, h⟩ := hr; have h3 := h.evs c; rw [hc] at h3; have h3 : a.eval c = .bool t := h3
 exact wp_cond_split h3 (fun e => h1 e w0 a w ⟨cx, h⟩) fun e => h2 e w0 a w ⟨cx, h⟩
theorem sw_block {id : Nat} {c : Code} (h : SW P c (inB id Q) S) : SW P (.block id c) Q S := fun w0 a w hr => wp_block (wp_mono (h w0 a w hr) fun e a' w' ⟨S', h1, h2⟩ => by
 cases e with
 | exit j =>
  simp only [Exit.inBlock, inB] at h1 ⊢
  split at h1
  ·rename_i hj; rw [if_pos hj]; exact ⟨S', h1, h2⟩
  ·rename_i hj; rw [if_neg hj]; exact ⟨S', h1, h2⟩
 | _ => exact ⟨S', h1, h2⟩)
theorem sw_region {id : Nat} {ops : Array Oper} {draw : Bool} (hm : P.follows .mixedOrders = true) (hok : draw = true → regOk P ops = true) (h : aops P ops (Q .normal) ops.toList S) : SW P (.region id ops draw) Q S := fun _ _ _ hr =>
 sim_region hm hok hr h fun S' _ _ h1 h2 => ⟨S', h1, h2⟩
theorem wp_loop_rel {c : Code} {Q : Exit → Act → World → Prop} {a : Act} {w : World} (I : Nat → Act → World → Prop) {n : Nat} (h0 : I n a w)
  (round : ∀ n a w, I n a w → c.wp P (Exit.then (fun a' w' => ∃ m, m < n ∧ I m a' w') Q) a w) : (Code.loop c).wp P Q a w := by
 intro b k cs
 have key : ∀ n a w, I n a w → ∃ e a' w', Q e a' w' ∧ Arrives P (lone (b.at a (.code c :: .inLoop c :: k)) cs w) b k cs e a' w' := by
  intro n
  induction n using Nat.strongRecOn with
  | _ n ih =>
   intro a w hI; obtain ⟨e, a1, w1, hq, harr⟩ := round n a w hI b (.inLoop c :: k) cs
   cases e with
   | normal =>
    obtain ⟨m, hm, hI1⟩ := hq; obtain ⟨e2, a2, w2, hq2, harr2⟩ := ih m hm a1 w1 hI1; exact ⟨e2, a2, w2, hq2, .of_steps (Steps.trans harr (.one step_inLoop)) harr2⟩
   | exit id => exact ⟨_, a1, w1, hq, .pass (x := .inLoop c) rfl (fun _ _ => .inl (by simp)) harr⟩
   | goto l => exact ⟨_, a1, w1, hq, .pass (x := .inLoop c) rfl (fun _ _ => .inl (by simp)) harr⟩
   | ret => exact ⟨_, a1, w1, hq, .pass (x := .inLoop c) rfl (fun _ _ => .inl (by simp)) harr⟩
   | panic ch => exact ⟨_, a1, w1, hq, .pass (x := .inLoop c) rfl (fun _ _ => .inl (by simp)) harr⟩
   | outgrown => exact ⟨_, a1, w1, hq, .pass (x := .inLoop c) rfl (fun _ _ => .inl (by simp)) harr⟩
 obtain ⟨e, a', w', hq, harr⟩ := key _ a w h0; exact ⟨e, a', w', hq, .of_steps (.one step_loop) harr⟩
theorem sw_loop {c : Code} (I : Nat → AS → Prop) (h0 : ∃ n S1, Le S1 S ∧ I n S1) (round : ∀ n S1, I n S1 → SW P c (thn (fun S2 => ∃ m S3, m < n ∧ Le S3 S2 ∧ I m S3) Q) S1) : SW P (.loop c) Q S := fun w0 a w hr => by
 obtain ⟨n, S1, h1, h2⟩ := h0
 refine wp_loop_rel (fun n a w => ∃ S1, I n S1 ∧ Rel w0 S1 a w) (n := n) ⟨S1, h2, h1 w0 a w hr⟩ fun n a w ⟨S1, h3, h4⟩ => ?_
 refine wp_mono (round n S1 h3 w0 a w h4) fun e a' w' ⟨S', h5, h6⟩ => ?_
 cases e with
 | normal =>
  obtain ⟨m, S3, h7, h8, h9⟩ := h5; exact ⟨m, h7, S3, h9, h8 w0 a' w' h6⟩
 | _ => exact ⟨S', h5, h6⟩

def shutB (m : Mem) (l : List Nat) : Bool := l.all fun k => decide (1000 ≤ k) || (mat m k).isSome
def cvLe : CV → CV → Prop
 | .u, _ => True
 | .l f' ys, .l f xs => (f' = true → f = true) ∧ ys = xs
 | .l _ ys, .nl => ys = []
 | .d f' U ys, .d f T xs => (f' = true → f = true) ∧ U = T ∧ ys = xs
 | x, y => x = y
def cvLes : List CV → List CV → Prop
 | [], [] => True
 | x :: r, y :: s => cvLe x y ∧ cvLes r s
 | _, _ => False
def svLe : SV → SV → Prop
 | .u, _ => True
 | .c x, .c y => cvLe x y
 | .g xs, .g ys => cvLes xs ys
 | x, y => x = y
def obLe : Ob → Ob → Prop
 | .x xs, .x ys => cvLes xs ys
 | .r f' s' T' ys, .r f s T xs => (f' = true → f = true) ∧ s' = s ∧ T' = T ∧ ys = xs
 | .m f' kk' ys, .m f kk xs => (f' = true → f = true) ∧ kk' = kk ∧ ys = xs
 | .it f' k' ys la', .it f k xs la => (f' = true → f = true) ∧ k' = k ∧ ys = xs ∧ la' = la
 | .g us ys, .g vs xs => us = vs ∧ ys = xs
 | _, _ => False
theorem cvLe_nm {x y : CV} (h : cvLe x y) : ∀ k ∈ nmC x, k ∈ nmC y := by
 unfold cvLe at h
 split at h
 ·intro k hk; cases hk
 ·intro k hk; cases hk
 ·intro k hk; cases hk
 ·intro k hk; cases hk
 ·subst h; exact fun _ h => h
theorem cvLes_nm : ∀ {xs ys : List CV}, cvLes xs ys → ∀ k ∈ xs.flatMap nmC, k ∈ ys.flatMap nmC
 | [], _, _, k, hk => by cases hk
 | _ :: _, [], h, _, _ => h.elim
 | x :: r, y :: s, h, k, hk => by
  rw [List.flatMap_cons, List.mem_append] at hk ⊢; exact hk.imp (cvLe_nm h.1 k) (cvLes_nm h.2 k)
theorem obLe_nm {x y : Ob} (h : obLe x y) : ∀ k ∈ nmO x, k ∈ nmO y := by
 cases x <;> cases y <;> first | exact h.elim | skip
 ·exact cvLes_nm h
 ·exact fun _ h => h
 ·exact fun _ h => h
 ·obtain ⟨_, rfl, _⟩ := h; exact fun _ h => h
 ·obtain ⟨_, rfl⟩ := h; exact fun _ h => h
theorem cvLe_rel {c : Cx} {m : Mem} {w : World} {v : Value} {x y : CV} (h : cvLe x y) (hr : RelC c m w v y) : RelC c m w v x := by
 unfold cvLe at h
 split at h
 ·exact hr.one
 ·obtain ⟨hf, rfl⟩ := h; exact Rp.le hr hf
 ·subst h; have hr : v = .slice none 0 0 := hr; rw [hr]; exact Rp.of_sl (sz := 1) (by omega) (Sl.nil0 _ _ _)
 ·obtain ⟨hf, rfl, rfl⟩ := h; exact Rp.le hr hf
 ·subst h; exact hr
theorem cvLes_rel {c : Cx} {m : Mem} {w : World} : ∀ {vs : List Value} {xs ys : List CV}, cvLes xs ys → F2 (RelC c m w) vs ys → F2 (RelC c m w) vs xs
 | _, [], _, _, .nil => .nil
 | _, _ :: _, _, h, .nil => h.elim
 | _, [], _, h, .cons _ _ => h.elim
 | _, _ :: _, _, h, .cons h1 h2 => .cons (cvLe_rel h.1 h1) (cvLes_rel h.2 h2)
theorem svLe_rel {c : Cx} {m : Mem} {w : World} {v : Value} {x y : SV} (h : svLe x y) (hr : RelR c m w v y) : RelR c m w v x := by
 unfold svLe at h
 split at h
 ·trivial
 ·exact cvLe_rel h hr
 ·obtain ⟨vs, e, hr⟩ := hr; exact ⟨vs, e, cvLes_rel h hr⟩
 ·subst h; exact hr
theorem RelC.same {c : Cx} {m m' : Mem} {w : World} (hs : ∀ k ob, mat m' k = some ob → ∃ ob0, mat m k = some ob0 ∧ obLe ob ob0) {v : Value} {x : CV} (h : RelC c m w v x) (hn : ∀ k ∈ nmC x, ∃ ob, mat m' k = some ob) : RelC c m' w v x := by
 have bx : ∀ {k cs}, mat m k = some (.x cs) → (∃ ob, mat m' k = some ob) → ∃ cs', mat m' k = some (.x cs') := fun {k cs} h2 ⟨ob, h3⟩ => by
  obtain ⟨ob0, h4, h5⟩ := hs k ob h3; rw [h2] at h4
  injection h4 with h4
  subst h4
  cases ob <;> first | exact ⟨_, h3⟩ | exact h5.elim
 cases x with
 | p k o => obtain ⟨h1, cs, h2⟩ := h; exact ⟨h1, bx h2 (hn k (by simp [nmC]))⟩
 | r k n =>
  obtain ⟨f, s, T, xs, h2, h4, h6⟩ := h; obtain ⟨ob, h3⟩ := hn k (by simp [nmC]); obtain ⟨ob0, h5, h7⟩ := hs k ob h3; rw [h2] at h5
  injection h5 with h5
  subst h5
  cases ob with
  | r f' s' T' xs' => obtain ⟨_, rfl, rfl, rfl⟩ := h7; exact ⟨_, _, _, _, h3, h4, h6⟩
  | _ => exact h7.elim
 | f n ks =>
  obtain ⟨cap, h1, h2⟩ := h; refine ⟨cap, h1, forall2_of (forall2_len h2) fun i hi hi' => ?_⟩; obtain ⟨h3, cs, h4⟩ := forall2_get h2 i hi hi'; exact ⟨h3, bx h4 (hn _ (List.mem_map.2 ⟨_, List.getElem_mem hi', rfl⟩))⟩
 | m k =>
  obtain ⟨h1, fr, kk, es, h2⟩ := h; obtain ⟨ob, h3⟩ := hn k (by simp [nmC]); obtain ⟨ob0, h5, h7⟩ := hs k ob h3; rw [h2] at h5
  injection h5 with h5
  subst h5
  cases ob with
  | m f' kk' es' => exact ⟨h1, f', kk', es', h3⟩
  | _ => exact h7.elim
 | t k =>
  obtain ⟨h1, fr, mk, rem, la, h2⟩ := h; obtain ⟨ob, h3⟩ := hn k (by simp [nmC]); obtain ⟨ob0, h5, h7⟩ := hs k ob h3; rw [h2] at h5
  injection h5 with h5
  subst h5
  cases ob with
  | it f' k' rem' la' => obtain ⟨_, rfl, _⟩ := h7; exact ⟨h1, f', _, rem', la', h3⟩
  | _ => exact h7.elim
 | i k n => exact h
 | b x => exact h
 | s x => exact h
 | l fr xs => exact h
 | d fr T ds => exact h
 | nl => exact h
 | np => exact h
 | u => exact h
 | nf => exact h
 | nm => exact h
theorem RelCs.same {c : Cx} {m m' : Mem} {w : World} (hs : ∀ k ob, mat m' k = some ob → ∃ ob0, mat m k = some ob0 ∧ obLe ob ob0) : ∀ {vs : List Value} {xs : List CV}, F2 (RelC c m w) vs xs → (∀ k ∈ xs.flatMap nmC, ∃ ob, mat m' k = some ob) → F2 (RelC c m' w) vs xs
 | _, _, .nil, _ => .nil
 | _, _, .cons h1 h2, hn => .cons (h1.same hs fun k hk => hn k (by simp [hk])) (RelCs.same hs h2 fun k hk => hn k (by rw [List.flatMap_cons]; exact List.mem_append_right _ hk))
theorem RelR.same {c : Cx} {m m' : Mem} {w : World} (hs : ∀ k ob, mat m' k = some ob → ∃ ob0, mat m k = some ob0 ∧ obLe ob ob0) {v : Value} {x : SV} (h : RelR c m w v x) (hn : ∀ k ∈ nmR x, ∃ ob, mat m' k = some ob) : RelR c m' w v x := by
 cases x with
 | c x => exact RelC.same hs h hn
 | g cs => obtain ⟨vs, e, h⟩ := h; exact ⟨vs, e, RelCs.same hs h hn⟩
 | t xs =>
  obtain ⟨vs, e, h⟩ := h; refine ⟨vs, e, ?_⟩
  have key : ∀ {vs : List Value} {xs : List AV}, F2 (RelA c m w) vs xs → (∀ k ∈ xs.flatMap nmA, ∃ ob, mat m' k = some ob) → F2 (RelA c m' w) vs xs := by
   intro vs xs h
   induction h with
   | nil => exact fun _ => .nil
   | @cons v x _ _ h1 _ ih =>
    intro hn; refine .cons ?_ (ih fun k hk => hn k (by rw [List.flatMap_cons]; exact List.mem_append_right _ hk))
    have h0 : ∀ k ∈ nmA x, ∃ ob, mat m' k = some ob := fun k hk => hn k (by rw [List.flatMap_cons]; exact List.mem_append_left _ hk)
    cases x with
    | c x => exact RelC.same hs h1 h0
    | g cs => obtain ⟨vs, e, h1⟩ := h1; exact ⟨vs, e, RelCs.same hs h1 h0⟩
  exact key h hn
 | u => trivial
 | e fr ds => exact h
 | q k n i o =>
  obtain ⟨f, s, T, xs, h2, h4⟩ := h; obtain ⟨ob, h3⟩ := hn k (by simp [nmR]); obtain ⟨ob0, h5, h7⟩ := hs k ob h3; rw [h2] at h5
  injection h5 with h5
  subst h5
  cases ob with
  | r f' s' T' xs' => obtain ⟨_, rfl, rfl, rfl⟩ := h7; exact ⟨_, _, _, _, h3, h4⟩
  | _ => exact h7.elim
theorem RelRs.same {c : Cx} {m m' : Mem} {w : World} (hs : ∀ k ob, mat m' k = some ob → ∃ ob0, mat m k = some ob0 ∧ obLe ob ob0) : ∀ {vs : List Value} {xs : List SV}, F2 (RelR c m w) vs xs → (∀ k ∈ xs.flatMap nmR, ∃ ob, mat m' k = some ob) → F2 (RelR c m' w) vs xs
 | _, _, .nil, _ => .nil
 | _, _, .cons h1 h2, hn => .cons (h1.same hs fun k hk => hn k (by simp [hk])) (RelRs.same hs h2 fun k hk => hn k (by rw [List.flatMap_cons]; exact List.mem_append_right _ hk))
theorem nm_thereRs {c : Cx} {m : Mem} {w : World} : ∀ {vs : List Value} {xs : List SV}, F2 (RelR c m w) vs xs → ∀ k ∈ xs.flatMap nmR, ∃ ob, mat m k = some ob
 | _, _, .nil, k, hk => by cases hk
 | _, _, .cons h1 h2, k, hk => by
  simp only [List.flatMap_cons, List.mem_append] at hk; exact hk.elim (nm_there h1 k) (nm_thereRs h2 k)
theorem nm_thereO {c : Cx} {m : Mem} {w : World} {k : Nat} {o : Ob} (h : RelO c m w k o) : ∀ j ∈ nmO o, ∃ ob, mat m j = some ob := by
 cases o with
 | x cs => obtain ⟨_, _, _, _, _, h⟩ := h; exact nm_thereCs h
 | r fr sz T xs => intro j hj; cases hj
 | m fr kk es => intro j hj; cases hj
 | it fr mk rem la =>
  obtain ⟨_, _, ⟨_, _, _, h⟩, _⟩ := h; intro j hj; simp only [nmO, List.mem_singleton] at hj; exact ⟨_, hj ▸ h⟩
 | g vs xs => exact nm_thereRs h
theorem RelX.sub {w0 : Beg} {c : Cx} {a : Act} {w : World} {n : Nat} {f f' : Nat → SV} {m m' : Mem} (hf : ∀ t, t < n → svLe (f' t) (f t)) (hm : ∀ k ob, mat m' k = some ob → ∃ ob0, mat m k = some ob0 ∧ obLe ob ob0) (h1 : ∀ t, t < n → shutB m' (nmR (f' t)) = true) (h2 : ∀ k ob, mat m' k = some ob → shutB m' (nmO ob) = true)
  (h3 : ∀ k, 1000 ≤ k → (mat m k).isSome = true → (mat m' k).isSome = true) (h : RelX w0 c ⟨n, f, m⟩ a w) : RelX w0 c ⟨n, f', m'⟩ a w := by
 have sh : ∀ l, shutB m' l = true → (∀ k ∈ l, ∃ ob, mat m k = some ob) → ∀ k ∈ l, ∃ ob, mat m' k = some ob := fun l hl hm k hk => by
  have h4 := List.all_eq_true.1 hl k hk; simp only [Bool.or_eq_true, decide_eq_true_eq] at h4; refine Option.isSome_iff_exists.1 (h4.elim (fun h5 => h3 k h5 ?_) id); exact Option.isSome_iff_exists.2 (hm k hk)
 refine ⟨h.n0, h.ext, h.df, h.xl, h.xo, h.sz, fun t ht => ?_, fun k o hk => ?_, fun k k' o o' hne hk hk' b hb => ?_⟩
 ·have h5 := svLe_rel (hf t ht) (h.sl t ht); exact RelR.same hm h5 (sh _ (h1 t ht) (nm_there h5))
 ·obtain ⟨o0, hk0, hle⟩ := hm k o hk; have hr := h.mem k o0 hk0
  have hnm := sh _ (h2 k o hk) fun j hj => nm_thereO hr j (obLe_nm hle j hj)
  cases o with
  | x cs =>
   cases o0 with
   | x cs0 => obtain ⟨q1, q2, vs, T, q3, q4⟩ := hr; exact ⟨q1, q2, vs, T, q3, RelCs.same hm (cvLes_rel hle q4) hnm⟩
   | _ => exact hle.elim
  | r fr s T xs =>
   cases o0 with
   | r f0 s0 T0 xs0 =>
    obtain ⟨hf, rfl, rfl, rfl⟩ := hle; obtain ⟨q1, q2, q3, q4⟩ := hr; exact ⟨q1, q2.widen fun b hb _ => hb.le hf, q3, q4⟩
   | _ => exact hle.elim
  | m fr kk es =>
   cases o0 with
   | m f0 kk0 es0 =>
    obtain ⟨hf, rfl, rfl⟩ := hle; obtain ⟨q1, q2, ents, q3, q4, q5, q6⟩ := hr; exact ⟨q1, q2, ents, q3, q4, forall2_mono (fun _ _ r => r.widen fun b hb _ => hb.le hf) q5, q6⟩
   | _ => exact hle.elim
  | it fr mk rem la =>
   cases o0 with
   | it f0 mk0 rem0 la0 =>
    obtain ⟨hf, rfl, rfl, rfl⟩ := hle; obtain ⟨q1, q2, ⟨fr1, kk1, es1, q3⟩, ents, clock, seen, q4, q5, q6, q10⟩ := hr; obtain ⟨ob, q7⟩ := hnm mk (by simp [nmO]); obtain ⟨ob0, q8, q9⟩ := hm mk ob q7; rw [q3] at q8
    injection q8 with q8
    subst q8
    cases ob with
    | m f2 kk2 es2 => exact ⟨q1, q2, ⟨f2, kk2, es2, q7⟩, ents, clock, seen, q4, q5, forall2_mono (fun _ _ r => r.widen fun b hb _ => hb.le hf) q6, fun p hp => let ⟨e, he, h9, r⟩ := q10 p hp; ⟨e, he, h9, r.widen fun b hb _ => hb.le hf⟩⟩
    | _ => exact q9.elim
   | _ => exact hle.elim
  | g vs xs =>
   cases o0 with
   | g vs0 xs0 =>
    obtain ⟨rfl, rfl⟩ := hle; exact RelRs.same hm hr hnm
   | _ => exact hle.elim
 ·obtain ⟨o0, hk0, hle⟩ := hm k o hk; obtain ⟨o0', hk0', hle'⟩ := hm k' o' hk'
  have e : ∀ {j : Nat} {x y : Ob}, obLe x y → blk c j x = blk c j y := fun {j x y} h => by cases x <;> cases y <;> first | rfl | exact h.elim
  rw [e hle] at hb; rw [e hle']; exact h.dis k k' o0 o0' hne hk0 hk0' b hb
theorem le_sub {n : Nat} {f f' : Nat → SV} {m m' : Mem} (hf : ∀ t, t < n → svLe (f' t) (f t)) (hm : ∀ k ob, mat m' k = some ob → ∃ ob0, mat m k = some ob0 ∧ obLe ob ob0) (h1 : ∀ t, t < n → shutB m' (nmR (f' t)) = true) (h2 : ∀ k ob, mat m' k = some ob → shutB m' (nmO ob) = true)
  (h3 : ∀ k, 1000 ≤ k → (mat m k).isSome = true → (mat m' k).isSome = true) : Le ⟨n, f', m'⟩ ⟨n, f, m⟩ := fun _ _ _ ⟨c, h⟩ => ⟨c, h.sub hf hm h1 h2 h3⟩
theorem le_own {n : Nat} {f : Nat → SV} {m : Mem} (t k sz : Nat) (T : TypeId) (ht : f t = .c .nl) (hk : mat m k = none) (hsz : 0 < sz) : Le ⟨n, fset f t (.c (.r k 0)), (k, .r true sz T []) :: m⟩ ⟨n, f, m⟩ := by
 rintro w0 a w ⟨c, h⟩; have hx := new_row h hk hsz (f := true) (T := T) (xs := []) (.slice none 0 0) (Ext.refl w) (fun b hb => by cases hb) (Own.nil w _ _ _) (by simp); refine ⟨_, hx.n0, hx.ext, hx.df, hx.xl, hx.xo, hx.sz, fun t' ht' => ?_, hx.mem, hx.dis⟩
 show RelR _ _ w (a.tmps.getD t' undef) (fset f t (.c (.r k 0)) t')
 unfold fset
 by_cases e : t' = t
 ·subst e; rw [if_pos rfl]; have h1 : RelR c m w (a.tmps.getD t' undef) (f t') := h.sl t' ht'; rw [ht] at h1; have h1 : a.tmps.getD t' undef = .slice none 0 0 := h1; rw [h1]; exact ⟨true, sz, T, [], by simp [mat], Nat.le_refl _, fun _ => by simp, rfl⟩
 ·rw [if_neg e]; exact hx.sl t' ht'
theorem le_ownx {n : Nat} {f : Nat → SV} {m : Mem} (j i : Nat) {cs : List CV} (k sz : Nat) (T : TypeId) (hj : mat m j = some (.x cs)) (hi : cs[i]? = some .nl) (hk : mat m k = none) (hsz : 0 < sz) : Le ⟨n, f, mset ((k, .r true sz T []) :: m) j (.x (cs.set i (.r k 0)))⟩ ⟨n, f, m⟩ := by
 rintro w0 a w ⟨c, h⟩; have hx := new_row h hk hsz (f := true) (T := T) (xs := []) (.slice none 0 0) (Ext.refl w) (fun b hb => by cases hb) (Own.nil w _ _ _) (by simp)
 have hkj : k ≠ j := fun e => by subst e; rw [hk] at hj; cases hj
 have hj' : mat ((k, .r true sz T []) :: m) j = some (.x cs) := by simp [mat, hkj, hj]
 refine ⟨_, hx.upd (ob' := .x (cs.set i (.r k 0))) hj' (ρ' := fun j => if j = k then .slice none 0 0 else c.ρ j) (fun _ _ => rfl) trivial (fun _ _ _ _ _ _ _ _ e => by cases e) hx.ext (Nat.le_refl _) (fun _ _ _ => rfl) (fun b hb => .inl hb) fun hmon => ?_⟩; obtain ⟨q1, q2, vs, T', q3, q4⟩ := hx.mem j _ hj'; refine ⟨q1, q2, vs, T', q3, ?_⟩; have q5 := forall2_mono (fun _ _ => RelC.mon hmon) q4; have hil := (List.getElem?_eq_some_iff.1 hi).1; have hvl := forall2_len q5; have h1 := forall2_get q5 i (by omega) hil; rw [(List.getElem?_eq_some_iff.1 hi).2] at h1; have h1 : vs.toList[i] = .slice none 0 0 := h1
 have h2 : vs.toList = vs.toList.set i (.slice none 0 0) := by
  rw [← h1, List.set_getElem_self]
 rw [h2]; refine forall2_set i q5 ⟨true, sz, T, [], ?_, Nat.le_refl _, fun _ => by simp, rfl⟩; rw [mat_set_other hkj]; simp [mat]
end

end Go.Proofs.YtbgifiijjjoebaaGreatDoor
