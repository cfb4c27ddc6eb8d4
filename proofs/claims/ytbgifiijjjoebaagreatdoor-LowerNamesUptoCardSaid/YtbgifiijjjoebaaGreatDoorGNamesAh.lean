/- What one operation does to a state without addresses (VI): maps. No conditions. -/
import Derived.Test.YtbgifiijjjoebaaGreatDoorGNamesAg
import Derived.MapKept
import Derived.Maps.RangeRun
namespace Go.Proofs.YtbgifiijjjoebaaGreatDoor
open Go.RowKit
open Go.MapKept (IsKey run_findKey run_checkKey run_keyThatStays run_setObj_map)
open Go.ChangeMaps (setBlock)

def kdesc : Option IntKind → TypeDesc
 | some k => .int k
 | none => .string
def dEq : D → D → Bool
 | .i k n, .i k' n' => k == k' && n == n'
 | .s x, .s y => x == y
 | _, _ => false
def mlook : List (D × AD) → D → Option AD
 | [], _ => none
 | (k, v) :: r, d => if dEq d k then some v else mlook r d
def midx : List (D × AD) → D → Nat
 | [], _ => 0
 | (k, _) :: r, d => if dEq d k then 0 else midx r d + 1
def mput (es : List (D × AD)) (d : D) (v : AD) : List (D × AD) := if midx es d < es.length then es.set (midx es d) (d, v) else es ++ [(d, v)]
def mkey (es : List (D × AD)) (d : D) (z : AD) : List (D × AD) := mput es d ((mlook es d).getD z)
def vAD : Value → Option AD
 | .agg cs => (cCVs cs.toList).bind fun xs => (snapDs xs).map fun p => .g p.2
 | v => (cCV v).bind fun x => (snapD x).map fun p => .c p.2
def mapP (P : Program) (T : TypeId) : Option (Option IntKind × AD) :=
 match P.underlying T with
 | some (.map key elem) => match P.underlying key, ((P.info? elem).bind (·.zero)).bind vAD with
  | some (.int k), some z => some (some k, z)
  | some .string, some z => some (none, z)
  | _, _ => none
 | _ => none
def keyD : SV → Option D
 | .c (.i k n) => some (.i k n)
 | .c (.s s) => some (.s s)
 | _ => none
def adR (fr : Bool) : AD → SV
 | .c d => .c (toC fr d)
 | .g ds => .g (ds.map (toC fr))
def adA (fr : Bool) : AD → AV
 | .c d => .c (toC fr d)
 | .g ds => .g (ds.map (toC fr))
def valD : SV → Option (Bool × AD)
 | .c x => (snapD x).map fun p => (p.1, .c p.2)
 | .g xs => (snapDs xs).map fun p => (p.1, .g p.2)
 | _ => none

def itOn (k : Nat) : Ob → Bool
 | .it _ mk _ _ => mk == k
 | _ => false
def freeIt (m : Mem) (k : Nat) : Prop := ∀ j ob, mat m j = some ob → itOn k ob = false
theorem mat_set_none : ∀ {m : Mem} {k : Nat} {o : Ob}, mat m k = none → mat (mset m k o) k = none
 | [], _, _, _ => rfl
 | (j, a) :: r, k, o, h => by
  unfold mat at h
  split at h
  ·cases h
  ·rename_i e
   simp [mset, mat, e, mat_set_none h]
theorem freeIt_no {k : Nat} {m : Mem} (h : noIt m) : freeIt m k := fun j ob hj => by
 have := noIt_mem h _ (mat_mem hj)
 cases ob <;> first | rfl | cases this
def mkmK (d : Option Nat) (mp : Option (Option IntKind × AD)) (res : Option SV) (m : Mem) (K : SV → Mem → Prop) : Prop :=
 match d, mp, (match res with | none => true | some (.c (.i _ _)) => true | _ => false) with
 | some k, some (kk, _), true => mat m k = none ∧ K (.c (.m k)) ((k, .m true kk []) :: m)
 | _, _, _ => False
def lookK (mp : Option (Option IntKind × AD)) (comma : Bool) (m : Mem) (K : SV → Mem → Prop) (x y : SV) : Prop :=
 match mp, keyD y with
 | some (kk, z), some d => keyOk kk d = true ∧ (match x with
  | .c (.m k) => (match mat m k with
   | some (.m fr kk' es) => kk' = kk ∧ (if comma then K (.t [adA fr ((mlook es d).getD z), .c (.b (mlook es d).isSome)]) m else K (adR fr ((mlook es d).getD z)) m)
   | _ => False)
  | .c .nm => if comma then K (.t [adA true z, .c (.b false)]) m else K (adR true z) m
  | _ => False)
 | _, _ => False
def updK (mp : Option (Option IntKind × AD)) (m : Mem) (K : SV → Mem → Prop) (x y v : SV) : Prop :=
 match mp, keyD y, valD v with
 | some (kk, _), some d, some (f, u) => keyOk kk d = true ∧ (match x with
  | .c (.m k) => (match mat m k with
   | some (.m fr kk' es) => kk' = kk ∧ freeIt m k ∧ K .u (mset m k (.m (fr && f) kk (mput es d u)))
   | _ => False)
  | _ => False)
 | _, _, _ => False
def entK (mp : Option (Option IntKind × AD)) (m : Mem) (K : SV → Mem → Prop) (x y : SV) : Prop :=
 match mp, keyD y with
 | some (kk, z), some d => keyOk kk d = true ∧ (match x with
  | .c (.m k) => (match mat m k with
   | some (.m fr kk' es) => kk' = kk ∧ freeIt m k ∧ es.length < 9223372036854775807 ∧ K (.t [adA fr ((mlook es d).getD z), .c (.i .i64 (midx es d : Int))]) (mset m k (.m fr kk (mkey es d z)))
   | _ => False)
  | _ => False)
 | _, _ => False
def estK (m : Mem) (K : SV → Mem → Prop) (x y v : SV) : Prop :=
 match x, y, valD v with
 | .c (.m k), .c (.i .i64 n), some (f, u) => freeIt m k ∧ (match mat m k with
  | some (.m fr kk es) => 0 ≤ n ∧ (match es[n.toNat]? with
   | some p => K .u (mset m k (.m (fr && f) kk (es.set n.toNat (p.1, u))))
   | none => False)
  | _ => False)
 | _, _, _ => False
def rngK (d : Option Nat) (b : Bool) (m : Mem) (K : SV → Mem → Prop) (x : SV) : Prop :=
 match d, x with
 | some j, .c (.m k) => (match mat m k with
  | some (.m fr _ es) => b = true ∧ mat m j = none ∧ j ≠ k ∧ K (.c (.t j)) ((j, .it fr k es none) :: m)
  | _ => False)
 | _, _ => False
def nxtK (m : Mem) (K : SV → Mem → Prop) (x : SV) : Prop :=
 match x with
 | .c (.t j) => (match mat m j with
  | some (.it fr k rem _) => (rem = [] → K (.t [.c (.b false)]) m) ∧ ∀ p l1 l2, rem = l1 ++ p :: l2 → K (.t [.c (.b true), adA fr (.c p.1), adA fr p.2]) (mset m j (.it fr k (l1 ++ l2) (some p)))
  | _ => False)
 | _ => False
def ryK (m : Mem) (K : SV → Mem → Prop) (x : SV) : Prop :=
 match x with
 | .c (.t j) => (match mat m j with
  | some (.it fr _ _ (some p)) => K (.t [adA fr (.c p.1), adA fr p.2]) m
  | _ => False)
 | _ => False

section
variable {P : Program} {w0 : Beg} {c : Cx} {S : AS} {a : Act} {w : World} {o : Oper} {m : Mem} {K : SV → Mem → Prop} {Q : Exit → Act → World → Prop}
theorem vAD_rel {X : Nat → Prop} {v : Value} {z : AD} (h : vAD v = some z) : RelD w X v z := by
 have key : ∀ {b : Bool} {u : Value} {d : D}, Rp w (Cx.Y ⟨fun _ => 0, fun _ => undef, X, 0⟩ b) u d → Rp w X u d := fun h => h.widen fun _ hb _ => hb.1
 have one : ∀ {v : Value}, ((cCV v).bind fun x => (snapD x).map fun p => AD.c p.2) = some z → RelD w X v z := fun {v} h => by
  obtain ⟨x, h1, h2⟩ := Option.bind_eq_some_iff.1 h; obtain ⟨p, h3, rfl⟩ := Option.map_eq_some_iff.1 h2; exact key (snapD_rel (c := ⟨fun _ => 0, fun _ => undef, X, 0⟩) (m := []) (fr := p.1) (cCV_rel h1) h3)
 cases v with
 | agg cs =>
  obtain ⟨xs, h1, h2⟩ := Option.bind_eq_some_iff.1 h; obtain ⟨p, h3, rfl⟩ := Option.map_eq_some_iff.1 h2; exact ⟨cs, rfl, forall2_mono (fun _ _ h => key h) (snapDs_rel (c := ⟨fun _ => 0, fun _ => undef, X, 0⟩) (m := []) (fr := p.1) (cCVs_rel h1) h3)⟩
 | _ => exact one h
theorem mapP_spec {T : TypeId} {kk : Option IntKind} {z : AD} (h : mapP P T = some (kk, z)) : ∃ key elem i zv, P.underlying T = some (.map key elem) ∧ P.underlying key = some (kdesc kk) ∧ P.info? elem = some i ∧ i.zero = some zv ∧ vAD zv = some z := by
 unfold mapP at h
 split at h
 ·rename_i key elem hT
  split at h
  ·rename_i k z' hk hz
   simp only [Option.some.injEq, Prod.mk.injEq] at h; obtain ⟨rfl, rfl⟩ := h; obtain ⟨zv, h1, h2⟩ := Option.bind_eq_some_iff.1 hz; obtain ⟨i, h3, h4⟩ := Option.bind_eq_some_iff.1 h1; exact ⟨key, elem, i, zv, hT, hk, h3, h4, h2⟩
  ·rename_i z' hk hz
   simp only [Option.some.injEq, Prod.mk.injEq] at h; obtain ⟨rfl, rfl⟩ := h; obtain ⟨zv, h1, h2⟩ := Option.bind_eq_some_iff.1 hz; obtain ⟨i, h3, h4⟩ := Option.bind_eq_some_iff.1 h1; exact ⟨key, elem, i, zv, hT, hk, h3, h4, h2⟩
  ·cases h
 ·cases h
def KeyV (kk : Option IntKind) (v : Value) (d : D) : Prop := match kk with
 | some k => ∃ n, v = .int k n ∧ d = .i k n ∧ k.min ≤ n ∧ n ≤ k.max
 | none => ∃ s, v = .string s ∧ d = .s s ∧ s.size ≤ maxLen
theorem keyV_of {kk : Option IntKind} {X : Nat → Prop} {v : Value} {d : D} (h : Rp w X v d) (hk : keyOk kk d = true) : KeyV kk v d := by
 cases kk with
 | some k =>
  cases d <;> simp only [keyOk, Bool.false_eq_true, beq_iff_eq] at hk
  subst hk
  cases h
  exact ⟨_, rfl, rfl, ‹_›, ‹_›⟩
 | none =>
  cases d <;> simp only [keyOk, Bool.false_eq_true] at hk
  cases h
  exact ⟨_, rfl, rfl, ‹_›⟩
theorem KeyV.rp {kk : Option IntKind} {X : Nat → Prop} {v : Value} {d : D} (h : KeyV kk v d) : Rp w X v d := by
 cases kk with
 | some k => obtain ⟨n, rfl, rfl, h1, h2⟩ := h; exact .i h1 h2
 | none => obtain ⟨s, rfl, rfl, h1⟩ := h; exact .s h1
theorem keyD_rel {v : Value} {x : SV} {d : D} {kk : Option IntKind} (h : RelR c m w v x) (hd : keyD x = some d) (hk : keyOk kk d = true) : KeyV kk v d := by
 unfold keyD at hd
 split at hd
 ·injection hd with hd; subst hd
  obtain ⟨rfl, h1, h2⟩ := h; exact keyV_of (w := w) (X := fun _ => True) (.i h1 h2) hk
 ·injection hd with hd; subst hd
  obtain ⟨rfl, h1⟩ := h; exact keyV_of (w := w) (X := fun _ => True) (.s h1) hk
 ·cases hd
theorem KeyV.isKey {kk : Option IntKind} {v : Value} {d : D} (h : KeyV kk v d) : IsKey (kdesc kk) v := by
 cases kk with
 | some k => obtain ⟨n, rfl, _⟩ := h; simp [IsKey, kdesc]
 | none => obtain ⟨s, rfl, _⟩ := h; simp [IsKey, kdesc]
theorem sameNow_eq {kk : Option IntKind} {v u : Value} {d e : D} (h : KeyV kk v d) (h' : KeyV kk u e) : Instr.sameNow (kdesc kk) v u = some (dEq d e) := by
 cases kk with
 | some k =>
  obtain ⟨n, rfl, rfl, _⟩ := h; obtain ⟨n', rfl, rfl, _⟩ := h'; simp [Instr.sameNow, dEq, kdesc]
 | none =>
  obtain ⟨s, rfl, rfl, _⟩ := h; obtain ⟨s', rfl, rfl, _⟩ := h'; simp [Instr.sameNow, dEq, kdesc]
theorem dEq_same {kk : Option IntKind} {v u : Value} {d e : D} (h : KeyV kk v d) (h' : KeyV kk u e) (he : dEq d e = true) : v = u ∧ d = e := by
 cases kk with
 | some k =>
  obtain ⟨n, rfl, rfl, _⟩ := h; obtain ⟨n', rfl, rfl, _⟩ := h'; simp [dEq] at he; subst he; exact ⟨rfl, rfl⟩
 | none =>
  obtain ⟨s, rfl, rfl, _⟩ := h; obtain ⟨s', rfl, rfl, _⟩ := h'; have he : s = s' := (MapKept.bytes_beq _ _).1 he; subst he; exact ⟨rfl, rfl⟩
theorem midx_le : ∀ (es : List (D × AD)) (d : D), midx es d ≤ es.length
 | [], _ => Nat.le_refl _
 | (k, v) :: r, d => by
  unfold midx
  split
  ·exact Nat.zero_le _
  ·exact Nat.succ_le_succ (midx_le r d)
theorem mlook_idx : ∀ (es : List (D × AD)) (d : D), mlook es d = (es[midx es d]?).map Prod.snd
 | [], _ => rfl
 | (k, v) :: r, d => by
  unfold mlook midx
  split
  ·rfl
  ·rw [mlook_idx r d]; simp
theorem midx_key : ∀ {es : List (D × AD)} {d : D} (h : midx es d < es.length), dEq d es[midx es d].1 = true
 | (k, v) :: r, d, h => by
  by_cases e : dEq d k = true
  ·have : midx ((k, v) :: r) d = 0 := by simp [midx, e]
   simp only [this, List.getElem_cons_zero]; exact e
  ·have h1 : midx ((k, v) :: r) d = midx r d + 1 := by simp [midx, e]
   simp only [h1, List.getElem_cons_succ]; exact midx_key (by rw [h1] at h; simpa using h)
theorem findNow_eq {kk : Option IntKind} {X : Nat → Prop} {v : Value} {d : D} (hv : KeyV kk v d) : ∀ {ents : List MapEntry} {es : List (D × AD)} (i : Nat), F2 (EntR w X) ents es → (∀ p ∈ es, keyOk kk p.1 = true) →
  Instr.findNow (kdesc kk) v ents i = some (ents[midx es d]?.map fun e => (i + midx es d, e.val))
 | _, _, i, .nil, _ => rfl
 | e :: ents, p :: es, i, .cons h1 h2, hk => by
  unfold Instr.findNow; rw [sameNow_eq hv (keyV_of h1.1 (hk _ List.mem_cons_self))]; obtain ⟨k, u⟩ := p
  by_cases he : dEq d k = true
  ·simp [he, midx]
  ·have he : dEq d k = false := by simpa using he
   simp only [he]; rw [findNow_eq hv (i + 1) h2 fun p hp => hk p (List.mem_cons_of_mem _ hp)]
   have h1 : midx ((k, u) :: es) d = midx es d + 1 := by simp [midx, he]
   simp only [h1, List.getElem?_cons_succ, Option.some.injEq]
   congr 1
   funext e
   rw [Prod.mk.injEq]; exact ⟨by omega, rfl⟩
theorem adR_rel {fr : Bool} {v : Value} {z : AD} (h : RelD w (c.Y fr) v z) : RelR c m w v (adR fr z) := by
 cases z with
 | c d => exact toC_rel h
 | g ds => obtain ⟨vs, e, h⟩ := h; exact ⟨vs, e, F2.map (fun _ _ h => toC_rel h) h⟩
theorem adA_rel {fr : Bool} {v : Value} {z : AD} (h : RelD w (c.Y fr) v z) : RelA c m w v (adA fr z) := by
 cases z with
 | c d => exact toC_rel h
 | g ds => obtain ⟨vs, e, h⟩ := h; exact ⟨vs, e, F2.map (fun _ _ h => toC_rel h) h⟩
theorem valD_rel {v : Value} {x : SV} {f : Bool} {u : AD} (h : RelR c m w v x) (hd : valD x = some (f, u)) : RelD w (c.Y f) v u := by
 unfold valD at hd
 split at hd
 ·obtain ⟨p, h1, h2⟩ := Option.map_eq_some_iff.1 hd; simp only [Prod.mk.injEq] at h2; obtain ⟨rfl, rfl⟩ := h2; exact snapD_rel (fr := p.1) h h1
 ·obtain ⟨p, h1, h2⟩ := Option.map_eq_some_iff.1 hd; simp only [Prod.mk.injEq] at h2; obtain ⟨rfl, rfl⟩ := h2; obtain ⟨vs, e, h⟩ := h; exact ⟨vs, e, snapDs_rel (fr := p.1) h h1⟩
 ·cases hd
theorem RelD.le {fr fr' : Bool} {v : Value} {d : AD} (h : RelD w (c.Y fr) v d) (hf : fr' = true → fr = true) : RelD w (c.Y fr') v d := h.widen fun _ hb _ => hb.le hf
theorem EntR.le {fr fr' : Bool} {e : MapEntry} {p : D × AD} (h : EntR w (c.Y fr) e p) (hf : fr' = true → fr = true) : EntR w (c.Y fr') e p := h.widen fun _ hb _ => hb.le hf

theorem sim_mkm (h : RelX w0 c S a w) (hd : ∀ t, o.dst = some t → t < S.n) (T : TypeId) (r : Option Operand) (ho : o.op = .makeMap T r) (hK : mkmK o.dst (mapP P T) (r.map (ez S)) S.m K) : o.wp P a w (fun a' w' => ∃ r m', K r m' ∧ Rel w0 (S.put o.dst r m') a' w') Q := by
 unfold mkmK at hK
 split at hK
 ·rename_i k kk z hdk hmp hres
  obtain ⟨hk, hK⟩ := hK; obtain ⟨key, elem, i, zv, hT, _⟩ := mapP_spec hmp
  have hrun : (execOp a.eval o).run P w = .ok (.value (.map (some w.heap.size))) (w.alloc (.map #[] 0)) := by
   cases r with
   | none => simp [execOp, ho, Instr.makeMap]
   | some x =>
    have hx := h.evs x; simp only [Option.map_some] at hres
    split at hres
    ·rename_i e; cases e
    ·rename_i k' n' e
     injection e with e
     rw [e] at hx; have hx : a.eval x = .int k' n' := hx.1; simp [execOp, ho, Instr.makeMap, hx, underlying, hT, asInt, asIntOf]
    ·cases hres
  refine sim_val (r := .c (.m k)) hd hrun (h.new (β' := fun j => if j = k then w.heap.size else c.β j) (ρ' := fun j => if j = k then encM [] 0 else c.ρ j) hk (fun j hj => by simp [hj]) (fun j hj => by simp [hj]) ((Ext.refl w).alloc _) (fun b hb => ?_) fun hmon => ?_) ⟨by simp, _, _, _, by simp [mat]; exact ⟨rfl, rfl, rfl⟩⟩ hK
  ·simp [blk] at hb; omega
  ·refine ⟨by simp [h.n0]; exact h.ext.size, by simp; intro hX; have := h.xl _ hX; omega, #[], by simpa using heap_alloc_new w _, by simp, .nil, rfl, (fun p hp => by cases hp)⟩
 ·exact hK.elim
theorem run_lookup_gen {T : TypeId} {kk : Option IntKind} {z : AD} (hmp : mapP P T = some (kk, z)) {v : Value} {d : D} (hv : KeyV kk v d) {X : Nat → Prop} {b : Option Nat} {ents : List MapEntry} {es : List (D × AD)} (hb : match b with | none => ents = [] | some r => ∃ q n, w.heap[r]? = some (.map q n) ∧ q.toList = ents)
  (hF : F2 (EntR w X) ents es) (hes : ∀ p ∈ es, keyOk kk p.1 = true) (comma : Bool) : ∃ u, (Instr.lookup T (.map b) v comma).run P w = .ok (if comma then .tuple #[u, .bool (mlook es d).isSome] else u) w ∧ RelD w X u ((mlook es d).getD z) := by
 obtain ⟨key, elem, i, zv, hT, hkd, hi, hz, hzv⟩ := mapP_spec hmp; have hfn := findNow_eq hv 0 hF hes; have hfk := run_findKey (P := P) (w := w) hkd hfn
 have hck := fun e => run_checkKey (P := P) (w := w) hkd hv.isKey e 9999
 have hlen := forall2_len hF
 have hzr : (zeroValue elem).run P w = .ok zv w := by simp [zeroValue, typeInfo, hi, hz]
 by_cases hlt : midx es d < es.length
 ·have hge : ents[midx es d]? = some ents[midx es d] := List.getElem?_eq_getElem (by omega)
  have hml : mlook es d = some es[midx es d].2 := by rw [mlook_idx, List.getElem?_eq_getElem hlt]; rfl
  refine ⟨ents[midx es d].val, ?_, ?_⟩
  ·cases b with
   | none => subst hb; simp at hlen; omega
   | some r =>
    obtain ⟨q, n, h1, h2⟩ := hb; subst h2; unfold Instr.lookup; simp only [Sem.run_bind, run_underlying hT, Result.andThen_ok, MapKept.run_getObj_map h1, hck, hfk, hge, Option.map_some, Sem.run_pure, hml, Option.isSome_some]
  ·rw [hml]; exact (forall2_get hF _ (by omega) hlt).2
 ·have hge : ents[midx es d]? = none := List.getElem?_eq_none (by omega)
  have hml : mlook es d = none := by rw [mlook_idx, List.getElem?_eq_none (by omega)]; rfl
  refine ⟨zv, ?_, by rw [hml]; exact vAD_rel hzv⟩
  cases b with
  | none =>
   subst hb; unfold Instr.lookup; simp only [Sem.run_bind, run_underlying hT, Result.andThen_ok, hck, hfk, hge, Option.map_none, hzr, Sem.run_pure, hml, Option.isSome_none]
  | some r =>
   obtain ⟨q, n, h1, h2⟩ := hb; rw [← h2] at hfk hge; unfold Instr.lookup; simp only [Sem.run_bind, run_underlying hT, Result.andThen_ok, MapKept.run_getObj_map h1, hck, hfk, hge, Option.map_none, hzr, Sem.run_pure, hml, Option.isSome_none]
theorem sim_look (h : RelX w0 c S a w) (hd : ∀ t, o.dst = some t → t < S.n) (T : TypeId) (x y : Operand) (comma : Bool) (ho : o.op = .lookup T x y comma) (hK : lookK (mapP P T) comma S.m K (ez S x) (ez S y)) : o.wp P a w (fun a' w' => ∃ r m', K r m' ∧ Rel w0 (S.put o.dst r m') a' w') Q := by
 have hx := h.evs x; have hy := h.evs y
 have hex : ∀ v, (Instr.lookup T (a.eval x) (a.eval y) comma).run P w = .ok v w → (execOp a.eval o).run P w = .ok (.value v) w := fun v hv => by
  simp only [execOp, ho, Sem.run_bind, hv, Result.andThen_ok, Sem.run_pure]
 generalize ez S x = r at hx hK; generalize ez S y = r2 at hy hK; generalize a.eval x = v at hx hex; generalize a.eval y = v2 at hy hex; unfold lookK at hK
 split at hK
 ·rename_i kk z d hmp hkd
  obtain ⟨hok, hK⟩ := hK; have hv := keyD_rel hy hkd hok
  split at hK
  ·rename_i k
   split at hK
   ·rename_i fr kk' es hm
    obtain ⟨rfl, hK⟩ := hK; obtain ⟨rfl, _⟩ := hx; obtain ⟨_, _, ents, h1, _, h2, _, h3⟩ := h.mem k _ hm; obtain ⟨u, h4, h5⟩ := run_lookup_gen (P := P) (w := w) hmp hv (b := some (c.β k)) (ents := ents.toList) ⟨ents, _, h1, rfl⟩ h2 h3 comma
    cases comma with
    | true => exact sim_val (r := .t [adA fr ((mlook es d).getD z), .c (.b (mlook es d).isSome)]) hd (hex _ h4) h ⟨_, rfl, .cons (adA_rel h5) (.cons rfl .nil)⟩ hK
    | false => exact sim_val (r := adR fr ((mlook es d).getD z)) hd (hex _ h4) h (adR_rel h5) hK
   ·exact hK.elim
  ·have hx : v = .map none := hx; subst hx; obtain ⟨u, h4, h5⟩ := run_lookup_gen (P := P) (w := w) hmp hv (X := c.Y true) (b := none) (ents := []) (es := []) rfl .nil (fun p hp => by cases hp) comma
   cases comma with
   | true => exact sim_val (r := .t [adA true z, .c (.b false)]) hd (hex _ h4) h ⟨_, rfl, .cons (adA_rel h5) (.cons rfl .nil)⟩ hK
   | false => exact sim_val (r := adR true z) hd (hex _ h4) h (adR_rel h5) hK
  ·exact hK.elim
 ·exact hK.elim
theorem hes_at {kk : Option IntKind} {es : List (D × AD)} (hes : ∀ p ∈ es, keyOk kk p.1 = true) {i : Nat} {p : D × AD} (h : es[i]? = some p) : keyOk kk p.1 = true := hes p (List.mem_of_getElem? h)
theorem ext_set {w0 w : World} {b : Nat} (h : Ext w0 w) (hb : w0.heap.size ≤ b) (o : Obj) : Ext w0 (setBlock w b o) := by
 refine Below.trans h ⟨rfl, rfl, rfl, by simp [setBlock], fun k hk => ?_⟩
 have : b ≠ k := by omega
 simp [setBlock, this]
theorem set_same {b : Nat} {o o' : Obj} (h : w.heap[b]? = some o) : (setBlock w b o').heap[b]? = some o' := by
 have := lt_of_some h; simp [setBlock, this]
theorem set_other {b k : Nat} {o' : Obj} (h : k ≠ b) : (setBlock w b o').heap[k]? = w.heap[k]? := by simp [setBlock, Ne.symm h]
theorem toList_modify_set {ents : Array MapEntry} {i : Nat} {e e' : MapEntry} {f : MapEntry → MapEntry} (h : ents[i]? = some e) (hf : f e = e') : (ents.modify i f).toList = ents.toList.set i e' := by
 have hlt : i < ents.size := (Array.getElem?_eq_some_iff.1 h).1
 apply List.ext_getElem?
 intro j; simp only [Array.getElem?_toList, Array.getElem?_modify, List.getElem?_set]
 by_cases hij : i = j
 ·subst hij; have he : ents[i] = e := (Array.getElem?_eq_some_iff.1 h).2; simp [he, hf, hlt]
 ·simp [hij]
def putE (ents : List MapEntry) (i : Nat) (v u : Value) : List MapEntry := if i < ents.length then ents.set i { key := v, val := u, born := i } else ents ++ [{ key := v, val := u, born := ents.length }]
theorem born_at {ents : List MapEntry} (hbo : ents.map (·.born) = List.range ents.length) {i : Nat} (h : i < ents.length) : ents[i].born = i := by
 have h1 : (ents.map (·.born))[i]? = (List.range ents.length)[i]? := by rw [hbo]
 simpa [h] using h1
theorem born_set {ents : List MapEntry} (hbo : ents.map (·.born) = List.range ents.length) {i : Nat} {e : MapEntry} (he : e.born = i) : (ents.set i e).map (·.born) = List.range (ents.set i e).length := by
 rw [List.map_set, hbo, List.length_set, he]
 apply List.ext_getElem?
 intro j; simp only [List.getElem?_set, List.length_range]
 by_cases hij : i = j
 ·subst hij; rw [if_pos rfl]
  by_cases hl : i < ents.length
  ·rw [if_pos hl, List.getElem?_eq_getElem (by simpa using hl)]; simp
  ·rw [if_neg hl, List.getElem?_eq_none (by simpa using hl)]
 ·simp [hij]
theorem key_set {kk : Option IntKind} {es : List (D × AD)} {i : Nat} {q : D × AD} (hes : ∀ p ∈ es, keyOk kk p.1 = true) (hq : keyOk kk q.1 = true) : ∀ p ∈ es.set i q, keyOk kk p.1 = true := fun p hp =>
 (List.mem_or_eq_of_mem_set hp).elim (hes p) fun e => e ▸ hq
theorem putE_rel {X : Nat → Prop} {kk : Option IntKind} {ents : List MapEntry} {es : List (D × AD)} {v u : Value} {d : D} {x : AD} (hF : F2 (EntR w X) ents es) (hbo : ents.map (·.born) = List.range ents.length) (hes : ∀ p ∈ es, keyOk kk p.1 = true) (hok : keyOk kk d = true) (hv : Rp w X v d) (hu : RelD w X u x) :
  F2 (EntR w X) (putE ents (midx es d) v u) (mput es d x) ∧ (putE ents (midx es d) v u).map (·.born) = List.range (putE ents (midx es d) v u).length ∧ ∀ p ∈ mput es d x, keyOk kk p.1 = true := by
 have hl := forall2_len hF; unfold putE mput
 by_cases hlt : midx es d < es.length
 ·rw [if_pos (by omega), if_pos hlt]; exact ⟨forall2_set _ hF ⟨hv, hu⟩, born_set hbo rfl, key_set hes hok⟩
 ·rw [if_neg (by omega), if_neg hlt]; refine ⟨forall2_app hF (.cons ⟨hv, hu⟩ .nil), ?_, fun p hp => ?_⟩
  ·simp [hbo, List.range_succ]
  ·rcases List.mem_append.1 hp with hp | hp
   ·exact hes p hp
   ·simp only [List.mem_singleton] at hp; subst hp; exact hok
theorem key_at {kk : Option IntKind} {X : Nat → Prop} {v : Value} {d : D} (hv : KeyV kk v d) {ents : List MapEntry} {es : List (D × AD)} (hF : F2 (EntR w X) ents es) (hes : ∀ p ∈ es, keyOk kk p.1 = true) (h : midx es d < es.length) (h' : midx es d < ents.length) : ents[midx es d].key = v :=
 (dEq_same hv (keyV_of (forall2_get hF _ h' h).1 (hes _ (List.getElem_mem h))) (midx_key h)).1.symm
theorem run_update_gen {T : TypeId} {kk : Option IntKind} {z : AD} (hmp : mapP P T = some (kk, z)) {v : Value} {d : D} (hv : KeyV kk v d) {X : Nat → Prop} {r : Nat} {ents : Array MapEntry} {es : List (D × AD)} (hb : w.heap[r]? = some (.map ents ents.size)) (hF : F2 (EntR w X) ents.toList es) (hes : ∀ p ∈ es, keyOk kk p.1 = true) (hbo : ents.toList.map (·.born) = List.range ents.size) (u : Value) :
  ∃ ents' : Array MapEntry, ents'.toList = putE ents.toList (midx es d) v u ∧ (Instr.mapUpdate T (.map (some r)) v u).run P w = .ok () (setBlock w r (.map ents' ents'.size)) := by
 obtain ⟨key, elem, i, zv, hT, hkd, hi, hz, hzv⟩ := mapP_spec hmp; have hfn := findNow_eq hv 0 hF hes; have hck := run_checkKey (P := P) (w := w) hkd hv.isKey false 9999; have hl := forall2_len hF; simp only [Array.length_toList] at hl
 by_cases hlt : midx es d < es.length
 ·have hlt' : midx es d < ents.size := by omega
  have hge : ents[midx es d]? = some ents[midx es d] := Array.getElem?_eq_getElem hlt'; have hkey : ents[midx es d].key = v := key_at hv hF hes hlt (by simpa using hlt'); have hborn : ents[midx es d].born = midx es d := born_at (ents := ents.toList) (by simpa using hbo) (i := midx es d) (by simpa using hlt')
  have hfn' : Instr.findNow (kdesc kk) v ents.toList 0 = some (some (midx es d, ents[midx es d].val)) := by rw [hfn]; simp [hge]
  have hfk := run_findKey (P := P) (w := w) hkd hfn'; refine ⟨ents.modify (midx es d) (fun e => { e with key := v, val := u }), ?_, ?_⟩
  ·rw [toList_modify_set hge rfl, putE, if_pos (by simpa using hlt'), hborn]
  ·simp only [Instr.mapUpdate, Sem.run_bind, run_underlying hT, Result.andThen_ok, MapKept.run_getObj_map hb, hck, hfk, hge, Option.map_some, Option.getD_some, hkey, run_keyThatStays hv.isKey, run_setObj_map _ hb, setBlock, Array.size_modify]
 ·have hge : ents[midx es d]? = none := Array.getElem?_eq_none (by omega)
  have hfn' : Instr.findNow (kdesc kk) v ents.toList 0 = some none := by rw [hfn]; simp [hge]
  have hfk := run_findKey (P := P) (w := w) hkd hfn'; refine ⟨ents.push { key := v, val := u, born := ents.size }, ?_, ?_⟩
  ·rw [putE, if_neg (by simp; omega)]; simp
  ·simp only [Instr.mapUpdate, Sem.run_bind, run_underlying hT, Result.andThen_ok, MapKept.run_getObj_map hb, hck, hfk, run_setObj_map _ hb, setBlock, Array.size_push]
theorem run_entry_gen {T : TypeId} {kk : Option IntKind} {z : AD} (hmp : mapP P T = some (kk, z)) {v : Value} {d : D} (hv : KeyV kk v d) {X : Nat → Prop} {r : Nat} {ents : Array MapEntry} {es : List (D × AD)} (hb : w.heap[r]? = some (.map ents ents.size)) (hF : F2 (EntR w X) ents.toList es) (hes : ∀ p ∈ es, keyOk kk p.1 = true) (hbo : ents.toList.map (·.born) = List.range ents.size) :
  ∃ (ents' : Array MapEntry) (u : Value), ents'.toList = putE ents.toList (midx es d) v u ∧ RelD w X u ((mlook es d).getD z) ∧ (Instr.mapEntry T (.map (some r)) v).run P w = .ok (.tuple #[u, .int .i64 (midx es d)]) (setBlock w r (.map ents' ents'.size)) := by
 obtain ⟨key, elem, i, zv, hT, hkd, hi, hz, hzv⟩ := mapP_spec hmp; have hfn := findNow_eq hv 0 hF hes; have hck := run_checkKey (P := P) (w := w) hkd hv.isKey false 9999; have hl := forall2_len hF; simp only [Array.length_toList] at hl
 have hzr : (zeroValue elem).run P w = .ok zv w := by simp [zeroValue, typeInfo, hi, hz]
 by_cases hlt : midx es d < es.length
 ·have hlt' : midx es d < ents.size := by omega
  have hge : ents[midx es d]? = some ents[midx es d] := Array.getElem?_eq_getElem hlt'; have hkey : ents[midx es d].key = v := key_at hv hF hes hlt (by simpa using hlt'); have hborn : ents[midx es d].born = midx es d := born_at (ents := ents.toList) (by simpa using hbo) (i := midx es d) (by simpa using hlt')
  have hfn' : Instr.findNow (kdesc kk) v ents.toList 0 = some (some (midx es d, ents[midx es d].val)) := by rw [hfn]; simp [hge]
  have hfk := run_findKey (P := P) (w := w) hkd hfn'
  have hml : mlook es d = some es[midx es d].2 := by rw [mlook_idx, List.getElem?_eq_getElem hlt]; rfl
  refine ⟨ents.modify (midx es d) (fun e => { e with key := v }), ents[midx es d].val, ?_, ?_, ?_⟩
  ·rw [toList_modify_set hge rfl, putE, if_pos (by simpa using hlt'), hborn]
  ·rw [hml]; exact (forall2_get hF (midx es d) (by simpa using hlt') hlt).2
  ·simp only [Instr.mapEntry, Sem.run_bind, run_underlying hT, Result.andThen_ok, MapKept.run_getObj_map hb, hck, hfk, hge, Option.map_some, Option.getD_some, hkey, hborn, run_keyThatStays hv.isKey, run_setObj_map _ hb, setBlock, Array.size_modify, Sem.run_pure, goInt]
 ·have hge : ents[midx es d]? = none := Array.getElem?_eq_none (by omega)
  have hfn' : Instr.findNow (kdesc kk) v ents.toList 0 = some none := by rw [hfn]; simp [hge]
  have hfk := run_findKey (P := P) (w := w) hkd hfn'
  have hml : mlook es d = none := by rw [mlook_idx, List.getElem?_eq_none (by omega)]; rfl
  have hmi : midx es d = ents.size := by have := midx_le es d; omega
  refine ⟨ents.push { key := v, val := zv, born := ents.size }, zv, ?_, ?_, ?_⟩
  ·rw [putE, if_neg (by simp; omega)]; simp
  ·rw [hml]; exact vAD_rel hzv
  ·simp only [Instr.mapEntry, Sem.run_bind, run_underlying hT, Result.andThen_ok, MapKept.run_getObj_map hb, hck, hfk, hzr, run_setObj_map _ hb, setBlock, Array.size_push, Sem.run_pure, goInt, hmi]
theorem run_estore_gen {T : TypeId} {r : Nat} {ents : Array MapEntry} (hb : w.heap[r]? = some (.map ents ents.size)) (hbo : ents.toList.map (·.born) = List.range ents.size) {n : Nat} (hn : n < ents.size) (u : Value) :
  ∃ ents' : Array MapEntry, ents'.toList = ents.toList.set n { key := ents[n].key, val := u, born := n } ∧ (Instr.entryStore T (.map (some r)) (.int .i64 n) u).run P w = .ok () (setBlock w r (.map ents' ents'.size)) := by
 have hge : ents[n]? = some ents[n] := Array.getElem?_eq_getElem hn
 have hborn : ∀ j (h : j < ents.size), ents[j].born = j := fun j h => born_at (ents := ents.toList) (by simpa using hbo) (i := j) (by simpa using h)
 have hf : ents.findIdx? (fun e => (e.born : Int) == (n : Int)) = some n := by
  rw [Array.findIdx?_eq_some_iff_getElem]; refine ⟨hn, by simp [hborn n hn], fun j hj => ?_⟩; have := hborn j (by omega)
  simp [this]; omega
 refine ⟨ents.modify n (fun e => { e with val := u }), ?_, ?_⟩
 ·rw [toList_modify_set hge rfl, hborn n hn]
 ·simp only [Instr.entryStore, Sem.run_bind, MapKept.run_getObj_map hb, Result.andThen_ok, asInt, asIntOf, Sem.run_pure, hf, run_setObj_map _ hb, setBlock, Array.size_modify]
theorem RelX.mapSet (h : RelX w0 c S a w) {k : Nat} {fr fr' : Bool} {kk : Option IntKind} {es es' : List (D × AD)} (hm : mat S.m k = some (.m fr kk es)) (hit : freeIt S.m k) {ents' : Array MapEntry} (hbo : ents'.toList.map (·.born) = List.range ents'.size)
  (hF : F2 (EntR w (c.Y fr')) ents'.toList es') (hes : ∀ p ∈ es', keyOk kk p.1 = true) : RelX w0 ⟨c.β, fun j => if j = k then encM ents'.toList ents'.size else c.ρ j, c.X, c.n0⟩ ⟨S.n, S.f, mset S.m k (.m fr' kk es')⟩ a (setBlock w (c.β k) (.map ents' ents'.size)) := by
 obtain ⟨h1, h2, ents, h3, _⟩ := h.mem k _ hm; refine h.upd hm (fun j hj => by simp [hj]) trivial (fun _ _ _ _ _ _ _ _ e => by cases e) (ext_set h.ext (by rw [← h.n0]; exact h1) _) (by simp [setBlock]) (fun b _ hne => set_other fun e => hne (by rw [e]; rfl)) (fun b hb => .inl hb) (fun hmon => ⟨h1, h2, ents', set_same h3, by simp, ?_, hbo, hes⟩) (fun _ => .inr fun j fr rem la hj => by have := hit j _ hj; simp [itOn] at this); exact forall2_mono (fun _ _ r => (r.keep fun b hb hl => hmon.k b hb.1 hl).widen fun b hb _ => hmon.y hb) hF
theorem sim_upd (h : RelX w0 c S a w) (hd : o.dst = none) (T : TypeId) (x y z : Operand) (ho : o.op = .mapUpdate T x y z) (hK : updK (mapP P T) S.m K (ez S x) (ez S y) (ez S z)) : o.wp P a w (fun a' w' => ∃ r m', K r m' ∧ Rel w0 (S.put o.dst r m') a' w') Q := by
 have hx := h.evs x; have hy := h.evs y; have hz := h.evs z
 have hex : ∀ w', (Instr.mapUpdate T (a.eval x) (a.eval y) (a.eval z)).run P w = .ok () w' → (execOp a.eval o).run P w = .ok .skip w' := fun w' hv => by
  simp only [execOp, ho, Sem.run_bind, hv, Result.andThen_ok, Sem.run_pure]
 generalize ez S x = r at hx hK; generalize ez S y = r2 at hy hK; generalize ez S z = r3 at hz hK; generalize a.eval x = v at hx hex; generalize a.eval y = v2 at hy hex; generalize a.eval z = v3 at hz hex; unfold updK at hK
 split at hK
 ·rename_i kk zz d f u hmp hkd hvd
  obtain ⟨hok, hK⟩ := hK; have hv := keyD_rel hy hkd hok
  split at hK
  ·rename_i k
   split at hK
   ·rename_i fr kk' es hm
    obtain ⟨rfl, hit, hK⟩ := hK; obtain ⟨rfl, _⟩ := hx; obtain ⟨h1, h2, ents, h3, h4, h5, h6, h7⟩ := h.mem k _ hm; obtain ⟨ents', e1, e2⟩ := run_update_gen (P := P) (w := w) hmp hv h3 h5 h7 h6 v3; have h5' : F2 (EntR w (c.Y (fr && f))) ents.toList es := forall2_mono (fun _ _ r => r.le (by simp; exact fun h _ => h)) h5; obtain ⟨q1, q2, q3⟩ := putE_rel h5' (by simpa using h6) h7 hok hv.rp ((valD_rel hz hvd).le (by simp)); rw [← e1] at q1 q2; exact sim_skip hd (hex _ e2) (h.mapSet hm hit (by simpa using q2) q1 q3) hK
   ·exact hK.elim
  ·exact hK.elim
 ·exact hK.elim
theorem midx_int {es : List (D × AD)} (h : es.length < 9223372036854775807) (d : D) : IntKind.i64.min ≤ (midx es d : Int) ∧ (midx es d : Int) ≤ IntKind.i64.max := by
 have := midx_le es d
 have e1 : IntKind.i64.min = -9223372036854775808 := by decide
 have e2 : IntKind.i64.max = 9223372036854775807 := by decide
 omega
theorem sim_ent (h : RelX w0 c S a w) (hd : ∀ t, o.dst = some t → t < S.n) (T : TypeId) (x y : Operand) (ho : o.op = .mapEntry T x y) (hK : entK (mapP P T) S.m K (ez S x) (ez S y)) : o.wp P a w (fun a' w' => ∃ r m', K r m' ∧ Rel w0 (S.put o.dst r m') a' w') Q := by
 have hx := h.evs x; have hy := h.evs y
 have hex : ∀ v w', (Instr.mapEntry T (a.eval x) (a.eval y)).run P w = .ok v w' → (execOp a.eval o).run P w = .ok (.value v) w' := fun v w' hv => by
  simp only [execOp, ho, Sem.run_bind, hv, Result.andThen_ok, Sem.run_pure]
 generalize ez S x = r at hx hK; generalize ez S y = r2 at hy hK; generalize a.eval x = v at hx hex; generalize a.eval y = v2 at hy hex; unfold entK at hK
 split at hK
 ·rename_i kk zz d hmp hkd
  obtain ⟨hok, hK⟩ := hK; have hv := keyD_rel hy hkd hok
  split at hK
  ·rename_i k
   split at hK
   ·rename_i fr kk' es hm
    obtain ⟨rfl, hit, hle, hK⟩ := hK; obtain ⟨rfl, _⟩ := hx; obtain ⟨h1, h2, ents, h3, h4, h5, h6, h7⟩ := h.mem k _ hm; obtain ⟨ents', u, e1, e0, e2⟩ := run_entry_gen (P := P) (w := w) hmp hv h3 h5 h7 h6; obtain ⟨q1, q2, q3⟩ := putE_rel h5 (by simpa using h6) h7 hok hv.rp e0; rw [← e1] at q1 q2; have hS := h.mapSet hm hit (by simpa using q2) q1 q3; refine sim_val (r := .t [adA fr ((mlook es d).getD zz), .c (.i .i64 (midx es d : Int))]) hd (hex _ _ e2) hS ⟨_, rfl, .cons (adA_rel ?_) (.cons ⟨rfl, midx_int hle d⟩ .nil)⟩ hK
    refine (e0.keep fun b hb hl => ?_).widen fun b hb _ => hb
    exact set_other fun e : b = c.β k => h2 (by rw [← e]; exact hb.1)
   ·exact hK.elim
  ·exact hK.elim
 ·exact hK.elim
theorem sim_est (h : RelX w0 c S a w) (hd : o.dst = none) (T : TypeId) (x y z : Operand) (ho : o.op = .entryStore T x y z) (hK : estK S.m K (ez S x) (ez S y) (ez S z)) : o.wp P a w (fun a' w' => ∃ r m', K r m' ∧ Rel w0 (S.put o.dst r m') a' w') Q := by
 have hx := h.evs x; have hy := h.evs y; have hz := h.evs z
 have hex : ∀ w', (Instr.entryStore T (a.eval x) (a.eval y) (a.eval z)).run P w = .ok () w' → (execOp a.eval o).run P w = .ok .skip w' := fun w' hv => by
  simp only [execOp, ho, Sem.run_bind, hv, Result.andThen_ok, Sem.run_pure]
 generalize ez S x = r at hx hK; generalize ez S y = r2 at hy hK; generalize ez S z = r3 at hz hK; generalize a.eval x = v at hx hex; generalize a.eval y = v2 at hy hex; generalize a.eval z = v3 at hz hex; unfold estK at hK
 split at hK
 ·rename_i k n f u hvd
  obtain ⟨hit, hK⟩ := hK
  split at hK
  ·rename_i fr kk es hm
   obtain ⟨hn0, hK⟩ := hK
   split at hK
   ·rename_i p hp
    obtain ⟨rfl, _⟩ := hx; obtain ⟨rfl, _⟩ := hy; obtain ⟨h1, h2, ents, h3, h4, h5, h6, h7⟩ := h.mem k _ hm; obtain ⟨hlt, hpe⟩ := List.getElem?_eq_some_iff.1 hp; have hl := forall2_len h5; simp only [Array.length_toList] at hl; obtain ⟨ents', e1, e2⟩ := run_estore_gen (P := P) (w := w) (T := T) h3 h6 (n := n.toNat) (by omega) v3
    have hnn : (n.toNat : Int) = n := by omega
    rw [hnn] at e2; have h5' : F2 (EntR w (c.Y (fr && f))) ents.toList es := forall2_mono (fun _ _ r => r.le (by simp; exact fun h _ => h)) h5; have hke := (forall2_get h5' n.toNat (by simpa using (by omega : n.toNat < ents.size)) hlt).1; rw [hpe] at hke
    have q1 : F2 (EntR w (c.Y (fr && f))) ents'.toList (es.set n.toNat (p.1, u)) := by
     rw [e1]; exact forall2_set _ h5' ⟨hke, (valD_rel hz hvd).le (by simp)⟩
    refine sim_skip hd (hex _ e2) (h.mapSet hm hit ?_ q1 (key_set h7 (q := (p.1, u)) (hes_at (p := p) h7 hp))) hK; rw [e1]; have := born_set (ents := ents.toList) (by simpa using h6) (i := n.toNat) (e := { key := ents[n.toNat].key, val := v3, born := n.toNat }) rfl; rw [← e1] at this; rw [← e1]
    simpa using this
   ·exact hK.elim
  ·exact hK.elim
 ·exact hK.elim
theorem sim_rng (h : RelX w0 c S a w) (hd : ∀ t, o.dst = some t → t < S.n) (T : TypeId) (x : Operand) (ho : o.op = .range T x) (hK : rngK o.dst (mapP P T).isSome S.m K (ez S x)) : o.wp P a w (fun a' w' => ∃ r m', K r m' ∧ Rel w0 (S.put o.dst r m') a' w') Q := by
 have hx := h.evs x
 have hex : ∀ v w', (Instr.range T (a.eval x)).run P w = .ok v w' → (execOp a.eval o).run P w = .ok (.value v) w' := fun v w' hv => by
  simp only [execOp, ho, Sem.run_bind, hv, Result.andThen_ok, Sem.run_pure]
 generalize ez S x = r at hx hK; generalize a.eval x = v at hx hex; unfold rngK at hK
 split at hK
 ·rename_i j k hdj
  split at hK
  ·rename_i fr kk es hm
   obtain ⟨hsm, hj, hjk, hK⟩ := hK; obtain ⟨⟨kk0, z0⟩, hmp⟩ := Option.isSome_iff_exists.1 hsm; obtain ⟨key, elem, i, zv, hT, _⟩ := mapP_spec hmp; obtain ⟨rfl, _⟩ := hx; obtain ⟨h1, h2, ents, h3, h4, h5, h6, h7⟩ := h.mem k _ hm
   have hrun : (Instr.range T (.map (some (c.β k)))).run P w = .ok (.pointer (some ⟨w.heap.size, 0, none⟩)) (w.alloc (.mapIter (some (c.β k)) ents.size #[] ents.size)) := by
    simp [Instr.range, run_underlying hT, MapKept.run_getObj_map h3, Result.andThen]
   refine sim_val (r := .c (.t j)) hd (hex _ _ hrun) (h.new (ob := .it fr k es none) (β' := fun t => if t = j then w.heap.size else c.β t) (ρ' := c.ρ) hj (fun t ht => by simp [ht]) (fun _ _ => rfl) ((Ext.refl w).alloc _) (fun b hb => ?_) fun hmon => ?_) ⟨by simp, _, _, _, _, by simp [mat]; exact ⟨rfl, rfl, rfl, rfl⟩⟩ hK
   ·simp [blk] at hb; omega
   ·refine ⟨by simp [h.n0]; exact h.ext.size, by simp; intro hX; have := h.xl _ hX; omega, ⟨fr, kk, es, by rw [mat, if_neg hjk]; exact hm⟩, ents.toList, ents.size, #[], ?_, h4, ?_, fun p hp => by cases hp⟩
    ·simp only [if_true, if_neg (Ne.symm hjk)]; exact heap_alloc_new w _
    ·rw [List.filter_eq_self.2 (by simp)]; exact forall2_mono (fun _ _ r => (r.keep fun b hb hl => hmon.k b hb.1 hl).widen fun b hb _ => hmon.y hb) h5
  ·exact hK.elim
 ·exact hK.elim
theorem filter_ne {A B : List MapEntry} {e : MapEntry} (hn : ((A ++ e :: B).map (·.born)).Nodup) : (A ++ e :: B).filter (fun x => x.born != e.born) = A ++ B := by
 rw [List.map_append, List.map_cons, List.nodup_append] at hn; obtain ⟨_, h2, h3⟩ := hn; rw [List.nodup_cons] at h2; rw [List.filter_append, List.filter_cons]
 have e1 : A.filter (fun x => x.born != e.born) = A := List.filter_eq_self.2 fun x hx => by
  have := h3 x.born (List.mem_map.2 ⟨x, hx, rfl⟩) e.born List.mem_cons_self
  simpa using this
 have e2 : B.filter (fun x => x.born != e.born) = B := List.filter_eq_self.2 fun x hx => by
  have : x.born ≠ e.born := fun q => h2.1 (List.mem_map.2 ⟨x, hx, q⟩)
  simpa using this
 rw [e1, e2]; simp
theorem filter_push {L A B : List MapEntry} {e : MapEntry} {seen : Array Nat} (hn : (L.map (·.born)).Nodup) (h : (L.filter fun e => !seen.contains e.born) = A ++ e :: B) : (L.filter fun x => !(seen.push e.born).contains x.born) = A ++ B := by
 have h1 : (L.filter fun x => !(seen.push e.born).contains x.born) = (L.filter fun e => !seen.contains e.born).filter fun x => x.born != e.born := by
  rw [List.filter_filter]
  congr 1
  funext x
  rw [Array.contains_push, Bool.not_or, Bool.and_comm]
  congr 1
 rw [h1, h]; refine filter_ne ?_; rw [← h]; exact (List.filter_sublist.map _).nodup hn
theorem forall2_split {α β : Type} {R : α → β → Prop} {e : α} {B : List α} : ∀ {A : List α} {m : List β}, F2 R (A ++ e :: B) m → ∃ l1 p l2, m = l1 ++ p :: l2 ∧ F2 R A l1 ∧ R e p ∧ F2 R B l2
 | [], _, .cons h1 h2 => ⟨[], _, _, rfl, .nil, h1, h2⟩
 | _ :: _, _, .cons h1 h2 => let ⟨l1, p, l2, e1, e2, e3, e4⟩ := forall2_split h2; ⟨_ :: l1, p, l2, by rw [e1]; rfl, .cons h1 e2, e3, e4⟩
theorem born_lt {ents : List MapEntry} {n : Nat} (hbo : ents.map (·.born) = List.range n) : ∀ x ∈ ents, x.born < n := fun x hx => by
 have : x.born ∈ ents.map (·.born) := List.mem_map.2 ⟨x, hx, rfl⟩; rw [hbo] at this
 simpa using this
theorem sim_nxt (h : RelX w0 c S a w) (hd : ∀ t, o.dst = some t → t < S.n) (x : Operand) (ho : o.op = .next x false) (hK : nxtK S.m K (ez S x)) : o.wp P a w (fun a' w' => ∃ r m', K r m' ∧ Rel w0 (S.put o.dst r m') a' w') Q := by
 have hx := h.evs x
 have hex : ∀ v w', (Instr.next (a.eval x) false o.type).run P w = .ok v w' → (execOp a.eval o).run P w = .ok (.value v) w' := fun v w' hv => by
  simp only [execOp, ho, Sem.run_bind, hv, Result.andThen_ok, Sem.run_pure]
 generalize ez S x = r at hx hK; generalize a.eval x = v at hx hex; unfold nxtK at hK
 split at hK
 ·rename_i j
  split at hK
  ·rename_i fr k rem la hm
   obtain ⟨rfl, _⟩ := hx; obtain ⟨h1, h2, ⟨fr0, kk0, es0, h0⟩, entsL, clock, seen, h3, h4, h5, h6⟩ := h.mem j _ hm; obtain ⟨g1, g2, ents, g3, g4, g5, g6, g7⟩ := h.mem k _ h0; rw [g4] at h4; obtain ⟨e1, e2⟩ := encM_inj h4
   subst e1; subst e2
   have hkj : k ≠ j := fun e => by rw [e, hm] at h0; cases h0
   have hlo : (leftOf ents seen).toList = ents.toList.filter fun e => !seen.contains e.born := by simp [leftOf]
   rcases run_next_at (P := P) w o.type (c.β j) (c.β k) ents.size ents.size seen ents ents.size h3 g3 (born_lt g6) (Nat.le_refl _) with ⟨e1, e2⟩ | ⟨e, he, w1, hw1, e2⟩
   ·have hr : rem = [] := by
     have h7 := forall2_len h5; rw [← hlo, Array.length_toList, e1] at h7; exact List.eq_nil_of_length_eq_zero h7.symm
    exact sim_val (r := .t [.c (.b false)]) hd (hex _ _ e2) h ⟨_, rfl, .cons rfl .nil⟩ (hK.1 hr)
   ·rw [hlo] at he; obtain ⟨A, B, hAB⟩ := List.append_of_mem he; rw [hAB] at h5; obtain ⟨l1, p, l2, q1, q2, q3, q4⟩ := forall2_split h5; have hK := hK.2 p l1 l2 q1
    have hh : w1.heap = w.heap := by rcases hw1 with e | e <;> rw [e] <;> rfl
    have hE : Ext w0.w w1 := by
     rcases hw1 with e | e <;> rw [e]
     ·exact h.ext
     ·exact h.ext.drew
    have hrp : ∀ b, c.Y fr b → b < w.heap.size → (setBlock w1 (c.β j) (.mapIter (some (c.β k)) ents.size (seen.push e.born) ents.size)).heap[b]? = w.heap[b]? := fun b hb _ => by
     rw [set_other (fun e : b = c.β j => h2 (by rw [← e]; exact hb.1)), hh]
    have hS := h.upd (ob' := .it fr k (l1 ++ l2) (some p)) (w' := setBlock w1 (c.β j) (.mapIter (some (c.β k)) ents.size (seen.push e.born) ents.size)) (ρ' := c.ρ) hm (fun _ _ => rfl) rfl (fun _ _ _ _ _ _ _ _ e => by cases e) (ext_set hE (by rw [← h.n0]; exact h1) _) (by simp [setBlock, hh]) (fun b _ hne => by rw [set_other fun e => hne (by rw [e]; rfl), hh]) (fun b hb => .inl hb) fun hmon => ⟨h1, h2, ⟨fr0, kk0, es0, by rw [mat_set_other hkj]; exact h0⟩, ents.toList, ents.size, seen.push e.born, set_same (o := .mapIter (some (c.β k)) ents.size seen ents.size) (by rw [hh]; exact h3), g4, by
      rw [filter_push (by rw [g6]; exact List.nodup_range) hAB]
      exact forall2_mono (fun _ _ r => r.keep hrp) (forall2_app q2 q4), fun p' hp' => ?_⟩
    ·exact sim_val (r := .t [.c (.b true), adA fr (.c p.1), adA fr p.2]) hd (hex _ _ e2) hS ⟨_, rfl, .cons rfl (.cons (adA_rel (z := .c p.1) (q3.1.keep hrp)) (.cons (adA_rel (q3.2.keep hrp)) .nil))⟩ hK
    ·injection hp' with hp'
     subst hp'; exact ⟨e, (List.mem_filter.1 he).1, by simp, q3.keep hrp⟩
  ·exact hK.elim
 ·exact hK.elim
theorem sim_ry (h : RelX w0 c S a w) (hd : ∀ t, o.dst = some t → t < S.n) (x : Operand) (ho : o.op = .entry x) (hK : ryK S.m K (ez S x)) : o.wp P a w (fun a' w' => ∃ r m', K r m' ∧ Rel w0 (S.put o.dst r m') a' w') Q := by
 have hx := h.evs x
 have hex : ∀ v w', (Instr.entry (a.eval x)).run P w = .ok v w' → (execOp a.eval o).run P w = .ok (.value v) w' := fun v w' hv => by
  simp only [execOp, ho, Sem.run_bind, hv, Result.andThen_ok, Sem.run_pure]
 generalize ez S x = r at hx hK; generalize a.eval x = v at hx hex; unfold ryK at hK
 split at hK
 ·rename_i j
  split at hK
  ·rename_i fr k rem p hm
   obtain ⟨rfl, _⟩ := hx; obtain ⟨h1, h2, ⟨fr0, kk0, es0, h0⟩, entsL, clock, seen, h3, h4, h5, h6⟩ := h.mem j _ hm; obtain ⟨g1, g2, ents, g3, g4, g5, g6, g7⟩ := h.mem k _ h0; rw [g4] at h4; obtain ⟨e1, e2⟩ := encM_inj h4
   subst e1; subst e2
   obtain ⟨e, he, hbk, hE⟩ := h6 p rfl; obtain ⟨s, rfl⟩ := Array.back?_eq_some_iff.1 hbk; have hrun := run_entry_at (P := P) w (c.β j) (c.β k) ents.size s ents ents.size e h3 g3 he (by rw [g6]; exact List.nodup_range); exact sim_val (r := .t [adA fr (.c p.1), adA fr p.2]) hd (hex _ _ hrun) h ⟨_, rfl, .cons (adA_rel (z := .c p.1) hE.1) (.cons (adA_rel hE.2) .nil)⟩ hK
  ·exact hK.elim
 ·exact hK.elim
end

end Go.Proofs.YtbgifiijjjoebaaGreatDoor
