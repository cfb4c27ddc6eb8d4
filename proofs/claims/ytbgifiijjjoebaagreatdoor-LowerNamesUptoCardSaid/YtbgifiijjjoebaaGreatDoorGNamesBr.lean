/- What one operation does to the machine's memory (VIII): maps. No conditions. -/
import Derived.Test.YtbgifiijjjoebaaGreatDoorGNamesBq
import Derived.MapKept
import Derived.Maps.RangeRun
namespace Go.Proofs.YtbgifiijjjoebaaGreatDoor.Cm
open Go Go.RowKit
open Go.MapKept (IsKey run_findKey run_checkKey run_keyThatStays run_setObj_map)
open Go.ChangeMaps (setBlock)

def kd : Option IntKind → TypeDesc
 | some k => .int k
 | none => .string
theorem set_same {w : World} {b : Nat} {o o' : Obj} (h : w.heap[b]? = some o) : (setBlock w b o').heap[b]? = some o' := by
 have := lt_of_some h; simp [setBlock, this]
theorem set_other {w : World} {b k : Nat} {o' : Obj} (h : k ≠ b) : (setBlock w b o').heap[k]? = w.heap[k]? := by simp [setBlock, Ne.symm h]
theorem toList_modify_set {ents : Array MapEntry} {i : Nat} {e e' : MapEntry} {f : MapEntry → MapEntry} (h : ents[i]? = some e) (hf : f e = e') : (ents.modify i f).toList = ents.toList.set i e' := by
 have hlt : i < ents.size := (Array.getElem?_eq_some_iff.1 h).1
 apply List.ext_getElem?
 intro j; simp only [Array.getElem?_toList, Array.getElem?_modify, List.getElem?_set]
 by_cases hij : i = j
 ·subst hij; have he : ents[i] = e := (Array.getElem?_eq_some_iff.1 h).2; simp [he, hf, hlt]
 ·simp [hij]
theorem born_at {ents : List MapEntry} (hbo : ents.map (·.born) = List.range ents.length) {i : Nat} (h : i < ents.length) : ents[i].born = i := by
 have h1 : (ents.map (·.born))[i]? = (List.range ents.length)[i]? := by rw [hbo]
 simpa [h] using h1
theorem born_set {ents : List MapEntry} (hbo : ents.map (·.born) = List.range ents.length) {i : Nat} {e : MapEntry} (he : e.born = i) : (ents.set i e).map (·.born) = List.range (ents.set i e).length := by
 rw [List.map_set, hbo, List.length_set, he]
 apply List.ext_getElem?
 intro j; simp only [List.getElem?_set, List.length_range]
 by_cases hij : i = j
 ·subst hij; rw [if_pos rfl]
  by_cases hl : i < ents.length
  ·rw [if_pos hl, List.getElem?_eq_getElem (by simpa using hl)]; simp
  ·rw [if_neg hl, List.getElem?_eq_none (by simpa using hl)]
 ·simp [hij]
theorem born_lt {ents : List MapEntry} {n : Nat} (hbo : ents.map (·.born) = List.range n) : ∀ x ∈ ents, x.born < n := fun x hx => by
 have : x.born ∈ ents.map (·.born) := List.mem_map.2 ⟨x, hx, rfl⟩; rw [hbo] at this
 simpa using this

section
variable {P : Program} {c : Cx} {N : Bp} {m : Mm} {w : World} {o : Oper} {a : Act} {f : Fm}
theorem sm2_is {x : Option (Option IntKind)} (h : sm2 x = true) : ∃ q, x = some q := by
 cases x with
 | none => cases h
 | some q => exact ⟨q, rfl⟩
theorem keyP_is {T : TypeId} {q : Option IntKind} (h : keyP P T = some q) : ∃ k e, P.underlying T = some (.map k e) ∧ P.underlying k = some (kd q) := by
 unfold keyP at h
 split at h
 ·rename_i k e h1
  split at h
  ·injection h with h; subst h; exact ⟨k, e, h1, ‹_›⟩
  ·injection h with h; subst h; exact ⟨k, e, h1, ‹_›⟩
  ·cases h
 ·cases h
theorem kOk_is {q : Option IntKind} {v : Value} {d : CV} (h : RC c N v d) (hk : kOk q d = true) : (∃ k n, q = some k ∧ d = .i k n ∧ v = .int k n) ∨ ∃ l, q = none ∧ d = .s l ∧ v = .string (mkS l) ∧ ∀ x ∈ l, x < 256 := by
 unfold kOk at hk
 split at hk
 ·rename_i k j n
  have : k = j := by
   have := Nat.eq_of_beq_eq_true hk
   cases k <;> cases j <;> first | rfl | (simp [kN] at this)
  subst this; exact .inl ⟨k, n, rfl, rfl, h⟩
 ·exact .inr ⟨_, rfl, rfl, h.1, h.2.2⟩
 ·cases hk
theorem kOk_key {q : Option IntKind} {v : Value} {d : CV} (h : RC c N v d) (hk : kOk q d = true) : IsKey (kd q) v := by
 rcases kOk_is h hk with ⟨k, n, rfl, rfl, rfl⟩ | ⟨l, rfl, rfl, rfl, _⟩
 ·rfl
 ·trivial
theorem mkS_inj_beq (x y : List Nat) : (mkS x == mkS y) = (x.map UInt8.ofNat == y.map UInt8.ofNat) := by
 rw [Bool.eq_iff_iff, MapKept.bytes_beq, beq_iff_eq]
 constructor
 ·intro h; have := congrArg (fun s => s.data.toList) h
  simpa [mkS] using this
 ·intro h; simp only [mkS, h]
theorem kEq_is {q : Option IntKind} {v u : Value} {d e : CV} {b : Bool} (h : RC c N v d) (hk : kOk q d = true) (h' : RC c N u e) (hb : kEq d e = some b) : Instr.sameNow (kd q) v u = some b ∧ (b = true → u = v) := by
 rcases kOk_is h hk with ⟨k, n, rfl, rfl, rfl⟩ | ⟨l, rfl, rfl, rfl, hl⟩
 ·cases e with
  | i j n' =>
   have h' : u = .int j n' := h'; subst h'
   replace hb : (bif Nat.beq (kN k) (kN j) then some (ieq n n') else none) = some b := hb
   cases hkj : Nat.beq (kN k) (kN j) with
   | false => rw [hkj] at hb; cases hb
   | true =>
    rw [hkj] at hb
    have : k = j := by
     have := Nat.eq_of_beq_eq_true hkj
     cases k <;> cases j <;> first | rfl | (simp [kN] at this)
    subst this
    injection hb with hb
    rw [ieq_is] at hb; subst hb; refine ⟨by simp [kd, Instr.sameNow]; rfl, fun hb => ?_⟩; rw [of_decide_eq_true hb]
  | _ => cases hb
 ·cases e with
  | s r =>
   obtain ⟨rfl, _, hr⟩ := h'
   injection hb with hb
   rw [lseq_is hl hr] at hb; subst hb; refine ⟨by simp only [kd, Instr.sameNow, mkS_inj_beq], fun hb => ?_⟩; rw [← mkS_inj_beq] at hb; rw [(MapKept.bytes_beq _ _).1 hb]
  | _ => cases hb
theorem look_is {q : Option IntKind} {v : Value} {d : CV} (hv : RC c N v d) (hk : kOk q d = true) : ∀ {ents : List MapEntry} {es : List (CV × AV)} (i : Nat) {j : Nat}, F2 (ER c N) ents es → look es d = some j →
  j ≤ es.length ∧ Instr.findNow (kd q) v ents i = some (ents[j]?.map fun e => (i + j, e.val)) ∧ ∀ h : j < ents.length, ents[j].key = v
 | [], [], i, j, _, hl => by
  have : j = 0 := (Option.some.inj hl).symm; subst this; exact ⟨Nat.le_refl _, rfl, fun h => absurd h (by simp)⟩
 | e :: ents, p :: es, i, j, .cons h1 h2, hl => by
  replace hl : lookS (look es d) (kEq d p.1) = some j := hl
  cases hb : kEq d p.1 with
  | none => rw [hb] at hl; cases hl
  | some b =>
   rw [hb] at hl; obtain ⟨q1, q2⟩ := kEq_is hv hk h1.1 hb
   cases b with
   | true =>
    have : j = 0 := (Option.some.inj hl).symm; subst this; refine ⟨Nat.zero_le _, by simp [Instr.findNow, q1], fun _ => q2 rfl⟩
   | false =>
    replace hl : suc? (look es d) = some j := hl
    cases hs : look es d with
    | none => rw [hs] at hl; cases hl
    | some j' =>
     rw [hs] at hl; have : j = j' + 1 := (Option.some.inj hl).symm; subst this; obtain ⟨g1, g2, g3⟩ := look_is hv hk (i + 1) h2 hs; refine ⟨Nat.succ_le_succ g1, ?_, fun h => by simpa using g3 (by simpa using h)⟩; simp only [Instr.findNow, q1, g2, List.getElem?_cons_succ, Option.some.injEq]
     congr 1
     funext e
     rw [Prod.mk.injEq]; exact ⟨by omega, rfl⟩
 | [], _ :: _, _, _, h, _ => nomatch h
 | _ :: _, [], _, _, h, _ => nomatch h
theorem mapZ_is {T : TypeId} {z : AV} (h : mapZ P T = some z) {k e : TypeId} (hT : P.underlying T = some (.map k e)) : ∃ zv : Value, (∀ w, (zeroValue e).run P w = .ok zv w) ∧ ∀ (c : Cx) (N : Bp), RA c N zv z := by
 unfold mapZ at h; rw [hT] at h; simp only [Option.bind_eq_some_iff] at h; obtain ⟨zv, ⟨i, hi, hzv⟩, hl⟩ := h; refine ⟨zv, fun w => by simp [zeroValue, typeInfo, hi, hzv], fun c N => ?_⟩
 have one : ((cCV zv).bind fun x => some (AV.c x)) = some z → RA c N zv z := fun hl => by
  obtain ⟨x, h1, h2⟩ := Option.bind_eq_some_iff.1 hl
  injection h2 with h2; subst h2
  exact cCV_rel h1
 cases zv with
 | agg vs =>
  obtain ⟨l, h1, h2⟩ := Option.bind_eq_some_iff.1 hl
  injection h2 with h2; subst h2
  exact ⟨vs, rfl, cCVs_rel h1⟩
 | _ => exact one hl
theorem run_look {T : TypeId} {q : Option IntKind} (hT : keyP P T = some q) {z : AV} (hz : mapZ P T = some z) {v : Value} {d : CV} (hv : RC c N v d) (hk : kOk q d = true) {b : Option Nat} {ents : List MapEntry} {es : List (CV × AV)} (hb : match b with | none => ents = [] | some r => ∃ q n, w.heap[r]? = some (.map q n) ∧ q.toList = ents)
  (hF : F2 (ER c N) ents es) {j : Nat} (hl : look es d = some j) (comma : Bool) : ∃ u, (Instr.lookup T (.map b) v comma).run P w = .ok u w ∧ RS c N u (lkV comma z (es[j]?)) := by
 obtain ⟨key, elem, h1, h2⟩ := keyP_is hT; obtain ⟨zv, h3, h4⟩ := mapZ_is hz h1; obtain ⟨g1, g2, g3⟩ := look_is hv hk 0 hF hl; have hfk := run_findKey (P := P) (w := w) h2 g2
 have hck := fun e => run_checkKey (P := P) (w := w) h2 (kOk_key hv hk) e 9999
 have hlen := forall2_len hF
 have out : ∀ (u : Value) (x : AV) (t : Bool), RA c N u x → RS c N (if comma then .tuple #[u, .bool t] else u) (lkR comma x t) := fun u x t hu => by
  cases comma with
  | true => exact ⟨_, rfl, .cons hu (.cons rfl .nil)⟩
  | false => exact toR_rel hu
 by_cases hlt : j < es.length
 ·have hge : ents[j]? = some ents[j] := List.getElem?_eq_getElem (by omega); refine ⟨if comma then .tuple #[ents[j].val, .bool true] else ents[j].val, ?_, ?_⟩
  ·cases b with
   | none => subst hb; simp at hlen; omega
   | some r =>
    obtain ⟨q, n, e1, e2⟩ := hb; subst e2; unfold Instr.lookup; simp only [Sem.run_bind, run_underlying h1, Result.andThen_ok, MapKept.run_getObj_map e1, hck, hfk, hge, Option.map_some, Sem.run_pure]
  ·rw [List.getElem?_eq_getElem hlt]; exact out _ _ _ (forall2_get hF j (by omega) hlt).2
 ·have hge : ents[j]? = none := List.getElem?_eq_none (by omega); refine ⟨if comma then .tuple #[zv, .bool false] else zv, ?_, ?_⟩
  ·cases b with
   | none =>
    subst hb; unfold Instr.lookup; simp only [Sem.run_bind, run_underlying h1, Result.andThen_ok, hck, hfk, hge, Option.map_none, h3, Sem.run_pure]
   | some r =>
    obtain ⟨q, n, e1, e2⟩ := hb; rw [← e2] at hfk hge; unfold Instr.lookup; simp only [Sem.run_bind, run_underlying h1, Result.andThen_ok, MapKept.run_getObj_map e1, hck, hfk, hge, Option.map_none, h3, Sem.run_pure]
  ·rw [List.getElem?_eq_none (by omega)]; exact out _ _ _ (h4 c N)
theorem s_lookup (h : MR c N m w) (T : TypeId) (x y : Operand) (comma : Bool) (ho : o.op = .lookup T x y comma) (hx : RS c N (a.eval x) (ev f x)) (hy : RS c N (a.eval y) (ev f y)) (call : CallF) (hf : (oLookup T x y comma P call f m N).fine) : OpS P o a c N m w (oLookup T x y comma P call f m N) := by
 have hex : ∀ v, (Instr.lookup T (a.eval x) (a.eval y) comma).run P w = .ok v w → (execOp a.eval o).run P w = .ok (.value v) w := fun v hv => by
  simp only [execOp, ho, Sem.run_bind, hv, Result.andThen_ok, Sem.run_pure]
 generalize a.eval x = v at hx hex; generalize a.eval y = v2 at hy hex
 replace hf : (okS m N (lkF m comma (keyP P T) (asC (ev f x)) (asC (ev f y)) (mapZ P T))).fine := hf
 show OpS P o a c N m w (okS m N (lkF m comma (keyP P T) (asC (ev f x)) (asC (ev f y)) (mapZ P T)))
 generalize ev f x = X at hx hf ⊢; generalize ev f y = Y at hy hf ⊢; obtain ⟨r, hr, hok⟩ := okS_fine hf; rw [hok]
 have key : ∃ u, (Instr.lookup T v v2 comma).run P w = .ok u w ∧ RS c N u r := by
  unfold lkF at hr
  split at hr
  ·rename_i q x' d z hq hX hY hz
   have hx := asC_rel hx hX; have hd := asC_rel hy hY
   cases hk : kOk q d with
   | false => rw [hk] at hr; cases hr
   | true =>
    rw [hk] at hr
    replace hr : lkC m comma x' d z = some r := hr
    cases x' with
    | m k =>
     replace hr : lkE comma d z (obM (m.get k)) = some r := hr
     cases he : obM (m.get k) with
     | none => rw [he] at hr; cases hr
     | some es =>
      rw [he] at hr
      replace hr : lkI comma z es (look es d) = some r := hr
      cases hl : look es d with
      | none => rw [hl] at hr; cases hr
      | some j =>
       rw [hl] at hr
       injection hr with hr; subst hr
       obtain ⟨ents, q1, q2, q3⟩ := h.ob k _ (obM_some he); rw [hx.2]; exact run_look hq hz hd hk (b := some (c.b k)) ⟨ents, _, q1, rfl⟩ q3 hl comma
    | nm =>
     injection hr with hr; subst hr
     rw [show v = .map none from hx]; exact run_look hq hz hd hk (b := none) (ents := []) (es := []) rfl .nil (j := 0) rfl comma
    | _ => cases hr
  ·cases hr
 obtain ⟨u, h1, h2⟩ := key; exact OpS.val h rfl (hex _ h1) h2
theorem okM_out (hq : 2 ≤ opC P o.op) {r : SV} {m' : Mm} {v : Value} {w' : World} {x : Option Mm} (hx : okM r N x = .one ⟨r, m', N⟩) (h1 : (execOp a.eval o).run P w = .ok .skip w') (hv : v = undef) (hr : RS c N v r) (h2 : MR c N m' w') (h3 : Fr c N m w c N m' w') : OpS P o a c N m w (okM r N x) :=
 .loud hq ⟨_, v, w', by rw [hx]; rfl, .inr ⟨h1, hv⟩, c, hr, h2, h3⟩
theorem s_upd (h : MR c N m w) (T : TypeId) (x y z : Operand) (ho : o.op = .mapUpdate T x y z) (hx : RS c N (a.eval x) (ev f x)) (hy : RS c N (a.eval y) (ev f y)) (hz : RS c N (a.eval z) (ev f z)) (call : CallF) (hf : (oMapUpdate T x y z P call f m N).fine) : OpS P o a c N m w (oMapUpdate T x y z P call f m N) := by
 have hex : ∀ w', (Instr.mapUpdate T (a.eval x) (a.eval y) (a.eval z)).run P w = .ok () w' → (execOp a.eval o).run P w = .ok .skip w' := fun w' hv => by
  simp only [execOp, ho, Sem.run_bind, hv, Result.andThen_ok, Sem.run_pure]
 generalize a.eval x = v at hx hex; generalize a.eval y = v2 at hy hex; generalize a.eval z = v3 at hz hex
 replace hf : (okM .u N (muF m (keyP P T) (asM (ev f x)) (asC (ev f y)) (toA (ev f z)))).fine := hf
 show OpS P o a c N m w (okM .u N (muF m (keyP P T) (asM (ev f x)) (asC (ev f y)) (toA (ev f z))))
 generalize ev f x = X at hx hf ⊢; generalize ev f y = Y at hy hf ⊢; generalize ev f z = Z at hz hf ⊢; obtain ⟨m', hm, hok⟩ := okM_fine hf; have hm0 := hm; unfold muF at hm
 split at hm
 ·rename_i q k d va hq hX hY hZ
  obtain ⟨hkN, hv⟩ := asM_rel hx hX; have hd := asC_rel hy hY; have hva := toA_rel hz hZ
  cases hk : kOk q d with
  | false => rw [hk] at hm; cases hm
  | true =>
   rw [hk] at hm
   replace hm : muE m k d va (obM (m.get k)) = some m' := hm
   cases he : obM (m.get k) with
   | none => rw [he] at hm; cases hm
   | some es =>
    rw [he] at hm
    replace hm : muI m k d va es (look es d) = some m' := hm
    cases hl : look es d with
    | none => rw [hl] at hm; cases hm
    | some j =>
     rw [hl] at hm
     replace hm : some (m.upd k (some (.m (bif Nat.blt j es.length then es.set j (d, va) else es ++ [(d, va)])))) = some m' := hm
     injection hm with hm; subst hm
     have hk0 := obM_some he; obtain ⟨ents, q1, q2, q3⟩ := h.ob k _ hk0; obtain ⟨key, elem, h1, h2⟩ := keyP_is hq; obtain ⟨g1, g2, g3⟩ := look_is hd hk 0 q3 hl; have hfk := run_findKey (P := P) (w := w) h2 g2; have hkey := kOk_key hd hk; have hck := run_checkKey (P := P) (w := w) h2 hkey false 9999; have hlen := forall2_len q3; simp only [Array.length_toList] at hlen
     have fin : ∀ (ents' : Array MapEntry) (es' : List (CV × AV)), (Instr.mapUpdate T v v2 v3).run P w = .ok () (setBlock w (c.b k) (.map ents' ents'.size)) → ents'.toList.map (·.born) = List.range ents'.size → F2 (ER c N) ents'.toList es' → es' = (bif Nat.blt j es.length then es.set j (d, va) else es ++ [(d, va)]) → OpS P o a c N m w (okM .u N (muF m (keyP P T) (asM X) (asC Y) (toA Z))) := fun ents' es' e1 e2 e3 e4 => by
      subst e4; have hs := h.set (w' := setBlock w (c.b k) (.map ents' ents'.size)) hk0 ⟨rfl, rfl, rfl⟩ (by simp [setBlock]) (ob := .m (bif Nat.blt j es.length then es.set j (d, va) else es ++ [(d, va)])) (fun b hb => set_other hb) ⟨ents', set_same q1, e2, e3⟩; exact okM_out (by simp [ho, opC]) hok (hex _ e1) rfl trivial hs.1 hs.2
     subst hv
     by_cases hlt : j < es.length
     ·have hlt' : j < ents.size := by omega
      have hge : ents[j]? = some ents[j] := Array.getElem?_eq_getElem hlt'; have hborn : ents[j].born = j := born_at (ents := ents.toList) (by simpa using q2) (i := j) (by simpa using hlt')
      have hkv : ents[j].key = v2 := by
       have h9 := g3 (by simpa using hlt')
       rw [← h9]; congr 1
      have hge' : ents.toList[j]? = some ents[j] := by rw [Array.getElem?_toList]; exact hge
      have hmod := toList_modify_set (e' := { key := v2, val := v3, born := j }) (f := fun e => { e with key := v2, val := v3 }) hge (by rw [hborn]); refine fin (ents.modify j (fun e => { e with key := v2, val := v3 })) (es.set j (d, va)) ?_ ?_ ?_ (by rw [show Nat.blt j es.length = true by simpa [Nat.blt_eq] using hlt]; rfl)
      ·rw [hge'] at hfk; simp only [Nat.zero_add, Option.map_some] at hfk; simp only [Instr.mapUpdate, Sem.run_bind, run_underlying h1, Result.andThen_ok, MapKept.run_getObj_map q1, hck, hfk, hge, Option.getD_some, Option.map_some, hkv, run_keyThatStays hkey, run_setObj_map _ q1, setBlock, Array.size_modify]
      ·rw [hmod]; have := born_set (ents := ents.toList) (e := { key := v2, val := v3, born := j }) (by simpa using q2) rfl
       simpa using this
      ·rw [hmod]; exact forall2_set _ q3 ⟨hd, hva⟩
     ·have hge' : ents.toList[j]? = none := List.getElem?_eq_none (by simp; omega); refine fin (ents.push { key := v2, val := v3, born := ents.size }) (es ++ [(d, va)]) ?_ ?_ ?_ (by rw [show Nat.blt j es.length = false by rw [← Bool.not_eq_true, Nat.blt_eq]; exact hlt]; rfl)
      ·rw [hge'] at hfk; simp only [Option.map_none] at hfk; simp only [Instr.mapUpdate, Sem.run_bind, run_underlying h1, Result.andThen_ok, MapKept.run_getObj_map q1, hck, hfk, run_setObj_map _ q1, setBlock, Array.size_push]
      ·simp [q2, List.range_succ]
      ·rw [Array.toList_push]; exact forall2_app q3 (.cons ⟨hd, hva⟩ .nil)
 ·cases hm
theorem s_ment (h : MR c N m w) (T : TypeId) (x y : Operand) (ho : o.op = .mapEntry T x y) (hx : RS c N (a.eval x) (ev f x)) (hy : RS c N (a.eval y) (ev f y)) (call : CallF) (hf : (oMapEntry T x y P call f m N).fine) : OpS P o a c N m w (oMapEntry T x y P call f m N) := by
 have hex : ∀ u w', (Instr.mapEntry T (a.eval x) (a.eval y)).run P w = .ok u w' → (execOp a.eval o).run P w = .ok (.value u) w' := fun u w' hv => by
  simp only [execOp, ho, Sem.run_bind, hv, Result.andThen_ok, Sem.run_pure]
 generalize a.eval x = v at hx hex; generalize a.eval y = v2 at hy hex
 replace hf : (meF m N (keyP P T) (asM (ev f x)) (asC (ev f y)) (mapZ P T)).fine := hf
 show OpS P o a c N m w (meF m N (keyP P T) (asM (ev f x)) (asC (ev f y)) (mapZ P T))
 generalize ev f x = X at hx hf ⊢; generalize ev f y = Y at hy hf ⊢
 cases hq : keyP P T with
 | none => rw [hq] at hf; exact hf.elim
 | some q =>
 cases hX : asM X with
 | none => rw [hq, hX] at hf; exact hf.elim
 | some k =>
 cases hY : asC Y with
 | none => rw [hq, hX, hY] at hf; exact hf.elim
 | some d =>
 cases hz : mapZ P T with
 | none => rw [hq, hX, hY, hz] at hf; exact hf.elim
 | some z =>
  rw [hq, hX, hY, hz] at hf; obtain ⟨hkN, hv⟩ := asM_rel hx hX; have hd := asC_rel hy hY
  replace hf : (bif kOk q d then meE m N k d z (obM (m.get k)) else .no []).fine := hf
  show OpS P o a c N m w (bif kOk q d then meE m N k d z (obM (m.get k)) else .no [])
  cases hk : kOk q d with
  | false => rw [hk] at hf; exact hf.elim
  | true =>
   rw [hk] at hf
   replace hf : (meE m N k d z (obM (m.get k))).fine := hf
   show OpS P o a c N m w (meE m N k d z (obM (m.get k)))
   cases he : obM (m.get k) with
   | none => rw [he] at hf; exact hf.elim
   | some es =>
    rw [he] at hf
    replace hf : (meI m N k d z es (look es d)).fine := hf
    show OpS P o a c N m w (meI m N k d z es (look es d))
    cases hl : look es d with
    | none => rw [hl] at hf; exact hf.elim
    | some j =>
     rw [hl] at hf
     replace hf : (bif Nat.ble j 1048576 then meP m N k d z es j (es[j]?) else .no []).fine := hf
     show OpS P o a c N m w (bif Nat.ble j 1048576 then meP m N k d z es j (es[j]?) else .no [])
     cases hb : Nat.ble j 1048576 with
     | false => rw [hb] at hf; exact hf.elim
     | true =>
      show OpS P o a c N m w (meP m N k d z es j (es[j]?))
      have hk0 := obM_some he; obtain ⟨ents, q1, q2, q3⟩ := h.ob k _ hk0; obtain ⟨key, elem, h1, h2⟩ := keyP_is hq; obtain ⟨zv, hzr, hzv⟩ := mapZ_is hz h1; obtain ⟨g1, g2, g3⟩ := look_is hd hk 0 q3 hl; have hfk := run_findKey (P := P) (w := w) h2 g2; have hkey := kOk_key hd hk; have hck := run_checkKey (P := P) (w := w) h2 hkey false 9999; have hlen := forall2_len q3; simp only [Array.length_toList] at hlen
      have fin : ∀ (u : Value) (ents' : Array MapEntry) (x : AV) (es' : List (CV × AV)), (Instr.mapEntry T v v2).run P w = .ok (.tuple #[u, .int .i64 (j : Int)]) (setBlock w (c.b k) (.map ents' ents'.size)) → ents'.toList.map (·.born) = List.range ents'.size → F2 (ER c N) ents'.toList es' → RA c N u x →
        OpS P o a c N m w (.one ⟨.t [x, .c (.i .i64 (Int.ofNat j))], m.upd k (some (.m es')), N⟩) := fun u ents' x es' e1 e2 e3 e4 => by
       have hs := h.set (w' := setBlock w (c.b k) (.map ents' ents'.size)) (ob := .m es') hk0 ⟨rfl, rfl, rfl⟩ (by simp [setBlock]) (fun b hb => set_other hb) ⟨ents', set_same q1, e2, e3⟩; exact OpS.loud (by simp [ho, opC]) ⟨_, _, _, rfl, .inl (hex _ _ e1), c, ⟨_, rfl, .cons e4 (.cons rfl .nil)⟩, hs.1, hs.2⟩
      subst hv
      by_cases hlt : j < es.length
      ·have hlt' : j < ents.size := by omega
       have hge : ents[j]? = some ents[j] := Array.getElem?_eq_getElem hlt'; have hborn : ents[j].born = j := born_at (ents := ents.toList) (by simpa using q2) (i := j) (by simpa using hlt')
       have hkv : ents[j].key = v2 := by
        have h9 := g3 (by simpa using hlt')
        rw [← h9]; congr 1
       have hge' : ents.toList[j]? = some ents[j] := by rw [Array.getElem?_toList]; exact hge
       have hmod := toList_modify_set (e' := { key := v2, val := ents[j].val, born := j }) (f := fun e => { e with key := v2 }) hge (by rw [hborn]); have hE := forall2_get q3 j (by simpa using hlt') hlt; rw [List.getElem?_eq_getElem hlt]; refine fin ents[j].val (ents.modify j (fun e => { e with key := v2 })) es[j].2 (es.set j (d, es[j].2)) ?_ ?_ ?_ (by simpa using hE.2)
       ·rw [hge'] at hfk; simp only [Nat.zero_add, Option.map_some] at hfk; simp only [Instr.mapEntry, Sem.run_bind, run_underlying h1, Result.andThen_ok, MapKept.run_getObj_map q1, hck, hfk, hge, Option.getD_some, Option.map_some, hkv, hborn, run_keyThatStays hkey, run_setObj_map _ q1, setBlock, Array.size_modify, Sem.run_pure, goInt]
       ·rw [hmod]; have := born_set (ents := ents.toList) (e := { key := v2, val := ents[j].val, born := j }) (by simpa using q2) rfl
        simpa using this
       ·rw [hmod]; exact forall2_set _ q3 ⟨hd, by simpa using hE.2⟩
      ·have hjl : j = ents.size := by omega
       have hge' : ents.toList[j]? = none := List.getElem?_eq_none (by simp; omega); rw [List.getElem?_eq_none (by omega)]; refine fin zv (ents.push { key := v2, val := zv, born := ents.size }) z (es ++ [(d, z)]) ?_ ?_ ?_ (hzv c N)
       ·rw [hge'] at hfk; simp only [Option.map_none] at hfk; simp only [Instr.mapEntry, Sem.run_bind, run_underlying h1, Result.andThen_ok, MapKept.run_getObj_map q1, hck, hfk, hzr, run_setObj_map _ q1, setBlock, Array.size_push, Sem.run_pure, goInt, hjl]
       ·simp [q2, List.range_succ]
       ·rw [Array.toList_push]; exact forall2_app q3 (.cons ⟨hd, hzv c N⟩ .nil)
theorem s_est (h : MR c N m w) (T : TypeId) (x y z : Operand) (ho : o.op = .entryStore T x y z) (hx : RS c N (a.eval x) (ev f x)) (hy : RS c N (a.eval y) (ev f y)) (hz : RS c N (a.eval z) (ev f z)) (call : CallF) (hf : (oEntryStore T x y z P call f m N).fine) : OpS P o a c N m w (oEntryStore T x y z P call f m N) := by
 have hex : ∀ w', (Instr.entryStore T (a.eval x) (a.eval y) (a.eval z)).run P w = .ok () w' → (execOp a.eval o).run P w = .ok .skip w' := fun w' hv => by
  simp only [execOp, ho, Sem.run_bind, hv, Result.andThen_ok, Sem.run_pure]
 generalize a.eval x = v at hx hex; generalize a.eval y = v2 at hy hex; generalize a.eval z = v3 at hz hex
 replace hf : (okM .u N (esF m (asM (ev f x)) (i64N (asC (ev f y))) (toA (ev f z)))).fine := hf
 show OpS P o a c N m w (okM .u N (esF m (asM (ev f x)) (i64N (asC (ev f y))) (toA (ev f z))))
 generalize ev f x = X at hx hf ⊢; generalize ev f y = Y at hy hf ⊢; generalize ev f z = Z at hz hf ⊢; obtain ⟨m', hm, hok⟩ := okM_fine hf; have hm0 := hm; unfold esF at hm
 split at hm
 ·rename_i k j va hX hY hZ
  obtain ⟨hkN, hv⟩ := asM_rel hx hX; have hva := toA_rel hz hZ
  have hj : v2 = .int .i64 (j : Int) := by
   cases hc : asC Y with
   | none => rw [hc] at hY; cases hY
   | some y' =>
    rw [hc] at hY; have hyr := asC_rel hy hc
    cases y' with
    | i kk n =>
     replace hY : (bif Nat.beq (kN kk) 3 then iN n else none) = some j := hY
     cases hb : Nat.beq (kN kk) 3 with
     | false => rw [hb] at hY; cases hY
     | true =>
      rw [hb] at hY
      have hkk : kk = .i64 := by
       have := Nat.eq_of_beq_eq_true hb
       cases kk <;> first | rfl | simp [kN] at this
      subst hkk
      cases n with
      | ofNat q => injection hY with hY; subst hY; exact hyr
      | negSucc q => cases hY
    | _ => cases hY
  cases he : obM (m.get k) with
  | none => rw [he] at hm; cases hm
  | some es =>
   rw [he] at hm
   replace hm : esP m k es j va (es[j]?) = some m' := hm
   cases hge0 : es[j]? with
   | none => rw [hge0] at hm; cases hm
   | some p =>
    rw [hge0] at hm
    replace hm : some (m.upd k (some (.m (es.set j (p.1, va))))) = some m' := hm
    injection hm with hm; subst hm
    obtain ⟨hlt, rfl⟩ := List.getElem?_eq_some_iff.1 hge0; have hk0 := obM_some he; obtain ⟨ents, q1, q2, q3⟩ := h.ob k _ hk0; have hlen := forall2_len q3; simp only [Array.length_toList] at hlen
    have hlt' : j < ents.size := by omega
    have hge : ents[j]? = some ents[j] := Array.getElem?_eq_getElem hlt'
    have hborn : ∀ i (h : i < ents.size), ents[i].born = i := fun i h => born_at (ents := ents.toList) (by simpa using q2) (i := i) (by simpa using h)
    have hfi : ents.findIdx? (fun e => (e.born : Int) == (j : Int)) = some j := by
     rw [Array.findIdx?_eq_some_iff_getElem]; refine ⟨hlt', by simp [hborn j hlt'], fun i hi => ?_⟩; have := hborn i (by omega)
     simp [this]; omega
    have hE := forall2_get q3 j (by simpa using hlt') hlt; have hmod := toList_modify_set (e' := { key := ents[j].key, val := v3, born := j }) (f := fun e => { e with val := v3 }) hge (by rw [hborn j hlt']); subst hv
    have hrun : (Instr.entryStore T (.map (some (c.b k))) v2 v3).run P w = .ok () (setBlock w (c.b k) (.map (ents.modify j fun e => { e with val := v3 }) (ents.modify j fun e => { e with val := v3 }).size)) := by
     rw [hj]; simp only [Instr.entryStore, Sem.run_bind, MapKept.run_getObj_map q1, Result.andThen_ok, asInt, asIntOf, Sem.run_pure, hfi, run_setObj_map _ q1, setBlock, Array.size_modify]
    have hs := h.set (w' := setBlock w (c.b k) (.map (ents.modify j fun e => { e with val := v3 }) (ents.modify j fun e => { e with val := v3 }).size)) (ob := .m (es.set j (es[j].1, va))) hk0 ⟨rfl, rfl, rfl⟩ (by simp [setBlock]) (fun b hb => set_other hb) ⟨_, set_same q1, by
     rw [hmod]; have := born_set (ents := ents.toList) (e := { key := ents[j].key, val := v3, born := j }) (by simpa using q2) rfl
     simpa using this, by
     rw [hmod]
     exact forall2_set _ q3 ⟨by simpa using hE.1, hva⟩⟩
    exact okM_out (by simp [ho, opC]) hok (hex _ hrun) rfl trivial hs.1 hs.2
 ·cases hm
theorem s_mkmap (h : MR c N m w) (T : TypeId) (r : Option Operand) (ho : o.op = .makeMap T r) (hx : ∀ y, r = some y → RS c N (a.eval y) (ev f y)) (call : CallF) (hf : (oMakeMap T r P call f m N).fine) : OpS P o a c N m w (oMakeMap T r P call f m N) := by
 replace hf : (bif resB f r && sm2 (keyP P T) then Rs.one (⟨.c (.m N), m.upd N (some (.m [])), N.inc⟩ : Rt) else .no []).fine := hf
 show OpS P o a c N m w (bif resB f r && sm2 (keyP P T) then Rs.one (⟨.c (.m N), m.upd N (some (.m [])), N.inc⟩ : Rt) else .no [])
 cases hb : (resB f r && sm2 (keyP P T)) with
 | false => rw [hb] at hf; exact hf.elim
 | true =>
  simp only [Bool.and_eq_true] at hb; obtain ⟨q, hq⟩ := sm2_is hb.2; obtain ⟨k, e, h1, _⟩ := keyP_is hq
  have hr : ∀ y, r = some y → ∃ n, asN (ev f y) = some n := fun y hy => by
   subst hy; have h1 : sm3 (asN (ev f y)) = true := hb.1
   cases h2 : asN (ev f y) with
   | none => rw [h2] at h1; cases h1
   | some n => exact ⟨n, rfl⟩
  obtain ⟨v, w', e1, e2⟩ := s_map h T r ho hr (fun _ => ⟨k, e, h1⟩) hx; exact OpS.loud (by simp [ho, opC]) ⟨_, v, w', rfl, .inl e1, e2⟩
theorem s_range (h : MR c N m w) (T : TypeId) (x : Operand) (ho : o.op = .range T x) (hx : RS c N (a.eval x) (ev f x)) (call : CallF) (hf : (oRange T x P call f m N).fine) : OpS P o a c N m w (oRange T x P call f m N) := by
 have hex : ∀ v w', (Instr.range T (a.eval x)).run P w = .ok v w' → (execOp a.eval o).run P w = .ok (.value v) w' := fun v w' hv => by
  simp only [execOp, ho, Sem.run_bind, hv, Result.andThen_ok, Sem.run_pure]
 generalize a.eval x = v at hx hex
 replace hf : (bif sm2 (keyP P T) then rgF m N (asM (ev f x)) else .no []).fine := hf
 show OpS P o a c N m w (bif sm2 (keyP P T) then rgF m N (asM (ev f x)) else .no [])
 generalize ev f x = X at hx hf ⊢
 cases hb : sm2 (keyP P T) with
 | false => rw [hb] at hf; exact hf.elim
 | true =>
  rw [hb] at hf; obtain ⟨q, hq⟩ := sm2_is hb; obtain ⟨k', e', h1, _⟩ := keyP_is hq
  replace hf : (rgF m N (asM X)).fine := hf
  show OpS P o a c N m w (rgF m N (asM X))
  cases hX : asM X with
  | none => rw [hX] at hf; exact hf.elim
  | some k =>
   rw [hX] at hf; obtain ⟨hkN, hv⟩ := asM_rel hx hX
   replace hf : (rgE m N k (obM (m.get k))).fine := hf
   show OpS P o a c N m w (rgE m N k (obM (m.get k)))
   cases he : obM (m.get k) with
   | none => rw [he] at hf; exact hf.elim
   | some es =>
    obtain ⟨ents, q1, q2, q3⟩ := h.ob k _ (obM_some he); have hlen := forall2_len q3; simp only [Array.length_toList] at hlen; subst hv
    have hrun : (Instr.range T (.map (some (c.b k)))).run P w = .ok (.pointer (some ⟨w.heap.size, 0, none⟩)) (w.alloc (.mapIter (some (c.b k)) ents.size #[] ents.size)) := by
     simp [Instr.range, run_underlying h1, MapKept.run_getObj_map q1, Result.andThen]
    have hmon := mon_new c N w.heap.size 0
    have hn := h.new (w' := w.alloc (.mapIter (some (c.b k)) ents.size #[] ents.size)) (ob := .it k es.length (List.range es.length) none) w.heap.size 0 ⟨rfl, rfl, rfl⟩ (Nat.le_refl _) (by simp) (fun j hj => heap_alloc_old w _ (by omega))
     ⟨hkN.mon hmon, #[], by rw [new_b, hmon.b k hkN, ← hlen]; exact heap_alloc_new w _, (List.filter_eq_self.2 (by simp)).symm, rfl, fun i hi => by simp at hi⟩
    exact OpS.loud (by simp [ho, opC]) ⟨_, _, _, rfl, .inl (hex _ _ hrun), _, ⟨new_l c N _ _, by rw [new_b]⟩, hn.1, hn.2⟩
theorem rem_push (n : Nat) (seen : Array Nat) (i : Nat) : ((List.range n).filter fun x => !(seen.push i).contains x) = ((List.range n).filter fun x => !seen.contains x).filter fun x => x != i := by
 rw [List.filter_filter]
 congr 1
 funext x
 rw [Array.contains_push, Bool.not_or, Bool.and_comm]
 congr 1
theorem s_next (h : MR c N m w) (x : Operand) (s : Bool) (ho : o.op = .next x s) (hx : RS c N (a.eval x) (ev f x)) (call : CallF) (hf : (oNext x s P call f m N).fine) : OpS P o a c N m w (oNext x s P call f m N) := by
 cases s with
 | true => exact hf.elim
 | false =>
 have hex : ∀ v w', (Instr.next (a.eval x) false o.type).run P w = .ok v w' → (execOp a.eval o).run P w = .ok (.value v) w' := fun v w' hv => by
  simp only [execOp, ho, Sem.run_bind, hv, Result.andThen_ok, Sem.run_pure]
 generalize a.eval x = v at hx hex
 replace hf : (nxF m N (asP (ev f x))).fine := hf
 show OpS P o a c N m w (nxF m N (asP (ev f x)))
 generalize ev f x = X at hx hf ⊢
 cases hX : asP X with
 | none => rw [hX] at hf; exact hf.elim
 | some p =>
  rw [hX] at hf; obtain ⟨hkN, hv⟩ := asP_rel hx hX; obtain ⟨k, q0⟩ := p
  replace hf : (bif Nat.beq q0 0 then nxO m N k (m.get k) else .no []).fine := hf
  show OpS P o a c N m w (bif Nat.beq q0 0 then nxO m N k (m.get k) else .no [])
  cases hb : Nat.beq q0 0 with
  | false => rw [hb] at hf; exact hf.elim
  | true =>
   rw [hb] at hf; have := Nat.eq_of_beq_eq_true hb; subst this
   replace hf : (nxO m N k (m.get k)).fine := hf
   show OpS P o a c N m w (nxO m N k (m.get k))
   cases hk : m.get k with
   | none => rw [hk] at hf; exact hf.elim
   | some ob =>
    rw [hk] at hf
    cases ob with
    | it q n rem la =>
     replace hf : (nxE m N k q n rem (obM (m.get q))).fine := hf
     show OpS P o a c N m w (nxE m N k q n rem (obM (m.get q)))
     obtain ⟨hqN, seen, r1, r2, r3, r4⟩ := h.ob k _ hk
     cases he : obM (m.get q) with
     | none => rw [he] at hf; exact hf.elim
     | some es =>
      rw [he] at hf
      replace hf : (bif Nat.beq es.length n then nxR m N k q n rem es else .no []).fine := hf
      show OpS P o a c N m w (bif Nat.beq es.length n then nxR m N k q n rem es else .no [])
      cases hn : Nat.beq es.length n with
      | false => rw [hn] at hf; exact hf.elim
      | true =>
       rw [hn] at hf; have := Nat.eq_of_beq_eq_true hn; subst this
       replace hf : (nxR m N k q es.length rem es).fine := hf
       show OpS P o a c N m w (nxR m N k q es.length rem es)
       have hq0 := obM_some he; obtain ⟨ents, q1, q2, q3⟩ := h.ob q _ hq0; have hlen := forall2_len q3; simp only [Array.length_toList] at hlen
       have hborn : ∀ e ∈ ents.toList, e.born < es.length := by rw [← hlen]; exact born_lt q2
       have hbat : ∀ e ∈ ents.toList, ∃ h : e.born < ents.size, ents[e.born] = e := fun e he => by
        obtain ⟨i, hi, rfl⟩ := List.getElem_of_mem he; have := born_at (ents := ents.toList) (by simpa using q2) (i := i) hi; rw [this]; exact ⟨by simpa using hi, by simp⟩
       have hmem : ∀ e, e ∈ (leftOf ents seen).toList ↔ e ∈ ents.toList ∧ seen.contains e.born = false := fun e => by simp [leftOf]
       -- one entry comes out
       have one : ∀ e, e ∈ (leftOf ents seen).toList → ∀ r, (∀ x, x ∈ rem → True) → r = (rem.filter fun x => x != e.born) → (nxP m N k q es.length es e.born r).fine → ∀ w1 : World, (w1 = w ∨ w1 = w.drew) →
         ∃ rt, (nxP m N k q es.length es e.born r).mem rt ∧ Post c N m w rt (.tuple #[.bool true, e.key, e.val]) (setBlock w1 (c.b k) (.mapIter (some (c.b q)) es.length (seen.push e.born) es.length)) := fun e hm r _ hr hfi w1 hw1 => by
        obtain ⟨hm1, hm2⟩ := (hmem e).1 hm; obtain ⟨hlt, hat⟩ := hbat e hm1
        have hlt2 : e.born < es.length := by omega
        have hge : es[e.born]? = some es[e.born] := List.getElem?_eq_getElem hlt2
        have hE : ER c N e es[e.born] := by
         have := forall2_get q3 e.born (by simpa using hlt) hlt2; rw [show ents.toList[e.born]'(by simpa using hlt) = e by simpa using hat] at this; exact this
        refine ⟨⟨.t [.c (.b true), .c es[e.born].1, es[e.born].2], m.upd k (some (.it q es.length r (some e.born))), N⟩, ?_, ?_⟩
        ·unfold nxP; rw [hge]; exact rfl
        ·have hh : w1.heap = w.heap := by rcases hw1 with e | e <;> rw [e] <;> rfl
         have hos : w1.os = w.os ∧ w1.tape = w.tape ∧ w1.output = w.output := by rcases hw1 with e | e <;> rw [e] <;> exact ⟨rfl, rfl, rfl⟩
         have hs := h.set (w' := setBlock w1 (c.b k) (.mapIter (some (c.b q)) es.length (seen.push e.born) es.length)) (ob := .it q es.length r (some e.born)) hk hos (by simp [setBlock, hh]) (fun b hb => by rw [set_other hb, hh]) ⟨hqN, seen.push e.born, set_same (o := .mapIter (some (c.b q)) es.length seen es.length) (by rw [hh]; exact r1), by rw [rem_push, ← r2]; exact hr, by simp, fun i hi => by
          rw [Array.toList_push] at hi
          rcases List.mem_append.1 hi with hi | hi
          ·exact r4 i hi
          ·rw [List.mem_singleton.1 hi]; exact hlt2⟩
         exact ⟨c, ⟨_, rfl, .cons rfl (.cons hE.1 (.cons hE.2 .nil))⟩, hs.1, hs.2⟩
       have hinr : ∀ e, e ∈ (leftOf ents seen).toList → e.born ∈ rem := fun e hm => by
        obtain ⟨hm1, hm2⟩ := (hmem e).1 hm; rw [r2]; exact List.mem_filter.2 ⟨List.mem_range.2 (hborn e hm1), by rw [hm2]; rfl⟩
       have hnd : rem.Nodup := by rw [r2]; exact List.nodup_range.sublist List.filter_sublist
       subst hv
       rcases run_next_at (P := P) w o.type (c.b k) (c.b q) es.length es.length seen ents ents.size r1 q1 hborn (Nat.le_refl _) with ⟨e1, e2⟩ | ⟨e, hm, w1, hw1, e2⟩
       ·have hrem : rem = [] := by
         rw [r2, List.filter_eq_nil_iff]; intro i hi; have hi := List.mem_range.1 hi
         have hi' : i < ents.size := by omega
         have hb := born_at (ents := ents.toList) (by simpa using q2) (i := i) (by simpa using hi')
         have hno : ents[i] ∉ (leftOf ents seen).toList := fun hx => by
          have : (leftOf ents seen).toList.length = 0 := by simpa using e1
          rw [List.eq_nil_of_length_eq_zero this] at hx
          cases hx
         rw [hmem] at hno; simp only [Array.getElem_toList] at hb
         have hin : ents[i] ∈ ents.toList := by simp
         cases hcn : seen.contains i with
         | true => simp
         | false => exact absurd ⟨hin, by rw [hb]; exact hcn⟩ hno
        subst hrem; refine OpS.loud (by simp [ho, opC]) ⟨⟨.t [.c (.b false)], m.upd k none, N⟩, _, w, rfl, .inl (hex _ _ e2), c, ⟨_, rfl, .cons rfl .nil⟩, ?_, ?_⟩
        ·refine h.sub fun k' ob hk' => ?_
         rw [get_upd] at hk'
         split at hk'
         ·cases hk'
         ·exact hk'
        ·refine (Fr.refl c N m w).sub fun k' ob hk' => ?_
         rw [get_upd] at hk'
         split at hk'
         ·cases hk'
         ·exact ⟨ob, hk'⟩
       ·rw [hlen] at e2; have hir := hinr e hm
        match rem, hf, hir, hnd, one with
        | [i], hf, hir, hnd, one =>
         have hi : e.born = i := by simpa using hir
         subst hi; obtain ⟨rt, g1, g2⟩ := one e hm [] (fun _ _ => trivial) (by simp) hf w1 hw1; exact OpS.loud (by simp [ho, opC]) ⟨rt, _, _, g1, .inl (hex _ _ e2), g2⟩
        | [i, j], hf, hir, hnd, one =>
         have hij : i ≠ j := by simpa using hnd
         replace hf : (app2 (nxP m N k q es.length es i [j]) (nxP m N k q es.length es j [i])).fine := hf
         obtain ⟨p1, p2, p3, p4⟩ := app2_fine hf; simp only [List.mem_cons, List.not_mem_nil, or_false] at hir
         rcases hir with hi | hi
         ·subst hi; obtain ⟨rt, g1, g2⟩ := one e hm [j] (fun _ _ => trivial) (by simp [Ne.symm hij]) p1 w1 hw1; exact OpS.loud (by simp [ho, opC]) ⟨rt, _, _, p3 _ g1, .inl (hex _ _ e2), g2⟩
         ·subst hi; obtain ⟨rt, g1, g2⟩ := one e hm [i] (fun _ _ => trivial) (by simp [hij]) p2 w1 hw1; exact OpS.loud (by simp [ho, opC]) ⟨rt, _, _, p4 _ g1, .inl (hex _ _ e2), g2⟩
        | _ :: _ :: _ :: _, hf, _, _, _ => exact hf.elim
    | _ => exact hf.elim
theorem s_entry (h : MR c N m w) (x : Operand) (ho : o.op = .entry x) (hx : RS c N (a.eval x) (ev f x)) (call : CallF) (hf : (oEntry x P call f m N).fine) : OpS P o a c N m w (oEntry x P call f m N) := by
 have hex : ∀ v w', (Instr.entry (a.eval x)).run P w = .ok v w' → (execOp a.eval o).run P w = .ok (.value v) w' := fun v w' hv => by
  simp only [execOp, ho, Sem.run_bind, hv, Result.andThen_ok, Sem.run_pure]
 generalize a.eval x = v at hx hex
 replace hf : (okS m N (enF m (asP (ev f x)))).fine := hf
 show OpS P o a c N m w (okS m N (enF m (asP (ev f x))))
 generalize ev f x = X at hx hf ⊢; obtain ⟨r, hr, hok⟩ := okS_fine hf; rw [hok]
 cases hX : asP X with
 | none => rw [hX] at hr; cases hr
 | some p =>
  rw [hX] at hr; obtain ⟨hkN, hv⟩ := asP_rel hx hX; obtain ⟨k, q0⟩ := p
  replace hr : (bif Nat.beq q0 0 then enO m (m.get k) else none) = some r := hr
  cases hb : Nat.beq q0 0 with
  | false => rw [hb] at hr; cases hr
  | true =>
   rw [hb] at hr; have := Nat.eq_of_beq_eq_true hb; subst this
   replace hr : enO m (m.get k) = some r := hr
   cases hk : m.get k with
   | none => rw [hk] at hr; cases hr
   | some ob =>
    rw [hk] at hr
    cases ob with
    | it q n rem la =>
     cases la with
     | none => cases hr
     | some i =>
      replace hr : enE n i (obM (m.get q)) = some r := hr
      obtain ⟨hqN, seen, r1, r2, r3, r4⟩ := h.ob k _ hk
      cases he : obM (m.get q) with
      | none => rw [he] at hr; cases hr
      | some es =>
       rw [he] at hr
       replace hr : (bif Nat.beq es.length n then (match es[i]? with | some p => some (SV.t [.c p.1, p.2]) | none => none) else none) = some r := hr
       cases hn : Nat.beq es.length n with
       | false => rw [hn] at hr; cases hr
       | true =>
        rw [hn] at hr; have := Nat.eq_of_beq_eq_true hn; subst this
        replace hr : (match es[i]? with | some p => some (SV.t [.c p.1, p.2]) | none => none) = some r := hr
        cases hi : es[i]? with
        | none => rw [hi] at hr; cases hr
        | some p =>
         rw [hi] at hr
         injection hr with hr; subst hr
         obtain ⟨hilt, rfl⟩ := List.getElem?_eq_some_iff.1 hi; obtain ⟨ents, q1, q2, q3⟩ := h.ob q _ (obM_some he); have hlen := forall2_len q3; simp only [Array.length_toList] at hlen; have hb := born_at (ents := ents.toList) (by simpa using q2) (i := i) (by simp; omega); obtain ⟨s, hs⟩ := Array.back?_eq_some_iff.1 r3.symm; have hE := forall2_get q3 i (by simp; omega) hilt; obtain ⟨e, hee⟩ : ∃ e, e = ents.toList[i]'(by simp; omega) := ⟨_, rfl⟩; rw [← hee] at hb hE
         have hin : e ∈ ents.toList := by rw [hee]; exact List.getElem_mem _
         have hrun := run_entry_at (P := P) w (c.b k) (c.b q) es.length s ents ents.size e (by rw [hb, ← hs, hlen]; exact r1) q1 hin (by rw [q2]; exact List.nodup_range); subst hv; exact OpS.val h rfl (hex _ _ hrun) ⟨_, rfl, .cons hE.1 (.cons hE.2 .nil)⟩
    | _ => cases hr
end
end Go.Proofs.YtbgifiijjjoebaaGreatDoor.Cm
