/- The machine's code is the program's: code, calls, the run. The condition: what is asked of regions whose order is drawn (DrawOK). Regions whose order is drawn (I): masks, what waits for what, the chain along the text. No conditions. -/
import Derived.Test.YtbgifiijjjoebaaGreatDoorGNamesBs
import Derived.Test.YtbgifiijjjoebaaGreatDoorGNamesBm
import Derived.Laws.Externs
import Derived.Scope
import Derived.Test.YtbgifiijjjoebaaGreatDoorGNamesAl
namespace Go.Proofs.YtbgifiijjjoebaaGreatDoor.Cm
open Go Go.RowKit

section
variable {P : Program} {c : Cx} {N : Bp} {m : Mm} {w : World} {a : Act} {call : CallF} {Q : Exit → Act → World → Prop}
def exr : Ex → Exit
 | .normal => .normal
 | .exit id => .exit id
 | .ret => .ret
def Ends (c : Cx) (S : St) (w : World) (n : Nat) (R : Cm.Out) (e : Exit) (a' : Act) (w' : World) : Prop := ∃ r c', R.mem r ∧ SR c' r.2 a' w' n ∧ Fr c S.c S.m w c' r.2.c r.2.m w' ∧ e = exr r.1
def DrawOK (P : Program) : Prop := ∀ (call : CallF) (id : Nat) (ops : Array Oper) (n : Nat) (S : St) (c : Cx) (a : Act) (w : World), CallOK P call → dsR n ops.toList = true → SR c S a w n → (drawF P call ops S).fine → (Code.region id ops true).wp P (Ends c S w n (drawF P call ops S)) a w
def LoopWp (P : Program) (b : Code) (Q : Exit → Act → World → Prop) (a : Act) (w : World) : Prop :=
 ∀ (fr : Frame) (k : List Item) (cs : List Frame), ∃ e a' w', Q e a' w' ∧ Arrives P (lone (fr.at a (.code b :: .inLoop b :: k)) cs w) fr k cs e a' w'
theorem LoopWp.wp {b : Code} (h : LoopWp P b Q a w) : (Code.loop b).wp P Q a w := fun fr k cs =>
 let ⟨e, a', w', h1, h2⟩ := h fr k cs
 ⟨e, a', w', h1, .of_steps (.one step_loop) h2⟩
theorem LoopWp.round {b : Code} (h : b.wp P (Exit.then (LoopWp P b Q) Q) a w) : LoopWp P b Q a w := by
 intro fr k cs; obtain ⟨e, a₁, w₁, hq, harr⟩ := h fr (.inLoop b :: k) cs
 cases e with
 | normal =>
  obtain ⟨e₂, a₂, w₂, hq₂, harr₂⟩ := hq fr k cs; exact ⟨e₂, a₂, w₂, hq₂, .of_steps (Steps.trans harr (.one step_inLoop)) harr₂⟩
 | exit id => exact ⟨_, a₁, w₁, hq, .pass (x := .inLoop b) rfl (fun _ _ => .inl (by simp)) harr⟩
 | goto l => exact ⟨_, a₁, w₁, hq, .pass (x := .inLoop b) rfl (fun _ _ => .inl (by simp)) harr⟩
 | ret => exact ⟨_, a₁, w₁, hq, .pass (x := .inLoop b) rfl (fun _ _ => .inl (by simp)) harr⟩
 | panic ch => exact ⟨_, a₁, w₁, hq, .pass (x := .inLoop b) rfl (fun _ _ => .inl (by simp)) harr⟩
 | outgrown => exact ⟨_, a₁, w₁, hq, .pass (x := .inLoop b) rfl (fun _ _ => .inl (by simp)) harr⟩
def wpX (P : Program) (cd : Code) (Q : Exit → Act → World → Prop) (a : Act) (w : World) : Prop := cd.wp P Q a w ∧ ∀ b, cd = .loop b → LoopWp P b Q a w
theorem wpX_of {cd : Code} (hl : ∀ b, cd ≠ .loop b) (h : cd.wp P Q a w) : wpX P cd Q a w := ⟨h, fun b e => absurd e (hl b)⟩
def ExecOK (P : Program) (ih : Code → St → Cm.Out) : Prop := ∀ (n : Nat) (cd : Code) (S : St) (c : Cx) (a : Act) (w : World), dsC n cd = true → SR c S a w n → (ih cd S).fine → wpX P cd (Ends c S w n (ih cd S)) a w
theorem LoopWp.mono {b : Code} {Q' : Exit → Act → World → Prop} (h : LoopWp P b Q a w) (hq : ∀ e a w, Q e a w → Q' e a w) : LoopWp P b Q' a w := fun fr k cs =>
 let ⟨e, a', w', h1, h2⟩ := h fr k cs
 ⟨e, a', w', hq _ _ _ h1, h2⟩
theorem Ends.back {S : St} {n : Nat} {R : Cm.Out} {h : Ex × St → Cm.Out} {r : Ex × St} {c' : Cx} {w' : World} (_ : R.mem r) (hb : ∀ s, (h r).mem s → (bnd R h).mem s) (hf : Fr c S.c S.m w c' r.2.c r.2.m w') : ∀ e a2 w2, Ends c' r.2 w' n (h r) e a2 w2 → Ends c S w n (bnd R h) e a2 w2 := by
 rintro e a2 w2 ⟨s, c2, h1, h2, h3, h4⟩; exact ⟨s, c2, hb s h1, h2, hf.trans h3, h4⟩
theorem Ends.one {S : St} {n : Nat} {e : Ex} (h : SR c S a w n) : Ends c S w n (.one (e, S)) (exr e) a w := ⟨(e, S), c, rfl, h, .refl _ _ _ _, rfl⟩
theorem reg_ok (hD : DrawOK P) (hcall : CallOK P call) (id : Nat) (ops : Array Oper) (d : Bool) (ih : Code → St → Cm.Out) {n : Nat} {S : St} (hds : dsR n ops.toList = true) (h : SR c S a w n) (hf : (cReg id ops d P call ih S).fine) : (Code.region id ops d).wp P (Ends c S w n (cReg id ops d P call ih S)) a w := by
 cases d with
 | true => exact hD call id ops n S c a w hcall hds h hf
 | false =>
  refine wp_region_list (seq_list hcall ops n ops.toList S c a w hds h hf fun r c' a' w' h1 h2 h3 h4 => ⟨r, c', h1, h2, h3, by rw [h4]; rfl⟩)
theorem code_ok (hD : DrawOK P) (hcall : CallOK P call) {ih : Code → St → Cm.Out} (hih : ExecOK P ih) : ExecOK P (fun cd S => cdF cd P call ih S) := by
 intro n cd S c a w hds h hf
 cases cd with
 | skip => exact wpX_of (by simp) (wp_skip (Ends.one h))
 | region id ops d => exact wpX_of (by simp) (reg_ok hD hcall id ops d ih hds h hf)
 | seq x y =>
  obtain ⟨d1, d2⟩ := cond_and (show (bif dsC n x then dsC n y else false) = true from hds); obtain ⟨h1, h2⟩ := bnd_fine (show (bnd (ih x S) (kSeq y ih)).fine from hf); refine wpX_of (by simp) (wp_seq (wp_mono (hih n x S c a w d1 h h1).1 ?_)); rintro e a' w' ⟨r, c', hr, hs, hfr, rfl⟩; obtain ⟨h3, h4⟩ := h2 r hr; obtain ⟨x1, S1⟩ := r
  cases x1 with
  | normal => exact wp_mono (hih n y S1 c' a' w' d2 hs h3).1 (Ends.back hr h4 hfr)
  | exit id => exact Ends.back hr h4 hfr _ _ _ (Ends.one hs)
  | ret => exact Ends.back hr h4 hfr _ _ _ (Ends.one hs)
 | cond x y z =>
  obtain ⟨d1, d2⟩ := cond_and (show (bif dsC n y then dsC n z else false) = true from hds)
  replace hf : (kCond y z ih S (asB (ev S.f x))).fine := hf
  show wpX P _ (Ends c S w n (kCond y z ih S (asB (ev S.f x)))) a w
  cases hb : asB (ev S.f x) with
  | none => rw [hb] at hf; exact hf.elim
  | some t =>
   rw [hb] at hf; have hv := asB_rel (h.evs x) hb
   cases t with
   | true => exact wpX_of (by simp) (wp_cond_true hv (hih n y S c a w d1 h hf).1)
   | false => exact wpX_of (by simp) (wp_cond_false hv (hih n z S c a w d2 h hf).1)
 | block id x =>
  obtain ⟨h1, h2⟩ := bnd_fine (show (bnd (ih x S) (kBlk id)).fine from hf); refine wpX_of (by simp) (wp_block (wp_mono (hih n x S c a w hds h h1).1 ?_)); rintro e a' w' ⟨r, c', hr, hs, hfr, rfl⟩; obtain ⟨h3, h4⟩ := h2 r hr; obtain ⟨x1, S1⟩ := r
  cases x1 with
  | normal => exact Ends.back hr h4 hfr _ _ _ (Ends.one hs)
  | exit j =>
   have hk : kBlk id (.exit j, S1) = bif Nat.beq j id then .one (.normal, S1) else .one (.exit j, S1) := rfl
   show if j = id then Ends c S w n (bnd (ih x S) (kBlk id)) .normal a' w' else Ends c S w n (bnd (ih x S) (kBlk id)) (.exit j) a' w'
   by_cases e : j = id
   ·subst e; rw [if_pos rfl]; rw [show Nat.beq j j = true from Nat.beq_refl j] at hk; exact Ends.back hr h4 hfr _ _ _ (by rw [hk]; exact Ends.one (e := .normal) hs)
   ·rw [if_neg e]
    have hb : Nat.beq j id = false := by
     cases hb : Nat.beq j id with
     | false => rfl
     | true => exact absurd (Nat.eq_of_beq_eq_true hb) e
    rw [hb] at hk; exact Ends.back hr h4 hfr _ _ _ (by rw [hk]; exact Ends.one (e := .exit j) hs)
  | ret => exact Ends.back hr h4 hfr _ _ _ (Ends.one hs)
 | loop x =>
  obtain ⟨h1, h2⟩ := bnd_fine (show (bnd (ih x S) (kSeq (.loop x) ih)).fine from hf)
  have hl : LoopWp P x (Ends c S w n (bnd (ih x S) (kSeq (.loop x) ih))) a w := by
   refine LoopWp.round (wp_mono (hih n x S c a w hds h h1).1 ?_); rintro e a' w' ⟨r, c', hr, hs, hfr, rfl⟩; obtain ⟨h3, h4⟩ := h2 r hr; obtain ⟨x1, S1⟩ := r
   cases x1 with
   | normal => exact LoopWp.mono ((hih n (.loop x) S1 c' a' w' hds hs h3).2 x rfl) (Ends.back hr h4 hfr)
   | exit id => exact Ends.back hr h4 hfr _ _ _ (Ends.one hs)
   | ret => exact Ends.back hr h4 hfr _ _ _ (Ends.one hs)
  exact ⟨hl.wp, fun b e => by injection e with e; subst e; exact hl⟩
 | rangeFunc _ _ _ _ => exact hf.elim
 | exit id => exact wpX_of (by simp) (wp_exit (Ends.one (e := .exit id) h))
 | scope x =>
  refine wpX_of (by simp) (wp_scope_straight (wp_mono (hih n x S c a w hds h hf).1 ?_)); rintro e a' w' ⟨r, c', hr, hs, hfr, rfl⟩; obtain ⟨x1, S1⟩ := r
  cases x1 <;> exact ⟨_, c', hr, hs, hfr, rfl⟩
 | label l => exact wpX_of (by simp) (wp_label (Ends.one (e := .normal) h))
 | goto l => exact hf.elim
 | ret => exact wpX_of (by simp) (wp_ret (Ends.one (e := .ret) h))
 | refuse _ => exact hf.elim

theorem resF_rel {S : St} {n : Nat} (h : SR c S a w n) {v : ResultVar} {x : AV} (hx : resF P S v = some x) : ∃ u, (rv1 a.tmps v).run P w = .ok u w ∧ RA c S.c u x := by
 cases v with
 | tmp t => exact ⟨_, rfl, toA_rel (h.sl t) hx⟩
 | cell p T =>
  replace hx : resC S.m (lyt P T) (asP (S.f.get p)) = some x := hx
  cases hl : lyt P T with
  | none => rw [hl] at hx; cases asP (S.f.get p) <;> cases hx
  | some q =>
   cases hp : asP (S.f.get p) with
   | none => rw [hl, hp] at hx; cases hx
   | some A =>
    rw [hl, hp] at hx
    replace hx : (match ofL q.1 (ldC S.m A.1 A.2 q.2) with | some v => toA v | none => none) = some x := hx
    cases ho : ofL q.1 (ldC S.m A.1 A.2 q.2) with
    | none => rw [ho] at hx; cases hx
    | some y =>
     rw [ho] at hx; obtain ⟨hN, hv⟩ := asP_rel (h.sl p) hp; obtain ⟨xs, hxs, hg⟩ := ofL_some ho; obtain ⟨h1, vs, h2, h3, h4⟩ := ldC_rel h.mr hxs; obtain ⟨r1, r2⟩ := run_load_gen (P := P) (w := w) (lyt_is hl) (c.b A.1) A.2 vs h3 h2; simp only [Instr.loadAt, Instr.sureAddr, Sem.run_bind, Sem.run_pure, Result.andThen_ok] at r1 r2
     rcases hg with ⟨g1, rfl⟩ | ⟨g1, z, rfl, rfl⟩
     ·replace hx : some (AV.g xs) = some x := hx
      injection hx with hx; subst hx
      exact ⟨.agg vs.toArray, by simp only [rv1, hv, asAddr, Sem.run_bind, Sem.run_pure, Result.andThen_ok, r1 g1], _, rfl, by simpa using h4⟩
     ·replace hx : some (AV.c z) = some x := hx
      injection hx with hx; subst hx
      cases h4 with
      | @cons u _ us _ h5 h6 =>
       cases h6
       exact ⟨u, by simp only [rv1, hv, asAddr, Sem.run_bind, Sem.run_pure, Result.andThen_ok, r2 g1 u rfl], h5⟩
theorem resFs_rel {S : St} {n : Nat} (h : SR c S a w n) : ∀ {rs : List ResultVar} {xs : List AV}, resFs P S rs = some xs → ∃ us, (rs.mapM (rv1 a.tmps)).run P w = .ok us w ∧ F2 (RA c S.c) us xs
 | [], xs, hx => by
  have : xs = [] := (Option.some.inj hx).symm; subst this; exact ⟨[], by simp, .nil⟩
 | v :: r, xs, hx => by
  obtain ⟨x, l, e1, e2, rfl⟩ := cons?_some (show cons? (resF P S v) (resFs P S r) = some xs from hx); obtain ⟨u, h1, h2⟩ := resF_rel h e1; obtain ⟨us, h3, h4⟩ := resFs_rel h e2; refine ⟨u :: us, ?_, .cons h2 h4⟩; rw [List.mapM_cons]; simp only [Sem.run_bind, h1, h3, Result.andThen_ok, Sem.run_pure]
theorem ret_rel {S : St} {n : Nat} (h : SR c S a w n) {fn : Func} {xs : List AV} (hx : resFs P S fn.results.toList = some xs) : ∃ v, (results fn a.tmps).run P w = .ok v w ∧ RS c S.c v (Cm.oneV xs) := by
 obtain ⟨us, h1, h2⟩ := resFs_rel h hx; refine ⟨Go.Proofs.YtbgifiijjjoebaaGreatDoor.oneV us, ?_, ?_⟩
 ·show (do let vs ← fn.results.mapM (rv1 a.tmps); pure (if h : vs.size = 1 then vs[0] else .tuple vs) : Sem Value).run P w = _
  rw [Array.mapM_eq_mapM_toList]; simp only [Sem.run_bind, map_eq_pure_bind, h1, Result.andThen_ok, Sem.run_pure]
  congr 1
  match us with
  | [] => rfl
  | [u] => rfl
  | _ :: _ :: _ => simp [Go.Proofs.YtbgifiijjjoebaaGreatDoor.oneV]
 ·match us, xs, h2 with
  | _, _, .nil => exact ⟨_, rfl, .nil⟩
  | _, _, .cons h1 .nil => exact toR_rel h1
  | _, _, .cons h1 (.cons h2 h3) => exact ⟨_, rfl, .cons h1 (.cons h2 h3)⟩
theorem begL_get (k : Nat) (r : Tr SV) (t : Nat) : ∀ (l : List SV) (s : SL) (i : Nat), fgetL k r t (List.rec (motive := fun _ => SL → Nat → SL) (fun s _ => s) (fun x _ ih s i => ih (.cons i x s) (Nat.add i 1)) l s i) = if i ≤ t ∧ t < i + l.length then l.getD (t - i) .u else fgetL k r t s
 | [], s, i => by
  show fgetL k r t s = _
  rw [if_neg (by simp only [List.length_nil]; omega)]
 | x :: l, s, i => by
  show fgetL k r t (List.rec (motive := fun _ => SL → Nat → SL) (fun s _ => s) (fun x _ ih s i => ih (.cons i x s) (Nat.add i 1)) l (.cons i x s) (i + 1)) = _
  rw [begL_get k r t l (.cons i x s) (i + 1)]
  by_cases h1 : i + 1 ≤ t ∧ t < i + 1 + l.length
  ·rw [if_pos h1, if_pos (by simp only [List.length_cons]; omega)]
   have : t - i = (t - (i + 1)) + 1 := by omega
   rw [this, List.getD_cons_succ]
  ·rw [if_neg h1]
   show (Bool.rec (fgetL k r t s) x (Nat.beq i t) : SV) = _
   by_cases h : i = t
   ·subst h; rw [show Nat.beq i i = true from Nat.beq_refl i, if_pos (by simp)]; simp
   ·have hb : Nat.beq i t = false := by
     cases hb : Nat.beq i t with
     | false => rfl
     | true => exact absurd (Nat.eq_of_beq_eq_true hb) h
    rw [hb, if_neg (by simp only [List.length_cons]; omega)]
theorem beg_sr {m : Mm} {N : Bp} (h : MR c N m w) {fn : Func} {cd : Code} {args : List SV} {vs : Array Value} (hn : args.length ≤ fn.ntmps) (hargs : F2 (RS c N) vs.toList args) : SR c ⟨begF cd fn.results.toList args, m, N⟩ { tmps := vs ++ Array.replicate (fn.ntmps - vs.size) undef, defers := [] } w fn.ntmps := by
 have hal := forall2_len hargs; simp only [Array.length_toList] at hal; refine ⟨by simp; omega, rfl, fun t => ?_, h⟩
 show RS c N _ (fgetL (mskF cd fn.results.toList args.length) .e t (begL args))
 have hb : fgetL (mskF cd fn.results.toList args.length) .e t (begL args) = _ := begL_get (mskF cd fn.results.toList args.length) .e t args .nil 0; rw [hb]
 by_cases hlt : t < args.length
 ·rw [if_pos (by omega)]; have h3 := forall2_get hargs t (by simp; omega) hlt
  have e1 : args.getD (t - 0) .u = args[t] := by simp [List.getD, hlt]
  have e2 : (vs ++ Array.replicate (fn.ntmps - vs.size) undef).getD t undef = vs.toList[t]'(by simp; omega) := by
   simp [Array.getD, show t < vs.size by omega, Nat.lt_add_right _ (show t < vs.size by omega)]
  rw [e1, e2]; exact h3
 ·rw [if_neg (by omega)]
  show RS c N _ (Bool.rec .u (gd (Tr.get .e (toB t))) (bitB (mskF cd fn.results.toList args.length) t) : SV)
  rw [get_e]
  cases bitB (mskF cd fn.results.toList args.length) t <;> trivial

def isAt (s : String) : Bool := s == "sync/atomic.StorePointer" || s == "sync/atomic.LoadPointer" || s == "sync/atomic.CompareAndSwapPointer"
def extOk (P : Program) : Bool := P.funcs.toList.all fun fn => !(fn.name == "runtime.NumGoroutine") && (fn.body.isSome || !(isAt fn.name) || (Extern.findNext fn).isNone)
theorem extOk_at (h : extOk P = true) {n : FuncId} {fn : Func} (hf : P.funcs[n]? = some fn) : (fn.name == "runtime.NumGoroutine") = false ∧ (fn.body = none → isAt fn.name = true → Extern.findNext fn = none) := by
 have hm : fn ∈ P.funcs.toList := by
  rw [← Array.getElem?_toList] at hf; exact List.mem_of_getElem? hf
 have := List.all_eq_true.1 h fn hm; simp only [Bool.and_eq_true, Bool.not_eq_true', Bool.or_eq_true] at this; refine ⟨this.1, fun hb ha => ?_⟩
 rcases this.2 with (h1 | h1) | h1
 ·rw [hb] at h1; cases h1
 ·rw [ha] at h1; cases h1
 ·simpa using h1
theorem find_store {fn : Func} (h : fn.name = "sync/atomic.StorePointer") : Extern.find fn = some Extern.Atomic.storeT := by
 unfold Extern.find; rw [h]
 rfl
theorem find_load {fn : Func} (h : fn.name = "sync/atomic.LoadPointer") : Extern.find fn = some (Extern.Atomic.loadT .ptr) := by
 unfold Extern.find; rw [h]
 rfl
theorem find_cas {fn : Func} (h : fn.name = "sync/atomic.CompareAndSwapPointer") : Extern.find fn = some (Extern.Atomic.casT .ptr) := by
 unfold Extern.find; rw [h]
 rfl
theorem body_ok {ih : Code → St → Cm.Out} (hih : ExecOK P ih) {n : FuncId} {fn : Func} {cd : Code} (hf : P.funcs[n]? = some fn) (hb : fn.body = some cd) {args : List SV} {vs : Array Value} (hds : dsC fn.ntmps cd = true) (hn : args.length ≤ fn.ntmps) (hargs : F2 (RS c N) vs.toList args) (h : MR c N m w)
  (hfi : (bnd (ih cd ⟨begF cd fn.results.toList args, m, N⟩) (retK P fn.results.toList)).fine) : Calls P n vs w fun e w' => ∃ r v, (bnd (ih cd ⟨begF cd fn.results.toList args, m, N⟩) (retK P fn.results.toList)).mem r ∧ e = .returned v ∧ Post c N m w r v w' := by
 obtain ⟨h1, h2⟩ := bnd_fine hfi; refine calls_of_wp hf hb (wp_mono (hih fn.ntmps cd _ c _ w hds (beg_sr (fn := fn) (cd := cd) h hn hargs) h1).1 ?_); rintro e a' w' ⟨r, c', hr, hs, hfr, rfl⟩; obtain ⟨h3, h4⟩ := h2 r hr; obtain ⟨x, S⟩ := r
 have fin : (retV S (resFs P S fn.results.toList)).fine → (∀ b, (retV S (resFs P S fn.results.toList)).mem b → (bnd (ih cd ⟨begF cd fn.results.toList args, m, N⟩) (retK P fn.results.toList)).mem b) → a'.defers = [] ∧ ∃ v, (results fn a'.tmps).run P w' = .ok v w' ∧
   ∃ r v', (bnd (ih cd ⟨begF cd fn.results.toList args, m, N⟩) (retK P fn.results.toList)).mem r ∧ Ending.returned v = .returned v' ∧ Post c N m w r v' w' := fun h5 h6 => by
  cases hx : resFs P S fn.results.toList with
  | none => rw [hx] at h5; exact h5.elim
  | some xs =>
   rw [hx] at h6; obtain ⟨v, e1, e2⟩ := ret_rel hs hx; exact ⟨hs.df, v, e1, _, v, h6 _ rfl, rfl, c', e2, hs.mr, hfr⟩
 cases x with
 | normal => exact fin h3 h4
 | ret => exact fin h3 h4
 | exit id => exact h3.elim
theorem isoK_fine {m mr : Mm} {ks : List Bp} {R : Res} (h : (isoK m mr ks R).fine) : R.fine ∧ ∀ r, R.mem r → (isoK m mr ks R).mem ⟨r.v, (m.dif mr).uni (rch r.m 10000 (nmS r.v ks)), r.c⟩ := by
 cases R with
 | no w => exact h.elim
 | one r => exact ⟨trivial, fun s hs => by cases hs; exact rfl⟩
 | two r s =>
  replace h : (bif rtB (gc ks r) (gc ks s) then isoJ m mr (gc ks r) else .no ["iso"] : Res).fine := h
  have hk : isoK m mr ks (.two r s) = bif rtB (gc ks r) (gc ks s) then isoJ m mr (gc ks r) else .no ["iso"] := rfl
  rw [hk]
  cases hb : rtB (gc ks r) (gc ks s) with
  | false => rw [hb] at h; exact h.elim
  | true =>
   refine ⟨trivial, fun q hq => ?_⟩; have e := rtB_eq hb
   rcases hq with rfl | rfl
   ·exact rfl
   ·show isoJ m mr (gc ks r) |>.mem _
    rw [e]; exact rfl
theorem iso_ok {mr : Mm} {ks : List Bp} (h : MR c N m w) (hs : Sub mr m) {r : Rt} {v : Value} {w' : World} (hp : Post c N mr w r v w') : Post c N m w ⟨r.v, (m.dif mr).uni (rch r.m 10000 (nmS r.v ks)), r.c⟩ v w' := by
 obtain ⟨c', h1, h2, h3⟩ := hp; have hsub := rch_sub r.m 10000 (nmS r.v ks)
 have := h.rest (m2 := rch r.m 10000 (nmS r.v ks)) hs (h3.sub fun k ob hk => ⟨ob, hsub k ob hk⟩) (h2.sub hsub) (m' := (m.dif mr).uni (rch r.m 10000 (nmS r.v ks))) fun k ob hk => by
  rw [get_uni] at hk
  cases hq : (rch r.m 10000 (nmS r.v ks)).get k with
  | some x => rw [hq] at hk; exact .inl hk
  | none =>
   rw [hq] at hk
   replace hk : (m.dif mr).get k = some ob := hk
   rw [get_dif] at hk
   cases hz : mr.get k with
   | some x => rw [hz] at hk; cases hk
   | none => rw [hz] at hk; exact .inr ⟨rfl, rfl, hk⟩
 exact ⟨c', h1, this.1, this.2⟩
theorem call_body {ih : Code → St → Cm.Out} (hih : ExecOK P ih) {fk : String → Bool} {n : FuncId} {fn : Func} {cd : Code} (hf : P.funcs[n]? = some fn) (hb : fn.body = some cd) {args : List SV} {vs : Array Value} (hargs : F2 (RS c N) vs.toList args) (h : MR c N m w)
  (hfi : (callS P fk ih n args m N).fine) : Calls P n vs w fun e w' => ∃ r v, (callS P fk ih n args m N).mem r ∧ e = .returned v ∧ Post c N m w r v w' := by
 have e0 : callS P fk ih n args m N = tagR fn.name (bodyK P fk ih fn args m N fn.body) := by
  show fnK P fk ih args m N (P.funcs[n]?) = _
  rw [hf]; rfl
 rw [e0] at hfi ⊢; have e2 := tagR_fine hfi; rw [e2] at hfi ⊢; rw [hb] at hfi ⊢
 have e1 : bodyK P fk ih fn args m N (some cd) = bif dsC fn.ntmps cd && Nat.ble args.length fn.ntmps then (bif fk fn.name then isoF P ih fn cd args m N (rch m 10000 (nmX args)) else bnd (ih cd ⟨begF cd fn.results.toList args, m, N⟩) (retK P fn.results.toList)) else .no ["ds"] := rfl
 rw [e1] at hfi ⊢
 cases hC : (dsC fn.ntmps cd && Nat.ble args.length fn.ntmps) with
 | false => rw [hC] at hfi; exact hfi.elim
 | true =>
  rw [hC] at hfi; simp only [Bool.and_eq_true] at hC; have hn := Nat.le_of_ble_eq_true hC.2
  cases hk : fk fn.name with
  | false =>
   rw [hk] at hfi; exact body_ok hih hf hb hC.1 hn hargs h hfi
  | true =>
   rw [hk] at hfi
   replace hfi : (isoK m (rch m 10000 (nmX args)) (nmX args) (bnd (ih cd ⟨begF cd fn.results.toList args, rch m 10000 (nmX args), N⟩) (retK P fn.results.toList))).fine := hfi
   show Calls P n vs w fun e w' => ∃ r v, (isoK m (rch m 10000 (nmX args)) (nmX args) (bnd (ih cd ⟨begF cd fn.results.toList args, rch m 10000 (nmX args), N⟩) (retK P fn.results.toList))).mem r ∧ e = .returned v ∧ Post c N m w r v w'
   have hsub := rch_sub m 10000 (nmX args); generalize rch m 10000 (nmX args) = mr at hfi hsub ⊢; obtain ⟨h1, h2⟩ := isoK_fine hfi; refine (body_ok hih hf hb hC.1 hn hargs (h.sub hsub) h1).mono ?_; rintro e w' ⟨r, v, h3, h4, h5⟩; exact ⟨_, v, h2 r h3, h4, iso_ok h hsub h5⟩
theorem ext_ok (hE : extOk P = true) {n : FuncId} {fn : Func} (hf : P.funcs[n]? = some fn) (hb : fn.body = none) {args : List SV} {vs : Array Value} (hargs : F2 (RS c N) vs.toList args) (h : MR c N m w)
  (hfi : (extF fn.name args m N).fine) : ∃ r v w', (extF fn.name args m N).mem r ∧ (callFunc n vs).run P w = .ok (.value v) w' ∧ Post c N m w r v w' := by
 obtain ⟨q1, q2⟩ := extOk_at hE hf
 have e0 : extF fn.name args m N = bif fn.name == "sync/atomic.StorePointer" then atS args m N else bif fn.name == "sync/atomic.LoadPointer" then atL args m N else bif fn.name == "sync/atomic.CompareAndSwapPointer" then atC args m N else .no ["extern"] := rfl
 have run : ∀ e, isAt fn.name = true → Extern.find fn = some e → (callFunc n vs).run P w = ((e vs).run P w).andThen fun v w' => .ok (.value v) w' := fun e ha he => run_callFunc_extern hf q1 (by rw [hb]; rfl) (q2 hb ha) he vs w
 rw [e0] at hfi ⊢
 have cell : ∀ {k : Bp} {o : Nat} {x : SV}, ofL false (ldC m k o 1) = some x → ∃ y u, x = .c y ∧ w.cell? ⟨c.b k, o, none⟩ = some u ∧ RC c N u y := fun {k o x} hx => by
  obtain ⟨xs, hxs, hg⟩ := ofL_some hx; obtain ⟨h1, us, h2, h3, h4⟩ := ldC_rel h hxs
  rcases hg with ⟨g1, _⟩ | ⟨_, z, rfl, rfl⟩
  ·cases g1
  ·cases h4 with
   | @cons u _ us _ h5 h6 =>
    cases h6
    exact ⟨z, u, rfl, by have := h3 0 u rfl; simpa using this, h5⟩
 have sto : ∀ {k : Bp} {o : Nat} {y : CV} {u : Value} {m' : Mm}, stC m k o [y] = some m' → RC c N u y → ∃ z, w.cell? ⟨c.b k, o, none⟩ = some z ∧ w.frozen? ⟨c.b k, o, none⟩ = false ∧ (store ⟨c.b k, o, none⟩ u .atomic).run P w = .ok () (w.setCell ⟨c.b k, o, none⟩ u) ∧ MR c N m' (w.setCell ⟨c.b k, o, none⟩ u) ∧ Fr c N m w c N m' (w.setCell ⟨c.b k, o, none⟩ u) := fun {k o y u m'} hs hu => by
  obtain ⟨g1, g2, g3, g4, g5⟩ := stC_rel h hs (vs := [u]) (.cons hu .nil); obtain ⟨z, hz⟩ := Option.isSome_iff_exists.1 (g1 0 (by simp)); have g2 := g2 0 (by simp); simp only [Nat.add_zero] at hz g2; refine ⟨z, hz, g2, ?_, g4, g5⟩; rw [run_store P w _ u .atomic (RC.one hu), hz]; simp [g2]
 cases hS : (fn.name == "sync/atomic.StorePointer") with
 | true =>
  rw [hS] at hfi
  replace hfi : (atS args m N).fine := hfi
  show ∃ r v w', (atS args m N).mem r ∧ _
  have hr := run _ (by simp only [isAt, hS, Bool.true_or]) (find_store (by simpa using hS)); rw [hr]; have h0 := hfi; unfold atS at h0
  split at h0
  ·rename_i x y
   match vs, hargs with
   | ⟨[vx, vy]⟩, .cons hx (.cons hy .nil) =>
    cases hp : asP x with
    | none => rw [hp] at h0; exact h0.elim
    | some A =>
     rw [hp] at h0; obtain ⟨m', hm, hok⟩ := okM_fine (show (okM (.t []) N (stC m A.1 A.2 [y])).fine from h0); obtain ⟨_, hv⟩ := asP_rel hx hp; obtain ⟨z, s1, s2, s3, s4, s5⟩ := sto hm hy; refine ⟨⟨.t [], m', N⟩, .tuple #[], _, ?_, ?_, c, ⟨_, rfl, .nil⟩, s4, s5⟩
     ·simp only [atS, hp, hok]; exact rfl
     ·subst hv
      show (Sem.run P (do
       store (← asAddr (.pointer (some ⟨c.b A.1, A.2, none⟩))) vy .atomic
       pure Extern.Atomic.none_) w).andThen _ = _
      simp only [asAddr, Sem.run_bind, Sem.run_pure, Result.andThen_ok, s3, Extern.Atomic.none_]
  ·exact h0.elim
 | false =>
  rw [hS] at hfi
  cases hL : (fn.name == "sync/atomic.LoadPointer") with
  | true =>
   rw [hL] at hfi
   replace hfi : (atL args m N).fine := hfi
   show ∃ r v w', (atL args m N).mem r ∧ _
   have hr := run _ (by simp only [isAt, hL, Bool.true_or, Bool.or_true]) (find_load (by simpa using hL)); rw [hr]; have h0 := hfi; unfold atL at h0
   split at h0
   ·rename_i x
    match vs, hargs with
    | ⟨[vx]⟩, .cons hx .nil =>
     cases hp : asP x with
     | none => rw [hp] at h0; exact h0.elim
     | some A =>
      rw [hp] at h0
      cases hl : ofL false (ldC m A.1 A.2 1) with
      | none => simp only [hl] at h0; exact h0.elim
      | some X =>
       obtain ⟨y, u, rfl, hc, hu⟩ := cell hl; simp only [hl] at h0
       cases hb2 : ptB y with
       | false => rw [hb2] at h0; exact h0.elim
       | true =>
        obtain ⟨_, hv⟩ := asP_rel hx hp; refine ⟨⟨.c y, m, N⟩, u, w, ?_, ?_, Post.same h hu⟩
        ·simp only [atL, hp, hl, hb2, cond_true]; exact rfl
        ·subst hv
         obtain ⟨A', hA'⟩ : ∃ A', u = .pointer A' := by
          cases y with
          | np => exact ⟨_, hu⟩
          | p k o => exact ⟨_, hu.2⟩
          | _ => cases hb2
         subst hA'
         show (Sem.run P (do Extern.Atomic.read .ptr (← asAddr (.pointer (some ⟨c.b A.1, A.2, none⟩)))) w).andThen _ = _
         simp [Extern.Atomic.read, asAddr, hc, Result.andThen]
   ·exact h0.elim
  | false =>
   rw [hL] at hfi
   cases hX : (fn.name == "sync/atomic.CompareAndSwapPointer") with
   | false => rw [hX] at hfi; exact hfi.elim
   | true =>
    rw [hX] at hfi
    replace hfi : (atC args m N).fine := hfi
    show ∃ r v w', (atC args m N).mem r ∧ _
    have hr := run _ (by simp only [isAt, hX, Bool.or_true]) (find_cas (by simpa using hX)); rw [hr]; have h0 := hfi; unfold atC at h0
    split at h0
    ·rename_i x z y
     match vs, hargs with
     | ⟨[vx, vz, vy]⟩, .cons hx (.cons hz (.cons hy .nil)) =>
      cases hp : asP x with
      | none => rw [hp] at h0; exact h0.elim
      | some A =>
       rw [hp] at h0
       cases hl : ofL false (ldC m A.1 A.2 1) with
       | none => simp only [hl] at h0; exact h0.elim
       | some X =>
        obtain ⟨q, u, rfl, hc, hu⟩ := cell hl; simp only [hl] at h0
        cases hpe : ptEq q z with
        | none => rw [hpe] at h0; exact h0.elim
        | some b =>
         rw [hpe] at h0; obtain ⟨_, hv⟩ := asP_rel hx hp; subst hv
         obtain ⟨A1, A2, hA1, hA2, hsame⟩ : ∃ A1 A2, u = .pointer A1 ∧ vz = .pointer A2 ∧ (samePointer A1 A2).run P w = .ok b w := by
          unfold ptEq at hpe
          split at hpe
          ·injection hpe with hpe; subst hpe
           exact ⟨_, _, hu, hz, rfl⟩
          ·injection hpe with hpe; subst hpe
           exact ⟨_, _, hu, hz.2, rfl⟩
          ·injection hpe with hpe; subst hpe
           exact ⟨_, _, hu.2, hz, rfl⟩
          ·rename_i k o j q
           cases hbp : bpB k j with
           | false => rw [hbp] at hpe; cases hpe
           | true =>
            rw [hbp] at hpe
            injection hpe with hpe; subst hpe
            have := bpB_eq hbp; subst this; refine ⟨_, _, hu.2, hz.2, ?_⟩
            have e1 : ((⟨c.b k, o, none⟩ : Addr) == ⟨c.b k, q, none⟩) = Nat.beq o q := by
             rw [Bool.eq_iff_iff, beq_iff_eq, Addr.mk.injEq]; simp
            simp [samePointer, sameAddr, e1]
          ·cases hpe
         subst hA1; subst hA2
         have hzf : w.frozen? ⟨c.b A.1, A.2, none⟩ = false := by
          obtain ⟨xs, hxs, _⟩ := ofL_some hl; obtain ⟨tl, T, sz, cs, hk, hle, _⟩ := ldX_some hxs; obtain ⟨cur, fz, r1, r2, r3, r4, r5, r6⟩ := h.ob A.1 _ hk; exact frozen_fz r1 r5 (by omega)
         have body : ((Extern.Atomic.casT .ptr #[.pointer (some ⟨c.b A.1, A.2, none⟩), .pointer A2, vy]).run P w) = (Sem.run P (do
           if b then store ⟨c.b A.1, A.2, none⟩ vy .atomic
           pure (Value.bool b)) w) := by
          show (Sem.run P (do
           let a' ← asAddr (.pointer (some ⟨c.b A.1, A.2, none⟩))
           if ← Extern.Atomic.touchesFrozen a' then unsupported (.unsafePointer "a write to bytes that a string shares")
           let eq ← match Extern.Atomic.T.ptr, ← Extern.Atomic.read .ptr a', Value.pointer A2 with
            | _, .int _ x, .int _ y => pure (x == y)
            | .ptr, .pointer x, .pointer y => samePointer x y
            | .int _, .pointer (some _), .int _ 0 | .int _, .int _ 0, .pointer (some _) => pure false
            | .int _, .pointer (some _), _ | .int _, _, .pointer (some _) => unsupported .addressObserved
            | _, _, _ => stuck "atomic.CompareAndSwap: old is no T"
           if eq then store a' vy .atomic
           pure (Value.bool eq)) w) = _
          simp [Extern.Atomic.touchesFrozen, Extern.Atomic.read, asAddr, viewAt, World.shape?_isSome_of_cell? hc, hc, hzf, hsame, Result.andThen]
         show ∃ r v w', _ ∧ ((Extern.Atomic.casT .ptr #[.pointer (some ⟨c.b A.1, A.2, none⟩), .pointer A2, vy]).run P w).andThen _ = _ ∧ _
         rw [body]
         cases b with
         | true =>
          obtain ⟨m', hm, hok⟩ := okM_fine (show (okM (.c (.b true)) N (stC m A.1 A.2 [y])).fine from h0); obtain ⟨_, s1, s2, s3, s4, s5⟩ := sto hm hy; refine ⟨⟨.c (.b true), m', N⟩, .bool true, _, ?_, ?_, c, rfl, s4, s5⟩
          ·simp only [atC, hp, hl, hpe, hok]; exact rfl
          ·simp only [if_true, Sem.run_bind, s3, Result.andThen_ok, Sem.run_pure]
         | false =>
          refine ⟨⟨.c (.b false), m, N⟩, .bool false, w, ?_, ?_, Post.same h rfl⟩
          ·simp only [atC, hp, hl, hpe]; exact rfl
          ·simp only [Bool.false_eq_true, if_false, Result.andThen_ok, Sem.run_pure]
    ·exact h0.elim
theorem call_ok (hE : extOk P = true) {ih : Code → St → Cm.Out} (hih : ExecOK P ih) (fk : String → Bool) : CallOK P (callS P fk ih) := by
 intro n args m N c w vs hargs h hf
 cases hfn : P.funcs[n]? with
 | none =>
  have e0 : callS P fk ih n args m N = fnK P fk ih args m N (P.funcs[n]?) := rfl; rw [e0, hfn] at hf; exact hf.elim
 | some fn =>
  have e0 : callS P fk ih n args m N = tagR fn.name (bodyK P fk ih fn args m N fn.body) := by
   show fnK P fk ih args m N (P.funcs[n]?) = _
   rw [hfn]; rfl
  cases hb : fn.body with
  | none =>
   refine .inr ?_; rw [e0] at hf ⊢; have e2 := tagR_fine hf; rw [e2] at hf ⊢; rw [hb] at hf ⊢; exact ext_ok hE hfn hb hargs h hf
  | some cd =>
   refine .inl ⟨?_, call_body hih hfn hb hargs h hf⟩
   have h1 : fn.name ≠ "runtime.NumGoroutine" := by simpa using (extOk_at hE hfn).1
   simp [callFunc, hfn, h1, hb]
theorem exec_ok (hD : DrawOK P) (hE : extOk P = true) (fk : String → Bool) : ∀ n, ExecOK P (exec P fk n)
 | 0 => fun _ _ _ _ _ _ _ _ hf => (show False from hf).elim
 | n + 1 => code_ok hD (call_ok hE (exec_ok hD hE fk n) fk) (exec_ok hD hE fk n)
theorem run_true (hD : DrawOK P) (hE : extOk P = true) (fk : String → Bool) (n : Nat) (f : FuncId) {fn : Func} {cd : Code} (hfn : P.funcs[f]? = some fn) (hb : fn.body = some cd) (h : isT (run P fk n f) = true) : Fn P f [] (.c (.b true)) := by
 intro w X vs hlay hX hargs
 have hvs : vs = #[] := by
  have := forall2_len hargs
  simpa using this
 subst hvs; have hm : MR ⟨fun _ => 0, fun _ => 0, fun _ => False⟩ .h .e w := ⟨fun k ob h => (by rw [get_e] at h; cases h), fun k ob h => (by rw [get_e] at h; cases h), fun k j x y h => (by rw [get_e] at h; cases h)⟩
 have hfi : (run P fk n f).fine := by
  cases hr : run P fk n f with
  | no w => rw [hr] at h; cases h
  | _ => trivial
 have hmem : ∀ r, (run P fk n f).mem r → r.v = .c (.b true) := fun r hr => by
  have key : ∀ r : Rt, isTv r = true → r.v = .c (.b true) := fun r h => by
   unfold isTv at h
   split at h
   ·assumption
   ·cases h
  cases hq : run P fk n f with
  | no w => rw [hq] at h; cases h
  | one r' => rw [hq] at h hr; cases hr; exact key _ h
  | two r1 r2 =>
   rw [hq] at h hr
   replace h : (isTv r1 && isTv r2) = true := h
   simp only [Bool.and_eq_true] at h
   rcases hr with rfl | rfl
   ·exact key _ h.1
   ·exact key _ h.2
 refine (call_body (exec_ok hD hE fk n) (vs := #[]) hfn hb .nil hm hfi).mono ?_; rintro e w' ⟨r, v, h1, rfl, c', h2, h3, h4⟩; rw [hmem r h1] at h2; exact ⟨v, rfl, ⟨h4.os, h4.tape, h4.output, h4.size, fun k hk => h4.blk k hk fun j ob hj => by rw [get_e] at hj; cases hj⟩, h2⟩
end
end Go.Proofs.YtbgifiijjjoebaaGreatDoor.Cm

namespace Go.Proofs.YtbgifiijjjoebaaGreatDoor.Cm
open Go Go.RowKit

theorem subB_is {a b : Nat} : subB a b = true ↔ ∀ i, a.testBit i = true → b.testBit i = true := by
 unfold subB
 constructor
 ·intro h i hi; have h := Nat.eq_of_beq_eq_true h
  have h2 : (a &&& b).testBit i = true := by
   have : (a &&& b) = a := h
   rw [this]; exact hi
  rw [Nat.testBit_and, Bool.and_eq_true] at h2; exact h2.2
 ·intro h
  have : (a &&& b) = a := by
   apply Nat.eq_of_testBit_eq
   intro i; rw [Nat.testBit_and]
   cases hi : a.testBit i with
   | false => rfl
   | true => rw [h i hi]; rfl
  show Nat.beq (a &&& b) a = true
  rw [this]; exact Nat.beq_refl a
theorem disB_is {a b : Nat} (h : disB a b = true) {i : Nat} (hi : a.testBit i = true) : b.testBit i = false := by
 unfold disB at h; have h := Nat.eq_of_beq_eq_true h
 have h2 : (a &&& b).testBit i = false := by
  have : (a &&& b) = 0 := h
  rw [this]; exact Nat.zero_testBit i
 rw [Nat.testBit_and, hi] at h2
 simpa using h2
theorem shl_bit (k i : Nat) : (Nat.shiftLeft 1 k).testBit i = decide (i = k) := by
 have : Nat.shiftLeft 1 k = 2 ^ k := Nat.one_shiftLeft k; rw [this, Nat.testBit_two_pow]; simp [eq_comm]
theorem sub_one {k a : Nat} : subB (Nat.shiftLeft 1 k) a = true ↔ a.testBit k = true := by
 rw [subB_is]
 constructor
 ·intro h; exact h k (by rw [shl_bit]; simp)
 ·intro h i hi; rw [shl_bit] at hi
  rw [of_decide_eq_true hi]; exact h
theorem dis_one {k a : Nat} : disB (Nat.shiftLeft 1 k) a = true ↔ a.testBit k = false := by
 constructor
 ·intro h; exact disB_is h (by rw [shl_bit]; simp)
 ·intro h; unfold disB
  have : (Nat.shiftLeft 1 k &&& a) = 0 := by
   apply Nat.eq_of_testBit_eq
   intro i; rw [Nat.testBit_and, shl_bit, Nat.zero_testBit]
   by_cases e : i = k
   ·subst e; rw [h]; simp
   ·simp [e]
  show Nat.beq (Nat.shiftLeft 1 k &&& a) 0 = true
  rw [this]; rfl
theorem bitB_is {m t : Nat} : bitB m t = m.testBit t := by
 unfold bitB; rw [Nat.testBit_eq_decide_div_mod_eq]
 show Nat.beq ((m >>> t) % 2) 1 = _
 rw [Nat.shiftRight_eq_div_pow]
 cases h : Nat.beq (m / 2 ^ t % 2) 1 with
 | true => rw [Nat.eq_of_beq_eq_true h]; rfl
 | false => have := Nat.ne_of_beq_eq_false h; simp [this]
theorem lor_bit (a b i : Nat) : (Nat.lor a b).testBit i = (a.testBit i || b.testBit i) := Nat.testBit_or a b i
theorem land_bit (a b i : Nat) : (Nat.land a b).testBit i = (a.testBit i && b.testBit i) := Nat.testBit_and a b i
theorem bpN_val : ∀ p : Bp, bpN p = p.val
 | .h => rfl
 | .o p => by
  show Nat.mul 2 (bpN p) = _
  rw [bpN_val p]; rfl
 | .i p => by
  show Nat.add (Nat.mul 2 (bpN p)) 1 = _
  rw [bpN_val p]; rfl

theorem anc_fold (bs : List Nat) : ∀ (l : List Edge) (a i : Nat), ((List.rec (motive := fun _ => Nat → Nat) (fun a => a) (fun e _ ih a => ih (ancE bs e a)) l a : Nat).testBit i = true) → a.testBit i = true ∨ ∃ e ∈ l, Region.binds .any e = true ∧ (i = e.on ∨ (bs.getD e.on 0).testBit i = true)
 | [], a, i, h => .inl h
 | e :: l, a, i, h => by
  rcases anc_fold bs l (ancE bs e a) i h with h1 | ⟨e', h2, h3⟩
  ·unfold ancE at h1
   cases hb : Region.binds .any e with
   | false => rw [hb] at h1; exact .inl h1
   | true =>
    rw [hb] at h1
    replace h1 : (Nat.lor a (Nat.lor (Nat.shiftLeft 1 e.on) (bs.getD e.on 0))).testBit i = true := h1
    rw [lor_bit, lor_bit, shl_bit, Bool.or_eq_true, Bool.or_eq_true] at h1
    rcases h1 with h1 | h1 | h1
    ·exact .inl h1
    ·exact .inr ⟨e, List.mem_cons_self, hb, .inl (of_decide_eq_true h1)⟩
    ·exact .inr ⟨e, List.mem_cons_self, hb, .inr h1⟩
  ·exact .inr ⟨e', List.mem_cons_of_mem _ h2, h3⟩
theorem ancO_bit {bs : List Nat} {o : Oper} {i : Nat} (h : (ancO bs o).testBit i = true) : ∃ e ∈ o.after, Region.binds .any e = true ∧ (i = e.on ∨ (bs.getD e.on 0).testBit i = true) := by
 rcases anc_fold bs o.after.toList 0 i h with h1 | ⟨e, h1, h2⟩
 ·rw [Nat.zero_testBit] at h1; cases h1
 ·exact ⟨e, by simpa using h1, h2⟩
theorem ancs_go : ∀ (l : List Oper) (bs : List Nat), ∃ r, (List.rec (motive := fun _ => List Nat → List Nat) (fun bs => bs) (fun o _ ih bs => ih (bs ++ [ancO bs o])) l bs : List Nat) = bs ++ r ∧ r.length = l.length ∧ ∀ k o, l[k]? = some o → r[k]? = some (ancO (bs ++ r.take k) o)
 | [], bs => ⟨[], by simp, rfl, fun k o h => by simp at h⟩
 | o :: l, bs => by
  obtain ⟨r, h1, h2, h3⟩ := ancs_go l (bs ++ [ancO bs o]); refine ⟨ancO bs o :: r, ?_, by simp [h2], fun k o' hk => ?_⟩
  ·show (List.rec (motive := fun _ => List Nat → List Nat) (fun bs => bs) (fun o _ ih bs => ih (bs ++ [ancO bs o])) l (bs ++ [ancO bs o]) : List Nat) = _
   rw [h1]; simp
  ·cases k with
   | zero =>
    simp only [List.getElem?_cons_zero, Option.some.injEq] at hk; subst hk; simp
   | succ k =>
    simp only [List.getElem?_cons_succ] at hk; have := h3 k o' hk; simp only [List.getElem?_cons_succ, List.take_succ_cons]; rw [this]; simp
theorem ancs_at {l : List Oper} {k : Nat} {o : Oper} (h : l[k]? = some o) : (ancs l).getD k 0 = ancO ((ancs l).take k) o := by
 obtain ⟨r, h1, h2, h3⟩ := ancs_go l []
 have e : ancs l = r := by
  show (List.rec (motive := fun _ => List Nat → List Nat) (fun bs => bs) (fun o _ ih bs => ih (bs ++ [ancO bs o])) l [] : List Nat) = _
  rw [h1]; rfl
 rw [e, List.getD_eq_getElem?_getD, h3 k o h]; simp
section
variable {ops : Array Oper}
def Closed (ops : Array Oper) (L : Nat → Prop) : Prop := ∀ j o, L j → ops[j]? = some o → ∀ e ∈ o.after, Region.binds .any e = true → L e.on
theorem dOk_is {bs : List Nat} (h : dOk ops bs = true) : (∀ j o, ops[j]? = some o → ∀ e ∈ o.after, Region.binds .any e = true → e.on < j) ∧ ∀ i j, i < j → j < ops.size → pairB ops bs i j = true := by
 unfold dOk at h; rw [List.all_eq_true] at h; refine ⟨fun j o ho e he hb => ?_, fun i j hij hj => ?_⟩
 ·have hj := (Array.getElem?_eq_some_iff.1 ho).1; have := h j (List.mem_range.2 hj); rw [Bool.and_eq_true] at this; have h1 := this.1; rw [ho] at h1; have h1 := List.all_eq_true.1 h1 e (by simpa using he); rw [hb] at h1
  have h1 : Nat.blt e.on j = true := by simpa using h1
  simpa [Nat.blt_eq] using h1
 ·have := h j (List.mem_range.2 hj); rw [Bool.and_eq_true] at this; exact List.all_eq_true.1 this.2 i (List.mem_range.2 hij)
theorem anc_lt (hE : ∀ j o, ops[j]? = some o → ∀ e ∈ o.after, Region.binds .any e = true → e.on < j) : ∀ (j i : Nat), ((ancs ops.toList).getD j 0).testBit i = true → i < j := by
 intro j
 induction j using Nat.strongRecOn with
 | _ j ih =>
  intro i h
  cases ho : ops.toList[j]? with
  | none =>
   have hl : (ancs ops.toList).length = ops.toList.length := by
    obtain ⟨r, h1, h2, _⟩ := ancs_go ops.toList []; have : ancs ops.toList = r := h1; rw [this, h2]
   rw [List.getD_eq_getElem?_getD, List.getElem?_eq_none (by rw [hl]; exact List.getElem?_eq_none_iff.1 ho)] at h; simp at h
  | some o =>
   rw [ancs_at ho] at h; obtain ⟨e, he, hb, h1⟩ := ancO_bit h; have hlt := hE j o (by simpa using ho) e he hb
   rcases h1 with rfl | h1
   ·exact hlt
   ·have : ((ancs ops.toList).getD e.on 0).testBit i = true := by
     rw [List.getD_eq_getElem?_getD] at h1 ⊢
     rwa [List.getElem?_take_of_lt hlt] at h1
    exact Nat.lt_trans (ih e.on hlt i this) hlt
theorem anc_in (hE : ∀ j o, ops[j]? = some o → ∀ e ∈ o.after, Region.binds .any e = true → e.on < j) {L : Nat → Prop} (hL : Closed ops L) : ∀ (j : Nat), (∀ o, ops[j]? = some o → ∀ e ∈ o.after, Region.binds .any e = true → L e.on) → ∀ i, ((ancs ops.toList).getD j 0).testBit i = true → L i := by
 intro j
 induction j using Nat.strongRecOn with
 | _ j ih =>
  intro hj i h
  cases ho : ops.toList[j]? with
  | none =>
   have hl : (ancs ops.toList).length = ops.toList.length := by
    obtain ⟨r, h1, h2, _⟩ := ancs_go ops.toList []; have : ancs ops.toList = r := h1; rw [this, h2]
   rw [List.getD_eq_getElem?_getD, List.getElem?_eq_none (by rw [hl]; exact List.getElem?_eq_none_iff.1 ho)] at h; simp at h
  | some o =>
   rw [ancs_at ho] at h; obtain ⟨e, he, hb, h1⟩ := ancO_bit h
   have ho' : ops[j]? = some o := by simpa using ho
   have hlt := hE j o ho' e he hb; have hon := hj o ho' e he hb
   rcases h1 with rfl | h1
   ·exact hon
   ·have : ((ancs ops.toList).getD e.on 0).testBit i = true := by
     rw [List.getD_eq_getElem?_getD] at h1 ⊢
     rwa [List.getElem?_take_of_lt hlt] at h1
    exact ih e.on hlt (fun o' ho' e' he' hb' => hL e.on o' hon ho' e' he' hb') i this
end

noncomputable def gOk (ops : Array Oper) (D : Dr) (o : Oper) : Option Bool := match o.guard with
 | none => some true
 | some g => grdT D.S.f g.2 (dstA ops g.1)
section
variable {P : Program} {call : CallF} {ops : Array Oper}
inductive StepD (P : Program) (call : CallF) (ops : Array Oper) (o : Oper) (b a : Nat) : Dr → Dr → Nat → SV → Ob → Prop
 | sk {D : Dr} {x : Ob} : gOk ops D o = some false → StepD P call ops o b a D (dNext D o .k) 4 .k x
 | pu {D : Dr} {x : Ob} {r : Rt} : gOk ops D o = some true → opC P o.op = 0 → oneR (opF o.op P call D.S.f .e D.S.c) = some r → StepD P call ops o b a D (dNext D o r.v) 0 r.v x
 | rd {D : Dr} {x : Ob} {r : Rt} : gOk ops D o = some true → opC P o.op = 1 → oneR (opF o.op P call D.S.f (view D.S.m D.j D.al a) D.S.c) = some r → nltB D.S.c (nmS r.v []) = true → hisB P call o D.S.f D.S.c D.al a D.l r.v D.h = true →
   StepD P call ops o b a D ⟨⟨put D.S.f o.dst r.v, D.S.m, D.S.c⟩, D.l, D.am, D.j, D.h, D.al, ⟨o, D.S.f, b, a, r.v⟩ :: D.q⟩ 1 r.v x
 | al {D : Dr} {x : Ob} {r : Rt} : gOk ops D o = some true → oneR (opF o.op P call D.S.f .e D.S.c) = some r → r.m.get D.S.c = some x → D.S.c.val < r.c.val →
   StepD P call ops o b a D ⟨⟨put D.S.f o.dst r.v, D.S.m, r.c⟩, D.l, Nat.lor D.am b, D.j, D.h, ⟨b, D.S.c, x⟩ :: D.al, D.q⟩ 2 r.v x
 | ld {D : Dr} {x : Ob} {r : Rt} : gOk ops D o = some true → subB D.l a = true → oneR (opF o.op P call D.S.f (view D.S.m D.j D.al a) D.S.c) = some r → D.S.c.val ≤ r.c.val → reB P call r.m (Nat.lor D.j (Nat.land a D.am)) r.c D.al a D.q = true →
   StepD P call ops o b a D ⟨⟨put D.S.f o.dst r.v, r.m, r.c⟩, Nat.lor D.l b, D.am, Nat.lor D.j (Nat.land a D.am), ⟨D.S.m, D.j, D.l⟩ :: D.h, D.al, D.q⟩ 3 r.v x
noncomputable def chF (P : Program) (call : CallF) (ops : Array Oper) (l : List Oper) : Nat → List Nat → Dr → Out := List.rec dEnd (dCons P call ops) l
theorem step_of {o : Oper} {b a : Nat} {D : Dr} {ih : Dr → Out} (hf : (dGrd P call o b a ih D (gOk ops D o)).fine) : ∃ D' k v x, StepD P call ops o b a D D' k v x ∧ dGrd P call o b a ih D (gOk ops D o) = ih D' := by
 cases hg : gOk ops D o with
 | none => rw [hg] at hf; exact hf.elim
 | some g =>
  rw [hg] at hf
  cases g with
  | false => exact ⟨_, 4, .k, .m [], .sk hg, rfl⟩
  | true =>
   replace hf : (dCls P call o b a ih D (opC P o.op)).fine := hf
   show ∃ D' k v x, StepD P call ops o b a D D' k v x ∧ dCls P call o b a ih D (opC P o.op) = ih D'
   have hc : opC P o.op = 0 ∨ opC P o.op = 1 ∨ opC P o.op = 2 ∨ (dCls P call o b a ih D (opC P o.op) = bif subB D.l a then dLoud P call D o b a ih (oneR (opF o.op P call D.S.f (view D.S.m D.j D.al a) D.S.c)) else .no [o.pos, "order"]) := by
    match h : opC P o.op with
    | 0 => exact .inl rfl
    | 1 => exact .inr (.inl rfl)
    | 2 => exact .inr (.inr (.inl rfl))
    | n + 3 => exact .inr (.inr (.inr rfl))
   rcases hc with h | h | h | h
   ·rw [h] at hf ⊢
    replace hf : (dPure D o ih (oneR (opF o.op P call D.S.f .e D.S.c))).fine := hf
    show ∃ D' k v x, StepD P call ops o b a D D' k v x ∧ dPure D o ih (oneR (opF o.op P call D.S.f .e D.S.c)) = ih D'
    cases hr : oneR (opF o.op P call D.S.f .e D.S.c) with
    | none => rw [hr] at hf; exact hf.elim
    | some r => exact ⟨_, 0, r.v, .m [], .pu hg h hr, rfl⟩
   ·rw [h] at hf ⊢
    replace hf : (dRead P call D o b a ih (oneR (opF o.op P call D.S.f (view D.S.m D.j D.al a) D.S.c))).fine := hf
    show ∃ D' k v x, StepD P call ops o b a D D' k v x ∧ dRead P call D o b a ih (oneR (opF o.op P call D.S.f (view D.S.m D.j D.al a) D.S.c)) = ih D'
    cases hr : oneR (opF o.op P call D.S.f (view D.S.m D.j D.al a) D.S.c) with
    | none => rw [hr] at hf; exact hf.elim
    | some r =>
     rw [hr] at hf; unfold dRead at hf ⊢; simp only at hf ⊢
     cases hb : (bif nltB D.S.c (nmS r.v []) then hisB P call o D.S.f D.S.c D.al a D.l r.v D.h else false) with
     | false => rw [hb] at hf; exact hf.elim
     | true =>
      obtain ⟨h1, h2⟩ := cond_and hb; exact ⟨_, 1, r.v, .m [], .rd hg h hr h1 h2, rfl⟩
   ·rw [h] at hf ⊢
    replace hf : (dAll D o b ih (oneR (opF o.op P call D.S.f .e D.S.c))).fine := hf
    show ∃ D' k v x, StepD P call ops o b a D D' k v x ∧ dAll D o b ih (oneR (opF o.op P call D.S.f .e D.S.c)) = ih D'
    cases hr : oneR (opF o.op P call D.S.f .e D.S.c) with
    | none => rw [hr] at hf; exact hf.elim
    | some r =>
     rw [hr] at hf
     replace hf : (dAllO D o b ih r (r.m.get D.S.c)).fine := hf
     show ∃ D' k v x, StepD P call ops o b a D D' k v x ∧ dAllO D o b ih r (r.m.get D.S.c) = ih D'
     cases ho : r.m.get D.S.c with
     | none => rw [ho] at hf; exact hf.elim
     | some x =>
      rw [ho] at hf; unfold dAllO at hf ⊢; simp only at hf ⊢
      cases hb : Nat.blt (bpN D.S.c) (bpN r.c) with
      | false => rw [hb] at hf; exact hf.elim
      | true => exact ⟨_, 2, r.v, x, .al hg hr ho (by rw [bpN_val, bpN_val] at hb; simpa [Nat.blt_eq] using hb), rfl⟩
   ·rw [h] at hf ⊢
    cases hs : subB D.l a with
    | false => rw [hs] at hf; exact hf.elim
    | true =>
     rw [hs] at hf
     replace hf : (dLoud P call D o b a ih (oneR (opF o.op P call D.S.f (view D.S.m D.j D.al a) D.S.c))).fine := hf
     show ∃ D' k v x, StepD P call ops o b a D D' k v x ∧ dLoud P call D o b a ih (oneR (opF o.op P call D.S.f (view D.S.m D.j D.al a) D.S.c)) = ih D'
     cases hr : oneR (opF o.op P call D.S.f (view D.S.m D.j D.al a) D.S.c) with
     | none => rw [hr] at hf; exact hf.elim
     | some r =>
      rw [hr] at hf; unfold dLoud at hf ⊢; simp only at hf ⊢
      cases hb : (bif Nat.ble (bpN D.S.c) (bpN r.c) then reB P call r.m (Nat.lor D.j (Nat.land a D.am)) r.c D.al a D.q else false) with
      | false => rw [hb] at hf; exact hf.elim
      | true =>
       obtain ⟨h1, h2⟩ := cond_and hb; exact ⟨_, 3, r.v, .m [], .ld hg hs hr (by rw [bpN_val, bpN_val] at h1; exact Nat.le_of_ble_eq_true h1) h2, rfl⟩
theorem chain_of : ∀ (l : List Oper) (i : Nat) (bs : List Nat) (D : Dr), (chF P call ops l i bs D).fine → ∃ (T : Nat → Dr) (kd : Nat → Nat) (rv : Nat → SV) (ob : Nat → Ob), T i = D ∧
  (∀ k o, l[k]? = some o → StepD P call ops o (Nat.shiftLeft 1 (i + k)) (bs.getD k 0) (T (i + k)) (T (i + k + 1)) (kd (i + k)) (rv (i + k)) (ob (i + k))) ∧ chF P call ops l i bs D = dEnd 0 [] (T (i + l.length))
 | [], i, bs, D, _ => ⟨fun _ => D, fun _ => 0, fun _ => .u, fun _ => .m [], rfl, fun k o h => by simp at h, rfl⟩
 | o :: l, i, bs, D, hf => by
  have e : chF P call ops (o :: l) i bs D = dGrd P call o (Nat.shiftLeft 1 i) (bs.headD 0) (chF P call ops l (i + 1) bs.tail) D (gOk ops D o) := rfl; rw [e] at hf; obtain ⟨D', k, v, x, h1, h2⟩ := step_of hf; rw [h2] at hf; obtain ⟨T, kd, rv, ob, t1, t2, t3⟩ := chain_of l (i + 1) bs.tail D' hf; refine ⟨fun j => if j = i then D else T j, fun j => if j = i then k else kd j, fun j => if j = i then v else rv j, fun j => if j = i then x else ob j, by simp, fun q o' hq => ?_, ?_⟩
  ·cases q with
   | zero =>
    simp only [List.getElem?_cons_zero, Option.some.injEq] at hq; subst hq
    have : bs.getD 0 0 = bs.headD 0 := by cases bs <;> rfl
    simp only [Nat.add_zero, if_true, show i + 1 ≠ i by omega, if_false, t1, this]; exact h1
   | succ q =>
    simp only [List.getElem?_cons_succ] at hq; have := t2 q o' hq
    have hb : bs.getD (q + 1) 0 = bs.tail.getD q 0 := by cases bs <;> simp
    simp only [show i + (q + 1) ≠ i by omega, show i + (q + 1) + 1 ≠ i by omega, if_false, hb]; rw [show i + (q + 1) = i + 1 + q by omega]; exact this
  ·rw [e, h2, t3]; simp only [List.length_cons, show i + (l.length + 1) ≠ i by omega, if_false]; rw [show i + (l.length + 1) = i + 1 + l.length by omega]
end
end Go.Proofs.YtbgifiijjjoebaaGreatDoor.Cm
