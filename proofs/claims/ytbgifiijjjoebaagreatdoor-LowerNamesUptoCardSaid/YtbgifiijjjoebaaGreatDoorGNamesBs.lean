/- The machine's operations are the program's: one operation, with its calls; regions that keep their order. No conditions. -/
import Derived.Test.YtbgifiijjjoebaaGreatDoorGNamesBr
namespace Go.Proofs.YtbgifiijjjoebaaGreatDoor.Cm
open Go Go.RowKit

section
variable {P : Program} {c : Cx} {N : Bp} {m : Mm} {w : World} {o : Oper} {a : Act} {f : Fm} {call : CallF} {Q : Exit → Act → World → Prop}
def CallOK (P : Program) (call : CallF) : Prop := ∀ (n : FuncId) (args : List SV) (m : Mm) (N : Bp) (c : Cx) (w : World) (vs : Array Value), F2 (RS c N) vs.toList args → MR c N m w → (call n args m N).fine →
 (((callFunc n vs).run P w = .ok (.enter n vs) w ∧ Calls P n vs w fun e w' => ∃ r v, (call n args m N).mem r ∧ e = .returned v ∧ Post c N m w r v w') ∨
  ∃ r v w', (call n args m N).mem r ∧ (callFunc n vs).run P w = .ok (.value v) w' ∧ Post c N m w r v w')
def After (a : Act) (d : Option Nat) (c : Cx) (N : Bp) (m : Mm) (w : World) (R : Res) (a' : Act) (w' : World) : Prop := ∃ r v, R.mem r ∧ a' = a.put d v ∧ Post c N m w r v w'
theorem OpS.low {R : Res} (h : OpS P o a c N m w R) (hm : MR c N m w) : OpL P o a c N m w R := by
 rcases h with ⟨x, v, h1, h2, h3⟩ | ⟨_, h⟩
 ·exact ⟨_, v, w, h1, .inl h2, Post.same hm h3⟩
 ·exact h
theorem OpS.wp {R : Res} (h : OpS P o a c N m w R) (hm : MR c N m w) : o.wp P a w (After a o.dst c N m w R) Q := by
 obtain ⟨r, v, w', hr, hrun, hp⟩ := h.low hm; unfold Oper.wp
 rcases hrun with e | ⟨e, rfl⟩ <;> rw [e] <;> exact ⟨r, _, hr, rfl, hp⟩
theorem evs_rel : ∀ (l : List Operand), (∀ x ∈ l, RS c N (a.eval x) (ev f x)) → F2 (RS c N) (l.map a.eval) (evs f l)
 | [], _ => .nil
 | x :: r, hs => .cons (hs x List.mem_cons_self) (evs_rel r fun y hy => hs y (List.mem_cons_of_mem _ hy))
theorem evs_one {l : List Operand} {x : SV} (h : evs f l = [x]) : ∃ y, l = [y] ∧ x = ev f y := by
 match l, h with
 | [y], h => exact ⟨y, rfl, by injection h with h; exact h.symm⟩
 | [], h => cases h
 | _ :: _ :: _, h => injection h with _ h; cases h
theorem evs_two {l : List Operand} {x y : SV} (h : evs f l = [x, y]) : ∃ s t, l = [s, t] ∧ x = ev f s ∧ y = ev f t := by
 match l, h with
 | [s, t], h =>
  injection h with h1 h
  injection h with h2 h
  exact ⟨s, t, rfl, h1.symm, h2.symm⟩
 | [], h => cases h
 | [_], h => injection h with _ h; cases h
 | _ :: _ :: _ :: _, h => injection h with _ h; injection h with _ h; cases h
theorem lenP_one {ts : List TypeId} (h : lenP P ts ≠ 0) : ∃ t, ts = [t] := by
 unfold lenP at h
 split at h
 ·exact ⟨_, rfl⟩
 ·exact absurd rfl h
theorem elt1_two {ts : List TypeId} {e : Elt} (h : elt1 P ts = some e) : ∃ t u, ts = [t, u] := by
 unfold elt1 at h
 split at h
 ·exact ⟨_, _, rfl⟩
 ·cases h
theorem arr_of {α : Type} {x : Array α} {l : List α} (h : x.toList = l) : x = l.toArray := by rw [← h]
theorem blt_wp (h : MR c N m w) (b : Builtin) (args : Array Operand) (ts : Array TypeId) (hs : ∀ x ∈ args.toList, RS c N (a.eval x) (ev f x)) (ho : o.op = .call ⟨.builtin b, args, ts⟩) (hf : (bltF b ts.toList (evs f args.toList) P m N).fine) : OpS P o a c N m w (bltF b ts.toList (evs f args.toList) P m N) := by
 cases b with
 | len =>
  replace hf : (bLen (lenP P ts.toList) (evs f args.toList) m N).fine := hf
  show OpS P o a c N m w (bLen (lenP P ts.toList) (evs f args.toList) m N)
  have h0 := hf; unfold bLen at h0
  split at h0
  ·rename_i x hx
   obtain ⟨y, hy, rfl⟩ := evs_one hx; obtain ⟨n, hn, _⟩ := natO_fine h0
   have hp : lenP P ts.toList ≠ 0 := fun e => by
    rw [e] at hn
    cases hc : asC (ev f y) with
    | none => rw [hc] at hn; cases hn
    | some z =>
     rw [hc] at hn
     have : Nat.beq (lenK z) 0 = false := by cases z <;> rfl
     replace hn : (bif Nat.beq (lenK z) 0 then lenC m z else none) = some n := hn
     rw [this] at hn
     cases hn
   obtain ⟨t, ht⟩ := lenP_one hp; have e1 := arr_of hy; have e2 := arr_of ht
   subst e1; subst e2
   exact s_len h t y ho (hs y (by simp)) hf
  ·exact h0.elim
 | cap =>
  replace hf : (bCap (lenP P ts.toList) (evs f args.toList) m N).fine := hf
  show OpS P o a c N m w (bCap (lenP P ts.toList) (evs f args.toList) m N)
  have h0 := hf; unfold bCap at h0
  split at h0
  ·rename_i x hx
   obtain ⟨y, hy, rfl⟩ := evs_one hx; obtain ⟨n, hn, _⟩ := natO_fine h0
   have hp : lenP P ts.toList ≠ 0 := fun e => by
    rw [e] at hn
    cases hc : asC (ev f y) with
    | none => rw [hc] at hn; cases hn
    | some z => rw [hc] at hn; cases hn
   obtain ⟨t, ht⟩ := lenP_one hp; have e1 := arr_of hy; have e2 := arr_of ht
   subst e1; subst e2
   exact s_cap h t y ho (hs y (by simp)) hf
  ·exact h0.elim
 | append =>
  replace hf : (bApp (elt1 P ts.toList) (evs f args.toList) m N).fine := hf
  show OpS P o a c N m w (bApp (elt1 P ts.toList) (evs f args.toList) m N)
  have h0 := hf; unfold bApp at h0
  split at h0
  ·rename_i e s x he hx
   obtain ⟨y, z, hy, rfl, rfl⟩ := evs_two hx; obtain ⟨t, u, ht⟩ := elt1_two he; have e1 := arr_of hy; have e2 := arr_of ht
   subst e1; subst e2
   exact s_app h t u u y z ho (hs y (by simp)) (hs z (by simp)) (fun _ _ _ _ => .no []) hf
  ·exact h0.elim
 | copy =>
  replace hf : (bCop (elt1 P ts.toList) (evs f args.toList) m N).fine := hf
  show OpS P o a c N m w (bCop (elt1 P ts.toList) (evs f args.toList) m N)
  have h0 := hf; unfold bCop at h0
  split at h0
  ·rename_i e s x he hx
   obtain ⟨y, z, hy, rfl, rfl⟩ := evs_two hx; obtain ⟨t, u, ht⟩ := elt1_two he; have e1 := arr_of hy; have e2 := arr_of ht
   subst e1; subst e2
   exact s_copy h t u y z ho (hs y (by simp)) (hs z (by simp)) hf
  ·exact h0.elim
 | max =>
  replace hf : (bMax true (evs f args.toList) m N).fine := hf
  show OpS P o a c N m w (bMax true (evs f args.toList) m N)
  have h0 := hf; unfold bMax at h0
  split at h0
  ·rename_i x1 x2 hx
   obtain ⟨y, z, hy, rfl, rfl⟩ := evs_two hx; have e1 := arr_of hy; subst e1; exact s_max h true y z ts ho (hs y (by simp)) (hs z (by simp)) hf
  ·exact h0.elim
 | min =>
  replace hf : (bMax false (evs f args.toList) m N).fine := hf
  show OpS P o a c N m w (bMax false (evs f args.toList) m N)
  have h0 := hf; unfold bMax at h0
  split at h0
  ·rename_i x1 x2 hx
   obtain ⟨y, z, hy, rfl, rfl⟩ := evs_two hx; have e1 := arr_of hy; subst e1; exact s_max h false y z ts ho (hs y (by simp)) (hs z (by simp)) hf
  ·exact h0.elim
 | _ => exact hf.elim
theorem cap_rel : ∀ {cap : List Value} {ks : List (Bp × Nat)}, F2 (fun u p => Lv c N p.1 ∧ u = .pointer (some ⟨c.b p.1, p.2, none⟩)) cap ks → F2 (RS c N) cap (ks.map fun p => SV.c (.p p.1 p.2))
 | _, _, .nil => .nil
 | _, _, .cons h1 h2 => .cons h1 (cap_rel h2)
theorem val_wp (hcall : CallOK P call) (h : MR c N m w) (g : Operand) (args : Array Operand) (ts : Array TypeId) (hg : RS c N (a.eval g) (ev f g)) (hs : ∀ x ∈ args.toList, RS c N (a.eval x) (ev f x)) (ho : o.op = .call ⟨.value g, args, ts⟩) (hf : (clF call (evs f args.toList) m N (ev f g)).fine) : o.wp P a w (After a o.dst c N m w (clF call (evs f args.toList) m N (ev f g))) Q := by
 have h0 := hf; unfold clF at h0
 split at h0
 ·rename_i n ks hk
  rw [hk] at hg hf ⊢; obtain ⟨cap, hv, hc⟩ := hg
  replace hf : (call n (evs f args.toList ++ ks.map fun p => SV.c (.p p.1 p.2)) m N).fine := hf
  have hargs : F2 (RS c N) (args.map a.eval ++ cap).toList (evs f args.toList ++ ks.map fun p => SV.c (.p p.1 p.2)) := by
   rw [Array.toList_append, Array.toList_map]; exact forall2_app (evs_rel _ hs) (cap_rel hc)
  have hex : (execOp a.eval o).run P w = (callFunc n (args.map a.eval ++ cap)).run P w := by
   simp only [execOp, ho, resolve, Deferred.ofValue, hv, Sem.run_bind, Sem.run_pure, Result.andThen_ok, invoke, Array.empty_append]
  unfold Oper.wp; rw [hex]
  rcases hcall n _ m N c w _ hargs h hf with ⟨e1, e2⟩ | ⟨r, v, w', e1, e2, e3⟩
  ·rw [e1]; refine e2.mono ?_; rintro e w' ⟨r, v, h1, rfl, h2⟩; exact ⟨r, v, h1, rfl, h2⟩
  ·rw [e2]; exact ⟨r, v, e1, rfl, e3⟩
 ·exact h0.elim
theorem op_sp (h : MR c N m w) (hs : ∀ x ∈ o.op.operands.toList, RS c N (a.eval x) (ev f x)) (hv : ∀ g args ts, o.op ≠ .call ⟨.value g, args, ts⟩) (hf : (opF o.op P call f m N).fine) : OpS P o a c N m w (opF o.op P call f m N) := by
 revert hf hs hv
 cases ho : o.op <;> intro hs hv hf
 case move x => exact s_move h x (.inl ho) (hs x (by simp [Op.operands])) call
 case assign x => exact s_move h x (.inr ho) (hs x (by simp [Op.operands])) call
 case pick x y z => exact s_pick h x y z ho (hs x (by simp [Op.operands])) (hs y (by simp [Op.operands])) (hs z (by simp [Op.operands])) call hf
 case alloc T => exact s_alloc (f := f) h T ho call hf
 case box T x => exact s_box h T x ho (hs x (by simp [Op.operands])) call hf
 case build T ps => exact s_build h T ps ho (fun p hp => hs p.2 (by simp only [Op.operands]; exact List.mem_map_of_mem hp)) call hf
 case buildSlice T n ps => exact s_row h T n ps ho (fun p hp => hs p.2 (by simp only [Op.operands]; exact List.mem_map_of_mem hp)) call hf
 case load t x => exact s_load h t x ho (hs x (by simp [Op.operands])) call hf
 case store t x y => exact s_store h t x y ho (hs x (by simp [Op.operands])) (hs y (by simp [Op.operands])) call hf
 case nilCheck x => exact s_nil h x ho (hs x (by simp [Op.operands])) call hf
 case binOp op t x y u => exact s_bin h op t u x y ho (hs x (by simp [Op.operands])) (hs y (by simp [Op.operands])) call hf
 case unOp op t x => exact s_un h op t x ho (hs x (by simp [Op.operands])) call hf
 case convert t u x => exact s_conv h t u x ho (hs x (by simp [Op.operands])) call hf
 case makeFunc fn fi cap => exact s_func h fn fi cap ho (fun x hx => hs x (by simp only [Op.operands, Array.toList_append]; exact List.mem_append_right _ hx)) call hf
 case makeMap T r => exact s_mkmap h T r ho (fun y hy => hs y (by simp [Op.operands, hy])) call hf
 case makeSlice T l q => exact s_make h T l q ho (hs l (by simp [Op.operands])) (hs q (by simp [Op.operands])) call hf
 case slice T x lo hi mx => exact s_slice h T x lo hi mx ho (hs x (by simp [Op.operands])) (fun y hy => hs y (by simp [Op.operands, hy])) (fun y hy => hs y (by simp [Op.operands, hy])) (fun y hy => hs y (by simp [Op.operands, hy])) call hf
 case fieldAddr T x i => exact s_field h T x i ho (hs x (by simp [Op.operands])) call hf
 case field T x i => exact s_fieldv h T x i ho (hs x (by simp [Op.operands])) call hf
 case indexAddr T x y => exact s_index h T x y ho (hs x (by simp [Op.operands])) (hs y (by simp [Op.operands])) call hf
 case index T x y => exact s_char h T x y ho (hs x (by simp [Op.operands])) (hs y (by simp [Op.operands])) call hf
 case lookup T x y b => exact s_lookup h T x y b ho (hs x (by simp [Op.operands])) (hs y (by simp [Op.operands])) call hf
 case mapUpdate T x y z => exact s_upd h T x y z ho (hs x (by simp [Op.operands])) (hs y (by simp [Op.operands])) (hs z (by simp [Op.operands])) call hf
 case mapEntry T x y => exact s_ment h T x y ho (hs x (by simp [Op.operands])) (hs y (by simp [Op.operands])) call hf
 case entryStore T x y z => exact s_est h T x y z ho (hs x (by simp [Op.operands])) (hs y (by simp [Op.operands])) (hs z (by simp [Op.operands])) call hf
 case range T x => exact s_range h T x ho (hs x (by simp [Op.operands])) call hf
 case next x s => exact s_next h x s ho (hs x (by simp [Op.operands])) call hf
 case entry x => exact s_entry h x ho (hs x (by simp [Op.operands])) call hf
 case extract x j => exact s_extract h x j ho (hs x (by simp [Op.operands])) call hf
 case call q =>
  obtain ⟨callee, args, ts⟩ := q
  cases callee with
  | builtin b => exact blt_wp h b args ts (fun x hx => hs x (by simp only [Op.operands, Call.operands]; simp at hx ⊢; exact hx)) ho hf
  | value g => exact absurd rfl (hv g args ts)
  | invoke g nm => exact hf.elim
 all_goals exact hf.elim
theorem op_wp (hcall : CallOK P call) (h : MR c N m w) (hs : ∀ x ∈ o.op.operands.toList, RS c N (a.eval x) (ev f x)) (hf : (opF o.op P call f m N).fine) : o.wp P a w (After a o.dst c N m w (opF o.op P call f m N)) Q := by
 by_cases hv : ∃ g args ts, o.op = .call ⟨.value g, args, ts⟩
 ·obtain ⟨g, args, ts, ho⟩ := hv; rw [ho] at hs hf ⊢; exact val_wp hcall h g args ts (hs g (by simp [Op.operands, Call.operands])) (fun x hx => hs x (by simp [Op.operands, Call.operands]; simp at hx; exact .inr hx)) ho hf
 ·exact (op_sp h hs (fun g args ts e => hv ⟨g, args, ts, e⟩) hf).wp h
theorem op_q (h : MR c N m w) (hs : ∀ x ∈ o.op.operands.toList, RS c N (a.eval x) (ev f x)) (hq : opC P o.op < 2) (hf : (opF o.op P call f m N).fine) : OpQ P o a c N m w (opF o.op P call f m N) := by
 rcases op_sp h hs (fun g args ts e => by rw [e] at hq; exact absurd hq (by simp [opC, calC])) hf with h1 | ⟨h1, _⟩
 ·exact h1
 ·omega

theorem get_put (f : Fm) (d : Option Nat) (r : SV) (t : Nat) : (put f d r).get t = if d = some t then r else f.get t := by
 cases d with
 | none => simp [put]
 | some u =>
  show (Bool.rec (f.get t) r (Nat.beq u t) : SV) = _
  by_cases h : u = t
  ·subst h; rw [show Nat.beq u u = true from Nat.beq_refl u, if_pos rfl]
  ·have : Nat.beq u t = false := by
    cases hb : Nat.beq u t with
    | false => rfl
    | true => exact absurd (Nat.eq_of_beq_eq_true hb) h
   rw [this, if_neg (by simpa using h)]
theorem flush_at (k : Nat) (r : Tr SV) (t : Nat) (hk : bitB k t = true) : ∀ l : SL, gd ((flushT k r l).get (toB t)) = fgetL k r t l
 | .nil => by
  show gd (r.get (toB t)) = (Bool.rec .u (gd (r.get (toB t))) (bitB k t) : SV)
  rw [hk]
 | .cons j v l => by
  show gd ((Bool.rec (flushT k r l) ((flushT k r l).upd (toB j) (some v)) (bitB k j) : Tr SV).get (toB t)) = (Bool.rec (fgetL k r t l) v (Nat.beq j t) : SV)
  by_cases h : j = t
  ·subst h; rw [hk, show Nat.beq j j = true from Nat.beq_refl j]
   show gd (((flushT k r l).upd (toB j) (some v)).get (toB j)) = v
   rw [get_upd, if_pos rfl]
   rfl
  ·have hb : Nat.beq j t = false := by
    cases hb : Nat.beq j t with
    | false => rfl
    | true => exact absurd (Nat.eq_of_beq_eq_true hb) h
   rw [hb]
   show _ = fgetL k r t l
   rw [← flush_at k r t hk l]
   cases bitB k j with
   | false => rfl
   | true =>
    show gd (((flushT k r l).upd (toB j) (some v)).get (toB t)) = _
    rw [get_upd, if_neg fun e => h (toB_inj e).symm]
theorem flush_get (f : Fm) (t : Nat) : f.flush.get t = if bitB f.k t then f.get t else .u := by
 show (Bool.rec .u (gd ((flushT f.k f.r f.l).get (toB t))) (bitB f.k t) : SV) = _
 cases h : bitB f.k t with
 | false => rfl
 | true => exact flush_at f.k f.r t h f.l
structure SR (c : Cx) (S : St) (a : Act) (w : World) (n : Nat) : Prop where
 sz : a.tmps.size = n
 df : a.defers = []
 sl : ∀ t, RS c S.c (a.tmps.getD t undef) (S.f.get t)
 mr : MR c S.c S.m w
theorem SR.evs {S : St} {n : Nat} (h : SR c S a w n) (x : Operand) : RS c S.c (a.eval x) (ev S.f x) := ev_rel (ds := a.defers) h.sl x
theorem put_get (a : Act) (d : Option Nat) (v : Value) (t : Nat) (hd : ltO a.tmps.size d = true) : (a.put d v).tmps.getD t undef = if d = some t then v else a.tmps.getD t undef := by
 cases d with
 | none => simp [Act.put]
 | some u =>
  have hu : u < a.tmps.size := by simpa [ltO, Nat.blt_eq] using hd
  simp only [Act.put, Array.getD_eq_getD_getElem?, Array.getElem?_setIfInBounds, Option.some.injEq]
  by_cases h : u = t
  ·subst h; simp [hu]
  ·simp [h]
theorem put_size (a : Act) (d : Option Nat) (v : Value) : (a.put d v).tmps.size = a.tmps.size := by cases d <;> simp [Act.put]
theorem put_df (a : Act) (d : Option Nat) (v : Value) : (a.put d v).defers = a.defers := by cases d <;> rfl
theorem SR.step {S : St} {n : Nat} (h : SR c S a w n) {d : Option Nat} (hd : ltO n d = true) {r : Rt} {v : Value} {w' : World} {c' : Cx} (hr : RS c' r.c v r.v) (hm : MR c' r.c r.m w') (hf : Fr c S.c S.m w c' r.c r.m w') : SR c' ⟨put S.f d r.v, r.m, r.c⟩ (a.put d v) w' n :=
 ⟨by rw [put_size]; exact h.sz, by rw [put_df]; exact h.df, fun t => by
  show RS c' r.c _ ((put S.f d r.v).get t)
  rw [put_get a d v t (by rw [h.sz]; exact hd), get_put]
  split
  ·exact hr
  ·exact RS.mon hf.mon (h.sl t), hm⟩
theorem SR.skip {S : St} {n : Nat} (h : SR c S a w n) {d : Option Nat} (hd : ltO n d = true) : SR c ⟨put S.f d .k, S.m, S.c⟩ (a.put d undef) w n := h.step (r := ⟨.k, S.m, S.c⟩) hd rfl h.mr (.refl _ _ _ _)
theorem SR.flush {S : St} {n : Nat} (h : SR c S a w n) : SR c ⟨S.f.flush, S.m, S.c⟩ a w n :=
 ⟨h.sz, h.df, fun t => by
  show RS c S.c _ (S.f.flush.get t)
  rw [flush_get]
  split
  ·exact h.sl t
  ·trivial, h.mr⟩
theorem grd_is {S : St} {n : Nat} (h : SR c S a w n) {ops : Array Oper} {j : Nat} {want b : Bool} (hg : o.guard = some (j, want)) (hb : grdT S.f want (dstA ops j) = some b) : Region.wanted o (yielded ops a.tmps) = b := by
 cases hd : dstA ops j with
 | none => rw [hd] at hb; cases hb
 | some t =>
  rw [hd] at hb
  replace hb : grdV want (S.f.get t) = some b := hb
  have hr := h.sl t
  have hyd : yielded ops a.tmps j = (match a.tmps[t]? with | some (.bool x) => some x | _ => none) := by
   unfold yielded; have hd : (ops[j]?).bind (·.dst) = some t := hd; rw [hd]
   rfl
  unfold grdV at hb
  split at hb
  ·rename_i x hx
   rw [hx] at hr; have hr : a.tmps.getD t undef = .bool x := hr
   have hat : a.tmps[t]? = some (.bool x) := by
    rw [Array.getD_eq_getD_getElem?] at hr
    cases hq : a.tmps[t]? with
    | none => rw [hq] at hr; cases hr
    | some q => rw [hq] at hr; exact congrArg some hr
   injection hb with hb
   subst hb; simp only [Region.wanted, hg, hyd, hat]
   cases x <;> cases want <;> rfl
  ·rename_i hx
   rw [hx] at hr; have hr : a.tmps.getD t undef = undef := hr
   injection hb with hb
   subst hb; simp only [Region.wanted, hg, hyd]; rw [Array.getD_eq_getD_getElem?] at hr
   cases hq : a.tmps[t]? with
   | none => rfl
   | some q =>
    rw [hq] at hr; have hr : q = undef := hr; subst hr
    rfl
  ·cases hb
theorem seq_list (hcall : CallOK P call) (ops : Array Oper) (n : Nat) : ∀ (l : List Oper) (S : St) (c : Cx) (a : Act) (w : World), dsR n l = true → SR c S a w n → (seqF P call ops l S).fine →
  (∀ r c' a' w', (seqF P call ops l S).mem r → SR c' r.2 a' w' n → Fr c S.c S.m w c' r.2.c r.2.m w' → r.1 = .normal → Q .normal a' w') → wpList P ops Q l a w
 | [], S, c, a, w, _, h, hf, hQ => hQ (.normal, ⟨S.f.flush, S.m, S.c⟩) c a w rfl h.flush (.refl _ _ _ _) rfl
 | o :: l, S, c, a, w, hds, h, hf, hQ => by
  have hds : (bif ltO n o.dst then dsR n l else false) = true := hds
  have hd : ltO n o.dst = true ∧ dsR n l = true := by
   cases hq : ltO n o.dst with
   | false => rw [hq] at hds; cases hds
   | true => rw [hq] at hds; exact ⟨rfl, hds⟩
  have run : (runK P call o (seqF P call ops l) S).fine → (∀ r c' a' w', (runK P call o (seqF P call ops l) S).mem r → SR c' r.2 a' w' n → Fr c S.c S.m w c' r.2.c r.2.m w' → r.1 = .normal → Q .normal a' w') → o.wp P a w (wpList P ops Q l) Q := fun hf hQ => by
   obtain ⟨h1, h2⟩ := bnd_fine (show (bnd (opF o.op P call S.f S.m S.c) (nextK o.dst (seqF P call ops l) S.f)).fine from hf); refine Oper.wp_mono ?_ (op_wp (Q := Q) hcall h.mr (fun x _ => h.evs x) h1); rintro a' w' ⟨r, v, hr, rfl, c', q1, q2, q3⟩; obtain ⟨h3, h4⟩ := h2 r hr
   exact seq_list hcall ops n l ⟨put S.f o.dst r.v, r.m, r.c⟩ c' _ w' hd.2 (h.step hd.1 q1 q2 q3) h3 fun s c2 a2 w2 hs g1 g2 g3 => hQ s c2 a2 w2 (h4 s hs) g1 (q3.trans g2) g3
  unfold wpList
  cases hg : o.guard with
  | none =>
   have e : seqF P call ops (o :: l) S = runK P call o (seqF P call ops l) S := by
    show (Option.rec (runK P call o (seqF P call ops l) S) (fun g => grdK P call o (seqF P call ops l) S (grdT S.f g.2 (dstA ops g.1))) o.guard : Out) = _
    rw [hg]
   rw [e] at hf hQ
   have hw : Region.wanted o (yielded ops a.tmps) = true := by simp only [Region.wanted, hg]
   rw [if_pos hw]; exact .inl (run hf hQ)
  | some g =>
   obtain ⟨j, want⟩ := g
   have e : seqF P call ops (o :: l) S = grdK P call o (seqF P call ops l) S (grdT S.f want (dstA ops j)) := by
    show (Option.rec (runK P call o (seqF P call ops l) S) (fun g => grdK P call o (seqF P call ops l) S (grdT S.f g.2 (dstA ops g.1))) o.guard : Out) = _
    rw [hg]
   rw [e] at hf hQ
   cases hb : grdT S.f want (dstA ops j) with
   | none => rw [hb] at hf; exact hf.elim
   | some b =>
    rw [hb] at hf hQ; have hw := grd_is h hg hb
    cases b with
    | true =>
     rw [if_pos hw]; exact .inl (run hf hQ)
    | false =>
     rw [if_neg (by rw [hw]; simp)]; exact seq_list hcall ops n l ⟨put S.f o.dst .k, S.m, S.c⟩ c _ w hd.2 (h.skip hd.1) hf hQ
end
end Go.Proofs.YtbgifiijjjoebaaGreatDoor.Cm
