/- What one operation does to the machine's memory (I): slots, cells, numbers. No conditions. What one operation does to the machine's memory (II): numbers, texts, addresses. No conditions. What one operation does to the machine's memory (III): addresses, structs, slices. No conditions. -/
import Derived.Test.YtbgifiijjjoebaaGreatDoorGNamesBm
import Derived.Deep.AppendSrc
import Derived.Lib.ConvBytes
namespace Go.Proofs.YtbgifiijjjoebaaGreatDoor.Cm
open Go Go.RowKit

section
variable {P : Program} {c : Cx} {N : Bp} {m : Mm} {w : World} {o : Oper} {a : Act} {f : Fm}
theorem asC_rel {v : Value} {x : SV} {y : CV} (h : RS c N v x) (e : asC x = some y) : RC c N v y := by
 unfold asC at e
 split at e
 ·injection e with e; subst e; exact h
 ·cases e
theorem cP_some {y : CV} {p : Bp × Nat} (e : cP y = some p) : y = .p p.1 p.2 := by
 unfold cP at e
 split at e
 ·injection e with e; subst e; rfl
 ·cases e
theorem asP_some {x : SV} {p : Bp × Nat} (e : asP x = some p) : x = .c (.p p.1 p.2) := by
 unfold asP at e
 split at e
 ·rw [cP_some e]
 ·cases e
theorem asP_rel {v : Value} {x : SV} {p : Bp × Nat} (h : RS c N v x) (e : asP x = some p) : Lv c N p.1 ∧ v = .pointer (some ⟨c.b p.1, p.2, none⟩) := by
 rw [asP_some e] at h; exact h
theorem cB_some {y : CV} {t : Bool} (e : cB y = some t) : y = .b t := by
 unfold cB at e
 split at e
 ·injection e with e; subst e; rfl
 ·cases e
theorem asB_rel {v : Value} {x : SV} {t : Bool} (h : RS c N v x) (e : asB x = some t) : v = .bool t := by
 unfold asB at e
 split at e
 ·rw [cB_some e] at h; exact h
 ·cases e
theorem cN_some {y : CV} {n : Nat} (e : cN y = some n) : ∃ k, y = .i k (n : Int) := by
 unfold cN at e
 split at e
 ·rename_i k z
  unfold iN at e
  split at e
  ·injection e with e; subst e; exact ⟨k, rfl⟩
  ·cases e
 ·cases e
theorem asN_rel {v : Value} {x : SV} {n : Nat} (h : RS c N v x) (e : asN x = some n) : ∃ k, v = .int k (n : Int) := by
 unfold asN at e
 split at e
 ·obtain ⟨k, rfl⟩ := cN_some e; exact ⟨k, h⟩
 ·cases e
theorem asM_rel {v : Value} {x : SV} {k : Bp} (h : RS c N v x) (e : asM x = some k) : Lv c N k ∧ v = .map (some (c.b k)) := by
 unfold asM at e
 split at e
 ·injection e with e; subst e; exact h
 ·cases e
theorem cellsOf_rel {v : Value} {x : SV} {xs : List CV} (h : RS c N v x) (e : cellsOf x = some xs) : F2 (RC c N) v.cells.toList xs := by
 cases x with
 | c x =>
  injection e with e; subst e
  have h1 := RC.one h
  have : v.cells.toList = [v] := by cases v <;> first | rfl | simp [Value.oneCell'] at h1
  rw [this]; exact .cons h .nil
 | g cs =>
  injection e with e; subst e
  obtain ⟨vs, rfl, h2⟩ := h; exact h2
 | t xs => cases e
 | u => cases e
 | k => cases e
theorem toA_rel {v : Value} {x : SV} {y : AV} (h : RS c N v x) (e : toA x = some y) : RA c N v y := by
 unfold toA at e
 split at e
 ·injection e with e; subst e; exact h
 ·injection e with e; subst e; exact h
 ·cases e
theorem toR_rel {v : Value} {y : AV} (h : RA c N v y) : RS c N v (toR y) := by
 cases y with
 | c x => exact h
 | g cs => exact h
theorem mkS_back (s : ByteArray) : mkS (s.data.toList.map UInt8.toNat) = s := by
 unfold mkS; rw [List.map_map]
 have : (UInt8.ofNat ∘ UInt8.toNat) = id := by funext x; simp
 rw [this, List.map_id]
theorem cCV_rel {v : Value} {x : CV} (h : cCV v = some x) : RC c N v x := by
 unfold cCV at h
 split at h
 ·injection h with h; subst h; rfl
 ·injection h with h; subst h; rfl
 ·rename_i s
  split at h
  ·rename_i hs
   injection h with h; subst h
   refine ⟨by rw [mkS_back], ?_, fun x hx => ?_⟩
   ·have e : s.data.size = s.size := rfl
    simp only [List.length_map, Array.length_toList, maxLen]; omega
   ·obtain ⟨u, _, rfl⟩ := List.mem_map.1 hx; exact u.toNat_lt
  ·cases h
 ·injection h with h; subst h; rfl
 ·injection h with h; subst h; rfl
 ·injection h with h; subst h; rfl
 ·injection h with h; subst h; rfl
 ·cases h
theorem cCVs_rel : ∀ {vs : List Value} {xs : List CV}, cCVs vs = some xs → F2 (RC c N) vs xs
 | [], xs, h => by
  have : xs = [] := (Option.some.inj h).symm
  subst this; exact .nil
 | v :: r, xs, h => by
  have h : cons? (cCV v) (cCVs r) = some xs := h; obtain ⟨a, l, h1, h2, rfl⟩ := cons?_some h; exact .cons (cCV_rel h1) (cCVs_rel h2)
theorem cSV_rel (v : Value) : RS c N v (cSV v) := by
 have h1 : RS c N v (ofO (cCV v)) := by
  cases h : cCV v with
  | none => trivial
  | some x => exact cCV_rel h
 cases v with
 | agg cs =>
  show RS c N _ (ofG (cCVs cs.toList))
  cases h : cCVs cs.toList with
  | none => trivial
  | some xs => exact ⟨cs, rfl, cCVs_rel h⟩
 | _ => exact h1
theorem ev_rel {tmps : Array Value} {ds : List Deferred} (h : ∀ t, RS c N (tmps.getD t undef) (f.get t)) (x : Operand) : RS c N (Act.eval ⟨tmps, ds⟩ x) (ev f x) := by
 cases x with
 | tmp t => exact h t
 | const v => exact cSV_rel v
 | global g => trivial
 | func n => exact ⟨#[], rfl, .nil⟩

def OpQ (P : Program) (o : Oper) (a : Act) (c : Cx) (N : Bp) (m : Mm) (w : World) (R : Res) : Prop :=
 ∃ x v, R.mem ⟨x, m, N⟩ ∧ (execOp a.eval o).run P w = .ok (.value v) w ∧ RS c N v x
def OpL (P : Program) (o : Oper) (a : Act) (c : Cx) (N : Bp) (m : Mm) (w : World) (R : Res) : Prop :=
 ∃ r v w', R.mem r ∧ ((execOp a.eval o).run P w = .ok (.value v) w' ∨ (execOp a.eval o).run P w = .ok .skip w' ∧ v = undef) ∧ Post c N m w r v w'
def OpS (P : Program) (o : Oper) (a : Act) (c : Cx) (N : Bp) (m : Mm) (w : World) (R : Res) : Prop := OpQ P o a c N m w R ∨ (2 ≤ opC P o.op ∧ OpL P o a c N m w R)
theorem OpS.loud {R : Res} (hq : 2 ≤ opC P o.op) (h : OpL P o a c N m w R) : OpS P o a c N m w R := .inr ⟨hq, h⟩
theorem OpS.val {R : Res} {v : Value} {x : SV} (_ : MR c N m w) (hR : R = .one ⟨x, m, N⟩) (hrun : (execOp a.eval o).run P w = .ok (.value v) w) (r : RS c N v x) : OpS P o a c N m w R :=
 .inl ⟨x, v, by rw [hR]; rfl, hrun, r⟩
theorem okO_fine {x : Option CV} (h : (okO m N x).fine) : ∃ y, x = some y ∧ okO m N x = .one ⟨.c y, m, N⟩ := by
 cases x with
 | none => exact h.elim
 | some y => exact ⟨y, rfl, rfl⟩
theorem okS_fine {x : Option SV} (h : (okS m N x).fine) : ∃ y, x = some y ∧ okS m N x = .one ⟨y, m, N⟩ := by
 cases x with
 | none => exact h.elim
 | some y => exact ⟨y, rfl, rfl⟩
theorem okM_fine {r : SV} {x : Option Mm} (h : (okM r N x).fine) : ∃ y, x = some y ∧ okM r N x = .one ⟨r, y, N⟩ := by
 cases x with
 | none => exact h.elim
 | some y => exact ⟨y, rfl, rfl⟩
theorem natO_fine {x : Option Nat} (h : (natO m N x).fine) : ∃ n, x = some n ∧ natO m N x = .one ⟨.c (.i .i64 (n : Int)), m, N⟩ := by
 cases x with
 | none => exact h.elim
 | some y => exact ⟨y, rfl, rfl⟩
theorem s_move (h : MR c N m w) (x : Operand) (ho : o.op = .move x ∨ o.op = .assign x) (hx : RS c N (a.eval x) (ev f x)) (call : CallF) : OpS P o a c N m w (oMove x P call f m N) :=
 OpS.val h rfl (by rcases ho with ho | ho <;> simp [execOp, ho]) hx
theorem s_pick (h : MR c N m w) (x y z : Operand) (ho : o.op = .pick x y z) (hx : RS c N (a.eval x) (ev f x)) (hy : RS c N (a.eval y) (ev f y)) (hz : RS c N (a.eval z) (ev f z)) (call : CallF) (hf : (oPick x y z P call f m N).fine) : OpS P o a c N m w (oPick x y z P call f m N) := by
 have hR : oPick x y z P call f m N = pickF (ev f y) (ev f z) (asB (ev f x)) m N := rfl; rw [hR] at hf ⊢
 cases hb : asB (ev f x) with
 | none => rw [hb] at hf; exact hf.elim
 | some t =>
  have hv := asB_rel hx hb
  cases t with
  | true => exact OpS.val h rfl (v := a.eval y) (by simp [execOp, ho, hv, asBool]) hy
  | false => exact OpS.val h rfl (v := a.eval z) (by simp [execOp, ho, hv, asBool]) hz

theorem lyt_is {t : TypeId} {q : Bool × Nat} (h : lyt P t = some q) : Go.Proofs.YtbgifiijjjoebaaGreatDoor.lyt P t = some (q.1, q.2) := by
 unfold lyt at h; unfold Go.Proofs.YtbgifiijjjoebaaGreatDoor.lyt
 split at h
 ·rename_i i d h1 h2
  injection h with h; subst h
  rw [h1, h2]
  have : d.isRow = rowB d := by cases d <;> rfl
  simp [this]
 ·cases h
theorem ldX_some {o n : Nat} {ob : Option Ob} {l : List CV} (h : ldX o n ob = some l) : ∃ tl T sz cs, ob = some (.x tl T sz cs) ∧ o + n ≤ sz ∧ getN cs o n = some l := by
 cases ob with
 | none => cases h
 | some ob =>
  cases ob with
  | x tl T sz cs =>
   refine ⟨tl, T, sz, cs, rfl, ?_⟩; have h : (Bool.casesOn (Nat.ble (o + n) sz) none (getN cs o n) : Option (List CV)) = some l := h
   cases hb : Nat.ble (o + n) sz with
   | false => rw [hb] at h; cases h
   | true => rw [hb] at h; exact ⟨Nat.le_of_ble_eq_true hb, h⟩
  | m es => cases h
  | it q n rem la => cases h
theorem ldC_rel (h : MR c N m w) {k : Bp} {o n : Nat} {l : List CV} (hl : ldC m k o n = some l) : l.length = n ∧ ∃ vs : List Value, vs.length = n ∧ w.rangeAt (c.b k) o vs ∧ F2 (RC c N) vs l := by
 obtain ⟨tl, T, sz, cs, hk, hle, hg⟩ := ldX_some hl; obtain ⟨h1, h2⟩ := getN_some hg; obtain ⟨cur, fz, r1, r2, r3, r4, r5, r6⟩ := h.ob k _ hk; refine ⟨h1, (cur.toList.drop o).take n, by simp; omega, fun j v hv => ?_, forall2_of (by simp; omega) fun i hi hi' => ?_⟩
 ·rw [cell_of_row w _ _ cur T fz r1]; rw [List.getElem?_take] at hv
  split at hv
  ·rw [List.getElem?_drop] at hv; simpa using hv
  ·cases hv
 ·have e := r6 (o + i) l[i] (by omega) (h2 i hi')
  have : (cur.toList.drop o |>.take n)[i] = cur.getD (o + i) undef := by
   simp [Array.getD, show o + i < cur.size by omega]
  rw [this]; exact e
theorem ofL_some {g : Bool} {l : Option (List CV)} {y : SV} (h : ofL g l = some y) : ∃ xs, l = some xs ∧ ((g = true ∧ y = .g xs) ∨ (g = false ∧ ∃ x, xs = [x] ∧ y = .c x)) := by
 cases l with
 | none => cases h
 | some xs =>
  refine ⟨xs, rfl, ?_⟩
  cases g with
  | true => exact .inl ⟨rfl, (Option.some.inj h).symm⟩
  | false =>
   unfold ofL at h; simp only at h
   split at h
   ·rename_i x
    exact .inr ⟨rfl, x, rfl, (Option.some.inj h).symm⟩
   ·cases h
theorem s_load (h : MR c N m w) (t : TypeId) (x : Operand) (ho : o.op = .load t x) (hx : RS c N (a.eval x) (ev f x)) (call : CallF) (hf : (oLoad t x P call f m N).fine) : OpS P o a c N m w (oLoad t x P call f m N) := by
 have hR : oLoad t x P call f m N = ldF m N (lyt P t) (asP (ev f x)) := rfl; rw [hR] at hf ⊢
 cases hl : lyt P t with
 | none => rw [hl] at hf; cases asP (ev f x) <;> exact hf.elim
 | some q =>
  cases hp : asP (ev f x) with
  | none => rw [hl, hp] at hf; exact hf.elim
  | some p =>
   rw [hl, hp] at hf; obtain ⟨hN, hv⟩ := asP_rel hx hp; have hf : (okS m N (ofL q.1 (ldC m p.1 p.2 q.2))).fine := hf; obtain ⟨y, hy, hok⟩ := okS_fine hf; obtain ⟨xs, hxs, hg⟩ := ofL_some hy; obtain ⟨h1, vs, h2, h3, h4⟩ := ldC_rel h hxs; obtain ⟨r1, r2⟩ := run_load_gen (P := P) (w := w) (lyt_is hl) (c.b p.1) p.2 vs h3 h2
   have hex : ∀ u, (Instr.loadAt t (a.eval x)).run P w = .ok u w → (execOp a.eval o).run P w = .ok (.value u) w := fun u hu => by
    simp only [execOp, ho, Sem.run_bind, hu, Result.andThen_ok, Sem.run_pure]
   rcases hg with ⟨g1, rfl⟩ | ⟨g1, z, rfl, rfl⟩
   ·exact OpS.val h hok (hex _ (by rw [hv]; exact r1 g1)) ⟨vs.toArray, rfl, by simpa using h4⟩
   ·cases h4 with
    | @cons u _ us _ h5 h6 =>
     cases h6
     exact OpS.val h hok (v := u) (hex _ (by rw [hv]; exact r2 g1 u rfl)) h5
def layA : Array Value → Nat → List Value → Array Value
 | cur, _, [] => cur
 | cur, o, v :: r => layA (cur.setIfInBounds o v) (o + 1) r
theorem layA_size : ∀ (vs : List Value) (cur : Array Value) (o : Nat), (layA cur o vs).size = cur.size
 | [], _, _ => rfl
 | v :: r, cur, o => by
  show (layA (cur.setIfInBounds o v) (o + 1) r).size = _
  rw [layA_size r]; simp
theorem layA_get : ∀ (vs : List Value) (cur : Array Value) (o j : Nat), o + vs.length ≤ cur.size → (layA cur o vs).getD j undef = if o ≤ j ∧ j < o + vs.length then vs.getD (j - o) undef else cur.getD j undef
 | [], cur, o, j, _ => by
  show cur.getD j undef = _
  rw [if_neg (by simp only [List.length_nil]; omega)]
 | v :: r, cur, o, j, h => by
  show (layA (cur.setIfInBounds o v) (o + 1) r).getD j undef = _
  simp only [List.length_cons] at h; rw [layA_get r _ _ j (by simp; omega)]
  by_cases hj : j = o
  ·subst hj; rw [if_neg (by omega), if_pos (by simp)]; simp [Array.getD, show j < cur.size by omega]
  ·by_cases h1 : o + 1 ≤ j ∧ j < o + 1 + r.length
   ·rw [if_pos h1, if_pos (by simp only [List.length_cons]; omega)]
    have : j - o = (j - (o + 1)) + 1 := by omega
    rw [this]; simp [List.getD]
   ·rw [if_neg h1, if_neg (by simp only [List.length_cons]; omega)]; simp only [Array.getD, Array.size_setIfInBounds]
    split
    ·exact Array.getElem_setIfInBounds_ne (by omega) (Ne.symm hj)
    ·rfl
theorem setCells_row (b : Nat) {T : TypeId} {fz : Nat × Nat} : ∀ (vs : List Value) (o : Nat) (cur : Array Value) (w : World), w.heap[b]? = some (.cells cur T fz) → w.setCells b o vs = w.setRow b (layA cur o vs)
 | [], o, cur, w, h => (setRow_self w b cur T fz h).symm
 | v :: r, o, cur, w, h => by
  show (w.setCell ⟨b, o, none⟩ v).setCells b (o + 1) r = _
  rw [setCell_eq_setRow w b o cur T fz v h, setCells_row b r (o + 1) (cur.setIfInBounds o v) _ (setRow_heap w b cur _ T fz h), setRow_setRow]
  rfl
theorem frozen_fz {b j : Nat} {T : TypeId} {fz : Nat × Nat} {cur : Array Value} (h : w.heap[b]? = some (.cells cur T fz)) (hz : Fz fz cur.size) (hj : j < cur.size) : w.frozen? ⟨b, j, none⟩ = false := by
 obtain ⟨lo, hi⟩ := fz; have := hz j hj; simp only at this; simp only [World.frozen?, h]
 cases h1 : decide (lo ≤ j) with
 | false => rfl
 | true =>
  have h1 := of_decide_eq_true h1; simp only [Bool.true_and, decide_eq_false_iff_not]
  omega
theorem stX_some {m : Mm} {k : Bp} {o : Nat} {l : List CV} {ob : Option Ob} {m' : Mm} (h : stX m k o l ob = some m') : ∃ tl T sz cs, ob = some (.x tl T sz cs) ∧ o + l.length ≤ sz ∧ m' = m.upd k (some (.x tl T sz (setL cs o l))) := by
 cases ob with
 | none => cases h
 | some ob =>
  cases ob with
  | x tl T sz cs =>
   refine ⟨tl, T, sz, cs, rfl, ?_⟩; have h : (Bool.casesOn (Nat.ble (o + l.length) sz) none (some (m.upd k (some (.x tl T sz (setL cs o l))))) : Option Mm) = some m' := h
   cases hb : Nat.ble (o + l.length) sz with
   | false => rw [hb] at h; cases h
   | true => rw [hb] at h; exact ⟨Nat.le_of_ble_eq_true hb, (Option.some.inj h).symm⟩
  | m es => cases h
  | it q n rem la => cases h
theorem stC_rel (h : MR c N m w) {k : Bp} {o : Nat} {l : List CV} {m' : Mm} {vs : List Value} (hs : stC m k o l = some m') (hv : F2 (RC c N) vs l) :
  (∀ j, j < vs.length → (w.cell? ⟨c.b k, o + j, none⟩).isSome = true) ∧ (∀ j, j < vs.length → w.frozen? ⟨c.b k, o + j, none⟩ = false) ∧ (∀ v ∈ vs, v.oneCell' = true) ∧
   MR c N m' (w.setCells (c.b k) o vs) ∧ Fr c N m w c N m' (w.setCells (c.b k) o vs) := by
 obtain ⟨tl, T, sz, cs, hk, hle, rfl⟩ := stX_some hs; obtain ⟨cur, fz, r1, r2, r3, r4, r5, r6⟩ := h.ob k _ hk; have hlen := forall2_len hv; refine ⟨fun j hj => ?_, fun j hj => frozen_fz r1 r5 (by omega), fun v hv' => ?_, ?_⟩
 ·rw [cell_of_row w _ _ cur T fz r1]; simp [show o + j < cur.size by omega]
 ·obtain ⟨i, hi, rfl⟩ := List.getElem_of_mem hv'; exact RC.one (forall2_get hv i hi (by omega))
 ·rw [setCells_row _ vs o cur w r1]; refine h.set hk ⟨rfl, rfl, rfl⟩ (by simp) (fun b hb => setRow_other w _ b _ hb) ⟨layA cur o vs, fz, setRow_heap w _ cur _ T fz r1, by rw [layA_size]; exact r2, by rw [layA_size]; exact r3, fun e => by rw [layA_size]; exact r4 e, by rw [layA_size]; exact r5, fun j x hj hx => ?_⟩; rw [layA_get _ _ _ _ (by omega)]; rw [get_setL] at hx
  by_cases hin : o ≤ j ∧ j < o + l.length
  ·rw [if_pos hin] at hx; rw [if_pos (by omega)]; have hl := (List.getElem?_eq_some_iff.1 hx).1; have := forall2_get hv (j - o) (by omega) hl; rw [(List.getElem?_eq_some_iff.1 hx).2] at this
   have e : vs.getD (j - o) undef = vs[j - o]'(by omega) := by simp [List.getD, show j - o < vs.length by omega]
   rw [e]; exact this
  ·rw [if_neg hin] at hx; rw [if_neg (by omega)]; exact r6 j x hj hx
theorem s_store (h : MR c N m w) (t : TypeId) (x y : Operand) (ho : o.op = .store t x y) (hx : RS c N (a.eval x) (ev f x)) (hy : RS c N (a.eval y) (ev f y)) (call : CallF) (hf : (oStore t x y P call f m N).fine) : OpS P o a c N m w (oStore t x y P call f m N) := by
 have hR : oStore t x y P call f m N = stF m N (lyt P t) (asP (ev f x)) (cellsOf (ev f y)) := rfl; rw [hR] at hf ⊢
 cases hl : lyt P t with
 | none => rw [hl] at hf; exact hf.elim
 | some q =>
 cases hp : asP (ev f x) with
 | none => rw [hl, hp] at hf; exact hf.elim
 | some p =>
 cases hc : cellsOf (ev f y) with
 | none => rw [hl, hp, hc] at hf; exact hf.elim
 | some l =>
  rw [hl, hp, hc] at hf; have hf : (bif Nat.beq l.length q.2 then okM .u N (stC m p.1 p.2 l) else .no []).fine := hf
  cases hb : Nat.beq l.length q.2 with
  | false => rw [hb] at hf; exact hf.elim
  | true =>
   rw [hb] at hf; obtain ⟨m', hm, hok⟩ := okM_fine hf; obtain ⟨hN, hv⟩ := asP_rel hx hp; have hcs := cellsOf_rel hy hc; obtain ⟨g1, g2, g3, g4, g5⟩ := stC_rel h hm hcs; obtain ⟨i, d, hi, hu, hd, hsz⟩ := lyt_spec (lyt_is hl); have hlen := forall2_len hcs; have hql := Nat.eq_of_beq_eq_true hb
   have hn : (a.eval y).cells.size = i.size := by
    rw [hsz]; simp only [Array.length_toList] at hlen
    omega
   have hst := run_storeCells_cells (P := P) (c.b p.1) p.2 (a.eval y).cells.toList 0 w (by simpa using g1) (by simpa using g2) g3; simp only [Nat.add_zero] at hst; refine OpS.loud (by simp [ho, opC]) ⟨⟨.u, m', N⟩, undef, w.setCells (c.b p.1) p.2 (a.eval y).cells.toList, ?_, .inr ⟨?_, rfl⟩, c, trivial, g4, g5⟩
   ·have e : stF m N (some q) (some p) (some l) = okM .u N (stC m p.1 p.2 l) := by
     show (bif Nat.beq l.length q.2 then okM .u N (stC m p.1 p.2 l) else .no []) = _
     rw [hb]; rfl
    rw [e, hok]; exact rfl
   ·simp only [execOp, ho, Sem.run_bind, Instr.storeAt, Instr.sureAddr, hv, storeVar, Sem.run_pure, Result.andThen_ok, sizeOf, typeInfo, run_program, hi, hn, ne_eq, not_true_eq_false, if_false, hst]
theorem new_x (h : MR c N m w) (tl : Bool) (T : TypeId) {vs : Array Value} {l : List CV} (hl : F2 (RC c N) vs.toList l) {w0 : World} (hw : w0.heap = w.heap) (ho : w0.os = w.os ∧ w0.tape = w.tape ∧ w0.output = w.output) :
  ∃ c', RC c' N.inc (.pointer (some ⟨w.heap.size, 0, none⟩)) (.p N 0) ∧ MR c' N.inc (m.upd N (some (.x tl T l.length (newT l)))) (w0.alloc (.cells vs T)) ∧ Fr c N m w c' N.inc (m.upd N (some (.x tl T l.length (newT l)))) (w0.alloc (.cells vs T)) := by
 have hlen := forall2_len hl; simp only [Array.length_toList] at hlen
 have hsz : w0.heap.size = w.heap.size := by rw [hw]
 refine ⟨c.new N w.heap.size vs.size, ⟨new_l c N _ _, by rw [new_b]⟩, h.new w.heap.size vs.size ho (Nat.le_refl _) (by simp [hsz]) (fun j hj => ?_) ⟨vs, (0, 0), ?_, by rw [new_s], by omega, fun _ => by omega, fun j _ => by simp, fun j x hj hx => ?_⟩⟩
 ·rw [heap_alloc_old w0 _ (by omega), hw]
 ·rw [new_b, ← hsz]; exact heap_alloc_new w0 _
 ·rw [get_newT] at hx; have h1 := (List.getElem?_eq_some_iff.1 hx).1; have := forall2_get hl j (by simp; omega) h1; rw [(List.getElem?_eq_some_iff.1 hx).2] at this
  have e : vs.getD j undef = vs.toList[j]'(by simp; omega) := by simp [Array.getD, show j < vs.size by omega]
  rw [e]; exact RC.mon (mon_new c N _ _) this
theorem zeroC_spec {T : TypeId} {l : List CV} (h : zeroC P T = some l) : ∃ i z, P.info? T = some i ∧ i.zero = some z ∧ ∀ (c : Cx) (N : Bp), F2 (RC c N) z.cells.toList l := by
 unfold zeroC at h; simp only [Option.bind_eq_some_iff] at h; obtain ⟨z, ⟨i, hi, hz⟩, hcs⟩ := h; exact ⟨i, z, hi, hz, fun _ _ => cCVs_rel hcs⟩
theorem s_alloc (h : MR c N m w) (T : TypeId) (ho : o.op = .alloc T) (call : CallF) (hf : (oAlloc T P call f m N).fine) : OpS P o a c N m w (oAlloc T P call f m N) := by
 have hR : oAlloc T P call f m N = allocF T m N (zeroC P T) := rfl; rw [hR] at hf ⊢
 cases hz : zeroC P T with
 | none => rw [hz] at hf; exact hf.elim
 | some l =>
  obtain ⟨i, z, hi, hzv, hr⟩ := zeroC_spec hz; obtain ⟨c', h1, h2, h3⟩ := new_x h false T (hr c N) (w0 := w) rfl ⟨rfl, rfl, rfl⟩; exact OpS.loud (by simp [ho, opC]) ⟨_, _, _, rfl, .inl (by simp [execOp, ho, Instr.alloc, zeroValue, typeInfo, hi, hzv, newVar, newRow]), c', h1, h2, h3⟩
theorem s_box (h : MR c N m w) (T : TypeId) (x : Operand) (ho : o.op = .box T x) (hx : RS c N (a.eval x) (ev f x)) (call : CallF) (hf : (oBox T x P call f m N).fine) : OpS P o a c N m w (oBox T x P call f m N) := by
 have hR : oBox T x P call f m N = allocF T m N (cellsOf (ev f x)) := rfl; rw [hR] at hf ⊢
 cases hz : cellsOf (ev f x) with
 | none => rw [hz] at hf; exact hf.elim
 | some l =>
  obtain ⟨c', h1, h2, h3⟩ := new_x h false T (cellsOf_rel hx hz) (w0 := w) rfl ⟨rfl, rfl, rfl⟩; exact OpS.loud (by simp [ho, opC]) ⟨_, _, _, rfl, .inl (by simp [execOp, ho, Instr.box, newVar, newRow]), c', h1, h2, h3⟩
end
end Go.Proofs.YtbgifiijjjoebaaGreatDoor.Cm

namespace Go.Proofs.YtbgifiijjjoebaaGreatDoor.Cm
open Go Go.RowKit

theorem kN_inj {k j : IntKind} (h : kN k = kN j) : k = j := by
 cases k <;> cases j <;> first | rfl | (simp [kN] at h)
theorem ieq_is (a b : Int) : ieq a b = decide (a = b) := by
 cases a with
 | ofNat a =>
  cases b with
  | ofNat b =>
   show Nat.beq a b = _
   rw [Bool.eq_iff_iff, decide_eq_true_iff]; exact ⟨fun h => congrArg Int.ofNat (Nat.eq_of_beq_eq_true h), fun h => by have := Int.ofNat.inj h; subst this; exact Nat.beq_refl a⟩
  | negSucc b => simp [ieq]
 | negSucc a =>
  cases b with
  | ofNat b => simp [ieq]
  | negSucc b =>
   show Nat.beq a b = _
   rw [Bool.eq_iff_iff, decide_eq_true_iff]; exact ⟨fun h => congrArg Int.negSucc (Nat.eq_of_beq_eq_true h), fun h => by have := Int.negSucc.inj h; subst this; exact Nat.beq_refl a⟩
theorem blt_is (a b : Nat) : Nat.blt a b = decide (a < b) := by
 rw [Bool.eq_iff_iff, decide_eq_true_iff]
 show Nat.ble (a + 1) b = true ↔ _
 rw [Nat.ble_eq]; exact Iff.rfl
theorem ilt_is (a b : Int) : ilt a b = decide (a < b) := by
 cases a with
 | ofNat a =>
  cases b with
  | ofNat b => show Nat.blt a b = _; rw [blt_is]; simp only [Int.ofNat_eq_natCast, Int.ofNat_lt]
  | negSucc b => show false = _; rw [eq_comm, decide_eq_false_iff_not, Int.ofNat_eq_natCast]; omega
 | negSucc a =>
  cases b with
  | ofNat b => show true = _; rw [eq_comm, decide_eq_true_iff, Int.ofNat_eq_natCast]; omega
  | negSucc b => show Nat.blt b a = _; rw [blt_is]; rw [decide_eq_decide]; omega
theorem bB_is (a b : Bool) : bB a b = (a == b) := by cases a <;> cases b <;> rfl
theorem shN_is (k : IntKind) (y : Nat) : shN k y = min y k.bits := by
 unfold shN
 cases h : Nat.ble y k.bits with
 | true => have := Nat.le_of_ble_eq_true h; simp only [cond_true]; omega
 | false => have := Nat.not_le_of_not_ble_eq_true (by rw [h]; simp); simp only [cond_false]; omega
theorem iN_some {y : Int} {n : Nat} (h : iN y = some n) : y = (n : Int) := by
 unfold iN at h
 split at h
 ·injection h with h; subst h; rfl
 ·cases h
section
variable {P : Program} {c : Cx} {N : Bp} {m : Mm} {w : World} {o : Oper} {a : Act} {f : Fm}
theorem int_run {op : BinOp} {k j : IntKind} {x y : Int} {r : CV} (t : TypeId) (hk : (Nat.beq (kN k) (kN j) || shB op) = true) (h : intF op k x y = some r) : ∃ v, (binOp op t (.int k x) (.int j y)).run P w = .ok v w ∧ RC c N v r := by
 have shl : op = .shl ∨ op = .shr ∨ k = j := by
  cases op <;> simp [shB] at hk <;> first | exact .inl rfl | exact .inr (.inl rfl) | exact .inr (.inr (kN_inj hk))
 cases op with
 | shl =>
  have h : shlF k x (iN y) = some r := h
  cases hy : iN y with
  | none => rw [hy] at h; cases h
  | some n =>
   rw [hy] at h; have h : some (CV.i k (k.wrap (x * 2 ^ shN k n))) = some r := h
   injection h with h; subst h
   have := iN_some hy; subst this
   have h0 : ¬ ((n : Int) < 0) := by omega
   exact ⟨.int k (k.wrap (x * 2 ^ shN k n)), by simp [binOp, Op.shift, shN_is, h0], rfl⟩
 | shr =>
  have h : shrF k x (iN y) = some r := h
  cases hy : iN y with
  | none => rw [hy] at h; cases h
  | some n =>
   rw [hy] at h; have h : some (CV.i k (x.fdiv (2 ^ shN k n))) = some r := h
   injection h with h; subst h
   have := iN_some hy; subst this
   have h0 : ¬ ((n : Int) < 0) := by omega
   exact ⟨.int k (x.fdiv (2 ^ shN k n)), by simp [binOp, Op.shift, shN_is, h0], rfl⟩
 | quo =>
  obtain rfl : k = j := by rcases shl with h | h | h <;> first | exact h | cases h
  have h : (bif ieq y 0 then none else some (CV.i k (k.wrap (x.tdiv y)))) = some r := h; rw [ieq_is] at h
  by_cases hy : y = 0
  ·simp [hy] at h
  ·simp [hy] at h; subst h; exact ⟨.int k (k.wrap (x.tdiv y)), by simp [binOp, Op.intDiv, hy], rfl⟩
 | rem =>
  obtain rfl : k = j := by rcases shl with h | h | h <;> first | exact h | cases h
  have h : (bif ieq y 0 then none else some (CV.i k (x.tmod y))) = some r := h; rw [ieq_is] at h
  by_cases hy : y = 0
  ·simp [hy] at h
  ·simp [hy] at h; subst h; exact ⟨.int k (x.tmod y), by simp [binOp, Op.intDiv, hy], rfl⟩
 | add =>
  obtain rfl : k = j := by rcases shl with h | h | h <;> first | exact h | cases h
  injection h with h; subst h
  exact ⟨_, by simp only [binOp, ne_eq, not_true_eq_false, if_false, Op.intArith]; rfl, rfl⟩
 | sub =>
  obtain rfl : k = j := by rcases shl with h | h | h <;> first | exact h | cases h
  injection h with h; subst h
  exact ⟨_, by simp only [binOp, ne_eq, not_true_eq_false, if_false, Op.intArith]; rfl, rfl⟩
 | mul =>
  obtain rfl : k = j := by rcases shl with h | h | h <;> first | exact h | cases h
  injection h with h; subst h
  exact ⟨_, by simp only [binOp, ne_eq, not_true_eq_false, if_false, Op.intArith]; rfl, rfl⟩
 | and =>
  obtain rfl : k = j := by rcases shl with h | h | h <;> first | exact h | cases h
  injection h with h; subst h
  exact ⟨_, by simp only [binOp, ne_eq, not_true_eq_false, if_false, Op.intBits]; rfl, rfl⟩
 | or =>
  obtain rfl : k = j := by rcases shl with h | h | h <;> first | exact h | cases h
  injection h with h; subst h
  exact ⟨_, by simp only [binOp, ne_eq, not_true_eq_false, if_false, Op.intBits]; rfl, rfl⟩
 | xor =>
  obtain rfl : k = j := by rcases shl with h | h | h <;> first | exact h | cases h
  injection h with h; subst h
  exact ⟨_, by simp only [binOp, ne_eq, not_true_eq_false, if_false, Op.intBits]; rfl, rfl⟩
 | andNot =>
  obtain rfl : k = j := by rcases shl with h | h | h <;> first | exact h | cases h
  injection h with h; subst h
  exact ⟨_, by simp only [binOp, ne_eq, not_true_eq_false, if_false, Op.intBits]; rfl, rfl⟩
 | eql =>
  obtain rfl : k = j := by rcases shl with h | h | h <;> first | exact h | cases h
  injection h with h; subst h
  exact ⟨.bool (ieq x y), by rw [ieq_is]; simp [binOp, Op.intCmp]; rfl, rfl⟩
 | neq =>
  obtain rfl : k = j := by rcases shl with h | h | h <;> first | exact h | cases h
  injection h with h; subst h
  exact ⟨.bool (!ieq x y), by rw [ieq_is]; simp [binOp, Op.intCmp]; rfl, rfl⟩
 | lss =>
  obtain rfl : k = j := by rcases shl with h | h | h <;> first | exact h | cases h
  injection h with h; subst h
  exact ⟨.bool (ilt x y), by rw [ilt_is]; simp [binOp, Op.intCmp], rfl⟩
 | leq =>
  obtain rfl : k = j := by rcases shl with h | h | h <;> first | exact h | cases h
  injection h with h; subst h
  exact ⟨.bool (!ilt y x), by rw [ilt_is]; simp only [binOp, ne_eq, not_true_eq_false, if_false, Op.intCmp, Sem.run_pure]; rw [← decide_not]; simp only [Int.not_lt], rfl⟩
 | gtr =>
  obtain rfl : k = j := by rcases shl with h | h | h <;> first | exact h | cases h
  injection h with h; subst h
  exact ⟨.bool (ilt y x), by rw [ilt_is]; simp [binOp, Op.intCmp], rfl⟩
 | geq =>
  obtain rfl : k = j := by rcases shl with h | h | h <;> first | exact h | cases h
  injection h with h; subst h
  exact ⟨.bool (!ilt x y), by rw [ilt_is]; simp only [binOp, ne_eq, not_true_eq_false, if_false, Op.intCmp, Sem.run_pure]; rw [← decide_not]; simp only [Int.not_lt, ge_iff_le], rfl⟩
theorem mkS_list (l : List Nat) : (mkS l).toList = l.map UInt8.ofNat := by
 rw [ByteArray.toList_eq]; simp [mkS]
theorem mkS_size (l : List Nat) : (mkS l).size = l.length := by
 show (l.map UInt8.ofNat).toArray.size = _
 simp
theorem mkS_app (x y : List Nat) : mkS x ++ mkS y = mkS (x ++ y) := by
 apply ByteArray.ext
 simp [mkS]
theorem u8_inj {x y : Nat} (hx : x < 256) (hy : y < 256) (h : UInt8.ofNat x = UInt8.ofNat y) : x = y := by
 have := congrArg UInt8.toNat h; simp only [UInt8.toNat_ofNat'] at this
 omega
theorem lseq_is : ∀ {x y : List Nat}, (∀ a ∈ x, a < 256) → (∀ a ∈ y, a < 256) → lseq x y = (x.map UInt8.ofNat == y.map UInt8.ofNat)
 | [], [], _, _ => rfl
 | [], b :: y, _, _ => rfl
 | a :: x, [], _, _ => rfl
 | a :: x, b :: y, hx, hy => by
  have ih := @lseq_is x y (fun c h => hx c (List.mem_cons_of_mem _ h)) (fun c h => hy c (List.mem_cons_of_mem _ h))
  show (bif Nat.beq a b then lseq x y else false) = _
  rw [ih, List.map_cons, List.map_cons, List.cons_beq_cons]
  cases h : Nat.beq a b with
  | true => have := Nat.eq_of_beq_eq_true h; subst this; simp
  | false =>
   have hne := Nat.ne_of_beq_eq_false h
   have : (UInt8.ofNat a == UInt8.ofNat b) = false := beq_eq_false_iff_ne.2 fun e => hne (u8_inj (hx a List.mem_cons_self) (hy b List.mem_cons_self) e)
   rw [this]; rfl
theorem llt_is : ∀ {x y : List Nat}, (∀ a ∈ x, a < 256) → (∀ a ∈ y, a < 256) → llt x y = Op.bytesLess (x.map UInt8.ofNat) (y.map UInt8.ofNat)
 | [], [], _, _ => rfl
 | [], b :: y, _, _ => rfl
 | a :: x, [], _, _ => rfl
 | a :: x, b :: y, hx, hy => by
  have ih := @llt_is x y (fun c h => hx c (List.mem_cons_of_mem _ h)) (fun c h => hy c (List.mem_cons_of_mem _ h)); have ha := hx a List.mem_cons_self; have hb := hy b List.mem_cons_self
  show (bif Nat.blt a b then true else bif Nat.beq a b then llt x y else false) = _
  simp only [List.map_cons, Op.bytesLess]
  have h1 : decide (UInt8.ofNat a < UInt8.ofNat b) = Nat.blt a b := by
   rw [blt_is, decide_eq_decide, UInt8.lt_iff_toNat_lt]; simp only [UInt8.toNat_ofNat']; rw [Nat.mod_eq_of_lt (by omega), Nat.mod_eq_of_lt (by omega)]
  have h2 : (UInt8.ofNat a == UInt8.ofNat b) = Nat.beq a b := by
   cases h : Nat.beq a b with
   | true => have := Nat.eq_of_beq_eq_true h; subst this; simp
   | false =>
    have hne := Nat.ne_of_beq_eq_false h
    exact beq_eq_false_iff_ne.2 fun e => hne (u8_inj ha hb e)
  rw [ih, h1, h2]
  cases Nat.blt a b <;> cases Nat.beq a b <;> rfl
theorem str_run {op : BinOp} {x y : List Nat} {r : CV} (t : TypeId) (hx : ∀ a ∈ x, a < 256) (hy : ∀ a ∈ y, a < 256) (h : strF op x y = some r) : ∃ v, (binOp op t (.string (mkS x)) (.string (mkS y))).run P w = .ok v w ∧ RC c N v r := by
 have e1 := lseq_is hx hy; have e2 := llt_is hx hy
 cases op with
 | add =>
  have h : (bif Nat.ble (x.length + y.length) 1048576 then some (CV.s (x ++ y)) else none) = some r := h
  cases hb : Nat.ble (x.length + y.length) 1048576 with
  | false => rw [hb] at h; cases h
  | true =>
   rw [hb] at h
   injection h with h; subst h
   have hb := Nat.le_of_ble_eq_true hb; refine ⟨.string (mkS (x ++ y)), ?_, rfl, by simp only [List.length_append, maxLen]; omega, fun z hz => (List.mem_append.1 hz).elim (hx z) (hy z)⟩; have hm : IntKind.i64.max = 9223372036854775807 := rfl; simp only [binOp, Op.stringOp, mkS_size, hm]; rw [if_neg (by omega), mkS_app]
   rfl
 | eql =>
  injection h with h; subst h
  exact ⟨.bool (lseq x y), by simp only [binOp, Op.stringOp, mkS_list, e1]; rfl, rfl⟩
 | neq =>
  injection h with h; subst h
  exact ⟨.bool (!lseq x y), by simp only [binOp, Op.stringOp, mkS_list, e1]; rfl, rfl⟩
 | lss =>
  injection h with h; subst h
  exact ⟨.bool (llt x y), by simp only [binOp, Op.stringOp, mkS_list, e2]; rfl, rfl⟩
 | leq =>
  injection h with h; subst h
  exact ⟨.bool (llt x y || lseq x y), by simp only [binOp, Op.stringOp, mkS_list, e1, e2]; rfl, rfl⟩
 | gtr =>
  injection h with h; subst h
  exact ⟨.bool (!(llt x y || lseq x y)), by simp only [binOp, Op.stringOp, mkS_list, e1, e2]; rfl, rfl⟩
 | geq =>
  injection h with h; subst h
  exact ⟨.bool (!llt x y), by simp only [binOp, Op.stringOp, mkS_list, e2]; rfl, rfl⟩
 | _ => cases h
theorem eqF_some {op : BinOp} {b : Bool} {r : CV} (h : eqF op b = some r) : (op = .eql ∧ r = .b b) ∨ (op = .neq ∧ r = .b (!b)) := by
 cases op <;> first | (injection h with h; subst h; first | exact .inl ⟨rfl, rfl⟩ | exact .inr ⟨rfl, rfl⟩) | cases h
theorem nv_of {v : Value} {x : CV} {i : Nat} (h : RC c N v x) (hi : (nlC x).1 = i + 1) : NV v i (nlC x).2 := by
 cases x with
 | np => rw [show v = _ from h]; cases hi; exact .inl ⟨rfl, none, rfl, rfl⟩
 | p k o => rw [h.2]; cases hi; exact .inl ⟨rfl, _, rfl, rfl⟩
 | nf => rw [show v = _ from h]; cases hi; exact .inr (.inl ⟨rfl, .inl ⟨rfl, rfl⟩⟩)
 | f n ks => obtain ⟨cap, e, _⟩ := h; rw [e]; cases hi; exact .inr (.inl ⟨rfl, .inr ⟨_, _, _, rfl, rfl⟩⟩)
 | nm => rw [show v = _ from h]; cases hi; exact .inr (.inr (.inl ⟨rfl, none, rfl, rfl⟩))
 | m k => rw [h.2]; cases hi; exact .inr (.inr (.inl ⟨rfl, _, rfl, rfl⟩))
 | nl => rw [show v = _ from h]; cases hi; exact .inr (.inr (.inr ⟨rfl, _, _, _, rfl, rfl⟩))
 | sl k o n q => rw [h.2.1]; cases hi; exact .inr (.inr (.inr ⟨rfl, _, _, _, rfl, rfl⟩))
 | st k o n es => obtain ⟨_, _, q, e, _⟩ := h; rw [e]; cases hi; exact .inr (.inr (.inr ⟨rfl, _, _, _, rfl, rfl⟩))
 | i k n => cases hi
 | b x => cases hi
 | s l => cases hi
 | u => cases hi
theorem nlP_is {t : TypeId} {i : Nat} (h : nlP P t = i + 1) (hi : i < 4) : Go.Proofs.YtbgifiijjjoebaaGreatDoor.nlP P t = some i := by
 unfold nlP at h; unfold Go.Proofs.YtbgifiijjjoebaaGreatDoor.nlP
 split at h <;> first | omega | (rename_i hu; cases h; rw [hu])
theorem nl_run {op : BinOp} {t : TypeId} {x y : Operand} {v u : Value} {p q : CV} {r : CV} (hv : RC c N v p) (hu : RC c N u q) (h : nlF op (nlP P t) (nlC p) (nlC q) = some r) :
  (∀ z, (eqGuard op t x y v u).run P w = .ok z w) ∧ ∃ z, (binOp op t v u).run P w = .ok z w ∧ RC c N z r := by
 unfold nlF at h
 cases hb : (Nat.blt 0 (nlP P t) && Nat.beq (nlC p).1 (nlP P t) && Nat.beq (nlC q).1 (nlP P t) && ((nlC p).2 || (nlC q).2) && ((nlC q).2 || Nat.blt (nlP P t) 4)) with
 | false => rw [hb] at h; cases h
 | true =>
  rw [hb] at h; simp only [Bool.and_eq_true, blt_is, decide_eq_true_eq] at hb; obtain ⟨⟨⟨⟨h1, h2⟩, h3⟩, h4⟩, h5⟩ := hb; have h2 := Nat.eq_of_beq_eq_true h2; have h3 := Nat.eq_of_beq_eq_true h3; obtain ⟨i, hi⟩ : ∃ i, nlP P t = i + 1 := ⟨nlP P t - 1, by omega⟩
  have hi4 : i < 4 := by
   have : (nlC p).1 ≤ 4 := by cases p <;> simp [nlC]
   omega
  have n1 := nv_of hv (h2.trans hi); have n2 := nv_of hu (h3.trans hi)
  have h3' : i = 3 → (nlC q).2 = true := fun e => by
   subst e; rw [hi] at h5
   simpa using h5
  rcases eqF_some h with ⟨rfl, rfl⟩ | ⟨rfl, rfl⟩
  ·obtain ⟨g1, g2⟩ := run_bin_nl (P := P) (w := w) (op := .eql) (x := x) (y := y) n1 n2 (nlP_is hi hi4) h4 h3' (.inl rfl); exact ⟨g1, _, g2, rfl⟩
  ·obtain ⟨g1, g2⟩ := run_bin_nl (P := P) (w := w) (op := .neq) (x := x) (y := y) n1 n2 (nlP_is hi hi4) h4 h3' (.inr rfl); exact ⟨g1, _, g2, rfl⟩
theorem two_list {v : Value} {x y : CV} (h : RS c N v (.g [x, y])) : ∃ u z, v = .agg #[u, z] ∧ RC c N u x ∧ RC c N z y := by
 obtain ⟨vs, rfl, h⟩ := h; obtain ⟨l, rfl⟩ : ∃ l : List Value, vs = l.toArray := ⟨vs.toList, by simp⟩; simp only [] at h
 cases h with
 | cons h1 h => cases h with
  | cons h2 h => cases h; exact ⟨_, _, rfl, h1, h2⟩
theorem twoP_is {t : TypeId} {q : IntKind × IntKind} (h : twoP P t = some q) : eqP P t = some (q.1, q.2) := h
theorem bool_of {t : TypeId} (h : nlP P t = 5) : P.underlying t = some .bool := by
 unfold nlP at h
 split at h <;> first | (cases h; done) | assumption | omega
theorem s_bin (h : MR c N m w) (op : BinOp) (t u : TypeId) (x y : Operand) (ho : o.op = .binOp op t x y u) (hx : RS c N (a.eval x) (ev f x)) (hy : RS c N (a.eval y) (ev f y)) (call : CallF) (hf : (oBin op t x y u P call f m N).fine) : OpS P o a c N m w (oBin op t x y u P call f m N) := by
 have hR : oBin op t x y u P call f m N = okO m N (binF P op t (ev f x) (ev f y)) := rfl; rw [hR] at hf ⊢; obtain ⟨r, hr, hok⟩ := okO_fine hf
 have hex : ∀ v, (∀ u, (eqGuard op t x y (a.eval x) (a.eval y)).run P w = .ok u w) → (binOp op t (a.eval x) (a.eval y)).run P w = .ok v w → (execOp a.eval o).run P w = .ok (.value v) w := fun v hg hv => by
  simp only [execOp, ho, Sem.run_bind, hg (), hv, Result.andThen_ok, Sem.run_pure]
 generalize ev f x = X at hx hr; generalize ev f y = Y at hy hr; generalize a.eval x = v at hx hex; generalize a.eval y = v2 at hy hex
 have other : ∀ p q : CV, X = .c p → Y = .c q → nlF op (nlP P t) (nlC p) (nlC q) = some r → OpS P o a c N m w (okO m N (binF P op t X Y)) := fun p q e1 e2 hn => by
  subst e1; subst e2
  obtain ⟨g1, z, g2, g3⟩ := nl_run (P := P) (w := w) (x := x) (y := y) hx hy hn; rw [hr]; exact OpS.val h rfl (hex z g1 g2) g3
 cases X with
 | c p =>
  cases Y with
  | c q =>
   have hr0 : binC P op t p q = some r := hr
   cases p with
   | i k n =>
    cases q with
    | i j n' =>
     have hr0 : (bif Nat.beq (kN k) (kN j) || shB op then intF op k n n' else none) = some r := hr0
     cases hk : (Nat.beq (kN k) (kN j) || shB op) with
     | false => rw [hk] at hr0; cases hr0
     | true =>
      rw [hk] at hr0; have hx : v = .int k n := hx; have hy : v2 = .int j n' := hy
      subst hx; subst hy
      obtain ⟨z, g1, g2⟩ := int_run (P := P) (w := w) (c := c) (N := N) t hk hr0; rw [hr]; exact OpS.val h rfl (hex z (fun _ => by cases op <;> simp [eqGuard]) g1) g2
    | _ => exact other _ _ rfl rfl hr0
   | s l =>
    cases q with
    | s l' =>
     have hr0 : strF op l l' = some r := hr0; obtain ⟨rfl, _, h1⟩ := hx; obtain ⟨rfl, _, h2⟩ := hy; obtain ⟨z, g1, g2⟩ := str_run (P := P) (w := w) (c := c) (N := N) t h1 h2 hr0; rw [hr]; exact OpS.val h rfl (hex z (fun _ => by cases op <;> simp [eqGuard]) g1) g2
    | _ => exact other _ _ rfl rfl hr0
   | b b1 =>
    cases q with
    | b b2 =>
     have hr0 : (bif Nat.beq (nlP P t) 5 then eqF op (bB b1 b2) else none) = some r := hr0
     cases hk : Nat.beq (nlP P t) 5 with
     | false => rw [hk] at hr0; cases hr0
     | true =>
      rw [hk] at hr0; have hub := bool_of (Nat.eq_of_beq_eq_true hk); have hx : v = .bool b1 := hx; have hy : v2 = .bool b2 := hy
      subst hx; subst hy
      have hg : ∀ u, (eqGuard op t x y (.bool b1) (.bool b2)).run P w = .ok u w := fun _ => by cases op <;> simp [eqGuard]
      rw [hr]
      rcases eqF_some hr0 with ⟨rfl, rfl⟩ | ⟨rfl, rfl⟩
      ·exact OpS.val h rfl (hex (.bool (b1 == b2)) hg (by simp [binOp, run_eqb hub])) (by rw [bB_is]; exact rfl)
      ·exact OpS.val h rfl (hex (.bool (!(b1 == b2))) hg (by simp [binOp, run_eqb hub])) (by rw [bB_is]; exact rfl)
    | _ => exact other _ _ rfl rfl hr0
   | _ => exact other _ _ rfl rfl hr0
  | _ => cases hr
 | g xs =>
  cases Y with
  | g ys =>
   have hr0 : twoF op (twoP P t) xs ys = some r := hr; unfold twoF at hr0
   split at hr0
   ·rename_i p i n j n' i' n2 j' n2' hp
    generalize hC : (Nat.beq (kN i) (kN p.1) && Nat.beq (kN i') (kN p.1) && Nat.beq (kN j) (kN p.2) && Nat.beq (kN j') (kN p.2)) = C at hr0
    cases C with
    | false => cases hr0
    | true =>
     simp only [Bool.and_eq_true] at hC; obtain ⟨⟨⟨k1, k2⟩, k3⟩, k4⟩ := hC; have k1 := kN_inj (Nat.eq_of_beq_eq_true k1); have k2 := kN_inj (Nat.eq_of_beq_eq_true k2); have k3 := kN_inj (Nat.eq_of_beq_eq_true k3); have k4 := kN_inj (Nat.eq_of_beq_eq_true k4); obtain ⟨_, _, rfl, q1, q2⟩ := two_list hx; obtain ⟨_, _, rfl, q3, q4⟩ := two_list hy; have q1 : _ = Value.int i n := q1; have q2 : _ = Value.int j n' := q2; have q3 : _ = Value.int i' n2 := q3; have q4 : _ = Value.int j' n2' := q4
     subst q1; subst q2; subst q3; subst q4
     rw [k1, k2, k3, k4] at hex; rw [hr]
     rcases eqF_some hr0 with ⟨rfl, rfl⟩ | ⟨rfl, rfl⟩
     ·obtain ⟨g1, g2⟩ := run_eqg (P := P) (w := w) (twoP_is hp) n n' n2 n2' .eql (.inl rfl) x y; exact OpS.val h rfl (hex _ g1 g2) (by rw [ieq_is, ieq_is]; exact rfl)
     ·obtain ⟨g1, g2⟩ := run_eqg (P := P) (w := w) (twoP_is hp) n n' n2 n2' .neq (.inr rfl) x y; exact OpS.val h rfl (hex _ g1 g2) (by rw [ieq_is, ieq_is]; exact rfl)
   ·cases hr0
  | _ => cases hr
 | _ => cases hr
end
end Go.Proofs.YtbgifiijjjoebaaGreatDoor.Cm

namespace Go.Proofs.YtbgifiijjjoebaaGreatDoor.Cm
open Go Go.RowKit

section
variable {P : Program} {c : Cx} {N : Bp} {m : Mm} {w : World} {o : Oper} {a : Act} {f : Fm}
theorem isAgg_is {t : TypeId} {d : TypeDesc} (h : P.underlying t = some d) : (isAgg t).run P w = .ok d.isRow w := by
 unfold isAgg; rw [Sem.run_bind, run_underlying h w]
 cases d <;> rfl
theorem s_un (h : MR c N m w) (op : UnOp) (t : TypeId) (x : Operand) (ho : o.op = .unOp op t x) (hx : RS c N (a.eval x) (ev f x)) (call : CallF) (hf : (oUn op t x P call f m N).fine) : OpS P o a c N m w (oUn op t x P call f m N) := by
 have hR : oUn op t x P call f m N = okO m N (unS op (asC (ev f x))) := rfl; rw [hR] at hf ⊢; obtain ⟨r, hr, hok⟩ := okO_fine hf
 cases hy : asC (ev f x) with
 | none => rw [hy] at hr; cases hr
 | some y =>
  have h1 := asC_rel hx hy; rw [hy] at hr; have hr : unC op y = some r := hr
  have hex : ∀ v, (Op.unary op (a.eval x)).run P w = .ok v w → (execOp a.eval o).run P w = .ok (.value v) w := fun v hv => by
   simp only [execOp, ho, Sem.run_bind, hv, Result.andThen_ok, Sem.run_pure]
  rw [hy] at hok; unfold unC at hr
  split at hr
  ·injection hr with hr; subst hr
   have h1 : a.eval x = .bool _ := h1; rw [h1] at hex; exact OpS.val h hok (hex (.bool (!_)) (by simp only [Op.unary]; rfl)) rfl
  ·injection hr with hr; subst hr
   have h1 : a.eval x = .int _ _ := h1; rw [h1] at hex; exact OpS.val h hok (hex (.int _ _) (by simp only [Op.unary, Op.intArith]; rfl)) rfl
  ·injection hr with hr; subst hr
   have h1 : a.eval x = .int _ _ := h1; rw [h1] at hex; exact OpS.val h hok (hex (.int _ _) (by simp only [Op.unary, Op.intBits]; rfl)) rfl
  ·cases hr
theorem s_nil (h : MR c N m w) (x : Operand) (ho : o.op = .nilCheck x) (hx : RS c N (a.eval x) (ev f x)) (call : CallF) (hf : (oNil x P call f m N).fine) : OpS P o a c N m w (oNil x P call f m N) := by
 unfold oNil at hf ⊢; obtain ⟨r, hr, hok⟩ := okS_fine hf; rw [hok]
 split at hr
 ·rename_i k q e
  injection hr with hr; subst hr
  rw [e] at hx; have h1 : a.eval x = .pointer (some ⟨c.b k, q, none⟩) := hx.2; exact OpS.val h rfl (by simp [execOp, ho, h1]) ⟨hx.1, h1⟩
 ·rename_i n ks e
  injection hr with hr; subst hr
  rw [e] at hx; obtain ⟨cap, h1, h2⟩ := hx; exact OpS.val h rfl (v := .func (.func n) #[] cap) (by simp [execOp, ho, h1]) ⟨cap, rfl, h2⟩
 ·cases hr
theorem fldP_is {T : TypeId} {i : Nat} {q : Nat × Nat} (h : fldP P T i = some q) : Go.Proofs.YtbgifiijjjoebaaGreatDoor.fldP P T i = some (q.1, q.2) := h
theorem s_field (h : MR c N m w) (T : TypeId) (x : Operand) (i : Nat) (ho : o.op = .fieldAddr T x i) (hx : RS c N (a.eval x) (ev f x)) (call : CallF) (hf : (oFieldAddr T x i P call f m N).fine) : OpS P o a c N m w (oFieldAddr T x i P call f m N) := by
 have hR : oFieldAddr T x i P call f m N = fldF m N (asP (ev f x)) (fldP P T i) := rfl; rw [hR] at hf ⊢
 cases hp : asP (ev f x) with
 | none => rw [hp] at hf; exact hf.elim
 | some p =>
  cases hq : fldP P T i with
  | none => rw [hp, hq] at hf; exact hf.elim
  | some q =>
   obtain ⟨hN, hv⟩ := asP_rel hx hp; refine OpS.val (x := .c (.p p.1 (p.2 + q.1))) h rfl (v := .pointer (some ⟨c.b p.1, p.2 + q.1, none⟩)) ?_ ⟨hN, rfl⟩; have := run_field_gen (P := P) (w := w) (fldP_is hq) (c.b p.1) p.2; simp only [execOp, ho, hv, Sem.run_bind, this, Result.andThen_ok, Sem.run_pure]
theorem fldV_spec {T : TypeId} {i : Nat} {q : Nat × Bool × Nat} (h : fldV P T i = some q) : ∃ fs fl, P.underlying T = some (.struct fs) ∧ fs[i]? = some fl ∧ fl.offset = q.1 ∧ lyt P fl.type = some q.2 := by
 unfold fldV at h
 split at h
 ·rename_i fs hu
  split at h
  ·rename_i fl hfl
   split at h
   ·rename_i g n hl
    injection h with h; subst h
    exact ⟨fs, fl, hu, hfl, rfl, hl⟩
   ·cases h
  ·cases h
 ·cases h
theorem s_fieldv (h : MR c N m w) (T : TypeId) (x : Operand) (i : Nat) (ho : o.op = .field T x i) (hx : RS c N (a.eval x) (ev f x)) (call : CallF) (hf : (oField T x i P call f m N).fine) : OpS P o a c N m w (oField T x i P call f m N) := by
 have hR : oField T x i P call f m N = okS m N (fvF (asG (ev f x)) (fldV P T i)) := rfl; rw [hR] at hf ⊢; obtain ⟨r, hr, hok⟩ := okS_fine hf; rw [hok]
 cases hl : asG (ev f x) with
 | none => rw [hl] at hr; cases hr
 | some l =>
  cases hq : fldV P T i with
  | none => rw [hl, hq] at hr; cases hr
  | some q =>
   rw [hl, hq] at hr; have hr : (bif Nat.ble (q.1 + q.2.2) l.length then ofL q.2.1 (some ((l.drop q.1).take q.2.2)) else none) = some r := hr
   cases hb : Nat.ble (q.1 + q.2.2) l.length with
   | false => rw [hb] at hr; cases hr
   | true =>
    rw [hb] at hr; have hr : ofL q.2.1 (some ((l.drop q.1).take q.2.2)) = some r := hr; have hle := Nat.le_of_ble_eq_true hb; obtain ⟨fs, fl, hu, hfl, ho1, hl1⟩ := fldV_spec hq; obtain ⟨i', d, hi, hud, hd, hsz⟩ := lyt_spec (lyt_is hl1)
    have hxg : ∃ vs : Array Value, a.eval x = .agg vs ∧ F2 (RC c N) vs.toList l := by
     unfold asG at hl
     split at hl
     ·rename_i cs e
      injection hl with hl; subst hl
      rw [e] at hx; exact hx
     ·cases hl
    obtain ⟨vs, hv, hvl⟩ := hxg; have hlen := forall2_len hvl; have hsub : F2 (RC c N) ((vs.toList.drop q.1).take q.2.2) ((l.drop q.1).take q.2.2) := forall2_take _ (forall2_drop _ hvl)
    have hpart : ∀ u, (part fl.type vs fl.offset).run P w = .ok u w → (execOp a.eval o).run P w = .ok (.value u) w := fun u hu' => by
     simp only [execOp, ho, Instr.field, run_underlying hu, hfl, hv, asAgg, Sem.run_bind, Sem.run_pure, Result.andThen_ok, hu']
    obtain ⟨xs, hxs, hg⟩ := ofL_some hr
    injection hxs with hxs
    subst hxs
    rcases hg with ⟨g1, rfl⟩ | ⟨g1, z, hz, rfl⟩
    ·refine OpS.val h rfl (v := .agg (vs.extract q.1 (q.1 + q.2.2))) (hpart _ ?_) ⟨_, rfl, ?_⟩
     ·have hagg : (isAgg fl.type).run P w = .ok true w := by rw [isAgg_is hud, hd, g1]
      simp only [part, Sem.run_bind, hagg, Result.andThen_ok, if_true, sizeOf, typeInfo, run_program, hi, Sem.run_pure, hsz, ho1]
     ·have : (vs.extract q.1 (q.1 + q.2.2)).toList = (vs.toList.drop q.1).take q.2.2 := by
       simp [Array.toList_extract, List.extract_eq_take_drop]
      rw [this]; exact hsub
    ·rw [hz] at hsub
     have hone : ((vs.toList.drop q.1).take q.2.2).length = 1 := by rw [forall2_len hsub]; rfl
     have hlt : q.1 < vs.size := by
      simp only [List.length_take, List.length_drop, Array.length_toList] at hone
      omega
     generalize hL : (vs.toList.drop q.1).take q.2.2 = L at hsub
     cases hsub with
     | @cons u _ us _ h5 h6 =>
      cases h6
      have hu0 : vs[q.1]? = some u := by
       have := congrArg (·[0]?) hL; simp only [List.getElem?_cons_zero, List.getElem?_take, List.getElem?_drop, Nat.add_zero] at this
       split at this
       ·rw [← Array.getElem?_toList]; exact this
       ·cases this
      refine OpS.val h rfl (v := u) (hpart _ ?_) h5
      have hagg : (isAgg fl.type).run P w = .ok false w := by rw [isAgg_is hud, hd, g1]
      simp only [part, Sem.run_bind, hagg, Result.andThen_ok, Bool.false_eq_true, if_false, ho1, hu0, Sem.run_pure]
theorem eltP_spec' {T : TypeId} {e : Elt} (h : eltP P T = some e) : ∃ i z, P.underlying T = some (.slice e.e) ∧ P.info? e.e = some i ∧ i.size = e.s ∧ i.bytes = e.y ∧ i.zero = some z ∧ z.cells.size = e.s := by
 unfold eltP at h
 split at h
 ·rename_i e' hu
  split at h
  ·rename_i i hi
   split at h
   ·rename_i z hz
    split at h
    ·rename_i hs
     injection h with h; subst h
     exact ⟨i, z, hu, hi, rfl, rfl, hz, hs⟩
    ·cases h
   ·cases h
  ·cases h
 ·cases h
theorem eltP_spec {T : TypeId} {e : Elt} (h : eltP P T = some e) : ∃ i z, P.underlying T = some (.slice e.e) ∧ P.info? e.e = some i ∧ i.size = e.s ∧ i.bytes = e.y ∧ i.zero = some z :=
 let ⟨i, z, h1, h2, h3, h4, h5, _⟩ := eltP_spec' h
 ⟨i, z, h1, h2, h3, h4, h5⟩
theorem arrP_spec {T : TypeId} {q : Nat × Nat} (h : arrP P T = some q) : ∃ e i, P.underlying T = some (.array q.1 e) ∧ P.info? e = some i ∧ i.size = q.2 := by
 unfold arrP at h
 split at h
 ·rename_i n e hu
  split at h
  ·rename_i i hi
   injection h with h; subst h
   exact ⟨e, i, hu, hi, rfl⟩
  ·cases h
 ·cases h
theorem s_index (h : MR c N m w) (T : TypeId) (x y : Operand) (ho : o.op = .indexAddr T x y) (hx : RS c N (a.eval x) (ev f x)) (hy : RS c N (a.eval y) (ev f y)) (call : CallF) (hf : (oIndexAddr T x y P call f m N).fine) : OpS P o a c N m w (oIndexAddr T x y P call f m N) := by
 have hR : oIndexAddr T x y P call f m N = okS m N (ixF P T (asC (ev f x)) (asN (ev f y))) := rfl; rw [hR] at hf ⊢; obtain ⟨r, hr, hok⟩ := okS_fine hf; rw [hok]
 cases hl : asC (ev f x) with
 | none => rw [hl] at hr; cases hr
 | some z =>
 cases hn : asN (ev f y) with
 | none => rw [hl, hn] at hr; cases hr
 | some i =>
  rw [hl, hn] at hr; have hr : ixC P T i z = some r := hr; have h1 := asC_rel hx hl; obtain ⟨k, h2⟩ := asN_rel hy hn
  have hex : ∀ v, (Instr.indexAt T (a.eval x) (a.eval y)).run P w = .ok v w → (execOp a.eval o).run P w = .ok (.value v) w := fun v hv => by
   simp only [execOp, ho, Sem.run_bind, hv, Result.andThen_ok, Sem.run_pure]
  rw [h2] at hex
  have ix : ∀ {b : Bp} {q n es : Nat} {r : SV}, ixA b q n es i = some r → i < n ∧ r = .c (.p b (q + i * es)) := fun {b q n es r} e => by
   unfold ixA at e; rw [blt_is] at e
   by_cases hin : i < n
   ·simp [hin] at e; exact ⟨hin, e.symm⟩
   ·simp [hin] at e
  cases z with
  | sl b q n cp =>
   cases he : eltP P T with
   | none => simp only [ixC, he] at hr; cases hr
   | some e =>
    simp only [ixC, he] at hr; obtain ⟨g1, rfl⟩ := ix hr; obtain ⟨i', zv, hu, hi, hs, _⟩ := eltP_spec he; obtain ⟨hN, hv, _⟩ := h1
    have hint : (i : Int) < (n : Int) := by omega
    refine OpS.val h rfl (hex (.pointer (some ⟨c.b b, q + i * e.s, none⟩)) ?_) ⟨hN, rfl⟩; rw [hv]; simp [Instr.indexAt, asIntOf, run_underlying hu, sizeOf, typeInfo, hi, hs, Addr.add_mid]; intro hc
    omega
  | st b q n es =>
   cases he : eltP P T with
   | none => simp only [ixC, he] at hr; cases hr
   | some e =>
    simp only [ixC, he] at hr
    cases hb : Nat.beq es e.s with
    | false => rw [hb] at hr; cases hr
    | true =>
     rw [hb] at hr; obtain ⟨g1, rfl⟩ := ix hr; obtain ⟨i', zv, hu, hi, hs, _⟩ := eltP_spec he; obtain ⟨hN, _, qq, hv, _⟩ := h1
     have hint : (i : Int) < (n : Int) := by omega
     refine OpS.val h rfl (hex (.pointer (some ⟨c.b b, q + i * e.s, none⟩)) ?_) ⟨hN, rfl⟩; rw [hv]; simp [Instr.indexAt, asIntOf, run_underlying hu, sizeOf, typeInfo, hi, hs, Addr.add_mid]; intro hc
     omega
  | p b q =>
   cases he : arrP P T with
   | none => simp only [ixC, he] at hr; cases hr
   | some e =>
    simp only [ixC, he] at hr; obtain ⟨g1, rfl⟩ := ix hr; obtain ⟨e', i', hu, hi, hs⟩ := arrP_spec he; obtain ⟨hN, hv⟩ := h1
    have hint : (i : Int) < (e.1 : Int) := by omega
    refine OpS.val h rfl (hex (.pointer (some ⟨c.b b, q + i * e.2, none⟩)) ?_) ⟨hN, rfl⟩; rw [hv]; simp [Instr.indexAt, asIntOf, run_underlying hu, Instr.sureAddr, sizeOf, typeInfo, hi, hs, Addr.add_mid]; intro hc
    omega
  | _ => cases hr
theorem mkS_at (l : List Nat) (i : Nat) : (mkS l)[i]? = (l[i]?).map UInt8.ofNat := by
 have h1 := mkS_size l
 by_cases hi : i < l.length
 ·have h2 : i < (mkS l).size := by omega
  rw [getElem?_pos (mkS l) i h2]; simp [hi]
  show (mkS l).data[i] = _
  simp [mkS]
 ·rw [getElem?_neg (mkS l) i (by omega)]; simp [show l.length ≤ i by omega]
theorem s_char (h : MR c N m w) (T : TypeId) (x y : Operand) (ho : o.op = .index T x y) (hx : RS c N (a.eval x) (ev f x)) (hy : RS c N (a.eval y) (ev f y)) (call : CallF) (hf : (oIndex T x y P call f m N).fine) : OpS P o a c N m w (oIndex T x y P call f m N) := by
 have hR : oIndex T x y P call f m N = okO m N (bif strP P T then sixF (asC (ev f x)) (asN (ev f y)) else none) := rfl; rw [hR] at hf ⊢; obtain ⟨r, hr, hok⟩ := okO_fine hf; rw [hok]
 cases hT : strP P T with
 | false => rw [hT] at hr; cases hr
 | true =>
 rw [hT] at hr; have hr : sixF (asC (ev f x)) (asN (ev f y)) = some r := hr
 have hu : P.underlying T = some .string := by
  unfold strP at hT
  split at hT
  ·assumption
  ·cases hT
 unfold sixF at hr
 split at hr
 ·rename_i l i e1 e2
  have h1 := asC_rel hx e1; obtain ⟨k, h2⟩ := asN_rel hy e2; obtain ⟨hv, _, hb⟩ := h1
  cases hl : l[i]? with
  | none => rw [hl] at hr; cases hr
  | some n =>
   rw [hl] at hr
   injection hr with hr; subst hr
   have hn := hb n (List.mem_of_getElem? hl)
   have hm : (mkS l)[i]? = some (UInt8.ofNat n) := by rw [mkS_at, hl]; rfl
   refine OpS.val h rfl (v := .int .u8 (n : Int)) ?_ rfl
   have e3 : ((UInt8.ofNat n).toNat : Int) = n := by simp only [UInt8.toNat_ofNat']; omega
   simp [execOp, ho, hv, h2, Instr.index, asIntOf, run_underlying hu, hm]
   omega
 ·cases hr
theorem s_extract (h : MR c N m w) (x : Operand) (j : Nat) (ho : o.op = .extract x j) (hx : RS c N (a.eval x) (ev f x)) (call : CallF) (hf : (oExtract x j P call f m N).fine) : OpS P o a c N m w (oExtract x j P call f m N) := by
 have hR : oExtract x j P call f m N = okS m N (extrF j (ev f x)) := rfl; rw [hR] at hf ⊢; obtain ⟨r, hr, hok⟩ := okS_fine hf; rw [hok]; unfold extrF at hr
 split at hr
 ·rename_i xs e
  rw [e] at hx; obtain ⟨vs, hv, hvl⟩ := hx
  cases hj : xs[j]? with
  | none => simp only [hj] at hr; cases hr
  | some z =>
   simp only [hj] at hr
   injection hr with hr; subst hr
   have hlt := (List.getElem?_eq_some_iff.1 hj).1; have hlen := forall2_len hvl; have h1 := forall2_get hvl j (by omega) hlt; rw [(List.getElem?_eq_some_iff.1 hj).2] at h1
   have hjs : j < vs.size := by simpa using (show j < vs.toList.length by omega)
   refine OpS.val h rfl (v := vs.toList[j]'(by simpa using hjs)) ?_ (toR_rel h1); simp [execOp, ho, hv, Instr.extract, hjs]
 ·cases hr
theorem caps_rel : ∀ {l : List Operand} {ks : List (Bp × Nat)}, (∀ x ∈ l, RS c N (a.eval x) (ev f x)) → capsF f l = some ks → F2 (fun u (p : Bp × Nat) => Lv c N p.1 ∧ u = .pointer (some ⟨c.b p.1, p.2, none⟩)) (l.map a.eval) ks
 | [], ks, _, hc => by
  have : ks = [] := (Option.some.inj hc).symm
  subst this; exact .nil
 | x :: r, ks, hx, hc => by
  have hc : cons? (asP (ev f x)) (capsF f r) = some ks := hc; obtain ⟨p, l, h1, h2, rfl⟩ := cons?_some hc; exact .cons (asP_rel (hx x List.mem_cons_self) h1) (caps_rel (fun y hy => hx y (List.mem_cons_of_mem _ hy)) h2)
theorem s_func (h : MR c N m w) (fn : Go.Fn) (fi cap : Array Operand) (ho : o.op = .makeFunc fn fi cap) (hx : ∀ x ∈ cap.toList, RS c N (a.eval x) (ev f x)) (call : CallF) (hf : (oMakeFunc fn fi cap P call f m N).fine) : OpS P o a c N m w (oMakeFunc fn fi cap P call f m N) := by
 cases fn with
 | func n =>
  have hR : oMakeFunc (.func n) fi cap P call f m N = okS m N (bif Nat.beq fi.toList.length 0 then funF n (capsF f cap.toList) else none) := rfl; rw [hR] at hf ⊢; obtain ⟨r, hr, hok⟩ := okS_fine hf; rw [hok]
  cases hb : Nat.beq fi.toList.length 0 with
  | false => rw [hb] at hr; cases hr
  | true =>
   rw [hb] at hr
   have hfi : fi = #[] := by
    have := Nat.eq_of_beq_eq_true hb; exact Array.eq_empty_of_size_eq_zero (by simpa using this)
   have hr : funF n (capsF f cap.toList) = some r := hr
   cases hc : capsF f cap.toList with
   | none => rw [hc] at hr; cases hr
   | some ks =>
    rw [hc] at hr
    injection hr with hr; subst hr
    refine OpS.val h rfl (v := .func (.func n) #[] (cap.map a.eval)) (by simp [execOp, ho, Instr.makeFunc, hfi]) ⟨_, rfl, ?_⟩; rw [Array.toList_map]; exact caps_rel hx hc
 | _ => exact hf.elim
end
end Go.Proofs.YtbgifiijjjoebaaGreatDoor.Cm
