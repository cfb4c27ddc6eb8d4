/- What one operation does to a state without addresses (IV): structs, rows. No conditions. -/
import Derived.Test.YtbgifiijjjoebaaGreatDoorGNamesAe
import Derived.Laws.BytesString
import Derived.Laws.OwnMore
import Derived.Great.BuildSlice
import Derived.Laws.CopyRow
import Derived.Laws.IdiomCopy
namespace Go.Proofs.YtbgifiijjjoebaaGreatDoor
open Go.RowKit

def bldP (P : Program) (T : TypeId) : Option (List CV × List (Nat × Nat)) :=
 match P.underlying T with
 | some (.struct fs) => match zeroC P T, fs.toList.mapM (fun f => (P.info? f.type).map fun i => (f.offset, i.size)) with
  | some z, some pl => some (z, pl)
  | _, _ => none
 | _ => none
def fillC (pl : Nat → Option (Nat × Nat)) (cs : List CV) (K : List CV → Prop) : List (Nat × SV) → Prop
 | [] => K cs
 | (i, r) :: rest => match pl i, cellsOf r with
  | some (off, sz), some ys => ys.length = sz ∧ off + sz ≤ cs.length ∧ fillC pl (layC cs off ys) K rest
  | _, _ => False
def buildK (b : Option (List CV × List (Nat × Nat))) (m : Mem) (K : SV → Mem → Prop) (ps : List (Nat × SV)) : Prop :=
 match b with
 | some (z, pl) => fillC (pl[·]?) z (fun cs => K (.g cs) m) ps
 | none => False
def evs (S : AS) (ps : Array (Nat × Operand)) : List (Nat × SV) := ps.toList.map fun p => (p.1, ez S p.2)
def rowP (es : Nat) : List (Nat × SV) → Nat → Option (Bool × List (List D))
 | [], _ => some (true, [])
 | (i, r) :: rest, k => match cellsOf r with
  | some ys => match snapDs ys, rowP es rest (k + 1) with
   | some (f, d), some (g, ds) => if i = k ∧ ys.length = es then some (f && g, d :: ds) else none
   | _, _ => none
  | none => none
def rowK (d : Option Nat) (e : Option (TypeId × Nat × Nat)) (len : Nat) (m : Mem) (K : SV → Mem → Prop) (ps : List (Nat × SV)) : Prop :=
 match d, e with
 | some k, some (T, es, _) => 0 < es ∧ len * es ≤ 16777216 ∧ mat m k = none ∧ (match rowP es ps 0 with
  | some (f, xs) => xs.length = len ∧ K (.c (.r k len)) ((k, .r f es T xs) :: m)
  | none => False)
 | _, _ => False
def rowDK (e : Option (TypeId × Nat × Nat)) (len : Nat) (m : Mem) (K : SV → Mem → Prop) (ps : List (Nat × SV)) : Prop :=
 match e with
 | some (_, es, _) => 0 < es ∧ len * es ≤ 16777216 ∧ (match rowP es ps 0 with
  | some (f, xs) => xs.length = len ∧ K (.c (.l f xs)) m
  | none => False)
 | none => False
def Rw (d : Option Nat) (e : Option (TypeId × Nat × Nat)) (len : Nat) (m : Mem) (K : SV → Mem → Prop) (ps : List (Nat × SV)) : Prop := rowK d e len m K ps ∨ rowDK e len m K ps
theorem rw_own {d : Option Nat} {e : Option (TypeId × Nat × Nat)} {len : Nat} {m : Mem} {K : SV → Mem → Prop} {ps : List (Nat × SV)} (h : rowK d e len m K ps) : Rw d e len m K ps := .inl h
def srcK (m : Mem) (K : Bool → List (List D) → Prop) : SV → Prop
 | .c (.l f xs) => K f xs
 | .c .nl => K true []
 | .c (.r k n) => match mat m k with
  | some (.r f _ _ xs) => n = xs.length ∧ K f xs
  | _ => False
 | _ => False
def appK (d : Option Nat) (e : Option (TypeId × Nat × Nat)) (m : Mem) (K : SV → Mem → Prop) (s x : SV) : Prop :=
 match e with
 | some (T, es, bs) => 0 < es ∧ srcK m (fun f ys => (∀ y ∈ ys, y.length = es) ∧ (match s with
  | .c .nl => (match d with
   | some k => mat m k = none ∧ ys.length * bs ≤ 140737488355328 ∧ ys.length ≤ 9223372036854775807 ∧ K (.c (.r k ys.length)) ((k, .r f es T ys) :: m)
   | none => False)
  | .c (.r k n) => (match mat m k with
   | some (.r f' es' T' xs) => n = xs.length ∧ es' = es ∧ T' = T ∧ (xs.length + ys.length) * bs ≤ 140737488355328 ∧ xs.length + ys.length ≤ 9223372036854775807 ∧ (∀ j n', x = .c (.r j n') → j ≠ k) ∧ K (.c (.r k (xs.length + ys.length))) (mset m k (.r (f' && f) es T (xs ++ ys)))
   | _ => False)
  | _ => False)) x
 | none => False
def copK (e : Option (TypeId × Nat × Nat)) (m : Mem) (K : SV → Mem → Prop) (s x : SV) : Prop :=
 match e with
 | some (_, es, _) => es = 1 ∧ (match s with
  | .c (.r k n) => (match mat m k with
   | some (.r f' es' T' xs) => n = xs.length ∧ es' = 1 ∧ srcK m (fun f ys => (∀ y ∈ ys, y.length = 1) ∧ ys.length ≤ xs.length ∧ K (.c (.i .i64 ys.length)) (mset m k (.r (f' && f) 1 T' (ys ++ xs.drop ys.length)))) x
   | _ => False)
  | _ => False)
 | none => False
def makeK (P : Program) (d : Option Nat) (e : Option (TypeId × Nat × Nat)) (m : Mem) (K : SV → Mem → Prop) (l c : SV) : Prop :=
 match d, e with
 | some k, some (T, es, bs) => match l, c, (zeroC P T).bind snapDs with
  | .c (.i _ n), .c (.i _ n'), some (f, z) => n' = n ∧ 0 < es ∧ 0 ≤ n ∧ n ≤ 9223372036854775807 ∧ z.length = es ∧ bs * n.toNat ≤ 140737488355328 ∧ mat m k = none ∧ K (.c (.r k n.toNat)) ((k, .r f es T (List.replicate n.toNat z)) :: m)
  | _, _, _ => False
 | _, _ => False

section
variable {P : Program} {w0 : Beg} {c : Cx} {S : AS} {a : Act} {w : World} {o : Oper} {m : Mem} {K : SV → Mem → Prop} {Q : Exit → Act → World → Prop}
theorem foldl_lay : ∀ (vs : List Value) (j off : Nat) (cs : Array Value), off + j + vs.length ≤ cs.size → ((vs.zipIdx j).foldl (fun cs (x : Value × Nat) => cs.setIfInBounds (off + x.2) x.1) cs).toList = cs.toList.take (off + j) ++ vs ++ cs.toList.drop (off + j + vs.length)
 | [], j, off, cs, h => by simp
 | v :: r, j, off, cs, h => by
  simp only [List.zipIdx_cons, List.foldl_cons]; rw [foldl_lay r (j + 1) off _ (by simp at h ⊢; omega)]; have e := list_seg_step cs.toList (off + j) v r (by simp at h ⊢; omega)
  simpa [Array.toList_setIfInBounds, Nat.add_assoc] using e
theorem fill_rel (pl : Nat → Option (Nat × Nat)) {KC : List CV → Prop} : ∀ (ps : List (Nat × Value)) (rs : List (Nat × SV)) (vs : Array Value) (cs : List CV), F2 (fun p r => p.1 = r.1 ∧ RelR c m w p.2 r.2) ps rs → F2 (RelC c m w) vs.toList cs →
  fillC pl cs KC rs → ∃ us cs', Instr.fill pl vs ps = some us ∧ F2 (RelC c m w) us.toList cs' ∧ KC cs'
 | [], _, vs, cs, .nil, h, hK => ⟨vs, cs, rfl, h, hK⟩
 | (i, v) :: ps, _, vs, cs, .cons (b := (i', r)) h1 h2, h, hK => by
  obtain ⟨rfl, hr⟩ := h1; simp only [fillC] at hK
  split at hK
  ·rename_i _ _ off sz ys hp hy
   obtain ⟨e1, e2, hK⟩ := hK; have hc := cellsOf_rel hr hy; have l1 := forall2_len hc; have l2 := forall2_len h; simp only [Array.length_toList] at l1 l2; unfold Instr.fill; simp only [hp]; rw [if_neg (by simp; omega)]; refine fill_rel pl ps _ _ _ h2 ?_ hK; have e := foldl_lay v.cells.toList 0 off vs (by simp; omega)
   have e' : (v.cells.zipIdx.foldl (fun cs (x : Value × Nat) => cs.setIfInBounds (off + x.2) x.1) vs).toList = vs.toList.take off ++ v.cells.toList ++ vs.toList.drop (off + v.cells.toList.length) := by
    rw [← Array.foldl_toList, Array.toList_zipIdx]
    simpa using e
   rw [e']; exact h.layC hc off
  ·exact hK.elim
theorem evs_rel (h : RelX w0 c S a w) (ps : Array (Nat × Operand)) : F2 (fun (p : Nat × Value) (r : Nat × SV) => p.1 = r.1 ∧ RelR c S.m w p.2 r.2) (ps.map fun (i, x) => (i, a.eval x)).toList (evs S ps) := by
 unfold evs; rw [Array.toList_map]; generalize ps.toList = l
 induction l with
 | nil => exact .nil
 | cons p r ih => exact .cons ⟨rfl, h.evs p.2⟩ ih
theorem sim_build (h : RelX w0 c S a w) (hd : ∀ t, o.dst = some t → t < S.n) (T : TypeId) (ps : Array (Nat × Operand)) (ho : o.op = .build T ps) (hK : buildK (bldP P T) S.m K (evs S ps)) : o.wp P a w (fun a' w' => ∃ r m', K r m' ∧ Rel w0 (S.put o.dst r m') a' w') Q := by
 unfold buildK at hK
 split at hK
 ·rename_i z pl hb
  unfold bldP at hb
  split at hb
  ·rename_i fs hu
   split at hb
   ·rename_i z' pl' hz hpl
    simp only [Option.some.injEq, Prod.mk.injEq] at hb; obtain ⟨rfl, rfl⟩ := hb; unfold zeroC at hz; simp only [Option.bind_eq_some_iff] at hz; obtain ⟨zv, ⟨i, hi, hzv⟩, hcs⟩ := hz; obtain ⟨us, cs', h1, h2, h3⟩ := fill_rel (pl'[·]?) _ _ zv.cells z' (evs_rel h ps) (cCVs_rel hcs) hK
    have hbt : P.built T (ps.map fun (i, x) => (i, a.eval x)).toList = some us := by
     unfold Program.built; simp only [hi, hu, hzv, hpl]
     simpa using h1
    refine sim_val (r := .g cs') (v := .agg us) hd ?_ h ⟨us, rfl, h2⟩ h3; simp only [execOp, ho, Sem.run_bind, run_build w T _ us hbt, Result.andThen_ok, Sem.run_pure]
   ·cases hb
  ·cases hb
 ·exact hK.elim

theorem new_rowd (h : RelX w0 c S a w) {k : Nat} {f : Bool} {es : Nat} {T : TypeId} {xs : List (List D)} (hk : mat S.m k = none) (h0 : 0 < es) {w' : World} (v : Value) (hx : Ext w w') (hv : ∀ b, v.ownBlock = some b → ¬ c.X b ∧ ∀ j oj, mat S.m j = some oj → blk c j oj ≠ some b)
  (hO : Own es ED w' (c.Y f) c.n0 T v xs) (hl : ∀ e ∈ xs, e.length = es) : RelX w0 ⟨c.β, fun j => if j = k then v else c.ρ j, c.X, c.n0⟩ ⟨S.n, S.f, (k, .r f es T xs) :: S.m⟩ a w' := by
 refine h.newd hk (fun _ _ => rfl) (fun j hj => by simp [hj]) hx (fun b hb => ?_) fun hmon => ?_
 ·simp [blk] at hb; exact (hv b hb).2
 ·refine ⟨h0, by show Own es ED w' (c.Y f) c.n0 T (if k = k then v else c.ρ k) xs; rw [if_pos rfl]; exact hO, fun b hb => ?_, hl⟩; simp at hb; exact (hv b hb).1
theorem new_row (h : RelX w0 c S a w) {k : Nat} {f : Bool} {es : Nat} {T : TypeId} {xs : List (List D)} (hk : mat S.m k = none) (h0 : 0 < es) {w' : World} (v : Value) (hx : Ext w w') (hv : ∀ b, v.ownBlock = some b → w.heap.size ≤ b)
  (hO : Own es ED w' (c.Y f) c.n0 T v xs) (hl : ∀ e ∈ xs, e.length = es) : RelX w0 ⟨c.β, fun j => if j = k then v else c.ρ j, c.X, c.n0⟩ ⟨S.n, S.f, (k, .r f es T xs) :: S.m⟩ a w' :=
 new_rowd h hk h0 v hx (fun b hb => ⟨fun hX => by have := h.xl b hX; have := hv b hb; omega, fun j oj hj e => by have := (h.bk hj b e).2.1; have := hv b hb; omega⟩) hO hl
theorem row_rel {c' : Cx} {m' : Mem} {w' : World} {k : Nat} {f : Bool} {es : Nat} {T : TypeId} {xs : List (List D)} {v : Value} (hm : mat m' k = some (.r f es T xs)) (hv : c'.ρ k = v) (h1 : v.oneCell' = true) : RelR c' m' w' v (.c (.r k xs.length)) :=
 ⟨f, es, T, xs, hm, Nat.le_refl _, fun _ => hv.symm, h1⟩
theorem rowP_len {es : Nat} : ∀ {ps : List (Nat × SV)} {k : Nat} {f : Bool} {xs : List (List D)}, rowP es ps k = some (f, xs) → xs.length = ps.length
 | [], k, f, xs, h => by simp only [rowP, Option.some.injEq, Prod.mk.injEq] at h; rw [← h.2]; rfl
 | (i, r) :: rest, k, f, xs, h => by
  unfold rowP at h
  split at h
  ·split at h
   ·rename_i h2
    split at h
    ·simp only [Option.some.injEq, Prod.mk.injEq] at h; rw [← h.2, List.length_cons, List.length_cons, rowP_len h2]
    ·cases h
   ·cases h
  ·cases h
theorem rowP_rel {es : Nat} : ∀ {ps : List (Nat × Value)} {rs : List (Nat × SV)} {k : Nat} {f : Bool} {xs : List (List D)} {vs : Array Value}, F2 (fun p r => p.1 = r.1 ∧ RelR c m w p.2 r.2) ps rs → rowP es rs k = some (f, xs) → vs.size = (k + rs.length) * es →
  ∃ us : Array Value, Instr.fill (fun i => some (i * es, es)) vs ps = some us ∧ us.size = vs.size ∧ us.toList.take (k * es) = vs.toList.take (k * es) ∧ (∀ i (hi : i < xs.length), ED w (c.Y f) ((us.toList.drop ((k + i) * es)).take es) xs[i]) ∧ ∀ e ∈ xs, e.length = es
 | [], _, k, f, xs, vs, .nil, h, hl => by
  simp only [rowP, Option.some.injEq, Prod.mk.injEq] at h; obtain ⟨_, rfl⟩ := h; exact ⟨vs, rfl, rfl, rfl, fun i hi => absurd hi (by simp), by simp⟩
 | (i, v) :: ps, _, k, f, xs, vs, .cons (b := (i', r)) h1 h2, h, hl => by
  obtain ⟨rfl, hr⟩ := h1; simp only [rowP] at h
  split at h
  ·rename_i ys hy
   split at h
   ·rename_i g d f2 ds hs hrest
    split at h
    ·rename_i hik
     simp only [Option.some.injEq, Prod.mk.injEq] at h; obtain ⟨rfl, rfl⟩ := h; obtain ⟨e1, e2⟩ := hik; subst e1; have hc := cellsOf_rel hr hy; have l1 := forall2_len hc; simp only [Array.length_toList] at l1; simp only [List.length_cons] at hl
     have hsz : i * es + es ≤ vs.size := by rw [hl, ← Nat.succ_mul]; exact Nat.mul_le_mul_right _ (by omega)
     have e := foldl_lay v.cells.toList 0 (i * es) vs (by simp; omega); obtain ⟨vs', hvs'⟩ : ∃ vs' : Array Value, vs' = v.cells.zipIdx.foldl (fun cs (x : Value × Nat) => cs.setIfInBounds (i * es + x.2) x.1) vs := ⟨_, rfl⟩
     have e' : vs'.toList = vs.toList.take (i * es) ++ v.cells.toList ++ vs.toList.drop (i * es + v.cells.toList.length) := by
      rw [hvs', ← Array.foldl_toList, Array.toList_zipIdx]
      simpa using e
     have l2 : v.cells.toList.length = es := by simp; omega
     have hsz2 : vs'.size = vs.size := by
      have := congrArg List.length e'; simp only [Array.length_toList, List.length_append, List.length_take, List.length_drop] at this l2
      omega
     obtain ⟨us, q1, q2, q3, q4, q5⟩ := rowP_rel (k := i + 1) (vs := vs') h2 hrest (by
      rw [hsz2, hl, Nat.add_assoc, Nat.add_comm 1])
     have hdl : d.length = es := by
      have : v.cells.toList.length = d.length := forall2_len (snapDs_rel hc hs)
      omega
     have hl3 : (vs.toList.take (i * es)).length = i * es := by simp; omega
     have htk : us.toList.take (i * es + es) = vs.toList.take (i * es) ++ v.cells.toList := by
      rw [Nat.succ_mul] at q3; rw [q3, e', List.take_append_of_le_length (by rw [List.length_append, hl3, l2]; omega), List.take_of_length_le (by rw [List.length_append, hl3, l2]; omega)]
     refine ⟨us, ?_, q2.trans hsz2, ?_, fun j hj => ?_, fun e he => ?_⟩
     ·show (if v.cells.size ≠ es || i * es + v.cells.size > vs.size then none else Instr.fill _ (v.cells.zipIdx.foldl _ vs) ps) = some us
      rw [if_neg (by simp; omega), ← q1, hvs']
     ·have := congrArg (List.take (i * es)) htk; rw [List.take_take, Nat.min_eq_left (by omega), List.take_append_of_le_length (by rw [hl3]; omega), List.take_take, Nat.min_self] at this; exact this
     ·cases j with
      | zero =>
       have h5 : (us.toList.drop (i * es)).take es = v.cells.toList := by
        have := congrArg (List.drop (i * es)) htk; rw [List.drop_take, List.drop_left' hl3, show i * es + es - i * es = es by omega] at this; exact this
       simp only [Nat.add_zero, List.getElem_cons_zero, h5]; exact forall2_mono (fun _ _ r => r.le (by simp; exact fun h _ => h)) (snapDs_rel hc hs)
      | succ j =>
       simp only [List.getElem_cons_succ]; have := q4 j (by simpa using hj); rw [show i + (j + 1) = i + 1 + j by omega]; exact forall2_mono (fun _ _ r => r.le (by simp)) this
     ·rcases List.mem_cons.1 he with rfl | he
      ·exact hdl
      ·exact q5 e he
    ·cases h
   ·cases h
  ·cases h
theorem sim_row (h : RelX w0 c S a w) (hd : ∀ t, o.dst = some t → t < S.n) (T : TypeId) (len : Nat) (ps : Array (Nat × Operand)) (ho : o.op = .buildSlice T len ps) (hK : rowK o.dst (eltP P T) len S.m K (evs S ps)) :
  o.wp P a w (fun a' w' => ∃ r m', K r m' ∧ Rel w0 (S.put o.dst r m') a' w') Q := by
 unfold rowK at hK
 split at hK
 ·rename_i k e es bs hdk he
  obtain ⟨h0, hsm, hk, hK⟩ := hK
  split at hK
  ·rename_i f xs hr
   obtain ⟨hl, hK⟩ := hK; obtain ⟨i, z, hu, hi, hs, _, hz, _⟩ := eltP_spec he; have hrl := rowP_len hr
   have hn0 : c.n0 ≤ w.heap.size := by rw [h.n0]; exact h.ext.size
   by_cases h00 : len = 0
   ·subst h00; have hx0 : xs = [] := List.eq_nil_of_length_eq_zero hl; subst hx0; have hp0 : evs S ps = [] := List.eq_nil_of_length_eq_zero hrl.symm
    have hp1 : ps.toList = [] := by simpa [evs] using hp0
    refine sim_val (r := .c (.r k 0)) (v := .slice (some ⟨w.heap.size, 0, none⟩) 0 0) hd ?_ (new_row (f := f) (T := e) (xs := []) h hk h0 (.slice (some ⟨w.heap.size, 0, none⟩) 0 0) ((Ext.refl w).alloc (.cells #[] e)) (fun b hb => ?_) (Own.empty w _ e hn0) (by simp)) (row_rel (xs := []) (f := f) (es := es) (T := e) (by simp [mat]) (by simp) rfl) (by simpa using hK)
    ·have : ps = #[] := by
      rw [← Array.toArray_toList (xs := ps), hp1]
     subst this; simp [execOp, ho, Instr.buildSlice, run_underlying hu, sizeOf, typeInfo, hi, Instr.fill, newRow]; rw [show Array.map (fun _ => (default : Value)) (Array.range 0) = #[] from Array.eq_empty_of_size_eq_zero (by simp)]
    ·injection hb with hb; simp at hb; omega
   ·have hne : len * es ≠ 0 := Nat.mul_ne_zero h00 (by omega); obtain ⟨us, q1, q2, _, q4, q5⟩ := rowP_rel (w := w) (c := c) (m := S.m) (k := 0) (vs := (Array.range (len * es)).map (z.cells[· % z.cells.size]!)) (evs_rel h ps) hr (by simp [← hl, hrl])
    have hus : us.size = len * es := by rw [q2]; simp
    have hown : Own es ED (w.alloc (.cells us e)) (c.Y f) c.n0 e (.slice (some ⟨w.heap.size, 0, none⟩) len len) xs := by
     have hlm : len ≤ maxLen := by
      have : len * 1 ≤ len * es := Nat.mul_le_mul_left _ h0
      simp only [maxLen]; omega
     refine ⟨us.toList, ⟨by simp [hus, hl], .inr ⟨w.heap.size, len, us, by rw [hl], hn0, heap_alloc_new w _, by omega, hlm, hus, by rw [hl, ← hus]; exact List.take_of_length_le (by simp)⟩⟩, ⟨by simp [hus, hl], fun j hj => ?_⟩⟩; have := q4 j hj; rw [Nat.zero_add] at this; refine forall2_mono (fun _ _ r => ?_) this; refine (r.there.widen (Y := fun b => c.Y f b ∧ (Value.slice (some ⟨w.heap.size, 0, none⟩) len len).ownBlock ≠ some b) fun b hb hlt => ⟨hb.1, fun e => ?_⟩).keep ((Kp.refl w).alloc _)
     injection e with e
     simp at e
     omega
    refine sim_val (r := .c (.r k len)) (v := .slice (some ⟨w.heap.size, 0, none⟩) len len) hd ?_ (new_row (f := f) (T := e) (xs := xs) h hk h0 (.slice (some ⟨w.heap.size, 0, none⟩) len len) ((Ext.refl w).alloc (.cells us e)) (fun b hb => ?_) hown q5) (by rw [← hl]; exact row_rel (xs := xs) (f := f) (es := es) (T := e) (by simp [mat]) (by simp [hl]) rfl) hK
    ·simp only [execOp, ho, Sem.run_bind]; rw [run_buildSlice w T e len _ us i z hu hi hz (by rw [hs]; omega) (by rw [hs]; exact hne) (by rw [hs]; exact q1)]
     rfl
    ·injection hb with hb; simp at hb; omega
  ·exact hK.elim
 ·exact hK.elim
theorem Own.rp {sz : Nat} {Z Y : Nat → Prop} {n0 : Nat} {T : TypeId} {v : Value} {xs : List (List D)} (h0 : 0 < sz) (h : Own sz ED w Z n0 T v xs) (hZ : ∀ b, Z b → Y b) (hv : ∀ b, v.ownBlock = some b → Y b) : Rp w Y v (.l xs) := by
 obtain ⟨ys, q1, q2⟩ := h
 rcases q1.2 with ⟨e, hz⟩ | ⟨g, cap', cur, hv', hbg, hg, hnc, hcm, hcs, htake⟩
 ·have : xs = [] := List.eq_nil_of_length_eq_zero hz; subst this; rw [e]; exact Rp.of_sl h0 (Sl.nil0 _ _ _)
 ·rw [hv']; refine Rp.of_sl h0 (Sl.of_flat hnc hcm (Thaw.of_heap hg _ _) (q2.widen fun b hb _ => hZ _ hb.1) fun _ => ⟨g, 0, rfl, hv g (by rw [hv']; rfl), fun j u hj => ?_⟩); have := q1.cells (g := g) (by rw [hv']; rfl) j u hj
  simpa [Addr.add_lit] using this
theorem sim_rowd (h : RelX w0 c S a w) (hd : ∀ t, o.dst = some t → t < S.n) (T : TypeId) (len : Nat) (ps : Array (Nat × Operand)) (ho : o.op = .buildSlice T len ps) (hK : rowDK (eltP P T) len S.m K (evs S ps)) :
  o.wp P a w (fun a' w' => ∃ r m', K r m' ∧ Rel w0 (S.put o.dst r m') a' w') Q := by
 unfold rowDK at hK
 split at hK
 ·rename_i e es bs he
  obtain ⟨h0, hsm, hK⟩ := hK
  split at hK
  ·rename_i f xs hr
   obtain ⟨hl, hK⟩ := hK; obtain ⟨i, z, hu, hi, hs, _, hz, _⟩ := eltP_spec he; have hrl := rowP_len hr
   have hn0 : c.n0 ≤ w.heap.size := by rw [h.n0]; exact h.ext.size
   by_cases h00 : len = 0
   ·subst h00; have hx0 : xs = [] := List.eq_nil_of_length_eq_zero hl; subst hx0; have hp0 : evs S ps = [] := List.eq_nil_of_length_eq_zero hrl.symm
    have hp1 : ps.toList = [] := by simpa [evs] using hp0
    refine sim_val (r := .c (.l f [])) (v := .slice (some ⟨w.heap.size, 0, none⟩) 0 0) hd ?_ (h.call ((Ext.refl w).alloc (.cells #[] e))) (Own.rp (xs := []) h0 (Own.empty w (c.Y f) e hn0) (fun b hb => ⟨.inl hb.1, hb.2⟩) fun b hb => ?_) (by simpa using hK)
    ·have : ps = #[] := by
      rw [← Array.toArray_toList (xs := ps), hp1]
     subst this; simp [execOp, ho, Instr.buildSlice, run_underlying hu, sizeOf, typeInfo, hi, Instr.fill, newRow]; rw [show Array.map (fun _ => (default : Value)) (Array.range 0) = #[] from Array.eq_empty_of_size_eq_zero (by simp)]
    ·injection hb with hb
     simp at hb; exact ⟨.inr (by simp only [wsz]; omega), fun _ => by simp only; omega⟩
   ·have hne : len * es ≠ 0 := Nat.mul_ne_zero h00 (by omega); obtain ⟨us, q1, q2, _, q4, q5⟩ := rowP_rel (w := w) (c := c) (m := S.m) (k := 0) (vs := (Array.range (len * es)).map (z.cells[· % z.cells.size]!)) (evs_rel h ps) hr (by simp [← hl, hrl])
    have hus : us.size = len * es := by rw [q2]; simp
    have hown : Own es ED (w.alloc (.cells us e)) (c.Y f) c.n0 e (.slice (some ⟨w.heap.size, 0, none⟩) len len) xs := by
     have hlm : len ≤ maxLen := by
      have : len * 1 ≤ len * es := Nat.mul_le_mul_left _ h0
      simp only [maxLen]; omega
     refine ⟨us.toList, ⟨by simp [hus, hl], .inr ⟨w.heap.size, len, us, by rw [hl], hn0, heap_alloc_new w _, by omega, hlm, hus, by rw [hl, ← hus]; exact List.take_of_length_le (by simp)⟩⟩, ⟨by simp [hus, hl], fun j hj => ?_⟩⟩; have := q4 j hj; rw [Nat.zero_add] at this; refine forall2_mono (fun _ _ r => ?_) this; refine (r.there.widen (Y := fun b => c.Y f b ∧ (Value.slice (some ⟨w.heap.size, 0, none⟩) len len).ownBlock ≠ some b) fun b hb hlt => ⟨hb.1, fun e => ?_⟩).keep ((Kp.refl w).alloc _)
     injection e with e
     simp at e
     omega
    refine sim_val (r := .c (.l f xs)) (v := .slice (some ⟨w.heap.size, 0, none⟩) len len) hd ?_ (h.call ((Ext.refl w).alloc (.cells us e))) (Own.rp h0 hown (fun b hb => ⟨.inl hb.1, hb.2⟩) fun b hb => ?_) hK
    ·simp only [execOp, ho, Sem.run_bind]; rw [run_buildSlice w T e len _ us i z hu hi hz (by rw [hs]; omega) (by rw [hs]; exact hne) (by rw [hs]; exact q1)]
     rfl
    ·injection hb with hb
     simp at hb; exact ⟨.inr (by simp only [wsz]; omega), fun _ => by simp only; omega⟩
  ·exact hK.elim
 ·exact hK.elim
theorem Own.flat_at {sz : Nat} {Z : Nat → Prop} {n0 : Nat} {T : TypeId} {v : Value} {xs : List (List D)} (h : Own sz ED w Z n0 T v xs) : ∃ A cap, v = .slice A xs.length cap ∧ ∃ ys, Fl sz ED w Z ys xs ∧ (0 < xs.length → ∃ b o, A = some ⟨b, o, none⟩ ∧ ∀ j u, ys[j]? = some u → w.cell? ⟨b, o + j, none⟩ = some u) := by
 obtain ⟨ys, h1, h2⟩ := h
 rcases h1.2 with ⟨rfl, hn⟩ | ⟨g, cap, cur, rfl, hb, hg, _⟩
 ·exact ⟨none, 0, by rw [hn], ys, h2.widen fun _ h _ => h.1, fun hp => by omega⟩
 ·refine ⟨_, cap, rfl, ys, h2.widen fun _ h _ => h.1, fun _ => ⟨g, 0, rfl, fun j u hj => ?_⟩⟩; have := h1.cells (g := g) rfl j u hj
  simpa [Addr.add_lit] using this
theorem srcK_rel (h : RelX w0 c S a w) {v : Value} {x : SV} {KS : Bool → List (List D) → Prop} (hx : RelR c S.m w v x) (hK : srcK S.m KS x) : ∃ f ys, KS f ys ∧ (∀ k n, x = .c (.r k n) → ∃ es T, mat S.m k = some (.r f es T ys)) ∧
  ∀ es, 0 < es → (∀ y ∈ ys, y.length = es) → ∃ A cap zs, v = .slice A ys.length cap ∧ Fl es ED w (c.Y f) zs ys ∧ (0 < ys.length → ∃ b o, A = some ⟨b, o, none⟩ ∧ ∀ j u, zs[j]? = some u → w.cell? ⟨b, o + j, none⟩ = some u) := by
 unfold srcK at hK
 split at hK
 ·rename_i f xs
  refine ⟨f, xs, hK, (fun k n e => by cases e), fun es h0 hl => ?_⟩; obtain ⟨A, cc, sz, hsz, rfl, hs, hel⟩ := Rp.sl hx; obtain ⟨zs, q1, q2⟩ := hs.flat; refine ⟨A, cc, zs, rfl, ?_, fun hp => let ⟨b, o, e1, _, e2⟩ := q2 hp; ⟨b, o, e1, e2⟩⟩
  rcases Nat.eq_zero_or_pos xs.length with hz | hz
  ·have : xs = [] := List.eq_nil_of_length_eq_zero hz; subst this; exact ⟨by simpa using q1.1, fun i hi => absurd hi (by simp)⟩
  ·have : sz = es := (hel _ (List.getElem_mem hz)).symm.trans (hl _ (List.getElem_mem hz)); subst this; exact q1
 ·refine ⟨true, [], hK, (fun k n e => by cases e), fun es h0 hl => ⟨none, 0, [], hx, Fl.nil _ _, fun hp => absurd hp (by simp)⟩⟩
 ·rename_i k n
  split at hK
  ·rename_i f sz T xs hm
   refine ⟨f, xs, hK.2, fun k' n' e => ⟨sz, T, by injection e with e; injection e with e; rw [← e]; exact hm⟩, fun es h0 hl => ?_⟩; obtain ⟨fr0, sz0, T0, xs0, h1, h2, h3, h4⟩ := hx; rw [hm] at h1
   injection h1 with h1
   injection h1 with e1 e2 e3 e4
   subst e1; subst e2; subst e3; subst e4
   obtain ⟨h5, h6, h7, h8⟩ := h.mem k _ hm; obtain ⟨A, cap, hρ, zs, q1, q2⟩ := h6.flat_at; refine ⟨A, cap, zs, by rw [← hρ]; exact h3 hK.1, ?_, q2⟩
   rcases Nat.eq_zero_or_pos xs.length with hz | hz
   ·have : xs = [] := List.eq_nil_of_length_eq_zero hz; subst this; exact ⟨by simpa using q1.1, fun i hi => absurd hi (by simp)⟩
   ·have : sz = es := (h8 _ (List.getElem_mem hz)).symm.trans (hl _ (List.getElem_mem hz)); subst this; exact q1
  ·exact hK.elim
 ·exact hK.elim
theorem run_append_none {T e : TypeId} {i : TypeInfo} (hu : P.underlying T = some (.slice e)) (hi : P.info? e = some i) (ty : TypeId) (A B : Option Addr) (n cap cap' : Nat) (hn : n ≤ cap) : (Builtin.append_ #[T, T] ty #[.slice A n cap, .slice B 0 cap']).run P w = .ok (.slice A n cap) w := by
 cases A <;> cases B <;> simp [Builtin.append_, run_underlying hu, sizeOf, typeInfo, hi, Builtin.lenOf, Builtin.firstCells, hn, loadCells, loadCellsFrom, storeCells]
theorem Own.cell1 {sz : Nat} {Z : Nat → Prop} {n0 : Nat} {T : TypeId} {v : Value} {xs : List (List D)} (h : Own sz ED w Z n0 T v xs) : v.oneCell' = true := by
 obtain ⟨A, cap, rfl, _⟩ := h.flat_at
 rfl
theorem sim_app (h : RelX w0 c S a w) (hd : ∀ t, o.dst = some t → t < S.n) (T : TypeId) (s x : Operand) (ho : o.op = .call { callee := .builtin .append, args := #[s, x], argTypes := #[T, T] }) (hK : appK o.dst (eltP P T) S.m K (ez S s) (ez S x)) :
  o.wp P a w (fun a' w' => ∃ r m', K r m' ∧ Rel w0 (S.put o.dst r m') a' w') Q := by
 have hs := h.evs s; have hx := h.evs x
 have hex : ∀ v w', (Builtin.append_ #[T, T] o.type #[a.eval s, a.eval x]).run P w = .ok v w' → (execOp a.eval o).run P w = .ok (.value v) w' := fun v w' hv => by
  simp only [execOp, ho, resolve, invoke, builtin, Sem.run_bind, Sem.run_pure, Result.andThen_ok, List.map_toArray, List.map_cons, List.map_nil, hv]
 generalize ez S s = r at hs hK; generalize ez S x = r2 at hx hK; generalize a.eval s = v at hs hex; generalize a.eval x = v2 at hx hex; unfold appK at hK
 split at hK
 ·rename_i _ e es bs he
  obtain ⟨i, z, hu, hi, his, hib, hz, hzs⟩ := eltP_spec he; have hT : Ety P T e es bs z := ⟨hu, by rw [hi]; simp [hz, his, hib], hzs, hK.1⟩; obtain ⟨f, ys, ⟨hyl, hK2⟩, hsrc, hrel⟩ := srcK_rel h hx hK.2; obtain ⟨A, cap, zs, rfl, hfl, hcell⟩ := hrel es hK.1 hyl
  have hn0 : c.n0 ≤ w.heap.size := by rw [h.n0]; exact h.ext.size
  split at hK2
  ·split at hK2
   ·rename_i _ k hdk
    obtain ⟨hk, hb, h63, hK2⟩ := hK2; have hs : v = .slice none 0 0 := hs; subst hs; obtain ⟨v', w', hrun, hO, hg, hvb⟩ := run_app (P := P) (ty := o.type) (w := w) (c := cap) (ys := zs) (Z := c.Y f) hT (Own.nil w _ c.n0 e) (hfl.widen fun b hb _ => ⟨hb, by simp [Value.ownBlock]⟩) hcell (by simpa using hb) (by simpa [maxLen] using h63) hn0; have hg' : Ext w w' := ⟨hg.os, hg.tape, hg.output, hg.size, fun b hb => hg.block b hb (by simp [Value.ownBlock])⟩; rw [List.nil_append] at hO; refine sim_val (r := .c (.r k ys.length)) hd (hex _ _ hrun) (new_row (f := f) (T := e) h hk hK.1 v' hg' (fun b hb => ?_) hO hyl) (row_rel (xs := ys) (f := f) (es := es) (T := e) (by simp [mat]) (by simp) hO.cell1) hK2
    rcases hvb with h1 | h1 <;> rw [h1] at hb
    ·cases hb
    ·injection hb with hb; omega
   ·exact hK2.elim
  ·rename_i _ k n
   split at hK2
   ·rename_i _ f' es' T' xs hm
    obtain ⟨hnl, rfl, rfl, hb, h63, hne, hK2⟩ := hK2; obtain ⟨fr0, sz0, T0, xs0, h1, h2, h3, h4⟩ := hs; rw [hm] at h1
    injection h1 with h1
    injection h1 with e1 e2 e3 e4
    subst e1; subst e2; subst e3; subst e4
    have hv := h3 hnl; subst hv; obtain ⟨h5, h6, h7, h8⟩ := h.mem k _ hm
    have h6' : Own es' ED w (c.Y (f' && f)) c.n0 T' (c.ρ k) xs := h6.widen fun b hb _ => hb.le (by simp; exact fun h _ => h)
    have hfl' : Fl es' ED w (fun b => c.Y (f' && f) b ∧ (c.ρ k).ownBlock ≠ some b) zs ys := hfl.widen fun b hb _ => ⟨hb.le (by simp), fun e => h7 b e hb.1⟩
    have hown : ∀ j, (c.ρ k).ownBlock = some j → c.n0 ≤ j ∧ j < w.heap.size := h6.row
    by_cases hy0 : ys = []
    ·subst hy0; obtain ⟨A0, cap0, hρ, _⟩ := h6.flat_at
     have hcap : xs.length ≤ cap0 := by
      obtain ⟨_, _, hρ', hs, _⟩ := h6.sl h5 (X := fun _ => True) fun _ _ => trivial
      rw [hρ] at hρ'
      injection hρ' with _ _ e
      subst e; exact hs
     have hrun := run_append_none (w := w) hu hi o.type A0 A xs.length cap0 cap hcap; rw [← hρ] at hrun; refine sim_val (r := .c (.r k (xs.length + ([] : List (List D)).length))) hd (hex _ _ hrun) (h.upd (ob' := .r (f' && f) es' T' (xs ++ [])) hm (ρ' := c.ρ) (fun _ _ => rfl) ⟨rfl, rfl, by simp⟩ (fun _ _ _ _ _ _ _ _ _ _ _ => rfl) h.ext (Nat.le_refl _) (fun _ _ _ => rfl) (fun b hb => .inl hb) fun hmon => ⟨h5, by simpa using h6', h7, by simpa using h8⟩) ?_ hK2; exact ⟨_, _, _, _, mat_set_same hm, by simp, fun _ => rfl, h6.cell1⟩
    ·have hyp : 0 < ys.length := List.length_pos_iff.2 hy0; obtain ⟨v', w', hrun, hO, hg, hvb⟩ := run_app (P := P) (ty := o.type) (w := w) (c := cap) (ys := zs) (Z := c.Y (f' && f)) hT h6' hfl' hcell hb (by simpa [maxLen] using h63) hn0
     have hvX : ∀ b, v'.ownBlock = some b → ¬ c.X b := fun b hb hX => by
      rcases hvb with h1 | h1 <;> rw [h1] at hb
      ·exact h7 b hb hX
      ·injection hb with hb
       have := h.xl b hX
       omega
     refine sim_val (r := .c (.r k (xs.length + ys.length))) hd (hex _ _ hrun) (h.upd (ob' := .r (f' && f) es' T' (xs ++ ys)) hm (ρ' := fun j => if j = k then v' else c.ρ j) (fun j hj => by simp [hj]) ⟨rfl, rfl, by simp⟩ (fun _ _ _ _ _ _ _ _ e1 e2 e3 => ?_) (Below.grown h.ext hg h.ext.size fun b hb => by rw [← h.n0]; exact (hown b hb).1) hg.size (fun b hb hne => hg.block b hb fun e => hne e.symm) (fun b hb => ?_) fun hmon => ⟨h5, ?_, fun b hb => hvX b (by simpa using hb), fun e he => ?_⟩) ?_ hK2
     ·injection e1 with _ _ _ e1
      injection e2 with _ _ _ e2
      subst e1; subst e2
      rw [List.length_append] at e3
      omega
     ·simp only [blk, if_true] at hb
      rcases hvb with h1 | h1 <;> rw [h1] at hb
      ·exact .inl hb
      ·injection hb with hb; exact .inr (by omega)
     ·show Own es' ED w' (c.Y (f' && f)) c.n0 T' (if k = k then v' else c.ρ k) (xs ++ ys)
      rw [if_pos rfl]; exact hO
     ·rcases List.mem_append.1 he with he | he
      ·exact h8 e he
      ·exact hyl e he
     ·exact ⟨_, _, _, _, mat_set_same hm, by simp, fun _ => by simp, hO.cell1⟩
   ·exact hK2.elim
  ·exact hK2.elim
 ·exact hK.elim
theorem Fl.drop1 {w : World} {X : Nat → Prop} {zs : List Value} {xs : List (List D)} (h : Fl 1 ED w X zs xs) (n : Nat) : Fl 1 ED w X (zs.drop n) (xs.drop n) := by
 refine ⟨by have := h.1; simp only [List.length_drop]; omega, fun i hi => ?_⟩; have h1 := h.2 (n + i) (by simp only [List.length_drop] at hi; omega); simp only [Nat.mul_one] at h1 ⊢; rw [List.drop_drop, List.getElem_drop]; exact h1
theorem sim_copy (h : RelX w0 c S a w) (hd : ∀ t, o.dst = some t → t < S.n) (T U : TypeId) (s x : Operand) (ho : o.op = .call { callee := .builtin .copy, args := #[s, x], argTypes := #[T, U] }) (hK : copK (eltP P T) S.m K (ez S s) (ez S x)) :
  o.wp P a w (fun a' w' => ∃ r m', K r m' ∧ Rel w0 (S.put o.dst r m') a' w') Q := by
 have hs := h.evs s; have hx := h.evs x
 have hex : ∀ v w', (Builtin.copy_ #[T, U] o.type #[a.eval s, a.eval x]).run P w = .ok v w' → (execOp a.eval o).run P w = .ok (.value v) w' := fun v w' hv => by
  simp only [execOp, ho, resolve, invoke, builtin, Sem.run_bind, Sem.run_pure, Result.andThen_ok, List.map_toArray, List.map_cons, List.map_nil, hv]
 generalize ez S s = r at hs hK; generalize ez S x = r2 at hx hK; generalize a.eval s = v at hs hex; generalize a.eval x = v2 at hx hex; unfold copK at hK
 split at hK
 ·rename_i e es bs he
  obtain ⟨rfl, hK⟩ := hK; obtain ⟨i, z, hu, hi, his, _, _, _⟩ := eltP_spec he
  split at hK
  ·rename_i k n
   split at hK
   ·rename_i f' es' T' xs hm
    obtain ⟨hnl, rfl, hK⟩ := hK; obtain ⟨f, ys, ⟨hyl, hle, hK2⟩, hsrc, hrel⟩ := srcK_rel h hx hK; obtain ⟨A, cap, zs, rfl, hfl, hcell⟩ := hrel 1 (by omega) hyl; obtain ⟨fr0, sz0, T0, xs0, h1, h2, h3, h4⟩ := hs; rw [hm] at h1
    injection h1 with h1
    injection h1 with e1 e2 e3 e4
    subst e1; subst e2; subst e3; subst e4
    have hv := h3 hnl; subst hv; obtain ⟨h5, h6, h7, h8⟩ := h.mem k _ hm
    have hs1 : (P.info? e).map (·.size) = some 1 := by rw [hi]; simp [his]
    have hmx : xs.length ≤ maxLen := by
     obtain ⟨_, _, _, hs, hm2, _⟩ := h6.sl h5 (X := fun _ => True) fun _ _ => trivial
     exact Nat.le_trans hs hm2
    by_cases hy0 : ys = []
    ·subst hy0; obtain ⟨A0, cap0, hρ, _⟩ := h6.flat_at; have hrun := run_copy_none (P := P) w T U o.type e A0 A xs.length cap0 0 cap hu hs1 (by simp); rw [← hρ] at hrun; refine sim_val (r := .c (.i .i64 (([] : List (List D)).length : Int))) hd (hex _ _ hrun) (h.upd (ob' := .r (f' && f) 1 T' ([] ++ xs.drop ([] : List (List D)).length)) hm (ρ' := c.ρ) (fun _ _ => rfl) ⟨rfl, rfl, by simp⟩ (fun _ _ _ _ _ _ _ _ _ _ _ => rfl) h.ext (Nat.le_refl _) (fun _ _ _ => rfl) (fun b hb => .inl hb) fun hmon => ⟨h5, ?_, h7, by simpa using h8⟩) ?_ hK2
     ·simpa using h6.widen (Z' := c.Y (f' && f)) fun b hb _ => hb.le (by simp; exact fun h _ => h)
     ·exact ⟨rfl, by decide, by decide⟩
    ·have hyp : 0 < ys.length := List.length_pos_iff.2 hy0; obtain ⟨xsv, q1, q2⟩ := h6
     rcases q1.2 with ⟨_, hz⟩ | ⟨g, cap', cur, hv, hbg, hg, hnc, hcm, hcs, htake⟩
     ·omega
     ·obtain ⟨b, o', rfl, hcl⟩ := hcell hyp
      have hzl : zs.length = ys.length := by have := hfl.1; omega
      have hxl : xsv.length = xs.length := by have := q2.1; omega
      have hrun := run_copy_row P w T U o.type e g 0 xs.length cap' ⟨b, o', none⟩ ys.length cap cur T' zs hu hs1 hg (by rw [hzl]; exact (Nat.min_eq_left hle).symm) (fun j u hj => by rw [Addr.add_lit]; exact hcl j u hj) (by omega) (hfl.ones (by omega)); rw [← hv] at hrun; have hgX : ¬ c.X g := h7 g (by rw [hv]; rfl); simp only [List.take_zero, List.nil_append, Nat.zero_add] at hrun; refine sim_val (r := .c (.i .i64 (ys.length : Int))) hd (hex _ _ hrun) (h.upd (ob' := .r (f' && f) 1 T' (ys ++ xs.drop ys.length)) hm (ρ' := c.ρ) (fun _ _ => rfl) ⟨rfl, rfl, by simp; omega⟩ (fun _ _ _ _ _ _ _ _ _ _ _ => rfl) ?_ (by simp) (fun b _ hne => setRow_other w _ b _ fun e => hne (by show (c.ρ k).ownBlock = _; rw [hv, e]; rfl)) (fun b hb => .inl hb) fun hmon => ?_) ?_ hK2
      ·exact below_setRow h.ext (by rw [← h.n0]; exact hbg) _
      ·have hlen : (ys ++ xs.drop ys.length).length = xs.length := by simp; omega
       refine ⟨h5, ⟨zs ++ xsv.drop zs.length, ⟨by rw [hlen]; simp; omega, .inr ⟨g, cap', _, by rw [hlen]; exact hv, hbg, setRow_heap w _ _ _ T' (0, 0) hg, by rw [hlen]; exact hnc, hcm, ?_, ?_⟩⟩, ?_⟩, h7, fun e he => ?_⟩
       ·simp [hzl, hcs]; omega
       ·rw [hlen, ← htake]
        have hcl2 : cur.toList.length = cap' * 1 := by simpa using hcs
        simp only [Nat.mul_one] at hcl2 ⊢; rw [List.take_append, List.take_of_length_le (by omega), List.drop_take]
       ·have k1 : Fl 1 ED (w.setRow g (zs ++ cur.toList.drop zs.length).toArray) (fun b => c.Y (f' && f) b ∧ (c.ρ k).ownBlock ≠ some b) zs ys :=
         (hfl.widen (Y := fun b => c.Y (f' && f) b ∧ (c.ρ k).ownBlock ≠ some b) fun b hb _ => ⟨hb.le (by simp), fun e => h7 b e hb.1⟩).keep fun b hb hlt => setRow_other w _ b _ fun e => hb.2 (by rw [hv, e]; rfl)
        have k2 : Fl 1 ED (w.setRow g (zs ++ cur.toList.drop zs.length).toArray) (fun b => c.Y (f' && f) b ∧ (c.ρ k).ownBlock ≠ some b) xsv xs :=
         (q2.widen (Y := fun b => c.Y (f' && f) b ∧ (c.ρ k).ownBlock ≠ some b) fun b hb _ => ⟨hb.1.le (by simp; exact fun h _ => h), hb.2⟩).keep fun b hb hlt => setRow_other w _ b _ fun e => hb.2 (by rw [hv, e]; rfl)
        have k3 := k1.append (k2.drop1 zs.length); rw [show xs.drop zs.length = xs.drop ys.length by rw [hzl]] at k3; exact k3
       ·rcases List.mem_append.1 he with he | he
        ·exact hyl e he
        ·exact h8 e (List.mem_of_mem_drop he)
      ·exact ⟨by rw [hzl]; rfl, by simp only [IntKind.min, IntKind.signed, IntKind.bits]; omega, by simp only [maxLen] at hmx; simp [IntKind.max, IntKind.signed, IntKind.bits]; omega⟩
   ·exact hK.elim
  ·exact hK.elim
 ·exact hK.elim
theorem made_at (z : Array Value) {es : Nat} (hz : z.size = es) (h0 : 0 < es) (n k : Nat) (hk : k < n) : (((madeCells z (n * es)).toList.drop (k * es)).take es) = z.toList := by
 have hle : k * es + es ≤ n * es := by rw [← Nat.succ_mul]; exact Nat.mul_le_mul_right _ hk
 have hms := size_madeCells z (n * es)
 apply List.ext_getElem
 ·simp [hms]; omega
 ·intro j h1 h2
  have hj : j < es := by simpa [hz] using h2
  simp only [List.getElem_take, List.getElem_drop, madeCells, Array.getElem_toList, Array.getElem_map, Array.getElem_range]
  have hmod : (k * es + j) % z.size = j := by rw [hz, Nat.add_comm, Nat.add_mul_mod_self_right, Nat.mod_eq_of_lt hj]
  rw [hmod, getElem!_pos z j (by omega)]
theorem sim_make (h : RelX w0 c S a w) (hd : ∀ t, o.dst = some t → t < S.n) (T : TypeId) (l q : Operand) (ho : o.op = .makeSlice T l q) (hK : ∀ e s b, eltP P T = some (e, s, b) → makeK P o.dst (eltP P T) S.m K (ez S l) (ez S q)) (he : (eltP P T).isSome = true) :
  o.wp P a w (fun a' w' => ∃ r m', K r m' ∧ Rel w0 (S.put o.dst r m') a' w') Q := by
 obtain ⟨⟨e, es, bs⟩, he⟩ := Option.isSome_iff_exists.1 he; have hK := hK e es bs he; rw [he] at hK; have hl := h.evs l; have hq := h.evs q
 have hex : ∀ v w', (Instr.makeSlice T (a.eval l) (a.eval q)).run P w = .ok v w' → (execOp a.eval o).run P w = .ok (.value v) w' := fun v w' hv => by
  simp only [execOp, ho, Sem.run_bind, hv, Result.andThen_ok, Sem.run_pure]
 generalize ez S l = r1 at hl hK; generalize ez S q = r2 at hq hK; generalize a.eval l = v1 at hl hex; generalize a.eval q = v2 at hq hex; unfold makeK at hK
 split at hK
 ·rename_i k e' es' bs' hdk heq
  simp only [Option.some.injEq, Prod.mk.injEq] at heq; obtain ⟨rfl, rfl, rfl⟩ := heq
  split at hK
  ·rename_i k1 n k2 n' f z hz
   obtain ⟨rfl, h0, hn, h63, hzl, hb, hk, hK⟩ := hK; obtain ⟨rfl, _, _⟩ := hl; obtain ⟨rfl, _, _⟩ := hq; obtain ⟨i, zv, hu, hi, his, hib, hzv, hzs⟩ := eltP_spec he; unfold zeroC at hz; simp only [Option.bind_eq_some_iff] at hz; obtain ⟨cs, ⟨zv', ⟨i', hi', hz1⟩, hz2⟩, hz3⟩ := hz; rw [hi] at hi'
   injection hi' with hi'
   subst hi'; rw [hzv] at hz1
   injection hz1 with hz1
   subst hz1
   have hn0 : c.n0 ≤ w.heap.size := by rw [h.n0]; exact h.ext.size
   obtain ⟨N, rfl⟩ := Int.eq_ofNat_of_zero_le hn; simp only [Int.toNat_natCast] at hb hK; obtain ⟨w', hrun, hown, hg⟩ := run_make_full (P := P) w c.n0 T e i zv es hu hi hzv his k1 k2 N (by rw [hib]; omega) (by simp only [maxLen]; omega) hn0; have hg' : Ext w w' := ⟨hg.os, hg.tape, hg.output, hg.size, fun b hb => hg.block b hb (by simp)⟩
   have hzr : ED w' (fun b => c.Y f b ∧ (Value.slice (some ⟨w.heap.size, 0, none⟩) N N).ownBlock ≠ some b) zv.cells.toList z := by
    refine forall2_mono (fun _ _ r => ?_) (snapDs_rel (cCVs_rel (c := c) (m := S.m) (w := w) hz2) hz3); refine (r.there.widen (Y := fun b => c.Y f b ∧ (Value.slice (some ⟨w.heap.size, 0, none⟩) N N).ownBlock ≠ some b) fun b hb _ => ⟨hb.1, fun e => ?_⟩).keep (.of_ext hg')
    injection e with e
    have := hb.2; simp at e
    omega
   have hO : Own es ED w' (c.Y f) c.n0 e (.slice (some ⟨w.heap.size, 0, none⟩) N N) (List.replicate N z) := by
    refine ⟨_, by rw [List.length_replicate]; exact hown, ⟨by simp [size_madeCells], fun j hj => ?_⟩⟩; simp only [List.length_replicate] at hj; rw [made_at zv.cells hzs h0 N j hj, List.getElem_replicate]; exact hzr
   refine sim_val (r := .c (.r k N)) (v := .slice (some ⟨w.heap.size, 0, none⟩) N N) hd (hex _ _ hrun) (new_row (f := f) (T := e) h hk h0 (.slice (some ⟨w.heap.size, 0, none⟩) N N) hg' (fun b hb => ?_) hO (fun e he => by rw [List.eq_of_mem_replicate he]; exact hzl)) ?_ hK
   ·injection hb with hb; simp at hb; omega
   ·have := row_rel (c' := ⟨c.β, fun j => if j = k then .slice (some ⟨w.heap.size, 0, none⟩) N N else c.ρ j, c.X, c.n0⟩) (m' := (k, .r f es e (List.replicate N z)) :: S.m) (w' := w') (k := k) (xs := List.replicate N z) (f := f) (es := es) (T := e) (v := .slice (some ⟨w.heap.size, 0, none⟩) N N) (by simp [mat]) (by simp) rfl
    rwa [List.length_replicate] at this
  ·exact hK.elim
 ·exact hK.elim

def bndK (n : Nat) (K : Nat → Nat → Prop) : Option SV → Option SV → Prop
 | none, none => K 0 n
 | some (.c (.i _ l)), none => 0 ≤ l ∧ l ≤ n ∧ K l.toNat n
 | none, some (.c (.i _ h)) => 0 ≤ h ∧ h ≤ n ∧ K 0 h.toNat
 | some (.c (.i _ l)), some (.c (.i _ h)) => 0 ≤ l ∧ l ≤ h ∧ h ≤ n ∧ K l.toNat h.toNat
 | _, _ => False
def sliceK (P : Program) (T : TypeId) (m : Mem) (K : SV → Mem → Prop) (x : SV) (lo hi : Option SV) : Prop :=
 match x with
 | .c (.l f xs) => (match eltP P T with
  | some (_, es, _) => (∀ y ∈ xs, y.length = es) ∧ bndK xs.length (fun l h => K (.c (.l f ((xs.take h).drop l))) m) lo hi
  | none => False)
 | .c (.s s) => slP P T = some false ∧ bndK s.size (fun l h => K (.c (.s (s.extract l h))) m) lo hi
 | _ => False
theorem bnd_rel {lo hi : Option Value} {rl rh : Option SV} {n cap : Nat} {KN : Nat → Nat → Prop} (hl : match lo, rl with | none, none => True | some v, some r => RelR c m w v r | _, _ => False) (hh : match hi, rh with | none, none => True | some v, some r => RelR c m w v r | _, _ => False) (hn : n ≤ cap) (hK : bndK n KN rl rh) (b : Bool) :
  ∃ l h, l ≤ h ∧ h ≤ n ∧ KN l h ∧ (Instr.sliceBounds b n cap lo hi none).run P w = .ok (l, h, cap) w := by
 unfold bndK at hK
 split at hK
 ·cases lo <;> cases hi <;> simp only at hl hh
  exact ⟨0, n, Nat.zero_le _, Nat.le_refl _, hK, by simp [Instr.sliceBounds]⟩
 ·rename_i k l
  cases lo <;> cases hi <;> simp only at hl hh
  obtain ⟨rfl, _⟩ := hl; obtain ⟨h0, h1, hK⟩ := hK; exact ⟨l.toNat, n, by omega, Nat.le_refl _, hK, by simp [Instr.sliceBounds, Instr.sliceBound, asIntOf, h0, h1]⟩
 ·rename_i k h
  cases lo <;> cases hi <;> simp only at hl hh
  obtain ⟨rfl, _⟩ := hh; obtain ⟨h0, h1, hK⟩ := hK
  have h2 : h ≤ (cap : Int) := by omega
  exact ⟨0, h.toNat, by omega, by omega, hK, by simp [Instr.sliceBounds, Instr.sliceBound, asIntOf, h0, h2]⟩
 ·rename_i k l k' h
  cases lo <;> cases hi <;> simp only at hl hh
  obtain ⟨rfl, _⟩ := hl; obtain ⟨rfl, _⟩ := hh; obtain ⟨h0, h1, h2, hK⟩ := hK
  have h3 : h ≤ (cap : Int) := by omega
  have h4 : 0 ≤ h := by omega
  have h5 : l ≤ max h 0 := by omega
  exact ⟨l.toNat, h.toNat, by omega, by omega, hK, by simp [Instr.sliceBounds, Instr.sliceBound, asIntOf, h0, h3, h4, h5]⟩
 ·exact hK.elim
theorem sim_slice (h : RelX w0 c S a w) (hd : ∀ t, o.dst = some t → t < S.n) (T : TypeId) (x : Operand) (lo hi : Option Operand) (ho : o.op = .slice T x lo hi none) (hK : sliceK P T S.m K (ez S x) (lo.map (ez S)) (hi.map (ez S))) : o.wp P a w (fun a' w' => ∃ r m', K r m' ∧ Rel w0 (S.put o.dst r m') a' w') Q := by
 have hx := h.evs x
 have hex : ∀ v, (Instr.sliceAt T (a.eval x) (lo.map a.eval) (hi.map a.eval) none).run P w = .ok v w → (execOp a.eval o).run P w = .ok (.value v) w := fun v hv => by
  simp only [execOp, ho, Option.map_none, Sem.run_bind, hv, Result.andThen_ok, Sem.run_pure]
 have hl : match lo.map a.eval, lo.map (ez S) with | none, none => True | some v, some r => RelR c S.m w v r | _, _ => False := by
  cases lo with
  | none => trivial
  | some y => exact h.evs y
 have hh : match hi.map a.eval, hi.map (ez S) with | none, none => True | some v, some r => RelR c S.m w v r | _, _ => False := by
  cases hi with
  | none => trivial
  | some y => exact h.evs y
 generalize ez S x = r at hx hK; generalize a.eval x = v at hx hex; generalize lo.map a.eval = vl at hl hex; generalize hi.map a.eval = vh at hh hex; generalize lo.map (ez S) = rl at hl hK; generalize hi.map (ez S) = rh at hh hK; unfold sliceK at hK
 split at hK
 ·rename_i f xs
  split at hK
  ·rename_i e es bs he
   obtain ⟨hel, hK⟩ := hK; obtain ⟨i, z, hu, hinf, his, _, _, hzs⟩ := eltP_spec he; obtain ⟨A, cc, sz, hsz, rfl, hs, hlen⟩ := Rp.sl hx; obtain ⟨l, h', h1, h2, h3, hrun⟩ := bnd_rel (P := P) (w := w) hl hh hs.1 hK true
   have hsl : sliceK P T S.m K (.c (.l f xs)) rl rh → True := fun _ => trivial
   have hrun2 : (Instr.sliceAt T (.slice A xs.length cc) vl vh none).run P w = .ok (.slice (if cc = l then A else A.map (·.add (l * es))) (h' - l) (cc - l)) w := by
    simp [Instr.sliceAt, run_underlying hu, Instr.slice, hrun, sizeOf, typeInfo, hinf, his]
   have hcl : h' - l = ((xs.take h').drop l).length := by rw [List.length_drop, List.length_take]; omega
   have hrel : RelC c S.m w (.slice (if cc = l then A else A.map (·.add (l * es))) (h' - l) (cc - l)) (.l f ((xs.take h').drop l)) := by
    rw [hcl]; refine Rp.of_sl hsz ?_; have ht : Sl sz ED w (c.Y f) A cc (xs.take h') := hs.take (by omega) (by have := hs.1; omega) hs.2.1
    rcases Nat.eq_zero_or_pos ((xs.take h').drop l).length with hz | hz
    ·rw [List.eq_nil_of_length_eq_zero hz]; exact Sl.nil _ _ _ _ (Nat.le_trans (Nat.sub_le _ _) hs.2.1)
    ·have hxp : 0 < xs.length := by rw [List.length_drop, List.length_take] at hz; omega
     have hse : sz = es := (hlen _ (List.getElem_mem hxp)).symm.trans (hel _ (List.getElem_mem hxp)); subst hse; obtain ⟨b, o', rfl, _⟩ := hs.2.2.1 hxp
     have hne : cc ≠ l := by rw [List.length_drop, List.length_take] at hz; have := hs.1; omega
     rw [if_neg hne]; simp only [Option.map_some, Addr.add_mid]; exact ht.drop
   exact sim_val (r := .c (.l f ((xs.take h').drop l))) hd (hex _ hrun2) h hrel h3
  ·exact hK.elim
 ·rename_i s
  obtain ⟨hT, hK⟩ := hK; obtain ⟨rfl, hsz⟩ := hx
  have hu : P.underlying T = some .string := by
   unfold slP at hT
   split at hT
   ·cases hT
   ·assumption
   ·cases hT
  obtain ⟨l, h', h1, h2, h3, hrun⟩ := bnd_rel (P := P) (w := w) hl hh (Nat.le_refl s.size) hK false; refine sim_val (r := .c (.s (s.extract l h'))) (v := .string (s.extract l h')) hd (hex _ ?_) h ⟨rfl, by simp [ByteArray.size_extract]; omega⟩ h3; simp [Instr.sliceAt, run_underlying hu, Instr.slice, hrun]
 ·exact hK.elim
def cvsP (P : Program) (src dst : TypeId) : Bool :=
 match P.underlying src, P.underlying dst with
 | some (.slice e), some .string => (match P.underlying e with | some (.int .u8) => true | _ => false)
 | _, _ => false
def bytesD : List (List D) → Option (List Int)
 | [] => some []
 | [.i .u8 n] :: r => (bytesD r).map (n :: ·)
 | _ => none
def bytesOf (l : List Int) : ByteArray := l.foldl (fun r n => r.push (UInt8.ofNat n.toNat)) ByteArray.empty
def bstrK (b : Bool) (m : Mem) (K : SV → Mem → Prop) (x : SV) : Prop :=
 b = true ∧ srcK m (fun _ ys => ys.length ≤ 9223372036854775807 ∧ match bytesD ys with
  | some l => K (.c (.s (bytesOf l))) m
  | none => False) x
theorem bytesD_len : ∀ {ys : List (List D)} {l : List Int}, bytesD ys = some l → ys.length = l.length ∧ ∀ i (hi : i < ys.length) (hl : i < l.length), ys[i] = [.i .u8 l[i]]
 | [], l, h => by injection h with h; subst h; exact ⟨rfl, fun i hi => absurd hi (by simp)⟩
 | y :: r, l, h => by
  unfold bytesD at h
  split at h
  ·rename_i e; cases e
  ·rename_i n r' e
   injection e with e1 e2
   subst e1; subst e2
   cases hr : bytesD r with
   | none => rw [hr] at h; cases h
   | some l' =>
    rw [hr] at h
    injection h with h
    subst h; obtain ⟨h1, h2⟩ := bytesD_len hr; refine ⟨by simp [h1], fun i hi hl => ?_⟩
    cases i with
    | zero => rfl
    | succ i => exact h2 i (by simpa using hi) (by simpa using hl)
  ·cases h
theorem bytesOf_size : ∀ (l : List Int) (s : ByteArray), (l.foldl (fun r n => r.push (UInt8.ofNat n.toNat)) s).size = s.size + l.length
 | [], s => rfl
 | n :: l, s => by
  rw [List.foldl_cons, bytesOf_size l, List.length_cons]; have : (s.push (UInt8.ofNat n.toNat)).size = s.size + 1 := ByteArray.size_push ..
  omega
theorem sim_bstr (h : RelX w0 c S a w) (hd : ∀ t, o.dst = some t → t < S.n) (t u : TypeId) (x : Operand) (ho : o.op = .convert t u x) (hK : bstrK (cvsP P t u) S.m K (ez S x)) : o.wp P a w (fun a' w' => ∃ r m', K r m' ∧ Rel w0 (S.put o.dst r m') a' w') Q := by
 obtain ⟨hb, hK⟩ := hK; obtain ⟨f, ys, ⟨hyl, hK⟩, -, hrel⟩ := srcK_rel h (h.evs x) hK
 split at hK
 ·rename_i l hl
  obtain ⟨e1, e2⟩ := bytesD_len hl
  obtain ⟨A, cap, zs, hv, hF, hc⟩ := hrel 1 (by omega) fun y hy => by
   obtain ⟨i, hi, rfl⟩ := List.getElem_of_mem hy
   rw [e2 i hi (by omega)]; rfl
  have hzs : zs = l.map (Value.int .u8) := by
   refine List.ext_getElem (by rw [hF.1, List.length_map]; omega) fun i h1 h2 => ?_
   rw [List.length_map] at h2; have h3 := hF.2 i (by omega); rw [e2 i (by omega) h2] at h3
   have h4 : ∀ {vs : List Value}, ED w (c.Y f) vs [.i .u8 l[i]] → vs = [.int .u8 l[i]] := fun h => by
    cases h with
    | cons h5 h6 => cases h6; cases h5; rfl
   have h5 := congrArg (·[0]?) (h4 h3); simp only [Nat.mul_one, List.getElem?_take, List.getElem?_drop, Nat.add_zero, Nat.lt_one_iff, if_true] at h5; rw [List.getElem?_eq_getElem h1] at h5; rw [List.getElem_map]
   injection h5
  have hex : ∀ v, (convert t u (a.eval x)).run P w = .ok v w → (execOp a.eval o).run P w = .ok (.value v) w := fun v hv => by
   simp only [execOp, ho, Sem.run_bind, hv, Result.andThen_ok, Sem.run_pure]
  have hcv : (convert t u (a.eval x)).run P w = .ok (.string (bytesOf l)) w := by
   unfold cvsP at hb
   split at hb
   ·rename_i e hs hd
    split at hb
    ·rename_i he
     rw [hv, run_convert_bytes_string w t u e _ _ _ hs he hd]
     by_cases h0 : 0 < ys.length
     ·obtain ⟨b, o, rfl, hc2⟩ := hc h0; refine run_bytesToString w _ _ _ l ?_
      have := run_loadCells_list (P := P) (w := w) ⟨b, o, none⟩ zs fun j v hj => by
       have := hc2 j v hj
       simpa [Addr.add_lit] using this
      rw [hF.1, Nat.mul_one, hzs] at this; exact this
     ·have h1 : l = [] := List.eq_nil_of_length_eq_zero (by omega)
      have h2 : ys.length = 0 := by omega
      subst h1; rw [h2]
      cases A with
      | none => simp [Conv.bytesToString, bytesOf]
      | some a =>
       refine run_bytesToString w _ _ _ [] ?_
       have := run_loadCells_list (P := P) (w := w) a [] fun j v hj => by simp at hj
       simpa using this
    ·cases hb
   ·cases hb
  refine sim_val (r := .c (.s (bytesOf l))) hd (hex _ hcv) h ⟨rfl, ?_⟩ hK; have := bytesOf_size l ByteArray.empty; have h0 : ByteArray.empty.size = 0 := rfl; simp only [maxLen]; unfold bytesOf
  omega
 ·exact hK.elim
end

end Go.Proofs.YtbgifiijjjoebaaGreatDoor
