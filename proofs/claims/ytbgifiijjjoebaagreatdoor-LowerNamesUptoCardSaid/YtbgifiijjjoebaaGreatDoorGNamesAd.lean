/- What one operation does to a state without addresses (I). No conditions. What one operation does to a state without addresses (II): stores, blocks. No conditions. -/
import Derived.Test.YtbgifiijjjoebaaGreatDoorGNamesAc
import Derived.Deep.MidRow
namespace Go.Proofs.YtbgifiijjjoebaaGreatDoor
open Go.RowKit

def lyt (P : Program) (t : TypeId) : Option (Bool × Nat) :=
 match P.info? t, P.underlying t with
 | some i, some d => some (d.isRow, i.size)
 | _, _ => none
theorem lyt_spec {P : Program} {t : TypeId} {g : Bool} {n : Nat} (h : lyt P t = some (g, n)) : ∃ i d, P.info? t = some i ∧ P.underlying t = some d ∧ d.isRow = g ∧ i.size = n := by
 unfold lyt at h
 split at h
 ·rename_i i d h1 h2
  simp only [Option.some.injEq, Prod.mk.injEq] at h; exact ⟨i, d, h1, h2, h.1, h.2⟩
 ·cases h

def toC (fr : Bool) : D → CV
 | .i k n => .i k n
 | .b x => .b x
 | .s x => .s x
 | .l xs => .l fr xs
 | .p T ds => .d fr T ds
 | .np => .np
def cCV : Value → Option CV
 | .int k n => if k.min ≤ n ∧ n ≤ k.max then some (.i k n) else none
 | .bool x => some (.b x)
 | .string s => if s.size ≤ maxLen then some (.s s) else none
 | .slice none 0 0 => some .nl
 | .pointer none => some .np
 | .nilFunc => some .nf
 | .map none => some .nm
 | _ => none
def cCVs : List Value → Option (List CV)
 | [] => some []
 | v :: r => match cCV v, cCVs r with
  | some x, some y => some (x :: y)
  | _, _ => none
def cRV : Value → SV
 | .agg cs => match cCVs cs.toList with
  | some xs => .g xs
  | none => .u
 | v => match cCV v with
  | some x => .c x
  | none => .u
def ez (S : AS) : Operand → SV
 | .tmp t => if t < S.n then S.f t else .u
 | .const v => cRV v
 | .func n => .c (.f n [])
 | _ => .u
def toE : SV → SV
 | .c (.d fr _ ds) => .e fr ds
 | x => x
def cellsOf : SV → Option (List CV)
 | .c x => some [x]
 | .g cs => some cs
 | _ => none
def layC (cs : List CV) (o : Nat) (ys : List CV) : List CV := cs.take o ++ ys ++ cs.drop (o + ys.length)

section
variable {P : Program} {w0 : Beg} {c : Cx} {S : AS} {a : Act} {w : World} {o : Oper} {m : Mem} {K : SV → Mem → Prop} {Q : Exit → Act → World → Prop}
theorem toC_rel {fr : Bool} {v : Value} {d : D} (h : Rp w (c.Y fr) v d) : RelC c m w v (toC fr d) := by
 cases d with
 | i k n => cases h; exact ⟨rfl, ‹_›, ‹_›⟩
 | b x => cases h; exact rfl
 | s x => cases h; exact ⟨rfl, ‹_›⟩
 | l xs => exact h
 | p T ds => exact h
 | np => cases h; exact rfl
theorem toE_rel {v : Value} {x : SV} (h : RelR c m w v x) : RelR c m w v (toE x) := by
 unfold toE
 split
 ·rename_i fr T ds
  have h : Rp w (c.Y fr) v (.p T ds) := h
  cases h with
  | @p b _ _ vs h1 h2 h3 h4 => exact ⟨b, 0, rfl, fun j hj => ⟨h1, vs.getD j undef, by rw [Nat.zero_add, h2.cell]; simp [Array.getD, h3, hj], h4 j hj⟩⟩
 ·exact h
theorem cCV_rel {v : Value} {x : CV} (h : cCV v = some x) : RelC c m w v x := by
 unfold cCV at h
 split at h
 ·split at h
  ·rename_i h1; injection h with h; subst h; exact ⟨rfl, h1.1, h1.2⟩
  ·cases h
 ·injection h with h; subst h; rfl
 ·split at h
  ·rename_i h1; injection h with h; subst h; exact ⟨rfl, h1⟩
  ·cases h
 ·injection h with h; subst h; rfl
 ·injection h with h; subst h; rfl
 ·injection h with h; subst h; rfl
 ·injection h with h; subst h; rfl
 ·cases h
theorem cCVs_rel : ∀ {vs : List Value} {xs : List CV}, cCVs vs = some xs → F2 (RelC c m w) vs xs
 | [], xs, h => by simp only [cCVs, Option.some.injEq] at h; subst h; exact .nil
 | v :: r, xs, h => by
  unfold cCVs at h
  split at h
  ·rename_i x y h1 h2
   injection h with h; subst h
   exact .cons (cCV_rel h1) (cCVs_rel h2)
  ·cases h
theorem cRV_rel (v : Value) : RelR c m w v (cRV v) := by
 unfold cRV
 split
 ·split
  ·rename_i h; exact ⟨_, rfl, cCVs_rel h⟩
  ·trivial
 ·split
  ·rename_i h; exact cCV_rel h
  ·trivial
theorem RelX.evs (h : RelX w0 c S a w) (x : Operand) : RelR c S.m w (a.eval x) (ez S x) := by
 cases x with
 | tmp t =>
  show RelR c S.m w (a.tmps.getD t undef) (if t < S.n then S.f t else .u)
  split
  ·rename_i ht; exact h.sl t ht
  ·trivial
 | const v => exact cRV_rel v
 | global g => trivial
 | func f => exact ⟨#[], rfl, .nil⟩
theorem RelC.one {v : Value} {x : CV} (h : RelC c m w v x) : v.oneCell' = true := by
 cases x with
 | i k n => rw [h.1]; rfl
 | b x => rw [h]; rfl
 | s x => rw [h.1]; rfl
 | l fr xs => exact Rp.one h
 | d fr T ds => exact Rp.one h
 | nl => rw [h]; rfl
 | np => rw [h]; rfl
 | p k o => rw [h.1]; rfl
 | r k n => obtain ⟨_, _, _, _, _, _, _, h⟩ := h; exact h
 | u => exact h
 | f n ks => obtain ⟨_, h, _⟩ := h; rw [h]; rfl
 | nf => rw [h]; rfl
 | m k => rw [h.1]; rfl
 | nm => rw [h]; rfl
 | t k => rw [h.1]; rfl
theorem cellsOf_rel {v : Value} {r : SV} {xs : List CV} (h : RelR c m w v r) (hx : cellsOf r = some xs) : F2 (RelC c m w) v.cells.toList xs := by
 cases r with
 | c x =>
  injection hx with hx; subst hx
  have h1 := RelC.one h
  have : v.cells.toList = [v] := by cases v <;> first | rfl | simp [Value.oneCell'] at h1
  rw [this]; exact .cons h .nil
 | g cs =>
  injection hx with hx; subst hx
  obtain ⟨vs, rfl, h2⟩ := h; exact h2
 | t xs => cases hx
 | u => cases hx
 | e fr ds => cases hx
 | q k n i o => cases hx
def AS.put (S : AS) (d : Option Nat) (r : SV) (m : Mem) : AS := ⟨S.n, match d with | some d => fset S.f d r | none => S.f, m⟩
theorem RelX.puts {c' : Cx} {m' : Mem} {w' : World} {v : Value} {r : SV} {d : Option Nat} (h : RelX w0 c' ⟨S.n, S.f, m'⟩ a w') (hd : ∀ t, d = some t → t < S.n) (hr : RelR c' m' w' v r) : RelX w0 c' (S.put d r m') (a.put d v) w' := by
 cases d with
 | none => exact h
 | some t => exact h.put (hd t rfl) hr
theorem sim_val {c' : Cx} {m' : Mem} {w' : World} {v : Value} {r : SV} (hd : ∀ t, o.dst = some t → t < S.n) (hrun : (execOp a.eval o).run P w = .ok (.value v) w') (h : RelX w0 c' ⟨S.n, S.f, m'⟩ a w') (hr : RelR c' m' w' v r) (hK : K r m') :
  o.wp P a w (fun a' w' => ∃ r m', K r m' ∧ Rel w0 (S.put o.dst r m') a' w') Q := by
 unfold Oper.wp; rw [hrun]; exact ⟨r, m', hK, c', h.puts hd hr⟩
theorem sim_skip {c' : Cx} {m' : Mem} {w' : World} (hd : o.dst = none) (hrun : (execOp a.eval o).run P w = .ok .skip w') (h : RelX w0 c' ⟨S.n, S.f, m'⟩ a w') (hK : K .u m') :
  o.wp P a w (fun a' w' => ∃ r m', K r m' ∧ Rel w0 (S.put o.dst r m') a' w') Q := by
 unfold Oper.wp; rw [hrun]; refine ⟨.u, m', hK, c', ?_⟩
 show RelX w0 c' _ (a.put o.dst undef) w'
 rw [hd]; exact h

theorem sim_move (h : RelX w0 c S a w) (hd : ∀ t, o.dst = some t → t < S.n) (x : Operand) (ho : o.op = .move x ∨ o.op = .assign x) (hK : K (ez S x) S.m) : o.wp P a w (fun a' w' => ∃ r m', K r m' ∧ Rel w0 (S.put o.dst r m') a' w') Q := by
 refine sim_val (v := a.eval x) hd ?_ h (h.evs x) hK
 rcases ho with ho | ho <;> simp [execOp, ho]

def loadK (g : Bool) (n : Nat) (m : Mem) (K : SV → Mem → Prop) : SV → Prop
 | .c (.p k o) => match mat m k with
  | some (.x cs) => o + n ≤ cs.length ∧ (if g then K (.g ((cs.drop o).take n)) m else match cs[o]? with
   | some x => K (.c x) m
   | none => False)
  | _ => False
 | .e fr ds => n ≤ ds.length ∧ (if g then K (.g ((ds.take n).map (toC fr))) m else match ds[0]? with
   | some x => K (.c (toC fr x)) m
   | none => False)
 | .q k n' i o => match mat m k with
  | some (.r fr _ _ xs) => n' = xs.length ∧ o + n ≤ (xs.getD i []).length ∧ (if g then K (.g ((((xs.getD i []).drop o).take n).map (toC fr))) m else match (xs.getD i [])[o]? with
   | some x => K (.c (toC fr x)) m
   | none => False)
  | _ => False
 | _ => False
theorem run_load_gen {t : TypeId} {g : Bool} {n : Nat} (hl : lyt P t = some (g, n)) (b off : Nat) (vs : List Value) (hc : w.rangeAt b off vs) (hn : vs.length = n) :
  (g = true → (Instr.loadAt t (.pointer (some ⟨b, off, none⟩))).run P w = .ok (.agg vs.toArray) w) ∧ (g = false → ∀ v, vs[0]? = some v → (Instr.loadAt t (.pointer (some ⟨b, off, none⟩))).run P w = .ok v w) := by
 obtain ⟨i, d, hi, hu, hd, hs⟩ := lyt_spec hl
 constructor
 ·intro hg; exact run_loadAt_mid w b off t vs d hc hu (hd.trans hg) (by rw [hi, Option.map_some, hs, hn])
 ·intro hg v hv; have h1 := hc 0 v hv
  have hagg : (isAgg t).run P w = .ok false w := by
   unfold isAgg; rw [Sem.run_bind, run_underlying hu w]; rw [hg] at hd
   cases d <;> simp_all
  simp only [Instr.loadAt, Instr.sureAddr, loadVar, Sem.run_bind, Sem.run_pure, Result.andThen_ok, hagg, Bool.false_eq_true, if_false, run_load]; have h1 : w.cell? ⟨b, off, none⟩ = some v := h1; rw [h1]
theorem F2.cells {α : Type} {R : Value → α → Prop} {vs : List Value} {xs : List α} (h : F2 R vs xs) {o n : Nat} (hn : o + n ≤ xs.length) : ((vs.drop o).take n).length = n ∧ F2 R ((vs.drop o).take n) ((xs.drop o).take n) := by
 have := forall2_len h; exact ⟨by rw [List.length_take, List.length_drop]; omega, forall2_take n (forall2_drop o h)⟩
theorem F2.map {α β : Type} {R : Value → α → Prop} {R' : Value → β → Prop} {f : α → β} (hf : ∀ v x, R v x → R' v (f x)) : ∀ {vs : List Value} {xs : List α}, F2 R vs xs → F2 R' vs (xs.map f)
 | _, _, .nil => .nil
 | _, _, .cons h1 h2 => .cons (hf _ _ h1) (F2.map hf h2)
theorem Box.range {g : Nat} {T : TypeId} {vs : Array Value} (hb : Box w g T vs) (o n : Nat) : w.rangeAt g o ((vs.toList.drop o).take n) := by
 intro j v hv; rw [hb.cell]; rw [List.getElem?_take] at hv
 split at hv
 ·rw [List.getElem?_drop] at hv; simpa using hv
 ·cases hv
theorem Own.at_ {sz : Nat} {Z : Nat → Prop} {n0 : Nat} {T : TypeId} {v : Value} {xs : List (List D)} (h : Own sz ED w Z n0 T v xs) {i : Nat} (hi : i < xs.length) :
  ∃ g cap vs, v = .slice (some ⟨g, 0, none⟩) xs.length cap ∧ n0 ≤ g ∧ g < w.heap.size ∧ w.rangeAt g (i * sz) vs ∧ vs.length = sz ∧ ED w Z vs xs[i] := by
 obtain ⟨ys, h1, h2⟩ := h
 rcases h1.2 with ⟨_, hn⟩ | ⟨g, cap, cur, rfl, hb, hg, _⟩
 ·omega
 ·have hle : i * sz + sz ≤ ys.length := by rw [h2.1, ← Nat.succ_mul]; exact Nat.mul_le_mul_right _ hi
  refine ⟨g, cap, (ys.drop (i * sz)).take sz, rfl, hb, lt_of_some hg, fun j u hj => ?_, by rw [List.length_take, List.length_drop]; omega, ?_⟩
  ·rw [List.getElem?_take] at hj
   split at hj
   ·rw [List.getElem?_drop] at hj; have := h1.cells (g := g) rfl _ u hj
    simpa [Addr.add_lit] using this
   ·cases hj
  ·exact forall2_mono (fun _ _ r => r.widen fun b hb _ => hb.1) (h2.2 i hi)
theorem sim_load (h : RelX w0 c S a w) (hd : ∀ t, o.dst = some t → t < S.n) (t : TypeId) (x : Operand) (ho : o.op = .load t x) {g : Bool} {n : Nat} (hl : lyt P t = some (g, n)) (hK : loadK g n S.m K (toE (ez S x))) :
  o.wp P a w (fun a' w' => ∃ r m', K r m' ∧ Rel w0 (S.put o.dst r m') a' w') Q := by
 have hx := toE_rel (h.evs x)
 have hex : ∀ v, (Instr.loadAt t (a.eval x)).run P w = .ok v w → (execOp a.eval o).run P w = .ok (.value v) w := by
  intro v hv; simp only [execOp, ho, Sem.run_bind, hv, Result.andThen_ok, Sem.run_pure]
 generalize toE (ez S x) = r at hx hK; generalize a.eval x = v at hx hex; unfold loadK at hK
 split at hK
 ·rename_i k off
  split at hK
  ·rename_i cs hm
   obtain ⟨rfl, _⟩ := hx; obtain ⟨h1, h2, vs, T, hb, hf⟩ := h.mem k _ hm; obtain ⟨h3, h4⟩ := hf.cells hK.1; obtain ⟨r1, r2⟩ := run_load_gen hl (c.β k) off _ (hb.range off n) h3; have hK := hK.2
   cases g with
   | true => exact sim_val (r := .g ((cs.drop off).take n)) hd (hex _ (r1 rfl)) h ⟨_, rfl, h4⟩ hK
   | false =>
    simp only [Bool.false_eq_true, if_false] at hK
    split at hK
    ·rename_i y hy
     have hn : 0 < n ∨ n = 0 := by omega
     have hlt := (List.getElem?_eq_some_iff.1 hy).1; have hvl := forall2_len hf; have hv0 : vs.toList[off]? = some vs.toList[off] := List.getElem?_eq_getElem (by omega); have hrel := forall2_get hf off (by omega) hlt; rw [(List.getElem?_eq_some_iff.1 hy).2] at hrel; refine sim_val (r := .c y) hd (hex vs.toList[off] ?_) h hrel hK; obtain ⟨i, d, hi, hu, hdr, hs⟩ := lyt_spec hl
     have hagg : (isAgg t).run P w = .ok false w := by
      unfold isAgg; rw [Sem.run_bind, run_underlying hu w]
      cases d <;> simp_all
     simp only [Instr.loadAt, Instr.sureAddr, loadVar, Sem.run_bind, Sem.run_pure, Result.andThen_ok, hagg, Bool.false_eq_true, if_false, run_load]; have := hb.cell off; rw [← Array.getElem?_toList, hv0] at this; rw [this]
    ·exact hK.elim
  ·exact hK.elim
 ·rename_i fr ds
  obtain ⟨b, off, rfl, hj⟩ := hx
  have key : ∃ vs : List Value, vs.length = ds.length ∧ w.rangeAt b off vs ∧ F2 (Rp w (c.Y fr)) vs ds := by
   refine ⟨(List.range ds.length).map fun j => (w.cell? ⟨b, off + j, none⟩).getD undef, by simp, fun j v hv => ?_, forall2_of (by simp) fun j h1 h2 => ?_⟩
   ·simp only [List.getElem?_map] at hv
    rcases Nat.lt_or_ge j ds.length with hlt | hge
    ·obtain ⟨_, u, hu, _⟩ := hj j hlt; simp [hlt, hu] at hv; rw [hu, hv]
    ·rw [List.getElem?_eq_none (by simpa using hge)] at hv; simp at hv
   ·obtain ⟨_, u, hu, hr⟩ := hj j h2; simp [hu, hr]
  obtain ⟨vs, hvl, hvr, hvf⟩ := key; have h4 : F2 (Rp w (c.Y fr)) (vs.take n) (ds.take n) := forall2_take n hvf
  have hvr' : w.rangeAt b off (vs.take n) := fun j v hv => hvr j v (by
   rw [List.getElem?_take] at hv
   split at hv
   ·exact hv
   ·cases hv)
  obtain ⟨r1, r2⟩ := run_load_gen hl b off _ hvr' (by rw [List.length_take]; omega); have hK2 := hK.2
  cases g with
  | true => exact sim_val (r := .g ((ds.take n).map (toC fr))) hd (hex _ (r1 rfl)) h ⟨_, rfl, F2.map (fun _ _ r => toC_rel r) h4⟩ hK2
  | false =>
   simp only [Bool.false_eq_true, if_false] at hK2
   split at hK2
   ·rename_i y hy
    have hlt := (List.getElem?_eq_some_iff.1 hy).1; have hrel := forall2_get hvf 0 (by omega) hlt; rw [(List.getElem?_eq_some_iff.1 hy).2] at hrel; obtain ⟨q1, q2⟩ := run_load_gen (w := w) hl b off (vs.take n) hvr' (by rw [List.length_take]; omega); obtain ⟨i, d, hi, hu, hdr, hs⟩ := lyt_spec hl
    have hagg : (isAgg t).run P w = .ok false w := by
     unfold isAgg; rw [Sem.run_bind, run_underlying hu w]
     cases d <;> simp_all
    have hc0 : w.cell? ⟨b, off, none⟩ = some vs[0] := hvr 0 _ (List.getElem?_eq_getElem (by omega)); refine sim_val (r := .c (toC fr y)) hd (hex vs[0] ?_) h (toC_rel hrel) hK2; simp only [Instr.loadAt, Instr.sureAddr, loadVar, Sem.run_bind, Sem.run_pure, Result.andThen_ok, hagg, Bool.false_eq_true, if_false, run_load, hc0]
   ·exact hK2.elim
 ·rename_i k n' i off
  split at hK
  ·rename_i fr sz T xs hm
   obtain ⟨fr', sz', T', xs', h1, h2, h3, h4⟩ := hx; rw [hm] at h1
   injection h1 with h1
   injection h1 with e1 e2 e3 e4
   subst e1; subst e2; subst e3; subst e4
   obtain ⟨hnl, hle, hK⟩ := hK; obtain ⟨g', cap, hρ, rfl⟩ := h4 hnl; obtain ⟨h5, h6, h7, h8⟩ := h.mem k _ hm
   have hil : i < xs.length := by omega
   obtain ⟨gg, cap', vs, e1, _, _, hr, hvl, he⟩ := h6.at_ hil; rw [hρ] at e1
   injection e1 with e1
   injection e1 with e1
   injection e1 with e1
   subst e1
   have hgd : xs.getD i [] = xs[i] := by simp [List.getD, hil]
   rw [hgd] at hle hK; obtain ⟨q3, q4⟩ := F2.cells he hle
   have hr' : w.rangeAt g' (i * sz + off) ((vs.drop off).take n) := fun j v hv => by
    rw [List.getElem?_take] at hv
    split at hv
    ·rw [List.getElem?_drop] at hv; have := hr _ _ hv
     rwa [← Nat.add_assoc] at this
    ·cases hv
   obtain ⟨r1, r2⟩ := run_load_gen hl g' (i * sz + off) _ hr' q3
   cases g with
   | true => exact sim_val (r := .g (((xs[i].drop off).take n).map (toC fr))) hd (hex _ (r1 rfl)) h ⟨_, rfl, F2.map (fun _ _ r => toC_rel r) q4⟩ hK
   | false =>
    simp only [Bool.false_eq_true, if_false] at hK
    split at hK
    ·rename_i y hy
     have hlt := (List.getElem?_eq_some_iff.1 hy).1; have hvl2 := forall2_len he; have hrel := forall2_get he off (by omega) hlt; rw [(List.getElem?_eq_some_iff.1 hy).2] at hrel; obtain ⟨ii, d, hi, hu, hdr, hs⟩ := lyt_spec hl
     have hagg : (isAgg t).run P w = .ok false w := by
      unfold isAgg; rw [Sem.run_bind, run_underlying hu w]
      cases d <;> simp_all
     have hc0 : w.cell? ⟨g', i * sz + off, none⟩ = some vs[off] := hr off _ (List.getElem?_eq_getElem (by omega)); refine sim_val (r := .c (toC fr y)) hd (hex vs[off] ?_) h (toC_rel hrel) hK; simp only [Instr.loadAt, Instr.sureAddr, loadVar, Sem.run_bind, Sem.run_pure, Result.andThen_ok, hagg, Bool.false_eq_true, if_false, run_load, hc0]
    ·exact hK.elim
  ·exact hK.elim
 ·exact hK.elim
end

end Go.Proofs.YtbgifiijjjoebaaGreatDoor

namespace Go.Proofs.YtbgifiijjjoebaaGreatDoor
open Go.RowKit

def snapD : CV → Option (Bool × D)
 | .i k n => some (true, .i k n)
 | .b x => some (true, .b x)
 | .s x => some (true, .s x)
 | .l fr xs => some (fr, .l xs)
 | .nl => some (true, .l [])
 | .d fr T ds => some (fr, .p T ds)
 | .np => some (true, .np)
 | _ => none
def snapDs : List CV → Option (Bool × List D)
 | [] => some (true, [])
 | x :: r => match snapD x, snapDs r with
  | some (f, d), some (g, ds) => some (f && g, d :: ds)
  | _, _ => none
def layD (cs : List D) (o : Nat) (ys : List D) : List D := cs.take o ++ ys ++ cs.drop (o + ys.length)
def SameOb : Ob → Ob → Prop
 | .x _, .x _ => True
 | .r _ sz T xs, .r _ sz' T' xs' => sz' = sz ∧ T' = T ∧ xs.length ≤ xs'.length
 | .m .., .m .. => True
 | .it _ mk _ _, .it _ mk' _ _ => mk' = mk
 | _, _ => False

section
variable {P : Program} {w0 : Beg} {c : Cx} {S : AS} {a : Act} {w : World} {o : Oper} {m : Mem} {K : SV → Mem → Prop} {Q : Exit → Act → World → Prop}
theorem Cx.Y.le {fr fr' : Bool} {b : Nat} (h : c.Y fr b) (hf : fr' = true → fr = true) : c.Y fr' b := ⟨h.1, fun e => h.2 (hf e)⟩
theorem snapD_rel {x : CV} {v : Value} {fr : Bool} {d : D} (h : RelC c m w v x) (hs : snapD x = some (fr, d)) : Rp w (c.Y fr) v d := by
 cases x with
 | i k n => injection hs with hs; injection hs with e1 e2; subst e1; subst e2; rw [h.1]; exact .i h.2.1 h.2.2
 | b x => injection hs with hs; injection hs with e1 e2; subst e1; subst e2; rw [h]; exact .b
 | s x => injection hs with hs; injection hs with e1 e2; subst e1; subst e2; rw [h.1]; exact .s h.2
 | l f xs => injection hs with hs; injection hs with e1 e2; subst e1; subst e2; exact h
 | nl => injection hs with hs; injection hs with e1 e2; subst e1; subst e2; rw [h]; exact Rp.of_sl (sz := 1) (by omega) (Sl.nil0 _ _ _)
 | np => injection hs with hs; injection hs with e1 e2; subst e1; subst e2; rw [h]; exact .np
 | d f T ds => injection hs with hs; injection hs with e1 e2; subst e1; subst e2; exact h
 | p k o => cases hs
 | r k n => cases hs
 | u => cases hs
 | f n ks => cases hs
 | nf => cases hs
 | m k => cases hs
 | nm => cases hs
 | t k => cases hs
theorem Rp.le {fr fr' : Bool} {v : Value} {d : D} (h : Rp w (c.Y fr) v d) (hf : fr' = true → fr = true) : Rp w (c.Y fr') v d := h.widen fun _ hb _ => hb.le hf
theorem snapDs_rel : ∀ {xs : List CV} {vs : List Value} {fr : Bool} {ds : List D}, F2 (RelC c m w) vs xs → snapDs xs = some (fr, ds) → ED w (c.Y fr) vs ds
 | [], _, fr, ds, .nil, hs => by simp only [snapDs, Option.some.injEq, Prod.mk.injEq] at hs; obtain ⟨_, rfl⟩ := hs; exact .nil
 | x :: r, _, fr, ds, .cons h1 h2, hs => by
  unfold snapDs at hs
  split at hs
  ·rename_i f d g ds' e1 e2
   simp only [Option.some.injEq, Prod.mk.injEq] at hs; obtain ⟨rfl, rfl⟩ := hs; exact .cons ((snapD_rel h1 e1).le (by simp; exact fun h _ => h)) (forall2_mono (fun _ _ r => r.le (by simp)) (snapDs_rel h2 e2))
  ·cases hs

theorem RelX.upd (h : RelX w0 c S a w) {k : Nat} {ob ob' : Ob} (hk : mat S.m k = some ob) {w' : World} {ρ' : Nat → Value} (hρ : ∀ j, j ≠ k → ρ' j = c.ρ j) (hs : SameOb ob ob') (hl : ∀ fr sz T xs fr' sz' T' xs', ob = .r fr sz T xs → ob' = .r fr' sz' T' xs' → xs.length = xs'.length → ρ' k = c.ρ k)
  (hx : Ext w0.w w') (hsz : w.heap.size ≤ w'.heap.size) (hb : ∀ b, b < w.heap.size → blk c k ob ≠ some b → w'.heap[b]? = w.heap[b]?) (hn : ∀ b, blk ⟨c.β, ρ', c.X, c.n0⟩ k ob' = some b → blk c k ob = some b ∨ w.heap.size ≤ b)
  (hO : Mon c S.m w ⟨c.β, ρ', c.X, c.n0⟩ (mset S.m k ob') w' → RelO ⟨c.β, ρ', c.X, c.n0⟩ (mset S.m k ob') w' k ob')
  (hit : (∃ fr kk es, ob = .m fr kk es) → ρ' k = c.ρ k ∨ ∀ j fr rem la, mat S.m j ≠ some (.it fr k rem la) := by (rintro ⟨_, _, _, h⟩; cases h)) : RelX w0 ⟨c.β, ρ', c.X, c.n0⟩ ⟨S.n, S.f, mset S.m k ob'⟩ a w' := by
 have hm : Mon c S.m w ⟨c.β, ρ', c.X, c.n0⟩ (mset S.m k ob') w' := by
  refine ⟨rfl, fun _ h => h, fun b hX hlt => hb b hlt fun e => (h.bk hk b e).2.2 hX, fun j cs hj => ⟨rfl, ?_⟩, fun j fr sz T xs hj => ?_, fun j fr kk es hj => ⟨rfl, ?_⟩, fun j fr mk rem la hj => ⟨rfl, rfl, ?_, ?_⟩⟩
  ·by_cases e : j = k
   ·subst e; rw [hk] at hj
    injection hj with hj
    subst hj
    cases ob' <;> first | exact ⟨_, mat_set_same hk⟩ | exact hs.elim
   ·exact ⟨cs, by rw [mat_set_other e]; exact hj⟩
  ·by_cases e : j = k
   ·subst e; rw [hk] at hj
    injection hj with hj
    subst hj
    cases ob' with
    | r fr' sz' T' xs' =>
     obtain ⟨e1, e2, e3⟩ := hs
     subst e1; subst e2
     exact ⟨fr', xs', mat_set_same hk, e3, fun he => hl _ _ _ _ _ _ _ _ rfl rfl he⟩
    | _ => exact hs.elim
   ·exact ⟨fr, xs, by rw [mat_set_other e]; exact hj, Nat.le_refl _, fun _ => hρ j e⟩
  ·by_cases e : j = k
   ·subst e; rw [hk] at hj
    injection hj with hj
    subst hj
    cases ob' <;> first | exact ⟨_, _, _, mat_set_same hk⟩ | exact hs.elim
   ·exact ⟨fr, kk, es, by rw [mat_set_other e]; exact hj⟩
  ·by_cases e : mk = k
   ·subst e; obtain ⟨_, _, ⟨fr0, kk0, es0, h0⟩, _⟩ := h.mem j _ hj; rw [hk] at h0
    injection h0 with h0
    exact (hit ⟨_, _, _, h0⟩).elim id fun h => absurd hj (h j fr rem la)
   ·exact hρ mk e
  ·by_cases e : j = k
   ·subst e; rw [hk] at hj
    injection hj with hj
    subst hj
    cases ob' with
    | it fr' mk' rem' la' =>
     obtain rfl : mk' = mk := hs; exact ⟨fr', rem', la', mat_set_same hk⟩
    | _ => exact hs.elim
   ·exact ⟨fr, rem, la, by rw [mat_set_other e]; exact hj⟩
 have hblk : ∀ j oj, j ≠ k → mat S.m j = some oj → blk ⟨c.β, ρ', c.X, c.n0⟩ j oj = blk c j oj := fun j oj hjk hj => blk_mon hm hj (by rw [mat_set_other hjk]; exact hj)
 refine h.go hm hx (fun b hb => Nat.lt_of_lt_of_le (h.xl b hb) hsz) h.xo (fun j oj hj => ?_) fun j j' oj oj' hne hj hj' b e1 e2 => ?_
 ·by_cases e : j = k
  ·subst e; rw [mat_set_same hk] at hj
   injection hj with hj
   subst hj; exact hO hm
  ·have hj2 := hj; rw [mat_set_other e] at hj2; exact RelO.mon hm (h.mem j oj hj2) hj2 hj (fun b hbb => ⟨hb b (h.bk hj2 b hbb).2.1 fun e2 => h.dis j k oj ob e hj2 hk b hbb e2, (h.bk hj2 b hbb).2.2⟩) (hρ j e)
 ·by_cases e : j = k
  ·subst e; rw [mat_set_same hk] at hj
   injection hj with hj
   subst hj; have hj2 := hj'; rw [mat_set_other (Ne.symm hne)] at hj2; rw [hblk j' oj' (Ne.symm hne) hj2] at e2
   rcases hn b e1 with h1 | h1
   ·exact h.dis j j' ob oj' hne hk hj2 b h1 e2
   ·have := (h.bk hj2 b e2).2.1; omega
  ·have hj2 := hj; rw [mat_set_other e] at hj2; rw [hblk j oj e hj2] at e1
   by_cases e' : j' = k
   ·subst e'; rw [mat_set_same hk] at hj'
    injection hj' with hj'
    subst hj'
    rcases hn b e2 with h1 | h1
    ·exact h.dis j j' oj ob hne hj2 hk b e1 h1
    ·have := (h.bk hj2 b e1).2.1; omega
   ·have hj3 := hj'; rw [mat_set_other e'] at hj3; rw [hblk j' oj' e' hj3] at e2; exact h.dis j j' oj oj' hne hj2 hj3 b e1 e2

theorem RelX.newd (h : RelX w0 c S a w) {k : Nat} {ob : Ob} (hk : mat S.m k = none) {w' : World} {β' : Nat → Nat} {ρ' : Nat → Value} (hβ : ∀ j, j ≠ k → β' j = c.β j) (hρ : ∀ j, j ≠ k → ρ' j = c.ρ j)
  (hx : Ext w w') (hn : ∀ b, blk ⟨β', ρ', c.X, c.n0⟩ k ob = some b → ∀ j oj, mat S.m j = some oj → blk c j oj ≠ some b)
  (hO : Mon c S.m w ⟨β', ρ', c.X, c.n0⟩ ((k, ob) :: S.m) w' → RelO ⟨β', ρ', c.X, c.n0⟩ ((k, ob) :: S.m) w' k ob) : RelX w0 ⟨β', ρ', c.X, c.n0⟩ ⟨S.n, S.f, (k, ob) :: S.m⟩ a w' := by
 have hne : ∀ {j : Nat} {oj : Ob}, mat S.m j = some oj → k ≠ j := fun hj e => by subst e; rw [hk] at hj; cases hj
 have hup : ∀ {j : Nat} {oj : Ob}, mat S.m j = some oj → mat ((k, ob) :: S.m) j = some oj := fun hj => by rw [mat, if_neg (hne hj)]; exact hj
 have hdn : ∀ {j : Nat} {oj : Ob}, j ≠ k → mat ((k, ob) :: S.m) j = some oj → mat S.m j = some oj := fun e hj => by rwa [mat, if_neg (Ne.symm e)] at hj
 have hself : mat ((k, ob) :: S.m) k = some ob := by simp [mat]
 have hm : Mon c S.m w ⟨β', ρ', c.X, c.n0⟩ ((k, ob) :: S.m) w' :=
  ⟨rfl, fun _ h => h, fun b hX hlt => hx.block b hlt, fun j cs hj => ⟨hβ j (Ne.symm (hne hj)), cs, hup hj⟩, fun j fr sz T xs hj => ⟨fr, xs, hup hj, Nat.le_refl _, fun _ => hρ j (Ne.symm (hne hj))⟩, fun j fr kk es hj => ⟨hβ j (Ne.symm (hne hj)), fr, kk, es, hup hj⟩, fun j fr mk rem la hj => have hmk : mk ≠ k := (let ⟨_, _, ⟨_, _, _, h0⟩, _⟩ := h.mem j _ hj; Ne.symm (hne h0)); ⟨hβ j (Ne.symm (hne hj)), hβ mk hmk, hρ mk hmk, fr, rem, la, hup hj⟩⟩
 refine h.go hm (h.ext.trans hx) (fun b hb => Nat.lt_of_lt_of_le (h.xl b hb) hx.size) h.xo (fun j oj hj => ?_) fun j j' oj oj' hjj hj hj' b e1 e2 => ?_
 ·by_cases e : j = k
  ·subst e; rw [hself] at hj
   injection hj with hj
   subst hj; exact hO hm
  ·have hj2 := hdn e hj; exact RelO.mon hm (h.mem j oj hj2) hj2 hj (fun b hbb => ⟨hx.block b (h.bk hj2 b hbb).2.1, (h.bk hj2 b hbb).2.2⟩) (hρ j e)
 ·by_cases e : j = k
  ·subst e; rw [hself] at hj
   injection hj with hj
   subst hj; have hj2 := hdn (Ne.symm hjj) hj'; rw [blk_mon hm hj2 hj'] at e2; exact hn b e1 j' oj' hj2 e2
  ·have hj2 := hdn e hj; rw [blk_mon hm hj2 hj] at e1
   by_cases e' : j' = k
   ·subst e'; rw [hself] at hj'
    injection hj' with hj'
    subst hj'; exact hn b e2 j oj hj2 e1
   ·have hj3 := hdn e' hj'; rw [blk_mon hm hj3 hj'] at e2; exact h.dis j j' oj oj' hjj hj2 hj3 b e1 e2
theorem RelX.new (h : RelX w0 c S a w) {k : Nat} {ob : Ob} (hk : mat S.m k = none) {w' : World} {β' : Nat → Nat} {ρ' : Nat → Value} (hβ : ∀ j, j ≠ k → β' j = c.β j) (hρ : ∀ j, j ≠ k → ρ' j = c.ρ j)
  (hx : Ext w w') (hn : ∀ b, blk ⟨β', ρ', c.X, c.n0⟩ k ob = some b → w.heap.size ≤ b)
  (hO : Mon c S.m w ⟨β', ρ', c.X, c.n0⟩ ((k, ob) :: S.m) w' → RelO ⟨β', ρ', c.X, c.n0⟩ ((k, ob) :: S.m) w' k ob) : RelX w0 ⟨β', ρ', c.X, c.n0⟩ ⟨S.n, S.f, (k, ob) :: S.m⟩ a w' :=
 h.newd hk hβ hρ hx (fun b hb j oj hj e => by have := (h.bk hj b e).2.1; have := hn b hb; omega) hO

def storeK (n : Nat) (m : Mem) (K : SV → Mem → Prop) (ad : SV) (val : SV) : Prop :=
 match ad, cellsOf val with
 | .c (.p k o), some ys => match mat m k with
  | some (.x cs) => ys.length = n ∧ o + n ≤ cs.length ∧ K .u (mset m k (.x (layC cs o ys)))
  | _ => False
 | .q k n' i o, some ys => match mat m k, snapDs ys with
  | some (.r fr sz T xs), some (fr', ds) => n' = xs.length ∧ ys.length = n ∧ o + n ≤ (xs.getD i []).length ∧ K .u (mset m k (.r (fr && fr') sz T (xs.set i (layD (xs.getD i []) o ds))))
  | _, _ => False
 | _, _ => False
theorem F2.layC {R : Value → CV → Prop} {vs us : List Value} {xs ys : List CV} (h : F2 R vs xs) (k : F2 R us ys) (o : Nat) : F2 R (vs.take o ++ us ++ vs.drop (o + us.length)) (layC xs o ys) := by
 unfold Go.Proofs.YtbgifiijjjoebaaGreatDoor.layC; rw [← forall2_len k]; exact forall2_app (forall2_app (forall2_take o h) k) (forall2_drop _ h)
theorem F2.one {R : Value → CV → Prop} {vs : List Value} {xs : List CV} (h : F2 R vs xs) (hR : ∀ v x, R v x → v.oneCell' = true) : ∀ v ∈ vs, v.oneCell' = true := by
 intro v hv; obtain ⟨i, hi, rfl⟩ := List.getElem_of_mem hv; exact hR _ _ (forall2_get h i hi (by rw [← forall2_len h]; exact hi))
theorem run_store_gen {t : TypeId} {g : Bool} {n : Nat} (hl : lyt P t = some (g, n)) {b off : Nat} {T : TypeId} {cur : Array Value} (hb : w.heap[b]? = some (.cells cur T (0, 0))) {v : Value} (hv : v.cells.size = n) (ho : off + n ≤ cur.size) (h1 : ∀ u ∈ v.cells.toList, u.oneCell' = true) :
  (Instr.storeAt t (.pointer (some ⟨b, off, none⟩)) v).run P w = .ok () (w.setRow b (cur.toList.take off ++ v.cells.toList ++ cur.toList.drop (off + v.cells.toList.length)).toArray) := by
 obtain ⟨i, d, hi, hu, hd, hs⟩ := lyt_spec hl; have := run_storeCells_at P b off T v.cells.toList 0 cur w hb (by simp; omega) h1; simp only [Nat.add_zero] at this; simp only [Instr.storeAt, Instr.sureAddr, storeVar, Sem.run_bind, Sem.run_pure, Result.andThen_ok, sizeOf, typeInfo, run_program, hi, hs, hv, ne_eq, not_true_eq_false, if_false]; exact this
theorem sim_store (h : RelX w0 c S a w) (hd : o.dst = none) (t : TypeId) (x y : Operand) (ho : o.op = .store t x y) {g : Bool} {n : Nat} (hl : lyt P t = some (g, n)) (hK : storeK n S.m K (ez S x) (ez S y)) :
  o.wp P a w (fun a' w' => ∃ r m', K r m' ∧ Rel w0 (S.put o.dst r m') a' w') Q := by
 have hx := h.evs x; have hy := h.evs y
 have hex : ∀ w', (Instr.storeAt t (a.eval x) (a.eval y)).run P w = .ok () w' → (execOp a.eval o).run P w = .ok .skip w' := by
  intro w' hv; simp only [execOp, ho, Sem.run_bind, hv, Result.andThen_ok, Sem.run_pure]
 generalize ez S x = r at hx hK; generalize ez S y = r2 at hy hK; generalize a.eval x = v at hx hex; generalize a.eval y = v2 at hy hex; unfold storeK at hK
 split at hK
 ·rename_i k off ys hys
  split at hK
  ·rename_i cs hm
   obtain ⟨rfl, _⟩ := hx; obtain ⟨h1, h2, vs, T, hb, hf⟩ := h.mem k _ hm; obtain ⟨e1, e2, hK⟩ := hK; have hc := cellsOf_rel hy hys; have hlen := forall2_len hc; have hlen2 := forall2_len hf; simp only [Array.length_toList] at hlen hlen2; have hrun := run_store_gen (w := w) hl hb (v := v2) (off := off) (by omega) (by omega) (hc.one fun _ _ => RelC.one); refine sim_skip hd (hex _ hrun) (c' := ⟨c.β, c.ρ, c.X, c.n0⟩) (h.upd (ob' := .x (layC cs off ys)) hm (ρ' := c.ρ) (fun _ _ => rfl) trivial (fun _ _ _ _ _ _ _ _ e => by cases e) ?_ (by simp) (fun b _ hne => setRow_other w _ b _ fun e => hne (by rw [e]; rfl)) (fun b hb => .inl hb) fun hmon => ?_) hK
   ·exact below_setRow h.ext (by rw [← h.n0]; exact h1) _
   ·exact ⟨h1, h2, _, T, setRow_heap w _ _ _ T (0, 0) hb, by
     have := F2.layC (forall2_mono (fun _ _ => RelC.mon hmon) hf) (forall2_mono (fun _ _ => RelC.mon hmon) hc) off
     simpa using this⟩
  ·exact hK.elim
 ·rename_i k n' i off ys hys
  split at hK
  ·rename_i fr sz T xs fr' ds hm hsn
   obtain ⟨fr0, sz0, T0, xs0, h1, h2, h3, h4⟩ := hx; rw [hm] at h1
   injection h1 with h1
   injection h1 with e1 e2 e3 e4
   subst e1; subst e2; subst e3; subst e4
   obtain ⟨hnl, hyn, hle, hK⟩ := hK; obtain ⟨g', cap, hρ, rfl⟩ := h4 hnl; obtain ⟨h5, h6, h7, h8⟩ := h.mem k _ hm
   have hil : i < xs.length := by omega
   have hgd : xs.getD i [] = xs[i] := by simp [List.getD, hil]
   rw [hgd] at hle hK; have hel : xs[i].length = sz := h8 _ (List.getElem_mem hil); have hc := cellsOf_rel hy hys; have hlen := forall2_len hc; simp only [Array.length_toList] at hlen; have hds := snapDs_rel hc hsn
   have hdl : ds.length = n := by have := forall2_len hds; simp at this; omega
   obtain ⟨zs, q1, q2⟩ := h6
   rcases q1.2 with ⟨e, _⟩ | ⟨gg, cap', cur, hv, hbg, hg, hnc, hcm, hcs, htake⟩
   ·rw [hρ] at e; cases e
   rw [hρ] at hv
   injection hv with e1 e2 e3
   injection e1 with e1
   injection e1 with e1
   subst e1; have hzl : zs.length = xs.length * sz := q1.1
   have hisz : i * sz + sz ≤ xs.length * sz := by rw [← Nat.succ_mul]; exact Nat.mul_le_mul_right _ hil
   have hcap : xs.length * sz ≤ cap' * sz := Nat.mul_le_mul_right _ hnc; have hrun := run_store_gen (w := w) hl hg (v := v2) (off := i * sz + off) (by omega) (by omega) (hc.one fun _ _ => RelC.one); have hgX : ¬ c.X g' := h7 g' (by rw [hρ]; rfl); refine sim_skip hd (hex _ hrun) (c' := ⟨c.β, c.ρ, c.X, c.n0⟩) (h.upd (ob' := .r (fr && fr') sz T (xs.set i (layD xs[i] off ds))) hm (ρ' := c.ρ) (fun _ _ => rfl) ⟨rfl, rfl, by simp⟩ (fun _ _ _ _ _ _ _ _ _ _ _ => rfl) ?_ (by simp) (fun b _ hne => setRow_other w _ b _ fun e => hne (by show (c.ρ k).ownBlock = _; rw [hρ, e]; rfl)) (fun b hb => .inl hb) fun hmon => ?_) hK
   ·exact below_setRow h.ext (by rw [← h.n0]; exact hbg) _
   ·refine ⟨h5, ⟨zs.take (i * sz + off) ++ v2.cells.toList ++ zs.drop (i * sz + off + v2.cells.toList.length), ⟨by simp [hzl]; omega, .inr ⟨g', cap', _, by rw [hρ, e3]; simp [e2], hbg, setRow_heap w _ _ _ T (0, 0) hg, by simpa using hnc, hcm, by simp [hcs]; omega, ?_⟩⟩, ⟨by simp [hzl]; omega, fun j hj => ?_⟩⟩, h7, fun e he => ?_⟩
    ·have hcl : cur.toList.length = cap' * sz := by simpa using hcs
     rw [← htake, List.take_take, Nat.min_eq_left (by omega)]
     apply List.ext_getElem?
     intro j
     have vl : v2.cells.toList.length = n := by simp; omega
     simp only [List.length_set, List.getElem?_take, List.getElem?_append, List.length_take, List.length_append, List.getElem?_drop, hcl, vl]; simp only [Nat.min_eq_left (show i * sz + off ≤ cap' * sz by omega)]
     by_cases ht : j < xs.length * sz
     ·by_cases h1 : j < i * sz + off
      ·simp [ht, h1, show j < i * sz + off + n by omega]
      ·by_cases h2 : j < i * sz + off + n
       ·simp [ht, h1, h2]
       ·have e1 : i * sz + off + n + (j - (i * sz + off + n)) = j := by omega
        simp [ht, h2, e1]
     ·have e1 : i * sz + off + n + (j - (i * sz + off + n)) = j := by omega
      simp [ht, e1, show ¬ j < i * sz + off + n by omega]
    ·simp only [List.length_set] at hj; have hold := q2.2 j hj
     have hjsz : j * sz + sz ≤ xs.length * sz := by rw [← Nat.succ_mul]; exact Nat.mul_le_mul_right _ hj
     have vl : v2.cells.toList.length = n := by simp; omega
     by_cases e : i = j
     ·subst e; simp only [List.getElem_set_self]
      have e5 : List.take sz (List.drop (i * sz) (zs.take (i * sz + off) ++ v2.cells.toList ++ zs.drop (i * sz + off + v2.cells.toList.length))) = ((zs.drop (i * sz)).take sz).take off ++ v2.cells.toList ++ ((zs.drop (i * sz)).take sz).drop (off + v2.cells.toList.length) := by
       apply List.ext_getElem?
       intro t; simp only [List.getElem?_take, List.getElem?_append, List.length_take, List.length_append, List.getElem?_drop, List.length_drop, vl, hzl]; simp only [Nat.min_eq_left (show i * sz + off ≤ xs.length * sz by omega), Nat.min_eq_left (show sz ≤ xs.length * sz - i * sz by omega), Nat.min_eq_left (show off ≤ sz by omega)]
       by_cases ht : t < sz
       ·by_cases h1 : t < off
        ·simp [ht, h1, show i * sz + t < i * sz + off + n by omega, show t < off + n by omega]
        ·by_cases h2 : t < off + n
         ·have : i * sz + t - (i * sz + off) = t - off := by omega
          simp [ht, h1, h2, show i * sz + t < i * sz + off + n by omega, this]
         ·have e1 : i * sz + off + n + (i * sz + t - (i * sz + off + n)) = i * sz + t := by omega
          have e2 : off + n + (t - (off + n)) = t := by omega
          simp [ht, h2, show ¬ i * sz + t < i * sz + off + n by omega, e1, e2]
       ·simp [ht, show ¬ t < off + n by omega, show ¬ off + n + (t - (off + n)) < sz by omega]
      rw [e5]
      have k1 : ED (w.setRow g' (cur.toList.take (i * sz + off) ++ v2.cells.toList ++ cur.toList.drop (i * sz + off + v2.cells.toList.length)).toArray) (fun b => c.Y (fr && fr') b ∧ (c.ρ k).ownBlock ≠ some b) ((zs.drop (i * sz)).take sz) xs[i] := by
       refine forall2_mono (fun _ _ r => ?_) hold
       refine (r.widen (Y := fun b => c.Y (fr && fr') b ∧ (c.ρ k).ownBlock ≠ some b) fun b hb _ => ⟨hb.1.le (by simp; exact fun h _ => h), hb.2⟩).keep fun b hb hlt => setRow_other w _ b _ fun e => hb.2 (by rw [hρ, e]; rfl)
      have k2 : ED (w.setRow g' (cur.toList.take (i * sz + off) ++ v2.cells.toList ++ cur.toList.drop (i * sz + off + v2.cells.toList.length)).toArray) (fun b => c.Y (fr && fr') b ∧ (c.ρ k).ownBlock ≠ some b) v2.cells.toList ds := by
       refine forall2_mono (fun _ _ r => ?_) hds
       refine (r.widen (Y := fun b => c.Y (fr && fr') b ∧ (c.ρ k).ownBlock ≠ some b) fun b hb _ => ⟨hb.le (by simp), fun e => h7 b e hb.1⟩).keep fun b hb hlt => setRow_other w _ b _ fun e => hb.2 (by rw [hρ, e]; rfl)
      unfold layD
      have hvd : ds.length = v2.cells.toList.length := by omega
      rw [hvd]; exact forall2_app (forall2_app (forall2_take off k1) k2) (forall2_drop _ k1)
     ·rw [List.getElem_set_ne e]
      have e5 : List.take sz (List.drop (j * sz) (zs.take (i * sz + off) ++ v2.cells.toList ++ zs.drop (i * sz + off + v2.cells.toList.length))) = (zs.drop (j * sz)).take sz := by
       apply List.ext_getElem?
       intro t; simp only [List.getElem?_take, List.getElem?_append, List.length_take, List.length_append, List.getElem?_drop, vl, hzl]; simp only [Nat.min_eq_left (show i * sz + off ≤ xs.length * sz by omega)]
       by_cases ht : t < sz
       ·simp only [ht, if_true]
        rcases Nat.lt_or_gt_of_ne e with h1 | h1
        ·have : i * sz + sz ≤ j * sz := by rw [← Nat.succ_mul]; exact Nat.mul_le_mul_right _ h1
         have e1 : i * sz + off + n + (j * sz + t - (i * sz + off + n)) = j * sz + t := by omega
         simp [show ¬ j * sz + t < i * sz + off + n by omega, e1]
        ·have : j * sz + sz ≤ i * sz := by rw [← Nat.succ_mul]; exact Nat.mul_le_mul_right _ h1
         simp [show j * sz + t < i * sz + off + n by omega, show j * sz + t < i * sz + off by omega]
       ·simp [ht]
      rw [e5]; refine forall2_mono (fun _ _ r => ?_) hold
      exact (r.widen (Y := fun b => c.Y (fr && fr') b ∧ (c.ρ k).ownBlock ≠ some b) fun b hb _ => ⟨hb.1.le (by simp; exact fun h _ => h), hb.2⟩).keep fun b hb hlt => setRow_other w _ b _ fun e => hb.2 (by rw [hρ, e]; rfl)
    ·rcases List.mem_or_eq_of_mem_set he with he | he
     ·exact h8 e he
     ·subst he; unfold layD; simp
      omega
  ·exact hK.elim
 ·exact hK.elim
end

end Go.Proofs.YtbgifiijjjoebaaGreatDoor
