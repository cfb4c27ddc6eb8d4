/- What one operation does to the machine's memory (IV): slices, structs, new rows. No conditions. What one operation does to the machine's memory (V): appends, copies, conversions, lengths. No conditions. -/
import Derived.Test.YtbgifiijjjoebaaGreatDoorGNamesBn
namespace Go.Proofs.YtbgifiijjjoebaaGreatDoor.Cm
open Go Go.RowKit

section
variable {P : Program} {c : Cx} {N : Bp} {m : Mm} {w : World} {o : Oper} {a : Act} {f : Fm}
def OptR (c : Cx) (N : Bp) (v : Option Value) (x : Option SV) : Prop := match v, x with
 | none, none => True
 | some v, some x => RS c N v x
 | _, _ => False
theorem evo_rel {x : Option Operand} (h : ∀ y, x = some y → RS c N (a.eval y) (ev f y)) : OptR c N (x.map a.eval) (evo f x) := by
 cases x with
 | none => trivial
 | some y => exact h y rfl
theorem num_some {d : Nat} {v : Option Value} {x : Option SV} {n : Nat} (h : OptR c N v x) (hn : num d x = some n) : (v = none ∧ x = none ∧ n = d) ∨ ∃ k, v = some (.int k (n : Int)) ∧ x.isSome = true := by
 cases x with
 | none =>
  cases v with
  | none => exact .inl ⟨rfl, rfl, (Option.some.inj hn).symm⟩
  | some v => exact h.elim
 | some y =>
  cases v with
  | none => exact h.elim
  | some v =>
   obtain ⟨k, e⟩ := asN_rel h hn; exact .inr ⟨k, by rw [e], rfl⟩
theorem bounds_run {isS : Bool} {len cap x y z : Nat} {lo hi mx : Option Value} {rl rh rm : Option SV} (hl : OptR c N lo rl) (hh : OptR c N hi rh) (hm : OptR c N mx rm) (e1 : num 0 rl = some x) (e2 : num len rh = some y) (e3 : num cap rm = some z)
  (h1 : x ≤ y) (h2 : y ≤ z) (h3 : z ≤ cap) (hb : mxB rh rm = true) : (Instr.sliceBounds isS len cap lo hi mx).run P w = .ok (x, y, z) w := by
 have i1 : (x : Int) ≤ (y : Int) := by omega
 have i2 : (y : Int) ≤ (z : Int) := by omega
 have i3 : (z : Int) ≤ (cap : Int) := by omega
 have i4 : (y : Int) ≤ (cap : Int) := by omega
 rcases num_some hm e3 with ⟨rfl, rfl, rfl⟩ | ⟨k3, rfl, hms⟩
 ·rcases num_some hh e2 with ⟨rfl, rfl, rfl⟩ | ⟨k2, rfl, _⟩
  ·rcases num_some hl e1 with ⟨rfl, rfl, rfl⟩ | ⟨k1, rfl, _⟩
   ·simp [Instr.sliceBounds]
   ·simp [Instr.sliceBounds, Instr.sliceBound, asIntOf]
    intro hc; omega
  ·rcases num_some hl e1 with ⟨rfl, rfl, rfl⟩ | ⟨k1, rfl, _⟩
   ·simp [Instr.sliceBounds, Instr.sliceBound, asIntOf]
    intro hc; omega
   ·simp [Instr.sliceBounds, Instr.sliceBound, asIntOf, h1, h2]
 ·rcases num_some hh e2 with ⟨rfl, rfl, rfl⟩ | ⟨k2, rfl, _⟩
  ·cases rm with
   | none => cases hms
   | some r => cases hb
  ·rcases num_some hl e1 with ⟨rfl, rfl, rfl⟩ | ⟨k1, rfl, _⟩
   ·simp [Instr.sliceBounds, Instr.sliceBound, asIntOf, h2, h3]
   ·simp [Instr.sliceBounds, Instr.sliceBound, asIntOf, h1, h2, h3]
theorem slA_some {k : Bp} {q es : Nat} {x y z : Option Nat} {cap : Nat} {r : SV} (h : slA k q es x y z cap = some r) : ∃ i j l, x = some i ∧ y = some j ∧ z = some l ∧ i ≤ j ∧ j ≤ l ∧ l ≤ cap ∧ r = .c (.sl k (if i = l then q else q + i * es) (j - i) (l - i)) := by
 unfold slA at h
 split at h
 ·rename_i i j l
  generalize hC : (Nat.ble i j && Nat.ble j l && Nat.ble l cap) = C at h
  cases C with
  | false => cases h
  | true =>
   simp only [Bool.and_eq_true] at hC
   injection h with h
   refine ⟨i, j, l, rfl, rfl, rfl, Nat.le_of_ble_eq_true hC.1.1, Nat.le_of_ble_eq_true hC.1.2, Nat.le_of_ble_eq_true hC.2, ?_⟩; rw [← h]
   have : (bif Nat.beq i l then q else q + i * es) = if i = l then q else q + i * es := by
    cases hb : Nat.beq i l with
    | true => rw [if_pos (Nat.eq_of_beq_eq_true hb)]; rfl
    | false => rw [if_neg (Nat.ne_of_beq_eq_false hb)]; rfl
   show SV.c (.sl k (bif Nat.beq i l then q else q + i * es) (j - i) (l - i)) = _
   rw [this]
 ·cases h
theorem mkS_extract (l : List Nat) (i j : Nat) : (mkS l).extract i j = mkS ((l.take j).drop i) := by
 apply ByteArray.ext
 simp only [mkS, ByteArray.data_extract]
 apply Array.ext'
 simp [List.extract_eq_take_drop, List.drop_take, List.map_drop, List.map_take]
theorem s_slice (h : MR c N m w) (T : TypeId) (x : Operand) (lo hi mx : Option Operand) (ho : o.op = .slice T x lo hi mx) (hx : RS c N (a.eval x) (ev f x)) (hl : ∀ y, lo = some y → RS c N (a.eval y) (ev f y)) (hh : ∀ y, hi = some y → RS c N (a.eval y) (ev f y)) (hm : ∀ y, mx = some y → RS c N (a.eval y) (ev f y)) (call : CallF)
  (hf : (oSlice T x lo hi mx P call f m N).fine) : OpS P o a c N m w (oSlice T x lo hi mx P call f m N) := by
 have hR : oSlice T x lo hi mx P call f m N = okS m N (sliceS P T (evo f lo) (evo f hi) (evo f mx) (asC (ev f x))) := rfl; rw [hR] at hf ⊢; obtain ⟨r, hr, hok⟩ := okS_fine hf; rw [hok]; have ol := evo_rel hl; have oh := evo_rel hh; have om := evo_rel hm
 have hex : ∀ v, (Instr.sliceAt T (a.eval x) (lo.map a.eval) (hi.map a.eval) (mx.map a.eval)).run P w = .ok v w → (execOp a.eval o).run P w = .ok (.value v) w := fun v hv => by
  simp only [execOp, ho, Sem.run_bind, hv, Result.andThen_ok, Sem.run_pure]
 generalize evo f lo = rl at ol hr; generalize evo f hi = rh at oh hr; generalize evo f mx = rm at om hr; generalize lo.map a.eval = vl at ol hex; generalize hi.map a.eval = vh at oh hex; generalize mx.map a.eval = vm at om hex
 cases hz : asC (ev f x) with
 | none => rw [hz] at hr; cases hr
 | some z =>
  rw [hz] at hr; have h1 := asC_rel hx hz; have hr : (bif mxB rh rm then sliceC P T rl rh rm z else none) = some r := hr
  cases hb : mxB rh rm with
  | false => rw [hb] at hr; cases hr
  | true =>
   rw [hb] at hr; have hr : sliceC P T rl rh rm z = some r := hr
   cases z with
   | s l =>
    simp only [sliceC] at hr
    split at hr
    ·cases hT : strP P T with
     | false => rw [hT] at hr; cases hr
     | true =>
      rw [hT] at hr; have hr : slS l (num 0 rl) (num l.length rh) = some r := hr
      have hu : P.underlying T = some .string := by
       unfold strP at hT
       split at hT
       ·assumption
       ·cases hT
      obtain ⟨hv, h2, h3⟩ := h1; unfold slS at hr
      split at hr
      ·rename_i i j e1 e2
       generalize hC : (Nat.ble i j && Nat.ble j l.length) = C at hr
       cases C with
       | false => cases hr
       | true =>
        simp only [Bool.and_eq_true] at hC; have k1 := Nat.le_of_ble_eq_true hC.1; have k2 := Nat.le_of_ble_eq_true hC.2
        injection hr with hr; subst hr
        have om' : vm = none := by cases vm with | none => rfl | some v => exact om.elim
        subst om'; have hbr := bounds_run (P := P) (w := w) (isS := false) (len := (mkS l).size) (cap := (mkS l).size) ol oh (c := c) (N := N) (mx := none) (rm := none) (z := (mkS l).size) trivial e1 (by rw [mkS_size]; exact e2) rfl k1 (by rw [mkS_size]; exact k2) (Nat.le_refl _) hb; refine OpS.val h rfl (hex (.string ((mkS l).extract i j)) ?_) ⟨by rw [mkS_extract], ?_, fun q hq => h3 q (List.mem_of_mem_take (List.mem_of_mem_drop hq))⟩
        ·rw [hv]; simp [Instr.sliceAt, run_underlying hu, Instr.slice, hbr]
        ·simp only [List.length_drop, List.length_take]; omega
      ·cases hr
    ·cases hr
   | nl =>
    simp only [sliceC] at hr
    split at hr
    ·rename_i e he
     obtain ⟨i', zv, hu, hi', hs, _⟩ := eltP_spec he; have hv : a.eval x = .slice none 0 0 := h1; unfold slN at hr
     split at hr
     ·rename_i i j l e1 e2 e3
      cases hC : Nat.beq (i + j + l) 0 with
      | false => rw [hC] at hr; cases hr
      | true =>
       rw [hC] at hr
       injection hr with hr; subst hr
       have h0 := Nat.eq_of_beq_eq_true hC
       obtain rfl : i = 0 := by omega
       obtain rfl : j = 0 := by omega
       obtain rfl : l = 0 := by omega
       have hbr := bounds_run (P := P) (w := w) (isS := true) (len := 0) (cap := 0) ol oh om e1 e2 e3 (Nat.le_refl _) (Nat.le_refl _) (Nat.le_refl _) hb; refine OpS.val h rfl (hex (.slice none 0 0) ?_) rfl; rw [hv]; simp [Instr.sliceAt, run_underlying hu, Instr.slice, hbr, sizeOf, typeInfo, hi']
     ·cases hr
    ·cases hr
   | sl k q n cap =>
    simp only [sliceC] at hr
    cases he : eltP P T with
    | none => rw [he] at hr; cases hr
    | some e =>
     rw [he] at hr; have hr : slA k q e.s (num 0 rl) (num n rh) (num cap rm) cap = some r := hr; obtain ⟨i, j, l, e1, e2, e3, k1, k2, k3, rfl⟩ := slA_some hr; obtain ⟨i', zv, hu, hi', hs, _⟩ := eltP_spec he; obtain ⟨hN, hv, hnc, hcm⟩ := h1; have hbr := bounds_run (P := P) (w := w) (isS := true) (len := n) (cap := cap) ol oh om e1 e2 e3 k1 k2 k3 hb; refine OpS.val h rfl (hex (.slice (some ⟨c.b k, if i = l then q else q + i * e.s, none⟩) (j - i) (l - i)) ?_) ⟨hN, rfl, by omega, by omega⟩; rw [hv]; simp only [Instr.sliceAt, run_underlying hu, Instr.slice, hbr, sizeOf, typeInfo, hi', hs, Sem.run_bind, Sem.run_pure, Result.andThen_ok, run_program]
     by_cases hil : i = l
     ·simp [hil]
     ·simp [hil, Ne.symm hil, Addr.add_mid]
   | st k q n es =>
    simp only [sliceC] at hr
    cases he : eltP P T with
    | none => rw [he] at hr; cases hr
    | some e =>
     rw [he] at hr
     cases hes : Nat.beq es e.s with
     | false => simp only [hes] at hr; cases hr
     | true =>
      simp only [hes] at hr; have hes := Nat.eq_of_beq_eq_true hes; subst hes; have hr : slX k q n e.s rl rh rm = some r := hr; obtain ⟨i', zv, hu, hi', hs, _⟩ := eltP_spec he; obtain ⟨hN, hes0, cap, hv, hcap, hnc, hcm⟩ := h1
      cases rm with
      | none =>
       have hr : slT k q n e.s (num 0 rl) (num n rh) = some r := hr; unfold slT at hr
       split at hr
       ·rename_i i j e1 e2
        generalize hC : (Nat.ble i j && Nat.ble j n && Nat.blt i n) = C at hr
        cases C with
        | false => cases hr
        | true =>
         simp only [Bool.and_eq_true, blt_is, decide_eq_true_eq] at hC; have k1 := Nat.le_of_ble_eq_true hC.1.1; have k2 := Nat.le_of_ble_eq_true hC.1.2; have k3 := hC.2
         injection hr with hr; subst hr
         have hbr := bounds_run (P := P) (w := w) (isS := true) (len := n) (cap := cap) ol oh om e1 e2 (z := cap) rfl k1 (show j ≤ cap by omega) (Nat.le_refl _) hb
         have hne : ¬ (cap = i) := by omega
         refine OpS.val h rfl (hex (.slice (some ⟨c.b k, q + i * e.s, none⟩) (j - i) (cap - i)) ?_) ⟨hN, hes0, cap - i, rfl, ?_, show j - i ≤ cap - i by omega, by omega⟩
         ·rw [hv]; simp [Instr.sliceAt, run_underlying hu, Instr.slice, hbr, sizeOf, typeInfo, hi', hs, hne, Addr.add_mid]
         ·have hci : i + (cap - i) = cap := by omega
          show q + i * e.s + (cap - i) * e.s = c.s k
          rw [Nat.add_assoc, ← Nat.add_mul, hci]; exact hcap
       ·cases hr
      | some d =>
       have hr : slA k q e.s (num 0 rl) (num n rh) (asN d) n = some r := hr; obtain ⟨i, j, l, e1, e2, e3, k1, k2, k3, rfl⟩ := slA_some hr; have hbr := bounds_run (P := P) (w := w) (isS := true) (len := n) (cap := cap) ol oh om e1 e2 (z := l) e3 k1 k2 (by omega) hb; refine OpS.val h rfl (hex (.slice (some ⟨c.b k, if i = l then q else q + i * e.s, none⟩) (j - i) (l - i)) ?_) ⟨hN, rfl, by omega, by omega⟩; rw [hv]; simp only [Instr.sliceAt, run_underlying hu, Instr.slice, hbr, sizeOf, typeInfo, hi', hs, Sem.run_bind, Sem.run_pure, Result.andThen_ok, run_program]
       by_cases hil : i = l
       ·simp [hil]
       ·simp [hil, Ne.symm hil, Addr.add_mid]
   | p k q =>
    simp only [sliceC] at hr
    cases he : arrP P T with
    | none => rw [he] at hr; cases hr
    | some e =>
     rw [he] at hr; have hr : (bif Nat.ble e.1 1048576 then slA k q e.2 (num 0 rl) (num e.1 rh) (num e.1 rm) e.1 else none) = some r := hr
     cases hsm : Nat.ble e.1 1048576 with
     | false => rw [hsm] at hr; cases hr
     | true =>
      rw [hsm] at hr; have hsm := Nat.le_of_ble_eq_true hsm; obtain ⟨i, j, l, e1, e2, e3, k1, k2, k3, rfl⟩ := slA_some hr; obtain ⟨e', i', hu, hi', hs⟩ := arrP_spec he; obtain ⟨hN, hv⟩ := h1; have hbr := bounds_run (P := P) (w := w) (isS := false) (len := e.1) (cap := e.1) ol oh om e1 e2 e3 k1 k2 k3 hb; refine OpS.val h rfl (hex (.slice (some ⟨c.b k, if i = l then q else q + i * e.2, none⟩) (j - i) (l - i)) ?_) ⟨hN, rfl, by omega, by simp only [maxLen]; omega⟩; rw [hv]; simp only [Instr.sliceAt, run_underlying hu, Instr.sureAddr, hbr, sizeOf, typeInfo, hi', hs, Sem.run_bind, Sem.run_pure, Result.andThen_ok, run_program]
      by_cases hil : i = l
      ·simp [hil]
      ·simp [hil, Ne.symm hil, Addr.add_mid]
   | _ => cases hr

def CR (c : Cx) (N : Bp) (vs : Array Value) (n : Nat) (cs : Tr CV) : Prop := vs.size = n ∧ ∀ j x, j < n → cs.get (toB j) = some x → RC c N (vs.getD j undef) x
theorem newT_CR {vs : Array Value} {l : List CV} (h : F2 (RC c N) vs.toList l) : CR c N vs l.length (newT l) := by
 have hlen := forall2_len h; simp only [Array.length_toList] at hlen; refine ⟨hlen, fun j x hj hx => ?_⟩; rw [get_newT] at hx; have h1 := (List.getElem?_eq_some_iff.1 hx).1; have := forall2_get h j (by simp; omega) h1; rw [(List.getElem?_eq_some_iff.1 hx).2] at this
 have e : vs.getD j undef = vs.toList[j]'(by simp; omega) := by simp [Array.getD, show j < vs.size by omega]
 rw [e]; exact this
theorem getN_CR {vs : Array Value} {n : Nat} {cs : Tr CV} {l : List CV} (h : CR c N vs n cs) (hg : getN cs 0 n = some l) : F2 (RC c N) vs.toList l := by
 obtain ⟨h1, h2⟩ := getN_some hg
 refine forall2_of (by simp [h.1, h1]) fun i hi hi' => ?_
 have := h.2 i l[i] (by omega) (by have := h2 i hi'; rwa [Nat.zero_add] at this)
 have hlt : i < vs.size := by simpa using hi
 have e : vs.getD i undef = vs.toList[i] := by simp [Array.getD, hlt]
 rw [e] at this; exact this
theorem foldl_layA (vs : List Value) (off : Nat) (cs : Array Value) (_ : off + vs.length ≤ cs.size) : vs.toArray.zipIdx.foldl (fun cs (x : Value × Nat) => cs.setIfInBounds (off + x.2) x.1) cs = layA cs off vs := by
 have key : ∀ (vs : List Value) (j : Nat) (cs : Array Value), (vs.zipIdx j).foldl (fun cs (x : Value × Nat) => cs.setIfInBounds (off + x.2) x.1) cs = layA cs (off + j) vs := by
  intro vs
  induction vs with
  | nil => intro j cs; rfl
  | cons v r ih =>
   intro j cs; rw [List.zipIdx_cons, List.foldl_cons, ih]
   rfl
 rw [← Array.foldl_toList, Array.toList_zipIdx]; exact key vs 0 cs
theorem fill_rel (pl : Nat → Option (Nat × Nat)) {n : Nat} : ∀ (ps : List (Nat × Value)) (rs : List (Nat × SV)) (vs : Array Value) (cs cs' : Tr CV), F2 (fun p r => p.1 = r.1 ∧ RS c N p.2 r.2) ps rs → CR c N vs n cs → fillF pl n cs rs = some cs' →
  ∃ us, Instr.fill pl vs ps = some us ∧ CR c N us n cs'
 | [], _, vs, cs, cs', .nil, h, hK => by
  have : cs = cs' := Option.some.inj hK; subst this; exact ⟨vs, rfl, h⟩
 | (i, v) :: ps, _, vs, cs, cs', .cons (b := (i', r)) (m := rs) h1 h2, h, hK => by
  obtain ⟨rfl, hr⟩ := h1; have hK : fillS n cs (fun cs => fillF pl n cs rs) (pl i) (cellsOf r) = some cs' := hK; unfold fillS at hK
  split at hK
  ·rename_i q ys hp hy
   generalize hC : (Nat.beq ys.length q.2 && Nat.ble (Nat.add q.1 q.2) n) = C at hK
   cases C with
   | false => cases hK
   | true =>
    simp only [Bool.and_eq_true] at hC; have k1 := Nat.eq_of_beq_eq_true hC.1; have k2 : q.1 + q.2 ≤ n := Nat.le_of_ble_eq_true hC.2; have hK : fillF pl n (setL cs q.1 ys) rs = some cs' := hK; have hcs := cellsOf_rel hr hy; have l1 := forall2_len hcs; simp only [Array.length_toList] at l1; have hcsz := h.1; unfold Instr.fill; simp only [show pl i = some (q.1, q.2) from hp]; rw [if_neg (by simp; omega)]; have e := foldl_layA v.cells.toList q.1 vs (by simp; omega); simp only [Array.toArray_toList] at e; rw [e]; refine fill_rel pl ps rs _ _ _ h2 ⟨by rw [layA_size]; exact hcsz, fun j x hj hx => ?_⟩ hK; rw [layA_get _ _ _ _ (by simp; omega)]; rw [get_setL] at hx
    by_cases hin : q.1 ≤ j ∧ j < q.1 + ys.length
    ·rw [if_pos hin] at hx; rw [if_pos (by simp; omega)]; have hl := (List.getElem?_eq_some_iff.1 hx).1; have := forall2_get hcs (j - q.1) (by simp; omega) hl; rw [(List.getElem?_eq_some_iff.1 hx).2] at this
     have e : v.cells.toList.getD (j - q.1) undef = v.cells.toList[j - q.1]'(by simp; omega) := by simp [List.getD, show j - q.1 < v.cells.size by omega]
     rw [e]; exact this
    ·rw [if_neg hin] at hx; rw [if_neg (by simp; omega)]; exact h.2 j x hj hx
  ·cases hK
theorem evp_rel {l : List (Nat × Operand)} (h : ∀ p ∈ l, RS c N (a.eval p.2) (ev f p.2)) : F2 (fun (p : Nat × Value) (r : Nat × SV) => p.1 = r.1 ∧ RS c N p.2 r.2) (l.map fun (i, x) => (i, a.eval x)) (evp f l) := by
 induction l with
 | nil => exact .nil
 | cons p r ih => exact .cons ⟨rfl, h p List.mem_cons_self⟩ (ih fun q hq => h q (List.mem_cons_of_mem _ hq))
theorem s_build (h : MR c N m w) (T : TypeId) (ps : Array (Nat × Operand)) (ho : o.op = .build T ps) (hx : ∀ p ∈ ps.toList, RS c N (a.eval p.2) (ev f p.2)) (call : CallF) (hf : (oBuild T ps P call f m N).fine) : OpS P o a c N m w (oBuild T ps P call f m N) := by
 have hR : oBuild T ps P call f m N = okS m N (buildF (evp f ps.toList) (offP P T) (zeroC P T)) := rfl; rw [hR] at hf ⊢; obtain ⟨r, hr, hok⟩ := okS_fine hf; rw [hok]
 cases hq : offP P T with
 | none => rw [hq] at hr; cases hr
 | some offs =>
 cases hz : zeroC P T with
 | none => rw [hq, hz] at hr; cases hr
 | some z =>
  rw [hq, hz] at hr; have hr : bldG z.length (fillF (fun i => offs[i]?) z.length (newT z) (evp f ps.toList)) = some r := hr
  cases hfl : fillF (fun i => offs[i]?) z.length (newT z) (evp f ps.toList) with
  | none => rw [hfl] at hr; cases hr
  | some cs =>
   rw [hfl] at hr; have hr : ofL true (getN cs 0 z.length) = some r := hr; obtain ⟨xs, hxs, hg⟩ := ofL_some hr; obtain ⟨i, zv, hi, hzv, hzr⟩ := zeroC_spec hz; obtain ⟨us, h1, h2⟩ := fill_rel (c := c) (N := N) (fun i => offs[i]?) _ _ zv.cells _ _ (evp_rel hx) (newT_CR (hzr c N)) hfl; have h3 := getN_CR h2 hxs
   have hr2 : r = .g xs := by
    rcases hg with ⟨_, e⟩ | ⟨e, _⟩
    ·exact e
    ·cases e
   subst hr2; refine OpS.val h rfl (v := .agg us) ?_ ⟨us, rfl, h3⟩
   have hbt : P.built T (ps.map fun (i, x) => (i, a.eval x)).toList = some us := by
    unfold offP at hq
    split at hq
    ·rename_i fs hu
     unfold Program.built; simp only [hi, hu, hzv, hq]
     simpa using h1
    ·cases hq
   simp only [execOp, ho, Sem.run_bind, run_build w T _ us hbt, Result.andThen_ok, Sem.run_pure]
theorem Elt.ok_is {e : Elt} (h : e.ok = true) : 0 < e.s ∧ e.y ≤ 1048576 ∧ e.s ≤ 1048576 := by
 unfold Elt.ok at h; simp only [Bool.and_eq_true, blt_is, decide_eq_true_eq] at h; exact ⟨h.1.1, Nat.le_of_ble_eq_true h.1.2, Nat.le_of_ble_eq_true h.2⟩
theorem rep_len (z : List CV) : ∀ n : Nat, (rep z n).length = n * z.length
 | 0 => by
  show ([] : List CV).length = _
  simp
 | n + 1 => by
  show (z ++ rep z n).length = _
  rw [List.length_append, rep_len z n, Nat.succ_mul, Nat.add_comm]
theorem rep_get (z : List CV) : ∀ (n j : Nat), j < n * z.length → (rep z n)[j]? = z[j % z.length]?
 | 0, j, h => by simp at h
 | n + 1, j, h => by
  show (z ++ rep z n)[j]? = _
  rw [Nat.succ_mul] at h
  by_cases hj : j < z.length
  ·rw [List.getElem?_append_left hj, Nat.mod_eq_of_lt hj]
  ·rw [List.getElem?_append_right (by omega), rep_get z n (j - z.length) (by omega), ← Nat.mod_eq_sub_mod (by omega)]
theorem rep_rel {z : Array Value} {l : List CV} (h : F2 (RC c N) z.toList l) (h0 : 0 < l.length) (n : Nat) : F2 (RC c N) ((Array.range (n * l.length)).map (z[· % z.size]!)).toList (rep l n) := by
 have hlen := forall2_len h; simp only [Array.length_toList] at hlen
 refine forall2_of (by simp [rep_len]) fun j hj hj' => ?_
 rw [rep_len] at hj'; have hm : j % l.length < l.length := Nat.mod_lt _ h0; have e1 := rep_get l n j hj'
 have e2 : (rep l n)[j]'(by rw [rep_len]; exact hj') = l[j % l.length] := by
  have h3 : j < (rep l n).length := by rw [rep_len]; exact hj'
  rw [List.getElem?_eq_getElem h3, List.getElem?_eq_getElem hm] at e1; exact Option.some.inj e1
 rw [e2]
 have e3 : ((Array.range (n * l.length)).map (z[· % z.size]!)).toList[j] = z.toList[j % l.length]'(by simp; omega) := by
  simp [hlen, getElem!_pos z (j % l.length) (by omega)]
 rw [e3]; exact forall2_get h _ _ hm
theorem new_r (h : MR c N m w) (T : TypeId) {vs : Array Value} {n : Nat} {cs : Tr CV} (hc : CR c N vs n cs) (len : Nat) (hlen : len ≤ maxLen) {w0 : World} (hw : w0.heap = w.heap) (ho : w0.os = w.os ∧ w0.tape = w.tape ∧ w0.output = w.output) :
  Post c N m w ⟨.c (.sl N 0 len len), m.upd N (some (.x false T n cs)), N.inc⟩ (.slice (some ⟨w.heap.size, 0, none⟩) len len) (w0.alloc (.cells vs T)) := by
 have hsz : w0.heap.size = w.heap.size := by rw [hw]
 obtain ⟨h1, h2⟩ := hc
 have := h.new (w' := w0.alloc (.cells vs T)) (ob := .x false T n cs) w.heap.size vs.size ho (Nat.le_refl _) (by simp [hsz]) (fun j hj => by rw [heap_alloc_old w0 _ (by omega), hw])
  ⟨vs, (0, 0), by rw [new_b, ← hsz]; exact heap_alloc_new w0 _, by rw [new_s], by omega, fun _ => h1.symm, fun j _ => by simp, fun j x hj hx => RC.mon (mon_new c N _ _) (h2 j x hj hx)⟩
 exact ⟨_, ⟨new_l c N _ _, by rw [new_b], Nat.le_refl _, hlen⟩, this.1, this.2⟩
theorem s_row (h : MR c N m w) (T : TypeId) (len : Nat) (ps : Array (Nat × Operand)) (ho : o.op = .buildSlice T len ps) (hx : ∀ p ∈ ps.toList, RS c N (a.eval p.2) (ev f p.2)) (call : CallF) (hf : (oBuildSlice T len ps P call f m N).fine) : OpS P o a c N m w (oBuildSlice T len ps P call f m N) := by
 have hR : oBuildSlice T len ps P call f m N = bsF P len (evp f ps.toList) m N (eltP P T) := rfl; rw [hR] at hf ⊢
 cases he : eltP P T with
 | none => rw [he] at hf; exact hf.elim
 | some e =>
 rw [he] at hf; have hf : (bsZ len (evp f ps.toList) m N e (zeroC P e.e)).fine := hf
 cases hz : zeroC P e.e with
 | none => rw [hz] at hf; exact hf.elim
 | some z =>
  rw [hz] at hf
  have hbs : bsF P len (evp f ps.toList) m N (some e) = (bif e.ok && Nat.beq z.length e.s && Nat.ble (Nat.mul len e.s) 16777216 then bsT m N e.e len e.s (fillF (fun i => some (Nat.mul i e.s, e.s)) (Nat.mul len e.s) (newT (rep z len)) (evp f ps.toList)) else .no []) := by
   show bsZ len (evp f ps.toList) m N e (zeroC P e.e) = _
   rw [hz]; rfl
  rw [hbs]; have hf : (bif e.ok && Nat.beq z.length e.s && Nat.ble (Nat.mul len e.s) 16777216 then bsT m N e.e len e.s (fillF (fun i => some (Nat.mul i e.s, e.s)) (Nat.mul len e.s) (newT (rep z len)) (evp f ps.toList)) else .no []).fine := hf; generalize hC : (e.ok && Nat.beq z.length e.s && Nat.ble (Nat.mul len e.s) 16777216) = C at hf
  cases C with
  | false => exact hf.elim
  | true =>
   simp only [Bool.and_eq_true] at hC; obtain ⟨k1, k2, k3⟩ := Elt.ok_is hC.1.1; have k4 := Nat.eq_of_beq_eq_true hC.1.2; have k5 : len * e.s ≤ 16777216 := Nat.le_of_ble_eq_true hC.2
   cases hfl : fillF (fun i => some (Nat.mul i e.s, e.s)) (Nat.mul len e.s) (newT (rep z len)) (evp f ps.toList) with
   | none => rw [hfl] at hf; exact hf.elim
   | some cs =>
    obtain ⟨i, zv, hu, hi, hs, _, hzv⟩ := eltP_spec he; obtain ⟨i2, zv2, hi2, hzv2, hzr⟩ := zeroC_spec hz; rw [hi] at hi2
    injection hi2 with hi2; subst hi2
    rw [hzv] at hzv2
    injection hzv2 with hzv2; subst hzv2
    have hzl := forall2_len (hzr c N); simp only [Array.length_toList] at hzl; have hcr := newT_CR (rep_rel (hzr c N) (by omega) len); rw [rep_len, k4] at hcr; obtain ⟨us, h1, h2⟩ := fill_rel (c := c) (N := N) (fun i => some (Nat.mul i e.s, e.s)) _ _ _ _ _ (evp_rel hx) hcr hfl
    have hlm : len ≤ maxLen := by
     have : len * 1 ≤ len * e.s := Nat.mul_le_mul_left _ k1
     simp only [maxLen]; omega
    refine OpS.loud (by simp [ho, opC]) ⟨_, .slice (some ⟨w.heap.size, 0, none⟩) len len, w.alloc (.cells us e.e), rfl, .inl ?_, new_r h e.e h2 len hlm (w0 := w) rfl ⟨rfl, rfl, rfl⟩⟩
    have hfi : Instr.fill (fun j => some (j * i.size, i.size)) ((Array.range (len * i.size)).map (zv.cells[· % zv.cells.size]!)) (ps.map fun (i, x) => (i, a.eval x)).toList = some us := by
     rw [hs, Array.toList_map]; exact h1
    by_cases h00 : len * i.size = 0
    ·have hl0 : len = 0 := by
      rcases Nat.mul_eq_zero.1 h00 with h | h
      ·exact h
      ·omega
     subst hl0; simp only [execOp, ho, Instr.buildSlice, run_underlying hu, sizeOf, typeInfo, hi, Sem.run_bind, Sem.run_pure, Result.andThen_ok, run_program, Nat.zero_mul, if_true]
     have hfi0 : Instr.fill (fun j => some (j * i.size, i.size)) ((Array.range 0).map ((#[] : Array Value)[· % (#[] : Array Value).size]!)) (ps.map fun (i, x) => (i, a.eval x)).toList = some us := by
      have he : ∀ g : Nat → Value, (Array.range 0).map g = #[] := fun g => Array.eq_empty_of_size_eq_zero (by simp)
      rw [Nat.zero_mul, he] at hfi
      rw [he]; exact hfi
     rw [if_neg (by omega)]; simp only [Sem.run_bind, Sem.run_pure, Result.andThen_ok, hfi0]; simp [newRow]
    ·simp only [execOp, ho, Sem.run_bind]; rw [run_buildSlice w T e.e len _ us i zv hu hi hzv (by rw [hs]; omega) h00 hfi]
     rfl
theorem s_make (h : MR c N m w) (T : TypeId) (l q : Operand) (ho : o.op = .makeSlice T l q) (hl : RS c N (a.eval l) (ev f l)) (hq : RS c N (a.eval q) (ev f q)) (call : CallF) (hf : (oMakeSlice T l q P call f m N).fine) : OpS P o a c N m w (oMakeSlice T l q P call f m N) := by
 have hR : oMakeSlice T l q P call f m N = mkF P m N (eltP P T) (asN (ev f l)) (asN (ev f q)) := rfl; rw [hR] at hf ⊢
 cases he : eltP P T with
 | none => rw [he] at hf; exact hf.elim
 | some e =>
 cases h1 : asN (ev f l) with
 | none => rw [he, h1] at hf; exact hf.elim
 | some x =>
 cases h2 : asN (ev f q) with
 | none => rw [he, h1, h2] at hf; exact hf.elim
 | some y =>
 rw [he, h1, h2] at hf; have hf : (mkZ m N e x y (zeroC P e.e)).fine := hf
 cases hz : zeroC P e.e with
 | none => rw [hz] at hf; exact hf.elim
 | some z =>
  rw [hz] at hf
  have hmk : mkF P m N (some e) (some x) (some y) = (bif e.ok && Nat.beq z.length e.s && Nat.beq x y && Nat.ble y 1048576 then .one ⟨.c (.sl N 0 x y), m.upd N (some (.x false e.e (Nat.mul y e.s) (newT (rep z y)))), N.inc⟩ else .no []) := by
   show mkZ m N e x y (zeroC P e.e) = _
   rw [hz]; rfl
  rw [hmk]; have hf : (bif e.ok && Nat.beq z.length e.s && Nat.beq x y && Nat.ble y 1048576 then (.one ⟨.c (.sl N 0 x y), m.upd N (some (.x false e.e (Nat.mul y e.s) (newT (rep z y)))), N.inc⟩ : Res) else .no []).fine := hf; generalize hC : (e.ok && Nat.beq z.length e.s && Nat.beq x y && Nat.ble y 1048576) = C at hf
  cases C with
  | false => exact hf.elim
  | true =>
   simp only [Bool.and_eq_true] at hC; obtain ⟨k1, k2, k3⟩ := Elt.ok_is hC.1.1.1; have k4 := Nat.eq_of_beq_eq_true hC.1.1.2; have k5 := Nat.eq_of_beq_eq_true hC.1.2; have k6 := Nat.le_of_ble_eq_true hC.2; subst k5; obtain ⟨i, zv, hu, hi, hs, hby, hzv⟩ := eltP_spec he; obtain ⟨i2, zv2, hi2, hzv2, hzr⟩ := zeroC_spec hz; rw [hi] at hi2
   injection hi2 with hi2; subst hi2
   rw [hzv] at hzv2
   injection hzv2 with hzv2; subst hzv2
   obtain ⟨j1, e1⟩ := asN_rel hl h1; obtain ⟨j2, e2⟩ := asN_rel hq h2; have hcr := newT_CR (rep_rel (hzr c N) (by omega) x); rw [rep_len, k4] at hcr
   obtain ⟨w', hrun, hown, hg⟩ := run_make_full (P := P) w 0 T e.e i zv i.size hu hi hzv rfl j1 j2 x (by
    have : x * e.y ≤ 1048576 * 1048576 := Nat.mul_le_mul k6 k2
    rw [hby, Nat.mul_comm]; omega) (by simp only [maxLen]; omega) (Nat.zero_le _)
   refine OpS.loud (by simp [ho, opC]) ⟨_, .slice (some ⟨w.heap.size, 0, none⟩) x x, w', rfl, .inl ?_, ?_⟩
   ·simp only [execOp, ho, e1, e2, Sem.run_bind, hrun, Result.andThen_ok, Sem.run_pure]
   ·rcases hown.2 with ⟨hc0, _⟩ | ⟨g, cap, cur, hv, _, hg1, hnc, hcm, hcs, htk⟩
    ·cases hc0
    ·injection hv with q1 q2 q3
     injection q1 with q1
     injection q1 with q1
     subst q1; subst q3
     have hcur : cur = madeCells zv.cells (x * i.size) := by
      apply Array.ext'
      have : cur.toList.length = x * i.size := by simpa using hcs
      rw [← htk, List.take_of_length_le (by omega)]
     have hxs : cur.size = Nat.mul x e.s := by rw [hcs, hs]; rfl
     have := h.new (w' := w') (ob := .x false e.e (Nat.mul x e.s) (newT (rep z x))) w.heap.size (Nat.mul x e.s) ⟨hg.os, hg.tape, hg.output⟩ (Nat.le_refl _) hg.size (fun j hj => hg.block j hj (by simp))
      ⟨cur, (0, 0), by rw [new_b]; exact hg1, by rw [new_s]; exact hxs, by rw [hxs]; exact Nat.le_refl _, fun _ => hxs.symm, fun j _ => by simp, fun j y hj hy => RC.mon (mon_new c N _ _) (by
       have := hcr.2 j y hj hy
       rw [hcur, hs]; exact this)⟩
     exact ⟨_, ⟨new_l c N _ _, by rw [new_b], Nat.le_refl _, by simp only [maxLen]; omega⟩, this.1, this.2⟩
theorem s_map (h : MR c N m w) (T : TypeId) (r : Option Operand) (ho : o.op = .makeMap T r) (hr : ∀ y, r = some y → ∃ n, asN (ev f y) = some n) (ht : r.isSome = true → ∃ k e, P.underlying T = some (.map k e)) (hx : ∀ y, r = some y → RS c N (a.eval y) (ev f y)) : ∃ v w', (execOp a.eval o).run P w = .ok (.value v) w' ∧ Post c N m w ⟨.c (.m N), m.upd N (some (.m [])), N.inc⟩ v w' := by
 have hnew := h.new (w' := w.alloc (.map #[] 0)) (ob := .m []) w.heap.size 0 ⟨rfl, rfl, rfl⟩ (Nat.le_refl _) (by simp) (fun j hj => heap_alloc_old w _ (by omega)) ⟨#[], by rw [new_b]; exact heap_alloc_new w _, rfl, .nil⟩; refine ⟨.map (some w.heap.size), w.alloc (.map #[] 0), ?_, _, ⟨new_l c N _ _, by rw [new_b]⟩, hnew.1, hnew.2⟩
 cases r with
 | none => simp [execOp, ho, Instr.makeMap]
 | some y =>
  obtain ⟨n, hn⟩ := hr y rfl; obtain ⟨k, e⟩ := asN_rel (hx y rfl) hn; obtain ⟨kt, et, hu⟩ := ht rfl; simp [execOp, ho, Instr.makeMap, run_underlying hu, e, asInt, asIntOf]
end
end Go.Proofs.YtbgifiijjjoebaaGreatDoor.Cm

namespace Go.Proofs.YtbgifiijjjoebaaGreatDoor.Cm
open Go Go.RowKit

section
variable {P : Program} {c : Cx} {N : Bp} {m : Mm} {w : World} {o : Oper} {a : Act} {f : Fm}
theorem Fr.up {c c' : Cx} {N N' : Bp} {m m1 m' : Mm} {w w' : World} (h : Fr c N m1 w c' N' m' w') (hs : ∀ k ob, m1.get k = some ob → m.get k = some ob) : Fr c N m w c' N' m' w' :=
 ⟨h.mon, h.os, h.tape, h.output, h.size, fun b hb hn => h.blk b hb fun k ob hk => hn k ob (hs k ob hk), fun k ob hk => (h.own k ob hk).imp (fun ⟨j, x, hj, e⟩ => ⟨j, x, hs j x hj, e⟩) id, h.tb⟩
theorem byte_cells (l : List Nat) (h : ∀ x ∈ l, x < 256) : F2 (RC c N) (byteCells (mkS l)) (u8s l) := by
 unfold byteCells u8s mkS; simp only [List.map_map]
 induction l with
 | nil => exact .nil
 | cons x r ih =>
  refine .cons ?_ (ih fun y hy => h y (List.mem_cons_of_mem _ hy)); have := h x List.mem_cons_self
  show Value.int .u8 ((UInt8.ofNat x).toNat : Int) = .int .u8 (x : Int)
  rw [show (UInt8.ofNat x).toNat = x by simp only [UInt8.toNat_ofNat']; omega]
theorem first_at {b q n sz cp : Nat} {vs : List Value} (hl : vs.length = n * sz) (hr : w.rangeAt b q vs) (w' : World) (hw : w'.heap = w.heap) : (Builtin.firstCells sz n (.slice (some ⟨b, q, none⟩) n cp)).run P w' = .ok vs.toArray w' :=
 run_firstCells_some w' sz n ⟨b, q, none⟩ n cp vs hl fun j v hj => by
  have := hr j v hj; rw [Addr.add_mid]
  simpa [World.cell?, hw] using this
theorem src_rel (h : MR c N m w) {tx : TypeId} (hk : sliB P tx = true) {es : Nat} {v : Value} {x : SV} {n : Nat} {l : List CV} (hx : RS c N v x) (hs : srcF m es x = some (n, l)) :
  l.length = n * es ∧ ∃ news, Src P es tx v n news w ∧ F2 (RC c N) news l := by
 have kind : (∃ e', P.underlying tx = some (.slice e')) ∨ P.underlying tx = some .string := by
  unfold sliB at hk
  split at hk
  ·exact .inl ⟨_, ‹_›⟩
  ·exact .inr ‹_›
  ·cases hk
 have row : ∀ (k : Bp) (q cp : Nat), v = .slice (some ⟨c.b k, q, none⟩) n cp → ldC m k q (n * es) = some l → l.length = n * es ∧ ∃ news, Src P es tx v n news w ∧ F2 (RC c N) news l := fun k q cp hv hl => by
  obtain ⟨h1, vs, h2, h3, h4⟩ := ldC_rel h hl; subst hv; refine ⟨h1, vs, ⟨kind, fun _ => rfl, first_at h2 h3 w rfl, first_at h2 h3 w.drew rfl, h2, fun u hu => ?_⟩, h4⟩; obtain ⟨i, hi, rfl⟩ := List.getElem_of_mem hu; exact RC.one (forall2_get h4 i hi (by rw [← forall2_len h4]; exact hi))
 cases x with
 | c y =>
  have hs : srcC m es y = some (n, l) := hs
  cases y with
  | nl =>
   injection hs with hs
   injection hs with e1 e2
   subst e1; subst e2
   have hv : v = .slice none 0 0 := hx; subst hv; exact ⟨by simp, [], ⟨kind, fun _ => rfl, run_firstCells_none w es 0 0 0, run_firstCells_none w.drew es 0 0 0, by simp, fun _ h => by cases h⟩, .nil⟩
  | sl k q n' cp =>
   have hs : srcL n' (ldC m k q (n' * es)) = some (n, l) := hs
   cases hl : ldC m k q (n' * es) with
   | none => rw [hl] at hs; cases hs
   | some l' =>
    rw [hl] at hs
    injection hs with hs
    injection hs with e1 e2
    subst e1; subst e2
    exact row k q cp hx.2.1 hl
  | st k q n' es' =>
   have hs : srcL n' (ldC m k q (n' * es)) = some (n, l) := hs
   cases hl : ldC m k q (n' * es) with
   | none => rw [hl] at hs; cases hs
   | some l' =>
    rw [hl] at hs
    injection hs with hs
    injection hs with e1 e2
    subst e1; subst e2
    obtain ⟨_, _, cp, hv, _⟩ := hx; exact row k q cp hv hl
  | s t =>
   have hs : (bif Nat.beq es 1 then some (t.length, u8s t) else none) = some (n, l) := hs
   cases hb : Nat.beq es 1 with
   | false => rw [hb] at hs; cases hs
   | true =>
    rw [hb] at hs
    injection hs with hs
    injection hs with e1 e2
    subst e1; subst e2
    have h1 := Nat.eq_of_beq_eq_true hb; subst h1; obtain ⟨rfl, _, h3⟩ := hx; have hsz := mkS_size t; refine ⟨by simp [u8s], byteCells (mkS t), ?_, byte_cells t h3⟩; have h4 := firstCells_string (P := P) (mkS t) w; have h5 := firstCells_string (P := P) (mkS t) w.drew; rw [hsz] at h4 h5
    exact ⟨kind, fun _ => by simp [Builtin.lenOf, hsz], h4, h5, by rw [byteCells_length, hsz, Nat.mul_one], fun u hu => by
     obtain ⟨_, _, rfl⟩ := List.mem_map.1 hu
     rfl⟩
  | _ => cases hs
 | _ => cases hs
theorem grown_rel (h : MR c N m w) {e : TypeId} {es n cp : Nat} {z : Value} (hz : z.cells.size = es) {vs : List Value} {l : List CV} (hv : F2 (RC c N) vs l) (hl : l.length = n * es) (h0 : 0 < es) (hn : n ≤ cp) (hcp : cp ≤ maxLen) :
  Post c N m w ⟨.c (.st N 0 n es), m.upd N (some (.x true e (n * es) (newT l))), N.inc⟩ (.slice (some ⟨w.heap.size, 0, none⟩) n cp) (w.drew.alloc (.cells (vs.toArray ++ Builtin.zeroCells z.cells (cp - n)) e)) := by
 have hlen := forall2_len hv
 have hsz : (vs.toArray ++ Builtin.zeroCells z.cells (cp - n)).size = cp * es := by
  rw [Array.size_append, size_zeroCells, hz]; simp only [List.size_toArray]
  rw [hlen, hl, ← Nat.add_mul]; congr 1; omega
 have hle : n * es ≤ cp * es := Nat.mul_le_mul_right _ hn
 have := h.new (w' := w.drew.alloc (.cells (vs.toArray ++ Builtin.zeroCells z.cells (cp - n)) e)) (ob := .x true e (n * es) (newT l)) w.heap.size (cp * es) ⟨rfl, rfl, rfl⟩ (Nat.le_refl _) (by simp) (fun j hj => heap_alloc_old w.drew _ hj)
  ⟨_, (0, 0), by rw [new_b]; exact heap_alloc_new w.drew _, by rw [new_s]; exact hsz, by rw [hsz]; exact hle, (fun h => by cases h), fun j _ => by simp, fun j x hj hx => by
   rw [get_newT] at hx; have h1 := (List.getElem?_eq_some_iff.1 hx).1; have h2 := forall2_get hv j (by omega) h1; rw [(List.getElem?_eq_some_iff.1 hx).2] at h2
   have h3 : (vs.toArray ++ Builtin.zeroCells z.cells (cp - n)).getD j undef = vs[j]'(by omega) := by
    rw [Array.getD_eq_getD_getElem?, Array.getElem?_append_left (by simp; omega)]; simp [show j < vs.length by omega]
   rw [h3]
   exact RC.mon (mon_new c N _ _) h2⟩
 exact ⟨_, ⟨new_l c N _ _, h0, cp, by rw [new_b], by rw [new_s]; omega, hn, hcp⟩, this.1, this.2⟩
theorem s_app (h : MR c N m w) (t u _ : TypeId) (s x : Operand) (ho : o.op = .call { callee := .builtin .append, args := #[s, x], argTypes := #[t, u] }) (hs : RS c N (a.eval s) (ev f s)) (hx : RS c N (a.eval x) (ev f x)) (_ : CallF)
  (hf : (bApp (elt1 P [t, u]) [ev f s, ev f x] m N).fine) : OpS P o a c N m w (bApp (elt1 P [t, u]) [ev f s, ev f x] m N) := by
 have hex : ∀ v w', (Builtin.append_ #[t, u] o.type #[a.eval s, a.eval x]).run P w = .ok v w' → (execOp a.eval o).run P w = .ok (.value v) w' := fun v w' hv => by
  simp only [execOp, ho, resolve, invoke, builtin, Sem.run_bind, Sem.run_pure, Result.andThen_ok, List.map_toArray, List.map_cons, List.map_nil, hv]
 generalize a.eval s = vs at hs hex; generalize a.eval x = vx at hx hex; generalize ev f s = S at hs hf ⊢; generalize ev f x = X at hx hf ⊢
 have hel : elt1 P [t, u] = bif sliB P u then eltP P t else none := rfl
 cases hk : sliB P u with
 | false => rw [hel, hk] at hf; exact hf.elim
 | true =>
 rw [hel, hk] at hf ⊢
 cases he : eltP P t with
 | none => rw [he] at hf; exact hf.elim
 | some e =>
  rw [he] at hf; have hf : (appF m N e S (srcF m e.s X)).fine := hf
  show OpS P o a c N m w (appF m N e S (srcF m e.s X))
  cases hsrc : srcF m e.s X with
  | none => rw [hsrc] at hf; exact hf.elim
  | some q =>
   obtain ⟨n', l⟩ := q; rw [hsrc] at hf; have hf : (bif e.ok && Nat.ble n' 1048576 then okR (appS m N e n' l S) else .no []).fine := hf
   show OpS P o a c N m w (bif e.ok && Nat.ble n' 1048576 then okR (appS m N e n' l S) else .no [])
   cases hC : (e.ok && Nat.ble n' 1048576) with
   | false => rw [hC] at hf; exact hf.elim
   | true =>
    rw [hC] at hf; simp only [Bool.and_eq_true] at hC; obtain ⟨k1, k2, k3⟩ := Elt.ok_is hC.1; have k4 := Nat.le_of_ble_eq_true hC.2; obtain ⟨i, z, hu, hi, his, hib, hz, hzs⟩ := eltP_spec' he
    show OpS P o a c N m w (okR (appS m N e n' l S))
    cases hap : appS m N e n' l S with
    | none => rw [hap] at hf; exact hf.elim
    | some r =>
    obtain ⟨g1, news, g2, g3⟩ := src_rel h hk hx hsrc
    have g2' : Src P i.size u vx n' news w := by rw [his]; exact g2
    have fin : ∀ v w', (Builtin.append_ #[t, u] o.type #[vs, vx]).run P w = .ok v w' → Post c N m w r v w' → OpS P o a c N m w (okR (some r)) := fun v w' h1 h2 => OpS.loud (by simp [ho, opC, calC, bltC]) ⟨r, v, w', rfl, .inl (hex v w' h1), h2⟩
    have hkn : (∃ e', P.underlying u = some (.slice e')) ∨ P.underlying u = some .string := g2.kind
    have grow_ : ∀ (base : Option Addr) (n cap : Nat) (old : List CV) (olds : List Value), vs = .slice base n cap → (Builtin.firstCells i.size n (.slice base n cap)).run P w.drew = .ok olds.toArray w.drew → F2 (RC c N) olds old → old.length = n * e.s → cap < n + n' → n ≤ 1048576 → cap ≤ 1048576 →
      r = ⟨.c (.st N 0 (n + n') e.s), m.upd N (some (.x true e.e ((n + n') * e.s) (newT (old ++ l)))), N.inc⟩ → OpS P o a c N m w (okR (some r)) := fun base n cap old olds hv hfc hold hol hlt hn hcap hr => by
     have hby : (n + n') * i.bytes ≤ 140737488355328 := by
      have : (n + n') * i.bytes ≤ 2097152 * 1048576 := Nat.mul_le_mul (by omega) (by omega)
      omega
     have hrun := run_append_grow_src (P := P) w t u o.type e.e i z hu hi hz base n cap olds hfc vx n' news g2' hlt (by omega) (growslice_fits hlt hby); subst hr; refine fin _ _ (by rw [hv]; exact hrun) ?_; have hq := grownCap_ge w (n + n') cap e.e; have hm2 := grownCap_le_maxLen w (n + n') cap e.e (by simp only [maxLen]; omega); exact grown_rel h hzs (forall2_app hold g3) (by rw [List.length_append, hol, g1, ← Nat.add_mul]) k1 hq hm2
    have room_ : ∀ (b q n cap : Nat), vs = .slice (some ⟨b, q, none⟩) n cap → n + n' ≤ cap → (∀ j, j < news.length → (w.cell? ⟨b, q + n * e.s + j, none⟩).isSome = true) → (∀ j, j < news.length → w.frozen? ⟨b, q + n * e.s + j, none⟩ = false) →
      Post c N m w r (.slice (some ⟨b, q, none⟩) (n + n') cap) (w.setCells b (q + n * e.s) news) → OpS P o a c N m w (okR (some r)) := fun b q n cap hv hroom hc hz hp => by
     have hrun := run_append_room_src (P := P) w t u o.type e.e i hu hi b q n cap vx n' news g2' hroom (by rw [his]; exact hc) (by rw [his]; exact hz); rw [his] at hrun; exact fin _ _ (by rw [hv]; exact hrun) hp
    cases S with
    | c y =>
     replace hap : appC m N e n' l y = some r := hap
     cases y with
     | nl =>
      have hv : vs = .slice none 0 0 := hs
      replace hap : (bif Nat.beq n' 0 then some (⟨.c .nl, m, N⟩ : Rt) else grow m N e.e n' e.s l (some [])) = some r := hap
      cases hb : Nat.beq n' 0 with
      | true =>
       rw [hb] at hap
       replace hap := Option.some.inj hap
       have h0 := Nat.eq_of_beq_eq_true hb; subst h0; subst hap; refine fin (.slice none 0 0) w ?_ (Post.same h rfl); rw [hv]
       rcases hkn with ⟨e', hkn⟩ | hkn <;> simp [Builtin.append_, run_underlying hu, run_underlying hkn, sizeOf, typeInfo, hi, g2'.len, g2'.cells]
      | false =>
       rw [hb] at hap; have h0 := Nat.ne_of_beq_eq_false hb
       replace hap : some (⟨.c (.st N 0 n' e.s), m.upd N (some (.x true e.e (n' * e.s) (newT ([] ++ l)))), N.inc⟩ : Rt) = some r := hap
       replace hap := Option.some.inj hap
       exact grow_ none 0 0 [] [] hv (run_firstCells_none w.drew i.size 0 0 0) .nil (by simp) (by omega) (by omega) (by omega) (by rw [Nat.zero_add]; exact hap.symm)
     | sl k q n cap =>
      obtain ⟨hN, hv, hnc, hcm⟩ := hs
      replace hap : (bif Nat.ble (n + n') cap then appI N k q (n + n') cap (stC m k (q + n * e.s) l) else bif Nat.ble cap 1048576 then grow m N e.e (n + n') e.s l (ldC m k q (n * e.s)) else none) = some r := hap
      cases hb : Nat.ble (n + n') cap with
      | true =>
       rw [hb] at hap
       replace hap : appI N k q (n + n') cap (stC m k (q + n * e.s) l) = some r := hap
       cases hst : stC m k (q + n * e.s) l with
       | none => rw [hst] at hap; cases hap
       | some m' =>
        rw [hst] at hap
        replace hap : some (⟨.c (.sl k q (n + n') cap), m', N⟩ : Rt) = some r := hap
        replace hap := Option.some.inj hap
        obtain ⟨p1, p2, _, p4, p5⟩ := stC_rel h hst g3; subst hap; exact room_ _ q n cap hv (Nat.le_of_ble_eq_true hb) p1 p2 ⟨c, ⟨hN, rfl, Nat.le_of_ble_eq_true hb, hcm⟩, p4, p5⟩
      | false =>
       rw [hb] at hap
       replace hap : (bif Nat.ble cap 1048576 then grow m N e.e (n + n') e.s l (ldC m k q (n * e.s)) else none) = some r := hap
       cases hb2 : Nat.ble cap 1048576 with
       | false => rw [hb2] at hap; cases hap
       | true =>
        rw [hb2] at hap
        replace hap : grow m N e.e (n + n') e.s l (ldC m k q (n * e.s)) = some r := hap
        cases hld : ldC m k q (n * e.s) with
        | none => rw [hld] at hap; cases hap
        | some old =>
         rw [hld] at hap
         replace hap : some (⟨.c (.st N 0 (n + n') e.s), m.upd N (some (.x true e.e ((n + n') * e.s) (newT (old ++ l)))), N.inc⟩ : Rt) = some r := hap
         replace hap := Option.some.inj hap
         obtain ⟨q1, olds, q2, q3, q4⟩ := ldC_rel h hld; have hc2 := Nat.le_of_ble_eq_true hb2; have hlt := Nat.not_le_of_not_ble_eq_true (show ¬ Nat.ble (n + n') cap = true by rw [hb]; simp); exact grow_ _ n cap old olds hv (by rw [his]; exact first_at q2 q3 w.drew rfl) q4 q1 (by omega) (by omega) hc2 hap.symm
     | st k q n es =>
      obtain ⟨hN, hes0, cap, hv, hcap, hnc, hcm⟩ := hs
      replace hap : (bif Nat.beq es e.s then appT m N e k q n n' l (m.get k) else none) = some r := hap
      cases hbe : Nat.beq es e.s with
      | false => rw [hbe] at hap; cases hap
      | true =>
      rw [hbe] at hap; have hes := Nat.eq_of_beq_eq_true hbe; subst hes
      replace hap : appT m N e k q n n' l (m.get k) = some r := hap
      cases hk0 : m.get k with
      | none => rw [hk0] at hap; cases hap
      | some ob =>
       rw [hk0] at hap
       cases ob with
       | x tl T sz cs =>
        replace hap : (bif Nat.ble (q + (n + n') * e.s) sz then some (⟨.c (.st k q (n + n') e.s), m.upd k (some (.x tl T sz (setL cs (q + n * e.s) l))), N⟩ : Rt)
         else bif Nat.beq q 0 && Nat.beq (n * e.s) sz && Nat.beq T e.e && Nat.ble n 1048576 then some ⟨.c (.st N 0 (n + n') e.s), (m.upd k none).upd N (some (.x true e.e ((n + n') * e.s) (setL cs sz l))), N.inc⟩ else none) = some r := hap
        obtain ⟨cur, fz, r1, r2, r3, r4, r5, r6⟩ := h.ob k _ hk0; have hmul : (n + n') * e.s = n * e.s + n' * e.s := Nat.add_mul _ _ _
        have hnl : news.length = n' * e.s := by rw [forall2_len g3, g1]
        cases hb : Nat.ble (q + (n + n') * e.s) sz with
        | true =>
         rw [hb] at hap
         replace hap := Option.some.inj hap
         have hle := Nat.le_of_ble_eq_true hb
         have hst : stC m k (q + n * e.s) l = some (m.upd k (some (.x tl T sz (setL cs (q + n * e.s) l)))) := by
          show stX m k (q + n * e.s) l (m.get k) = _
          rw [hk0]
          show (Bool.casesOn (Nat.ble (q + n * e.s + l.length) sz) none (some _) : Option Mm) = _
          have : Nat.ble (q + n * e.s + l.length) sz = true := by rw [Nat.ble_eq, g1]; omega
          rw [this]
         obtain ⟨p1, p2, _, p4, p5⟩ := stC_rel h hst g3
         have hroom : n + n' ≤ cap := by
          have h1 : (n + n') * e.s ≤ cap * e.s := by omega
          exact Nat.le_of_mul_le_mul_right h1 k1
         subst hap; exact room_ _ q n cap hv hroom p1 p2 ⟨c, ⟨hN, hes0, cap, rfl, hcap, hroom, hcm⟩, p4, p5⟩
        | false =>
         rw [hb] at hap
         replace hap : (bif Nat.beq q 0 && Nat.beq (n * e.s) sz && Nat.beq T e.e && Nat.ble n 1048576 then some (⟨.c (.st N 0 (n + n') e.s), (m.upd k none).upd N (some (.x true e.e ((n + n') * e.s) (setL cs sz l))), N.inc⟩ : Rt) else none) = some r := hap
         cases hC2 : (Nat.beq q 0 && Nat.beq (n * e.s) sz && Nat.beq T e.e && Nat.ble n 1048576) with
         | false => rw [hC2] at hap; cases hap
         | true =>
          rw [hC2] at hap
          replace hap := Option.some.inj hap
          simp only [Bool.and_eq_true] at hC2; have q0 := Nat.eq_of_beq_eq_true hC2.1.1.1; have qs := Nat.eq_of_beq_eq_true hC2.1.1.2; have qT := Nat.eq_of_beq_eq_true hC2.1.2; have qn := Nat.le_of_ble_eq_true hC2.2; clear hC2
          subst q0; subst qs; subst qT
          have hsub : ∀ k' ob, (m.upd k none).get k' = some ob → m.get k' = some ob := fun k' ob hk' => by
           rw [get_upd] at hk'
           split at hk'
           ·cases hk'
           ·exact hk'
          have hsub2 : ∀ k' ob, (m.upd k none).get k' = some ob → k' ≠ k := fun k' ob hk' e => by
           rw [get_upd, if_pos e] at hk'
           cases hk'
          -- the cells that it had
          have hcells : ∀ (vs' : List Value), vs'.length = n * e.s → (∀ j, j < n * e.s → vs'.getD j undef = cur.getD j undef) → ∀ j x, j < (n + n') * e.s → (setL cs (n * e.s) l).get (toB j) = some x → RC c N ((vs' ++ news).getD j undef) x := fun vs' hvl hvc j x hj hx => by
           rw [get_setL] at hx
           by_cases hin : n * e.s ≤ j ∧ j < n * e.s + l.length
           ·rw [if_pos hin] at hx; have hll := (List.getElem?_eq_some_iff.1 hx).1; have h5 := forall2_get g3 (j - n * e.s) (by omega) hll; rw [(List.getElem?_eq_some_iff.1 hx).2] at h5
            have : (vs' ++ news).getD j undef = news[j - n * e.s]'(by omega) := by
             rw [List.getD_eq_getElem?_getD, List.getElem?_append_right (by omega), hvl, List.getElem?_eq_getElem (by omega)]; rfl
            rw [this]; exact h5
           ·rw [if_neg hin] at hx
            have hjn : j < n * e.s := by omega
            have : (vs' ++ news).getD j undef = vs'.getD j undef := by
             rw [List.getD_eq_getElem?_getD, List.getElem?_append_left (by omega), ← List.getD_eq_getElem?_getD]
            rw [this, hvc j hjn]; exact r6 j x hjn hx
          have hnl' : ∀ x, m.get N = some x → False := fun x hx => Nat.lt_irrefl _ (h.old N x hx).1
          by_cases hroom : n + n' ≤ cap
          ·have hcur : (n + n') * e.s ≤ cur.size := by
            have : (n + n') * e.s ≤ cap * e.s := Nat.mul_le_mul_right _ hroom
            omega
           have p1 : ∀ j, j < news.length → (w.cell? ⟨c.b k, 0 + n * e.s + j, none⟩).isSome = true := fun j hj => by
            rw [cell_of_row w _ _ cur _ fz r1]
            rw [Array.getElem?_eq_getElem (show 0 + n * e.s + j < cur.size by omega)]; rfl
           have p2 : ∀ j, j < news.length → w.frozen? ⟨c.b k, 0 + n * e.s + j, none⟩ = false := fun j hj => frozen_fz r1 r5 (by omega)
           subst hap; refine room_ _ 0 n cap hv hroom p1 p2 ?_; rw [setCells_row _ news (0 + n * e.s) cur w r1]
           have hB : ∀ b, b ≠ c.b k → (w.setRow (c.b k) (layA cur (0 + n * e.s) news)).heap[b]? = w.heap[b]? := fun b hb => setRow_other w _ b _ hb
           refine ⟨c.new N (c.b k) (c.s k), ⟨new_l c N _ _, hes0, cap, by rw [new_b], by rw [new_s]; exact hcap, hroom, hcm⟩, ?_, ?_⟩
           ·refine h.step (mon_new c N _ _) N (fun b _ hb => hB b (by rw [new_b] at hb; exact hb)) (fun k' x hk' hx => ?_) fun x hx => ?_
            ·rw [get_upd, if_neg hk'] at hx; refine ⟨hsub k' x hx, fun e2 => ?_⟩; rw [new_b] at e2; exact hsub2 k' x hx (h.inj k' k x _ (hsub k' x hx) hk0 e2)
            ·rw [get_upd, if_pos rfl] at hx
             injection hx with hx; subst hx
             refine ⟨new_l c N _ _, layA cur (0 + n * e.s) news, fz, by rw [new_b]; exact setRow_heap w _ cur _ _ fz r1, by rw [layA_size, new_s]; exact r2, by rw [layA_size]; exact hcur, (fun h => by cases h), by rw [layA_size]; exact r5, fun j x hj hx => ?_⟩; have h7 := hcells ((cur.toList).take (n * e.s)) (by simp; omega) (fun j hj => by simp [List.getD_eq_getElem?_getD, Array.getD_eq_getD_getElem?, hj]) j x hj hx
             have h8 : (layA cur (0 + n * e.s) news).getD j undef = (cur.toList.take (n * e.s) ++ news).getD j undef := by
              rw [layA_get _ _ _ _ (by omega)]
              by_cases hin : n * e.s ≤ j
              ·rw [if_pos (by omega), List.getD_eq_getElem?_getD, List.getD_eq_getElem?_getD, List.getElem?_append_right (by simp; omega)]; simp [show min (n * e.s) cur.size = n * e.s by omega]
              ·rw [if_neg (by omega), List.getD_eq_getElem?_getD, List.getElem?_append_left (by simp; omega)]; simp [Array.getD_eq_getD_getElem?, show j < n * e.s by omega]
             rw [h8]; exact RC.mon (mon_new c N _ _) h7
           ·refine ⟨mon_new c N _ _, rfl, rfl, rfl, by simp, fun b _ hn => hB b fun e => hn k _ hk0 e.symm, fun k' x hx => ?_, tb_new c N _ _⟩; rw [get_upd] at hx
            split at hx
            ·rename_i e2; subst e2
             exact .inl ⟨k, _, hk0, by rw [new_b]⟩
            ·exact .inl ⟨k', x, hsub k' x hx, ((mon_new c N _ _).b k' (h.old k' x (hsub k' x hx))).symm⟩
          ·-- a new block
           obtain ⟨old, hold⟩ : ∃ old : List Value, old = cur.toList.take (n * e.s) := ⟨_, rfl⟩
           have hol : old.length = n * e.s := by rw [hold]; simp; omega
           have hra : w.rangeAt (c.b k) 0 old := fun j v hj => by
            rw [cell_of_row w _ _ cur _ fz r1, Nat.zero_add]; rw [hold, List.getElem?_take] at hj
            split at hj
            ·simpa using hj
            ·cases hj
           have hby : (n + n') * i.bytes ≤ 140737488355328 := by
            have : (n + n') * i.bytes ≤ 2097152 * 1048576 := Nat.mul_le_mul (by omega) (by omega)
            omega
           have hrun := run_append_grow_src (P := P) w t u o.type e.e i z hu hi hz (some ⟨c.b k, 0, none⟩) n cap old (by rw [his]; exact first_at hol hra w.drew rfl) vx n' news g2' (by omega) (by omega) (growslice_fits (by omega) hby); have hq := grownCap_ge w (n + n') cap e.e; have hm2 := grownCap_le_maxLen w (n + n') cap e.e (by simp only [maxLen]; omega); generalize grownCap w (n + n') cap e.e = cp at hrun hq hm2
           have hlen2 : (old ++ news).length = (n + n') * e.s := by rw [List.length_append, hol, hnl, ← Nat.add_mul]
           have hsz : ((old ++ news).toArray ++ Builtin.zeroCells z.cells (cp - (n + n'))).size = cp * e.s := by
            rw [Array.size_append, size_zeroCells, hzs]; simp only [List.size_toArray]
            rw [hlen2, ← Nat.add_mul]; congr 1; omega
           have hle : (n + n') * e.s ≤ cp * e.s := Nat.mul_le_mul_right _ hq
           have hnew := (h.sub hsub).new (w' := w.drew.alloc (.cells ((old ++ news).toArray ++ Builtin.zeroCells z.cells (cp - (n + n'))) e.e)) (ob := .x true e.e ((n + n') * e.s) (setL cs (n * e.s) l)) w.heap.size (cp * e.s) ⟨rfl, rfl, rfl⟩ (Nat.le_refl _) (by simp) (fun j hj => heap_alloc_old w.drew _ hj)
            ⟨_, (0, 0), by rw [new_b]; exact heap_alloc_new w.drew _, by rw [new_s]; exact hsz, by rw [hsz]; exact hle, (fun h => by cases h), fun j _ => by simp, fun j x hj hx => by
             have h7 := hcells old hol (fun j hj => by rw [hold]; simp [List.getD_eq_getElem?_getD, Array.getD_eq_getD_getElem?, hj]) j x hj hx
             have h3 : ((old ++ news).toArray ++ Builtin.zeroCells z.cells (cp - (n + n'))).getD j undef = (old ++ news).getD j undef := by
              rw [Array.getD_eq_getD_getElem?, Array.getElem?_append_left (by simp only [List.size_toArray]; omega), List.getD_eq_getElem?_getD]; simp
             rw [h3]
             exact RC.mon (mon_new c N _ _) h7⟩
           refine fin _ _ (by rw [hv]; exact hrun) ?_; subst hap; exact ⟨_, ⟨new_l c N _ _, k1, cp, by rw [new_b], by rw [new_s]; omega, hq, hm2⟩, hnew.1, hnew.2.up hsub⟩
       | _ => cases hap
     | _ => cases hap
    | _ => cases hap
end
end Go.Proofs.YtbgifiijjjoebaaGreatDoor.Cm
