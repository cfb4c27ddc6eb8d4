/- What one operation does to the machine's memory (VII): conversions. No conditions. -/
import Derived.Test.YtbgifiijjjoebaaGreatDoorGNamesBp
import Derived.Laws.BytesString
import Derived.Laws.LoneSync
namespace Go.Proofs.YtbgifiijjjoebaaGreatDoor.Cm
open Go Go.RowKit

section
variable {P : Program} {c : Cx} {N : Bp} {m : Mm} {w : World} {o : Oper} {a : Act} {f : Fm}
theorem c8_is {v : Value} {x : CV} {n : Nat} (h : RC c N v x) (e : c8 x = some n) : v = .int .u8 (n : Int) ∧ n < 256 := by
 unfold c8 at e
 split at e
 ·rename_i k z
  cases hb : Nat.beq (kN k) 4 with
  | false => rw [hb] at e; cases e
  | true =>
   rw [hb] at e
   have hk : k = .u8 := by
    have := Nat.eq_of_beq_eq_true hb
    cases k <;> first | rfl | simp [kN] at this
   subst hk
   replace e : c8n (iN z) = some n := e
   cases z with
   | ofNat q =>
    replace e : (bif Nat.blt q 256 then some q else none) = some n := e
    cases hq : Nat.blt q 256 with
    | false => rw [hq] at e; cases e
    | true =>
     rw [hq] at e
     injection e with e; subst e
     exact ⟨h, of_decide_eq_true (by simpa [Nat.blt_eq] using hq)⟩
   | negSucc q => cases e
 ·cases e
theorem bytesF_is : ∀ {vs : List Value} {xs : List CV} {l : List Nat}, F2 (RC c N) vs xs → bytesF xs = some l → vs = (l.map fun x : Nat => (x : Int)).map (Value.int .u8) ∧ ∀ x ∈ l, x < 256
 | _, _, l, .nil, h => by
  have : l = [] := (Option.some.inj h).symm; subst this; exact ⟨rfl, fun _ h => by cases h⟩
 | v :: vs, x :: xs, l, .cons h1 h2, h => by
  replace h : cons? (c8 x) (bytesF xs) = some l := h
  obtain ⟨n, r, e1, e2, rfl⟩ := cons?_some h; obtain ⟨q1, q2⟩ := c8_is h1 e1; obtain ⟨q3, q4⟩ := bytesF_is h2 e2; exact ⟨by rw [q1, q3]; rfl, fun y hy => (List.mem_cons.1 hy).elim (fun e => e ▸ q2) (q4 y)⟩
theorem push_all : ∀ (l : List Nat) (s : List Nat), (l.map fun x : Nat => (x : Int)).foldl (fun r n => r.push (UInt8.ofNat n.toNat)) (mkS s) = mkS (s ++ l)
 | [], s => by simp
 | x :: l, s => by
  have : (mkS s).push (UInt8.ofNat x) = mkS (s ++ [x]) := by
   simp only [mkS, ByteArray.push, List.map_append, List.map_cons, List.map_nil, List.push_toArray]
  simp only [List.map_cons, List.foldl_cons, Int.toNat_natCast, this]; rw [push_all l (s ++ [x])]; simp
theorem bytP_is {t : TypeId} (h : bytP P t = true) : ∃ e, P.underlying t = some (.slice e) ∧ P.underlying e = some (.int .u8) := by
 unfold bytP at h
 split at h
 ·rename_i e h1
  split at h
  ·exact ⟨e, h1, ‹_›⟩
  ·cases h
 ·cases h
theorem strP_is {t : TypeId} (h : strP P t = true) : P.underlying t = some .string := by
 unfold strP at h
 split at h
 ·assumption
 ·cases h
theorem unsP_is {t : TypeId} (h : unsP P t = true) : P.underlying t = some .unsafePointer := by
 unfold unsP at h
 split at h
 ·assumption
 ·cases h
theorem ptrP_is {t : TypeId} {q : TypeId × Nat} (h : ptrP P t = some q) : ∃ i, P.underlying t = some (.pointer q.1) ∧ P.info? q.1 = some i ∧ i.size = q.2 := by
 unfold ptrP at h
 split at h
 ·rename_i e h1
  split at h
  ·rename_i i h2
   injection h with h; subst h
   exact ⟨i, h1, h2, rfl⟩
  ·cases h
 ·cases h
theorem intP_is {t : TypeId} {k : IntKind} (h : intP P t = some k) : P.underlying t = some (.int k) := by
 unfold intP at h
 split at h
 ·injection h with h; subst h; assumption
 ·cases h
theorem sm1_is {x : Option (TypeId × Nat)} (h : sm1 x = true) : ∃ q, x = some q := by
 cases x with
 | none => cases h
 | some q => exact ⟨q, rfl⟩
theorem s_conv (h : MR c N m w) (t u : TypeId) (x : Operand) (ho : o.op = .convert t u x) (hx : RS c N (a.eval x) (ev f x)) (call : CallF) (hf : (oConv t u x P call f m N).fine) : OpS P o a c N m w (oConv t u x P call f m N) := by
 have hex : ∀ v w', (convert t u (a.eval x)).run P w = .ok v w' → (execOp a.eval o).run P w = .ok (.value v) w' := fun v w' hv => by
  simp only [execOp, ho, Sem.run_bind, hv, Result.andThen_ok, Sem.run_pure]
 generalize a.eval x = v at hx hex
 replace hf : (convS P t u m N (asC (ev f x))).fine := hf
 show OpS P o a c N m w (convS P t u m N (asC (ev f x)))
 generalize ev f x = X at hx hf ⊢
 cases hX : asC X with
 | none => rw [hX] at hf; exact hf.elim
 | some y =>
  have hy := asC_rel hx hX; rw [hX] at hf
  replace hf : (convC P t u m N y).fine := hf
  show OpS P o a c N m w (convC P t u m N y)
  have slice : ∀ (base : Option Addr) (n cap : Nat), v = .slice base n cap → (bif bytP P t && strP P u then okO m N (convB (srcC m 1 y)) else .no []).fine → OpS P o a c N m w (bif bytP P t && strP P u then okO m N (convB (srcC m 1 y)) else .no []) := fun base n cap hv hf => by
   cases hb : (bytP P t && strP P u) with
   | false => rw [hb] at hf; exact hf.elim
   | true =>
    rw [hb] at hf; simp only [Bool.and_eq_true] at hb; obtain ⟨e, h1, h2⟩ := bytP_is hb.1; have h3 := strP_is hb.2; obtain ⟨r, hr, hok⟩ := okO_fine (show (okO m N (convB (srcC m 1 y))).fine from hf)
    show OpS P o a c N m w (okO m N (convB (srcC m 1 y)))
    cases hs : srcC m 1 y with
    | none => rw [hs] at hr; cases hr
    | some q =>
     obtain ⟨n', l⟩ := q; have hsrc : srcF m 1 (.c y) = some (n', l) := hs; obtain ⟨g1, g2, news, g3, g4⟩ := src_pre (P := P) (x := .c y) h hy hsrc; rw [hs] at hr hok
     cases hl : bytesF l with
     | none => simp only [convB, hl] at hr; cases hr
     | some bs =>
      simp only [convB, hl] at hr
      cases hb2 : Nat.ble bs.length 1048576 with
      | false => rw [hb2] at hr; cases hr
      | true =>
       rw [hb2] at hr
       injection hr with hr; subst hr
       obtain ⟨q1, q2⟩ := bytesF_is g3 hl; refine OpS.val (v := .string (mkS bs)) h hok (hex _ _ ?_) ⟨rfl, by have := Nat.le_of_ble_eq_true hb2; simp only [maxLen]; omega, q2⟩; subst hv; rw [run_convert_bytes_string w t u e base n cap h1 h2 h3]
       have hn : n' = n := by
        have : (Builtin.lenOf (.slice base n cap)).run P w = .ok n w := rfl; rw [this] at g2
        injection g2 with g2
        exact g2.symm
       subst hn; have g5 := g4 n' (Nat.le_refl _); rw [List.take_of_length_le (by rw [forall2_len g3, g1]; exact Nat.le_refl _)] at g5
       cases base with
       | none =>
        have g6 := run_firstCells_none (P := P) w 1 n' n' cap; rw [g6] at g5
        injection g5 with g5
        have g5 : news = [] := by simpa using g5.symm
        subst g5
        cases g3
        have : bs = [] := (Option.some.inj hl).symm; subst this; simp only [Conv.bytesToString, Sem.run_pure]
        rfl
       | some A =>
        have g6 : (loadCells A n').run P w = .ok ((bs.map fun x : Nat => (x : Int)).map (Value.int .u8)).toArray w := by
         rw [← q1]
         simpa [Builtin.firstCells] using g5
        rw [run_bytesToString w A n' cap _ g6]; have := push_all bs []; rw [List.nil_append] at this; rw [← this]
        rfl
  cases y with
  | i k n =>
   replace hf : (okO m N (convI n (bif ik P t then intP P u else none))).fine := hf
   show OpS P o a c N m w (okO m N (convI n (bif ik P t then intP P u else none)))
   obtain ⟨r, hr, hok⟩ := okO_fine hf
   cases hik : ik P t with
   | false => rw [hik] at hr; cases hr
   | true =>
    cases hip : intP P u with
    | none => rw [hik, hip] at hr; cases hr
    | some k' =>
     rw [hik, hip] at hr hok
     injection hr with hr; subst hr
     obtain ⟨d, hd⟩ : ∃ d, P.underlying t = some d := by
      unfold ik at hik
      split at hik
      ·exact ⟨_, ‹_›⟩
      ·cases hik
     refine OpS.val (v := .int k' (k'.wrap n)) h hok (hex _ _ ?_) rfl; rw [show v = .int k n from hy]; simp [convert, run_underlying hd, run_underlying (intP_is hip), Conv.intToInt]
  | s l =>
   replace hf : (bif strP P t then (bif strP P u then .one ⟨.c (.s l), m, N⟩ else bif bytP P u then okB P u m N l (eltP P u) else .no []) else .no []).fine := hf
   show OpS P o a c N m w (bif strP P t then (bif strP P u then .one ⟨.c (.s l), m, N⟩ else bif bytP P u then okB P u m N l (eltP P u) else .no []) else .no [])
   cases ht : strP P t with
   | false => rw [ht] at hf; exact hf.elim
   | true =>
    rw [ht] at hf
    cases hu : strP P u with
    | true =>
     refine OpS.val h rfl (hex _ _ ?_) (v := v) hy; rw [hy.1]; simp [convert, run_underlying (strP_is ht), run_underlying (strP_is hu)]
    | false =>
     rw [hu] at hf
     cases hb : bytP P u with
     | false => rw [hb] at hf; exact hf.elim
     | true =>
      rw [hb] at hf
      replace hf : (okB P u m N l (eltP P u)).fine := hf
      show OpS P o a c N m w (okB P u m N l (eltP P u))
      cases he : eltP P u with
      | none => rw [he] at hf; exact hf.elim
      | some e =>
       rw [he] at hf
       replace hf : (bif Nat.ble l.length 1048576 then okN true e.e (.c (.st N 0 l.length 1)) m N (u8s l) else .no []).fine := hf
       show OpS P o a c N m w (bif Nat.ble l.length 1048576 then okN true e.e (.c (.st N 0 l.length 1)) m N (u8s l) else .no [])
       cases hb2 : Nat.ble l.length 1048576 with
       | false => rw [hb2] at hf; exact hf.elim
       | true =>
        have hle := Nat.le_of_ble_eq_true hb2; obtain ⟨e', h1, h2⟩ := bytP_is hb; obtain ⟨i, z, hu2, hi, his, _, _, _⟩ := eltP_spec' he; rw [h1] at hu2
        injection hu2 with hu2
        injection hu2 with hu2
        subst hu2; obtain ⟨rfl, hl1, hl2⟩ := hy; have hrun := Lib.run_convert_string_bytes (P := P) w t u e.e (mkS l) (strP_is ht) h1 h2; have hge := grownCap_ge w (mkS l).size 0 e.e; have hm2 := grownCap_le_maxLen w (mkS l).size 0 e.e (by rw [mkS_size]; exact hl1); have hnew := Lib.bytesWorld_at_new w e.e (mkS l)
        have hcs : (Lib.bytesCells w e.e (mkS l)).size = grownCap w (mkS l).size 0 e.e := by
         simp only [Lib.bytesCells, Array.size_append, Array.size_map, Array.size_replicate]; have : (mkS l).data.size = (mkS l).size := rfl
         omega
        have hat : ∀ j, j < l.length → (Lib.bytesCells w e.e (mkS l)).getD j undef = (byteCells (mkS l)).getD j undef := fun j hj => by
         have hd : (mkS l).data.size = l.length := mkS_size l; simp only [Lib.bytesCells, byteCells]; rw [Array.getD_eq_getD_getElem?, Array.getElem?_append_left (by rw [Array.size_map, hd]; exact hj), List.getD_eq_getElem?_getD]; simp
        rw [mkS_size] at hge hm2 hcs hrun
        have hu8 : (u8s l).length = l.length := by simp [u8s]
        generalize grownCap w l.length 0 e.e = cp at hge hm2 hcs hrun
        have hn := h.new (w' := Lib.bytesWorld w e.e (mkS l)) (ob := .x true e.e (u8s l).length (newT (u8s l))) w.heap.size cp ⟨rfl, rfl, rfl⟩ (Nat.le_refl _) (by rw [Lib.bytesWorld_size]; omega) (fun j hj => Lib.bytesWorld_at_old w e.e (mkS l) j hj)
         ⟨_, _, by rw [new_b]; exact hnew, by rw [new_s]; exact hcs, by rw [hu8, hcs]; exact hge, (fun h => by cases h), fun j hj => by simp only; omega, fun j x hj hx => by
          rw [get_newT] at hx; have hj2 := (List.getElem?_eq_some_iff.1 hx).1; have hbc := forall2_get (byte_cells (c := c.new N w.heap.size cp) (N := N.inc) l hl2) j (by rw [forall2_len (byte_cells (c := c) (N := N) l hl2)]; exact hj2) hj2; rw [(List.getElem?_eq_some_iff.1 hx).2] at hbc; rw [hat j (by omega)]
          have : (byteCells (mkS l)).getD j undef = (byteCells (mkS l))[j]'(by rw [forall2_len (byte_cells (c := c) (N := N) l hl2)]; exact hj2) := by
           rw [List.getD_eq_getElem?_getD, List.getElem?_eq_getElem]; rfl
          rw [this]; exact hbc⟩
        refine OpS.loud (by simp [ho, opC, hb]) ⟨_, _, _, rfl, .inl (hex _ _ hrun), _, ⟨new_l c N _ _, by omega, cp, by rw [new_b], by rw [new_s]; omega, hge, hm2⟩, hn.1, hn.2⟩
  | np =>
   replace hf : (bif sm1 (ptrP P t) && unsP P u || unsP P t && sm1 (ptrP P u) then Rs.one (⟨.c .np, m, N⟩ : Rt) else .no []).fine := hf
   show OpS P o a c N m w (bif sm1 (ptrP P t) && unsP P u || unsP P t && sm1 (ptrP P u) then Rs.one (⟨.c .np, m, N⟩ : Rt) else .no [])
   cases hb : (sm1 (ptrP P t) && unsP P u || unsP P t && sm1 (ptrP P u)) with
   | false => rw [hb] at hf; exact hf.elim
   | true =>
    refine OpS.val h rfl (hex _ _ ?_) (v := v) hy; rw [show v = .pointer none from hy]; simp only [Bool.or_eq_true, Bool.and_eq_true] at hb
    rcases hb with ⟨h1, h2⟩ | ⟨h1, h2⟩
    ·obtain ⟨q, hq⟩ := sm1_is h1; obtain ⟨i, h3, _⟩ := ptrP_is hq; simp [convert, Conv.unsafePointer, run_underlying h3, run_underlying (unsP_is h2)]
    ·obtain ⟨q, hq⟩ := sm1_is h2; obtain ⟨i, h3, _⟩ := ptrP_is hq; simp [convert, Conv.unsafePointer, run_underlying h3, run_underlying (unsP_is h1)]
  | p k q =>
   replace hf : (bif convP P m k q (ptrP P t) (ptrP P u) (unsP P t) (unsP P u) then Rs.one (⟨.c (.p k q), m, N⟩ : Rt) else .no []).fine := hf
   show OpS P o a c N m w (bif convP P m k q (ptrP P t) (ptrP P u) (unsP P t) (unsP P u) then Rs.one (⟨.c (.p k q), m, N⟩ : Rt) else .no [])
   cases hb : convP P m k q (ptrP P t) (ptrP P u) (unsP P t) (unsP P u) with
   | false => rw [hb] at hf; exact hf.elim
   | true =>
    refine OpS.val h rfl (hex _ _ ?_) (v := v) hy; rw [hy.2]
    cases ht : ptrP P t with
    | some A =>
     cases hu : ptrP P u with
     | some B => rw [ht, hu] at hb; cases hb
     | none =>
      rw [ht, hu] at hb
      replace hb : (unsP P u && Nat.blt 0 A.2 && inB q (m.get k)) = true := hb
      simp only [Bool.and_eq_true] at hb; obtain ⟨i, h3, h4, h5⟩ := ptrP_is ht
      have h6 : 0 < A.2 := by simpa [Nat.blt_eq] using hb.1.2
      cases hk : m.get k with
      | none => rw [hk] at hb; cases hb.2
      | some ob =>
       rw [hk] at hb
       cases ob with
       | x tl T sz cs =>
        have h7 : q < sz := by simpa [inB, Nat.blt_eq] using hb.2
        obtain ⟨cur, fz, r1, r2, r3, _⟩ := h.ob k _ hk; refine run_convert_to_unsafe h3 (unsP_is hb.1.1) (by rw [h4]; simp; omega) (v := cur.getD q undef) ?_; rw [cell_of_row w _ _ cur _ fz r1]; simp [show q < cur.size by omega, Array.getD]
       | _ => cases hb.2
    | none =>
     cases hu : ptrP P u with
     | none => rw [ht, hu] at hb; cases hb
     | some B =>
      rw [ht, hu] at hb
      replace hb : (unsP P t && lieB P q B (m.get k)) = true := hb
      simp only [Bool.and_eq_true] at hb; obtain ⟨i, h3, h4, h5⟩ := ptrP_is hu
      cases hk : m.get k with
      | none => rw [hk] at hb; cases hb.2
      | some ob =>
       rw [hk] at hb
       cases ob with
       | x tl T sz cs =>
        obtain ⟨cur, fz, r1, r2, r3, r4, _⟩ := h.ob k _ hk; have h8 := hb.2
        replace h8 : (bif tl then false else (bif Nat.blt q sz then (bif Nat.beq B.2 0 then true else liesAt P P.depth T (sz / P.cellsOf T) q B.1 1) else false)) = true := h8
        cases tl with
        | true => cases h8
        | false =>
         have e := r4 rfl; subst e
         cases h9 : Nat.blt q cur.size with
         | false => rw [h9] at h8; cases h8
         | true =>
          rw [h9] at h8
          replace h8 : (bif Nat.beq B.2 0 then true else liesAt P P.depth T (cur.size / P.cellsOf T) q B.1 1) = true := h8
          have hsh : w.shape? (c.b k) = some (T, cur.size) := by simp [World.shape?, r1]
          cases h10 : Nat.beq B.2 0 with
          | true =>
           have := Nat.eq_of_beq_eq_true h10; simp [convert, Conv.unsafePointer, Conv.seenAt, viewAt, run_underlying h3, run_underlying (unsP_is hb.1), sizeOf, typeInfo, h4, h5, this, hsh, variablesAt, Result.andThen]
          | false =>
           rw [h10] at h8
           replace h8 : liesAt P P.depth T (cur.size / P.cellsOf T) q B.1 1 = true := h8
           have := Nat.ne_of_beq_eq_false h10; simp [convert, Conv.unsafePointer, Conv.seenAt, viewAt, run_underlying h3, run_underlying (unsP_is hb.1), sizeOf, typeInfo, h4, h5, this, hsh, variablesAt, h8, Result.andThen]
       | _ => cases hb.2
  | nl => exact slice none 0 0 hy hf
  | sl k q n cap => exact slice _ n cap hy.2.1 hf
  | st k q n es =>
   obtain ⟨_, _, cap, hv, _⟩ := hy; exact slice _ n cap hv hf
  | _ =>
   replace hf : (bif bytP P t && strP P u then okO m N none else .no []).fine := hf
   cases hb : (bytP P t && strP P u) <;> rw [hb] at hf <;> exact hf.elim
end
end Go.Proofs.YtbgifiijjjoebaaGreatDoor.Cm
