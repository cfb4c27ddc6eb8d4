/- What one operation does to the machine's memory (VI): copies, lengths, the greater of two. No conditions. -/
import Derived.Test.YtbgifiijjjoebaaGreatDoorGNamesBo
namespace Go.Proofs.YtbgifiijjjoebaaGreatDoor.Cm
open Go Go.RowKit

section
variable {P : Program} {c : Cx} {N : Bp} {m : Mm} {w : World} {o : Oper} {a : Act} {f : Fm}
theorem F2_take {α β : Type} {R : α → β → Prop} : ∀ {l : List α} {r : List β} (n : Nat), F2 R l r → F2 R (l.take n) (r.take n)
 | _, _, 0, _ => by simp only [List.take_zero]; exact .nil
 | _, _, _ + 1, .nil => .nil
 | _, _, n + 1, .cons h t => .cons h (F2_take n t)
theorem src_pre (h : MR c N m w) {es : Nat} {v : Value} {x : SV} {n : Nat} {l : List CV} (hx : RS c N v x) (hs : srcF m es x = some (n, l)) :
  l.length = n * es ∧ (Builtin.lenOf v).run P w = .ok n w ∧ ∃ news : List Value, F2 (RC c N) news l ∧ ∀ j, j ≤ n → (Builtin.firstCells es j v).run P w = .ok (news.take (j * es)).toArray w := by
 have row : ∀ (k : Bp) (q cp : Nat), v = .slice (some ⟨c.b k, q, none⟩) n cp → ldC m k q (n * es) = some l → l.length = n * es ∧ (Builtin.lenOf v).run P w = .ok n w ∧ ∃ news : List Value, F2 (RC c N) news l ∧ ∀ j, j ≤ n → (Builtin.firstCells es j v).run P w = .ok (news.take (j * es)).toArray w := fun k q cp hv hl => by
  obtain ⟨h1, vs, h2, h3, h4⟩ := ldC_rel h hl; subst hv; refine ⟨h1, rfl, vs, h4, fun j hj => ?_⟩; have hle : j * es ≤ n * es := Nat.mul_le_mul_right _ hj
  exact run_firstCells_some w es j ⟨c.b k, q, none⟩ n cp _ (by simp; omega) fun i u hi => by
   rw [List.getElem?_take] at hi
   split at hi
   ·have := h3 i u hi; rw [Addr.add_mid]
    simpa using this
   ·cases hi
 cases x with
 | c y =>
  have hs : srcC m es y = some (n, l) := hs
  cases y with
  | nl =>
   injection hs with hs
   injection hs with e1 e2
   subst e1; subst e2
   have hv : v = .slice none 0 0 := hx; subst hv; exact ⟨by simp, rfl, [], .nil, fun j _ => by simpa using run_firstCells_none w es j 0 0⟩
  | sl k q n' cp =>
   have hs : srcL n' (ldC m k q (n' * es)) = some (n, l) := hs
   cases hl : ldC m k q (n' * es) with
   | none => rw [hl] at hs; cases hs
   | some l' =>
    rw [hl] at hs
    injection hs with hs
    injection hs with e1 e2
    subst e1; subst e2
    exact row k q cp hx.2.1 hl
  | st k q n' es' =>
   have hs : srcL n' (ldC m k q (n' * es)) = some (n, l) := hs
   cases hl : ldC m k q (n' * es) with
   | none => rw [hl] at hs; cases hs
   | some l' =>
    rw [hl] at hs
    injection hs with hs
    injection hs with e1 e2
    subst e1; subst e2
    obtain ⟨_, _, cp, hv, _⟩ := hx; exact row k q cp hv hl
  | s t =>
   have hs : (bif Nat.beq es 1 then some (t.length, u8s t) else none) = some (n, l) := hs
   cases hb : Nat.beq es 1 with
   | false => rw [hb] at hs; cases hs
   | true =>
    rw [hb] at hs
    injection hs with hs
    injection hs with e1 e2
    subst e1; subst e2
    have h1 := Nat.eq_of_beq_eq_true hb; subst h1; obtain ⟨rfl, _, h3⟩ := hx; refine ⟨by simp [u8s], by simp [Builtin.lenOf, mkS_size], byteCells (mkS t), byte_cells t h3, fun j _ => ?_⟩; simp only [Builtin.firstCells, Sem.run_pure, Result.ok.injEq, and_true]
    apply Array.ext'
    simp only [byteCells, Array.toList_map, Nat.mul_one, ← List.map_take, mkS_extract, List.drop_zero]; simp [mkS]
  | _ => cases hs
 | _ => cases hs
theorem mn_is (a b : Nat) : mn a b = Nat.min b a := by
 unfold mn
 show (bif Nat.ble a b then a else b) = min b a
 cases h : Nat.ble a b with
 | true => have := Nat.le_of_ble_eq_true h; show a = _; omega
 | false => have := Nat.not_le_of_not_ble_eq_true (show ¬ Nat.ble a b = true by rw [h]; simp); show b = _; omega
theorem s_copy (h : MR c N m w) (t u : TypeId) (s x : Operand) (ho : o.op = .call { callee := .builtin .copy, args := #[s, x], argTypes := #[t, u] }) (hs : RS c N (a.eval s) (ev f s)) (hx : RS c N (a.eval x) (ev f x))
  (hf : (bCop (elt1 P [t, u]) [ev f s, ev f x] m N).fine) : OpS P o a c N m w (bCop (elt1 P [t, u]) [ev f s, ev f x] m N) := by
 have hex : ∀ v w', (Builtin.copy_ #[t, u] o.type #[a.eval s, a.eval x]).run P w = .ok v w' → (execOp a.eval o).run P w = .ok (.value v) w' := fun v w' hv => by
  simp only [execOp, ho, resolve, invoke, builtin, Sem.run_bind, Sem.run_pure, Result.andThen_ok, List.map_toArray, List.map_cons, List.map_nil, hv]
 generalize a.eval s = vs at hs hex; generalize a.eval x = vx at hx hex; generalize ev f s = S at hs hf ⊢; generalize ev f x = X at hx hf ⊢
 have hel : elt1 P [t, u] = bif sliB P u then eltP P t else none := rfl
 cases hk : sliB P u with
 | false => rw [hel, hk] at hf; exact hf.elim
 | true =>
 rw [hel, hk] at hf ⊢
 cases he : eltP P t with
 | none => rw [he] at hf; exact hf.elim
 | some e =>
  rw [he] at hf
  replace hf : (copF m N e.s (asC S) (srcF m e.s X)).fine := hf
  show OpS P o a c N m w (copF m N e.s (asC S) (srcF m e.s X))
  cases hsrc : srcF m e.s X with
  | none => rw [hsrc] at hf; cases hS : asC S <;> rw [hS] at hf <;> exact hf.elim
  | some q =>
  cases hS : asC S with
  | none => rw [hS] at hf; exact hf.elim
  | some y =>
   obtain ⟨n', l⟩ := q; rw [hsrc, hS] at hf
   replace hf : (copC m N e.s n' l y).fine := hf
   show OpS P o a c N m w (copC m N e.s n' l y)
   obtain ⟨i, z, hu, hi, his, _, _, _⟩ := eltP_spec' he; obtain ⟨g1, g2, news, g3, g4⟩ := src_pre (P := P) h hx hsrc; have hy := asC_rel hs hS
   have nothing : ∀ (base : Option Addr) (n cap : Nat), vs = .slice base n cap → Nat.min n' n = 0 → (Builtin.copy_ #[t, u] o.type #[vs, vx]).run P w = .ok (.int .i64 0) w := fun base n cap hv h0 => by
    have h4 := g4 0 (Nat.zero_le _); rw [← his] at h4; simp only [Nat.zero_mul, List.take_zero] at h4; subst hv
    cases base <;> simp [Builtin.copy_, run_underlying hu, sizeOf, typeInfo, hi, g2, h0, h4, storeCells, goInt]
   have some_ : ∀ (k : Bp) (q n cap : Nat), vs = .slice (some ⟨c.b k, q, none⟩) n cap → (copG m N e.s k q (mn n n') l).fine → OpS P o a c N m w (copG m N e.s k q (mn n n') l) := fun k q n cap hv hf => by
    rw [mn_is] at hf ⊢; have hj : Nat.min n' n ≤ n' := Nat.min_le_left _ _; have h0 := nothing _ n cap hv
    have hsome : ∀ (us : List Value), (Builtin.firstCells e.s (Nat.min n' n) vx).run P w = .ok us.toArray w → (∀ j, j < us.length → (w.cell? ⟨c.b k, q + j, none⟩).isSome = true) → (∀ j, j < us.length → w.frozen? ⟨c.b k, q + j, none⟩ = false) → (∀ v ∈ us, v.oneCell' = true) →
      (Builtin.copy_ #[t, u] o.type #[vs, vx]).run P w = .ok (.int .i64 ((Nat.min n' n : Nat) : Int)) (w.setCells (c.b k) q us) := fun us h1 h2 h3 h4 => by
     rw [← his] at h1; have hst := run_storeCells_cells (P := P) (c.b k) q us 0 w (by simpa using h2) (by simpa using h3) h4; simp only [Nat.add_zero] at hst; subst hv; simp [Builtin.copy_, run_underlying hu, sizeOf, typeInfo, hi, g2, h1, hst, goInt]
    have h4 := g4 _ hj; generalize Nat.min n' n = b at hf hj h0 hsome h4 ⊢
    have e0 : copG m N e.s k q b l = bif Nat.beq b 0 then ok (.c (.i .i64 0)) m N else copN (stC m k q (l.take (b * e.s))) N b := rfl
    rw [e0] at hf ⊢
    cases hb : Nat.beq b 0 with
    | true => exact OpS.val h rfl (hex _ _ (h0 (Nat.eq_of_beq_eq_true hb))) rfl
    | false =>
     rw [hb] at hf; obtain ⟨m', hm, hok⟩ := okM_fine (show (okM (.c (.i .i64 (Int.ofNat b))) N (stC m k q (l.take (b * e.s)))).fine from hf); obtain ⟨p1, p2, p3, p4, p5⟩ := stC_rel h hm (F2_take (b * e.s) g3); refine OpS.loud (by simp [ho, opC, calC, bltC]) ⟨⟨.c (.i .i64 (b : Int)), m', N⟩, _, _, ?_, .inl (hex _ _ (hsome _ h4 p1 p2 p3)), c, rfl, p4, p5⟩
     show (okM (.c (.i .i64 (Int.ofNat b))) N (stC m k q (l.take (b * e.s)))).mem _
     rw [hok]; exact rfl
   cases y with
   | nl => exact OpS.val h rfl (hex _ _ (nothing none 0 0 hy (Nat.min_zero _))) rfl
   | sl k q n cap => exact some_ k q n cap hy.2.1 hf
   | st k q n es =>
    obtain ⟨_, _, cap, hv, _⟩ := hy; exact some_ k q n cap hv hf
   | _ => exact hf.elim
theorem obM_some {k : Bp} {es : List (CV × AV)} (h : obM (m.get k) = some es) : m.get k = some (.m es) := by
 unfold obM at h
 split at h
 ·rename_i e; injection h with h; subst h; exact e
 ·cases h
theorem s_len (h : MR c N m w) (t : TypeId) (x : Operand) (ho : o.op = .call { callee := .builtin .len, args := #[x], argTypes := #[t] }) (hx : RS c N (a.eval x) (ev f x))
  (hf : (bLen (lenP P [t]) [ev f x] m N).fine) : OpS P o a c N m w (bLen (lenP P [t]) [ev f x] m N) := by
 have hex : ∀ v, (Builtin.len_ #[t] o.type #[a.eval x]).run P w = .ok v w → (execOp a.eval o).run P w = .ok (.value v) w := fun v hv => by
  simp only [execOp, ho, resolve, invoke, builtin, Sem.run_bind, Sem.run_pure, Result.andThen_ok, List.map_toArray, List.map_cons, List.map_nil, hv]
 generalize a.eval x = v at hx hex; generalize ev f x = X at hx hf ⊢
 replace hf : (natO m N (lenS m (lenP P [t]) (asC X))).fine := hf
 show OpS P o a c N m w (natO m N (lenS m (lenP P [t]) (asC X)))
 obtain ⟨n, hn, hok⟩ := natO_fine hf
 have fin : (Builtin.len_ #[t] o.type #[v]).run P w = .ok (.int .i64 (n : Int)) w → OpS P o a c N m w (natO m N (lenS m (lenP P [t]) (asC X))) := fun hr => OpS.val h hok (hex _ hr) rfl
 cases hy : asC X with
 | none => rw [hy] at hn; cases hn
 | some y =>
  have hyr := asC_rel hx hy; rw [hy] at hn
  replace hn : (bif Nat.beq (lenK y) (lenP P [t]) then lenC m y else none) = some n := hn
  cases hb : Nat.beq (lenK y) (lenP P [t]) with
  | false => rw [hb] at hn; cases hn
  | true =>
   rw [hb] at hn
   replace hn : lenC m y = some n := hn
   have hp := Nat.eq_of_beq_eq_true hb
   have h1 : lenP P [t] = 1 → ∃ e, P.underlying t = some (.slice e) := fun e => by
    unfold lenP at e; simp only at e
    split at e <;> first | exact ⟨_, ‹_›⟩ | omega
   have h2 : lenP P [t] = 2 → P.underlying t = some .string := fun e => by
    unfold lenP at e; simp only at e
    split at e <;> first | assumption | omega
   have h3 : lenP P [t] = 3 → ∃ k e, P.underlying t = some (.map k e) := fun e => by
    unfold lenP at e; simp only at e
    split at e <;> first | exact ⟨_, _, ‹_›⟩ | omega
   rw [← hy]
   apply fin
   cases y with
   | nl =>
    obtain ⟨e, he⟩ := h1 hp.symm; rw [show v = .slice none 0 0 from hyr]
    injection hn with hn; subst hn
    simp [Builtin.len_, run_underlying he, goInt]
   | sl k q n' cap =>
    obtain ⟨e, he⟩ := h1 hp.symm; rw [hyr.2.1]
    injection hn with hn; subst hn
    simp [Builtin.len_, run_underlying he, goInt]
   | st k q n' es =>
    obtain ⟨e, he⟩ := h1 hp.symm; obtain ⟨_, _, cap, hv, _⟩ := hyr; rw [hv]
    injection hn with hn; subst hn
    simp [Builtin.len_, run_underlying he, goInt]
   | s l =>
    have he := h2 hp.symm; rw [hyr.1]
    injection hn with hn; subst hn
    simp [Builtin.len_, run_underlying he, goInt, mkS_size]
   | nm =>
    obtain ⟨k', e, he⟩ := h3 hp.symm; rw [show v = .map none from hyr]
    injection hn with hn; subst hn
    simp [Builtin.len_, run_underlying he, goInt]
   | m k =>
    obtain ⟨k', e, he⟩ := h3 hp.symm
    replace hn : mlen (obM (m.get k)) = some n := hn
    cases hq : obM (m.get k) with
    | none => rw [hq] at hn; cases hn
    | some es =>
     rw [hq] at hn
     injection hn with hn; subst hn
     obtain ⟨ents, q1, q2, q3⟩ := h.ob k _ (obM_some hq); have := forall2_len q3; simp only [Array.length_toList] at this; rw [hyr.2]; simp [Builtin.len_, run_underlying he, goInt, MapKept.run_getObj_map q1, this]
   | _ => cases hn
theorem s_cap (h : MR c N m w) (t : TypeId) (x : Operand) (ho : o.op = .call { callee := .builtin .cap, args := #[x], argTypes := #[t] }) (hx : RS c N (a.eval x) (ev f x))
  (hf : (bCap (lenP P [t]) [ev f x] m N).fine) : OpS P o a c N m w (bCap (lenP P [t]) [ev f x] m N) := by
 have hex : ∀ v, (Builtin.cap_ #[t] o.type #[a.eval x]).run P w = .ok v w → (execOp a.eval o).run P w = .ok (.value v) w := fun v hv => by
  simp only [execOp, ho, resolve, invoke, builtin, Sem.run_bind, Sem.run_pure, Result.andThen_ok, List.map_toArray, List.map_cons, List.map_nil, hv]
 generalize a.eval x = v at hx hex; generalize ev f x = X at hx hf ⊢
 replace hf : (natO m N (capS (lenP P [t]) (asC X))).fine := hf
 show OpS P o a c N m w (natO m N (capS (lenP P [t]) (asC X)))
 obtain ⟨n, hn, hok⟩ := natO_fine hf
 have fin : (Builtin.cap_ #[t] o.type #[v]).run P w = .ok (.int .i64 (n : Int)) w → OpS P o a c N m w (natO m N (capS (lenP P [t]) (asC X))) := fun hr => OpS.val h hok (hex _ hr) rfl
 cases hy : asC X with
 | none => rw [hy] at hn; cases hn
 | some y =>
  have hyr := asC_rel hx hy; rw [hy] at hn
  replace hn : (bif Nat.beq (lenP P [t]) 1 then capC y else none) = some n := hn
  cases hb : Nat.beq (lenP P [t]) 1 with
  | false => rw [hb] at hn; cases hn
  | true =>
   rw [hb] at hn
   replace hn : capC y = some n := hn
   have hp := Nat.eq_of_beq_eq_true hb
   obtain ⟨e, he⟩ : ∃ e, P.underlying t = some (.slice e) := by
    unfold lenP at hp; simp only at hp
    split at hp <;> first | exact ⟨_, ‹_›⟩ | omega
   rw [← hy]
   apply fin
   cases y with
   | nl =>
    rw [show v = .slice none 0 0 from hyr]
    injection hn with hn; subst hn
    simp [Builtin.cap_, run_underlying he, goInt]
   | sl k q n' cap =>
    rw [hyr.2.1]
    injection hn with hn; subst hn
    simp [Builtin.cap_, run_underlying he, goInt]
   | _ => cases hn
theorem s_max (h : MR c N m w) (mx : Bool) (x y : Operand) (ts : Array TypeId) (ho : o.op = .call { callee := .builtin (if mx then .max else .min), args := #[x, y], argTypes := ts }) (hx : RS c N (a.eval x) (ev f x)) (hy : RS c N (a.eval y) (ev f y))
  (hf : (bMax mx [ev f x, ev f y] m N).fine) : OpS P o a c N m w (bMax mx [ev f x, ev f y] m N) := by
 have hex : ∀ v, (if mx then Builtin.max_ ts o.type #[a.eval x, a.eval y] else Builtin.min_ ts o.type #[a.eval x, a.eval y]).run P w = .ok v w → (execOp a.eval o).run P w = .ok (.value v) w := fun v hv => by
  cases mx <;> simp only [if_true, if_false, Bool.false_eq_true] at hv ho <;> simp only [execOp, ho, resolve, invoke, builtin, Sem.run_bind, Sem.run_pure, Result.andThen_ok, List.map_toArray, List.map_cons, List.map_nil, hv]
 generalize a.eval x = v at hx hex; generalize a.eval y = v2 at hy hex; generalize ev f x = X at hx hf ⊢; generalize ev f y = Y at hy hf ⊢
 replace hf : (okO m N (maxF mx (asC X) (asC Y))).fine := hf
 show OpS P o a c N m w (okO m N (maxF mx (asC X) (asC Y)))
 obtain ⟨r, hr, hok⟩ := okO_fine hf
 cases hX : asC X with
 | none => rw [hX] at hr; cases hr
 | some p =>
 cases hY : asC Y with
 | none => rw [hX, hY] at hr; cases p <;> cases hr
 | some q =>
  have hp := asC_rel hx hX; have hq := asC_rel hy hY; rw [hX, hY] at hr hok
  cases p with
  | i k a1 =>
   cases q with
   | i k' b1 =>
    have hp : v = .int k a1 := hp; have hq : v2 = .int k' b1 := hq
    injection hr with hr; subst hr
    refine OpS.val (v := .int k (bif (bif mx then ilt a1 b1 else ilt b1 a1) then b1 else a1)) h hok (hex _ ?_) rfl; rw [hp, hq, ilt_is, ilt_is]
    cases mx with
    | true =>
     simp only [if_true, cond_true, Builtin.max_, List.foldlM_cons, List.foldlM_nil, Builtin.max2, Sem.run_bind, Sem.run_pure, Result.andThen_ok]
     by_cases hlt : a1 < b1 <;> simp [hlt]
    | false =>
     simp only [Bool.false_eq_true, if_false, cond_false, Builtin.min_, List.foldlM_cons, List.foldlM_nil, Builtin.min2, Sem.run_bind, Sem.run_pure, Result.andThen_ok]
     by_cases hlt : b1 < a1 <;> simp [hlt]
   | _ => cases hr
  | _ => cases q <;> cases hr
end
end Go.Proofs.YtbgifiijjjoebaaGreatDoor.Cm
