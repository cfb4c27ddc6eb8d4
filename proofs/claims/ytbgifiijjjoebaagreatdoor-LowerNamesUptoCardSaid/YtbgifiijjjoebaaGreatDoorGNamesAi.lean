/- Calls, and what one operation does, all told. No conditions. What an operation hangs on: it does the same in any state that agrees on what it looks at. No conditions. -/
import Derived.Test.YtbgifiijjjoebaaGreatDoorGNamesAh
namespace Go.Proofs.YtbgifiijjjoebaaGreatDoor
open Go.RowKit

def Fn (P : Program) (f : FuncId) (al : List AD) (r : SV) : Prop :=
 ∀ (w : World) (X : Nat → Prop) (vs : Array Value), Lay w → (∀ b, X b → b < w.heap.size) → F2 (RelD w X) vs.toList al →
  Calls P f vs w fun e w' => ∃ v, e = .returned v ∧ Ext w w' ∧ RelR ⟨fun _ => 0, fun _ => undef, fun b => X b ∨ w.heap.size ≤ b ∧ b < w'.heap.size, w.heap.size⟩ [] w' v r
def FnR (P : Program) (f : FuncId) (al : List AD) (fr : Bool) (sz : Nat) (T : TypeId) (xs : List (List D)) : Prop :=
 ∀ (w : World) (X : Nat → Prop) (vs : Array Value), Lay w → (∀ b, X b → b < w.heap.size) → F2 (RelD w X) vs.toList al →
  Calls P f vs w fun e w' => ∃ v, e = .returned v ∧ Ext w w' ∧ 0 < sz ∧ (∀ e ∈ xs, e.length = sz) ∧ Own sz ED w' (fun b => (X b ∨ w.heap.size ≤ b ∧ b < w'.heap.size) ∧ (fr = true → w.heap.size ≤ b)) w.heap.size T v xs
def FnS (P : Program) (f : FuncId) (al : List AD) (cs : List CV) (i : Nat) (fr : Bool) (sz : Nat) (T : TypeId) (xs : List (List D)) : Prop :=
 ∀ (w : World) (X : Nat → Prop) (vs : Array Value), Lay w → (∀ b, X b → b < w.heap.size) → F2 (RelD w X) vs.toList al →
  Calls P f vs w fun e w' => ∃ (us : List Value) (hi : i < us.length), e = .returned (.agg us.toArray) ∧ Ext w w' ∧ 0 < sz ∧ (∀ e ∈ xs, e.length = sz) ∧ Own sz ED w' (fun b => (X b ∨ w.heap.size ≤ b ∧ b < w'.heap.size) ∧ (fr = true → w.heap.size ≤ b)) w.heap.size T us[i] xs ∧
   F2 (RelC ⟨fun _ => 0, fun _ => undef, fun b => (X b ∨ w.heap.size ≤ b ∧ b < w'.heap.size) ∧ us[i].ownBlock ≠ some b, w.heap.size⟩ [] w') us cs
inductive An where
 | v (r : SV)
 | o (fr : Bool) (sz : Nat) (T : TypeId) (xs : List (List D))
 | s (cs : List CV) (i : Nat) (fr : Bool) (sz : Nat) (T : TypeId) (xs : List (List D))
def FnA (P : Program) (f : FuncId) (al : List AD) : An → Prop
 | .v r => Fn P f al r
 | .o fr sz T xs => FnR P f al fr sz T xs
 | .s cs i fr sz T xs => FnS P f al cs i fr sz T xs

def argCs (m : Mem) : List CV → (Bool → List D → Prop) → Prop
 | [], K => K false []
 | .r k n :: r, K => match mat m k with
  | some (.r _ _ _ xs) => n = xs.length ∧ argCs m r fun _ ds => K true (.l xs :: ds)
  | _ => False
 | x :: r, K => match snapD x with
  | some (_, d) => argCs m r fun b ds => K b (d :: ds)
  | none => False
def argK (m : Mem) (x : SV) (K : Bool → AD → Prop) : Prop :=
 match x with
 | .c x => argCs m [x] fun b ds => match ds with
  | [d] => K b (.c d)
  | _ => False
 | .g cs => argCs m cs fun b ds => K b (.g ds)
 | _ => False
def argsK (m : Mem) : List SV → (Bool → List AD → Prop) → Prop
 | [], K => K false []
 | x :: r, K => argK m x fun b d => argsK m r fun b' ds => K (b || b') (d :: ds)
def freshC : CV → Bool
 | .l fr _ => fr
 | .d fr _ _ => fr
 | _ => true
def freshA : AV → Bool
 | .c x => freshC x
 | .g cs => cs.all freshC
def freshR : SV → Bool
 | .c x => freshC x
 | .g cs => cs.all freshC
 | .t xs => xs.all freshA
 | _ => true
def noE : SV → Bool
 | .e _ _ => false
 | _ => true
def anK (d : Option Nat) (m : Mem) (b : Bool) (K : SV → Mem → Prop) : An → Prop
 | .v r => (b = true → freshR r = true) ∧ noE r = true ∧ K r m
 | .o fr sz T xs => (b = true → fr = true) ∧ match d with
  | some k => mat m k = none ∧ K (.c (.r k xs.length)) ((k, .r fr sz T xs) :: m)
  | none => False
 | .s cs i fr sz T xs => (b = true → fr = true ∧ cs.all freshC = true) ∧ match d with
  | some k => mat m k = none ∧ K (.g (cs.set i (.r k xs.length))) ((k, .r fr sz T xs) :: m)
  | none => False
def callK (P : Program) (d : Option Nat) (f : FuncId) (m : Mem) (K : SV → Mem → Prop) (al : List SV) : Prop :=
 enterP P f = true ∧ argsK m al fun b ads => ∃ r, FnA P f ads r ∧ anK d m b K r

section
variable {P : Program} {w0 : Beg} {c : Cx} {S : AS} {a : Act} {w : World} {o : Oper} {m : Mem} {K : SV → Mem → Prop} {Q : Exit → Act → World → Prop}
def Cx.Z (c : Cx) (m : Mem) (rows : Bool) (b : Nat) : Prop := c.X b ∨ rows = true ∧ ∃ k f s T xs, mat m k = some (.r f s T xs) ∧ (c.ρ k).ownBlock = some b
theorem Cx.Z.up {m : Mem} {r r' : Bool} {b : Nat} (h : c.Z m r b) (hr : r = true → r' = true) : c.Z m r' b := h.imp id fun h => ⟨hr h.1, h.2⟩
theorem RelX.rowD (h : RelX w0 c S a w) {k n : Nat} {f : Bool} {s : Nat} {T : TypeId} {xs : List (List D)} {v : Value} (hm : mat S.m k = some (.r f s T xs)) (hx : RelC c S.m w v (.r k n)) (hn : n = xs.length) : Rp w (c.Z S.m true) v (.l xs) := by
 obtain ⟨fr0, sz0, T0, xs0, h1, h2, h3, h4⟩ := hx; rw [hm] at h1
 injection h1 with h1
 injection h1 with e1 e2 e3 e4
 subst e1; subst e2; subst e3; subst e4
 obtain ⟨h5, h6, h7, h8⟩ := h.mem k _ hm
 obtain ⟨A, cap, hρ, hs⟩ := (h6.widen (Z' := c.X) fun b hb _ => hb.1).sl h5 (X := fun b => c.X b ∨ c.n0 ≤ b) fun _ h => h
 rw [h3 hn, hρ]
 have hown : ∀ b, (c.ρ k).ownBlock = some b → c.Z S.m true b := fun b hb => .inr ⟨rfl, k, f, s, T, xs, hm, hb⟩
 obtain ⟨ys, q1, q2⟩ := h6; refine Rp.of_sl h5 ?_
 rcases q1.2 with ⟨e, hn0⟩ | ⟨g, cap', cur, hv, hbg, hg, hnc, hcm, hcs, htake⟩
 ·have : xs = [] := List.eq_nil_of_length_eq_zero hn0; subst this; exact Sl.nil _ _ _ _ hs.2.1
 ·rw [hρ] at hv
  injection hv with e1 e2 e3
  subst e1; subst e3
  refine Sl.of_flat hnc hcm (Thaw.of_heap hg _ _) (q2.widen fun b hb _ => .inl hb.1.1) fun _ => ⟨g, 0, rfl, hown g (by rw [hρ]; rfl), fun j u hj => ?_⟩
  have := q1.cells (g := g) (by rw [hρ]; rfl) j u hj
  simpa [Addr.add_lit] using this
theorem argCs_rel (h : RelX w0 c S a w) : ∀ {xs : List CV} {vs : List Value} {KA : Bool → List D → Prop}, F2 (RelC c S.m w) vs xs → argCs S.m xs KA → ∃ b ds, KA b ds ∧ ED w (c.Z S.m b) vs ds
 | [], _, KA, .nil, hK => ⟨false, [], hK, .nil⟩
 | x :: r, _, KA, .cons (a := v) h1 h2, hK => by
  have other : ∀ (hx : ∀ k n, x ≠ .r k n), (match snapD x with
    | some (_, d) => argCs S.m r fun b ds => KA b (d :: ds)
    | none => False) → ∃ b ds, KA b ds ∧ ED w (c.Z S.m b) (v :: _) ds := fun _ hK => by
   split at hK
   ·rename_i fr d hs
    obtain ⟨b, ds, q1, q2⟩ := argCs_rel h h2 hK; exact ⟨b, _, q1, .cons ((snapD_rel h1 hs).widen fun b hb _ => .inl hb.1) q2⟩
   ·exact hK.elim
  cases x with
  | r k n =>
   simp only [argCs] at hK
   split at hK
   ·rename_i f s T xs hm
    obtain ⟨hn, hK⟩ := hK; obtain ⟨b, ds, q1, q2⟩ := argCs_rel h h2 hK; refine ⟨true, _, q1, .cons (h.rowD hm h1 hn) ?_⟩; exact forall2_mono (fun _ _ r => r.widen fun b hb _ => hb.up fun _ => rfl) q2
   ·exact hK.elim
  | i k n => exact other (by simp) hK
  | b x => exact other (by simp) hK
  | s x => exact other (by simp) hK
  | l fr xs => exact other (by simp) hK
  | nl => exact other (by simp) hK
  | np => exact other (by simp) hK
  | p k o => exact other (by simp) hK
  | u => exact other (by simp) hK
  | f n ks => exact other (by simp) hK
  | nf => exact other (by simp) hK
  | m k => exact other (by simp) hK
  | nm => exact other (by simp) hK
  | t k => exact other (by simp) hK
  | d fr T ds => exact other (by simp) hK
theorem argK_rel (h : RelX w0 c S a w) {x : SV} {v : Value} {KA : Bool → AD → Prop} (hx : RelR c S.m w v x) (hK : argK S.m x KA) : ∃ b d, KA b d ∧ RelD w (c.Z S.m b) v d := by
 unfold argK at hK
 split at hK
 ·obtain ⟨b, ds, q1, q2⟩ := argCs_rel h (.cons hx .nil) hK
  split at q1
  ·rename_i d
   cases q2 with
   | cons q2 _ => exact ⟨b, .c d, q1, q2⟩
  ·exact q1.elim
 ·obtain ⟨vs, rfl, hf⟩ := hx; obtain ⟨b, ds, q1, q2⟩ := argCs_rel h hf hK; exact ⟨b, .g ds, q1, vs, rfl, q2⟩
 ·exact hK.elim
theorem RelD.up {X Y : Nat → Prop} {v : Value} {d : AD} (h : RelD w X v d) (k : ∀ b, X b → Y b) : RelD w Y v d := by
 cases d with
 | c d => exact Rp.widen h fun b hb _ => k b hb
 | g ds => obtain ⟨vs, e, q⟩ := h; exact ⟨vs, e, forall2_mono (fun _ _ r => r.widen fun b hb _ => k b hb) q⟩
theorem argsK_rel (h : RelX w0 c S a w) : ∀ {xs : List SV} {vs : List Value} {KA : Bool → List AD → Prop}, F2 (RelR c S.m w) vs xs → argsK S.m xs KA → ∃ b ds, KA b ds ∧ F2 (RelD w (c.Z S.m b)) vs ds
 | [], _, KA, .nil, hK => ⟨false, [], hK, .nil⟩
 | x :: r, _, KA, .cons h1 h2, hK => by
  obtain ⟨b, d, q1, q2⟩ := argK_rel h h1 hK; obtain ⟨b', ds, q3, q4⟩ := argsK_rel h h2 q1; exact ⟨b || b', d :: ds, q3, .cons (q2.up fun _ hb => hb.up (by simp; exact fun h => .inl h)) (forall2_mono (fun _ _ r => r.up fun _ hb => hb.up (by simp; exact fun h => .inr h)) q4)⟩
theorem RelC.res {c1 c' : Cx} {m' : Mem} {w' : World} {v : Value} {x : CV} (h : RelC c1 [] w' v x) (hY : ∀ b, c1.Y (freshC x) b → c'.Y (freshC x) b) : RelC c' m' w' v x := by
 cases x with
 | l fr xs => exact Rp.widen h fun b hb _ => hY b hb
 | d fr T ds => exact Rp.widen h fun b hb _ => hY b hb
 | p k o => obtain ⟨_, cs, h⟩ := h; cases h
 | r k n => obtain ⟨_, _, _, _, h, _⟩ := h; cases h
 | i k n => exact h
 | b x => exact h
 | s x => exact h
 | nl => exact h
 | np => exact h
 | u => exact h
 | f n ks =>
  obtain ⟨cap, h1, h2⟩ := h; refine ⟨cap, h1, ?_⟩; generalize cap.toList = l at h2
  cases ks with
  | nil => cases h2; exact .nil
  | cons p r =>
   cases h2 with
   | cons h2 _ => obtain ⟨_, _, h2⟩ := h2; cases h2
 | nf => exact h
 | m k => obtain ⟨_, _, _, _, h⟩ := h; cases h
 | nm => exact h
 | t k => obtain ⟨_, _, _, _, _, h⟩ := h; cases h
theorem RelCs.res {c1 c' : Cx} {m' : Mem} {w' : World} {q : Bool} (hq : ∀ fr, (q = true → fr = true) → ∀ b, c1.Y fr b → c'.Y fr b) : ∀ {vs : List Value} {xs : List CV}, F2 (RelC c1 [] w') vs xs → (q = true → xs.all freshC = true) → F2 (RelC c' m' w') vs xs
 | _, _, .nil, _ => .nil
 | _, _, .cons h1 h2, hf => .cons (h1.res (hq _ fun e => by have := hf e; simp at this; exact this.1)) (RelCs.res hq h2 fun e => by have := hf e; simp at this ⊢; exact this.2)
theorem RelA.res {c1 c' : Cx} {m' : Mem} {w' : World} {q : Bool} (hq : ∀ fr, (q = true → fr = true) → ∀ b, c1.Y fr b → c'.Y fr b) {v : Value} {x : AV} (h : RelA c1 [] w' v x) (hf : q = true → freshA x = true) : RelA c' m' w' v x := by
 cases x with
 | c x => exact RelC.res h (hq _ hf)
 | g cs => obtain ⟨vs, e, h⟩ := h; exact ⟨vs, e, RelCs.res hq h hf⟩
theorem RelR.res {c1 c' : Cx} {m' : Mem} {w' : World} {q : Bool} (hq : ∀ fr, (q = true → fr = true) → ∀ b, c1.Y fr b → c'.Y fr b) {v : Value} {x : SV} (h : RelR c1 [] w' v x) (hf : q = true → freshR x = true) (hne : ∀ fr ds, x ≠ .e fr ds) : RelR c' m' w' v x := by
 cases x with
 | c x => exact RelC.res h (hq _ hf)
 | g cs => obtain ⟨vs, e, h⟩ := h; exact ⟨vs, e, RelCs.res hq h hf⟩
 | t xs =>
  obtain ⟨vs, e, h⟩ := h; refine ⟨vs, e, ?_⟩
  have key : ∀ {vs : List Value} {xs : List AV}, F2 (RelA c1 [] w') vs xs → (q = true → xs.all freshA = true) → F2 (RelA c' m' w') vs xs := by
   intro vs xs h
   induction h with
   | nil => exact fun _ => .nil
   | cons h1 _ ih => exact fun hf => .cons (RelA.res hq h1 fun e => by have := hf e; simp at this; exact this.1) (ih fun e => by have := hf e; simp at this ⊢; exact this.2)
  exact key h hf
 | u => trivial
 | e fr ds => exact absurd rfl (hne fr ds)
 | q k n i o => obtain ⟨_, _, _, _, h, _⟩ := h; cases h
theorem own_lower {sz : Nat} {w : World} {Z : Nat → Prop} {base b2 : Nat} {e : TypeId} {v : Value} {l : List (List D)} (h : Own sz ED w Z base e v l) (hb : b2 ≤ base) : Own sz ED w Z b2 e v l := by
 obtain ⟨xs, ⟨h1, h2⟩, h3⟩ := h; refine ⟨xs, ⟨h1, ?_⟩, h3⟩
 rcases h2 with h2 | ⟨g, cap, cur, e1, e2, r⟩
 ·exact .inl h2
 ·exact .inr ⟨g, cap, cur, e1, Nat.le_trans hb e2, r⟩
theorem own_one {sz : Nat} {w : World} {Z : Nat → Prop} {base : Nat} {e : TypeId} {v : Value} {l : List (List D)} (h : Own sz ED w Z base e v l) : v.oneCell' = true := by
 obtain ⟨xs, ⟨h1, h2⟩, h3⟩ := h
 rcases h2 with ⟨h2, _⟩ | ⟨g, cap, cur, e1, _⟩
 ·rw [h2]; rfl
 ·rw [e1]; rfl
theorem RelX.callp (h : RelX w0 c S a w) (p : Nat → Prop) {w' : World} (hx : Ext w w') : RelX w0 ⟨c.β, c.ρ, fun b => c.X b ∨ (w.heap.size ≤ b ∧ b < w'.heap.size) ∧ p b, c.n0⟩ S a w' := by
 have hm : Mon c S.m w ⟨c.β, c.ρ, fun b => c.X b ∨ (w.heap.size ≤ b ∧ b < w'.heap.size) ∧ p b, c.n0⟩ S.m w' :=
  ⟨rfl, fun _ h => .inl h, .of_ext hx, fun k cs hk => ⟨rfl, cs, hk⟩, fun k fr sz T xs hk => ⟨fr, xs, hk, Nat.le_refl _, fun _ => rfl⟩, fun k fr kk es hk => ⟨rfl, fr, kk, es, hk⟩, fun k fr mk rem la hk => ⟨rfl, rfl, rfl, fr, rem, la, hk⟩⟩
 refine h.go hm (h.ext.trans hx) (fun b hb => hb.elim (fun hb => Nat.lt_of_lt_of_le (h.xl b hb) hx.size) fun hb => hb.1.2) (fun b hb => hb.elim (h.xo b) fun hb => .inr (by have := h.ext.size; have := h.n0; have := hb.1.1; simp only; omega)) (fun k o hk => ?_) h.dis; refine RelO.mon hm (h.mem k o hk) hk hk (fun b hb => ?_) rfl; obtain ⟨h1, h2, h3⟩ := h.bk hk b hb; exact ⟨hx.block b h2, fun hb => hb.elim h3 fun hb => by have := hb.1.1; omega⟩
theorem sim_call (h : RelX w0 c S a w) (hd : ∀ t, o.dst = some t → t < S.n) (f : FuncId) (al : Array Operand) (ts : Array TypeId) (ho : o.op = .call { callee := .value (.func f), args := al, argTypes := ts }) (hK : callK P o.dst f S.m K (al.toList.map (ez S))) :
  o.wp P a w (fun a' w' => ∃ r m', K r m' ∧ Rel w0 (S.put o.dst r m') a' w') Q := by
 obtain ⟨hen, hK⟩ := hK
 have hargs : F2 (RelR c S.m w) (al.map a.eval).toList (al.toList.map (ez S)) := by
  rw [Array.toList_map]; generalize al.toList = l
  induction l with
  | nil => exact .nil
  | cons x r ih => exact .cons (h.evs x) ih
 obtain ⟨b, ads, ⟨r, hfn, hK⟩, hrel⟩ := argsK_rel h hargs hK; unfold Oper.wp
 have hrun : (execOp a.eval o).run P w = .ok (.enter f (al.map a.eval)) w := by
  have : a.eval (.func f) = .func (.func f) #[] #[] := rfl
  simp only [execOp, ho, resolve, Deferred.ofValue, this, Sem.run_bind, Sem.run_pure, Result.andThen_ok, invoke, Array.empty_append, Array.append_empty, run_enter hen]
 rw [hrun]
 have hn0 : c.n0 ≤ w.heap.size := by rw [h.n0]; exact h.ext.size
 have hZl : ∀ x, c.Z S.m b x → x < w.heap.size := fun x hx => by
  rcases hx with hx | ⟨_, k, _, _, _, _, hm, hb⟩
  ·exact h.xl x hx
  ·exact (h.bk hm x hb).2.1
 cases r with
 | v r =>
  obtain ⟨hfr, hne, hK⟩ := hK; refine (hfn w (c.Z S.m b) (al.map a.eval) (w0.lay.ext h.ext) hZl hrel).mono ?_; rintro e w' ⟨v, rfl, hx, hr⟩; refine ⟨r, S.m, hK, _, (h.call hx).puts (m' := S.m) hd ?_⟩; refine RelR.res (q := b) (fun fr hb x hx2 => ?_) hr hfr (fun f ds e => by rw [e] at hne; cases hne); obtain ⟨h1, h2⟩ := hx2
  rcases h1 with h1 | h1
  ·rcases h1 with h1 | ⟨hb2, k, _, _, _, _, hm, hbk⟩
   ·exact ⟨.inl h1, fun e => Nat.le_trans hn0 (h2 e)⟩
   ·have := h2 (hb hb2); have := (h.bk hm x hbk).2.1; simp only at *
    omega
  ·exact ⟨.inr h1, fun _ => Nat.le_trans hn0 h1.1⟩
 | o fr sz T xs =>
  obtain ⟨hfr, hK⟩ := hK
  split at hK
  ·rename_i k hdk
   obtain ⟨hmk, hK⟩ := hK; refine (hfn w (c.Z S.m b) (al.map a.eval) (w0.lay.ext h.ext) hZl hrel).mono ?_; rintro e w' ⟨v, rfl, hx, hsz, hl, hO⟩; have hr := hO.row; have h1 := h.callp (fun b => v.ownBlock ≠ some b) hx; have h2 := new_rowd h1 hmk hsz (f := fr) (T := T) (xs := xs) v (Ext.refl w') (fun b hb => ?_) ?_ hl
   ·exact ⟨_, _, hK, _, h2.puts hd ⟨fr, sz, T, xs, by simp [mat], Nat.le_refl _, fun _ => by simp, own_one hO⟩⟩
   ·have h3 := hr b hb; refine ⟨fun hX => hX.elim (fun hX => by have := h.xl b hX; omega) fun hX => hX.2 hb, fun j oj hj e => ?_⟩
    have : blk c j oj = some b := by cases oj <;> exact e
    have := (h.bk hj b this).2.1
    omega
   ·obtain ⟨ys, q1, q2⟩ := own_lower hO hn0; refine ⟨ys, q1, q2.widen fun x hx2 _ => ⟨?_, hx2.2⟩⟩; obtain ⟨⟨h3, h4⟩, h5⟩ := hx2
    rcases h3 with h3 | h3
    ·rcases h3 with h3 | ⟨hb2, k', _, _, _, _, hm, hbk⟩
     ·exact ⟨.inl h3, fun e => Nat.le_trans hn0 (h4 e)⟩
     ·have := h4 (hfr hb2); have := (h.bk hm x hbk).2.1
      omega
    ·exact ⟨.inr ⟨h3, h5⟩, fun _ => Nat.le_trans hn0 h3.1⟩
  ·exact hK.elim
 | s cs i fr sz T xs =>
  obtain ⟨hfr, hK⟩ := hK
  split at hK
  ·rename_i k hdk
   obtain ⟨hmk, hK⟩ := hK; refine (hfn w (c.Z S.m b) (al.map a.eval) (w0.lay.ext h.ext) hZl hrel).mono ?_; rintro e w' ⟨us, hi, rfl, hx, hsz, hl, hO, hcs⟩; have hr := hO.row; have h1 := h.callp (fun b => us[i].ownBlock ≠ some b) hx; have h2 := new_rowd h1 hmk hsz (f := fr) (T := T) (xs := xs) us[i] (Ext.refl w') (fun b hb => ?_) ?_ hl
   ·refine ⟨_, _, hK, _, h2.puts hd ⟨us.toArray, rfl, ?_⟩⟩
    show F2 _ us _
    refine forall2_of (by simpa using forall2_len hcs) fun j g1 g2 => ?_
    rw [List.getElem_set]
    split
    ·rename_i e; subst e
     exact ⟨fr, sz, T, xs, by simp [mat], Nat.le_refl _, fun _ => by simp, own_one hO⟩
    ·have g3 : j < cs.length := by simpa using g2
     refine RelC.res (forall2_get hcs j g1 g3) fun x hx2 => ?_
     obtain ⟨⟨h3, h4⟩, h5⟩ := hx2
     rcases h3 with h3 | h3
     ·rcases h3 with h3 | ⟨hb2, k', _, _, _, _, hm, hbk⟩
      ·exact ⟨.inl h3, fun e => Nat.le_trans hn0 (h5 e)⟩
      ·have h6 := List.all_eq_true.1 (hfr hb2).2 _ (List.getElem_mem g3); have h7 := h5 h6; have h8 := (h.bk hm x hbk).2.1; simp only at h7 h8
       omega
     ·exact ⟨.inr ⟨h3, h4⟩, fun _ => Nat.le_trans hn0 h3.1⟩
   ·have h3 := hr b hb; refine ⟨fun hX => hX.elim (fun hX => by have := h.xl b hX; omega) fun hX => hX.2 hb, fun j oj hj e => ?_⟩
    have : blk c j oj = some b := by cases oj <;> exact e
    have := (h.bk hj b this).2.1
    omega
   ·obtain ⟨ys, q1, q2⟩ := own_lower hO hn0; refine ⟨ys, q1, q2.widen fun x hx2 _ => ⟨?_, hx2.2⟩⟩; obtain ⟨⟨h3, h4⟩, h5⟩ := hx2
    rcases h3 with h3 | h3
    ·rcases h3 with h3 | ⟨hb2, k', _, _, _, _, hm, hbk⟩
     ·exact ⟨.inl h3, fun e => Nat.le_trans hn0 (h4 e)⟩
     ·have := h4 (hfr hb2).1; have := (h.bk hm x hbk).2.1
      omega
    ·exact ⟨.inr ⟨h3, h5⟩, fun _ => Nat.le_trans hn0 h3.1⟩
  ·exact hK.elim

def ptrTy (P : Program) : Nat → TypeId → Bool
 | 0, _ => false
 | n + 1, t => match P.underlying t with
  | some (.pointer _) => true
  | some (.map ..) => true
  | some (.func ..) => true
  | some (.slice e) => ptrTy P n e
  | some (.struct fs) => fs.any fun f => ptrTy P n f.type
  | _ => false
def loudN : List String := ["slices.Sort", "slices.Reverse", "slices.Compact", "slices.DeleteFunc", "slices.Insert", "(riddle/riddleref18.Make).Do", "riddle/riddleref04.free", "riddle/riddleref04.Free", "riddle/riddleref10.bound"]
def quietN : List String := ["riddle/census.", "(*riddle/periods.Set).", "riddle/periods.", "riddle/riddlelaw19."]
def loudP (P : Program) (f : FuncId) : Bool :=
 match P.funcs[f]? with
 | some fn => !(quietN.any fun s => s.isPrefixOf fn.name) && (fn.params.any (ptrTy P 5) || fn.resultTypes.any (ptrTy P 5) || decide (0 < fn.nfree) || loudN.any fun s => s.isPrefixOf fn.name)
 | none => false
def astep (P : Program) (o : Oper) (S : AS) (K : SV → Mem → Prop) : Prop :=
 match o.op with
 | .move x => K (ez S x) S.m
 | .assign x => K (ez S x) S.m
 | .pick x y z => pickK S.m K (ez S x) (ez S y) (ez S z)
 | .alloc T => allocK o.dst (zeroC P T) S.m K
 | .box _ x => boxK o.dst S.m K (ez S x)
 | .build T ps => buildK (bldP P T) S.m K (evs S ps)
 | .buildSlice T len ps => Rw o.dst (eltP P T) len S.m K (evs S ps)
 | .load t x => match lyt P t with
  | some (g, n) => loadK g n S.m K (toE (ez S x))
  | none => False
 | .store t x y => match lyt P t with
  | some (_, n) => o.dst = none ∧ storeK n S.m K (ez S x) (ez S y)
  | none => False
 | .binOp op t x y _ => binK P op t S.m K (ez S x) (ez S y)
 | .unOp op _ x => unK op S.m K (ez S x)
 | .convert t u x => match cvtP P t u with
  | some k => convK (some k) S.m K (ez S x)
  | none => bstrK (cvsP P t u) S.m K (ez S x)
 | .makeSlice T l q => makeK P o.dst (eltP P T) S.m K (ez S l) (ez S q)
 | .slice T x lo hi none => sliceK P T S.m K (ez S x) (lo.map (ez S)) (hi.map (ez S))
 | .fieldAddr T x i => fieldK (fldP P T i) S.m K (toE (ez S x))
 | .indexAddr T x y => match eltP P T with
  | some (_, es, _) => indexK es S.m K (ez S x) (ez S y)
  | none => match arrP P T with
   | some p => arrK p S.m K (ez S x) (ez S y)
   | none => False
 | .nilCheck x => nckK S.m K (ez S x)
 | .extract x j => extractK j S.m K (ez S x)
 | .call { callee := .builtin .len, args, argTypes } => match args.toList, argTypes.toList with
  | [x], [t] => lenK (slP P t) S.m K (ez S x)
  | _, _ => False
 | .call { callee := .builtin .append, args, argTypes } => match args.toList, argTypes.toList with
  | [s, x], [t, t'] => t = t' ∧ appK o.dst (eltP P t) S.m K (ez S s) (ez S x)
  | _, _ => False
 | .call { callee := .value (.func f), args, .. } => (match loudP P f with
  | true => callM P f S.m K (args.toList.map (ez S))
  | false => callK P o.dst f S.m K (args.toList.map (ez S)))
 | .call { callee := .value (.tmp t), args, .. } => (match ez S (.tmp t) with
  | .c (.f f ks) => callM P f S.m K (args.toList.map (ez S) ++ ks.map fun p => .c (.p p.1 p.2))
  | _ => False)
 | .index T x y => byteK (stP P T) S.m K (ez S x) (ez S y)
 | .call { callee := .builtin .max, args, .. } => (match args.toList with
  | [x, y] => maxK true S.m K (ez S x) (ez S y)
  | _ => False)
 | .call { callee := .builtin .min, args, .. } => (match args.toList with
  | [x, y] => maxK false S.m K (ez S x) (ez S y)
  | _ => False)
 | .makeFunc fn first cap => funK fn (first.toList.map (ez S)) (cap.toList.map (ez S)) S.m K
 | .makeMap T r => mkmK o.dst (mapP P T) (r.map (ez S)) S.m K
 | .lookup T x y comma => lookK (mapP P T) comma S.m K (ez S x) (ez S y)
 | .mapUpdate T x y z => o.dst = none ∧ updK (mapP P T) S.m K (ez S x) (ez S y) (ez S z)
 | .mapEntry T x y => entK (mapP P T) S.m K (ez S x) (ez S y)
 | .entryStore _ x y z => o.dst = none ∧ estK S.m K (ez S x) (ez S y) (ez S z)
 | .range T x => rngK o.dst (mapP P T).isSome S.m K (ez S x)
 | .next x false => nxtK S.m K (ez S x)
 | .entry x => ryK S.m K (ez S x)
 | .call { callee := .builtin .copy, args, argTypes } => match args.toList, argTypes.toList with
  | [s, x], [t, _] => copK (eltP P t) S.m K (ez S s) (ez S x)
  | _, _ => False
 | _ => False
def opK (P : Program) (ops : Array Oper) (o : Oper) (S : AS) (K : SV → Mem → Prop) : Prop :=
 (∀ t, o.dst = some t → t < S.n) ∧
 match o.guard with
 | none => astep P o S K
 | some (j, want) => match (ops[j]?).bind (·.dst) with
  | some t => match ez S (.tmp t) with
   | .c (.b x) => (x = want → astep P o S K) ∧ (x ≠ want → K (.t []) S.m)
   | .t [] => K (.t []) S.m
   | _ => False
  | none => False
theorem makeK_some {e : Option (TypeId × Nat × Nat)} {d : Option Nat} {l q : SV} (h : makeK P d e m K l q) : e.isSome = true := by
 unfold makeK at h
 split at h
 ·rfl
 ·exact h.elim
theorem sim_step (h : RelX w0 c S a w) (hd : ∀ t, o.dst = some t → t < S.n) (hK : astep P o S K) : o.wp P a w (fun a' w' => ∃ r m', K r m' ∧ Rel w0 (S.put o.dst r m') a' w') Q := by
 unfold astep at hK
 split at hK
 ·exact sim_move h hd _ (.inl ‹_›) hK
 ·exact sim_move h hd _ (.inr ‹_›) hK
 ·exact sim_pick h hd _ _ _ ‹_› hK
 ·exact sim_alloc h hd _ ‹_› hK
 ·exact sim_box h hd _ _ ‹_› hK
 ·exact sim_build h hd _ _ ‹_› hK
 ·exact hK.elim (sim_row h hd _ _ _ ‹_›) (sim_rowd h hd _ _ _ ‹_›)
 ·rename_i t x ho
  split at hK
  ·exact sim_load h hd _ _ ho ‹_› hK
  ·exact hK.elim
 ·rename_i t x y ho
  split at hK
  ·exact sim_store h hK.1 _ _ _ ho ‹_› hK.2
  ·exact hK.elim
 ·exact sim_bin h hd _ _ _ _ _ ‹_› hK
 ·exact sim_un h hd _ _ _ ‹_› hK
 ·rename_i t u x ho
  split at hK
  ·rename_i k hk
   exact sim_conv h hd _ _ _ ho (by rw [hk]; exact hK)
  ·exact sim_bstr h hd _ _ _ ho hK
 ·exact sim_make h hd _ _ _ ‹_› (fun _ _ _ _ => hK) (makeK_some hK)
 ·exact sim_slice h hd _ _ _ _ ‹_› hK
 ·exact sim_field h hd _ _ _ ‹_› hK
 ·rename_i T x y ho
  split at hK
  ·exact sim_index h hd _ _ _ ho ‹_› hK
  ·split at hK
   ·exact sim_arr h hd _ _ _ ho ‹_› hK
   ·exact hK.elim
 ·exact sim_nck h hd _ ‹_› hK
 ·exact sim_extract h hd _ _ ‹_› hK
 ·rename_i al ts ho
  split at hK
  ·rename_i x t e1 e2
   have e1 : al = #[x] := by rw [← Array.toArray_toList (xs := al), e1]
   have e2 : ts = #[t] := by rw [← Array.toArray_toList (xs := ts), e2]
   subst e1; subst e2
   exact sim_len h hd _ _ ho hK
  ·exact hK.elim
 ·rename_i al ts ho
  split at hK
  ·rename_i s x t t' e1 e2
   obtain ⟨e3, hK⟩ := hK; subst e3
   have e1 : al = #[s, x] := by rw [← Array.toArray_toList (xs := al), e1]
   have e2 : ts = #[t, t] := by rw [← Array.toArray_toList (xs := ts), e2]
   subst e1; subst e2
   exact sim_app h hd _ _ _ ho hK
  ·exact hK.elim
 ·rename_i f al ts ho
  cases hl : loudP P f with
  | false =>
   simp only [hl] at hK; exact sim_call h hd _ _ _ ho hK
  | true =>
   simp only [hl] at hK; refine sim_callM h hd f _ (al.map a.eval) (fun hen => ?_) (evl_rel h al) hK
   have : a.eval (.func f) = .func (.func f) #[] #[] := rfl
   simp only [execOp, ho, resolve, Deferred.ofValue, this, Sem.run_bind, Sem.run_pure, Result.andThen_ok, invoke, Array.empty_append, Array.append_empty, run_enter hen]
 ·rename_i t al ts ho
  split at hK
  ·rename_i f ks hz
   have hx := h.evs (.tmp t); rw [hz] at hx; obtain ⟨cap, hv, hc⟩ := hx; refine sim_callM h hd f _ (al.map a.eval ++ cap) (fun hen => ?_) ?_ hK
   ·simp only [execOp, ho, resolve, Deferred.ofValue, hv, Sem.run_bind, Sem.run_pure, Result.andThen_ok, invoke, Array.empty_append, run_enter hen]
   ·rw [Array.toList_append]; refine forall2_app (evl_rel h al) ?_; clear hK hv hz; generalize cap.toList = l at hc
    induction hc with
    | nil => exact .nil
    | cons h1 _ ih => exact .cons ⟨h1.1, h1.2⟩ ih
  ·exact hK.elim
 ·exact sim_byte h hd _ _ _ ‹_› hK
 ·rename_i al ts ho
  split at hK
  ·rename_i x y e1
   have e1 : al = #[x, y] := by rw [← Array.toArray_toList (xs := al), e1]
   subst e1; exact sim_max h hd true _ _ _ ho hK
  ·exact hK.elim
 ·rename_i al ts ho
  split at hK
  ·rename_i x y e1
   have e1 : al = #[x, y] := by rw [← Array.toArray_toList (xs := al), e1]
   subst e1; exact sim_max h hd false _ _ _ ho hK
  ·exact hK.elim
 ·exact sim_fun h hd _ _ _ ‹_› hK
 ·exact sim_mkm h hd _ _ ‹_› hK
 ·exact sim_look h hd _ _ _ _ ‹_› hK
 ·exact sim_upd h hK.1 _ _ _ _ ‹_› hK.2
 ·exact sim_ent h hd _ _ _ ‹_› hK
 ·exact sim_est h hK.1 _ _ _ _ ‹_› hK.2
 ·exact sim_rng h hd _ _ ‹_› hK
 ·exact sim_nxt h hd _ ‹_› hK
 ·exact sim_ry h hd _ ‹_› hK
 ·rename_i al ts ho
  split at hK
  ·rename_i s x t t' e1 e2
   have e1 : al = #[s, x] := by rw [← Array.toArray_toList (xs := al), e1]
   have e2 : ts = #[t, t'] := by rw [← Array.toArray_toList (xs := ts), e2]
   subst e1; subst e2
   exact sim_copy h hd _ _ _ _ ho hK
  ·exact hK.elim
 ·exact hK.elim
theorem sim_op (h : RelX w0 c S a w) {ops : Array Oper} (hK : opK P ops o S K) :
  if Region.wanted o (yielded ops a.tmps) then o.wp P a w (fun a' w' => ∃ r m', K r m' ∧ Rel w0 (S.put o.dst r m') a' w') Q else ∃ r m', K r m' ∧ Rel w0 (S.put o.dst r m') (a.put o.dst undef) w := by
 obtain ⟨hd, hK⟩ := hK
 split at hK
 ·rename_i hg
  simp only [Region.wanted, hg, if_true]; exact sim_step h hd hK
 ·rename_i j want hg
  split at hK
  ·rename_i t ht
   split at hK
   ·rename_i x hx
    have h1 := h.evs (.tmp t); rw [hx] at h1; have h1 : a.tmps.getD t undef = .bool x := h1
    have hy : yielded ops a.tmps j = some x := by
     unfold yielded; rw [ht]
     have : a.tmps[t]? = some (.bool x) := by
      simp only [Array.getD] at h1
      split at h1
      ·rename_i hlt
       rw [Array.getElem?_eq_getElem hlt]; exact congrArg some h1
      ·cases h1
     simp [this]
    simp only [Region.wanted, hg, hy]
    by_cases hw : x = want
    ·subst hw; simp only [beq_self_eq_true, if_true]; exact sim_step h hd (hK.1 rfl)
    ·have : (some x == some want) = false := by simp [hw]
     rw [this]; simp only [Bool.false_eq_true, if_false]; exact ⟨.t [], S.m, hK.2 hw, c, h.puts (m' := S.m) hd ⟨#[], rfl, .nil⟩⟩
   ·rename_i hx
    have h1 := h.evs (.tmp t); rw [hx] at h1; obtain ⟨vs, h1, h2⟩ := h1; have h1 : a.tmps.getD t undef = .tuple vs := h1
    have hy : yielded ops a.tmps j = none := by
     unfold yielded; rw [ht]; simp only [Option.bind_some]; simp only [Array.getD] at h1
     split at h1
     ·rename_i hlt
      have : a.tmps[t]? = some (.tuple vs) := by
       rw [Array.getElem?_eq_getElem hlt]; exact congrArg some h1
      rw [this]
     ·rename_i hlt
      rw [Array.getElem?_eq_none (by omega)]
    simp only [Region.wanted, hg, hy]; have : ((none : Option Bool) == some want) = false := rfl; rw [this]; simp only [Bool.false_eq_true, if_false]; exact ⟨.t [], S.m, hK, c, h.puts (m' := S.m) hd ⟨#[], rfl, .nil⟩⟩
   ·exact hK.elim
  ·exact hK.elim
end

end Go.Proofs.YtbgifiijjjoebaaGreatDoor

namespace Go.Proofs.YtbgifiijjjoebaaGreatDoor
open Go.RowKit

inductive Ef where
 | id
 | new (k : Nat) (ob : Ob)
 | set (k : Nat) (ob : Ob)
 | upd (m1 : Mem) (ks : List Nat)
def Ef.on : Ef → Mem → Mem
 | .id, m => m
 | .new k ob, m => (k, ob) :: m
 | .set k ob, m => mset m k ob
 | .upd m1 ks, m => m1 ++ mdelL m ks
def Agree (ns : List Nat) (m m' : Mem) : Prop := ∀ k ∈ ns, ∀ ob, mat m k = some ob → mat m' k = some ob
def Same (q : Bool) (d : Option Nat) (ns : List Nat) (m : Mem) (F : Mem → (SV → Mem → Prop) → Prop) : Prop :=
 ∀ K, F m K → ∃ r e, K r (Ef.on e m) ∧ ((∀ k ob, e = .new k ob → d = some k ∧ mat m k = none) ∧ (q = true → ∀ k ob, e ≠ .set k ob) ∧ (∀ m1 ks, e ≠ .upd m1 ks) ∧ ∀ k ob, e = .set k ob → k ∈ ns) ∧ ∀ m', Agree ns m m' → (∀ k ob, e = .new k ob → mat m' k = none) → ∀ K', K' r (Ef.on e m') → F m' K'
def Quiet (d : Option Nat) (ns : List Nat) (m : Mem) (F : Mem → (SV → Mem → Prop) → Prop) : Prop :=
 ∀ K, F m K → ∃ r e, K r (Ef.on e m) ∧ (e = .id ∨ ∃ k ob, e = .new k ob ∧ d = some k ∧ mat m k = none) ∧ ∀ m', Agree ns m m' → (∀ k ob, e = .new k ob → mat m' k = none) → ∀ K', K' r (Ef.on e m') → F m' K'
theorem Quiet.same {d : Option Nat} {ns : List Nat} {m : Mem} {F : Mem → (SV → Mem → Prop) → Prop} {q : Bool} (h : Quiet d ns m F) : Same q d ns m F := fun K hK => by
 obtain ⟨r, e, h1, h2, h3⟩ := h K hK; refine ⟨r, e, h1, ⟨fun k ob he => ?_, fun _ k ob he => ?_, fun m1 ks he => ?_, fun k ob he => ?_⟩, h3⟩
 rcases h2 with h2 | ⟨k', ob', h2, h4⟩
 ·rw [he] at h2; cases h2
 ·rw [he] at h2; injection h2 with e1 e2; subst e1; exact h4
 ·rcases h2 with h2 | ⟨k', ob', h2, h4⟩ <;> rw [he] at h2 <;> cases h2
 ·rcases h2 with h2 | ⟨k', ob', h2, h4⟩ <;> rw [he] at h2 <;> cases h2
 ·rcases h2 with h2 | ⟨k', ob', h2, h4⟩ <;> rw [he] at h2 <;> cases h2
theorem Agree.mono {ns ns' : List Nat} {m m' : Mem} (h : Agree ns' m m') (k : ∀ x ∈ ns, x ∈ ns') : Agree ns m m' := fun x hx => h x (k x hx)
theorem quiet_ret {d : Option Nat} {m : Mem} (r : SV) : Quiet d [] m (fun m K => K r m) := fun _ hK => ⟨r, .id, hK, .inl rfl, fun _ _ _ _ h => h⟩
theorem quiet_if {d : Option Nat} {ns : List Nat} {m : Mem} {F : Mem → (SV → Mem → Prop) → Prop} (h : ∀ K, F m K → ∃ r, K r m ∧ ∀ m', Agree ns m m' → ∀ K', K' r m' → F m' K') : Quiet d ns m F := fun K hK =>
 let ⟨r, h1, h2⟩ := h K hK; ⟨r, .id, h1, .inl rfl, fun m' ha _ K' hK' => h2 m' ha K' hK'⟩

section
variable {P : Program} {m : Mem} {d : Option Nat}
theorem loadK_q (g : Bool) (n : Nat) (x : SV) : Quiet d (nmR x) m (fun m K => loadK g n m K x) := quiet_if fun K hK => by
 simp only [loadK] at hK ⊢
 split at hK
 ·rename_i k o
  split at hK
  ·rename_i cs hm
   obtain ⟨h1, hK⟩ := hK
   cases g with
   | true => exact ⟨_, hK, fun m' ha K' hK' => by simp only [ha k (by simp [nmR, nmC]) _ hm]; exact ⟨h1, hK'⟩⟩
   | false =>
    simp only [Bool.false_eq_true, if_false] at hK
    split at hK
    ·rename_i y hy
     exact ⟨_, hK, fun m' ha K' hK' => by simp only [ha k (by simp [nmR, nmC]) _ hm, Bool.false_eq_true, if_false, hy]; exact ⟨h1, hK'⟩⟩
    ·exact hK.elim
  ·exact hK.elim
 ·obtain ⟨h1, hK⟩ := hK
  cases g with
  | true => exact ⟨_, hK, fun m' ha K' hK' => ⟨h1, hK'⟩⟩
  | false =>
   simp only [Bool.false_eq_true, if_false] at hK ⊢
   split at hK
   ·exact ⟨_, hK, fun m' ha K' hK' => ⟨h1, hK'⟩⟩
   ·exact hK.elim
 ·rename_i k n' i o
  split at hK
  ·rename_i f s T xs hm
   obtain ⟨h1, h2, hK⟩ := hK
   cases g with
   | true => exact ⟨_, hK, fun m' ha K' hK' => by simp only [ha k (by simp [nmR]) _ hm]; exact ⟨h1, h2, hK'⟩⟩
   | false =>
    simp only [Bool.false_eq_true, if_false] at hK
    split at hK
    ·rename_i y hy
     exact ⟨_, hK, fun m' ha K' hK' => by simp only [ha k (by simp [nmR]) _ hm, Bool.false_eq_true, if_false, hy]; exact ⟨h1, h2, hK'⟩⟩
    ·exact hK.elim
  ·exact hK.elim
 ·exact hK.elim
theorem allocK_q (z : Option (List CV)) : Quiet d [] m (fun m K => allocK d z m K) := fun K hK => by
 simp only [allocK] at hK ⊢
 split at hK
 ·rename_i k cs
  exact ⟨_, .new k (.x cs), hK.2, .inr ⟨k, _, rfl, rfl, hK.1⟩, fun m' _ hn K' hK' => ⟨hn k _ rfl, hK'⟩⟩
 ·exact hK.elim
theorem fieldK_q (f : Option (Nat × Nat)) (x : SV) : Quiet d (nmR x) m (fun m K => fieldK f m K x) := quiet_if fun K hK => by
 simp only [fieldK] at hK ⊢
 split at hK
 ·split at hK
  ·exact ⟨_, hK, fun m' _ K' hK' => hK'⟩
  ·exact hK.elim
 ·split at hK
  ·exact ⟨_, hK, fun m' _ K' hK' => hK'⟩
  ·exact hK.elim
 ·rename_i k n i o
  split at hK
  ·rename_i _ _ _ _ _ _ _ _ hm
   exact ⟨_, hK.2, fun m' ha K' hK' => by simp only [ha k (by simp [nmR]) _ hm]; exact ⟨hK.1, hK'⟩⟩
  ·exact hK.elim
 ·exact hK.elim
theorem indexK_q (es : Nat) (x y : SV) : Quiet d (nmR x ++ nmR y) m (fun m K => indexK es m K x y) := quiet_if fun K hK => by
 simp only [indexK] at hK ⊢
 split at hK
 ·obtain ⟨h1, h2, h3, hK⟩ := hK; exact ⟨_, hK, fun m' _ K' hK' => ⟨h1, h2, h3, hK'⟩⟩
 ·rename_i k n' _ n
  split at hK
  ·rename_i hm
   obtain ⟨h1, h2, h3, h4, hK⟩ := hK; exact ⟨_, hK, fun m' ha K' hK' => by simp only [ha k (by simp [nmR, nmC]) _ hm]; exact ⟨h1, h2, h3, h4, hK'⟩⟩
  ·exact hK.elim
 ·exact hK.elim
theorem extractK_q (j : Nat) (x : SV) : Quiet d [] m (fun m K => extractK j m K x) := quiet_if fun K hK => by
 simp only [extractK] at hK ⊢
 split at hK
 ·split at hK
  ·exact ⟨_, hK, fun m' _ K' hK' => hK'⟩
  ·exact hK.elim
 ·exact hK.elim
theorem pickK_q (x y z : SV) : Quiet d [] m (fun m K => pickK m K x y z) := quiet_if fun K hK => by
 simp only [pickK] at hK ⊢
 split at hK
 ·rename_i t
  cases t
  ·exact ⟨_, hK.2 rfl, fun m' _ K' hK' => ⟨(fun h => by cases h), fun _ => hK'⟩⟩
  ·exact ⟨_, hK.1 rfl, fun m' _ K' hK' => ⟨fun _ => hK', (fun h => by cases h)⟩⟩
 ·exact hK.elim
theorem intK_q {op : BinOp} {k : IntKind} {x y : Int} {K : CV → Prop} (h : intK op k x y K) : ∃ v, K v ∧ ∀ K', K' v → intK op k x y K' := by
 cases op <;> simp only [intK] at h ⊢ <;> first | exact ⟨_, h, fun _ h => h⟩ | exact ⟨_, h.2, fun _ h' => ⟨h.1, h'⟩⟩
theorem shiftK_q {op : BinOp} {k : IntKind} {x y : Int} {K : CV → Prop} (h : shiftK op k x y K) : ∃ v, K v ∧ ∀ K', K' v → shiftK op k x y K' := by
 cases op <;> simp only [shiftK] at h ⊢ <;> exact ⟨_, h.2, fun _ h' => ⟨h.1, h'⟩⟩
theorem strK_q {op : BinOp} {x y : ByteArray} {K : CV → Prop} (h : strK op x y K) : ∃ v, K v ∧ ∀ K', K' v → strK op x y K' := by
 cases op <;> simp only [strK] at h ⊢ <;> first | exact ⟨_, h, fun _ h => h⟩ | exact ⟨_, h.2, fun _ h' => ⟨h.1, h'⟩⟩
theorem binK_q (op : BinOp) (t : TypeId) (x y : SV) : Quiet d [] m (fun m K => binK P op t m K x y) := quiet_if fun K hK => by
 simp only [binK] at hK ⊢
 split at hK
 ·cases hs : isShift op with
  | true =>
   obtain ⟨v, h1, h2⟩ := shiftK_q (hK.1 hs); exact ⟨_, h1, fun m' _ K' hK' => ⟨fun _ => h2 (fun v => K' (.c v) m') hK', (fun h => by cases h)⟩⟩
  | false =>
   obtain ⟨h0, hK⟩ := hK.2 hs; obtain ⟨v, h1, h2⟩ := intK_q hK; exact ⟨_, h1, fun m' _ K' hK' => ⟨(fun h => by cases h), fun _ => ⟨h0, h2 (fun v => K' (.c v) m') hK'⟩⟩⟩
 ·obtain ⟨v, h1, h2⟩ := strK_q hK; exact ⟨_, h1, fun m' _ K' hK' => h2 (fun v => K' (.c v) m') hK'⟩
 ·obtain ⟨h0, hK⟩ := hK
  split at hK
  ·exact ⟨_, hK, fun m' _ K' hK' => ⟨h0, hK'⟩⟩
  ·exact ⟨_, hK, fun m' _ K' hK' => ⟨h0, hK'⟩⟩
  ·exact hK.elim
 ·simp only [nilK] at hK ⊢
  split at hK
  ·obtain ⟨h1, h2, h3, h4, hK⟩ := hK
   split at hK
   ·exact ⟨_, hK, fun m' _ K' hK' => ⟨h1, h2, h3, h4, hK'⟩⟩
   ·exact ⟨_, hK, fun m' _ K' hK' => ⟨h1, h2, h3, h4, hK'⟩⟩
   ·exact hK.elim
  ·exact hK.elim
 ·simp only [eqgK] at hK ⊢
  split at hK
  ·obtain ⟨h1, h2, h3, h4, hK⟩ := hK
   split at hK
   ·exact ⟨_, hK, fun m' _ K' hK' => ⟨h1, h2, h3, h4, hK'⟩⟩
   ·exact ⟨_, hK, fun m' _ K' hK' => ⟨h1, h2, h3, h4, hK'⟩⟩
   ·exact hK.elim
  ·exact hK.elim
 ·exact hK.elim
theorem nckK_q (x : SV) : Quiet d [] m (fun m K => nckK m K x) := quiet_if fun K hK => by
 simp only [nckK] at hK ⊢
 split at hK
 ·exact ⟨_, hK, fun m' _ K' hK' => hK'⟩
 ·exact ⟨_, hK, fun m' _ K' hK' => hK'⟩
 ·exact ⟨_, hK, fun m' _ K' hK' => hK'⟩
 ·exact hK.elim
theorem arrK_q (p : Nat × Nat) (x y : SV) : Quiet d [] m (fun m K => arrK p m K x y) := quiet_if fun K hK => by
 simp only [arrK] at hK ⊢
 split at hK
 ·exact ⟨_, hK.2.2, fun m' _ K' hK' => ⟨hK.1, hK.2.1, hK'⟩⟩
 ·exact hK.elim
theorem byteK_q (b : Bool) (x y : SV) : Quiet d [] m (fun m K => byteK b m K x y) := quiet_if fun K hK => by
 simp only [byteK] at hK ⊢
 split at hK
 ·obtain ⟨h1, h2, h3, hK⟩ := hK; exact ⟨_, hK, fun m' _ K' hK' => ⟨h1, h2, h3, hK'⟩⟩
 ·exact hK.elim
theorem maxK_q (mx : Bool) (x y : SV) : Quiet d [] m (fun m K => maxK mx m K x y) := quiet_if fun K hK => by
 simp only [maxK] at hK ⊢
 split at hK
 ·obtain ⟨h1, hK⟩ := hK
  cases mx
  ·exact ⟨_, hK, fun m' _ K' hK' => ⟨h1, hK'⟩⟩
  ·exact ⟨_, hK, fun m' _ K' hK' => ⟨h1, hK'⟩⟩
 ·exact hK.elim
theorem funK_q (fn : Go.Fn) (first cap : List SV) : Quiet d [] m (fun m K => funK fn first cap m K) := quiet_if fun K hK => by
 simp only [funK] at hK ⊢
 split at hK
 ·exact ⟨_, hK, fun m' _ K' hK' => hK'⟩
 ·exact hK.elim
theorem unK_q (op : UnOp) (x : SV) : Quiet d [] m (fun m K => unK op m K x) := quiet_if fun K hK => by
 simp only [unK] at hK ⊢
 split at hK
 ·split at hK
  ·exact ⟨_, hK, fun m' _ K' hK' => hK'⟩
  ·exact hK.elim
 ·split at hK
  ·exact ⟨_, hK, fun m' _ K' hK' => hK'⟩
  ·exact hK.elim
 ·exact hK.elim
theorem convK_q (k : Option IntKind) (x : SV) : Quiet d [] m (fun m K => convK k m K x) := quiet_if fun K hK => by
 simp only [convK] at hK ⊢
 split at hK
 ·split at hK
  ·exact ⟨_, hK, fun m' _ K' hK' => hK'⟩
  ·exact hK.elim
 ·exact hK.elim
theorem lenK_q (s : Option Bool) (x : SV) : Quiet d (nmR x) m (fun m K => lenK s m K x) := quiet_if fun K hK => by
 simp only [lenK] at hK ⊢
 split at hK
 ·exact ⟨_, hK.2, fun m' _ K' hK' => ⟨hK.1, hK'⟩⟩
 ·exact ⟨_, hK.2, fun m' _ K' hK' => ⟨hK.1, hK'⟩⟩
 ·rename_i k n
  obtain ⟨h0, hK⟩ := hK
  split at hK
  ·rename_i hm
   exact ⟨_, hK.2, fun m' ha K' hK' => by simp only [ha k (by simp [nmR, nmC]) _ hm]; exact ⟨h0, hK.1, hK'⟩⟩
  ·exact hK.elim
 ·exact ⟨_, hK.2, fun m' _ K' hK' => ⟨hK.1, hK'⟩⟩
 ·exact hK.elim
theorem fillC_q {pl : Nat → Option (Nat × Nat)} {KC : List CV → Prop} : ∀ {ps : List (Nat × SV)} {cs : List CV}, fillC pl cs KC ps → ∃ r, KC r ∧ ∀ K' : List CV → Prop, K' r → fillC pl cs K' ps
 | [], cs, h => ⟨cs, h, fun _ h => h⟩
 | (i, r) :: rest, cs, h => by
  simp only [fillC] at h ⊢
  split at h
  ·obtain ⟨h1, h2, h⟩ := h; obtain ⟨v, h3, h4⟩ := fillC_q h; exact ⟨v, h3, fun K' hK' => ⟨h1, h2, h4 K' hK'⟩⟩
  ·exact h.elim
theorem buildK_q (b : Option (List CV × List (Nat × Nat))) (ps : List (Nat × SV)) : Quiet d [] m (fun m K => buildK b m K ps) := quiet_if fun K hK => by
 simp only [buildK] at hK ⊢
 split at hK
 ·obtain ⟨v, h3, h4⟩ := fillC_q hK; exact ⟨_, h3, fun m' _ K' hK' => h4 (fun cs => K' (.g cs) m') hK'⟩
 ·exact hK.elim
theorem rowK_q (e : Option (TypeId × Nat × Nat)) (len : Nat) (ps : List (Nat × SV)) : Quiet d [] m (fun m K => rowK d e len m K ps) := fun K hK => by
 simp only [rowK] at hK ⊢
 split at hK
 ·rename_i k T es bs
  obtain ⟨h1, h2, h3, hK⟩ := hK
  split at hK
  ·rename_i f xs hr
   exact ⟨_, .new k _, hK.2, .inr ⟨k, _, rfl, rfl, h3⟩, fun m' _ hn K' hK' => ⟨h1, h2, hn k _ rfl, hK.1, hK'⟩⟩
  ·exact hK.elim
 ·exact hK.elim
theorem rowDK_q (e : Option (TypeId × Nat × Nat)) (len : Nat) (ps : List (Nat × SV)) : Quiet d [] m (fun m K => rowDK e len m K ps) := fun K hK => by
 simp only [rowDK] at hK ⊢
 split at hK
 ·obtain ⟨h1, h2, hK⟩ := hK
  split at hK
  ·obtain ⟨h3, hK⟩ := hK; exact ⟨_, .id, hK, .inl rfl, fun m' _ _ K' hK' => ⟨h1, h2, h3, hK'⟩⟩
  ·exact hK.elim
 ·exact hK.elim
theorem rwK_q (e : Option (TypeId × Nat × Nat)) (len : Nat) (ps : List (Nat × SV)) : Quiet d [] m (fun m K => Rw d e len m K ps) := fun K hK =>
 hK.elim (fun h => let ⟨r, f, h1, h2, h3⟩ := rowK_q (d := d) e len ps K h; ⟨r, f, h1, h2, fun m' a b K' hk => .inl (h3 m' a b K' hk)⟩) fun h => let ⟨r, f, h1, h2, h3⟩ := rowDK_q (d := d) e len ps K h; ⟨r, f, h1, h2, fun m' a b K' hk => .inr (h3 m' a b K' hk)⟩
theorem makeK_q (e : Option (TypeId × Nat × Nat)) (l q : SV) : Quiet d [] m (fun m K => makeK P d e m K l q) := fun K hK => by
 simp only [makeK] at hK ⊢
 split at hK
 ·rename_i k T es bs
  split at hK
  ·obtain ⟨h1, h2, h3, h4, h5, h6, h7, hK⟩ := hK
   rename_i hz
   exact ⟨_, .new k _, hK, .inr ⟨k, _, rfl, rfl, h7⟩, fun m' _ hn K' hK' => ⟨h1, h2, h3, h4, h5, h6, hn k _ rfl, hK'⟩⟩
  ·exact hK.elim
 ·exact hK.elim
theorem bndK_q {n : Nat} {KN : Nat → Nat → Prop} {lo hi : Option SV} (h : bndK n KN lo hi) : ∃ l r, KN l r ∧ ∀ K' : Nat → Nat → Prop, K' l r → bndK n K' lo hi := by
 simp only [bndK] at h ⊢
 split at h
 ·exact ⟨_, _, h, fun _ h => h⟩
 ·exact ⟨_, _, h.2.2, fun _ h' => ⟨h.1, h.2.1, h'⟩⟩
 ·exact ⟨_, _, h.2.2, fun _ h' => ⟨h.1, h.2.1, h'⟩⟩
 ·exact ⟨_, _, h.2.2.2, fun _ h' => ⟨h.1, h.2.1, h.2.2.1, h'⟩⟩
 ·exact h.elim
theorem sliceK_q (T : TypeId) (x : SV) (lo hi : Option SV) : Quiet d [] m (fun m K => sliceK P T m K x lo hi) := quiet_if fun K hK => by
 simp only [sliceK] at hK ⊢
 split at hK
 ·split at hK
  ·rename_i he
   obtain ⟨l, r, h1, h2⟩ := bndK_q hK.2; exact ⟨_, h1, fun m' _ K' hK' => ⟨hK.1, h2 _ hK'⟩⟩
  ·exact hK.elim
 ·obtain ⟨l, r, h1, h2⟩ := bndK_q hK.2; exact ⟨_, h1, fun m' _ K' hK' => ⟨hK.1, h2 _ hK'⟩⟩
 ·exact hK.elim
theorem argCs_q {xs : List CV} : ∀ {KA : Bool → List D → Prop}, argCs m xs KA → ∃ b ds, KA b ds ∧ ∀ m', Agree (xs.flatMap nmC) m m' → ∀ K', K' b ds → argCs m' xs K' := by
 induction xs with
 | nil => exact fun h => ⟨_, _, h, fun _ _ _ h => h⟩
 | cons x r ih =>
  intro KA h
  have hr : ∀ m', Agree ((x :: r).flatMap nmC) m m' → Agree (r.flatMap nmC) m m' := fun m' ha => ha.mono fun k hk => by simp only [List.flatMap_cons, List.mem_append]; exact .inr hk
  cases x with
  | r k n =>
   simp only [argCs] at h ⊢
   split at h
   ·rename_i hm
    obtain ⟨h1, h⟩ := h; obtain ⟨b, ds, h2, h3⟩ := ih h; exact ⟨_, _, h2, fun m' ha K' hK' => by simp only [ha k (by simp [nmC]) _ hm]; exact ⟨h1, h3 m' (hr m' ha) _ hK'⟩⟩
   ·exact h.elim
  | i k n => obtain ⟨b, ds, h2, h3⟩ := ih h; exact ⟨_, _, h2, fun m' ha K' hK' => h3 m' (hr m' ha) _ hK'⟩
  | b x => obtain ⟨b, ds, h2, h3⟩ := ih h; exact ⟨_, _, h2, fun m' ha K' hK' => h3 m' (hr m' ha) _ hK'⟩
  | s x => obtain ⟨b, ds, h2, h3⟩ := ih h; exact ⟨_, _, h2, fun m' ha K' hK' => h3 m' (hr m' ha) _ hK'⟩
  | l fr xs => obtain ⟨b, ds, h2, h3⟩ := ih h; exact ⟨_, _, h2, fun m' ha K' hK' => h3 m' (hr m' ha) _ hK'⟩
  | nl => obtain ⟨b, ds, h2, h3⟩ := ih h; exact ⟨_, _, h2, fun m' ha K' hK' => h3 m' (hr m' ha) _ hK'⟩
  | np => obtain ⟨b, ds, h2, h3⟩ := ih h; exact ⟨_, _, h2, fun m' ha K' hK' => h3 m' (hr m' ha) _ hK'⟩
  | d fr T ds => obtain ⟨b, ds, h2, h3⟩ := ih h; exact ⟨_, _, h2, fun m' ha K' hK' => h3 m' (hr m' ha) _ hK'⟩
  | p k o => exact h.elim
  | u => exact h.elim
  | f n ks => exact h.elim
  | nf => exact h.elim
  | m k => exact h.elim
  | nm => exact h.elim
  | t k => exact h.elim
theorem argK_q {x : SV} {KA : Bool → AD → Prop} (h : argK m x KA) : ∃ b ad, KA b ad ∧ ∀ m', Agree (nmR x) m m' → ∀ K', K' b ad → argK m' x K' := by
 simp only [argK] at h ⊢
 split at h
 ·rename_i x
  obtain ⟨b, ds, h1, h2⟩ := argCs_q h
  split at h1
  ·exact ⟨_, _, h1, fun m' ha K' hK' => h2 m' (by simpa [nmR] using ha) _ hK'⟩
  ·exact h1.elim
 ·obtain ⟨b, ds, h1, h2⟩ := argCs_q h; exact ⟨_, _, h1, fun m' ha K' hK' => h2 m' (by simpa [nmR] using ha) _ hK'⟩
 ·exact h.elim
theorem argsK_q : ∀ {xs : List SV} {KA : Bool → List AD → Prop}, argsK m xs KA → ∃ b ads, KA b ads ∧ ∀ m', Agree (xs.flatMap nmR) m m' → ∀ K', K' b ads → argsK m' xs K'
 | [], KA, h => ⟨_, _, h, fun _ _ _ h => h⟩
 | x :: r, KA, h => by
  obtain ⟨b, d, h1, h2⟩ := argK_q h; obtain ⟨b', ds, h3, h4⟩ := argsK_q h1; exact ⟨_, _, h3, fun m' ha K' hK' => h2 m' (ha.mono fun k hk => by simp only [List.flatMap_cons, List.mem_append]; exact .inl hk) _ (h4 m' (ha.mono fun k hk => by simp only [List.flatMap_cons, List.mem_append]; exact .inr hk) _ hK')⟩
theorem callK_q (f : FuncId) (al : List SV) : Quiet d (al.flatMap nmR) m (fun m K => callK P d f m K al) := fun K hK => by
 simp only [callK] at hK ⊢; obtain ⟨h0, hK⟩ := hK; obtain ⟨b, ads, ⟨r, h1, h2⟩, h4⟩ := argsK_q hK
 cases r with
 | v r => exact ⟨r, .id, h2.2.2, .inl rfl, fun m' ha _ K' hK' => ⟨h0, h4 m' ha _ ⟨.v r, h1, h2.1, h2.2.1, hK'⟩⟩⟩
 | o fr sz T xs =>
  simp only [anK] at h2; obtain ⟨h2, h3⟩ := h2
  split at h3
  ·rename_i k
   exact ⟨_, .new k (.r fr sz T xs), h3.2, .inr ⟨k, _, rfl, rfl, h3.1⟩, fun m' ha hn K' hK' => ⟨h0, h4 m' ha _ ⟨.o fr sz T xs, h1, h2, hn k _ rfl, hK'⟩⟩⟩
  ·exact h3.elim
 | s cs i fr sz T xs =>
  simp only [anK] at h2; obtain ⟨h2, h3⟩ := h2
  split at h3
  ·rename_i k
   exact ⟨_, .new k (.r fr sz T xs), h3.2, .inr ⟨k, _, rfl, rfl, h3.1⟩, fun m' ha hn K' hK' => ⟨h0, h4 m' ha _ ⟨.s cs i fr sz T xs, h1, h2, hn k _ rfl, hK'⟩⟩⟩
  ·exact h3.elim
theorem mkmK_q (mp : Option (Option IntKind × AD)) (res : Option SV) : Quiet d [] m (fun m K => mkmK d mp res m K) := fun K hK => by
 simp only [mkmK] at hK ⊢
 split at hK
 ·rename_i k kk z h1
  exact ⟨_, .new k _, hK.2, .inr ⟨k, _, rfl, rfl, hK.1⟩, fun m' _ hn K' hK' => by first | exact ⟨hn k _ rfl, hK'⟩ | (simp only [h1]; exact ⟨hn k _ rfl, hK'⟩)⟩
 ·exact hK.elim
theorem lookK_q (mp : Option (Option IntKind × AD)) (comma : Bool) (x y : SV) : Quiet d (nmR x) m (fun m K => lookK mp comma m K x y) := quiet_if fun K hK => by
 simp only [lookK] at hK ⊢
 split at hK
 ·rename_i hd
  obtain ⟨h1, hK⟩ := hK
  split at hK
  ·rename_i k
   split at hK
   ·rename_i hm
    obtain ⟨h2, hK⟩ := hK
    cases comma with
    | true => exact ⟨_, hK, fun m' ha K' hK' => by simp only [ha k (by simp [nmR, nmC]) _ hm]; exact ⟨h1, h2, hK'⟩⟩
    | false => exact ⟨_, hK, fun m' ha K' hK' => by simp only [ha k (by simp [nmR, nmC]) _ hm]; exact ⟨h1, h2, hK'⟩⟩
   ·exact hK.elim
  ·cases comma with
   | true => exact ⟨_, hK, fun m' ha K' hK' => by first | exact ⟨h1, hK'⟩ | (simp only [hd]; exact ⟨h1, hK'⟩)⟩
   | false => exact ⟨_, hK, fun m' ha K' hK' => by first | exact ⟨h1, hK'⟩ | (simp only [hd]; exact ⟨h1, hK'⟩)⟩
  ·exact hK.elim
 ·exact hK.elim
theorem rngK_q (b : Bool) (x : SV) : Quiet d (nmR x) m (fun m K => rngK d b m K x) := fun K hK => by
 simp only [rngK] at hK ⊢
 split at hK
 ·rename_i j k
  split at hK
  ·rename_i hm
   obtain ⟨h1, h2, h3, hK⟩ := hK; exact ⟨_, .new j _, hK, .inr ⟨j, _, rfl, rfl, h2⟩, fun m' ha hn K' hK' => by simp only [ha k (by simp [nmR, nmC]) _ hm]; exact ⟨h1, hn j _ rfl, h3, hK'⟩⟩
  ·exact hK.elim
 ·exact hK.elim
theorem ryK_q (x : SV) : Quiet d (nmR x) m (fun m K => ryK m K x) := quiet_if fun K hK => by
 simp only [ryK] at hK ⊢
 split at hK
 ·rename_i j
  split at hK
  ·rename_i hm
   exact ⟨_, hK, fun m' ha K' hK' => by simp only [ha j (by simp [nmR, nmC]) _ hm]; exact hK'⟩
  ·exact hK.elim
 ·exact hK.elim
def Sets (ns : List Nat) (m : Mem) (F : Mem → (SV → Mem → Prop) → Prop) : Prop := ∀ K, F m K → ∃ r k ob, K r (mset m k ob) ∧ k ∈ ns ∧ ∀ m' : Mem, (∀ j ob, mat m' j = some ob → mat m j = some ob) → Agree ns m m' → ∀ K', K' r (mset m' k ob) → F m' K'
theorem freeIt_eq {m' : Mem} {k : Nat} (h : freeIt m k) (e : ∀ j ob, mat m' j = some ob → mat m j = some ob) : freeIt m' k := fun j ob hj => h j ob (e j ob hj)
theorem updK_q (mp : Option (Option IntKind × AD)) (x y v : SV) : Sets (nmR x) m (fun m K => updK mp m K x y v) := fun K hK => by
 simp only [updK] at hK ⊢
 split at hK
 ·rename_i h1 h2
  obtain ⟨h3, hK⟩ := hK
  split at hK
  ·rename_i k
   split at hK
   ·rename_i hm
    obtain ⟨h4, h5, hK⟩ := hK; exact ⟨_, k, _, hK, by simp [nmR, nmC], fun m' e ha K' hK' => by simp only [ha k (by simp [nmR, nmC]) _ hm]; exact ⟨h3, h4, freeIt_eq h5 e, hK'⟩⟩
   ·exact hK.elim
  ·exact hK.elim
 ·exact hK.elim
theorem entK_q (mp : Option (Option IntKind × AD)) (x y : SV) : Sets (nmR x) m (fun m K => entK mp m K x y) := fun K hK => by
 simp only [entK] at hK ⊢
 split at hK
 ·rename_i h1
  obtain ⟨h3, hK⟩ := hK
  split at hK
  ·rename_i k
   split at hK
   ·rename_i hm
    obtain ⟨h4, h5, h6, hK⟩ := hK; exact ⟨_, k, _, hK, by simp [nmR, nmC], fun m' e ha K' hK' => by simp only [ha k (by simp [nmR, nmC]) _ hm]; exact ⟨h3, h4, freeIt_eq h5 e, h6, hK'⟩⟩
   ·exact hK.elim
  ·exact hK.elim
 ·exact hK.elim
theorem estK_q (x y v : SV) : Sets (nmR x) m (fun m K => estK m K x y v) := fun K hK => by
 simp only [estK] at hK ⊢
 split at hK
 ·rename_i k n f u h1
  obtain ⟨h3, hK⟩ := hK
  split at hK
  ·rename_i hm
   obtain ⟨h4, hK⟩ := hK
   split at hK
   ·rename_i p hp
    exact ⟨_, k, _, hK, by simp [nmR, nmC], fun m' e ha K' hK' => by simp only [ha k (by simp [nmR, nmC]) _ hm, hp]; exact ⟨freeIt_eq h3 e, h4, hK'⟩⟩
   ·exact hK.elim
  ·exact hK.elim
 ·exact hK.elim
theorem storeK_q (n : Nat) (x y : SV) : Same false d (nmR x ++ nmR y) m (fun m K => storeK n m K x y) := fun K hK => by
 simp only [storeK] at hK ⊢
 split at hK
 ·rename_i k o ys hy
  split at hK
  ·rename_i cs hm
   obtain ⟨h1, h2, hK⟩ := hK; exact ⟨_, .set k _, hK, ⟨fun _ _ h => (by cases h), (fun h => (by cases h)), fun _ _ h => (by cases h), fun _ _ h => (by injection h with e1 e2; subst e1; simp [nmR, nmC])⟩, fun m' ha _ K' hK' => by simp only [ha k (by simp [nmR, nmC]) _ hm]; exact ⟨h1, h2, hK'⟩⟩
  ·exact hK.elim
 ·rename_i k n' i o ys hy
  split at hK
  ·rename_i hm hs
   obtain ⟨h1, h2, h3, hK⟩ := hK; exact ⟨_, .set k _, hK, ⟨fun _ _ h => (by cases h), (fun h => (by cases h)), fun _ _ h => (by cases h), fun _ _ h => (by injection h with e1 e2; subst e1; simp [nmR])⟩, fun m' ha _ K' hK' => by simp only [hs, ha k (by simp [nmR]) _ hm]; exact ⟨h1, h2, h3, hK'⟩⟩
  ·exact hK.elim
 ·exact hK.elim
theorem srcK_q {KS : Bool → List (List D) → Prop} {x : SV} (h : srcK m KS x) : ∃ f ys, KS f ys ∧ ∀ m', Agree (nmR x) m m' → ∀ K' : Bool → List (List D) → Prop, K' f ys → srcK m' K' x := by
 simp only [srcK] at h ⊢
 split at h
 ·exact ⟨_, _, h, fun _ _ _ h => h⟩
 ·exact ⟨_, _, h, fun _ _ _ h => h⟩
 ·rename_i k n
  split at h
  ·rename_i hm
   exact ⟨_, _, h.2, fun m' ha K' hK' => by simp only [ha k (by simp [nmR, nmC]) _ hm]; exact ⟨h.1, hK'⟩⟩
  ·exact h.elim
 ·exact h.elim
theorem bstrK_q (b : Bool) (x : SV) : Quiet d (nmR x) m (fun m K => bstrK b m K x) := quiet_if fun K hK => by
 simp only [bstrK] at hK ⊢; obtain ⟨h0, hK⟩ := hK; obtain ⟨f, ys, ⟨h1, hK⟩, h2⟩ := srcK_q hK
 split at hK
 ·rename_i l hl
  exact ⟨_, hK, fun m' ha K' hK' => ⟨h0, h2 m' ha _ ⟨h1, by rw [hl]; exact hK'⟩⟩⟩
 ·exact hK.elim
theorem copK_q (e : Option (TypeId × Nat × Nat)) (s x : SV) : Same false d (nmR s ++ nmR x) m (fun m K => copK e m K s x) := fun K hK => by
 simp only [copK] at hK ⊢
 split at hK
 ·obtain ⟨h0, hK⟩ := hK
  split at hK
  ·rename_i k n
   split at hK
   ·rename_i hm
    obtain ⟨h3, h4, hK0⟩ := hK; obtain ⟨f, ys, ⟨h1, h5, hK⟩, h2⟩ := srcK_q hK0; refine ⟨_, .set k _, hK, ⟨fun _ _ h => (by cases h), (fun h => (by cases h)), fun _ _ h => (by cases h), fun _ _ h => (by injection h with e1 e2; subst e1; simp [nmR, nmC])⟩, fun m' ha _ K' hK' => ⟨h0, ?_⟩⟩; simp only [ha k (by simp [nmR, nmC]) _ hm]; exact ⟨h3, h4, h2 m' (ha.mono (by simp; exact fun _ h => .inr h)) _ ⟨h1, h5, hK'⟩⟩
   ·exact hK.elim
  ·exact hK.elim
 ·exact hK.elim
theorem appK_q (e : Option (TypeId × Nat × Nat)) (s x : SV) : Same false d (nmR s ++ nmR x) m (fun m K => appK d e m K s x) := fun K hK => by
 simp only [appK] at hK ⊢
 split at hK
 ·obtain ⟨h0, hK0⟩ := hK; obtain ⟨f, ys, ⟨h1, hK⟩, h2⟩ := srcK_q hK0; clear hK0
  split at hK
  ·split at hK
   ·rename_i k
    obtain ⟨h3, h4, h5, hK⟩ := hK; exact ⟨_, .new k _, hK, ⟨fun _ _ h => (by injection h with e1 e2; subst e1; exact ⟨rfl, h3⟩), (fun h => (by cases h)), fun _ _ h => (by cases h), fun _ _ h => (by cases h)⟩, fun m' ha hn K' hK' => ⟨h0, h2 m' (ha.mono (by simp; exact fun _ h => .inr h)) _ ⟨h1, hn k _ rfl, h4, h5, hK'⟩⟩⟩
   ·exact hK.elim
  ·rename_i k n
   split at hK
   ·rename_i hm
    obtain ⟨h3, h4, h5, h6, h7, h8, hK⟩ := hK; refine ⟨_, .set k _, hK, ⟨fun _ _ h => (by cases h), (fun h => (by cases h)), fun _ _ h => (by cases h), fun _ _ h => (by injection h with e1 e2; subst e1; simp [nmR, nmC])⟩, fun m' ha _ K' hK' => ⟨h0, h2 m' (ha.mono (by simp; exact fun _ h => .inr h)) _ ⟨h1, ?_⟩⟩⟩; simp only [ha k (by simp [nmR, nmC]) _ hm]; exact ⟨h3, h4, h5, h6, h7, h8, hK'⟩
   ·exact hK.elim
  ·exact hK.elim
 ·exact hK.elim
end

end Go.Proofs.YtbgifiijjjoebaaGreatDoor
