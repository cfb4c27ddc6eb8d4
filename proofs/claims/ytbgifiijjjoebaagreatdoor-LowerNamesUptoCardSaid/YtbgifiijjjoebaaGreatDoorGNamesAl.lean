/- Contracts out of code. No conditions. -/
import Derived.Test.YtbgifiijjjoebaaGreatDoorGNamesAk
namespace Go.Proofs.YtbgifiijjjoebaaGreatDoor
open Go.RowKit

inductive D.Ok : D → Prop
 | i {k : IntKind} {n : Int} : k.min ≤ n → n ≤ k.max → D.Ok (.i k n)
 | b {x : Bool} : D.Ok (.b x)
 | s {x : ByteArray} : x.size ≤ maxLen → D.Ok (.s x)
 | l {xs : List (List D)} : xs.length ≤ maxLen → (∀ e ∈ xs, ∀ d ∈ e, D.Ok d) → D.Ok (.l xs)
 | p {T : TypeId} {ds : List D} : (∀ d ∈ ds, D.Ok d) → D.Ok (.p T ds)
 | np : D.Ok .np
theorem ok_s {x : ByteArray} : D.Ok (.s x) ↔ x.size ≤ 9223372036854775807 := ⟨fun h => by cases h; simpa [maxLen] using ‹_›, fun h => .s (by simpa [maxLen] using h)⟩
theorem ok_l {xs : List (List D)} : D.Ok (.l xs) ↔ xs.length ≤ 9223372036854775807 ∧ ∀ e ∈ xs, ∀ d ∈ e, D.Ok d := ⟨fun h => by cases h; exact ⟨by simpa [maxLen] using ‹_›, ‹_›⟩, fun h => .l (by simpa [maxLen] using h.1) h.2⟩
def AD.Ok : AD → Prop
 | .c d => D.Ok d
 | .g ds => ∀ d ∈ ds, D.Ok d
def AD.rv : AD → SV
 | .c d => .c (toC false d)
 | .g ds => .g (ds.map (toC false))
def begS (args : List AD) (n : Nat) : AS := ⟨n, fun t => (args.map AD.rv).getD t .u, []⟩
def tellC (m : Mem) : CV → CV → Prop
 | .l f xs, .l f' ys => (f' = true → f = true) ∧ xs = ys
 | .d f T xs, .d f' U ys => (f' = true → f = true) ∧ T = U ∧ xs = ys
 | .nl, .l _ ys => ys = []
 | .r k n, .l f' ys => match mat m k with
  | some (.r f _ _ xs) => n = xs.length ∧ (f' = true → f = true) ∧ xs = ys
  | _ => False
 | .i k n, .i k' n' => k = k' ∧ n = n'
 | .b x, .b y => x = y
 | .s x, .s y => x = y
 | .nl, .nl => True
 | .np, .np => True
 | _, _ => False
def tellCs (m : Mem) : List CV → List CV → Prop
 | [], [] => True
 | x :: r, y :: s => tellC m x y ∧ tellCs m r s
 | _, _ => False
def tellA (m : Mem) : AV → AV → Prop
 | .c x, .c y => tellC m x y
 | .g cs, .g ds => tellCs m cs ds
 | _, _ => False
def tellAs (m : Mem) : List AV → List AV → Prop
 | [], [] => True
 | x :: r, y :: s => tellA m x y ∧ tellAs m r s
 | _, _ => False
def resK (P : Program) (S : AS) (K : AV → Prop) : ResultVar → Prop
 | .tmp t => match ez S (.tmp t) with
  | .c x => K (.c x)
  | .g cs => K (.g cs)
  | _ => False
 | .cell t T => match ez S (.tmp t), lyt P T with
  | .c (.p k 0), some (g, n) => match mat S.m k with
   | some (.x cs) => cs.length = n ∧ (if g then K (.g cs) else match cs with
    | [x] => K (.c x)
    | _ => False)
   | _ => False
  | _, _ => False
def resKs (P : Program) (S : AS) : List ResultVar → (List AV → Prop) → Prop
 | [], K => K []
 | v :: r, K => resK P S (fun x => resKs P S r fun xs => K (x :: xs)) v
def endK (P : Program) (rs : List ResultVar) (r : SV) (e : Exit) (S : AS) : Prop :=
 (match e with | .ret => True | .normal => True | _ => False) ∧ resKs P S rs fun xs => match xs, r with
  | [x], .c y => tellA S.m x (.c y)
  | [x], .g ys => tellA S.m x (.g ys)
  | xs, .t ys => xs.length ≠ 1 ∧ tellAs S.m xs ys
  | _, _ => False

section
variable {P : Program} {w0 : Beg} {S : AS} {a : Act} {w : World} {c : Cx}
def Cx.end_ (_ : Cx) (X : Nat → Prop) (n0 sz : Nat) : Cx := ⟨fun _ => 0, fun _ => undef, fun b => X b ∨ n0 ≤ b ∧ b < sz, n0⟩
theorem tellC_rel {X : Nat → Prop} (h : RelX w0 c S a w) (hX : ∀ b, c.X b → X b ∨ c.n0 ≤ b ∧ b < w.heap.size) {v : Value} {x y : CV} (hx : RelC c S.m w v x) (ht : tellC S.m x y) : RelC (c.end_ X c.n0 w.heap.size) [] w v y := by
 have hY : ∀ {f f' : Bool}, (f' = true → f = true) → ∀ b, c.Y f b → (c.end_ X c.n0 w.heap.size).Y f' b := fun hf b hb => ⟨hX b hb.1, fun e => hb.2 (hf e)⟩
 unfold tellC at ht
 split at ht
 ·rename_i f xs f' ys
  obtain ⟨hf, rfl⟩ := ht
  exact Rp.widen hx fun b hb _ => hY hf b hb
 ·rename_i f T xs f' U ys
  obtain ⟨hf, rfl, rfl⟩ := ht
  exact Rp.widen hx fun b hb _ => hY hf b hb
 ·subst ht; have hx : v = .slice none 0 0 := hx; rw [hx]; exact Rp.of_sl (sz := 1) (by omega) (Sl.nil0 _ _ _)
 ·rename_i k n f' ys
  split at ht
  ·rename_i f s T xs hm
   obtain ⟨hn, hf, rfl⟩ := ht; obtain ⟨fr0, sz0, T0, xs0, h1, h2, h3, h4⟩ := hx; rw [hm] at h1
   injection h1 with h1
   injection h1 with e1 e2 e3 e4
   subst e1; subst e2; subst e3; subst e4
   obtain ⟨h5, h6, h7, h8⟩ := h.mem k _ hm; have hr := h6.row
   have h9 : Own s ED w (c.end_ X c.n0 w.heap.size).X c.n0 T (c.ρ k) xs := h6.widen fun b hb _ => hX b hb.1
   obtain ⟨ys, q1, q2⟩ := h6; rw [h3 hn]
   rcases q1.2 with ⟨e, hn0⟩ | ⟨g, cap', cur, hv, hbg, hg, hnc, hcm, hcs, htake⟩
   ·have : xs = [] := List.eq_nil_of_length_eq_zero hn0; subst this; rw [e]; exact Rp.of_sl h5 (Sl.nil0 _ _ _)
   ·rw [hv]; refine Rp.of_sl h5 (Sl.of_flat hnc hcm (Thaw.of_heap hg _ _) (q2.widen fun b hb _ => hY hf b hb.1) fun _ => ⟨g, 0, rfl, ⟨.inr ⟨hbg, lt_of_some hg⟩, fun _ => hbg⟩, fun j u hj => ?_⟩); have := q1.cells (g := g) (by rw [hv]; rfl) j u hj
    simpa [Addr.add_lit] using this
  ·exact ht.elim
 ·obtain ⟨rfl, rfl⟩ := ht; exact hx
 ·subst ht; exact hx
 ·subst ht; exact hx
 ·exact hx
 ·exact hx
 ·exact ht.elim
theorem tellCs_rel {X : Nat → Prop} (h : RelX w0 c S a w) (hX : ∀ b, c.X b → X b ∨ c.n0 ≤ b ∧ b < w.heap.size) : ∀ {vs : List Value} {xs ys : List CV}, F2 (RelC c S.m w) vs xs → tellCs S.m xs ys → F2 (RelC (c.end_ X c.n0 w.heap.size) [] w) vs ys
 | _, _, [], .nil, _ => .nil
 | _, _, _ :: _, .nil, ht => ht.elim
 | _, _, [], .cons _ _, ht => ht.elim
 | _, _, _ :: _, .cons h1 h2, ht => .cons (tellC_rel h hX h1 ht.1) (tellCs_rel h hX h2 ht.2)
theorem tellA_rel {X : Nat → Prop} (h : RelX w0 c S a w) (hX : ∀ b, c.X b → X b ∨ c.n0 ≤ b ∧ b < w.heap.size) {v : Value} {x y : AV} (hx : RelA c S.m w v x) (ht : tellA S.m x y) : RelA (c.end_ X c.n0 w.heap.size) [] w v y := by
 unfold tellA at ht
 split at ht
 ·exact tellC_rel h hX hx ht
 ·obtain ⟨vs, e, hx⟩ := hx; exact ⟨vs, e, tellCs_rel h hX hx ht⟩
 ·exact ht.elim
theorem tellAs_rel {X : Nat → Prop} (h : RelX w0 c S a w) (hX : ∀ b, c.X b → X b ∨ c.n0 ≤ b ∧ b < w.heap.size) : ∀ {vs : List Value} {xs ys : List AV}, F2 (RelA c S.m w) vs xs → tellAs S.m xs ys → F2 (RelA (c.end_ X c.n0 w.heap.size) [] w) vs ys
 | _, _, [], .nil, _ => .nil
 | _, _, _ :: _, .nil, ht => ht.elim
 | _, _, [], .cons _ _, ht => ht.elim
 | _, _, _ :: _, .cons h1 h2, ht => .cons (tellA_rel h hX h1 ht.1) (tellAs_rel h hX h2 ht.2)
def rv1 (tmps : Array Value) : ResultVar → Sem Value
 | .tmp t => pure (tmps.getD t undef)
 | .cell p t => do loadVar t (← asAddr (tmps.getD p undef))
theorem resK_rel (h : RelX w0 c S a w) {K : AV → Prop} {v : ResultVar} (hK : resK P S K v) : ∃ u x, (rv1 a.tmps v).run P w = .ok u w ∧ RelA c S.m w u x ∧ K x := by
 cases v with
 | tmp t =>
  have h1 := h.evs (.tmp t); have h2 : a.eval (.tmp t) = a.tmps.getD t undef := rfl; simp only [resK] at hK
  split at hK
  ·rename_i x hx
   rw [hx] at h1; exact ⟨_, .c x, rfl, h1, hK⟩
  ·rename_i cs hx
   rw [hx] at h1; exact ⟨_, .g cs, rfl, h1, hK⟩
  ·exact hK.elim
 | cell p T =>
  have h1 := h.evs (.tmp p); have h2 : a.eval (.tmp p) = a.tmps.getD p undef := rfl; simp only [resK] at hK
  split at hK
  ·rename_i k g n hx hl
   rw [hx] at h1; obtain ⟨h1, _⟩ := h1; rw [h2] at h1
   split at hK
   ·rename_i cs hm
    obtain ⟨hcl, hK⟩ := hK; obtain ⟨q1, q2, vs, T', q3, q4⟩ := h.mem k _ hm; have hvl := forall2_len q4; have hr := q3.range 0 n; rw [List.drop_zero, List.take_of_length_le (by omega)] at hr; obtain ⟨r1, r2⟩ := run_load_gen (P := P) (w := w) hl (c.β k) 0 vs.toList hr (by omega); simp only [Instr.loadAt, Instr.sureAddr, Sem.run_bind, Sem.run_pure, Result.andThen_ok] at r1 r2
    cases g with
    | true =>
     simp only [if_true] at hK; refine ⟨.agg vs, .g cs, ?_, ⟨vs, rfl, q4⟩, hK⟩; simp only [rv1, h1, asAddr, Sem.run_bind, Sem.run_pure, Result.andThen_ok, r1 rfl, Array.toArray_toList]
    | false =>
     simp only [Bool.false_eq_true, if_false] at hK
     split at hK
     ·rename_i x
      cases hv : vs.toList with
      | nil => rw [hv] at hvl; simp at hvl
      | cons u r =>
       rw [hv] at q4
       cases q4 with
       | cons q4 _ =>
        refine ⟨u, .c x, ?_, q4, hK⟩; simp only [rv1, h1, asAddr, Sem.run_bind, Sem.run_pure, Result.andThen_ok, r2 rfl u (by rw [hv]; rfl)]
     ·exact hK.elim
   ·exact hK.elim
  ·exact hK.elim
theorem resKs_rel (h : RelX w0 c S a w) : ∀ {rs : List ResultVar} {K : List AV → Prop}, resKs P S rs K → ∃ us xs, (rs.mapM (rv1 a.tmps)).run P w = .ok us w ∧ F2 (RelA c S.m w) us xs ∧ K xs
 | [], K, hK => ⟨[], [], by simp, .nil, hK⟩
 | v :: r, K, hK => by
  obtain ⟨u, x, h1, h2, h3⟩ := resK_rel h hK; obtain ⟨us, xs, h4, h5, h6⟩ := resKs_rel h h3; refine ⟨u :: us, x :: xs, ?_, .cons h2 h5, h6⟩; rw [List.mapM_cons]; simp only [Sem.run_bind, h1, h4, Result.andThen_ok, Sem.run_pure]
def oneV : List Value → Value
 | [u] => u
 | us => .tuple us.toArray
theorem res_rel (h : RelX w0 c S a w) {fn : Func} {K : List AV → Prop} (hK : resKs P S fn.results.toList K) : ∃ us xs, (results fn a.tmps).run P w = .ok (oneV us) w ∧ F2 (RelA c S.m w) us xs ∧ K xs := by
 obtain ⟨us, xs, h1, h2, h3⟩ := resKs_rel h hK; refine ⟨us, xs, ?_, h2, h3⟩
 show (do let vs ← fn.results.mapM (rv1 a.tmps); pure (if h : vs.size = 1 then vs[0] else .tuple vs) : Sem Value).run P w = _
 rw [Array.mapM_eq_mapM_toList]; simp only [Sem.run_bind, map_eq_pure_bind, h1, Result.andThen_ok, Sem.run_pure]
 congr 1
 match us with
 | [] => rfl
 | [u] => rfl
 | _ :: _ :: _ => simp [oneV]
theorem beg_rel {fn : Func} {args : List AD} {X : Nat → Prop} {vs : Array Value} (hn : args.length ≤ fn.ntmps) (hlay : Lay w) (hX : ∀ b, X b → b < w.heap.size) (hargs : F2 (RelD w X) vs.toList args) : RelX ⟨w, X, hlay⟩ ⟨fun _ => 0, fun _ => undef, X, w.heap.size⟩ (begS args fn.ntmps) { tmps := vs ++ Array.replicate (fn.ntmps - vs.size) undef, defers := [] } w := by
 have hal := forall2_len hargs; simp only [Array.length_toList] at hal; refine ⟨rfl, Ext.refl w, rfl, hX, fun b hb => .inl hb, by simp [begS]; omega, fun t ht => ?_, (fun k o hk => by cases hk), (fun k k' o o' _ hk => by cases hk)⟩
 show RelR _ [] w ((vs ++ Array.replicate (fn.ntmps - vs.size) undef).getD t undef) ((args.map AD.rv).getD t .u)
 by_cases hlt : t < vs.size
 ·have h1 : (vs ++ Array.replicate (fn.ntmps - vs.size) undef).getD t undef = vs.toList[t]'(by simpa using hlt) := by
   simp [Array.getD, hlt, Nat.lt_add_right _ hlt]
  have h2 : (args.map AD.rv).getD t .u = (args[t]'(by omega)).rv := by simp [List.getD, show t < args.length by omega]
  rw [h1, h2]; have h3 := forall2_get hargs t (by simpa using hlt) (by omega)
  cases hd : args[t]'(by omega) with
  | c d =>
   rw [hd] at h3; exact toC_rel (c := ⟨fun _ => 0, fun _ => undef, X, w.heap.size⟩) (fr := false) (Rp.widen h3 fun b hb _ => ⟨hb, fun h => by cases h⟩)
  | g ds =>
   rw [hd] at h3; obtain ⟨us, e, h3⟩ := h3; exact ⟨us, e, F2.map (fun _ _ r => toC_rel (c := ⟨fun _ => 0, fun _ => undef, X, w.heap.size⟩) (fr := false) (Rp.widen r fun b hb _ => ⟨hb, fun h => by cases h⟩)) h3⟩
 ·have : (args.map AD.rv).getD t .u = .u := by simp [List.getD, List.getElem?_eq_none (show args.length ≤ t by omega)]
  rw [this]
  trivial
theorem Fn.intro {f : FuncId} {fn : Func} {cd : Code} {args : List AD} {r : SV} (hf : P.funcs[f]? = some fn) (hb : fn.body = some cd) (hn : args.length ≤ fn.ntmps)
  (h : SW P cd (endK P fn.results.toList r) (begS args fn.ntmps)) : Fn P f args r := by
 intro w X vs hlay hX hargs; refine calls_of_wp hf hb ?_; have hR := beg_rel (fn := fn) hn hlay hX hargs
 refine wp_mono (h ⟨w, X, hlay⟩ _ w ⟨_, hR⟩) fun e a' w' ⟨S', hE, c', hR'⟩ => ?_
 obtain ⟨he, hE⟩ := hE; obtain ⟨us, xs, h1, h2, h3⟩ := res_rel (fn := fn) hR' hE
 have hX' : ∀ b, c'.X b → X b ∨ c'.n0 ≤ b ∧ b < w'.heap.size := fun b hb => (hR'.xo b hb).imp id fun h => ⟨h, hR'.xl b hb⟩
 have hn0 : c'.n0 = w.heap.size := hR'.n0
 have hce : c'.end_ X c'.n0 w'.heap.size = ⟨fun _ => 0, fun _ => undef, fun b => X b ∨ w.heap.size ≤ b ∧ b < w'.heap.size, w.heap.size⟩ := by rw [hn0]; rfl
 have hres : RelR ⟨fun _ => 0, fun _ => undef, fun b => X b ∨ w.heap.size ≤ b ∧ b < w'.heap.size, w.heap.size⟩ [] w' (oneV us) r := by
  rw [← hce]
  split at h3
  ·cases h2 with
   | cons h2 hn => cases hn; exact tellA_rel hR' hX' h2 h3
  ·cases h2 with
   | cons h2 hn => cases hn; exact tellA_rel hR' hX' h2 h3
  ·obtain ⟨hl, h3⟩ := h3; have hul := forall2_len h2; have := tellAs_rel hR' hX' h2 h3
   match us with
   | [] => exact ⟨_, rfl, by simpa using this⟩
   | [u] => simp only [List.length_cons, List.length_nil] at hul; omega
   | u :: u' :: us => exact ⟨_, rfl, by simpa using this⟩
  ·exact h3.elim
 cases e with
 | ret => exact ⟨hR'.df, _, h1, _, rfl, hR'.ext, hres⟩
 | normal => exact ⟨hR'.df, _, h1, _, rfl, hR'.ext, hres⟩
 | exit id => exact he.elim
 | goto l => exact he.elim
 | panic ch => exact he.elim
 | outgrown => exact he.elim

def endR (rs : List ResultVar) (fr : Bool) (sz : Nat) (T : TypeId) (xs : List (List D)) (e : Exit) (S : AS) : Prop :=
 (match e with | .ret => True | .normal => True | _ => False) ∧ match rs with
  | [.tmp t] => match ez S (.tmp t) with
   | .c (.r k n) => n = xs.length ∧ match mat S.m k with
    | some (.r f s U ys) => (fr = true → f = true) ∧ s = sz ∧ U = T ∧ ys = xs
    | _ => False
   | _ => False
  | _ => False
theorem FnR.intro {f : FuncId} {fn : Func} {cd : Code} {args : List AD} {fr : Bool} {sz : Nat} {T : TypeId} {xs : List (List D)} (hf : P.funcs[f]? = some fn) (hb : fn.body = some cd) (hn : args.length ≤ fn.ntmps)
  (h : SW P cd (endR fn.results.toList fr sz T xs) (begS args fn.ntmps)) : FnR P f args fr sz T xs := by
 intro w X vs hlay hX hargs; refine calls_of_wp hf hb ?_; have hR := beg_rel (fn := fn) hn hlay hX hargs
 refine wp_mono (h ⟨w, X, hlay⟩ _ w ⟨_, hR⟩) fun e a' w' ⟨S', hE, c', hR'⟩ => ?_
 obtain ⟨he, hE⟩ := hE; have hn0 : c'.n0 = w.heap.size := hR'.n0
 split at hE
 ·rename_i t hrs
  split at hE
  ·rename_i k n hz
   obtain ⟨hnx, hE⟩ := hE
   split at hE
   ·rename_i f0 s0 U ys hm
    obtain ⟨h1, rfl, rfl, rfl⟩ := hE; have h2 := hR'.evs (.tmp t); rw [hz] at h2; obtain ⟨f1, s1, T1, x1, h3, h4, h5, h6⟩ := h2; rw [hm] at h3
    injection h3 with h3
    injection h3 with e1 e2 e3 e4
    subst e1; subst e2; subst e3; subst e4
    obtain ⟨q1, q2, q3, q4⟩ := hR'.mem k _ hm; have hv : a'.eval (.tmp t) = c'.ρ k := h5 hnx
    have hres : (results fn a'.tmps).run P w' = .ok (a'.eval (.tmp t)) w' := by
     have : fn.results = #[.tmp t] := by rw [← Array.toArray_toList (xs := fn.results), hrs]
     unfold results; rw [this]; simp
     show a'.tmps[t]?.getD undef = a'.tmps.getD t undef
     simp
    have hfin : Ext w w' ∧ 0 < s0 ∧ (∀ e ∈ ys, e.length = s0) ∧ Own s0 ED w' (fun b => (X b ∨ w.heap.size ≤ b ∧ b < w'.heap.size) ∧ (fr = true → w.heap.size ≤ b)) w.heap.size U (a'.eval (.tmp t)) ys := by
     refine ⟨hR'.ext, q1, q4, ?_⟩; rw [hv, ← hn0]
     exact q2.widen fun b hb hl => ⟨(hR'.xo b hb.1).imp id fun h => ⟨h, hl⟩, fun e => hb.2 (h1 e)⟩
    cases e with
    | ret => exact ⟨hR'.df, _, hres, _, rfl, hfin⟩
    | normal => exact ⟨hR'.df, _, hres, _, rfl, hfin⟩
    | exit id => exact he.elim
    | goto l => exact he.elim
    | panic ch => exact he.elim
    | outgrown => exact he.elim
   ·exact hE.elim
  ·exact hE.elim
 ·exact hE.elim

theorem Rp.ok {X : Nat → Prop} {v : Value} {d : D} (h : Rp w X v d) : D.Ok d := by
 induction h with
 | i h1 h2 => exact .i h1 h2
 | b => exact .b
 | s h => exact .s h
 | @l A b o c sz xs cv h0 h1 h2 h3 h4 h5 h6 h7 ih =>
  refine .l (Nat.le_trans h1 h2) fun e he d hd => ?_
  obtain ⟨i, hi, rfl⟩ := List.getElem_of_mem he; obtain ⟨j, hj, rfl⟩ := List.getElem_of_mem hd; exact ih i hi j hj
 | @p b T ds vs h1 h2 h3 h4 ih =>
  refine .p fun d hd => ?_
  obtain ⟨i, hi, rfl⟩ := List.getElem_of_mem hd; exact ih i hi
 | np => exact .np
theorem ED.ok {X : Nat → Prop} : ∀ {vs : List Value} {ds : List D}, ED w X vs ds → ∀ d ∈ ds, D.Ok d
 | _, _, .nil, d, hd => by cases hd
 | _, _, .cons h1 h2, d, hd => by
  rcases List.mem_cons.1 hd with rfl | hd
  ·exact Rp.ok h1
  ·exact ED.ok h2 d hd
theorem RelD.ok {X : Nat → Prop} {v : Value} {d : AD} (h : RelD w X v d) : AD.Ok d := by
 cases d with
 | c d => exact Rp.ok h
 | g ds => obtain ⟨vs, _, h⟩ := h; exact ED.ok h
theorem RelDs.ok {X : Nat → Prop} : ∀ {vs : List Value} {ds : List AD}, F2 (RelD w X) vs ds → ∀ d ∈ ds, AD.Ok d
 | _, _, .nil, d, hd => by cases hd
 | _, _, .cons h1 h2, d, hd => by
  rcases List.mem_cons.1 hd with rfl | hd
  ·exact RelD.ok h1
  ·exact RelDs.ok h2 d hd
theorem Fn.intro' {f : FuncId} {fn : Func} {cd : Code} {args : List AD} {r : SV} (hf : P.funcs[f]? = some fn) (rs : List ResultVar) (n : Nat) (h : (∀ d ∈ args, AD.Ok d) → SW P cd (endK P rs r) (begS args n)) (hb : fn.body = some cd := by rfl) (hr : fn.results.toList = rs := by rfl) (hnn : fn.ntmps = n := by rfl) (hn : args.length ≤ n := by simp) : Fn P f args r := fun w X vs hl hX hargs => Fn.intro hf hb (by rw [hnn]; exact hn) (by rw [hr, hnn]; exact h (RelDs.ok hargs)) w X vs hl hX hargs
theorem FnR.intro' {f : FuncId} {fn : Func} {cd : Code} {args : List AD} {fr : Bool} {sz : Nat} {T : TypeId} {xs : List (List D)} (hf : P.funcs[f]? = some fn) (rs : List ResultVar) (n : Nat) (h : (∀ d ∈ args, AD.Ok d) → SW P cd (endR rs fr sz T xs) (begS args n)) (hb : fn.body = some cd := by rfl) (hr : fn.results.toList = rs := by rfl) (hnn : fn.ntmps = n := by rfl) (hn : args.length ≤ n := by simp) : FnR P f args fr sz T xs := fun w X vs hl hX hargs => FnR.intro hf hb (by rw [hnn]; exact hn) (by rw [hr, hnn]; exact h (RelDs.ok hargs)) w X vs hl hX hargs
end

end Go.Proofs.YtbgifiijjjoebaaGreatDoor
