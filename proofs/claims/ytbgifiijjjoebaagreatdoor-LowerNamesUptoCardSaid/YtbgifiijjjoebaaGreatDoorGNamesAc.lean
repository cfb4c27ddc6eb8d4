/- States without addresses: slots, boxes, rows; how they stand in a world. No conditions. -/
import Derived.Test.YtbgifiijjjoebaaGreatDoorGNamesAb
import Derived.Lib.ItoaNum
import Derived.Lib.LaidTab
namespace Go.Proofs.YtbgifiijjjoebaaGreatDoor
open Go.RowKit

inductive AD where
 | c (d : D)
 | g (ds : List D)
def RelD (w : World) (X : Nat → Prop) (v : Value) : AD → Prop
 | .c d => Rp w X v d
 | .g ds => ∃ vs, v = .agg vs ∧ ED w X vs.toList ds
theorem RelD.keep {w w' : World} {X : Nat → Prop} {v : Value} {d : AD} (h : RelD w X v d) (k : Kp X w w') : RelD w' X v d := by
 cases d with
 | c d => exact Rp.keep h k
 | g ds => obtain ⟨vs, e, h⟩ := h; exact ⟨vs, e, forall2_mono (fun _ _ r => r.keep k) h⟩
theorem RelD.widen {w : World} {X Y : Nat → Prop} {v : Value} {d : AD} (h : RelD w X v d) (k : ∀ b, X b → b < w.heap.size → Y b) : RelD w Y v d := by
 cases d with
 | c d => exact Rp.widen h k
 | g ds => obtain ⟨vs, e, h⟩ := h; exact ⟨vs, e, forall2_mono (fun _ _ r => r.widen k) h⟩
def EntR (w : World) (X : Nat → Prop) (e : MapEntry) (p : D × AD) : Prop := Rp w X e.key p.1 ∧ RelD w X e.val p.2
theorem EntR.keep {w w' : World} {X : Nat → Prop} {e : MapEntry} {p : D × AD} (h : EntR w X e p) (k : Kp X w w') : EntR w' X e p := ⟨h.1.keep k, h.2.keep k⟩
theorem EntR.widen {w : World} {X Y : Nat → Prop} {e : MapEntry} {p : D × AD} (h : EntR w X e p) (k : ∀ b, X b → b < w.heap.size → Y b) : EntR w Y e p := ⟨h.1.widen k, h.2.widen k⟩
def keyOk : Option IntKind → D → Bool
 | some k, .i k' _ => k == k'
 | none, .s _ => true
 | _, _ => false
def encM (es : List MapEntry) (n : Nat) : Value := .tuple #[.int .i64 n, .tuple (es.map fun e => Value.tuple #[e.key, e.val, .int .i64 e.born]).toArray]
theorem encL_inj : ∀ {es es' : List MapEntry}, es.map (fun e => Value.tuple #[e.key, e.val, .int .i64 e.born]) = es'.map (fun e => Value.tuple #[e.key, e.val, .int .i64 e.born]) → es = es'
 | [], [], _ => rfl
 | [], _ :: _, h => by simp at h
 | _ :: _, [], h => by simp at h
 | a :: r, b :: s, h => by
  simp only [List.map_cons, List.cons.injEq, Value.tuple.injEq] at h; obtain ⟨h3, h4⟩ := h; have h3 := congrArg Array.toList h3; simp only [List.cons.injEq, Value.int.injEq, true_and, and_true] at h3; obtain ⟨h5, h6, h7⟩ := h3; have ih := encL_inj h4
  cases a; cases b
  simp only at h5 h6 h7; have h7 := Int.ofNat.inj h7
  subst h5; subst h6; subst h7; subst ih
  rfl
theorem encM_inj {es es' : List MapEntry} {n n' : Nat} (h : encM es n = encM es' n') : es = es' ∧ n = n' := by
 unfold encM at h
 injection h with h
 have h := congrArg Array.toList h; simp only [List.cons.injEq, Value.int.injEq, true_and, and_true, Value.tuple.injEq] at h; obtain ⟨h1, h2⟩ := h; have h2 := congrArg Array.toList h2; exact ⟨encL_inj h2, by omega⟩
inductive CV where
 | i (k : IntKind) (n : Int)
 | b (x : Bool)
 | s (x : ByteArray)
 | l (fr : Bool) (xs : List (List D))
 | nl
 | np
 | p (k o : Nat)
 | r (k n : Nat)
 | u
 | f (n : FuncId) (ks : List (Nat × Nat))
 | nf
 | m (k : Nat)
 | nm
 | t (k : Nat)
 | d (fr : Bool) (T : TypeId) (ds : List D)
inductive AV where
 | c (x : CV)
 | g (cs : List CV)
inductive SV where
 | c (x : CV)
 | g (cs : List CV)
 | t (xs : List AV)
 | u
 | e (fr : Bool) (ds : List D)
 | q (k n i o : Nat)
inductive Ob where
 | x (cs : List CV)
 | r (fr : Bool) (sz : Nat) (T : TypeId) (xs : List (List D))
 | m (fr : Bool) (kk : Option IntKind) (es : List (D × AD))
 | it (fr : Bool) (k : Nat) (rem : List (D × AD)) (la : Option (D × AD))
 | g (vs : List Value) (xs : List SV)
abbrev Mem := List (Nat × Ob)
def mat : Mem → Nat → Option Ob
 | [], _ => none
 | (j, o) :: r, k => if j = k then some o else mat r k
def mset : Mem → Nat → Ob → Mem
 | [], _, _ => []
 | (j, o) :: r, k, o' => if j = k then (j, o') :: r else (j, o) :: mset r k o'
theorem mat_set_same : ∀ {m : Mem} {k : Nat} {o o' : Ob}, mat m k = some o → mat (mset m k o') k = some o'
 | (j, a) :: r, k, o, o', h => by
  unfold mat at h
  by_cases hj : j = k
  ·simp [mset, hj, mat]
  ·simp only [hj, if_false] at h; simp [mset, hj, mat, mat_set_same h]
theorem mat_set_other : ∀ {m : Mem} {k k' : Nat} {o' : Ob}, k' ≠ k → mat (mset m k o') k' = mat m k'
 | [], _, _, _, _ => rfl
 | (j, a) :: r, k, k', o', h => by
  by_cases hj : j = k
  ·subst hj; simp [mset, mat, Ne.symm h]
  ·by_cases hj' : j = k'
   ·subst hj'; simp [mset, hj, mat]
   ·simp [mset, hj, mat, hj', mat_set_other h]
structure AS where
 n : Nat
 f : Nat → SV
 m : Mem
def fset (f : Nat → SV) (d : Nat) (r : SV) : Nat → SV := fun t => if t = d then r else f t
theorem fset_at (f : Nat → SV) (d : Nat) (r : SV) (t : Nat) : fset f d r t = if t = d then r else f t := rfl

structure Cx where
 β : Nat → Nat
 ρ : Nat → Value
 X : Nat → Prop
 n0 : Nat
def Cx.Y (c : Cx) (fr : Bool) (b : Nat) : Prop := c.X b ∧ (fr = true → c.n0 ≤ b)

def RelC (c : Cx) (m : Mem) (w : World) (v : Value) : CV → Prop
 | .i k n => v = .int k n ∧ k.min ≤ n ∧ n ≤ k.max
 | .b x => v = .bool x
 | .s x => v = .string x ∧ x.size ≤ maxLen
 | .l fr xs => Rp w (c.Y fr) v (.l xs)
 | .nl => v = .slice none 0 0
 | .np => v = .pointer none
 | .p k o => v = .pointer (some ⟨c.β k, o, none⟩) ∧ ∃ cs, mat m k = some (.x cs)
 | .r k n => ∃ fr sz T xs, mat m k = some (.r fr sz T xs) ∧ n ≤ xs.length ∧ (n = xs.length → v = c.ρ k) ∧ v.oneCell' = true
 | .u => v.oneCell' = true
 | .f n ks => ∃ cap, v = .func (.func n) #[] cap ∧ F2 (fun u p => u = .pointer (some ⟨c.β p.1, p.2, none⟩) ∧ ∃ cs, mat m p.1 = some (.x cs)) cap.toList ks
 | .nf => v = .nilFunc
 | .m k => v = .map (some (c.β k)) ∧ ∃ fr kk es, mat m k = some (.m fr kk es)
 | .nm => v = .map none
 | .t k => v = .pointer (some ⟨c.β k, 0, none⟩) ∧ ∃ fr mk rem la, mat m k = some (.it fr mk rem la)
 | .d fr T ds => Rp w (c.Y fr) v (.p T ds)
def RelA (c : Cx) (m : Mem) (w : World) (v : Value) : AV → Prop
 | .c x => RelC c m w v x
 | .g cs => ∃ vs, v = .agg vs ∧ F2 (RelC c m w) vs.toList cs
def RelR (c : Cx) (m : Mem) (w : World) (v : Value) : SV → Prop
 | .c x => RelC c m w v x
 | .g cs => ∃ vs, v = .agg vs ∧ F2 (RelC c m w) vs.toList cs
 | .t xs => ∃ vs, v = .tuple vs ∧ F2 (RelA c m w) vs.toList xs
 | .u => True
 | .e fr ds => ∃ b o, v = .pointer (some ⟨b, o, none⟩) ∧ ∀ j (hj : j < ds.length), c.Y fr b ∧ ∃ u, w.cell? ⟨b, o + j, none⟩ = some u ∧ Rp w (c.Y fr) u ds[j]
 | .q k n i o => ∃ fr sz T xs, mat m k = some (.r fr sz T xs) ∧ n ≤ xs.length ∧ i < n ∧ (n = xs.length → ∃ g cap, c.ρ k = .slice (some ⟨g, 0, none⟩) n cap ∧ v = .pointer (some ⟨g, i * sz + o, none⟩))
def RelO (c : Cx) (m : Mem) (w : World) (k : Nat) : Ob → Prop
 | .x cs => c.n0 ≤ c.β k ∧ ¬ c.X (c.β k) ∧ ∃ vs T, Box w (c.β k) T vs ∧ F2 (RelC c m w) vs.toList cs
 | .r fr sz T xs => 0 < sz ∧ Own sz ED w (c.Y fr) c.n0 T (c.ρ k) xs ∧ (∀ b, (c.ρ k).ownBlock = some b → ¬ c.X b) ∧ ∀ e ∈ xs, e.length = sz
 | .m fr kk es => c.n0 ≤ c.β k ∧ ¬ c.X (c.β k) ∧ ∃ ents : Array MapEntry, w.heap[c.β k]? = some (.map ents ents.size) ∧ c.ρ k = encM ents.toList ents.size ∧ F2 (EntR w (c.Y fr)) ents.toList es ∧ ents.toList.map (·.born) = List.range ents.size ∧ ∀ p ∈ es, keyOk kk p.1 = true
 | .it fr mk rem la => c.n0 ≤ c.β k ∧ ¬ c.X (c.β k) ∧ (∃ fr kk es, mat m mk = some (.m fr kk es)) ∧ ∃ (ents : List MapEntry) (clock : Nat) (seen : Array Nat), w.heap[c.β k]? = some (.mapIter (some (c.β mk)) clock seen clock) ∧ c.ρ mk = encM ents clock ∧ F2 (EntR w (c.Y fr)) (ents.filter fun e => !seen.contains e.born) rem ∧ ∀ p, la = some p → ∃ e ∈ ents, seen.back? = some e.born ∧ EntR w (c.Y fr) e p
 | .g vs xs => F2 (RelR c m w) vs xs
def blk (c : Cx) (k : Nat) : Ob → Option Nat
 | .x _ => some (c.β k)
 | .r .. => (c.ρ k).ownBlock
 | .m .. => some (c.β k)
 | .it .. => some (c.β k)
 | .g .. => none

def Lay (w : World) : Prop := (Tryz.prog.globalNamed "internal/strconv.uint64pow10").isSome = true → Lib.TabIs Tryz.prog w "internal/strconv.uint64pow10" .u64 Lib.pow10Tab
theorem Lay.ext {w w' : World} (h : Lay w) (k : Ext w w') : Lay w' := fun hs => by
 have h := h hs; unfold Lib.TabIs World.var? at *
 cases hg : Tryz.prog.globalNamed "internal/strconv.uint64pow10" with
 | none => rw [hg] at h; cases h
 | some g =>
  rw [hg] at h; simp only [Option.bind_some] at h ⊢
  cases hh : w.heap[g]? with
  | none => rw [hh] at h; cases h
  | some o =>
   rw [k.block g (lt_of_some hh)]; exact h
structure Beg where
 w : World
 X : Nat → Prop
 lay : Lay w
structure RelX (w0 : Beg) (c : Cx) (S : AS) (a : Act) (w : World) : Prop where
 n0 : c.n0 = w0.w.heap.size
 ext : Ext w0.w w
 df : a.defers = []
 xl : ∀ b, c.X b → b < w.heap.size
 xo : ∀ b, c.X b → w0.X b ∨ c.n0 ≤ b
 sz : a.tmps.size = S.n
 sl : ∀ t, t < S.n → RelR c S.m w (a.tmps.getD t undef) (S.f t)
 mem : ∀ k o, mat S.m k = some o → RelO c S.m w k o
 dis : ∀ k k' o o', k ≠ k' → mat S.m k = some o → mat S.m k' = some o' → ∀ b, blk c k o = some b → blk c k' o' ≠ some b
def Rel (w0 : Beg) (S : AS) (a : Act) (w : World) : Prop := ∃ c, RelX w0 c S a w

structure Mon (c : Cx) (m : Mem) (w : World) (c' : Cx) (m' : Mem) (w' : World) : Prop where
 n0 : c'.n0 = c.n0
 x : ∀ b, c.X b → c'.X b
 k : Kp c.X w w'
 p : ∀ k cs, mat m k = some (.x cs) → c'.β k = c.β k ∧ ∃ cs', mat m' k = some (.x cs')
 r : ∀ k fr sz T xs, mat m k = some (.r fr sz T xs) → ∃ fr' xs', mat m' k = some (.r fr' sz T xs') ∧ xs.length ≤ xs'.length ∧ (xs.length = xs'.length → c'.ρ k = c.ρ k)
 q : ∀ k fr kk es, mat m k = some (.m fr kk es) → c'.β k = c.β k ∧ ∃ fr' kk' es', mat m' k = some (.m fr' kk' es')
 t : ∀ k fr mk rem la, mat m k = some (.it fr mk rem la) → c'.β k = c.β k ∧ c'.β mk = c.β mk ∧ c'.ρ mk = c.ρ mk ∧ ∃ fr' rem' la', mat m' k = some (.it fr' mk rem' la')
section
variable {c c' : Cx} {m m' : Mem} {w w' : World}
theorem Mon.y (h : Mon c m w c' m' w') {fr : Bool} {b : Nat} (hb : c.Y fr b) : c'.Y fr b := ⟨h.x b hb.1, fun hf => by rw [h.n0]; exact hb.2 hf⟩
theorem Mon.rp (h : Mon c m w c' m' w') {fr : Bool} {v : Value} {d : D} (hr : Rp w (c.Y fr) v d) : Rp w' (c'.Y fr) v d :=
 (hr.keep fun b hb hl => h.k b hb.1 hl).widen fun _ hb _ => h.y hb
theorem RelC.mon (h : Mon c m w c' m' w') {v : Value} {x : CV} (hr : RelC c m w v x) : RelC c' m' w' v x := by
 cases x with
 | i k n => exact hr
 | b x => exact hr
 | s x => exact hr
 | l fr xs => exact h.rp hr
 | d fr T ds => exact h.rp hr
 | nl => exact hr
 | np => exact hr
 | p k o =>
  obtain ⟨h1, cs, h2⟩ := hr; obtain ⟨h3, h4⟩ := h.p k cs h2; exact ⟨by rw [h3]; exact h1, h4⟩
 | r k n =>
  obtain ⟨fr, sz, T, xs, h1, h2, h3, h4⟩ := hr; obtain ⟨fr', xs', h5, h6, h7⟩ := h.r k fr sz T xs h1; exact ⟨fr', sz, T, xs', h5, by omega, fun hn => by rw [h7 (by omega)]; exact h3 (by omega), h4⟩
 | u => exact hr
 | f n ks =>
  obtain ⟨cap, h1, h2⟩ := hr; refine ⟨cap, h1, forall2_mono (fun u p ⟨h3, cs, h4⟩ => ?_) h2⟩; obtain ⟨h5, h6⟩ := h.p _ cs h4; exact ⟨by rw [h5]; exact h3, h6⟩
 | nf => exact hr
 | m k =>
  obtain ⟨h1, fr, kk, es, h2⟩ := hr; obtain ⟨h3, h4⟩ := h.q k fr kk es h2; exact ⟨by rw [h3]; exact h1, h4⟩
 | nm => exact hr
 | t k =>
  obtain ⟨h1, fr, mk, rem, la, h2⟩ := hr; obtain ⟨h3, _, _, fr', rem', la', h4⟩ := h.t k fr mk rem la h2; exact ⟨by rw [h3]; exact h1, fr', mk, rem', la', h4⟩
theorem RelA.mon (h : Mon c m w c' m' w') {v : Value} {x : AV} (hr : RelA c m w v x) : RelA c' m' w' v x := by
 cases x with
 | c x => exact RelC.mon h hr
 | g cs => obtain ⟨vs, h1, h2⟩ := hr; exact ⟨vs, h1, forall2_mono (fun _ _ => RelC.mon h) h2⟩
theorem RelR.mon (h : Mon c m w c' m' w') {v : Value} {x : SV} (hr : RelR c m w v x) : RelR c' m' w' v x := by
 cases x with
 | c x => exact RelC.mon h hr
 | g cs => obtain ⟨vs, h1, h2⟩ := hr; exact ⟨vs, h1, forall2_mono (fun _ _ => RelC.mon h) h2⟩
 | t xs => obtain ⟨vs, h1, h2⟩ := hr; exact ⟨vs, h1, forall2_mono (fun _ _ => RelA.mon h) h2⟩
 | u => trivial
 | e fr ds =>
  obtain ⟨b, o, h1, h2⟩ := hr; refine ⟨b, o, h1, fun j hj => ?_⟩; obtain ⟨h3, u, h4, h5⟩ := h2 j hj; exact ⟨h.y h3, u, (World.cell?_of_block (a := ⟨b, o + j, none⟩) (h.k b h3.1 (World.block_lt_of_cell? _ _ h4))).trans h4, h.rp h5⟩
 | q k n i o =>
  obtain ⟨fr, sz, T, xs, h1, h2, h3, h4⟩ := hr; obtain ⟨fr', xs', h5, h6, h7⟩ := h.r k fr sz T xs h1; exact ⟨fr', sz, T, xs', h5, by omega, h3, fun hn => by rw [h7 (by omega)]; exact h4 (by omega)⟩
theorem RelO.mon (h : Mon c m w c' m' w') {k : Nat} {o : Ob} (hr : RelO c m w k o) (hk : mat m k = some o) (hs : mat m' k = some o) (hb : ∀ b, blk c k o = some b → w'.heap[b]? = w.heap[b]? ∧ ¬ c'.X b) (hρ : c'.ρ k = c.ρ k) : RelO c' m' w' k o := by
 cases o with
 | x cs =>
  obtain ⟨h1, h2, vs, T, h3, h4⟩ := hr; obtain ⟨h5, _⟩ := h.p k cs hk; obtain ⟨h6, h7⟩ := hb _ rfl; refine ⟨by rw [h5, h.n0]; exact h1, by rw [h5]; exact h7, vs, T, ?_, forall2_mono (fun _ _ => RelC.mon h) h4⟩
  rw [h5]; exact h6.trans h3
 | r fr sz T xs =>
  obtain ⟨h0, h1, h2, h3⟩ := hr; obtain ⟨fr', xs', h5, h6, h7⟩ := h.r k fr sz T xs hk; rw [hs] at h5
  injection h5 with h5
  injection h5 with _ _ _ h5
  subst h5; have h8 := h7 rfl; refine ⟨h0, ?_, fun b hb' => (hb b (by rw [h8] at hb'; exact hb')).2, h3⟩; rw [h8, h.n0]
  refine (h1.keep fun b hb' hl => ?_).widen fun b hb' _ => h.y hb'
  rcases hb' with hb' | hb'
  ·exact h.k b hb'.1 hl
  ·exact (hb b hb').1
 | m fr kk es =>
  obtain ⟨h1, h2, ents, h3, h4, h5, h6⟩ := hr; obtain ⟨h7, h8⟩ := hb _ rfl; obtain ⟨q1, _⟩ := h.q k fr kk es hk; exact ⟨by rw [q1, h.n0]; exact h1, by rw [q1]; exact h8, ents, by rw [q1]; exact h7.trans h3, by rw [hρ]; exact h4, forall2_mono (fun _ _ r => (r.keep fun b hb hl => h.k b hb.1 hl).widen fun b hb _ => h.y hb) h5, h6⟩
 | it fr mk rem la =>
  obtain ⟨h1, h2, ⟨fr0, kk0, es0, h0⟩, ents, clock, seen, h3, h4, h5, h6⟩ := hr; obtain ⟨h7, h8⟩ := hb _ rfl; obtain ⟨q1, q2, q3, _⟩ := h.t k fr mk rem la hk; exact ⟨by rw [q1, h.n0]; exact h1, by rw [q1]; exact h8, (h.q mk fr0 kk0 es0 h0).2, ents, clock, seen, by rw [q1, q2]; exact h7.trans h3, by rw [q3]; exact h4, forall2_mono (fun _ _ r => (r.keep fun b hb hl => h.k b hb.1 hl).widen fun b hb _ => h.y hb) h5, fun p hp => let ⟨e, he, h9, r⟩ := h6 p hp; ⟨e, he, h9, (r.keep fun b hb hl => h.k b hb.1 hl).widen fun b hb _ => h.y hb⟩⟩
 | g vs xs => exact forall2_mono (fun _ _ => RelR.mon h) hr
theorem blk_mon (h : Mon c m w c' m' w') {k : Nat} {o : Ob} (hk : mat m k = some o) (hs : mat m' k = some o) : blk c' k o = blk c k o := by
 cases o with
 | x cs => exact congrArg some (h.p k cs hk).1
 | r fr sz T xs =>
  obtain ⟨fr', xs', h5, h6, h7⟩ := h.r k fr sz T xs hk; rw [hs] at h5
  injection h5 with h5
  injection h5 with _ _ _ h5
  subst h5
  show (c'.ρ k).ownBlock = (c.ρ k).ownBlock
  rw [h7 rfl]
 | m fr kk es => exact congrArg some (h.q k fr kk es hk).1
 | it fr mk rem la => exact congrArg some (h.t k fr mk rem la hk).1
 | g vs xs => rfl
end
section
variable {w0 : Beg} {c : Cx} {S : AS} {a : Act} {w : World}
theorem RelX.bk (h : RelX w0 c S a w) {k : Nat} {o : Ob} (hk : mat S.m k = some o) : ∀ b, blk c k o = some b → c.n0 ≤ b ∧ b < w.heap.size ∧ ¬ c.X b := by
 intro b hb; have h1 := h.mem k o hk
 cases o with
 | x cs =>
  obtain ⟨h2, h3, vs, T, h4, _⟩ := h1
  injection hb with hb
  subst hb; exact ⟨h2, h4.lt, h3⟩
 | r fr sz T xs =>
  obtain ⟨_, h2, h3, _⟩ := h1; have := h2.row b hb; exact ⟨this.1, this.2, h3 b hb⟩
 | m fr kk es =>
  obtain ⟨h2, h3, ents, h4, _⟩ := h1
  injection hb with hb
  subst hb; exact ⟨h2, lt_of_some h4, h3⟩
 | it fr mk rem la =>
  obtain ⟨h2, h3, _, ents, clock, seen, h4, _⟩ := h1
  injection hb with hb
  subst hb; exact ⟨h2, lt_of_some h4, h3⟩
 | g vs xs => cases hb
theorem RelX.put (h : RelX w0 c S a w) {d : Nat} {v : Value} {r : SV} (hd : d < S.n) (hr : RelR c S.m w v r) : RelX w0 c ⟨S.n, fset S.f d r, S.m⟩ (a.put (some d) v) w := by
 refine ⟨h.n0, h.ext, h.df, h.xl, h.xo, by simp [Act.put, h.sz], fun t ht => ?_, h.mem, h.dis⟩; have hs := h.sz; simp only at ht
 show RelR c S.m w ((a.tmps.setIfInBounds d v).getD t undef) (fset S.f d r t)
 unfold fset
 by_cases e : t = d
 ·subst e
  have : (a.tmps.setIfInBounds t v).getD t undef = v := by simp [Array.getD, hs, hd]
  rw [this, if_pos rfl]; exact hr
 ·have : (a.tmps.setIfInBounds d v).getD t undef = a.tmps.getD t undef := by
   simp only [Array.getD, Array.size_setIfInBounds]
   split
   ·exact Array.getElem_setIfInBounds_ne (by omega) (Ne.symm e)
   ·rfl
  rw [this, if_neg e]; exact h.sl t ht
theorem RelX.go (h : RelX w0 c S a w) {c' : Cx} {m' : Mem} {w' : World} (hm : Mon c S.m w c' m' w') (hx : Ext w0.w w') (hl : ∀ b, c'.X b → b < w'.heap.size) (hxo : ∀ b, c'.X b → w0.X b ∨ c'.n0 ≤ b) (hmem : ∀ k o, mat m' k = some o → RelO c' m' w' k o)
  (hdis : ∀ k k' o o', k ≠ k' → mat m' k = some o → mat m' k' = some o' → ∀ b, blk c' k o = some b → blk c' k' o' ≠ some b) : RelX w0 c' ⟨S.n, S.f, m'⟩ a w' :=
 ⟨hm.n0.trans h.n0, hx, h.df, hl, hxo, h.sz, fun t ht => RelR.mon hm (h.sl t ht), hmem, hdis⟩
theorem RelX.call (h : RelX w0 c S a w) {w' : World} (hx : Ext w w') : RelX w0 ⟨c.β, c.ρ, fun b => c.X b ∨ w.heap.size ≤ b ∧ b < w'.heap.size, c.n0⟩ S a w' := by
 have hm : Mon c S.m w ⟨c.β, c.ρ, fun b => c.X b ∨ w.heap.size ≤ b ∧ b < w'.heap.size, c.n0⟩ S.m w' :=
  ⟨rfl, fun _ h => .inl h, .of_ext hx, fun k cs hk => ⟨rfl, cs, hk⟩, fun k fr sz T xs hk => ⟨fr, xs, hk, Nat.le_refl _, fun _ => rfl⟩, fun k fr kk es hk => ⟨rfl, fr, kk, es, hk⟩, fun k fr mk rem la hk => ⟨rfl, rfl, rfl, fr, rem, la, hk⟩⟩
 refine h.go hm (h.ext.trans hx) (fun b hb => hb.elim (fun hb => Nat.lt_of_lt_of_le (h.xl b hb) hx.size) And.right) (fun b hb => hb.elim (h.xo b) fun hb => .inr (by have := h.ext.size; have := h.n0; simp only; omega)) (fun k o hk => ?_) h.dis; refine RelO.mon hm (h.mem k o hk) hk hk (fun b hb => ?_) rfl; obtain ⟨h1, h2, h3⟩ := h.bk hk b hb; exact ⟨hx.block b h2, fun hb => hb.elim h3 fun hb => by omega⟩
end

end Go.Proofs.YtbgifiijjjoebaaGreatDoor
