/- States without addresses: slots, boxes, rows; how they stand in a world. No conditions. -/
import Derived.Test.YthmjgbkakjpfkaaGreatDoorGLooksAg
import Derived.Lib.ItoaNum
import Derived.Lib.LaidTab
namespace Go.Proofs.YthmjgbkakjpfkaaGreatDoor
open Go.RowKit

inductive CV where
  | i (k : IntKind) (n : Int)
  | b (x : Bool)
  | s (x : ByteArray)
  | l (fr : Bool) (xs : List (List D))
  | nl
  | np
  | p (k o : Nat)
  | r (k n : Nat)
  | u
inductive AV where
  | c (x : CV)
  | g (cs : List CV)
inductive SV where
  | c (x : CV)
  | g (cs : List CV)
  | t (xs : List AV)
  | u
  | e (fr : Bool) (ds : List D)
  | q (k n i o : Nat)
inductive Ob where
  | x (cs : List CV)
  | r (fr : Bool) (sz : Nat) (T : TypeId) (xs : List (List D))
abbrev Mem := List (Nat × Ob)
def mat : Mem → Nat → Option Ob
  | [], _ => none
  | (j, o) :: r, k => if j = k then some o else mat r k
def mset : Mem → Nat → Ob → Mem
  | [], _, _ => []
  | (j, o) :: r, k, o' => if j = k then (j, o') :: r else (j, o) :: mset r k o'
theorem mat_set_same : ∀ {m : Mem} {k : Nat} {o o' : Ob}, mat m k = some o → mat (mset m k o') k = some o'
  | (j, a) :: r, k, o, o', h => by
    unfold mat at h
    by_cases hj : j = k
    · simp [mset, hj, mat]
    · simp only [hj, if_false] at h
      simp [mset, hj, mat, mat_set_same h]
theorem mat_set_other : ∀ {m : Mem} {k k' : Nat} {o' : Ob}, k' ≠ k → mat (mset m k o') k' = mat m k'
  | [], _, _, _, _ => rfl
  | (j, a) :: r, k, k', o', h => by
    by_cases hj : j = k
    · subst hj
      simp [mset, mat, Ne.symm h]
    · by_cases hj' : j = k'
      · subst hj'
        simp [mset, hj, mat]
      · simp [mset, hj, mat, hj', mat_set_other h]
structure AS where
  n : Nat
  f : Nat → SV
  m : Mem
def fset (f : Nat → SV) (d : Nat) (r : SV) : Nat → SV := fun t => if t = d then r else f t
theorem fset_at (f : Nat → SV) (d : Nat) (r : SV) (t : Nat) : fset f d r t = if t = d then r else f t := rfl

structure Cx where
  β : Nat → Nat
  ρ : Nat → Value
  X : Nat → Prop
  n0 : Nat
def Cx.Y (c : Cx) (fr : Bool) (b : Nat) : Prop := c.X b ∧ (fr = true → c.n0 ≤ b)

def RelC (c : Cx) (m : Mem) (w : World) (v : Value) : CV → Prop
  | .i k n => v = .int k n ∧ k.min ≤ n ∧ n ≤ k.max
  | .b x => v = .bool x
  | .s x => v = .string x ∧ x.size ≤ maxLen
  | .l fr xs => Rp w (c.Y fr) v (.l xs)
  | .nl => v = .slice none 0 0
  | .np => v = .pointer none
  | .p k o => v = .pointer (some ⟨c.β k, o, none⟩) ∧ ∃ cs, mat m k = some (.x cs)
  | .r k n => ∃ fr sz T xs, mat m k = some (.r fr sz T xs) ∧ n ≤ xs.length ∧ (n = xs.length → v = c.ρ k) ∧ v.oneCell' = true
  | .u => v.oneCell' = true
def RelA (c : Cx) (m : Mem) (w : World) (v : Value) : AV → Prop
  | .c x => RelC c m w v x
  | .g cs => ∃ vs, v = .agg vs ∧ F2 (RelC c m w) vs.toList cs
def RelR (c : Cx) (m : Mem) (w : World) (v : Value) : SV → Prop
  | .c x => RelC c m w v x
  | .g cs => ∃ vs, v = .agg vs ∧ F2 (RelC c m w) vs.toList cs
  | .t xs => ∃ vs, v = .tuple vs ∧ F2 (RelA c m w) vs.toList xs
  | .u => True
  | .e fr ds => ∃ b o, v = .pointer (some ⟨b, o, none⟩) ∧ ∀ j (hj : j < ds.length), c.Y fr b ∧ ∃ u, w.cell? ⟨b, o + j, none⟩ = some u ∧ Rp w (c.Y fr) u ds[j]
  | .q k n i o => ∃ fr sz T xs, mat m k = some (.r fr sz T xs) ∧ n ≤ xs.length ∧ i < n ∧ (n = xs.length → ∃ g cap, c.ρ k = .slice (some ⟨g, 0, none⟩) n cap ∧ v = .pointer (some ⟨g, i * sz + o, none⟩))
def RelO (c : Cx) (m : Mem) (w : World) (k : Nat) : Ob → Prop
  | .x cs => c.n0 ≤ c.β k ∧ ¬ c.X (c.β k) ∧ ∃ vs T, Box w (c.β k) T vs ∧ F2 (RelC c m w) vs.toList cs
  | .r fr sz T xs => 0 < sz ∧ Own sz ED w (c.Y fr) c.n0 T (c.ρ k) xs ∧ (∀ b, (c.ρ k).ownBlock = some b → ¬ c.X b) ∧ ∀ e ∈ xs, e.length = sz
def blk (c : Cx) (k : Nat) : Ob → Option Nat
  | .x _ => some (c.β k)
  | .r .. => (c.ρ k).ownBlock

def Lay (w : World) : Prop := (Tryz.prog.globalNamed "internal/strconv.uint64pow10").isSome = true → Lib.TabIs Tryz.prog w "internal/strconv.uint64pow10" .u64 Lib.pow10Tab
theorem Lay.ext {w w' : World} (h : Lay w) (k : Ext w w') : Lay w' := fun hs => by
  have h := h hs
  unfold Lib.TabIs World.var? at *
  cases hg : Tryz.prog.globalNamed "internal/strconv.uint64pow10" with
  | none => rw [hg] at h; cases h
  | some g =>
    rw [hg] at h
    simp only [Option.bind_some] at h ⊢
    cases hh : w.heap[g]? with
    | none => rw [hh] at h; cases h
    | some o =>
      rw [k.block g (lt_of_some hh)]
      exact h
structure Beg where
  w : World
  X : Nat → Prop
  lay : Lay w
structure RelX (w0 : Beg) (c : Cx) (S : AS) (a : Act) (w : World) : Prop where
  n0 : c.n0 = w0.w.heap.size
  ext : Ext w0.w w
  df : a.defers = []
  xl : ∀ b, c.X b → b < w.heap.size
  xo : ∀ b, c.X b → w0.X b ∨ c.n0 ≤ b
  sz : a.tmps.size = S.n
  sl : ∀ t, t < S.n → RelR c S.m w (a.tmps.getD t undef) (S.f t)
  mem : ∀ k o, mat S.m k = some o → RelO c S.m w k o
  dis : ∀ k k' o o', k ≠ k' → mat S.m k = some o → mat S.m k' = some o' → ∀ b, blk c k o = some b → blk c k' o' ≠ some b
def Rel (w0 : Beg) (S : AS) (a : Act) (w : World) : Prop := ∃ c, RelX w0 c S a w

structure Mon (c : Cx) (m : Mem) (w : World) (c' : Cx) (m' : Mem) (w' : World) : Prop where
  n0 : c'.n0 = c.n0
  x : ∀ b, c.X b → c'.X b
  k : Kp c.X w w'
  p : ∀ k cs, mat m k = some (.x cs) → c'.β k = c.β k ∧ ∃ cs', mat m' k = some (.x cs')
  r : ∀ k fr sz T xs, mat m k = some (.r fr sz T xs) → ∃ fr' xs', mat m' k = some (.r fr' sz T xs') ∧ xs.length ≤ xs'.length ∧ (xs.length = xs'.length → c'.ρ k = c.ρ k)
section
variable {c c' : Cx} {m m' : Mem} {w w' : World}
theorem Mon.y (h : Mon c m w c' m' w') {fr : Bool} {b : Nat} (hb : c.Y fr b) : c'.Y fr b := ⟨h.x b hb.1, fun hf => by rw [h.n0]; exact hb.2 hf⟩
theorem Mon.rp (h : Mon c m w c' m' w') {fr : Bool} {v : Value} {d : D} (hr : Rp w (c.Y fr) v d) : Rp w' (c'.Y fr) v d :=
  (hr.keep fun b hb hl => h.k b hb.1 hl).widen fun _ hb _ => h.y hb
theorem RelC.mon (h : Mon c m w c' m' w') {v : Value} {x : CV} (hr : RelC c m w v x) : RelC c' m' w' v x := by
  cases x with
  | i k n => exact hr
  | b x => exact hr
  | s x => exact hr
  | l fr xs => exact h.rp hr
  | nl => exact hr
  | np => exact hr
  | p k o =>
    obtain ⟨h1, cs, h2⟩ := hr
    obtain ⟨h3, h4⟩ := h.p k cs h2
    exact ⟨by rw [h3]; exact h1, h4⟩
  | r k n =>
    obtain ⟨fr, sz, T, xs, h1, h2, h3, h4⟩ := hr
    obtain ⟨fr', xs', h5, h6, h7⟩ := h.r k fr sz T xs h1
    exact ⟨fr', sz, T, xs', h5, by omega, fun hn => by rw [h7 (by omega)]; exact h3 (by omega), h4⟩
  | u => exact hr
theorem RelA.mon (h : Mon c m w c' m' w') {v : Value} {x : AV} (hr : RelA c m w v x) : RelA c' m' w' v x := by
  cases x with
  | c x => exact RelC.mon h hr
  | g cs => obtain ⟨vs, h1, h2⟩ := hr; exact ⟨vs, h1, forall2_mono (fun _ _ => RelC.mon h) h2⟩
theorem RelR.mon (h : Mon c m w c' m' w') {v : Value} {x : SV} (hr : RelR c m w v x) : RelR c' m' w' v x := by
  cases x with
  | c x => exact RelC.mon h hr
  | g cs => obtain ⟨vs, h1, h2⟩ := hr; exact ⟨vs, h1, forall2_mono (fun _ _ => RelC.mon h) h2⟩
  | t xs => obtain ⟨vs, h1, h2⟩ := hr; exact ⟨vs, h1, forall2_mono (fun _ _ => RelA.mon h) h2⟩
  | u => trivial
  | e fr ds =>
    obtain ⟨b, o, h1, h2⟩ := hr
    refine ⟨b, o, h1, fun j hj => ?_⟩
    obtain ⟨h3, u, h4, h5⟩ := h2 j hj
    exact ⟨h.y h3, u, (World.cell?_of_block (a := ⟨b, o + j, none⟩) (h.k b h3.1 (World.block_lt_of_cell? _ _ h4))).trans h4, h.rp h5⟩
  | q k n i o =>
    obtain ⟨fr, sz, T, xs, h1, h2, h3, h4⟩ := hr
    obtain ⟨fr', xs', h5, h6, h7⟩ := h.r k fr sz T xs h1
    exact ⟨fr', sz, T, xs', h5, by omega, h3, fun hn => by rw [h7 (by omega)]; exact h4 (by omega)⟩
theorem RelO.mon (h : Mon c m w c' m' w') {k : Nat} {o : Ob} (hr : RelO c m w k o) (hk : mat m k = some o) (hs : mat m' k = some o) (hb : ∀ b, blk c k o = some b → w'.heap[b]? = w.heap[b]? ∧ ¬ c'.X b) : RelO c' m' w' k o := by
  cases o with
  | x cs =>
    obtain ⟨h1, h2, vs, T, h3, h4⟩ := hr
    obtain ⟨h5, _⟩ := h.p k cs hk
    obtain ⟨h6, h7⟩ := hb _ rfl
    refine ⟨by rw [h5, h.n0]; exact h1, by rw [h5]; exact h7, vs, T, ?_, forall2_mono (fun _ _ => RelC.mon h) h4⟩
    rw [h5]; exact h6.trans h3
  | r fr sz T xs =>
    obtain ⟨h0, h1, h2, h3⟩ := hr
    obtain ⟨fr', xs', h5, h6, h7⟩ := h.r k fr sz T xs hk
    rw [hs] at h5
    injection h5 with h5
    injection h5 with _ _ _ h5
    subst h5
    have h8 := h7 rfl
    refine ⟨h0, ?_, fun b hb' => (hb b (by rw [h8] at hb'; exact hb')).2, h3⟩
    rw [h8, h.n0]
    refine (h1.keep fun b hb' hl => ?_).widen fun b hb' _ => h.y hb'
    rcases hb' with hb' | hb'
    · exact h.k b hb'.1 hl
    · exact (hb b hb').1
theorem blk_mon (h : Mon c m w c' m' w') {k : Nat} {o : Ob} (hk : mat m k = some o) (hs : mat m' k = some o) : blk c' k o = blk c k o := by
  cases o with
  | x cs => exact congrArg some (h.p k cs hk).1
  | r fr sz T xs =>
    obtain ⟨fr', xs', h5, h6, h7⟩ := h.r k fr sz T xs hk
    rw [hs] at h5
    injection h5 with h5
    injection h5 with _ _ _ h5
    subst h5
    show (c'.ρ k).ownBlock = (c.ρ k).ownBlock
    rw [h7 rfl]
end
section
variable {w0 : Beg} {c : Cx} {S : AS} {a : Act} {w : World}
theorem RelX.bk (h : RelX w0 c S a w) {k : Nat} {o : Ob} (hk : mat S.m k = some o) : ∀ b, blk c k o = some b → c.n0 ≤ b ∧ b < w.heap.size ∧ ¬ c.X b := by
  intro b hb
  have h1 := h.mem k o hk
  cases o with
  | x cs =>
    obtain ⟨h2, h3, vs, T, h4, _⟩ := h1
    injection hb with hb
    subst hb
    exact ⟨h2, h4.lt, h3⟩
  | r fr sz T xs =>
    obtain ⟨_, h2, h3, _⟩ := h1
    have := h2.row b hb
    exact ⟨this.1, this.2, h3 b hb⟩
theorem RelX.put (h : RelX w0 c S a w) {d : Nat} {v : Value} {r : SV} (hd : d < S.n) (hr : RelR c S.m w v r) : RelX w0 c ⟨S.n, fset S.f d r, S.m⟩ (a.put (some d) v) w := by
  refine ⟨h.n0, h.ext, h.df, h.xl, h.xo, by simp [Act.put, h.sz], fun t ht => ?_, h.mem, h.dis⟩
  have hs := h.sz
  simp only at ht
  show RelR c S.m w ((a.tmps.setIfInBounds d v).getD t undef) (fset S.f d r t)
  unfold fset
  by_cases e : t = d
  · subst e
    have : (a.tmps.setIfInBounds t v).getD t undef = v := by simp [Array.getD, hs, hd]
    rw [this, if_pos rfl]
    exact hr
  · have : (a.tmps.setIfInBounds d v).getD t undef = a.tmps.getD t undef := by
      simp only [Array.getD, Array.size_setIfInBounds]
      split
      · exact Array.getElem_setIfInBounds_ne (by omega) (Ne.symm e)
      · rfl
    rw [this, if_neg e]
    exact h.sl t ht
theorem RelX.go (h : RelX w0 c S a w) {c' : Cx} {m' : Mem} {w' : World} (hm : Mon c S.m w c' m' w') (hx : Ext w0.w w') (hl : ∀ b, c'.X b → b < w'.heap.size) (hxo : ∀ b, c'.X b → w0.X b ∨ c'.n0 ≤ b) (hmem : ∀ k o, mat m' k = some o → RelO c' m' w' k o)
    (hdis : ∀ k k' o o', k ≠ k' → mat m' k = some o → mat m' k' = some o' → ∀ b, blk c' k o = some b → blk c' k' o' ≠ some b) : RelX w0 c' ⟨S.n, S.f, m'⟩ a w' :=
  ⟨hm.n0.trans h.n0, hx, h.df, hl, hxo, h.sz, fun t ht => RelR.mon hm (h.sl t ht), hmem, hdis⟩
theorem RelX.call (h : RelX w0 c S a w) {w' : World} (hx : Ext w w') : RelX w0 ⟨c.β, c.ρ, fun b => c.X b ∨ w.heap.size ≤ b ∧ b < w'.heap.size, c.n0⟩ S a w' := by
  have hm : Mon c S.m w ⟨c.β, c.ρ, fun b => c.X b ∨ w.heap.size ≤ b ∧ b < w'.heap.size, c.n0⟩ S.m w' :=
    ⟨rfl, fun _ h => .inl h, .of_ext hx, fun k cs hk => ⟨rfl, cs, hk⟩, fun k fr sz T xs hk => ⟨fr, xs, hk, Nat.le_refl _, fun _ => rfl⟩⟩
  refine h.go hm (h.ext.trans hx) (fun b hb => hb.elim (fun hb => Nat.lt_of_lt_of_le (h.xl b hb) hx.size) And.right) (fun b hb => hb.elim (h.xo b) fun hb => .inr (by have := h.ext.size; have := h.n0; simp only; omega)) (fun k o hk => ?_) h.dis
  refine RelO.mon hm (h.mem k o hk) hk hk fun b hb => ?_
  obtain ⟨h1, h2, h3⟩ := h.bk hk b hb
  exact ⟨hx.block b h2, fun hb => hb.elim h3 fun hb => by omega⟩
end

end Go.Proofs.YthmjgbkakjpfkaaGreatDoor
