/- The machine's memory, as it stands in a world. No conditions. What the machine holds to be the same is the same; what can be reached is there. No conditions. -/
import Derived.Test.YtbgifiijjjoebaaGreatDoorGNamesAh
import Derived.Test.YtbgifiijjjoebaaGreatDoorGNamesAl
import Derived.Test.YtbgifiijjjoebaaGreatDoorGNamesBl
namespace Go.Proofs.YtbgifiijjjoebaaGreatDoor.Cm
open Go Go.RowKit

def Bp.val : Bp → Nat
 | .h => 1
 | .o p => 2 * p.val
 | .i p => 2 * p.val + 1
theorem inc_val : ∀ p : Bp, p.inc.val = p.val + 1
 | .h => rfl
 | .o p => rfl
 | .i p => by
  have := inc_val p
  show (Bp.o p.inc).val = _
  simp only [Bp.val]; omega
theorem toBf_val : ∀ (f n : Nat), n ≤ f → Bp.val (Nat.rec (motive := fun _ => Nat → Bp) (fun _ => .h) toBK f n) = n + 1
 | 0, n, h => by
  have : n = 0 := by omega
  subst this; rfl
 | f + 1, 0, _ => rfl
 | f + 1, n + 1, h => by
  have hq : n / 2 ≤ f := by omega
  have ih := toBf_val f (n / 2) hq
  show Bp.val (Bool.rec (Bp.i (Nat.rec (motive := fun _ => Nat → Bp) (fun _ => .h) toBK f (n / 2))) (Bp.o (Nat.rec (motive := fun _ => Nat → Bp) (fun _ => .h) toBK f (n / 2))) (Nat.beq (n % 2) 0)) = _
  cases hb : Nat.beq (n % 2) 0 with
  | true =>
   have := Nat.eq_of_beq_eq_true hb
   simp only [Bp.val, ih]; omega
  | false =>
   have := Nat.ne_of_beq_eq_false hb
   simp only [Bp.val, ih]; omega
theorem toB_val (n : Nat) : (toB n).val = n + 1 := toBf_val n n (Nat.le_refl _)
theorem toB_inj {n m : Nat} (h : toB n = toB m) : n = m := by
 have h1 := toB_val n; have h2 := toB_val m; rw [h] at h1
 omega
theorem bpB_iff : ∀ {p q : Bp}, bpB p q = true ↔ p = q
 | .h, .h => by simp [bpB]
 | .h, .o q => by simp [bpB]
 | .h, .i q => by simp [bpB]
 | .o p, .h => by simp [bpB]
 | .o p, .o q => by
  have := @bpB_iff p q
  show bpB p q = true ↔ _
  rw [this]; simp
 | .o p, .i q => by simp [bpB]
 | .i p, .h => by simp [bpB]
 | .i p, .o q => by simp [bpB]
 | .i p, .i q => by
  have := @bpB_iff p q
  show bpB p q = true ↔ _
  rw [this]; simp
noncomputable instance : DecidableEq Bp := fun p q => if h : bpB p q = true then isTrue (bpB_iff.1 h) else isFalse fun e => h (bpB_iff.2 e)
section
variable {α : Type}
theorem get_e (k : Bp) : (Tr.e : Tr α).get k = none := by
 induction k with
 | h => rfl
 | o p ih => exact ih
 | i p ih => exact ih
theorem get_n (l : Tr α) (v : Option α) (r : Tr α) (k : Bp) : (Tr.n l v r).get k = match k with | .h => v | .o p => l.get p | .i p => r.get p := by
 cases k <;> rfl
theorem get_lf (t : Tr α) (p : Bp) : t.lf.get p = t.get (.o p) := rfl
theorem get_rt (t : Tr α) (p : Bp) : t.rt.get p = t.get (.i p) := rfl
theorem get_vl (t : Tr α) : t.vl = t.get .h := rfl
theorem get_upd (x : Option α) : ∀ (j : Bp) (t : Tr α) (k : Bp), (t.upd j x).get k = if k = j then x else t.get k
 | .h, t, k => by
  show (Tr.n t.lf x t.rt).get k = _
  rw [get_n]
  cases k <;> simp [get_lf, get_rt]
 | .o j, t, k => by
  show (Tr.n (t.lf.upd j x) t.vl t.rt).get k = _
  rw [get_n]
  cases k with
  | h => simp [get_vl]
  | o p => simp [get_upd x j t.lf p, get_lf]
  | i p => simp [get_rt]
 | .i j, t, k => by
  show (Tr.n t.lf t.vl (t.rt.upd j x)).get k = _
  rw [get_n]
  cases k with
  | h => simp [get_vl]
  | o p => simp [get_lf]
  | i p => simp [get_upd x j t.rt p, get_rt]
theorem get_uni : ∀ (b a : Tr α) (k : Bp), (a.uni b).get k = match b.get k with | some x => some x | none => a.get k
 | .e, a, k => by rw [get_e]; rfl
 | .n l v r, a, k => by
  show (Tr.n (a.lf.uni l) (oror v a.vl) (a.rt.uni r)).get k = _
  rw [get_n, get_n]
  cases k with
  | h => cases v <;> rfl
  | o p => exact get_uni l a.lf p
  | i p => exact get_uni r a.rt p
theorem get_dif : ∀ (b a : Tr α) (k : Bp), (a.dif b).get k = match b.get k with | some _ => none | none => a.get k
 | .e, a, k => by rw [get_e]; rfl
 | .n l v r, a, k => by
  show (Tr.n (a.lf.dif l) (omin v a.vl) (a.rt.dif r)).get k = _
  rw [get_n, get_n]
  cases k with
  | h => cases v <;> rfl
  | o p => exact get_dif l a.lf p
  | i p => exact get_dif r a.rt p
end
theorem get_setL : ∀ (l : List CV) (cs : Tr CV) (o j : Nat), (setL cs o l).get (toB j) = if o ≤ j ∧ j < o + l.length then l[j - o]? else cs.get (toB j)
 | [], cs, o, j => by
  show cs.get (toB j) = _
  rw [if_neg (by simp only [List.length_nil]; omega)]
 | x :: l, cs, o, j => by
  show (setL (cs.upd (toB o) (some x)) (o + 1) l).get (toB j) = _
  rw [get_setL l, get_upd]
  by_cases h : j = o
  ·subst h; rw [if_neg (by omega), if_pos rfl, if_pos (by simp)]; simp
  ·have hne : toB j ≠ toB o := fun e => h (toB_inj e)
   rw [if_neg hne]
   by_cases h1 : o + 1 ≤ j ∧ j < o + 1 + l.length
   ·rw [if_pos h1, if_pos (by simp only [List.length_cons]; omega)]
    have : j - o = (j - (o + 1)) + 1 := by omega
    rw [this, List.getElem?_cons_succ]
   ·rw [if_neg h1, if_neg (by simp only [List.length_cons]; omega)]
theorem get_newT (l : List CV) (j : Nat) : (newT l).get (toB j) = l[j]? := by
 unfold newT; rw [get_setL, get_e]
 by_cases h : j < l.length
 ·rw [if_pos (by omega), Nat.sub_zero]
 ·rw [if_neg (by omega), List.getElem?_eq_none (by omega)]
theorem cons?_some {α : Type} {x : Option α} {y : Option (List α)} {l : List α} (h : cons? x y = some l) : ∃ a r, x = some a ∧ y = some r ∧ l = a :: r := by
 cases x with
 | none => cases h
 | some a =>
  cases y with
  | none => cases h
  | some r => exact ⟨a, r, rfl, rfl, (Option.some.inj h).symm⟩
theorem getN_some : ∀ {n : Nat} {cs : Tr CV} {o : Nat} {l : List CV}, getN cs o n = some l → l.length = n ∧ ∀ i (h : i < l.length), cs.get (toB (o + i)) = some l[i]
 | 0, cs, o, l, h => by
  have : l = [] := (Option.some.inj h).symm; subst this; exact ⟨rfl, fun i h => absurd h (by simp)⟩
 | n + 1, cs, o, l, h => by
  have h : cons? (cs.get (toB o)) (getN cs (o + 1) n) = some l := h; obtain ⟨a, r, h1, h2, rfl⟩ := cons?_some h; obtain ⟨h3, h4⟩ := getN_some h2; refine ⟨by simp [h3], fun i hi => ?_⟩
  cases i with
  | zero => exact h1
  | succ i =>
   have := h4 i (by simpa using hi); rw [show o + (i + 1) = o + 1 + i by omega, this]
   rfl
structure Cx where
 /-- The block of an object. -/
 b : Bp → Nat
 /-- How many cells it has. -/
 s : Bp → Nat
 /-- Is the number in use? -/
 t : Bp → Prop
def Lv (c : Cx) (N k : Bp) : Prop := k.val < N.val ∧ c.t k
def mkS (l : List Nat) : ByteArray := ⟨(l.map UInt8.ofNat).toArray⟩
def RC (c : Cx) (N : Bp) (v : Value) : CV → Prop
 | .i k n => v = .int k n
 | .b x => v = .bool x
 | .s l => v = .string (mkS l) ∧ l.length ≤ maxLen ∧ ∀ x ∈ l, x < 256
 | .np => v = .pointer none
 | .p k o => Lv c N k ∧ v = .pointer (some ⟨c.b k, o, none⟩)
 | .nl => v = .slice none 0 0
 | .sl k o n q => Lv c N k ∧ v = .slice (some ⟨c.b k, o, none⟩) n q ∧ n ≤ q ∧ q ≤ maxLen
 | .st k o n es => Lv c N k ∧ 0 < es ∧ ∃ q, v = .slice (some ⟨c.b k, o, none⟩) n q ∧ o + q * es = c.s k ∧ n ≤ q ∧ q ≤ maxLen
 | .nm => v = .map none
 | .m k => Lv c N k ∧ v = .map (some (c.b k))
 | .nf => v = .nilFunc
 | .f n ks => ∃ cap, v = .func (.func n) #[] cap ∧ F2 (fun u p => Lv c N p.1 ∧ u = .pointer (some ⟨c.b p.1, p.2, none⟩)) cap.toList ks
 | .u => v.oneCell' = true
def RA (c : Cx) (N : Bp) (v : Value) : AV → Prop
 | .c x => RC c N v x
 | .g cs => ∃ vs, v = .agg vs ∧ F2 (RC c N) vs.toList cs
def RS (c : Cx) (N : Bp) (v : Value) : SV → Prop
 | .c x => RC c N v x
 | .g cs => ∃ vs, v = .agg vs ∧ F2 (RC c N) vs.toList cs
 | .t xs => ∃ vs, v = .tuple vs ∧ F2 (RA c N) vs.toList xs
 | .u => True
 | .k => v = undef
structure Mon (c : Cx) (N : Bp) (c' : Cx) (N' : Bp) : Prop where
 n : N.val ≤ N'.val
 b : ∀ k, Lv c N k → c'.b k = c.b k
 s : ∀ k, Lv c N k → c'.s k = c.s k
 t : ∀ k, Lv c N k → c'.t k
theorem Lv.mon {c c' : Cx} {N N' k : Bp} (hk : Lv c N k) (h : Mon c N c' N') : Lv c' N' k := ⟨Nat.lt_of_lt_of_le hk.1 h.n, h.t k hk⟩
theorem Mon.refl (c : Cx) (N : Bp) : Mon c N c N := ⟨Nat.le_refl _, fun _ _ => rfl, fun _ _ => rfl, fun _ h => h.2⟩
theorem Mon.trans {c c' c'' : Cx} {N N' N'' : Bp} (h : Mon c N c' N') (k : Mon c' N' c'' N'') : Mon c N c'' N'' :=
 ⟨Nat.le_trans h.n k.n, fun j hj => (k.b j (hj.mon h)).trans (h.b j hj), fun j hj => (k.s j (hj.mon h)).trans (h.s j hj), fun j hj => k.t j (hj.mon h)⟩
section
variable {c c' : Cx} {N N' : Bp}
theorem RC.mon (h : Mon c N c' N') {v : Value} {x : CV} (r : RC c N v x) : RC c' N' v x := by
 cases x with
 | i k n => exact r
 | b x => exact r
 | s l => exact r
 | np => exact r
 | p k o => exact ⟨r.1.mon h, by rw [h.b k r.1]; exact r.2⟩
 | nl => exact r
 | sl k o n q => exact ⟨r.1.mon h, by rw [h.b k r.1]; exact r.2⟩
 | st k o n es => exact ⟨r.1.mon h, by rw [h.b k r.1, h.s k r.1]; exact r.2⟩
 | nm => exact r
 | m k => exact ⟨r.1.mon h, by rw [h.b k r.1]; exact r.2⟩
 | nf => exact r
 | f n ks =>
  obtain ⟨cap, e, r⟩ := r; exact ⟨cap, e, forall2_mono (fun u p q => ⟨q.1.mon h, by rw [h.b _ q.1]; exact q.2⟩) r⟩
 | u => exact r
theorem RCs.mon (h : Mon c N c' N') {vs : List Value} {xs : List CV} (r : F2 (RC c N) vs xs) : F2 (RC c' N') vs xs := forall2_mono (fun _ _ => RC.mon h) r
theorem RA.mon (h : Mon c N c' N') {v : Value} {x : AV} (r : RA c N v x) : RA c' N' v x := by
 cases x with
 | c x => exact RC.mon h r
 | g cs => obtain ⟨vs, e, r⟩ := r; exact ⟨vs, e, RCs.mon h r⟩
theorem RS.mon (h : Mon c N c' N') {v : Value} {x : SV} (r : RS c N v x) : RS c' N' v x := by
 cases x with
 | c x => exact RC.mon h r
 | g cs => obtain ⟨vs, e, r⟩ := r; exact ⟨vs, e, RCs.mon h r⟩
 | t xs => obtain ⟨vs, e, r⟩ := r; exact ⟨vs, e, forall2_mono (fun _ _ => RA.mon h) r⟩
 | u => trivial
 | k => exact r
theorem RC.one {v : Value} {x : CV} (r : RC c N v x) : v.oneCell' = true := by
 cases x with
 | i k n => rw [r]; rfl
 | b x => rw [r]; rfl
 | s l => rw [r.1]; rfl
 | np => rw [r]; rfl
 | p k o => rw [r.2]; rfl
 | nl => rw [r]; rfl
 | sl k o n q => rw [r.2.1]; rfl
 | st k o n es => obtain ⟨_, _, q, e, _⟩ := r; rw [e]; rfl
 | nm => rw [r]; rfl
 | m k => rw [r.2]; rfl
 | nf => rw [r]; rfl
 | f n ks => obtain ⟨_, e, _⟩ := r; rw [e]; rfl
 | u => exact r
end
def Fz (fz : Nat × Nat) (n : Nat) : Prop := ∀ j, j < n → ¬ (fz.1 ≤ j ∧ j < fz.2)
def ER (c : Cx) (N : Bp) (e : MapEntry) (p : CV × AV) : Prop := RC c N e.key p.1 ∧ RA c N e.val p.2
def RO (c : Cx) (N : Bp) (w : World) (k : Bp) : Ob → Prop
 | .x tl T sz cs => ∃ cur fz, w.heap[c.b k]? = some (.cells cur T fz) ∧ cur.size = c.s k ∧ sz ≤ cur.size ∧ (tl = false → sz = cur.size) ∧ Fz fz cur.size ∧ ∀ j x, j < sz → cs.get (toB j) = some x → RC c N (cur.getD j undef) x
 | .m es => ∃ ents : Array MapEntry, w.heap[c.b k]? = some (.map ents ents.size) ∧ ents.toList.map (·.born) = List.range ents.size ∧ F2 (ER c N) ents.toList es
 | .it q n rem la => Lv c N q ∧ ∃ seen : Array Nat, w.heap[c.b k]? = some (.mapIter (some (c.b q)) n seen n) ∧ rem = (List.range n).filter (fun i => !seen.contains i) ∧ la = seen.back? ∧ ∀ i ∈ seen.toList, i < n
theorem RO.there {c : Cx} {N : Bp} {w : World} {k : Bp} {ob : Ob} (h : RO c N w k ob) : c.b k < w.heap.size := by
 cases ob with
 | x tl T sz cs => obtain ⟨_, _, h, _⟩ := h; exact lt_of_some h
 | m es => obtain ⟨_, h, _⟩ := h; exact lt_of_some h
 | it q n rem la => obtain ⟨_, _, h, _⟩ := h; exact lt_of_some h
theorem RO.mon {c c' : Cx} {N N' : Bp} {w w' : World} {k : Bp} {ob : Ob} (h : Mon c N c' N') (hk : Lv c N k) (hw : w'.heap[c.b k]? = w.heap[c.b k]?) (r : RO c N w k ob) : RO c' N' w' k ob := by
 cases ob with
 | x tl T sz cs =>
  obtain ⟨cur, fz, h1, h2, h3, h4, h5, h6⟩ := r; exact ⟨cur, fz, by rw [h.b k hk, hw]; exact h1, by rw [h.s k hk]; exact h2, h3, h4, h5, fun j x hj hx => RC.mon h (h6 j x hj hx)⟩
 | m es =>
  obtain ⟨ents, h1, h2, h3⟩ := r; exact ⟨ents, by rw [h.b k hk, hw]; exact h1, h2, forall2_mono (fun _ _ q => ⟨RC.mon h q.1, RA.mon h q.2⟩) h3⟩
 | it q n rem la =>
  obtain ⟨h0, seen, h1, h2, h3⟩ := r; exact ⟨h0.mon h, seen, by rw [h.b k hk, h.b q h0, hw]; exact h1, h2, h3⟩
structure MR (c : Cx) (N : Bp) (m : Mm) (w : World) : Prop where
 old : ∀ k ob, m.get k = some ob → Lv c N k
 ob : ∀ k ob, m.get k = some ob → RO c N w k ob
 inj : ∀ k j x y, m.get k = some x → m.get j = some y → c.b k = c.b j → k = j
theorem MR.sub {c : Cx} {N : Bp} {m m' : Mm} {w : World} (h : MR c N m w) (hs : ∀ k ob, m'.get k = some ob → m.get k = some ob) : MR c N m' w :=
 ⟨fun k ob hk => h.old k ob (hs k ob hk), fun k ob hk => h.ob k ob (hs k ob hk), fun k j x y hk hj => h.inj k j x y (hs k x hk) (hs j y hj)⟩
structure Fr (c : Cx) (N : Bp) (m : Mm) (w : World) (c' : Cx) (N' : Bp) (m' : Mm) (w' : World) : Prop where
 mon : Mon c N c' N'
 os : w'.os = w.os
 tape : w'.tape = w.tape
 output : w'.output = w.output
 size : w.heap.size ≤ w'.heap.size
 blk : ∀ b, b < w.heap.size → (∀ k ob, m.get k = some ob → c.b k ≠ b) → w'.heap[b]? = w.heap[b]?
 own : ∀ k ob, m'.get k = some ob → (∃ j x, m.get j = some x ∧ c.b j = c'.b k) ∨ w.heap.size ≤ c'.b k
 tb : ∀ k, k.val < N.val → c'.t k → c.t k
theorem Fr.refl (c : Cx) (N : Bp) (m : Mm) (w : World) : Fr c N m w c N m w :=
 ⟨.refl c N, rfl, rfl, rfl, Nat.le_refl _, fun _ _ _ => rfl, fun k ob h => .inl ⟨k, ob, h, rfl⟩, fun _ _ h => h⟩
theorem Fr.trans {c c' c'' : Cx} {N N' N'' : Bp} {m m' m'' : Mm} {w w' w'' : World} (h : Fr c N m w c' N' m' w') (k : Fr c' N' m' w' c'' N'' m'' w'') : Fr c N m w c'' N'' m'' w'' := by
 refine ⟨h.mon.trans k.mon, k.os.trans h.os, k.tape.trans h.tape, k.output.trans h.output, Nat.le_trans h.size k.size, fun b hb hn => ?_, fun j ob hj => ?_, fun j hj ht => h.tb j hj (k.tb j (Nat.lt_of_lt_of_le hj h.mon.n) ht)⟩
 ·refine (k.blk b (Nat.lt_of_lt_of_le hb h.size) fun j ob hj e => ?_).trans (h.blk b hb hn)
  rcases h.own j ob hj with ⟨i, x, hi, e2⟩ | h2
  ·exact hn i x hi (e2.trans e)
  ·omega
 ·rcases k.own j ob hj with ⟨i, x, hi, e⟩ | h2
  ·rcases h.own i x hi with ⟨l, y, hl, e2⟩ | h2
   ·exact .inl ⟨l, y, hl, e2.trans e⟩
   ·exact .inr (by omega)
  ·exact .inr (Nat.le_trans h.size h2)
theorem Fr.sub {c c' : Cx} {N N' : Bp} {m m' m'' : Mm} {w w' : World} (h : Fr c N m w c' N' m' w') (hs : ∀ k ob, m''.get k = some ob → ∃ ob', m'.get k = some ob') : Fr c N m w c' N' m'' w' :=
 ⟨h.mon, h.os, h.tape, h.output, h.size, h.blk, fun k ob hk => (let ⟨ob', h'⟩ := hs k ob hk; h.own k ob' h'), h.tb⟩
theorem MR.rest {c c' : Cx} {N N' : Bp} {m m1 m2 : Mm} {w w' : World} (h : MR c N m w) (hs : ∀ k ob, m1.get k = some ob → m.get k = some ob) (f : Fr c N m1 w c' N' m2 w') (r : MR c' N' m2 w')
  {m' : Mm} (hm : ∀ k ob, m'.get k = some ob → m2.get k = some ob ∨ (m1.get k = none ∧ m2.get k = none ∧ m.get k = some ob)) : MR c' N' m' w' ∧ Fr c N m w c' N' m' w' := by
 have hb : ∀ k ob, m1.get k = none → m.get k = some ob → w'.heap[c.b k]? = w.heap[c.b k]? := fun k ob h1 h2 => by
  refine f.blk _ (h.ob k ob h2).there fun j x hj e => ?_
  have := h.inj j k x ob (hs j x hj) h2 e; subst this
  rw [hj] at h1; cases h1
 have hx : ∀ k ob j x, m1.get k = none → m.get k = some ob → m2.get j = some x → c.b k ≠ c'.b j := fun k ob j x h1 h2 hj e => by
  rcases f.own j x hj with ⟨i, y, hi, e2⟩ | h3
  ·have := h.inj k i ob y h2 (hs i y hi) (e.trans e2.symm); subst this
   rw [hi] at h1; cases h1
  ·have := (h.ob k ob h2).there
   omega
 refine ⟨⟨fun k ob hk => ?_, fun k ob hk => ?_, fun k j x y hk hj e => ?_⟩, ⟨f.mon, f.os, f.tape, f.output, f.size, fun b hlt hn => f.blk b hlt fun k ob hk => hn k ob (hs k ob hk), fun k ob hk => ?_, f.tb⟩⟩
 ·rcases hm k ob hk with h1 | ⟨h1, h2, h3⟩
  ·exact r.old k ob h1
  ·exact (h.old k ob h3).mon f.mon
 ·rcases hm k ob hk with h1 | ⟨h1, h2, h3⟩
  ·exact r.ob k ob h1
  ·exact RO.mon f.mon (h.old k ob h3) (hb k ob h1 h3) (h.ob k ob h3)
 ·rcases hm k x hk with h1 | ⟨h1, h2, h3⟩
  ·rcases hm j y hj with g1 | ⟨g1, g2, g3⟩
   ·exact r.inj k j x y h1 g1 e
   ·exact absurd ((f.mon.b j (h.old j y g3)).symm.trans e.symm) (hx j y k x g1 g3 h1)
  ·rcases hm j y hj with g1 | ⟨g1, g2, g3⟩
   ·exact absurd ((f.mon.b k (h.old k x h3)).symm.trans e) (hx k x j y h1 h3 g1)
   ·exact h.inj k j x y h3 g3 ((f.mon.b k (h.old k x h3)).symm.trans (e.trans (f.mon.b j (h.old j y g3))))
 ·rcases hm k ob hk with h1 | ⟨h1, h2, h3⟩
  ·exact (f.own k ob h1).imp (fun ⟨j, x, hj, e⟩ => ⟨j, x, hs j x hj, e⟩) id
  ·exact .inl ⟨k, ob, h3, (f.mon.b k (h.old k ob h3)).symm⟩
theorem MR.step {c c' : Cx} {N N' : Bp} {m m' : Mm} {w w' : World} (h : MR c N m w) (hmon : Mon c N c' N') (k0 : Bp) (hB : ∀ b, b < w.heap.size → b ≠ c'.b k0 → w'.heap[b]? = w.heap[b]?)
  (hm : ∀ k ob, k ≠ k0 → m'.get k = some ob → m.get k = some ob ∧ c.b k ≠ c'.b k0) (hk0 : ∀ ob, m'.get k0 = some ob → Lv c' N' k0 ∧ RO c' N' w' k0 ob) : MR c' N' m' w' := by
 have hne : ∀ k ob, k ≠ k0 → m'.get k = some ob → c'.b k ≠ c'.b k0 := fun k ob h1 h2 e => by
  obtain ⟨h3, h4⟩ := hm k ob h1 h2; exact h4 ((hmon.b k (h.old k ob h3)).symm.trans e)
 refine ⟨fun k ob hk => ?_, fun k ob hk => ?_, fun k j x y hk hj e => ?_⟩
 ·by_cases e : k = k0
  ·subst e; exact (hk0 ob hk).1
  ·exact (h.old k ob (hm k ob e hk).1).mon hmon
 ·by_cases e : k = k0
  ·subst e; exact (hk0 ob hk).2
  ·obtain ⟨h1, h2⟩ := hm k ob e hk; exact RO.mon hmon (h.old k ob h1) (hB _ (h.ob k ob h1).there h2) (h.ob k ob h1)
 ·by_cases e1 : k = k0
  ·by_cases e2 : j = k0
   ·rw [e1, e2]
   ·subst e1; exact absurd e.symm (hne j y e2 hj)
  ·by_cases e2 : j = k0
   ·subst e2; exact absurd e (hne k x e1 hk)
   ·obtain ⟨h1, _⟩ := hm k x e1 hk; obtain ⟨h2, _⟩ := hm j y e2 hj; exact h.inj k j x y h1 h2 ((hmon.b k (h.old k x h1)).symm.trans (e.trans (hmon.b j (h.old j y h2))))
theorem MR.set {c : Cx} {N : Bp} {m : Mm} {w w' : World} (h : MR c N m w) {k0 : Bp} {ob0 ob : Ob} (h0 : m.get k0 = some ob0) (hos : w'.os = w.os ∧ w'.tape = w.tape ∧ w'.output = w.output) (hsz : w'.heap.size = w.heap.size) (hB : ∀ b, b ≠ c.b k0 → w'.heap[b]? = w.heap[b]?)
  (hr : RO c N w' k0 ob) : MR c N (m.upd k0 (some ob)) w' ∧ Fr c N m w c N (m.upd k0 (some ob)) w' := by
 refine ⟨h.step (.refl c N) k0 (fun b _ hb => hB b hb) (fun k x hk hx => ?_) fun x hx => ?_, ⟨.refl c N, hos.1, hos.2.1, hos.2.2, by omega, fun b hb hn => hB b fun e => hn k0 ob0 h0 e.symm, fun k x hx => ?_, fun _ _ h => h⟩⟩
 ·rw [get_upd, if_neg hk] at hx; exact ⟨hx, fun e => hk (h.inj k k0 x ob0 hx h0 e)⟩
 ·rw [get_upd, if_pos rfl] at hx
  injection hx with hx; subst hx
  exact ⟨h.old k0 ob0 h0, hr⟩
 ·rw [get_upd] at hx
  split at hx
  ·rename_i e; subst e; exact .inl ⟨k, ob0, h0, rfl⟩
  ·exact .inl ⟨k, x, hx, rfl⟩
noncomputable def Cx.new (c : Cx) (k : Bp) (b s : Nat) : Cx := ⟨fun j => if j = k then b else c.b j, fun j => if j = k then s else c.s j, fun j => j = k ∨ c.t j⟩
theorem mon_new (c : Cx) (N : Bp) (b s : Nat) : Mon c N (c.new N b s) N.inc :=
 ⟨by rw [inc_val]; omega, fun k hk => by simp only [Cx.new]; rw [if_neg fun e => by rw [e] at hk; exact Nat.lt_irrefl _ hk.1], fun k hk => by simp only [Cx.new]; rw [if_neg fun e => by rw [e] at hk; exact Nat.lt_irrefl _ hk.1], fun k hk => .inr hk.2⟩
theorem new_l (c : Cx) (N : Bp) (b s : Nat) : Lv (c.new N b s) N.inc N := ⟨by rw [inc_val]; omega, .inl rfl⟩
theorem tb_new (c : Cx) (N : Bp) (b s : Nat) : ∀ k, k.val < N.val → (c.new N b s).t k → c.t k := fun k hk h => h.resolve_left fun e => by rw [e] at hk; exact Nat.lt_irrefl _ hk
theorem new_b (c : Cx) (k : Bp) (b s : Nat) : (c.new k b s).b k = b := by simp [Cx.new]
theorem new_s (c : Cx) (k : Bp) (b s : Nat) : (c.new k b s).s k = s := by simp [Cx.new]
theorem MR.new {c : Cx} {N : Bp} {m : Mm} {w w' : World} (h : MR c N m w) (b s : Nat) {ob : Ob} (hos : w'.os = w.os ∧ w'.tape = w.tape ∧ w'.output = w.output) (hb : w.heap.size ≤ b) (hsz : w.heap.size ≤ w'.heap.size) (hB : ∀ j, j < w.heap.size → w'.heap[j]? = w.heap[j]?)
  (hr : RO (c.new N b s) N.inc w' N ob) : MR (c.new N b s) N.inc (m.upd N (some ob)) w' ∧ Fr c N m w (c.new N b s) N.inc (m.upd N (some ob)) w' := by
 have hN : ∀ x, m.get N = some x → False := fun x hx => Nat.lt_irrefl _ (h.old N x hx).1
 refine ⟨h.step (mon_new c N b s) N (fun j hj _ => hB j hj) (fun k x hk hx => ?_) fun x hx => ?_, ⟨mon_new c N b s, hos.1, hos.2.1, hos.2.2, hsz, fun j hj _ => hB j hj, fun k x hx => ?_, tb_new c N b s⟩⟩
 ·rw [get_upd, if_neg hk] at hx; exact ⟨hx, fun e => by rw [new_b] at e; have := (h.ob k x hx).there; omega⟩
 ·rw [get_upd, if_pos rfl] at hx
  injection hx with hx; subst hx
  exact ⟨new_l c N b s, hr⟩
 ·rw [get_upd] at hx
  split at hx
  ·rename_i e; subst e; exact .inr (by rw [new_b]; exact hb)
  ·refine .inl ⟨k, x, hx, ((mon_new c N b s).b k (h.old k x hx)).symm⟩

def Rs.mem {α : Type} : Rs α → α → Prop
 | .one a, x => x = a
 | .two a b, x => x = a ∨ x = b
 | .no _, _ => False
def Rs.fine {α : Type} : Rs α → Prop
 | .no _ => False
 | _ => True
theorem app2_fine {α : Type} {x y : Rs α} (h : (app2 x y).fine) : x.fine ∧ y.fine ∧ (∀ a, x.mem a → (app2 x y).mem a) ∧ ∀ a, y.mem a → (app2 x y).mem a := by
 cases x <;> cases y <;> first | exact h.elim | exact ⟨trivial, trivial, fun a ha => .inl ha, fun a ha => .inr ha⟩
theorem bnd_fine {α β : Type} {x : Rs α} {h : α → Rs β} (hf : (bnd x h).fine) : x.fine ∧ ∀ a, x.mem a → (h a).fine ∧ ∀ b, (h a).mem b → (bnd x h).mem b := by
 cases x with
 | one a => exact ⟨trivial, fun b hb => by cases hb; exact ⟨hf, fun _ h => h⟩⟩
 | two a b =>
  have hf : (app2 (h a) (h b)).fine := hf; obtain ⟨h1, h2, h3, h4⟩ := app2_fine hf; refine ⟨trivial, fun d hd => ?_⟩
  rcases hd with rfl | rfl
  ·exact ⟨h1, h3⟩
  ·exact ⟨h2, h4⟩
 | no w => exact hf.elim
theorem tagR_fine {α : Type} {s : String} {x : Rs α} (h : (tagR s x).fine) : tagR s x = x := by
 cases x <;> first | rfl | exact h.elim
def Post (c : Cx) (N : Bp) (m : Mm) (w : World) (r : Rt) (v : Value) (w' : World) : Prop := ∃ c', RS c' r.c v r.v ∧ MR c' r.c r.m w' ∧ Fr c N m w c' r.c r.m w'
theorem Post.same {c : Cx} {N : Bp} {m : Mm} {w : World} {v : Value} {x : SV} (h : MR c N m w) (r : RS c N v x) : Post c N m w ⟨x, m, N⟩ v w := ⟨c, r, h, .refl _ _ _ _⟩
end Go.Proofs.YtbgifiijjjoebaaGreatDoor.Cm

namespace Go.Proofs.YtbgifiijjjoebaaGreatDoor.Cm
open Go Go.RowKit

theorem cond_and {a b : Bool} (h : (bif a then b else false) = true) : a = true ∧ b = true := by
 cases a with
 | false => cases h
 | true => exact ⟨rfl, h⟩
theorem kN_same {k j : IntKind} (h : Nat.beq (kN k) (kN j) = true) : k = j := by
 have := Nat.eq_of_beq_eq_true h
 cases k <;> cases j <;> first | rfl | (simp [kN] at this)
theorem ieq_eq {a b : Int} (h : ieq a b = true) : a = b := by
 unfold ieq at h
 split at h
 ·rw [Nat.eq_of_beq_eq_true h]
 ·rw [Nat.eq_of_beq_eq_true h]
 ·cases h
theorem bB_eq {a b : Bool} (h : bB a b = true) : a = b := by cases a <;> cases b <;> first | rfl | cases h
theorem bpB_eq : ∀ {p q : Bp}, bpB p q = true → p = q
 | .h, .h, _ => rfl
 | .h, .o _, h => nomatch h
 | .h, .i _, h => nomatch h
 | .o p, .h, h => nomatch h
 | .o p, .o q, h => by rw [bpB_eq (p := p) (q := q) h]
 | .o p, .i q, h => nomatch h
 | .i p, .h, h => nomatch h
 | .i p, .o q, h => nomatch h
 | .i p, .i q, h => by rw [bpB_eq (p := p) (q := q) h]
theorem lB_eq {α : Type} {f : α → α → Bool} (hf : ∀ {a b : α}, f a b = true → a = b) : ∀ {x y : List α}, lB f x y = true → x = y
 | [], [], _ => rfl
 | [], _ :: _, h => nomatch h
 | _ :: _, [], h => nomatch h
 | a :: x, b :: y, h => by
  obtain ⟨h1, h2⟩ := cond_and (show (bif f a b then lB f x y else false) = true from h); rw [hf h1, lB_eq hf h2]
theorem oB_eq {α : Type} {f : α → α → Bool} (hf : ∀ {a b : α}, f a b = true → a = b) {x y : Option α} (h : oB f x y = true) : x = y := by
 cases x <;> cases y
 ·rfl
 ·cases h
 ·cases h
 ·rw [hf h]
theorem cvB_eq {x y : CV} (h : cvB x y = true) : x = y := by
 unfold cvB at h
 split at h
 ·simp only [Bool.and_eq_true] at h; rw [kN_same h.1, ieq_eq h.2]
 ·rw [bB_eq h]
 ·rw [lB_eq (f := Nat.beq) Nat.eq_of_beq_eq_true h]
 ·rfl
 ·simp only [Bool.and_eq_true] at h; rw [bpB_eq h.1, Nat.eq_of_beq_eq_true h.2]
 ·rfl
 ·simp only [Bool.and_eq_true] at h; rw [bpB_eq h.1.1.1, Nat.eq_of_beq_eq_true h.1.1.2, Nat.eq_of_beq_eq_true h.1.2, Nat.eq_of_beq_eq_true h.2]
 ·simp only [Bool.and_eq_true] at h; rw [bpB_eq h.1.1.1, Nat.eq_of_beq_eq_true h.1.1.2, Nat.eq_of_beq_eq_true h.1.2, Nat.eq_of_beq_eq_true h.2]
 ·rfl
 ·rw [bpB_eq h]
 ·rfl
 ·simp only [Bool.and_eq_true] at h
  rw [Nat.eq_of_beq_eq_true h.1, lB_eq (f := fun a b : Bp × Nat => bpB a.1 b.1 && Nat.beq a.2 b.2) (fun {a b} e => by
   simp only [Bool.and_eq_true] at e
   exact Prod.ext (bpB_eq e.1) (Nat.eq_of_beq_eq_true e.2)) h.2]
 ·rfl
 ·cases h
theorem avB_eq {x y : AV} (h : avB x y = true) : x = y := by
 unfold avB at h
 split at h
 ·rw [cvB_eq h]
 ·rw [lB_eq cvB_eq h]
 ·cases h
theorem svB_eq {x y : SV} (h : svB x y = true) : x = y := by
 unfold svB at h
 split at h
 ·rw [cvB_eq h]
 ·rw [lB_eq cvB_eq h]
 ·rw [lB_eq avB_eq h]
 ·rfl
 ·rfl
 ·cases h
theorem trB_eq {α : Type} {f : α → α → Bool} (hf : ∀ {a b : α}, f a b = true → a = b) : ∀ {x y : Tr α}, trB f x y = true → x = y
 | .e, .e, _ => rfl
 | .e, .n _ _ _, h => nomatch h
 | .n _ _ _, .e, h => nomatch h
 | .n l v r, .n l' v' r', h => by
  obtain ⟨h1, h2⟩ := cond_and (show (bif oB f v v' then (bif trB f l l' then trB f r r' else false) else false) = true from h); obtain ⟨h2, h3⟩ := cond_and h2; rw [oB_eq hf h1, trB_eq hf h2, trB_eq hf h3]
theorem enB_eq {a b : CV × AV} (h : enB a b = true) : a = b := by
 unfold enB at h; simp only [Bool.and_eq_true] at h; exact Prod.ext (cvB_eq h.1) (avB_eq h.2)
theorem obB_eq {x y : Ob} (h : obB x y = true) : x = y := by
 unfold obB at h
 split at h
 ·simp only [Bool.and_eq_true] at h; rw [bB_eq h.1.1.1, Nat.eq_of_beq_eq_true h.1.1.2, Nat.eq_of_beq_eq_true h.1.2, trB_eq cvB_eq h.2]
 ·rw [lB_eq enB_eq h]
 ·simp only [Bool.and_eq_true] at h; rw [bpB_eq h.1.1.1, Nat.eq_of_beq_eq_true h.1.1.2, lB_eq (f := Nat.beq) Nat.eq_of_beq_eq_true h.1.2, oB_eq (f := Nat.beq) Nat.eq_of_beq_eq_true h.2]
 ·cases h
theorem rtB_eq {x y : Rt} (h : rtB x y = true) : x = y := by
 obtain ⟨v, m, c⟩ := x; obtain ⟨v', m', c'⟩ := y; unfold rtB at h; simp only [Bool.and_eq_true] at h; have h1 := svB_eq h.1.1; have h2 := bpB_eq h.1.2; have h3 := trB_eq obB_eq h.2; rw [h1, h2, h3]
def Sub (m m' : Mm) : Prop := ∀ k ob, m.get k = some ob → m'.get k = some ob
theorem rch_go (m : Mm) : ∀ (n : Nat) (acc : Mm) (l : List Bp), Sub acc m → Sub (Nat.rec (fun acc _ => acc) (rchS m) n acc l : Mm) m
 | 0, acc, _, h => h
 | n + 1, acc, [], h => h
 | n + 1, acc, k :: r, h => by
  show Sub (rch1 m acc (Nat.rec (fun acc _ => acc) (rchS m) n) k r) m
  unfold rch1
  split
  ·exact rch_go m n acc r h
  ·split
   ·rename_i ob hk
    refine rch_go m n _ _ fun j x hj => ?_
    rw [get_upd] at hj
    split at hj
    ·rename_i e; subst e
     injection hj with hj; subst hj
     exact hk
    ·exact h j x hj
   ·exact rch_go m n acc r h
theorem rch_sub (m : Mm) (n : Nat) (l : List Bp) : Sub (rch m n l) m := rch_go m n .e l fun k ob h => by rw [get_e] at h; cases h
end Go.Proofs.YtbgifiijjjoebaaGreatDoor.Cm
