/- slices.Backward at numbers: what it hands back goes through a row from its end. No conditions. census: Last of a set. No conditions. -/
import Derived.RangeFuncNested
import Derived.RangeFuncBound
import Derived.RangeFuncCalls
import Derived.RangeFuncLeaves
import Derived.Shelf.Abstract
import Derived.Shelf.RegionOpen
import Derived.WalkKit
import Derived.OwnWalkIn
import Derived.TacticsInMore
import Derived.LoopNIn
import Derived.LoopIn
import Derived.Test.YtpkfjbljhneenaaGreatGDoesAk
namespace Go.Proofs.YtpkfjbljhneenaaGreat
open Go.RowKit Go.Shelf
attribute [local go_sem] Oper.semAt_some
def KpR (R : Nat → Prop) (w w' : World) : Prop := ∀ b, R b → w'.heap[b]? = w.heap[b]?
theorem KpR.refl {R : Nat → Prop} (w : World) : KpR R w w := fun _ _ => rfl
theorem KpR.trans {R : Nat → Prop} {a b c : World} (h : KpR R a b) (k : KpR R b c) : KpR R a c := fun i hi => (k i hi).trans (h i hi)
def bks (n j : Nat) : List Nat := (List.range j).map fun i => n - 1 - i
theorem bks_succ (n j : Nat) : bks n (j + 1) = bks n j ++ [n - 1 - j] := by simp [bks, List.range_succ]
theorem bks_len (n j : Nat) : (bks n j).length = j := by simp [bks]

def encB (l : List Z) (Bf : Nat → Option Addr) (df : Nat → Nat) (k : Nat) : Array Value := #[.int .i64 (k : Nat), .agg #[.bool (zth l k).neg, .slice (Bf k) (zth l k).mag.length (df k)]]

set_option maxHeartbeats 400000 in
theorem backward_c (A : Option Addr) (n c : Nat) (w : World) :
  Calls Tryz.prog 47 #[.slice A n c] w fun e w' => e = .returned (.func (.func 88) #[] #[.pointer (some ⟨w.heap.size, 0, none⟩)]) ∧ w' = w.alloc (.cells #[.slice A n c] 35) := by
 go_enter Tryz.func47, Tryz.ntmps47
 go_wp2_with fail
 go_ret
 exact ⟨rfl, rfl⟩

set_option maxRecDepth 100000 in
set_option maxHeartbeats 2000000 in
theorem back_stops {w0 : World} {bb c m : Nat} {A : Option Addr} {l : List Z} {Bf : Nat → Option Addr} {df : Nat → Nat} {R : Nat → Prop} (hm : 1 ≤ m) (hR : ∀ b, R b → b < w0.heap.size) (hb : R bb) (hbox : w0.cell? ⟨bb, 0, none⟩ = some (.slice A l.length c)) (hll : l.length ≤ 1099511627776)
  (hc : ∀ k, k < l.length → ∃ b o, A = some ⟨b, o, none⟩ ∧ R b ∧ w0.cell? ⟨b, o + k * 2, none⟩ = some (.bool (zth l k).neg) ∧ w0.cell? ⟨b, o + k * 2 + 1, none⟩ = some (.slice (Bf k) (zth l k).mag.length (df k))) :
  SeqStopsK Fence.wide m Tryz.prog 88 #[.pointer (some ⟨bb, 0, none⟩)] (encB l Bf df) (KpR R) (fun ys => ys = bks l.length l.length) (fun _ => True) l.length w0 := fun lp J Jx W hW _ _ hY h0 => by
 have hkW : KpR R w0 W := fun b hb => Below.block hW b (hR b hb)
 have hbox' : W.cell? ⟨bb, 0, none⟩ = some (.slice A l.length c) := (World.cell?_of_block (a := ⟨bb, 0, none⟩) (hkW bb hb)).trans hbox
 have hc' : ∀ k, k < l.length → ∃ b o, A = some ⟨b, o, none⟩ ∧ R b ∧ W.cell? ⟨b, o + k * 2, none⟩ = some (.bool (zth l k).neg) ∧ W.cell? ⟨b, o + k * 2 + 1, none⟩ = some (.slice (Bf k) (zth l k).mag.length (df k)) := fun k hk => by
  obtain ⟨b, o, h1, h2, h3, h4⟩ := hc k hk; exact ⟨b, o, h1, h2, (World.cell?_of_block (a := ⟨b, o + k * 2, none⟩) (hkW b h2)).trans h3, (World.cell?_of_block (a := ⟨b, o + k * 2 + 1, none⟩) (hkW b h2)).trans h4⟩
 have hbl := World.block_lt_of_cell? _ _ hbox'; have HC := Lib.hid hc'; clear hc hc' hbox hkW hW
 refine callsIn_of_wp Tryz.func88 rfl trivial ?_ rfl
 simp only [Tryz.ntmps88, List.size_toArray, List.length_cons, List.length_nil, Nat.reduceAdd, Nat.reduceSub, Array.replicate_succ, Array.replicate_zero, List.push_toArray, List.append_toArray, List.nil_append, List.cons_append]; have w1 : IntKind.i64.wrap ((l.length : Int) - 1) = (l.length : Int) - 1 := w64 ⟨by omega, by omega⟩
 gi_wp2
 gi_loopw [3] (fun iv wr => ∃ j : Nat, j ≤ l.length ∧ iv = .int .i64 ((l.length : Int) - 1 - j) ∧ J (bks l.length j) wr ∧ KpR R W wr) (fun iv _ => ((intOf iv) + 1).toNat)
 case atStart => exact ⟨0, Nat.zero_le _, by simp, h0, KpR.refl _⟩
 case round =>
  obtain ⟨j, hj, rfl, hJ, hkp⟩ := hrel
  by_cases hlt : j < l.length
  ·obtain ⟨k, hk⟩ : ∃ k, k = l.length - 1 - j := ⟨_, rfl⟩
   have hki : (l.length : Int) - 1 - j = (k : Nat) := by omega
   obtain ⟨b, o, rfl, hRb, q0, q1⟩ := HC.out k (by omega); have p0 := (World.cell?_of_block (a := ⟨b, o + k * 2, none⟩) (hkp b hRb)).trans q0; have p1 := (World.cell?_of_block (a := ⟨b, o + k * 2 + 1, none⟩) (hkp b hRb)).trans q1; have p2 := (World.cell?_of_block (a := ⟨bb, 0, none⟩) (hkp bb hb)).trans hbox'; have pl := World.block_lt_of_cell? _ _ p0; have pl2 := World.block_lt_of_cell? _ _ p2
   have kl : (k : Int) < (l.length : Int) := by omega
   have hs1 : IntKind.i64.wrap ((k : Int) - 1) = (k : Int) - 1 := w64 ⟨by omega, by omega⟩; rw [hki]; obtain ⟨fn, tmps, assign, body, hy, hRd⟩ := hY _ k wr hJ (by rw [bks_len]; exact hlt); unfold encB at hy; have HK := Lib.hid hk; clear q0 q1 hki hk
   gi_wp2
   refine hRd.mono ?_; rintro e W3 (⟨rfl, hJ3, hk3⟩ | ⟨rfl, hJx3⟩)
   ·gi_wp2
    go_roundw
    case rel => exact ⟨j + 1, by omega, by congr 1; have := HK.out; omega, by rw [bks_succ, ← HK.out]; exact hJ3, hkp.trans hk3⟩
    case measure => have := HK.out; simp [intOf] <;> omega
   ·gi_wp2
    refine bodyPost_ret (results_none rfl _ _ _) rfl ?_; exact ⟨⟨_, rfl⟩, .inr ⟨_, trivial, hJx3⟩⟩
  ·obtain rfl : j = l.length := by omega
   have hneg : ¬ (0 : Int) ≤ (l.length : Int) - 1 - (l.length : Nat) := by omega
   gi_wp2
   go_end0
   exact ⟨⟨_, rfl⟩, .inl hJ⟩

end Go.Proofs.YtpkfjbljhneenaaGreat

namespace Go.Proofs.YtpkfjbljhneenaaGreat
open Go.RowKit Go.Shelf
attribute [local go_sem] Oper.semAt_some
section
variable {α : Type} {sz : Nat} {E : World → (Nat → Prop) → List Value → α → Prop}
theorem wpListIn_app [Stab E] {F : Fence} {n : Nat} {P : Program} {t e : TypeId} {bytes : Nat} {z : Value} (T : Ety P t e sz bytes z) {w : World} {ops : Array Oper} {rest : List Oper} {o : Oper} {a : Act} {Q : Exit → Act → World → Prop} (s x : Operand)
  {Z : Nat → Prop} {base : Nat} {v : Value} {l m : List α} {A : Option Addr} {c : Nat} {ys : List Value}
  (h : Own sz E w Z base e v l) (h3 : Fl sz E w (fun b => Z b ∧ v.ownBlock ≠ some b) ys m) (h4 : 0 < m.length → ∃ b o, A = some ⟨b, o, none⟩ ∧ ∀ j u, ys[j]? = some u → w.cell? ⟨b, o + j, none⟩ = some u)
  (hlen : (l.length + m.length) * bytes ≤ 140737488355328) (hL : l.length + m.length ≤ maxLen) (hbase : base ≤ w.heap.size)
  (hgd : o.guard = none) (ho : o.op = .call { callee := .builtin .append, args := #[s, x], argTypes := #[t, t] }) (hs : a.eval s = v) (hx : a.eval x = .slice A m.length c)
  (H : ∀ v' w', Own sz E w' Z base e v' (l ++ m) → w.grownBy w' v.ownBlock → (v'.ownBlock = v.ownBlock ∨ v'.ownBlock = some w.heap.size) → wpListIn F n P ops Q rest (a.put o.dst v') w') : wpListIn F n P ops Q (o :: rest) a w := by
 refine wpListIn_plain hgd fun K hK => ?_
 obtain ⟨v', w', hrun, h5, h6, h7⟩ := run_app (P := P) (ty := o.type) T (c := c) h h3 h4 hlen hL hbase; unfold Oper.wpIn; refine ⟨by simp [Oper.about, ho, resolve, Target.leads, Sem.run_pure], ?_⟩; rw [Oper.semAt_plain F _ _ (by rw [ho]; intro c hc'; cases hc')]; simp [execOp, ho, resolve, invoke, builtin, hs, hx, hrun, Result.andThen]; exact hK _ _ (H v' w' h5 h6 h7)
end

theorem wpListIn_appz1 {F : Fence} {n : Nat} {w : World} {ops : Array Oper} {rest : List Oper} {o : Oper} {a : Act} {Q : Exit → Act → World → Prop} (s x : Operand) {Zp : Nat → Prop} {base : Nat} {v : Value} {l : List Z} {z : Z} {A : Option Addr} {c : Nat}
  (h : Own 2 EZ w Zp base 25 v l) (hN : Nl w (fun b => Zp b ∧ v.ownBlock ≠ some b) A c z.mag) (hl : l.length ≤ 2199023255552) (hbase : base ≤ w.heap.size)
  (hgd : o.guard = none) (ho : o.op = .call { callee := .builtin .append, args := #[s, x], argTypes := #[35, 35] }) (hs : a.eval s = v) (hx : a.eval x = .slice (some ⟨w.heap.size, 0, none⟩) 1 1)
  (H : ∀ v' w', Own 2 EZ w' Zp base 25 v' (l ++ [z]) → (w.alloc (.cells #[.bool z.neg, .slice A z.mag.length c] 25)).grownBy w' v.ownBlock →
   (v'.ownBlock = v.ownBlock ∨ v'.ownBlock = some (w.heap.size + 1)) → wpListIn F n Tryz.prog ops Q rest (a.put o.dst v') w') :
  wpListIn F n Tryz.prog ops Q (o :: rest) a (w.alloc (.cells #[.bool z.neg, .slice A z.mag.length c] 25)) := by
 refine wpListIn_app (m := [z]) ety_z s x (Own.ext h ((Ext.refl w).alloc _)) (Fl.one (cs := [.bool z.neg, .slice A z.mag.length c]) ⟨A, c, rfl, hN.ext ((Ext.refl w).alloc _)⟩ rfl) (fun _ => ⟨_, _, rfl, fun j u hu => ?_⟩) ?_ ?_ ?_ hgd ho hs hx fun v' w' h1 h2 h3 => H v' w' h1 h2 (by simpa using h3)
 ·rw [World.cell?_alloc_at (hn := rfl)]
  match j, hu with
  | 0, hu => simpa using hu
  | 1, hu => simpa using hu
 ·simp only [List.length_cons, List.length_nil]; omega
 ·simp only [List.length_cons, List.length_nil, maxLen]; omega
 ·simp only [World.size_alloc]; omega

theorem bks_all (l : List Z) : (bks l.length l.length).map (zth l) = l.reverse := by
 apply List.ext_getElem
 ·simp [bks]
 ·intro i h1 h2
  have h3 : i < l.length := by simpa using h2
  simp only [bks, List.map_map, List.getElem_map, List.getElem_range, Function.comp_apply, List.getElem_reverse]; exact zth_eq _ _ (by omega)
theorem Zs.spread {w : World} {X : Nat → Prop} {A : Option Addr} {c : Nat} {l : List Z} (h : Zs w X A c l) :
  ∃ (Bf : Nat → Option Addr) (df : Nat → Nat), (∀ k, Nl w X (Bf k) (df k) (zth l k).mag) ∧
   ∀ k, k < l.length → ∃ b o, A = some ⟨b, o, none⟩ ∧ X b ∧ w.cell? ⟨b, o + k * 2, none⟩ = some (.bool (zth l k).neg) ∧ w.cell? ⟨b, o + k * 2 + 1, none⟩ = some (.slice (Bf k) (zth l k).mag.length (df k)) := by
 have h1 : ∀ k : Nat, ∃ p : Option Addr × Nat, Nl w X p.1 p.2 (zth l k).mag ∧ (k < l.length → ∃ b o, A = some ⟨b, o, none⟩ ∧ X b ∧ w.cell? ⟨b, o + k * 2, none⟩ = some (.bool (zth l k).neg) ∧ w.cell? ⟨b, o + k * 2 + 1, none⟩ = some (.slice p.1 (zth l k).mag.length p.2)) := fun k => by
  by_cases hk : k < l.length
  ·obtain ⟨b, o, B, d, hA, hX, q0, q1, hN⟩ := Zs.at_ h hk; exact ⟨(B, d), hN, fun _ => ⟨b, o, hA, hX, q0, q1⟩⟩
  ·have : (zth l k).mag = [] := by unfold zth; rw [List.getD_eq_getElem?_getD, List.getElem?_eq_none (by omega)]; rfl
   exact ⟨(none, 0), by rw [this]; exact Sl.nil0 _ _ _, fun h => absurd h hk⟩
 exact ⟨fun k => (Classical.choose (h1 k)).1, fun k => (Classical.choose (h1 k)).2, fun k => (Classical.choose_spec (h1 k)).1, fun k => (Classical.choose_spec (h1 k)).2⟩

theorem Nl.offn {w : World} {X : Nat → Prop} {A : Option Addr} {c r : Nat} {l : List Nat} {o : Obj} (hr : w.heap[r]? = some o) (ho : o.isCells = false) (h : Nl w X A c l) : Nl w (fun b => X b ∧ b ≠ r) A c l := by
 refine ⟨h.1, h.2.1, fun h0 => ?_, h.2.2.2⟩; obtain ⟨b, o', hA, hX, hi⟩ := h.2.2.1 h0
 have hne : b ≠ r := by
  obtain ⟨cs, hlen, hc, rfl, _⟩ := hi 0 h0; obtain ⟨o2, h1, h2⟩ := cells_of_cell (hc 0 (by simp)); intro e; subst e
  replace h1 : w.heap[b]? = some o2 := h1
  rw [hr] at h1
  injection h1 with h1
  rw [h1, h2] at ho
  cases ho
 exact ⟨b, o', hA, ⟨hX, hne⟩, fun i hi' => by obtain ⟨cs, h1, h2, h3⟩ := hi i hi'; exact ⟨cs, h1, h2, h3⟩⟩
theorem Own.others {W W' : World} {Zp : Nat → Prop} {base : Nat} {e : TypeId} {v : Value} {l : List Z} {row : Option Nat} (h : Own 2 EZ W Zp base e v l) (hg : W.grownBy W' row) (hr : ∀ r, row = some r → ∃ o : Obj, W.heap[r]? = some o ∧ o.isCells = false) : Own 2 EZ W' Zp base e v l := by
 cases row with
 | none => exact h.keep ((Kp.refl W).grown hg (by simp))
 | some r =>
  obtain ⟨o, h1, h2⟩ := hr r rfl
  have hown : v.ownBlock ≠ some r := fun hv => by
   obtain ⟨xs, ⟨_, hrow⟩, _⟩ := h
   rcases hrow with ⟨rfl, _⟩ | ⟨g, cap, cur, rfl, _, hg2, _⟩
   ·cases hv
   ·injection hv with hv
    subst hv; rw [h1] at hg2
    injection hg2 with hg2
    rw [hg2] at h2
    cases h2
  have h3 : Own 2 EZ W (fun b => Zp b ∧ b ≠ r) base e v l := by
   obtain ⟨xs, k1, k2⟩ := h; refine ⟨xs, k1, k2.1, fun i hi => ?_⟩; obtain ⟨A, c, e1, k3⟩ := k2.2 i hi; exact ⟨A, c, e1, (Nl.offn h1 h2 k3).widen fun b hb _ => ⟨⟨hb.1.1, hb.2⟩, hb.1.2⟩⟩
  exact (h3.keep ((Kp.refl W).grown hg (fun k hk hX => by injection hk with hk; subst hk; rcases hX with hX | hX; exact hX.2 rfl; exact hown hX))).widen fun b hb _ => hb.1
theorem Box.others {W W' : World} {g : Nat} {t : TypeId} {cs : Array Value} {row : Option Nat} (h : Box W g t cs) (hg : W.grownBy W' row) (hr : ∀ r, row = some r → ∃ o : Obj, W.heap[r]? = some o ∧ o.isCells = false) : Box W' g t cs :=
 h.grown hg fun e => by
  obtain ⟨o, h1, h2⟩ := hr g e.symm; unfold Box at h; rw [h] at h1
  injection h1 with h1
  rw [← h1] at h2
  cases h2
theorem KeepsOthers.ext {W W' : World} (h : Ext W W') : KeepsOthers W W' := ⟨h.size, fun k _ hk _ => (h.block k (lt_of_some hk)).trans hk⟩
theorem Own.cells_row {W : World} {Zp : Nat → Prop} {base : Nat} {e : TypeId} {v : Value} {l : List Z} (h : Own 2 EZ W Zp base e v l) {r : Nat} {o : Obj} (hv : v.ownBlock = some r) (hr : W.heap[r]? = some o) : o.isCells = true := by
 obtain ⟨xs, ⟨_, hrow⟩, _⟩ := h
 rcases hrow with ⟨rfl, _⟩ | ⟨g, cap, cur, rfl, _, hg2, _⟩
 ·cases hv
 ·injection hv with hv
  subst hv; rw [hr] at hg2
  injection hg2 with hg2
  rw [hg2]; rfl
def LsI (w W2 : World) (g6 gR : Nat) (lo : Z) (cuts : List Z) (pre : List Nat) (W : World) : Prop :=
 (∃ v, Box W g6 35 #[v] ∧ Own 2 EZ W (fun b => b < w.heap.size ∨ W2.heap.size ≤ b) w.heap.size 25 v (lo :: lstG lo.v (pre.map (zth cuts))) ∧ (∀ b, v.ownBlock = some b → b = gR ∨ W2.heap.size ≤ b)) ∧
  KpR (fun b => b < W2.heap.size ∧ b ≠ g6 ∧ b ≠ gR) W2 W ∧ Ext w W ∧ W2.heap.size ≤ W.heap.size
theorem lsI_from {w W2 : World} {g6 gR : Nat} {lo : Z} {cuts : List Z} (hw : w.heap.size ≤ W2.heap.size) : OwnFrom W2.heap.size (LsI w W2 g6 gR lo cuts) := fun pre A B row hs hg hr => by
 obtain ⟨⟨v, h1, h2, h3⟩, h4, h5, h6⟩ := hs
 have hr2 : ∀ r, row = some r → ∃ o : Obj, A.heap[r]? = some o ∧ o.isCells = false := fun r e => (hr r e).2
 have hsz := hg.size; exact ⟨⟨v, h1.others hg hr2, h2.others hg hr2, h3⟩, fun b hb => (hg.block b (by omega) (fun e => by have := (hr b e.symm).1; omega)).trans (h4 b hb), h5.grown hg (fun k hk => by have := (hr k hk).1; omega), by omega⟩

set_option maxRecDepth 100000 in
set_option maxHeartbeats 3200000 in
theorem last_c {g N L : Nat} {s : Ps} {w : World} {X Y : Nat → Prop} {u : Value} {lo : Z} (hs : SetV w X g s) (hsk : s.ok N) (hN : N ≤ L) (hL : L ≤ 1099511627770) (hlo : Zi w Y u lo) (hLl : lo.mag.length ≤ L) :
  Calls Tryz.prog 15 #[.pointer (some ⟨g, 0, none⟩), u] w fun e w' => ∃ r, e = .returned (.tuple #[r, .bool (lstV s lo).isSome]) ∧ Zi w' (w.heap.size ≤ ·) r (cz ((lstV s lo).getD 0)) ∧ Ext w w' := by
 have hcl := hsk.len
 have hcu := fun (V : World) (hV : Ext w V) => cuts_c (hs.ext hV) hsk (by omega)
 have hls := fun (U : World) (hU : Ext w U) (r : Value) (z : Z) (Q : Nat → Prop) (h : Zi U Q r z) => less_c h (hlo.ext hU)
 have hzl := lstS_zl hsk hN hLl
 have hfd := fun (U : World) (hU : Ext w U) (Q : Nat → Prop) (A : Option Addr) (c : Nat) (h : Zs U Q A c (lstS s lo)) => found_c (step := -1) (hs.ext hU) hsk h (.inr rfl) (fun a ha => by have := hzl a ha; omega)
 have HFd := Lib.hid hfd; clear hfd hzl; obtain ⟨ov, hov⟩ : ∃ ov, ov = lstV s lo := ⟨_, rfl⟩; have hov' := Lib.hid (show fndV s (-1) (lstS s lo) = ov from hov.symm); rw [← hov]; clear hov; have hov := hov'; clear hov'; obtain ⟨zn, hzn⟩ : ∃ zn, zn = cz (ov.getD 0) := ⟨_, rfl⟩; obtain ⟨bn, hbn⟩ : ∃ bn, bn = ov.isSome := ⟨_, rfl⟩; rw [← hzn, ← hbn]
 have HZN := Lib.hid hzn; have HBN := Lib.hid hbn
 clear hzn hbn; obtain ⟨A, c, rfl, hlo⟩ := hlo
 have hlo := hlo.widen (Y := fun b => b < w.heap.size) fun b _ h => h
 refine (callsIn_wide (n := 9)).1 ?_
 refine callsIn_of_wp_marks Tryz.func15 rfl trivial ?_ rfl
 refine wpIn_wide.2 ?_; simp only [Tryz.ntmps15, List.size_toArray, List.length_cons, List.length_nil, Nat.reduceAdd, Nat.reduceSub, Array.replicate_succ, Array.replicate_zero, List.push_toArray, List.append_toArray, List.nil_append, List.cons_append]
 go_upto_region 3 with fail
 refine wp_named fun W1 hW1 => ?_
 have b3' : Box W1 w.heap.size 25 #[.bool lo.neg, .slice A lo.mag.length c] := by rw [hW1]; exact bxt
 have b4' : Box W1 (w.heap.size + 1) 25 #[.bool false, .slice none 0 0] := by rw [hW1]; exact bxt
 have hEW : Ext w W1 := by rw [hW1]; exact xt
 have hW1s : W1.heap.size = w.heap.size + 1 + 1 := by rw [hW1]; simp only [wsz]
 clear hW1
 have b3r := b3'.rules; have b3l := b3'.lt
 go_upto_region 4 with fail
 refine wp_named fun W hW => ?_
 have b3 : Box W w.heap.size 25 #[.bool lo.neg, .slice A lo.mag.length c] := by rw [hW]; exact bxt
 have b4 : Box W (w.heap.size + 1) 25 #[.bool false, .slice none 0 0] := by rw [hW]; exact bxt
 have b6 : Box W (w.heap.size + 1 + 1 + 1) 35 #[.slice (some ⟨w.heap.size + 1 + 1, 0, none⟩) 1 1] := by rw [hW]; exact Box.new_at _ _ _ (by simp only [wsz]; omega)
 have hE : Ext w W := by rw [hW]; exact xt
 have hWs : W.heap.size = w.heap.size + 1 + 1 + 1 + 1 := by rw [hW]; simp only [wsz]; omega
 have hO0 : Own 2 EZ W (fun b => b < w.heap.size) w.heap.size 25 (.slice (some ⟨w.heap.size + 1 + 1, 0, none⟩) 1 1) [lo] := by
  rw [hW]
  have h1 := Own.onez (w := W1) (Zp := fun b => b < w.heap.size) (base := w.heap.size) (t := 25) (A := A) (c := c) (z := lo) (by omega)
   ((hlo.ext hEW).widen fun b hb _ => ⟨hb, by omega⟩)
  rw [hW1s] at h1; exact h1.ext ((Ext.refl _).alloc _)
 clear hW b3' b4' b3r b3l; have HO0 := Lib.hid hO0; clear hO0
 go_wp2_with fail
 refine (hcu _ hE).mono ?_; rintro e w1 ⟨A1, c1, rfl, hZ1, hx1⟩; have hs1 := hx1.size
 have hZ1 := Sl.widen hZ1 (by omega) (Y := fun b => W.heap.size ≤ b ∧ b < w1.heap.size) fun b hb hl => ⟨hb, hl⟩
 have hlm := hZ1.2.1; simp only [maxLen] at hlm; obtain ⟨Bf, df, hNf, hcf⟩ := Zs.spread hZ1
 go_wp2_with fail
 refine (backward_c A1 s.cuts.length c1 w1).mono ?_; rintro e w2' ⟨rfl, hw2⟩; obtain ⟨w2, hw2e⟩ : ∃ w2, w2 = w1.alloc (.cells #[.slice A1 s.cuts.length c1] 35) := ⟨_, rfl⟩; rw [← hw2e] at hw2; subst hw2
 have bb2 : Box w2' w1.heap.size 35 #[.slice A1 s.cuts.length c1] := by rw [hw2e]; exact Box.new _ _ _
 have hx2 : Ext w1 w2' := by rw [hw2e]; exact (Ext.refl w1).alloc _
 have hs2 : w2'.heap.size = w1.heap.size + 1 := by rw [hw2e]; simp only [wsz]
 clear hw2e; have hE2 := (hE.trans hx1).trans hx2; have hxW := hx1.trans hx2
 have c3 := b3.ext hxW; have c4 := b4.ext hxW; have c6 := b6.ext hxW
 have hO2 := HO0.out.ext hxW
 have hN2 := fun k => (hNf k).ext hx2
 have hlo2 := hlo.ext hE2
 go_upto_region 100 with fail
 have hI0 : LsI w w2' (w.heap.size + 1 + 1 + 1) (w.heap.size + 1 + 1) lo s.cuts [] w2' :=
  ⟨⟨_, c6, hO2.widen fun b hb _ => .inl hb, fun b e => .inl (by injection e with e; exact e.symm)⟩, KpR.refl _, hE2, Nat.le_refl _⟩
 have hback := back_stops (w0 := w2') (bb := w1.heap.size) (c := c1) (m := 8) (A := A1) (l := s.cuts) (Bf := Bf) (df := df) (R := fun b => W.heap.size ≤ b ∧ b < w2'.heap.size) (by omega) (fun b hb => hb.2) ⟨by omega, by omega⟩ (by rw [bb2.cell]; rfl) (by omega) (fun k hk => by
  obtain ⟨b, o, h1, h2, h3, h4⟩ := hcf k hk; have hbl := World.block_lt_of_cell? _ _ h3
  exact ⟨b, o, h1, ⟨h2.1, by omega⟩, (hx2.cells.1 b _ hbl).trans h3, (hx2.cells.1 b _ hbl).trans h4⟩)
 refine wpIn_wide (n := 9).1 (wpIn_rangeFunc_ownH (F := Fence.wide) (n := 9) rfl (by omega) (gf := 88) (lb := #[.pointer (some ⟨w1.heap.size, 0, none⟩)]) rfl trivial (enters_of Tryz.func88 (by kernel_rfl) rfl)
  hback (fun h k => h.trans k) (fun W l o o' hl ho _ _ b hb => World.putObj_heap_other (by omega)) (Below.refl _ _) (fun _ => rfl)
  (LsI w w2' (w.heap.size + 1 + 1 + 1) (w.heap.size + 1 + 1) lo s.cuts) (fun _ _ _ => False) (lsI_from hE2.size) (fun _ _ _ _ _ hs _ _ => hs) hI0
  (fun x a' W => ∃ Bx, w2'.heap.size ≤ Bx ∧ Box W Bx 25 #[.bool (zth s.cuts x).neg, .slice (Bf x) (zth s.cuts x).mag.length (df x)] ∧ a' = { tmps := #[.pointer (some ⟨g, 0, none⟩), .agg #[.bool lo.neg, .slice A lo.mag.length c], undef, .pointer (some ⟨w.heap.size, 0, none⟩), .pointer (some ⟨w.heap.size + 1, 0, none⟩), .bool false, .pointer (some ⟨w.heap.size + 1 + 1 + 1, 0, none⟩), undef, .pointer (some ⟨Bx, 0, none⟩), undef, .pointer (some ⟨g, 0, none⟩), .bool false, undef, .agg #[.bool lo.neg, .slice A lo.mag.length c], .slice (some ⟨w.heap.size + 1 + 1, 0, none⟩) 1 1, .pointer (some ⟨g, 0, none⟩), .slice A1 s.cuts.length c1, .func (.func 88) #[] #[.pointer (some ⟨w1.heap.size, 0, none⟩)], .int .i64 (x : Nat), .agg #[.bool (zth s.cuts x).neg, .slice (Bf x) (zth s.cuts x).mag.length (df x)], undef, undef, undef, undef, undef, undef, undef, undef, undef, undef, undef, undef, undef, undef], defers := [] })
  (fun x a' _ X Y row hs hg hr => by obtain ⟨Bx, h1, h2, h3⟩ := hs; exact ⟨Bx, h1, h2.others hg (fun r e => (hr r e).2), h3⟩) ?assign ?body ?done ?stop)
 case assign =>
  rintro l pre x V K hI hK; unfold encB
  gi_wp2
  exact hK _ _ ((KeepsOthers.alloc _ _).from _) (fun b hb => Below.heap_alloc V _ b (by have := hI.2.2.2; omega)) ((lsI_from hE2.size).alloc _ hI) ⟨V.heap.size, hI.2.2.2, Box.new _ _ _, rfl⟩
 case body =>
  rintro lp pre x a' V hl ⟨r, hr⟩ ⟨⟨v, b6V, hOV, hvb⟩, hkV, hEV, hszV⟩ ⟨Bx, hBx, bX, rfl⟩ hlt
  have bXr := bX.rules; have bXl := bX.lt
  have b3V : Box V w.heap.size 25 #[.bool lo.neg, .slice A lo.mag.length c] := (hkV w.heap.size ⟨by omega, by omega, by omega⟩).trans c3; have hNV : Nl V (fun b => W.heap.size ≤ b ∧ b < w1.heap.size) (Bf x) (df x) (zth s.cuts x).mag := (hN2 x).keep (fun b hb _ => hkV b ⟨by omega, by omega, by omega⟩)
  have hzxL : (zth s.cuts x).mag.length ≤ L := by
   by_cases hx : x < s.cuts.length
   ·exact Nat.le_trans (hsk.cut _ (zth_mem hx)).1 hN
   ·have : (zth s.cuts x).mag = [] := by unfold zth; rw [List.getD_eq_getElem?_getD, List.getElem?_eq_none (by omega)]; rfl
    rw [this]; exact Nat.zero_le _
  obtain ⟨zc, hzc⟩ : ∃ zc, zc = zth s.cuts x := ⟨_, rfl⟩; obtain ⟨Bc, hBc⟩ : ∃ Bc, Bc = Bf x := ⟨_, rfl⟩; obtain ⟨dc, hdc⟩ : ∃ dc, dc = df x := ⟨_, rfl⟩; rw [← hzc] at hzxL hNV bX bXr; rw [← hBc, ← hdc] at hNV bX bXr; rw [← hzc, ← hBc, ← hdc]
  have hpl := fun (U : World) (hU : Ext V U) => plus_c (w := U) (x := zc) (X := fun b => W.heap.size ≤ b ∧ b < w1.heap.size) ⟨Bc, dc, rfl, hNV.ext hU⟩ (by omega) (-1) (by omega) (by omega)
  obtain ⟨zb, hzb⟩ : ∃ zb, zb = cz (zc.v + -1) := ⟨_, rfl⟩; simp only [← hzb] at hpl; obtain ⟨q, hq⟩ : ∃ q, q = decide (zb.v < lo.v) := ⟨_, rfl⟩
  have hcl := fun (U : World) (hU : Ext w U) (r : Value) (Q : Nat → Prop) (h : Zi U Q r zb) => hls U hU r zb Q h
  simp only [← hq] at hcl
  have hstep : Hid (lstG lo.v ((pre ++ [x]).map (zth s.cuts)) = lstG lo.v (pre.map (zth s.cuts)) ++ if q then [zb] else []) := Lib.hid (by
   rw [List.map_append, lstG, List.map_append, List.filter_append, ← lstG, List.map_singleton, List.map_singleton, ← hzc, ← hzb, hq]
   congr 1
   by_cases h1 : zb.v < lo.v <;> simp [h1])
  have hRH := Lib.hid hr; clear hq hzb hzc hBc hdc hls hr
  gi_wp2_with fail
  refine ⟨trivial, (CallsIn.inRound lp (callsIn_wide.2 (hpl _ xt))).mono ?_⟩; rintro e w5 ⟨_, rfl, ⟨A5, c5, rfl, hr5⟩, hx5⟩; have hxV5 : Ext V w5 := xt; have f3 := b3V.ext hxV5
  have f3r := f3.rules; have f3l := f3.lt
  have hs5 := hxV5.size; clear bXr hpl
  gi_wp2_with fail
  have hr5' := hr5.widen (Y := fun b => V.heap.size ≤ b) fun b hb hl => by omega
  refine ⟨trivial, (CallsIn.inRound lp (callsIn_wide.2 (hcl _ ((hEV.trans hxV5).trans xt) _ _ ⟨A5, c5, rfl, hr5'.ext ((Ext.refl w5).alloc _)⟩))).mono ?_⟩; rintro e w6 ⟨rfl, hx6⟩; have hx56 : Ext w5 w6 := ((Ext.refl w5).alloc _).trans hx6; have hxV6 := hxV5.trans hx56; have b9 : Box w6 w5.heap.size 25 #[.bool zb.neg, .slice A5 zb.mag.length c5] := (Box.new w5 _ _).ext hx6
  have b9r := b9.rules; have b9l := b9.lt
  have hs6 := hxV6.size; have g6' := b6V.ext hxV6
  have g6r := g6'.rules; have g6l := g6'.lt
  have hO6 := hOV.ext hxV6; have hr6 := hr5'.ext hx56; clear f3r; have hsV := hEV.size
  have hkk : ∀ U : World, KpR (fun b => b < w2'.heap.size ∧ b ≠ w.heap.size + 1 + 1 + 1 ∧ b ≠ w.heap.size + 1 + 1) V U → KpR (fun b => W.heap.size ≤ b ∧ b < w2'.heap.size) V U := fun _ h b hb => h b ⟨hb.2, by omega, by omega⟩
  have hk6 : KpR (fun b => b < w2'.heap.size ∧ b ≠ w.heap.size + 1 + 1 + 1 ∧ b ≠ w.heap.size + 1 + 1) V w6 := fun b hb => hxV6.block b (by omega)
  have HKK := Lib.hid hkk; have HK6 := Lib.hid hk6; have HKV := Lib.hid hkV
  clear hkk hk6 hkV
  cases q
  ·gi_wp2_with fail
   exact ⟨(KeepsOthers.ext hxV6).from _, HKK.out _ HK6.out, ⟨⟨v, g6', by rw [hstep.out]; simpa using hO6, hvb⟩, HKV.out.trans HK6.out, hEV.trans hxV6, by omega⟩⟩
  ·have hlen : (lo :: lstG lo.v (pre.map (zth s.cuts))).length ≤ 2199023255552 := by
    have h1 := List.length_filter_le (fun c : Z => decide (c.v < lo.v)) ((pre.map (zth s.cuts)).map fun c => cz (c.v + -1)); rw [List.length_map, List.length_map] at h1; simp only [List.length_cons, lstG]
    omega
   have hlen' := Lib.hid hlen; have hrowV := hOV.row
   have hcr := fun (r : Nat) (o : Obj) => Own.cells_row (r := r) (o := o) hO6
   have HCR := Lib.hid hcr; clear hlen hcr
   gi_wp2_with (first
    | (gi_at_builtin; refine wpListIn_appz1 (.tmp 25) (.tmp 27) hO6 (hr6.widen fun q hq _ => ⟨.inr (by omega), fun e => by have := (hrowV q e).2; omega⟩) hlen'.out (by omega) rfl rfl rfl rfl ?_; intro v7 w7 hO7 hg7 hv7; obtain ⟨A7, n7, c7, rfl⟩ : ∃ A n c, v7 = Value.slice A n c := (by obtain ⟨A, c, e, _⟩ := Own.sl hO7 (by omega) (X := fun _ => True) (fun _ _ => trivial); exact ⟨_, _, _, e⟩); have g7 := (g6'.alloc (.cells #[.bool zb.neg, .slice A5 zb.mag.length c5] 25)).grown hg7 (fun e => by have := hvb _ e.symm; omega); have g7r := g7.rules; have g7l := g7.lt; clear g6r g6l)
    | fail)
   have hg7s := hg7.size; simp only [wsz] at hg7s; have hE7 : Ext w w7 := ((hEV.trans hxV6).alloc _).grown hg7 (fun j hj => (hrowV j hj).1)
   have hk7 : KpR (fun b => b < w2'.heap.size ∧ b ≠ w.heap.size + 1 + 1 + 1 ∧ b ≠ w.heap.size + 1 + 1) V w7 := fun b hb =>
    (hg7.block b (by simp only [wsz]; omega) (fun e => by have := hvb b e.symm; omega)).trans ((Below.heap_alloc w6 _ b (by omega)).trans (HK6.out b hb))
   have hk8 : KpR (fun b => b < w2'.heap.size ∧ b ≠ w.heap.size + 1 + 1 + 1 ∧ b ≠ w.heap.size + 1 + 1) V (w7.setCell ⟨w.heap.size + 1 + 1 + 1, 0, none⟩ (.slice A7 n7 c7)) := fun b hb => (Below.heap_setCell w7 _ _ b (fun e => hb.2.1 e)).trans (hk7 b hb)
   have hv7' : ∀ b, (Value.slice A7 n7 c7).ownBlock = some b → b = w.heap.size + 1 + 1 ∨ w2'.heap.size ≤ b := fun b e => by
    rcases hv7 with hv7 | hv7
    ·exact hvb b (hv7 ▸ e)
    ·rw [hv7] at e; injection e with e; omega
   refine ⟨(((KeepsOthers.ext hxV6).trans (KeepsOthers.alloc _ _)).trans ((KeepsOthers.of_grownBy hg7 (fun j o hj ho => HCR.out _ _ hj ((Below.heap_alloc w6 _ j (by have := (hrowV j hj).2; omega)).symm.trans ho))).trans (KeepsOthers.setCell _ _ _))).from _, HKK.out _ hk8, ⟨⟨.slice A7 n7 c7, g7.set_ 0 _, ?_, hv7'⟩, HKV.out.trans hk8, hE7.setCell (by simp only; omega) _, by simp only [wsz]; omega⟩⟩; rw [hstep.out]
   exact hO7.keep ((Kp.refl w7).setCell (fun h => by
    rcases h with h | h
    ·simp only at h; omega
    ·have h2 := hv7' _ h; simp only at h2; omega) _)
 case done =>
  rintro D xs V hD rfl ⟨⟨v, b6V, hOV, hvb⟩, hkV, hEV, hszV⟩ hK; rw [bks_all, show lo :: lstG lo.v s.cuts.reverse = lstS s lo from rfl] at hOV; obtain ⟨A4, c4', rfl, hZ4⟩ := Own.sl hOV (by omega) (X := fun _ => True) (fun _ _ => trivial); have hF := HFd.out V hEV _ _ _ hZ4; rw [hov.out, ← HZN.out, ← HBN.out] at hF
  have b6r := b6V.rules; have b6l := b6V.lt
  have b4V : Box V (w.heap.size + 1) 25 #[.bool false, .slice none 0 0] := (hkV (w.heap.size + 1) ⟨by omega, by omega, by omega⟩).trans c4; have HK := Lib.hid hK; have hlt2 := lt_of_some hK; clear hK
  go_wp2_with fail
  refine hF.mono ?_; rintro e w5 ⟨_, rfl, ⟨A5, c5, rfl, h5⟩, hx5⟩; have hxV5 : Ext V w5 := xt; have f4 := b4V.ext hxV5
  have f4r := f4.rules; have f4l := f4.lt
  have hK5 := Lib.hid ((hxV5.block D hlt2).trans HK.out); have hs5 := hxV5.size; clear b6r b6l
  go_wp2_with fail
  have hsD := hE2.size; have hK8 := ((Below.heap_setCell (w5.setCell ⟨w.heap.size + 1, 0, none⟩ (.bool zn.neg)) ⟨w.heap.size + 1, 1, none⟩ (.slice A5 zn.mag.length c5) D (by simp only; omega)).trans ((Below.heap_setCell w5 ⟨w.heap.size + 1, 0, none⟩ (.bool zn.neg) D (by simp only; omega)).trans hK5.out)); refine ⟨by simp, .inl ⟨_, _, rfl, run_takeDeferred hK8, ?_⟩⟩; have f8 := ((f4.set_ 0 (.bool zn.neg)).set_ 1 (.slice A5 zn.mag.length c5)).grown (grownBy_putObj' _ D (.deferred none)) (fun e => by injection e with e; omega); have hE8 := (((hEV.trans hxV5).setCell (p := ⟨w.heap.size + 1, 0, none⟩) (by simp only; omega) (.bool zn.neg)).setCell (p := ⟨w.heap.size + 1, 1, none⟩) (by simp only; omega) (.slice A5 zn.mag.length c5)).grown (grownBy_putObj' _ D (.deferred none)) (fun k e => by injection e with e; omega)
  have h8 := (h5.widen (Y := fun b => w.heap.size + 1 < b ∧ b ≠ D) fun b hb _ => (by have h1 : V.heap.size ≤ b := hb; exact ⟨by omega, by omega⟩)).keep ((((Kp.refl w5).setCell (p := ⟨w.heap.size + 1, 0, none⟩) (fun h => by have := h.1; simp only at this; omega) (.bool zn.neg)).setCell (p := ⟨w.heap.size + 1, 1, none⟩) (fun h => by have := h.1; simp only at this; omega) (.slice A5 zn.mag.length c5)).grown (grownBy_putObj' _ D (.deferred none)) (fun k e h => by injection e with e; omega)); obtain ⟨T, hT⟩ : ∃ T, T = (((w5.setCell ⟨w.heap.size + 1, 0, none⟩ (.bool zn.neg)).setCell ⟨w.heap.size + 1, 1, none⟩ (.slice A5 zn.mag.length c5)).putObj D (.deferred none)) := ⟨_, rfl⟩; rw [← hT] at f8 hE8 h8; rw [← hT]; clear hT
  have f8r := f8.rules; have f8l := f8.lt
  refine ⟨.tuple #[.agg #[.bool zn.neg, .slice A5 zn.mag.length c5], .bool bn], ?_, ?_⟩
  ·simp only [results, Tryz.results15]
   go_simp
   first | done | with_reducible rfl
  ·exact ⟨_, rfl, ⟨A5, c5, rfl, h8.widen fun b hb _ => by omega⟩, hE8⟩
 case stop =>
  rintro D c pre V _ _ h _; exact h.elim

end Go.Proofs.YtpkfjbljhneenaaGreat
