/- slices.Sort of texts and of numbers, over a row of the call's own. No conditions. Contracts of calls, handed less; riddleref04.free of nothing bound, Free. No conditions. riddlelaw10: own. No conditions. riddlelaw10: ints, same, of a thing and itself. No conditions. riddleref04.Free. No conditions. -/
import Derived.Test.YtbgifiijjjoebaaGreatDoorGNamesAo
import Derived.Test.YtbgifiijjjoebaaGreatDoorGNamesBd
import Derived.Test.YtbgifiijjjoebaaGreatDoorGNamesBe
import Derived.Sort.OwnSorted
import Derived.Sort.OwnSortedInts
import Derived.Test.YtbgifiijjjoebaaGreatDoorGNamesBh
namespace Go.Proofs.YtbgifiijjjoebaaGreatDoor
open Go.RowKit Go.Shelf

def bl (s : ByteArray) : List UInt8 := s.data.toList
theorem mk_bl (s : ByteArray) : (⟨(bl s).toArray⟩ : ByteArray) = s := ba_ext rfl
def bsort (l : List ByteArray) : List ByteArray := ((l.map bl).mergeSort fun x y => decide (x ≤ y)).map fun x => ⟨x.toArray⟩
theorem bsort_len (l : List ByteArray) : (bsort l).length = l.length := by simp [bsort]
theorem bsort_perm (l : List ByteArray) : (bsort l).Perm l := by
 have h := (List.mergeSort_perm (l.map bl) fun x y => decide (x ≤ y)).map fun x => (⟨x.toArray⟩ : ByteArray)
 unfold bsort; refine h.trans ?_; rw [List.map_map]
 have : ((fun x => (⟨x.toArray⟩ : ByteArray)) ∘ bl) = id := by funext s; exact mk_bl s
 rw [this, List.map_id]
theorem bsort_ord (l : List ByteArray) : (bsort l).Pairwise fun x y => ¬ sLt y x := by
 unfold bsort; rw [List.pairwise_map]; have h := List.pairwise_mergeSort (le := fun x y : List UInt8 => decide (x ≤ y)) (fun a b c h1 h2 => by simp only [decide_eq_true_eq] at *; exact List.le_trans h1 h2) (fun a b => by simp only [Bool.or_eq_true, decide_eq_true_eq]; exact List.le_total a b) (l.map bl)
 refine h.imp fun {x y} hxy => ?_
 simp only [decide_eq_true_eq] at hxy; exact List.not_lt.2 hxy
theorem bsort_eq {l m : List ByteArray} (h : m.Perm l) (hn : l.Nodup) (ho : m.Pairwise fun x y => ¬ sLt y x) : m = bsort l :=
 sris_eq (h.trans (bsort_perm l).symm) (sris_of ho (h.nodup_iff.2 hn)) (sris_of (bsort_ord l) ((bsort_perm l).nodup_iff.2 hn))
theorem bsort_perm_eq {l m : List ByteArray} (h : m.Perm l) (hn : l.Nodup) : bsort m = bsort l := bsort_eq ((bsort_perm m).trans h) hn (bsort_ord m)

theorem fl_s {w : World} {X : Nat → Prop} {xs : List Value} {l : List ByteArray} (h : Fl 1 ED w X xs (dSs l)) : xs = l.map Value.string ∧ ∀ s ∈ l, s.size ≤ maxLen := by
 obtain ⟨h1, h2⟩ := h
 have hl : xs.length = l.length := by simpa [dSs] using h1
 have key : ∀ i (h : i < l.length), xs[i]? = some (.string l[i]) ∧ l[i].size ≤ maxLen := fun i hi => by
  have h3 := h2 i (by simpa [dSs] using hi)
  have h4 : (dSs l)[i]'(by simpa [dSs] using hi) = [.s l[i]] := by simp [dSs]
  rw [h4, Nat.mul_one] at h3; generalize e : (xs.drop i).take 1 = q at h3
  cases h3 with
  | cons h5 h6 =>
   cases h6
   cases h5 with
   | s h7 =>
    have : ((xs.drop i).take 1)[0]? = some (.string l[i]) := by rw [e]; rfl
    rw [List.getElem?_take_of_lt (by omega), List.getElem?_drop] at this; exact ⟨by simpa using this, h7⟩
 refine ⟨List.ext_getElem? fun i => ?_, fun s hs => ?_⟩
 ·by_cases hi : i < l.length
  ·rw [(key i hi).1]; simp [hi]
  ·simp [hi, show ¬ i < xs.length by omega]
 ·obtain ⟨i, hi, rfl⟩ := List.getElem_of_mem hs; exact (key i hi).2
theorem fl_s_mk {w : World} {X : Nat → Prop} {l : List ByteArray} (h : ∀ s ∈ l, s.size ≤ maxLen) : Fl 1 ED w X (l.map Value.string) (dSs l) :=
 ⟨by simp [dSs], fun i hi => by
  have hi' : i < l.length := by simpa [dSs] using hi
  have e : ((l.map Value.string).drop (i * 1)).take 1 = [.string l[i]] := by
   rw [Nat.mul_one, List.drop_eq_getElem_cons (by simpa using hi')]; simp
  have h4 : (dSs l)[i]'hi = [.s l[i]] := by simp [dSs]
  rw [e, h4]
  exact .cons (.s (h _ (List.getElem_mem hi'))) .nil⟩
section
variable {P : Program} {α : Type}
theorem row_m {f : FuncId} {fr : Bool} {T : TypeId} {xs ys : List (List D)} {r : SV} (hl : xs.length = ys.length) (hr : r = .t [])
  (h : ∀ (w : World) (Z : Nat → Prop) (n0 : Nat) (v : Value), Own 1 ED w Z n0 T v xs → Calls P f #[v] w fun e w' => e = .returned (.tuple #[]) ∧ Own 1 ED w' Z n0 T v ys ∧ w.grownBy w' v.ownBlock) (hy : ∀ y ∈ ys, y.length = 1) :
  FnM P f [.c (.r 1001 xs.length)] [(1001, .r fr 1 T xs)] r [(1001, .r fr 1 T ys)] := by
 subst hr; intro R hR w0 c w vs hx ha; obtain ⟨l, rfl⟩ : ∃ l : List Value, vs = l.toArray := ⟨vs.toList, by simp⟩; simp only [] at ha
 cases ha with
 | @cons v _ l' _ hv hn =>
  cases hn
  have hm : mat ([(1001, Ob.r fr 1 T xs)] ++ R) 1001 = some (.r fr 1 T xs) := by simp [mat]
  obtain ⟨fr', sz', T', xs', e1, e2, e3, e4⟩ := hv; rw [hm] at e1
  injection e1 with e1
  injection e1 with q1 q2 q3 q4
  subst q1; subst q2; subst q3; subst q4
  have hv : v = c.ρ 1001 := e3 rfl; obtain ⟨h0, hO, hX, hlen⟩ := hx.mem 1001 _ hm; subst hv
  refine (h w _ _ _ hO).mono fun e w' ⟨he, hO', hg⟩ => ?_
  have hbk : ∀ b, (c.ρ 1001).ownBlock = some b → w0.w.heap.size ≤ b := fun b hb => by
   have := (hx.bk hm b hb).1; rw [hx.n0] at this; exact this
  have hup := hx.upd (ob' := .r fr 1 T ys) hm (w' := w') (ρ' := c.ρ) (fun _ _ => rfl) ⟨rfl, rfl, by omega⟩ (fun _ _ _ _ _ _ _ _ _ _ _ => rfl) (hx.ext.grown hg hbk) hg.size (fun b hb hne => hg.block b hb fun e => hne e.symm) (fun b hb => .inl hb) fun hmon => ?_
  ·have e : mset ([(1001, Ob.r fr 1 T xs)] ++ R) 1001 (.r fr 1 T ys) = [(1001, .r fr 1 T ys)] ++ R := by simp [mset]
   rw [e] at hup; exact ⟨_, _, he, hup, ⟨#[], rfl, .nil⟩⟩
  ·exact ⟨h0, hO'.widen fun b hb _ => hb, hX, hy⟩
end
end Go.Proofs.YtbgifiijjjoebaaGreatDoor

namespace Go.Proofs.YtbgifiijjjoebaaGreatDoor
open Go.RowKit

section
variable {P : Program} {f : FuncId} {al al' : List SV} {m0 m0' m1 : Mem} {r : SV}
theorem FnM.weak (h : FnM P f al m0 r m1) (hl : al.length = al'.length) (hk : ∀ k ∈ keys m0, k ∈ keys m0' ++ keys m1) (hle : ∀ R, RC (keys m0' ++ keys m1) R → Le ⟨al'.length, fun t => al.getD t .u, m0 ++ R⟩ ⟨al'.length, fun t => al'.getD t .u, m0' ++ R⟩) : FnM P f al' m0' r m1 := by
 intro R hR w0 c w vs hx ha; have hal := forall2_len ha
 have h0 : RelX w0 c ⟨al'.length, fun t => al'.getD t .u, m0' ++ R⟩ ⟨vs, []⟩ w := by
  refine ⟨hx.n0, hx.ext, rfl, hx.xl, hx.xo, by simpa using hal, fun t ht => ?_, hx.mem, hx.dis⟩
  have ht1 : t < vs.toList.length := by rw [hal]; exact ht
  have ht0 : t < vs.size := by simpa using ht1
  have h1 := forall2_get ha t ht1 ht
  show RelR c (m0' ++ R) w (vs.getD t undef) (al'.getD t .u)
  have e1 : vs.getD t undef = vs.toList[t] := by simp [Array.getD, ht0]
  have e2 : al'.getD t .u = al'[t] := by simp [List.getD, show t < al'.length from ht]
  rw [e1, e2]; exact h1
 obtain ⟨c', hy⟩ := hle R hR w0 ⟨vs, []⟩ w ⟨c, h0⟩; have hR' : RC (keys m0 ++ keys m1) R := ⟨hR.hi, fun k hk' => (List.mem_append.1 hk').elim (fun h1 => hR.off k (hk k h1)) fun h1 => hR.off k (List.mem_append.2 (.inr h1)), hR.nm, hR.it, hR.nd⟩; refine h R hR' w0 c' w vs ⟨hy.n0, hy.ext, rfl, hy.xl, hy.xo, rfl, fun t ht => absurd ht (Nat.not_lt_zero _), hy.mem, hy.dis⟩ ?_
 refine forall2_of (by rw [hal, hl]) fun t h1 h2 => ?_
 have h3 := hy.sl t (by show t < al'.length; omega); have h3 : RelR c' (m0 ++ R) w (vs.getD t undef) (al.getD t .u) := h3
 have ht0 : t < vs.size := by simpa using h1
 have e1 : vs.getD t undef = vs.toList[t] := by simp [Array.getD, ht0]
 have e2 : al.getD t .u = al[t] := by simp [List.getD, h2]
 rw [e1, e2] at h3; exact h3
theorem f2_trans {α β γ : Type} {R : α → β → Prop} {S : β → γ → Prop} {T : α → γ → Prop} : ∀ {l : List α} {m : List β} {n : List γ}, F2 R l m → F2 S m n → (∀ a b c, R a b → S b c → T a c) → F2 T l n
 | _, _, _, .nil, .nil, _ => .nil
 | _, _, _, .cons h1 h2, .cons k1 k2, h => .cons (h _ _ _ h1 k1) (f2_trans h2 k2 h)
theorem FnM.tell (h : FnM P f al m0 r m1) (ht : F2 (fun x y => x = y ∨ ∃ a b, x = SV.c a ∧ y = SV.c b ∧ tellM a b) al' al) : FnM P f al' m0 r m1 := fun R hR w0 c w vs hx ha => by
 refine h R hR w0 c w vs hx (f2_trans ha ht fun v x y h1 h2 => ?_)
 rcases h2 with rfl | ⟨a, b, rfl, rfl, h2⟩
 ·exact h1
 ·exact tellM_rel h1 h2
end

instance (x y : ByteArray) : Decidable (sLt x y) := inferInstanceAs (Decidable (x.data.toList < y.data.toList))
theorem bless (x y : ByteArray) : Op.bytesLess x.toList y.toList = decide (sLt x y) := by
 rw [bytesLess_eq, ByteArray.toList_eq, ByteArray.toList_eq]; rfl
def exch (m : List ByteArray) (k : Nat) (h : k < m.length) : List ByteArray := (m.set k (m[k - 1]'(by omega))).set (k - 1) m[k]
theorem exch_len (m : List ByteArray) (k : Nat) (h : k < m.length) : (exch m k h).length = m.length := by simp [exch]
theorem exch_perm (m : List ByteArray) (k : Nat) (h : k < m.length) : (exch m k h).Perm m := by
 have h1 := (Array.swap_perm (xs := m.toArray) (i := k) (j := k - 1) (h₁ := by simpa using h) (h₂ := by simp; omega)).toList
 simpa [exch] using h1
theorem exch_get (m : List ByteArray) (k : Nat) (h : k < m.length) (j : Nat) (hj : j < (exch m k h).length) : (exch m k h)[j] = if j = k - 1 then m[k] else if j = k then m[k - 1]'(by omega) else m[j]'(by simpa [exch] using hj) := by
 simp only [exch, List.getElem_set]
 by_cases e : k - 1 = j
 ·simp [e]
 ·by_cases e2 : k = j
  ·subst e2; simp [e]; intro e3; exact absurd e3.symm e
  ·simp [e, e2, Ne.symm e, Ne.symm e2]
def OrdUp (m : List ByteArray) (n k : Nat) : Prop := ∀ a b (ha : a < m.length) (hb : b < m.length), a < b → b < n → b ≠ k → ¬ sLt m[b] m[a]
theorem ord_step {m : List ByteArray} {n k : Nat} (h : OrdUp m n k) (hk : k < m.length) (h0 : 0 < k) (hn : k < n) (hl : sLt m[k] m[k - 1]) : OrdUp (exch m k hk) n (k - 1) := fun a b ha hb hab hbn hbk => by
 have hm := exch_len m k hk; rw [exch_get, exch_get, if_neg hbk]
 by_cases e : b = k
 ·subst e; rw [if_pos rfl]
  by_cases e2 : a = b - 1
  ·rw [if_pos e2]; exact sLt_asymm hl
  ·rw [if_neg e2, if_neg (by omega)]; exact h a (b - 1) (by omega) (by omega) (by omega) (by omega) (by omega)
 ·rw [if_neg e]
  by_cases e2 : a = k - 1
  ·rw [if_pos e2]; exact h k b (by omega) (by omega) (by omega) hbn e
  ·rw [if_neg e2]
   by_cases e3 : a = k
   ·rw [if_pos e3]; exact h (k - 1) b (by omega) (by omega) (by omega) hbn e
   ·rw [if_neg e3]; exact h a b (by omega) (by omega) hab hbn e
theorem sLt_ntrans {x y z : ByteArray} (h : ¬ sLt y x) (k : ¬ sLt z y) : ¬ sLt z x := fun e => by
 rcases Classical.em (sLt y z) with h1 | h1
 ·exact h (sLt_trans h1 e)
 ·have := sLt_tri h1 k
  subst this; exact h e
theorem ord_stop {m : List ByteArray} {n k : Nat} (h : OrdUp m n k) (hk : k < m.length) (hs : ∀ h0 : 0 < k, ¬ sLt m[k] m[k - 1]) : ∀ j, OrdUp m n j := fun j a b ha hb hab hbn _ => by
 by_cases e : b = k
 ·subst e
  by_cases e2 : a = b - 1
  ·subst e2; exact hs (by omega)
  ·exact sLt_ntrans (h a (b - 1) ha (by omega) (by omega) (by omega) (by omega)) (hs (by omega))
 ·exact h a b ha hb hab hbn e
theorem ord_sort {l m : List ByteArray} (h : m.Perm l) (hn : l.Nodup) (ho : ∀ j, OrdUp m m.length j) : m = bsort l :=
 bsort_eq h hn (List.pairwise_iff_getElem.2 fun a b ha hb hab => ho (b + 1) a b ha hb hab hb (by omega))
theorem dSs_exch (m : List ByteArray) (k : Nat) (h : k < m.length) : dSs (exch m k h) = ((dSs m).set k [.s (m[k - 1]'(by omega))]).set (k - 1) [.s m[k]] := by simp [exch, dSs, List.map_set]

theorem rfree0_m (t : Tr) (ht : t.nms ≤ 1099511627776) : FnM Tryz.prog 41 [.g ((dTr t).map (toC false)), .c .nl, .c .nl] [] (.c (.r 1001 (freeR t [] []).length)) (rowS true (freeR t [] [])) := by
 have h := rfree_m t [] [] true (by simpa using ht) (by simpa using ht)
 have h2 : FnM Tryz.prog 41 [.g ((dTr t).map (toC false)), .c .nl, .c (.r 1001 0)] (rowS true []) (.c (.r 1001 (freeR t [] []).length)) (rowS true (freeR t [] [])) := by
  refine h.tell ?_; refine .cons (.inl rfl) (.cons (.inr ⟨_, _, rfl, rfl, ?_⟩) (.cons (.inl rfl) .nil)); simp [tellM, dSs]
 refine h2.weak rfl (fun k hk => by simpa [rowS, keys] using hk) fun R hR => ?_
 have := le_own (n := 3) (f := fun t' => [SV.g ((dTr t).map (toC false)), .c .nl, .c .nl].getD t' .u) (m := R) 2 1001 1 9 rfl (hR.off _ (by simp [rowS, keys])) (by decide)
 have e : (fun t' => [SV.g ((dTr t).map (toC false)), .c .nl, .c (.r 1001 0)].getD t' .u) = fset (fun t' => [SV.g ((dTr t).map (toC false)), .c .nl, .c .nl].getD t' .u) 2 (.c (.r 1001 0)) := by
  funext j
  unfold fset
  match j with
  | 0 => rfl
  | 1 => rfl
  | 2 => rfl
  | j + 3 => simp
 rw [e]; exact this
theorem nmss_len : ∀ l : List Tr, l.length ≤ nmss l
 | [] => by simp [nmss]
 | t :: r => by
  rw [nmss]; have := nmss_len r
  have : 1 ≤ t.nms := by (cases t; rw [nms_mk]; omega)
  simp only [List.length_cons]; omega
end Go.Proofs.YtbgifiijjjoebaaGreatDoor

namespace Go.Proofs.YtbgifiijjjoebaaGreatDoor
open Go.RowKit

mutual
def Tr.bulk : Tr → Nat
 | .mk _ _ ns n ks => ns.length + n.mag.length + bulks ks + 1
def bulks : List Tr → Nat
 | [] => 0
 | t :: r => t.bulk + bulks r
end
theorem bulk_mk (k : Int) (s : ByteArray) (ns : List ByteArray) (n : Z) (ks : List Tr) : (Tr.mk k s ns n ks).bulk = ns.length + n.mag.length + bulks ks + 1 := by rw [Tr.bulk]
theorem trbulk_mem {t : Tr} : ∀ {l : List Tr}, t ∈ l → t.bulk ≤ bulks l
 | a :: r, h => by
  rw [bulks]
  rcases List.mem_cons.1 h with rfl | h
  ·omega
  ·have := trbulk_mem h; omega
theorem bulks_len : ∀ l : List Tr, l.length ≤ bulks l
 | [] => by simp [bulks]
 | t :: r => by
  rw [bulks]; have := bulks_len r
  have : 1 ≤ t.bulk := by (cases t; rw [bulk_mk]; omega)
  simp only [List.length_cons]; omega
set_option maxRecDepth 100000 in
set_option maxHeartbeats 6400000 in
theorem own_v (t : Tr) : t.bulk ≤ 1099511627776 → Fn Tryz.prog 6 [.g (dTr t)] (.g ((dTr t).map (toC false))) := by
 refine Tr.ind (P := fun t => t.bulk ≤ 1099511627776 → Fn Tryz.prog 6 [.g (dTr t)] (.g ((dTr t).map (toC false)))) (fun k s ns n ks ih hb => ?_) t; rw [bulk_mk] at hb
 have hih : ∀ i (h : i < ks.length), Fn Tryz.prog 6 [.g (dTr ks[i])] (.g ((dTr ks[i]).map (toC false))) := fun i h => ih _ (List.getElem_mem h) (by have := trbulk_mem (List.getElem_mem h); omega)
 have hkl := bulks_len ks
 have hml : (dN n.mag).length = n.mag.length := by simp [dN]
 have hm1 : ∀ y ∈ dN n.mag, y.length = 1 := fun y hy => by
  simp only [dN, List.mem_map] at hy; obtain ⟨_, _, rfl⟩ := hy
  rfl
 have hm1 : (∀ y ∈ dN n.mag, y.length = 1) ↔ True := ⟨fun _ => trivial, fun _ => hm1⟩; rw [dTr_eq]; simp only [Tr.kind, Tr.name, Tr.names, Tr.n, Tr.kids, dTr_eq, List.map, toC] at *; generalize dN n.mag = mg at *; generalize n.mag = m0 at *; generalize n.neg = ng at *; clear ih
 refine Fn.intro' Tryz.func6 [.cell 2 28] 51 fun _ => ?_
 (repeat ((fail_if_success (first | (show SW _ (Code.region 3 _ _) _ _) | (show SW _ (Code.seq (Code.region 3 _ _) _) _ _))); first | refine hku ?_ | refine sw_seqk fun _ _ => ?_ | refine sw_reg ?_ | (refine sw_reg2 ?_; conv in reord _ => simp [reord, freeO]) | ((first | refine aops_k fun _ _ => ?_ | with_reducible refine rw_own ?_); simp [go_sem, hml, hm1]; try go_ints) | refine sw_block ?_ | refine sw_t ?_ | refine sw_f ?_ | refine sw_e ?_ | refine ai ?_ | simp only [aops, thn, inB, ↓reduceIte, Nat.reduceEqDiff]))
 refine sw_frz 10 (by rfl) ?_
 (repeat ((fail_if_success (first | (show SW _ (Code.region 5 _ _) _ _) | (show SW _ (Code.seq (Code.region 5 _ _) _) _ _))); first | refine hku ?_ | refine sw_seqk fun _ _ => ?_ | refine sw_reg ?_ | (refine sw_reg2 ?_; conv in reord _ => simp [reord, freeO]) | ((first | refine aops_k fun _ _ => ?_ | with_reducible refine rw_own ?_); simp [go_sem, hml, dSs_in1]; try go_ints) | refine sw_block ?_ | refine sw_t ?_ | refine sw_f ?_ | refine sw_e ?_ | refine ai ?_ | simp only [aops, thn, inB, ↓reduceIte, Nat.reduceEqDiff]))
 refine sw_frz 30 (by rfl) ?_; refine sw_weak (le_ownx 4 5 1001 6 28 rfl rfl rfl (by decide)) ?_; refine sw_restate [(1, .c (.p 1 0)), (2, .c (.p 2 0)), (4, .c (.p 4 0))] [(1001, .r true 6 28 []), (4, .x [.i .i64 k, .s s, .l false (dSs ns), .b ng, .l false mg, .r 1001 0]), (2, .x [.i .i64 0, .s ByteArray.empty, .nl, .b false, .nl, .nl]), (1, .x [.i .i64 k, .s s, .l false (dSs ns), .b ng, .l false mg, .l false (ks.map dTr)])] ?_ ?_
 ·simp [go_sem, lst, frM, frR, frC]
 (repeat first | refine hku ?_ | refine sw_seqk fun _ _ => ?_ | refine sw_reg ?_ | (refine sw_reg2 ?_; conv in reord _ => simp [reord, freeO]) | ((first | refine aops_k fun _ _ => ?_ | with_reducible refine rw_own ?_); simp [go_sem]; try go_ints) | refine sw_block ?_ | refine sw_t ?_ | refine sw_f ?_ | refine sw_e ?_ | refine ai ?_ | simp only [aops, thn, inB, ↓reduceIte, Nat.reduceEqDiff])
 refine sw_loopv 6 (fun i : Nat => [(5, .c (.i .i64 (i : Int)))]) (fun i => [(1001, .r false 6 28 ((ks.take i).map dTr)), (4, .x [.i .i64 k, .s s, .l false (dSs ns), .b ng, .l false mg, .r 1001 i])]) (fun i => i ≤ ks.length) (fun i => ks.length - i) 0 (Nat.zero_le _) ?_ fun i hi => ?_
 ·simp [go_sem]
 ·by_cases hlt : i < ks.length
  ·have k3 := hih i hlt
   have htk : (ks.take i).length = i := by simp; omega
   have htk2 : (ks.take (i + 1)).map dTr = (ks.take i).map dTr ++ [dTr ks[i]] := by rw [List.take_succ_eq_append_getElem hlt, List.map_append]; rfl
   (repeat first | refine hku ?_ | refine sw_seqk fun _ _ => ?_ | refine sw_reg ?_ | (refine sw_reg2 ?_; conv in reord _ => simp [reord, freeO]) | ((first | refine aops_k fun _ _ => ?_ | with_reducible refine rw_own ?_); simp [go_sem, hlt]; try go_ints) | refine sw_block ?_ | refine sw_t ?_ | refine sw_f ?_ | refine sw_e ?_ | refine ai ?_ | simp only [aops, thn, inB, ↓reduceIte, Nat.reduceEqDiff])
   (refine ⟨.v _, k3, ?_⟩; simp [go_sem]; (repeat first | refine hku ?_ | refine sw_seqk fun _ _ => ?_ | refine sw_reg ?_ | (refine sw_reg2 ?_; conv in reord _ => simp [reord, freeO]) | ((first | refine aops_k fun _ _ => ?_ | with_reducible refine rw_own ?_); simp [go_sem, Nat.min_eq_left hi]; try go_ints) | refine sw_block ?_ | refine sw_t ?_ | refine sw_f ?_ | refine sw_e ?_ | refine ai ?_ | simp only [aops, thn]))
   refine ⟨i + 1, by omega, by omega, ?_⟩; simp [go_sem, htk2, dTr_eq]; generalize ks[i] = u
   cases u
   exact ⟨rfl, rfl, rfl, rfl, rfl, rfl⟩
  ·have : i = ks.length := by omega
   subst this
   (repeat ((fail_if_success (first | (show SW _ (Code.region 9 _ _) _ _) | (show SW _ (Code.seq (Code.region 9 _ _) _) _ _))); first | refine hku ?_ | refine sw_seqk fun _ _ => ?_ | refine sw_reg ?_ | (refine sw_reg2 ?_; conv in reord _ => simp [reord, freeO]) | ((first | refine aops_k fun _ _ => ?_ | with_reducible refine rw_own ?_); simp [go_sem]; try go_ints) | refine sw_block ?_ | refine sw_t ?_ | refine sw_f ?_ | refine sw_e ?_ | refine ai ?_ | simp only [aops, thn, inB, ↓reduceIte, Nat.reduceEqDiff]))
   refine sw_frz 1001 (by rfl) ?_
   (repeat first | refine hku ?_ | refine sw_seqk fun _ _ => ?_ | refine sw_reg ?_ | (refine sw_reg2 ?_; conv in reord _ => simp [reord, freeO]) | ((first | refine aops_k fun _ _ => ?_ | with_reducible refine rw_own ?_); simp [go_sem]; try go_ints) | refine sw_block ?_ | refine sw_t ?_ | refine sw_f ?_ | refine sw_e ?_ | refine ai ?_ | simp only [aops, thn, inB, ↓reduceIte, Nat.reduceEqDiff])
   simp [go_sem]
end Go.Proofs.YtbgifiijjjoebaaGreatDoor

namespace Go.Proofs.YtbgifiijjjoebaaGreatDoor
open Go.RowKit

set_option maxHeartbeats 3200000 in
theorem ints_same (n : Z) (hm : n.mag.length ≤ 1099511627776) : Fn Tryz.prog 24 [.g (dZ n), .g (dZ n)] (.c (.b true)) := by
 unfold dZ dN; generalize n.mag = l at *; generalize n.neg = p at *
 refine Fn.intro' Tryz.func24 [.tmp 4] 38 fun _ => ?_
 (repeat first | refine hku ?_ | refine sw_seqk fun _ _ => ?_ | refine sw_reg ?_ | (refine sw_reg2 ?_; conv in reord _ => simp [reord, freeO]) | ((first | refine aops_k fun _ _ => ?_ | with_reducible refine rw_own ?_); simp [go_sem]; try go_ints) | refine sw_block ?_ | refine sw_t ?_ | refine sw_f ?_ | refine sw_e ?_ | refine ai ?_ | simp only [aops, thn, inB, ↓reduceIte, Nat.reduceEqDiff])
 refine sw_loopv 6 (fun i : Nat => [(5, .c (.i .i64 (i : Int)))]) (fun _ => []) (fun i => i ≤ l.length) (fun i => l.length - i) 0 (Nat.zero_le _) ?_ fun i hi => ?_
 ·simp [go_sem]
 ·by_cases hlt : i < l.length
  ·(repeat first | refine hku ?_ | refine sw_seqk fun _ _ => ?_ | refine sw_reg ?_ | (refine sw_reg2 ?_; conv in reord _ => simp [reord, freeO]) | ((first | refine aops_k fun _ _ => ?_ | with_reducible refine rw_own ?_); simp [go_sem, hlt]; try go_ints) | refine sw_block ?_ | refine sw_t ?_ | refine sw_f ?_ | refine sw_e ?_ | refine ai ?_ | simp only [aops, thn])
   refine ⟨i + 1, by omega, by omega, ?_⟩; simp [go_sem]
  ·(repeat first | refine hku ?_ | refine sw_seqk fun _ _ => ?_ | refine sw_reg ?_ | (refine sw_reg2 ?_; conv in reord _ => simp [reord, freeO]) | ((first | refine aops_k fun _ _ => ?_ | with_reducible refine rw_own ?_); simp [go_sem, hlt]; try go_ints) | refine sw_block ?_ | refine sw_t ?_ | refine sw_f ?_ | refine sw_e ?_ | refine ai ?_ | simp only [aops, thn, inB, ↓reduceIte, Nat.reduceEqDiff])
   simp [go_sem]
set_option maxRecDepth 100000 in
set_option maxHeartbeats 6400000 in
theorem same_v (t : Tr) : t.bulk ≤ 1099511627776 → Fn Tryz.prog 9 [.g (dTr t), .g (dTr t)] (.c (.b true)) := by
 refine Tr.ind (P := fun t => t.bulk ≤ 1099511627776 → Fn Tryz.prog 9 [.g (dTr t), .g (dTr t)] (.c (.b true))) (fun k s ns n ks ih hb => ?_) t; rw [bulk_mk] at hb
 have hih : ∀ i (h : i < ks.length), Fn Tryz.prog 9 [.g (dTr ks[i]), .g (dTr ks[i])] (.c (.b true)) := fun i h => ih _ (List.getElem_mem h) (by have := trbulk_mem (List.getElem_mem h); omega)
 have hkl := bulks_len ks; have k1 := ints_same n (by omega); rw [dTr_eq]; simp only [Tr.kind, Tr.name, Tr.names, Tr.n, Tr.kids, dTr_eq, dZ] at *; generalize dN n.mag = mg at *; generalize n.mag = m0 at *; generalize n.neg = ng at *; clear ih
 refine Fn.intro' Tryz.func9 [.tmp 4] 82 fun _ => ?_
 (repeat first | refine hku ?_ | refine sw_seqk fun _ _ => ?_ | refine sw_reg ?_ | (refine sw_reg2 ?_; conv in reord _ => simp [reord, freeO]) | ((first | refine aops_k fun _ _ => ?_ | with_reducible refine rw_own ?_); simp [go_sem]; try go_ints) | refine sw_block ?_ | refine sw_t ?_ | refine sw_f ?_ | refine sw_e ?_ | refine ai ?_ | simp only [aops, thn, inB, ↓reduceIte, Nat.reduceEqDiff])
 (refine ⟨.v _, k1, ?_⟩; simp [go_sem]; (repeat first | refine hku ?_ | refine sw_seqk fun _ _ => ?_ | refine sw_reg ?_ | (refine sw_reg2 ?_; conv in reord _ => simp [reord, freeO]) | ((first | refine aops_k fun _ _ => ?_ | with_reducible refine rw_own ?_); simp [go_sem]; try go_ints) | refine sw_block ?_ | refine sw_t ?_ | refine sw_f ?_ | refine sw_e ?_ | refine ai ?_ | simp only [aops, thn, inB, ↓reduceIte, Nat.reduceEqDiff]))
 refine sw_loopv 6 (fun i : Nat => [(5, .c (.i .i64 (i : Int)))]) (fun _ => []) (fun i => i ≤ ns.length) (fun i => ns.length - i) 0 (Nat.zero_le _) ?_ fun i hi => ?_
 ·simp [go_sem]
 ·by_cases hlt : i < ns.length
  ·(repeat first | refine hku ?_ | refine sw_seqk fun _ _ => ?_ | refine sw_reg ?_ | (refine sw_reg2 ?_; conv in reord _ => simp [reord, freeO]) | ((first | refine aops_k fun _ _ => ?_ | with_reducible refine rw_own ?_); simp [go_sem, hlt, dSs_len, dSs_get]; try go_ints) | refine sw_block ?_ | refine sw_t ?_ | refine sw_f ?_ | refine sw_e ?_ | refine ai ?_ | simp only [aops, thn])
   refine ⟨i + 1, by omega, by omega, ?_⟩; simp [go_sem]
  ·(repeat first | refine hku ?_ | refine sw_seqk fun _ _ => ?_ | refine sw_reg ?_ | (refine sw_reg2 ?_; conv in reord _ => simp [reord, freeO]) | ((first | refine aops_k fun _ _ => ?_ | with_reducible refine rw_own ?_); simp [go_sem, hlt, dSs_len]; try go_ints) | refine sw_block ?_ | refine sw_t ?_ | refine sw_f ?_ | refine sw_e ?_ | refine ai ?_ | simp only [aops, thn, inB, ↓reduceIte, Nat.reduceEqDiff])
   refine sw_loopv 7 (fun i : Nat => [(6, .c (.i .i64 (i : Int)))]) (fun _ => []) (fun i => i ≤ ks.length) (fun i => ks.length - i) 0 (Nat.zero_le _) ?_ fun i hi => ?_
   ·simp [go_sem]
   ·by_cases hlt2 : i < ks.length
    ·have k3 := hih i hlt2
     (repeat first | refine hku ?_ | refine sw_seqk fun _ _ => ?_ | refine sw_reg ?_ | (refine sw_reg2 ?_; conv in reord _ => simp [reord, freeO]) | ((first | refine aops_k fun _ _ => ?_ | with_reducible refine rw_own ?_); simp [go_sem, hlt2]; try go_ints) | refine sw_block ?_ | refine sw_t ?_ | refine sw_f ?_ | refine sw_e ?_ | refine ai ?_ | simp only [aops, thn, inB, ↓reduceIte, Nat.reduceEqDiff])
     (refine ⟨.v _, k3, ?_⟩; simp [go_sem]; (repeat first | refine hku ?_ | refine sw_seqk fun _ _ => ?_ | refine sw_reg ?_ | (refine sw_reg2 ?_; conv in reord _ => simp [reord, freeO]) | ((first | refine aops_k fun _ _ => ?_ | with_reducible refine rw_own ?_); simp [go_sem]; try go_ints) | refine sw_block ?_ | refine sw_t ?_ | refine sw_f ?_ | refine sw_e ?_ | refine ai ?_ | simp only [aops, thn]))
     refine ⟨i + 1, by omega, by omega, ?_⟩; simp [go_sem]
    ·(repeat first | refine hku ?_ | refine sw_seqk fun _ _ => ?_ | refine sw_reg ?_ | (refine sw_reg2 ?_; conv in reord _ => simp [reord, freeO]) | ((first | refine aops_k fun _ _ => ?_ | with_reducible refine rw_own ?_); simp [go_sem, hlt2]; try go_ints) | refine sw_block ?_ | refine sw_t ?_ | refine sw_f ?_ | refine sw_e ?_ | refine ai ?_ | simp only [aops, thn, inB, ↓reduceIte, Nat.reduceEqDiff])
     simp [go_sem]
end Go.Proofs.YtbgifiijjjoebaaGreatDoor

namespace Go.Proofs.YtbgifiijjjoebaaGreatDoor
open Go.RowKit

set_option maxRecDepth 100000 in
set_option maxHeartbeats 12800000 in
theorem rFree_m (t : Tr) (ht : t.nms ≤ 1099511627776) : FnM Tryz.prog 20 [.g ((dTr t).map (toC false))] [] (.c (.r 1001 (freeR t [] []).length)) (rowS true (bsort (freeR t [] []))) := by
 have k0 := rfree0_m t ht; have hnd : (freeR t [] []).Nodup := freeR_nodup t [] [] .nil; have hlen := freeR_len t [] []; generalize freeR t [] [] = l at *
 have hl : l.length ≤ 1099511627776 := by simpa using Nat.le_trans hlen (by simpa using ht)
 clear hlen ht
 cases t with
 | mk k s ns n ks =>
 rw [dTr_eq] at *; simp only [Tr.kind, Tr.name, Tr.names, Tr.n, Tr.kids, List.map, toC] at k0 ⊢; obtain ⟨L, hL⟩ : ∃ L, L = bsort l := ⟨_, rfl⟩
 have hLl : L.length = l.length := by rw [hL, bsort_len]
 rw [← hL]
 have hfin : ∀ m : List ByteArray, m.Perm l → (∀ j, OrdUp m l.length j) → m = L := fun m hm ho => by rw [hL]; exact ord_sort hm hnd (by rw [hm.length_eq]; exact ho)
 clear hL hnd
 refine FnM.intro' Tryz.func20 [.tmp 2] 48 fun R hR => ?_
 have r1 := hR.hi; have r2 := hR.it; have r0 : mat R 1001 = none := hR.off _ (by simp [keys, rowS]); unfold rowS at *
 have q1 : ∀ a b, chkM ((1, a) :: (1001, b) :: R) R := fun a b => chkM_up (r1 1 (by decide)) (chkM_up r0 hR.cm)
 have q2 : ∀ a b, chkM ((1001, a) :: (1, b) :: R) R := fun a b => chkM_up r0 (chkM_up (r1 1 (by decide)) hR.cm)
 have q3 : mdel R 1001 = R := hR.del (.inr (by simp [keys]))
 have q4 : ∀ a b, chkK R ((1, a) :: (1001, b) :: R) := fun a b => chkK_up (chkK_up (chkK_self R))
 have q5 : ∀ a b, chkK R ((1001, a) :: (1, b) :: R) := fun a b => chkK_up (chkK_up (chkK_self R))
 have q6 : ∀ m, chkB m R := fun m => hR.cb m
 (repeat first | refine hku ?_ | refine sw_seqk fun _ _ => ?_ | refine sw_reg ?_ | (refine sw_reg2 ?_; conv in reord _ => simp [reord, freeO]) | ((first | refine aops_k fun _ _ => ?_ | with_reducible refine rw_own ?_); simp [go_sem, r1]; try go_ints) | refine sw_block ?_ | refine sw_t ?_ | refine sw_f ?_ | refine sw_e ?_ | refine ai ?_ | simp only [aops, thn, inB, ↓reduceIte, Nat.reduceEqDiff])
 refine callM_i k0 ?_; simp [go_sem, r0, r2]
 (repeat first | refine hku ?_ | refine sw_seqk fun _ _ => ?_ | refine sw_reg ?_ | (refine sw_reg2 ?_; conv in reord _ => simp [reord, freeO]) | ((first | refine aops_k fun _ _ => ?_ | with_reducible refine rw_own ?_); simp [go_sem]; try go_ints) | refine sw_block ?_ | refine sw_t ?_ | refine sw_f ?_ | refine sw_e ?_ | refine ai ?_ | simp only [aops, thn, inB, ↓reduceIte, Nat.reduceEqDiff])
 refine sw_loopv 6 (fun x : Nat × List ByteArray => [(4, .c (.i .i64 (x.1 : Int))), (5, .u)]) (fun x => [(1001, .r true 1 9 (dSs x.2))]) (fun x => x.1 ≤ l.length ∧ x.2.Perm l ∧ ∀ j, OrdUp x.2 x.1 j) (fun x => l.length - x.1) (0, l) ⟨Nat.zero_le _, .refl _, fun j a b _ _ _ h => absurd h (Nat.not_lt_zero _)⟩ ?_ fun ⟨i, m⟩ ⟨hi, hp, ho⟩ => ?_
 ·simp [go_sem, q2, q5, q6]
 ·have hml : m.length = l.length := hp.length_eq; simp only at hi hp ho
  by_cases hlt : i < l.length
  ·(repeat first | refine hku ?_ | refine sw_seqk fun _ _ => ?_ | refine sw_reg ?_ | (refine sw_reg2 ?_; conv in reord _ => simp [reord, freeO]) | ((first | refine aops_k fun _ _ => ?_ | with_reducible refine rw_own ?_); simp [go_sem, hlt, hml]; try go_ints) | refine sw_block ?_ | refine sw_t ?_ | refine sw_f ?_ | refine sw_e ?_ | refine ai ?_ | simp only [])
   refine sw_loopv 6 (fun x : Nat × List ByteArray => [(5, .c (.i .i64 (x.1 : Int)))]) (fun x => [(1001, .r true 1 9 (dSs x.2))]) (fun x => x.1 ≤ i ∧ x.2.Perm l ∧ OrdUp x.2 (i + 1) x.1) (fun x => x.1) (i, m) ⟨Nat.le_refl _, hp, fun a b ha hb hab hbn hbk => ho (b + 1) a b ha hb hab (by omega) (by omega)⟩ ?_ fun ⟨k, m⟩ ⟨hk, hp, ho⟩ => ?_
   ·simp [go_sem, q2, q5, q6]
   ·have hml : m.length = l.length := hp.length_eq; simp only at hk hp ho
    by_cases h0 : 0 < k
    ·have hkm : k < m.length := by omega
     have hkl : k < l.length := by omega
     have hk1 : k - 1 < m.length := by omega
     have hk1l : k - 1 < l.length := by omega
     have e1 : (k : Int) - 1 = ((k - 1 : Nat) : Int) := by omega
     have hkk : ¬ k = k - 1 := by omega
     have hb := bless m[k] m[k - 1]
     by_cases hc : sLt m[k] m[k - 1]
     ·have h1 := ord_step ho hkm h0 (by omega) hc; have h2 := exch_perm m k hkm; have h3 := dSs_exch m k hkm; rw [decide_eq_true hc] at hb
      (repeat ((fail_if_success (first | (show SW _ (Code.region 8 _ _) _ _) | (show SW _ (Code.seq (Code.region 8 _ _) _) _ _))); first | refine hku ?_ | refine sw_seqk fun _ _ => ?_ | refine sw_reg ?_ | (refine sw_reg2 ?_; conv in reord _ => simp [reord, freeO]) | ((first | refine aops_k fun _ _ => ?_ | with_reducible refine rw_own ?_); simp [go_sem, h0, e1, hkl, hk1l, hb, hml, dSs_len, dSs_get]; try go_ints) | refine sw_block ?_ | refine sw_t ?_ | refine sw_f ?_ | refine sw_e ?_ | refine ai ?_ | simp only [aops, thn, inB, ↓reduceIte, Nat.reduceEqDiff]))
      refine sw_region3 follows (by kernel_rfl) ?_
      (repeat first | refine hku ?_ | refine sw_seqk fun _ _ => ?_ | refine sw_reg ?_ | (refine sw_reg2 ?_; conv in reord _ => simp [reord, freeO]) | ((first | refine aops_k fun _ _ => ?_ | with_reducible refine rw_own ?_); simp [go_sem, e1, hkl, hk1l, hml, hkk, dSs_len, dSs_get]; try go_ints) | refine sw_block ?_ | refine sw_t ?_ | refine sw_f ?_ | refine sw_e ?_ | refine ai ?_ | simp only [aops, thn])
      refine ⟨(k - 1, exch m k hkm), ⟨by simp only; omega, h2.trans hp, h1⟩, by simp only; omega, ?_⟩; simp [go_sem, q2, q5, q6, h3]
     ·rw [decide_eq_false hc] at hb
      have h1 := ord_stop ho hkm fun _ => hc
      (repeat first | refine hku ?_ | refine sw_seqk fun _ _ => ?_ | refine sw_reg ?_ | (refine sw_reg2 ?_; conv in reord _ => simp [reord, freeO]) | ((first | refine aops_k fun _ _ => ?_ | with_reducible refine rw_own ?_); simp [go_sem, h0, e1, hkl, hk1l, hb, hml, dSs_len, dSs_get]; try go_ints) | refine sw_block ?_ | refine sw_t ?_ | refine sw_f ?_ | refine sw_e ?_ | refine ai ?_ | simp only [aops, thn])
      refine ⟨(i + 1, m), ⟨by simp only; omega, hp, h1⟩, by simp only; omega, ?_⟩; simp [go_sem, q2, q5, q6]
    ·have e0 : k = 0 := by omega
     subst e0
     have h1 := ord_stop ho (by omega) fun h => absurd h (Nat.lt_irrefl _)
     (repeat first | refine hku ?_ | refine sw_seqk fun _ _ => ?_ | refine sw_reg ?_ | (refine sw_reg2 ?_; conv in reord _ => simp [reord, freeO]) | ((first | refine aops_k fun _ _ => ?_ | with_reducible refine rw_own ?_); simp [go_sem]; try go_ints) | refine sw_block ?_ | refine sw_t ?_ | refine sw_f ?_ | refine sw_e ?_ | refine ai ?_ | simp only [aops, thn])
     refine ⟨(i + 1, m), ⟨by simp only; omega, hp, h1⟩, by simp only; omega, ?_⟩; simp [go_sem, q2, q5, q6]
  ·have : i = l.length := by omega
   subst this; have := hfin m hp ho; subst this
   (repeat first | refine hku ?_ | refine sw_seqk fun _ _ => ?_ | refine sw_reg ?_ | (refine sw_reg2 ?_; conv in reord _ => simp [reord, freeO]) | ((first | refine aops_k fun _ _ => ?_ | with_reducible refine rw_own ?_); simp [go_sem, hml]; try go_ints) | refine sw_block ?_ | refine sw_t ?_ | refine sw_f ?_ | refine sw_e ?_ | refine ai ?_ | simp only [aops, thn, inB, ↓reduceIte, Nat.reduceEqDiff])
   simp [go_sem, q2, q6]
end Go.Proofs.YtbgifiijjjoebaaGreatDoor
