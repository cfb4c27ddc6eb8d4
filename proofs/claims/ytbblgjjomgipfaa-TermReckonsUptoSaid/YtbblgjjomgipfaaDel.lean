/- slices.DeleteFunc at parts, and what Without hands it. No conditions. -/
import Derived.Test.YtbblgjjomgipfaaClone
import Derived.Test.YtbblgjjomgipfaaShift
import Derived.Test.YtbblgjjomgipfaaIdx
import Derived.Shelf.Abstract
namespace Go.Proofs.Ytbblgjjomgipfaa
open Go.RowKit Go.Shelf

theorem nth_of_slice {xs : List Value} {j : Nat} {l : List Value} (h : (xs.drop j).take l.length = l) (r : Nat) (hr : r < l.length) : xs[j + r]? = some l[r] := by
  have h1 : ((xs.drop j).take l.length)[r]? = l[r]? := by rw [h]
  rw [List.getElem?_take_of_lt hr, List.getElem?_drop, List.getElem?_eq_getElem hr] at h1
  exact h1
/-- An element of a row of the call's own. -/
theorem own_at {w : World} {Zp : Nat → Prop} {base g n c k : Nat} {e : TypeId} {l : List (Int × Z)} (h : Own 3 EP w Zp base e (.slice (some ⟨g, 0, none⟩) n c) l) (hk : k < l.length) :
    ∃ B d, w.cell? ⟨g, k * 3, none⟩ = some (.int .i64 (pth l k).1) ∧ w.cell? ⟨g, k * 3 + 1, none⟩ = some (.bool (pth l k).2.neg) ∧ w.cell? ⟨g, k * 3 + 2, none⟩ = some (.slice B (pth l k).2.mag.length d) ∧ i64 (pth l k).1 ∧
      Nl w (fun b => Zp b ∧ b ≠ g) B d (pth l k).2.mag := by
  obtain ⟨xs, h1, h2⟩ := h
  obtain ⟨B, d, hcs, hi, hN⟩ := h2.2 k hk
  rw [← pth_eq l k hk] at hcs hi hN
  have hc : ∀ j u, xs[j]? = some u → w.cell? ⟨g, j, none⟩ = some u := fun j u hj => by
    have := h1.cells (g := g) rfl j u hj
    simpa [Addr.add_lit] using this
  have e0 := hc _ _ (nth_of_slice (l := [.int .i64 (pth l k).1, .bool (pth l k).2.neg, .slice B (pth l k).2.mag.length d]) hcs 0 (by simp))
  have e1 := hc _ _ (nth_of_slice (l := [.int .i64 (pth l k).1, .bool (pth l k).2.neg, .slice B (pth l k).2.mag.length d]) hcs 1 (by simp))
  have e2 := hc _ _ (nth_of_slice (l := [.int .i64 (pth l k).1, .bool (pth l k).2.neg, .slice B (pth l k).2.mag.length d]) hcs 2 (by simp))
  exact ⟨B, d, e0, e1, e2, hi, hN.widen fun b hb _ => ⟨hb.1, fun e => hb.2 (by rw [e]; rfl)⟩⟩
/-- A whole element is stored. -/
theorem own_put3 {w : World} {Zp : Nat → Prop} {base g n c k : Nat} {e : TypeId} {l : List (Int × Z)} {p : Int × Z} {B : Option Addr} {d : Nat} (h : Own 3 EP w Zp base e (.slice (some ⟨g, 0, none⟩) n c) l) (hk : k < l.length) (hi : i64 p.1)
    (hN : Nl w (fun b => Zp b ∧ b ≠ g) B d p.2.mag) :
    Own 3 EP (((w.setCell ⟨g, k * 3, none⟩ (.int .i64 p.1)).setCell ⟨g, k * 3 + 1, none⟩ (.bool p.2.neg)).setCell ⟨g, k * 3 + 2, none⟩ (.slice B p.2.mag.length d)) Zp base e (.slice (some ⟨g, 0, none⟩) n c) (l.set k p) := by
  have p0 := Own.put h (k := k) (r := 0) (u := .int .i64 p.1) (a' := (p.1, l[k].2)) hk (by omega) (by
    rintro cs ⟨A', c', rfl, hi', hN'⟩ _
    exact ⟨A', c', rfl, hi, hN'⟩)
  have h1 : k < (l.set k (p.1, l[k].2)).length := by rw [List.length_set]; exact hk
  have e1 : (l.set k (p.1, l[k].2))[k] = (p.1, l[k].2) := List.getElem_set_self _
  have p1 := Own.put p0 (k := k) (r := 1) (u := .bool p.2.neg) (a' := (p.1, ⟨p.2.neg, l[k].2.mag⟩)) h1 (by omega) (by
    rw [e1]
    rintro cs ⟨A', c', rfl, hi', hN'⟩ _
    exact ⟨A', c', rfl, hi, hN'⟩)
  rw [List.set_set] at p1
  have h2 : k < (l.set k (p.1, (⟨p.2.neg, l[k].2.mag⟩ : Z))).length := by rw [List.length_set]; exact hk
  have p2 := Own.put p1 (k := k) (r := 2) (u := .slice B p.2.mag.length d) (a' := p) h2 (by omega) (by
    rw [List.getElem_set_self]
    rintro cs ⟨A', c', rfl, hi', hN'⟩ _
    exact ⟨B, d, rfl, hi, (hN.keep ((Kp.refl w).setCell (fun h => h.2 rfl) _)).keep ((Kp.refl _).setCell (fun h => h.2 rfl) _)⟩)
  rw [List.set_set] at p2
  exact p2

section
variable {α : Type} {sz : Nat} {E : World → (Nat → Prop) → List Value → α → Prop}
/-- The row is cut, whatever becomes of the rest. -/
theorem Own.cut [Stab E] {w : World} {Zp : Nat → Prop} {base g n c k : Nat} {e : TypeId} {l : List α} (h : Own sz E w Zp base e (.slice (some ⟨g, 0, none⟩) n c) l) (hk : k ≤ l.length) :
    Own sz E w Zp base e (.slice (some ⟨g, 0, none⟩) k c) (l.take k) := by
  obtain ⟨xs, h1, h2⟩ := h
  have hn : n = l.length := by
    rcases h1.2 with ⟨hv, _⟩ | ⟨g', cap', cur, hv, _⟩
    · cases hv
    · injection hv
  subst hn
  have hlen : (l.take k).length = k := by rw [List.length_take]; omega
  rcases h1.2 with ⟨hv, _⟩ | ⟨g', cap', cur, hv, hb, hg, hnc, hcm, hcs, htake⟩
  · cases hv
  · injection hv with e1 e2 e3
    injection e1 with e1
    injection e1 with e1
    subst e1; subst e3
    refine ⟨xs.take (k * sz), ⟨?_, .inr ⟨g, c, cur, by rw [hlen], hb, hg, by rw [hlen]; omega, hcm, hcs, ?_⟩⟩, (h2.take k).widen fun b hb _ => hb⟩
    · rw [hlen, List.length_take, h2.1, Nat.min_eq_left (Nat.mul_le_mul_right _ hk)]
    · rw [hlen, ← htake, List.take_take, Nat.min_eq_left (Nat.mul_le_mul_right _ hk)]
end

section
variable {α : Type} {sz : Nat} {E : World → (Nat → Prop) → List Value → α → Prop}
theorem zero_len (zs : Array Value) (n : Nat) : (Builtin.zeroCells zs n).toList.length = n * zs.size := by simp [Builtin.zeroCells]
theorem run_clearn {P : Program} {t e : TypeId} {bytes : Nat} {z : Value} (T : Ety P t e sz bytes z) (w : World) (ty : TypeId) (g o n c : Nat) (cur : Array Value) (u : TypeId)
    (hg : w.heap[g]? = some (.cells cur u (0, 0))) (hn : 0 < n) (hfit : o + n * sz ≤ cur.size) (h1 : ∀ v ∈ (Builtin.zeroCells z.cells n).toList, v.oneCell' = true) :
    (Builtin.clear_ #[t] ty #[.slice (some ⟨g, o, none⟩) n c]).run P w =
      .ok (.tuple #[]) (w.setRow g (cur.toList.take o ++ ((Builtin.zeroCells z.cells n).toList ++ cur.toList.drop (o + (Builtin.zeroCells z.cells n).toList.length))).toArray) := by
  have hst := run_storeCells_at P g o u (Builtin.zeroCells z.cells n).toList 0 cur w hg (by rw [zero_len, T.zs]; omega) h1
  obtain ⟨i, hi, hz, hsize, hby⟩ := info_parts T.info
  have hzv : ∀ W, (zeroValue e).run P W = .ok z W := fun W => by simp [zeroValue, typeInfo, hi, hz]
  obtain ⟨m, rfl⟩ : ∃ m, n = m + 1 := ⟨n - 1, by omega⟩
  rw [Nat.add_zero, List.append_assoc] at hst
  simp [Builtin.clear_, run_underlying T.under, hzv, hst]
/-- Behind clear(s[k:]), and cut. -/
theorem Own.clear [Stab E] {P : Program} {t e : TypeId} {bytes : Nat} {z : Value} (T : Ety P t e sz bytes z) {w : World} {Zp : Nat → Prop} {base g n c k : Nat} {l : List α} (h : Own sz E w Zp base e (.slice (some ⟨g, 0, none⟩) n c) l) (hk : k < l.length)
    (h1 : ∀ m, ∀ v ∈ (Builtin.zeroCells z.cells m).toList, v.oneCell' = true) (c' : Nat) :
    ∃ w', (∀ ty, (Builtin.clear_ #[t] ty #[.slice (some ⟨g, k * sz, none⟩) (l.length - k) c']).run P w = .ok (.tuple #[]) w') ∧ Own sz E w' Zp base e (.slice (some ⟨g, 0, none⟩) k c) (l.take k) ∧ w.grownBy w' (some g) := by
  obtain ⟨xs, h2, h3⟩ := h
  rcases h2.2 with ⟨hv, _⟩ | ⟨g', cap', cur, hv, hb, hg, hnc, hcm, hcs, htake⟩
  · cases hv
  · injection hv with e1 e2 e3
    injection e1 with e1
    injection e1 with e1
    subst e1; subst e3; subst e2
    have hkl : (l.take k).length = k := by rw [List.length_take]; omega
    have hks : k * sz + (l.length - k) * sz = l.length * sz := by rw [← Nat.add_mul]; congr 1; omega
    have hcm2 : l.length * sz ≤ cur.size := by rw [hcs]; exact Nat.mul_le_mul_right _ hnc
    have hzl : (Builtin.zeroCells z.cells (l.length - k)).toList.length = (l.length - k) * sz := by rw [zero_len, T.zs]
    refine ⟨_, fun ty => run_clearn T w ty g (k * sz) (l.length - k) c' cur e hg (by omega) (by omega) (h1 _), ⟨xs.take (k * sz), ⟨?_, .inr ⟨g, c, _, by rw [hkl], hb, setRow_heap w g _ _ _ _ hg, by rw [hkl]; omega, hcm, ?_, ?_⟩⟩, ?_⟩, ⟨rfl, rfl, rfl, by simp, fun i _ hne => setRow_other w g i _ (fun e => hne (by rw [e]))⟩⟩
    · rw [hkl, List.length_take, h3.1, Nat.min_eq_left (by omega)]
    · simp only [List.size_toArray, List.length_append, List.length_take, List.length_drop, Array.length_toList, hzl]
      omega
    · rw [hkl, List.toList_toArray, List.take_append_of_le_length (by rw [List.length_take, Array.length_toList]; omega), List.take_take, Nat.min_self, ← htake, List.take_take, Nat.min_eq_left (by omega)]
    · refine ((h3.take k).widen fun b hb _ => hb).keep fun b hb _ => setRow_other w g b _ fun e => hb.2 (by rw [e]; rfl)
/-- clear(s[k:]). -/
theorem wpList_clear {P : Program} {t : TypeId} {w w' : World} {ops : Array Oper} {rest : List Oper} {o : Oper} {a : Act} {Q : Exit → Act → World → Prop} (s : Operand) {v : Value}
    (hgd : o.guard = none) (ho : o.op = .call { callee := .builtin .clear, args := #[s], argTypes := #[t] }) (hs : a.eval s = v) (hr : ∀ ty, (Builtin.clear_ #[t] ty #[v]).run P w = .ok (.tuple #[]) w')
    (H : wpList P ops Q rest (a.put o.dst (.tuple #[])) w') : wpList P ops Q (o :: rest) a w := by
  refine wpList_plain hgd fun K hK => ?_
  unfold Oper.wp execOp
  simp only [ho, resolve, invoke, builtin, Sem.run_bind, Sem.run_pure, Result.andThen_ok, List.map_toArray, List.map_cons, List.map_nil, hs, hr]
  exact hK _ _ H
end
theorem zero_one (m : Nat) : ∀ v ∈ (Builtin.zeroCells (Value.cells (.agg #[.int .i64 0, .bool false, .slice none 0 0])) m).toList, v.oneCell' = true := by
  intro v hv
  simp only [Builtin.zeroCells, Array.toList_map, List.mem_map] at hv
  obtain ⟨i, _, rfl⟩ := hv
  have hsz : (Value.cells (.agg #[.int .i64 0, .bool false, .slice none 0 0])).size = 3 := rfl
  rw [hsz]
  have : i % 3 < 3 := Nat.mod_lt _ (by omega)
  rcases (by omega : i % 3 = 0 ∨ i % 3 = 1 ∨ i % 3 = 2) with e | e | e <;> rw [e] <;> rfl

set_option maxHeartbeats 400000 in
theorem without1_c {W : World} {g : Nat} {x p : Int} {b n : Value} (hg : W.cell? ⟨g, 0, none⟩ = some (.int .i64 x)) (hl : g < W.heap.size) :
    Calls Try.prog 81 #[.agg #[.int .i64 p, b, n], .pointer (some ⟨g, 0, none⟩)] W fun e w' => e = .returned (.bool (p == x)) ∧ Ext W w' := by
  go_enter Try.func81, Try.ntmps81
  go_wp2
  all_goals (go_ret; exact ⟨by simp_all, (by repeat (first | with_reducible assumption | with_reducible exact Ext.refl _ | with_reducible refine Ext.drewN ?_ _ | with_reducible refine Ext.drew ?_ | with_reducible refine Ext.alloc ?_ _ | (with_reducible refine Ext.setCell ?_ ?_ _; rotate_left; (first | exact Nat.le_refl _ | (dsimp only; omega) | (simp only [wsz]; omega))) | (with_reducible refine Ext.trans ?_ (by with_reducible assumption))))⟩)

set_option maxHeartbeats 800000 in
theorem indexp_c {w : World} {X : Nat → Prop} {A : Option Addr} {c : Nat} {l : List (Int × Z)} {g : Nat} {x : Int} (h : Pl w X A c l) (hg : w.cell? ⟨g, 0, none⟩ = some (.int .i64 x)) (hgl : g < w.heap.size) :
    Calls Try.prog 113 #[.slice A l.length c, .func (.func 81) #[] #[.pointer (some ⟨g, 0, none⟩)]] w fun e w' => e = .returned (.int .i64 (ixv (ix l x))) ∧ Ext w w' := by
  have hm := h.2.1; have hlc := h.1
  simp only [maxLen] at hm
  have eg : ∀ args w, (callFunc 81 args).run Try.prog w = .ok (.enter 81 args) w := enters_of Try.func81 (by kernel_rfl) rfl
  go_enter Try.func113, Try.ntmps113
  go_wp2_with fail
  go_loopw [8] (fun iv wr => ∃ k : Nat, k ≤ l.length ∧ iv = .int .i64 k ∧ Hid (∀ i (h : i < l.length), i < k → l[i].1 ≠ x) ∧ Ext w wr) (fun iv _ => l.length - (intOf iv).toNat)
  case atStart => exact ⟨0, Nat.zero_le _, rfl, Lib.hid fun _ _ h => absurd h (Nat.not_lt_zero _), (by repeat (first | with_reducible assumption | with_reducible exact Ext.refl _ | with_reducible refine Ext.drewN ?_ _ | with_reducible refine Ext.drew ?_ | with_reducible refine Ext.alloc ?_ _ | (with_reducible refine Ext.setCell ?_ ?_ _; rotate_left; (first | exact Nat.le_refl _ | (dsimp only; omega) | (simp only [wsz]; omega))) | (with_reducible refine Ext.trans ?_ (by with_reducible assumption))))⟩
  case round =>
    obtain ⟨k, hk, rfl, hno, hx⟩ := hrel
    by_cases hlt : k < l.length
    · obtain ⟨b, o, B', d', rfl, hX, hc0, hc1, hc2, hi, hN⟩ := (h.ext hx).at_ hlt
      have hb := World.block_lt_of_cell? _ _ hc0
      have kl : (k : Int) < (l.length : Int) := by omega
      have hgr := (hx.cells.1 g 0 hgl).trans hg
      have hgl' := Nat.lt_of_lt_of_le hgl hx.size
      have hcall := without1_c (p := (pth l k).1) (b := .bool (pth l k).2.neg) (n := .slice B' (pth l k).2.mag.length d') hgr hgl'
      clear hg hgr
      by_cases he : (pth l k).1 = x
      · have e1 : ((pth l k).1 == x) = true := by rw [he]; exact beq_self_eq_true _
        rw [e1] at hcall
        have He := Lib.hid he; clear he e1
        go_wp2_with (first | (go_at_fn 81; refine hcall.mono ?_; rintro e w1 ⟨rfl, hx1⟩) | fail)
        go_ret
        refine ⟨ret_int ?_, hx.trans (by repeat (first | with_reducible assumption | with_reducible exact Ext.refl _ | with_reducible refine Ext.drewN ?_ _ | with_reducible refine Ext.drew ?_ | with_reducible refine Ext.alloc ?_ _ | (with_reducible refine Ext.setCell ?_ ?_ _; rotate_left; (first | exact Nat.le_refl _ | (dsimp only; omega) | (simp only [wsz]; omega))) | (with_reducible refine Ext.trans ?_ (by with_reducible assumption))))⟩
        rw [ix_step l x k hno.out, drop_pth l k hlt]
        simp [ix, He.out, ixv]
      · have e1 : ((pth l k).1 == x) = false := by rw [beq_eq_false_iff_ne]; exact he
        rw [e1] at hcall
        have He := Lib.hid he; clear he e1
        go_wp2_with (first | (go_at_fn 81; refine hcall.mono ?_; rintro e w1 ⟨rfl, hx1⟩) | fail)
        go_roundw
        case rel =>
          refine ⟨k + 1, by omega, by go_num, Lib.hid fun i hil hik => ?_, hx.trans (by repeat (first | with_reducible assumption | with_reducible exact Ext.refl _ | with_reducible refine Ext.drewN ?_ _ | with_reducible refine Ext.drew ?_ | with_reducible refine Ext.alloc ?_ _ | (with_reducible refine Ext.setCell ?_ ?_ _; rotate_left; (first | exact Nat.le_refl _ | (dsimp only; omega) | (simp only [wsz]; omega))) | (with_reducible refine Ext.trans ?_ (by with_reducible assumption))))⟩
          by_cases e : i = k
          · subst e; rw [← pth_eq l i hil]; exact He.out
          · exact hno.out i hil (by omega)
        case measure => simp [intOf] <;> omega
    · obtain rfl : k = l.length := by omega
      go_wp2_with fail
      go_ret
      refine ⟨ret_int ?_, hx.trans (by repeat (first | with_reducible assumption | with_reducible exact Ext.refl _ | with_reducible refine Ext.drewN ?_ _ | with_reducible refine Ext.drew ?_ | with_reducible refine Ext.alloc ?_ _ | (with_reducible refine Ext.setCell ?_ ?_ _; rotate_left; (first | exact Nat.le_refl _ | (dsimp only; omega) | (simp only [wsz]; omega))) | (with_reducible refine Ext.trans ?_ (by with_reducible assumption))))⟩
      rw [ix_step l x l.length hno.out, List.drop_length]
      rfl

/-- The parts of other variables. -/
def wo (x : Int) (l : List (Int × Z)) : List (Int × Z) := l.filter fun p => p.1 != x
theorem wo_none {l : List (Int × Z)} {x : Int} (h : ix l x = none) : wo x l = l := by
  unfold wo
  rw [List.filter_eq_self]
  induction l with
  | nil => simp
  | cons p l ih =>
    unfold ix at h
    by_cases e : p.1 = x
    · rw [if_pos e] at h; cases h
    · rw [if_neg e] at h
      intro q hq
      rcases List.mem_cons.1 hq with rfl | hq
      · simpa using e
      · exact ih (by simpa using h) q hq
theorem wo_first {l : List (Int × Z)} {x : Int} {i : Nat} (h : ix l x = some i) : i < l.length ∧ wo x (l.take (i + 1)) = l.take i := by
  induction l generalizing i with
  | nil => simp [ix] at h
  | cons p l ih =>
    unfold ix at h
    by_cases e : p.1 = x
    · rw [if_pos e] at h
      injection h with h
      subst h
      exact ⟨by simp, by simp [wo, e]⟩
    · rw [if_neg e] at h
      rcases h2 : ix l x with _ | j
      · rw [h2] at h; simp at h
      · rw [h2] at h
        simp only [Option.map_some, Option.some.injEq] at h
        subst h
        obtain ⟨h3, h4⟩ := ih h2
        refine ⟨by simp; omega, ?_⟩
        rw [List.take_succ_cons, List.take_succ_cons, ← h4]
        unfold wo
        rw [List.filter_cons, if_pos (by simpa using e)]
theorem wo_hit {l : List (Int × Z)} {x : Int} {j : Nat} (h : j < l.length) (he : (pth l j).1 = x) : wo x (l.take (j + 1)) = wo x (l.take j) := by
  rw [take_pth l j h, wo, List.filter_append, wo]
  simp [he]
theorem wo_keep {l : List (Int × Z)} {x : Int} {j : Nat} (h : j < l.length) (he : (pth l j).1 ≠ x) : wo x (l.take (j + 1)) = wo x (l.take j) ++ [pth l j] := by
  rw [take_pth l j h, wo, List.filter_append, wo]
  simp [he]
theorem grown_then {a b c : World} {row : Option Nat} (h : a.grownBy b row) (k : Ext b c) : a.grownBy c row :=
  ⟨k.os.trans h.os, k.tape.trans h.tape, k.output.trans h.output, Nat.le_trans h.size k.size, fun i hi hn => (k.block i (Nat.lt_of_lt_of_le hi h.size)).trans (h.block i hi hn)⟩
theorem ext_then {a b c : World} {row : Option Nat} (h : Ext a b) (k : b.grownBy c row) : a.grownBy c row :=
  ⟨k.os.trans h.os, k.tape.trans h.tape, k.output.trans h.output, Nat.le_trans h.size k.size, fun i hi hn => (k.block i (Nat.lt_of_lt_of_le hi h.size) hn).trans (h.block i hi)⟩
theorem grown_both {a b c : World} {row : Option Nat} (h : a.grownBy b row) (k : b.grownBy c row) : a.grownBy c row :=
  ⟨k.os.trans h.os, k.tape.trans h.tape, k.output.trans h.output, Nat.le_trans h.size k.size, fun i hi hn => (k.block i (Nat.lt_of_lt_of_le hi h.size) hn).trans (h.block i hi hn)⟩
theorem grown_cell {a b : World} {g gx o : Nat} (h : a.grownBy b (some g)) (hl : gx < a.heap.size) (hne : gx ≠ g) : b.cell? ⟨gx, o, none⟩ = a.cell? ⟨gx, o, none⟩ :=
  World.cell?_of_block (a := ⟨gx, o, none⟩) (h.block gx hl fun e => hne (by injection e))
theorem set_take (r : List (Int × Z)) (i : Nat) (p : Int × Z) (h : i < r.length) : (r.set i p).take (i + 1) = r.take i ++ [p] := by
  rw [List.take_succ_eq_append_getElem (by rw [List.length_set]; exact h), List.getElem_set_self]
  congr 1
  apply List.ext_getElem?
  intro k
  by_cases hk : k < i
  · rw [List.getElem?_take_of_lt hk, List.getElem?_take_of_lt hk, List.getElem?_set_ne (by omega)]
  · rw [List.getElem?_take_eq_none (by omega), List.getElem?_take_eq_none (by omega)]
theorem set_drop (r : List (Int × Z)) (i j : Nat) (p : Int × Z) (h : i < j) : (r.set i p).drop j = r.drop j := by
  apply List.ext_getElem?
  intro k
  rw [List.getElem?_drop, List.getElem?_drop, List.getElem?_set_ne (by omega)]

set_option maxHeartbeats 1600000 in
theorem delf_c {w : World} {Zp : Nat → Prop} {base gx : Nat} {v : Value} {l : List (Int × Z)} {x : Int} (hO : Own 3 EP w Zp base 69 v l) (hg : w.cell? ⟨gx, 0, none⟩ = some (.int .i64 x)) (hgl : gx < w.heap.size) (hne : v.ownBlock ≠ some gx) (_hL : l.length ≤ 1099511627776) :
    Calls Try.prog 80 #[v, .func (.func 81) #[] #[.pointer (some ⟨gx, 0, none⟩)]] w fun e w' => ∃ v', e = .returned v' ∧ Own 3 EP w' Zp base 69 v' (wo x l) ∧ w.grownBy w' v.ownBlock := by
  obtain ⟨A, c, rfl, hs⟩ := Own.sl hO (by omega) (X := fun c => Zp c ∨ base ≤ c) (fun c hc => hc)
  have hs : Pl w (fun c => Zp c ∨ base ≤ c) A c l := hs
  have hcl := hs.1; have hcm := hs.2.1
  simp only [maxLen] at hcm
  have hidx := indexp_c (x := x) hs hg hgl
  have eg : ∀ args w, (callFunc 81 args).run Try.prog w = .ok (.enter 81 args) w := enters_of Try.func81 (by kernel_rfl) rfl
  rcases hix : ix l x with _ | i0
  · rw [hix, show ixv none = -1 from rfl] at hidx
    have hw := Lib.hid (wo_none hix)
    clear hix
    go_enter Try.func80, Try.ntmps80
    go_wp2_with fail
    refine hidx.mono ?_
    rintro e w1 ⟨rfl, hx1⟩
    go_wp2_with fail
    go_ret
    refine ⟨_, rfl, ?_, ext_then hx1 (World.grownBy.refl _ _)⟩
    rw [hw.out]
    exact hO.ext hx1
  · rw [hix, show ixv (some i0) = (i0 : Int) from rfl] at hidx
    obtain ⟨hi0, hw0⟩ := wo_first hix
    have HW := Lib.hid hw0
    clear hix hw0
    obtain ⟨g, o, B, d, rfl, _, hcc0, _, _, _, _⟩ := hs.at_ hi0
    obtain ⟨rfl, -, hbb, hbw⟩ := hO.adr
    have hgne : gx ≠ g := fun e => hne (by rw [e]; rfl)
    have hne1 : ((i0 : Int) == -1) = false := by rw [beq_eq_false_iff_ne]; omega
    have hw0' := w64n (n := i0) (by omega)
    clear hcc0
    go_enter Try.func80, Try.ntmps80
    go_wp2_with fail
    refine hidx.mono ?_
    rintro e w1 ⟨rfl, hx1⟩
    have hO1 := hO.ext hx1
    have hg1 := (hx1.cells.1 gx 0 hgl).trans hg
    have hgl1 := Nat.lt_of_lt_of_le hgl hx1.size
    clear hg
    go_wp2_with fail
    go_loopw [5, 6] (fun iv jv wr => ∃ i j : Nat, ∃ r : List (Int × Z), iv = .int .i64 i ∧ jv = .int .i64 j ∧ i < j ∧ j ≤ l.length ∧ Hid (r.length = l.length) ∧ Hid (r.take i = wo x (l.take j)) ∧ Hid (r.drop j = l.drop j) ∧
      Own 3 EP wr Zp base 69 (.slice (some ⟨g, 0, none⟩) l.length c) r ∧ w1.grownBy wr (some g)) (fun _ jv _ => l.length - (intOf jv).toNat)
    case atStart =>
      exact ⟨i0, i0 + 1, l, rfl, by go_num, by omega, by omega, Lib.hid rfl, Lib.hid HW.out.symm, Lib.hid rfl, hO1, World.grownBy.refl _ _⟩
    case round =>
      obtain ⟨i, j, r, rfl, rfl, hij, hj, hrl, hrt, hrd, hOr, hgr⟩ := hrel
      have hgx := (grown_cell (o := 0) hgr hgl1 hgne).trans hg1
      have hgxl := World.block_lt_of_cell? _ _ hgx
      have hgl' : gx < wr.heap.size := hgxl
      by_cases hlt : j < l.length
      · have hjr : j < r.length := by rw [hrl.out]; exact hlt
        have hpe : pth r j = pth l j := by
          have h1 := hrd.out
          rw [drop_pth r j hjr, drop_pth l j hlt] at h1
          injection h1
        obtain ⟨B', d', hc0, hc1, hc2, hi64, hN⟩ := own_at hOr hjr
        rw [hpe] at hc0 hc1 hc2 hi64 hN
        have HP := Lib.hid hpe
        clear hpe
        have hgw := World.block_lt_of_cell? _ _ hc0
        have hgw : g < wr.heap.size := hgw
        have jl : (j : Int) < (l.length : Int) := by omega
        have il : (i : Int) < (l.length : Int) := by omega
        have il2 : i < l.length := by omega
        have jw := w64n (n := j) (by omega)
        have iw := w64n (n := i) (by omega)
        have hcall := fun (W : World) (hW : Ext wr W) => without1_c (p := (pth l j).1) (b := .bool (pth l j).2.neg) (n := .slice B' (pth l j).2.mag.length d') ((hW.cells.1 gx 0 hgl').trans hgx) (Nat.lt_of_lt_of_le hgl' hW.size)
        clear hgx hgxl hg1
        by_cases he : (pth l j).1 = x
        · have e1 : ((pth l j).1 == x) = true := by rw [he]; exact beq_self_eq_true _
          simp only [e1] at hcall
          have He := Lib.hid he; clear he e1
          go_wp2_with (first | (go_at_fn 81; refine (hcall _ (by repeat (first | with_reducible assumption | with_reducible exact Ext.refl _ | with_reducible refine Ext.drewN ?_ _ | with_reducible refine Ext.drew ?_ | with_reducible refine Ext.alloc ?_ _ | (with_reducible refine Ext.setCell ?_ ?_ _; rotate_left; (first | exact Nat.le_refl _ | (dsimp only; omega) | (simp only [wsz]; omega))) | (with_reducible refine Ext.trans ?_ (by with_reducible assumption))))).mono ?_; rintro e w3 ⟨rfl, hx3⟩) | fail)
          go_roundw
          case rel => exact ⟨i, j + 1, r, rfl, by go_num, by omega, by omega, hrl, Lib.hid (hrt.out.trans (wo_hit hlt He.out).symm), Lib.hid (by rw [← List.drop_drop, hrd.out, List.drop_drop]), hOr.ext (by repeat (first | with_reducible assumption | with_reducible exact Ext.refl _ | with_reducible refine Ext.drewN ?_ _ | with_reducible refine Ext.drew ?_ | with_reducible refine Ext.alloc ?_ _ | (with_reducible refine Ext.setCell ?_ ?_ _; rotate_left; (first | exact Nat.le_refl _ | (dsimp only; omega) | (simp only [wsz]; omega))) | (with_reducible refine Ext.trans ?_ (by with_reducible assumption)))), grown_then hgr (by repeat (first | with_reducible assumption | with_reducible exact Ext.refl _ | with_reducible refine Ext.drewN ?_ _ | with_reducible refine Ext.drew ?_ | with_reducible refine Ext.alloc ?_ _ | (with_reducible refine Ext.setCell ?_ ?_ _; rotate_left; (first | exact Nat.le_refl _ | (dsimp only; omega) | (simp only [wsz]; omega))) | (with_reducible refine Ext.trans ?_ (by with_reducible assumption))))⟩
          case measure => simp [intOf] <;> omega
        · have e1 : ((pth l j).1 == x) = false := by rw [beq_eq_false_iff_ne]; exact he
          simp only [e1] at hcall
          have He := Lib.hid he; clear he e1
          have hir : i < r.length := by rw [hrl.out]; exact il2
          go_wp2_with (first
            | (go_at_fn 81
               refine (hcall _ (by repeat (first | with_reducible assumption | with_reducible exact Ext.refl _ | with_reducible refine Ext.drewN ?_ _ | with_reducible refine Ext.drew ?_ | with_reducible refine Ext.alloc ?_ _ | (with_reducible refine Ext.setCell ?_ ?_ _; rotate_left; (first | exact Nat.le_refl _ | (dsimp only; omega) | (simp only [wsz]; omega))) | (with_reducible refine Ext.trans ?_ (by with_reducible assumption))))).mono ?_
               rintro e w3 ⟨rfl, hx3⟩
               have bp := Box.ext (g := wr.heap.size) (Box.new_at _ _ _ rfl) hx3
               have bpr := bp.rules
               have bpl := bp.lt
               have hxx : Ext wr w3 := (by repeat (first | with_reducible assumption | with_reducible exact Ext.refl _ | with_reducible refine Ext.drewN ?_ _ | with_reducible refine Ext.drew ?_ | with_reducible refine Ext.alloc ?_ _ | (with_reducible refine Ext.setCell ?_ ?_ _; rotate_left; (first | exact Nat.le_refl _ | (dsimp only; omega) | (simp only [wsz]; omega))) | (with_reducible refine Ext.trans ?_ (by with_reducible assumption))))
               have hO3 := hOr.ext hxx
               obtain ⟨B3, d3, q0, q1, q2, _, _⟩ := own_at hO3 hir
               have hfz := fun o => Own.frz hO3 o)
            | fail)
          have p3 := own_put3 hO3 hir hi64 (hN.ext hxx)
          go_roundw
          case rel =>
            refine ⟨i + 1, j + 1, r.set i (pth l j), by go_num, by go_num, by omega, by omega, Lib.hid (by rw [List.length_set]; exact hrl.out), Lib.hid ?_, Lib.hid ?_, p3, ?_⟩
            · rw [set_take r i _ hir, hrt.out, wo_keep hlt He.out]
            · rw [set_drop r i (j + 1) _ (by omega), ← List.drop_drop, hrd.out, List.drop_drop]
            · exact grownBy_store (grownBy_store (grownBy_store (grown_then hgr hxx) _ _) _ _) _ _
          case measure => simp [intOf] <;> omega
      · obtain rfl : j = l.length := by omega
        have hir : i < r.length := by rw [hrl.out]; exact hij
        obtain ⟨w4, hrun, hO4, hg4⟩ := Own.clear ety_p hOr hir zero_one (c - i)
        rw [hrl.out] at hrun
        have il : (i : Int) < (l.length : Int) := by omega
        have ic : (i : Int) ≤ (c : Int) := by omega
        have iw := w64n (n := i) (by omega)
        have hrow := hrt.out
        rw [List.take_length] at hrow
        rw [hrow] at hO4
        clear hrow
        go_wp2_with (first
          | (at_builtin
             refine wpList_clear (.tmp 38) rfl rfl rfl hrun ?_)
          | fail)
        go_ret
        exact ⟨_, rfl, hO4, ext_then hx1 (grown_both hgr hg4)⟩

end Go.Proofs.Ytbblgjjomgipfaa
