/- A row of the call's own is cut, and its rest cleared. No conditions. -/
import Derived.Test.YtpkfjbljhneenaaGreatGDoesAe
import Derived.Shelf.Abstract
namespace Go.Proofs.YtpkfjbljhneenaaGreat
open Go.RowKit Go.Shelf

theorem nth_of_slice {xs : List Value} {j : Nat} {l : List Value} (h : (xs.drop j).take l.length = l) (r : Nat) (hr : r < l.length) : xs[j + r]? = some l[r] := by
 have h1 : ((xs.drop j).take l.length)[r]? = l[r]? := by rw [h]
 rw [List.getElem?_take_of_lt hr, List.getElem?_drop, List.getElem?_eq_getElem hr] at h1; exact h1

section
variable {α : Type} {sz : Nat} {E : World → (Nat → Prop) → List Value → α → Prop}
theorem Fl.take {w : World} {X : Nat → Prop} {xs : List Value} {l : List α} (h : Fl sz E w X xs l) (k : Nat) : Fl sz E w X (xs.take (k * sz)) (l.take k) := by
 refine ⟨?_, fun i hi => ?_⟩
 ·rw [List.length_take, List.length_take, h.1]
  rcases Nat.le_total k l.length with hk | hk
  ·rw [Nat.min_eq_left hk, Nat.min_eq_left (Nat.mul_le_mul_right _ hk)]
  ·rw [Nat.min_eq_right hk, Nat.min_eq_right (Nat.mul_le_mul_right _ hk)]
 ·rw [List.length_take] at hi; have h1 := h.2 i (by omega)
  have h2 : i * sz + sz ≤ k * sz := by rw [← Nat.succ_mul]; exact Nat.mul_le_mul_right _ (by omega)
  rw [List.getElem_take, List.drop_take, List.take_take, Nat.min_eq_left (by omega)]; exact h1
end

section
variable {α : Type} {sz : Nat} {E : World → (Nat → Prop) → List Value → α → Prop}
theorem zero_len (zs : Array Value) (n : Nat) : (Builtin.zeroCells zs n).toList.length = n * zs.size := by simp [Builtin.zeroCells]
theorem run_clearn {P : Program} {t e : TypeId} {bytes : Nat} {z : Value} (T : Ety P t e sz bytes z) (w : World) (ty : TypeId) (g o n c : Nat) (cur : Array Value) (u : TypeId)
  (hg : w.heap[g]? = some (.cells cur u (0, 0))) (hn : 0 < n) (hfit : o + n * sz ≤ cur.size) (h1 : ∀ v ∈ (Builtin.zeroCells z.cells n).toList, v.oneCell' = true) :
  (Builtin.clear_ #[t] ty #[.slice (some ⟨g, o, none⟩) n c]).run P w =
   .ok (.tuple #[]) (w.setRow g (cur.toList.take o ++ ((Builtin.zeroCells z.cells n).toList ++ cur.toList.drop (o + (Builtin.zeroCells z.cells n).toList.length))).toArray) := by
 have hst := run_storeCells_at P g o u (Builtin.zeroCells z.cells n).toList 0 cur w hg (by rw [zero_len, T.zs]; omega) h1; obtain ⟨i, hi, hz, hsize, hby⟩ := info_parts T.info
 have hzv : ∀ W, (zeroValue e).run P W = .ok z W := fun W => by simp [zeroValue, typeInfo, hi, hz]
 obtain ⟨m, rfl⟩ : ∃ m, n = m + 1 := ⟨n - 1, by omega⟩; rw [Nat.add_zero, List.append_assoc] at hst; simp [Builtin.clear_, run_underlying T.under, hzv, hst]
theorem Own.clear [Stab E] {P : Program} {t e : TypeId} {bytes : Nat} {z : Value} (T : Ety P t e sz bytes z) {w : World} {Zp : Nat → Prop} {base g n c k : Nat} {l : List α} (h : Own sz E w Zp base e (.slice (some ⟨g, 0, none⟩) n c) l) (hk : k < l.length)
  (h1 : ∀ m, ∀ v ∈ (Builtin.zeroCells z.cells m).toList, v.oneCell' = true) (c' : Nat) :
  ∃ w', (∀ ty, (Builtin.clear_ #[t] ty #[.slice (some ⟨g, k * sz, none⟩) (l.length - k) c']).run P w = .ok (.tuple #[]) w') ∧ Own sz E w' Zp base e (.slice (some ⟨g, 0, none⟩) k c) (l.take k) ∧ w.grownBy w' (some g) := by
 obtain ⟨xs, h2, h3⟩ := h
 rcases h2.2 with ⟨hv, _⟩ | ⟨g', cap', cur, hv, hb, hg, hnc, hcm, hcs, htake⟩
 ·cases hv
 ·injection hv with e1 e2 e3
  injection e1 with e1
  injection e1 with e1
  subst e1; subst e3; subst e2
  have hkl : (l.take k).length = k := by rw [List.length_take]; omega
  have hks : k * sz + (l.length - k) * sz = l.length * sz := by rw [← Nat.add_mul]; congr 1; omega
  have hcm2 : l.length * sz ≤ cur.size := by rw [hcs]; exact Nat.mul_le_mul_right _ hnc
  have hzl : (Builtin.zeroCells z.cells (l.length - k)).toList.length = (l.length - k) * sz := by rw [zero_len, T.zs]
  refine ⟨_, fun ty => run_clearn T w ty g (k * sz) (l.length - k) c' cur e hg (by omega) (by omega) (h1 _), ⟨xs.take (k * sz), ⟨?_, .inr ⟨g, c, _, by rw [hkl], hb, setRow_heap w g _ _ _ _ hg, by rw [hkl]; omega, hcm, ?_, ?_⟩⟩, ?_⟩, ⟨rfl, rfl, rfl, by simp, fun i _ hne => setRow_other w g i _ (fun e => hne (by rw [e]))⟩⟩
  ·rw [hkl, List.length_take, h3.1, Nat.min_eq_left (by omega)]
  ·simp only [List.size_toArray, List.length_append, List.length_take, List.length_drop, Array.length_toList, hzl]
   omega
  ·rw [hkl, List.toList_toArray, List.take_append_of_le_length (by rw [List.length_take, Array.length_toList]; omega), List.take_take, Nat.min_self, ← htake, List.take_take, Nat.min_eq_left (by omega)]
  ·refine ((h3.take k).widen fun b hb _ => hb).keep fun b hb _ => setRow_other w g b _ fun e => hb.2 (by rw [e]; rfl)
theorem wpList_clear {P : Program} {t : TypeId} {w w' : World} {ops : Array Oper} {rest : List Oper} {o : Oper} {a : Act} {Q : Exit → Act → World → Prop} (s : Operand) {v : Value}
  (hgd : o.guard = none) (ho : o.op = .call { callee := .builtin .clear, args := #[s], argTypes := #[t] }) (hs : a.eval s = v) (hr : ∀ ty, (Builtin.clear_ #[t] ty #[v]).run P w = .ok (.tuple #[]) w')
  (H : wpList P ops Q rest (a.put o.dst (.tuple #[])) w') : wpList P ops Q (o :: rest) a w := by
 refine wpList_plain hgd fun K hK => ?_
 unfold Oper.wp execOp; simp only [ho, resolve, invoke, builtin, Sem.run_bind, Sem.run_pure, Result.andThen_ok, List.map_toArray, List.map_cons, List.map_nil, hs, hr]; exact hK _ _ H
end

theorem Own.lower {α : Type} {sz : Nat} {E : World → (Nat → Prop) → List Value → α → Prop} {w : World} {Z : Nat → Prop} {base b2 : Nat} {e : TypeId} {v : Value} {l : List α} (h : Own sz E w Z base e v l) (hb : b2 ≤ base) : Own sz E w Z b2 e v l := by
 obtain ⟨xs, ⟨h1, h2⟩, h3⟩ := h; refine ⟨xs, ⟨h1, ?_⟩, h3⟩
 rcases h2 with h2 | ⟨g, cap, cur, e1, e2, r⟩
 ·exact .inl h2
 ·exact .inr ⟨g, cap, cur, e1, Nat.le_trans hb e2, r⟩
theorem grown_then {a b c : World} {row : Option Nat} (h : a.grownBy b row) (k : Ext b c) : a.grownBy c row :=
 ⟨k.os.trans h.os, k.tape.trans h.tape, k.output.trans h.output, Nat.le_trans h.size k.size, fun i hi hn => (k.block i (Nat.lt_of_lt_of_le hi h.size)).trans (h.block i hi hn)⟩
theorem ext_then {a b c : World} {row : Option Nat} (h : Ext a b) (k : b.grownBy c row) : a.grownBy c row :=
 ⟨k.os.trans h.os, k.tape.trans h.tape, k.output.trans h.output, Nat.le_trans h.size k.size, fun i hi hn => (k.block i (Nat.lt_of_lt_of_le hi h.size) hn).trans (h.block i hi)⟩
theorem grown_both {a b c : World} {row : Option Nat} (h : a.grownBy b row) (k : b.grownBy c row) : a.grownBy c row :=
 ⟨k.os.trans h.os, k.tape.trans h.tape, k.output.trans h.output, Nat.le_trans h.size k.size, fun i hi hn => (k.block i (Nat.lt_of_lt_of_le hi h.size) hn).trans (h.block i hi hn)⟩
end Go.Proofs.YtpkfjbljhneenaaGreat
