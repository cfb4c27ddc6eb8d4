/- Arguments opened: numbers, terms, values of variables; and the step behind the call. No conditions. -/
import Derived.Test.YtbgifiijjjoebaaGreatDoorGNamesAn
import Derived.Deep.Slices
import Derived.Below
import Derived.Carry
import Derived.ChangeSame
import Derived.WideShapes
import Derived.ProofKit
import Derived.OpenShut
namespace Go.Proofs.YtbgifiijjjoebaaGreatDoor
open Go.RowKit Go.Deep Go.ChangeShapes Go.WideShapes

section
variable {H : Type} {enc : TypeId × Value → H} {w : World}
theorem list_of {α : Type} : ∀ (n : Nat) (p : Nat → α → Prop), (∀ i, i < n → ∃ a, p i a) → ∃ l : List α, l.length = n ∧ ∀ i (h : i < l.length), p i l[i]
 | 0, _, _ => ⟨[], rfl, fun i h => absurd h (by simp)⟩
 | n + 1, p, h => by
  obtain ⟨l, h1, h2⟩ := list_of n p fun i hi => h i (by omega)
  obtain ⟨a, ha⟩ := h n (by omega); refine ⟨l ++ [a], by simp [h1], fun i hi => ?_⟩
  by_cases e : i < l.length
  ·rw [List.getElem_append_left e]; exact h2 i e
  ·have : i = n := by simp at hi; omega
   subst this; rw [List.getElem_append_right (by omega)]
   simpa [h1] using ha
theorem bulk_mem {d : DataW H} {l : List (DataW H)} (h : d ∈ l) : Rows.uptoBulk d ≤ Rows.uptoBulkAll l := by
 induction l with
 | nil => cases h
 | cons x r ih =>
  simp only [Rows.uptoBulkAll]
  rcases List.mem_cons.1 h with rfl | e
  ·omega
  ·have := ih e; omega
theorem bulk_pos (d : DataW H) : 1 ≤ Rows.uptoBulk d := by
 cases d with
 | lit l => cases l <;> simp [Rows.uptoBulk]
 | nil => simp [Rows.uptoBulk]
 | ptr d => simp [Rows.uptoBulk]
 | slice elems spare => simp [Rows.uptoBulk]
 | agg parts => simp [Rows.uptoBulk]
 | iface t d => simp [Rows.uptoBulk]
 | map entries => simp [Rows.uptoBulk]
 | held h => simp [Rows.uptoBulk]
theorem bulk_len (l : List (DataW H)) : l.length ≤ Rows.uptoBulkAll l := by
 induction l with
 | nil => simp [Rows.uptoBulkAll]
 | cons x r ih => have := bulk_pos x; simp only [Rows.uptoBulkAll, List.length_cons]; omega

theorem len2 {α : Type} {l : List α} (h : l.length = 2) : ∃ a b, l = [a, b] := by
 match l, h with
 | [a, b], _ => exact ⟨a, b, rfl⟩
theorem open_sl {α : Type} {E : World → (Nat → Prop) → List Value → α → Prop} {R : DataW H → α → Prop} {t e : TypeId} {sz fuel : Nat} {cs : List Value} {x : DataW H × List MemPlace}
  (ht : Tryz.prog.underlying t = some (.slice e)) (hC : Tryz.prog.cellsOf e = sz) (hsz : 0 < sz)
  (hel : ∀ n cs' (y : DataW H × List MemPlace), DataW.trod enc Tryz.prog w 0 (fun _ => true) true n e cs' = some y → w.noneFrozen y.2 → ∃ a, E w (· < w.heap.size) cs' a ∧ R y.1 a)
  (h : DataW.trod enc Tryz.prog w 0 (fun _ => true) true fuel t cs = some x) (hz : w.noneFrozen x.2) :
  ∃ A c, ∃ l : List α, cs = [.slice A l.length c] ∧ Sl sz E w (· < w.heap.size) A c l ∧ l.length + 1 ≤ Rows.uptoBulk x.1 ∧ ∀ a ∈ l, ∃ d, R d a ∧ Rows.uptoBulk d ≤ Rows.uptoBulk x.1 := by
 rcases open_slice ht h with ⟨rfl, rfl⟩ | ⟨a, len, cap, m, n, D, Pl, rfl, _, hl, hm, hmm, rfl, hi⟩
 ·exact ⟨none, 0, [], rfl, Sl.nil0 _ _ _, by simp [Rows.uptoBulk], by simp⟩
 ·rw [hC] at hi
  have hlm : len ≤ m := by rw [hmm]; split <;> omega
  have key : ∀ i, i < len → ∃ b : α, (∃ cs', cs'.length = sz ∧ (∀ j, j < sz → w.cell? ((a.add (i * sz)).add j) = cs'[j]?) ∧ E w (· < w.heap.size) cs' b) ∧ R (D i) b := by
   intro i hil; obtain ⟨cs', hc, ht'⟩ := hi i (by omega); obtain ⟨_, hcl, hat⟩ := World.cells?_some hc; obtain ⟨b, hb, hr⟩ := hel _ _ _ ht' (fun b off hm => hz b off (List.mem_append_right _ (List.mem_flatMap.2 ⟨i, List.mem_range.2 (by omega), hm⟩))); exact ⟨b, ⟨cs', hcl, hat, hb⟩, hr⟩
  obtain ⟨l, hlen, hall⟩ := list_of len _ key
  have hbulk : len + 1 ≤ Rows.uptoBulk (DataW.slice (H := H) ((List.range len).map D) ((List.range (m - len)).map fun j => D (len + j))) := by
   simp only [Rows.uptoBulk]; have := bulk_len ((List.range len).map D); simp only [List.length_map, List.length_range] at this
   omega
  refine ⟨some a, cap, l, by rw [hlen], ⟨by omega, hm, fun h0 => ?_, fun b o hA j hj => ?_⟩, by rw [hlen]; exact hbulk, fun b hb => ?_⟩
  case refine_2 =>
   have e1 : a = ⟨b, o, none⟩ := Option.some.inj hA; clear hall hi; subst e1; rw [hlen] at hj; exact hz b (o + j) (List.mem_append_left _ (MemPlace.mem_row.2 ⟨j, by rw [hC]; exact Nat.lt_of_lt_of_le hj (Nat.mul_le_mul_right _ hlm), rfl⟩))
  ·have hspot : a.spot = none := by
    obtain ⟨cs', h1, h2, _⟩ := (hall 0 h0).1; have h3 := h2 0 hsz; rw [Nat.zero_mul] at h3; have h4 : (a.add 0).add 0 = a := rfl; rw [h4, List.getElem?_eq_getElem (by omega)] at h3; unfold World.cell? at h3
    split at h3
    ·split at h3
     ·cases h3
     ·rename_i hs
      simpa using hs
    ·cases h3
   obtain ⟨b, o, s⟩ := a; simp only at hspot; subst hspot; obtain ⟨cs0, h1, h2, _⟩ := (hall 0 h0).1
   have hb : b < w.heap.size := by
    have h3 := h2 0 hsz; rw [List.getElem?_eq_getElem (by omega), Addr.add_lit, Addr.add_lit] at h3; exact World.block_lt_of_cell? _ _ h3
   refine ⟨b, o, rfl, hb, fun i hil => ?_⟩; obtain ⟨cs', h1, h2, h3⟩ := (hall i hil).1; refine ⟨cs', h1, fun j hj => ?_, h3⟩; have := h2 j (by omega); rw [Addr.add_lit, Addr.add_lit, List.getElem?_eq_getElem hj] at this; exact this
  ·obtain ⟨i, hil, rfl⟩ := List.getElem_of_mem hb; refine ⟨D i, (hall i hil).2, ?_⟩; simp only [Rows.uptoBulk]; have : D i ∈ (List.range len).map D := List.mem_map.2 ⟨i, List.mem_range.2 (by omega), rfl⟩; have := bulk_mem this
   omega

theorem open_limbs {fuel : Nat} {cs : List Value} {x : DataW H × List MemPlace} (h : DataW.trod enc Tryz.prog w 0 (fun _ => true) true fuel 23 cs = some x) (hz : w.noneFrozen x.2) :
  ∃ A c, ∃ l : List Nat, cs = [.slice A l.length c] ∧ Nl w (· < w.heap.size) A c l ∧ l.length + 1 ≤ Rows.uptoBulk x.1 := by
 obtain ⟨A, c, l, h1, h2, h3, _⟩ := open_sl (E := EU) (R := fun _ _ => True) (sz := 1) Tryz.underlying23 (by kernel_rfl) (by omega) (fun n cs' y hy _ => by
  obtain ⟨v, rfl, _, hw⟩ := DataW.trod_int Tryz.underlying43 hy; simp [Lit.wf, IntKind.min, IntKind.max, IntKind.signed, IntKind.bits] at hw
  exact ⟨v.toNat, ⟨by rw [Int.toNat_of_nonneg hw.1], by omega⟩, trivial⟩) h hz
 exact ⟨A, c, l, h1, h2, h3⟩
theorem trod2 {t : TypeId} {f0 f1 : Field} {fuel : Nat} {cs : List Value} {x : DataW H × List MemPlace} (ht : Tryz.prog.underlying t = some (.struct #[f0, f1])) (h : DataW.trod enc Tryz.prog w 0 (fun _ => true) true fuel t cs = some x) :
  ∃ (y0 y1 : DataW H × List MemPlace) (n : Nat), x.1 = .agg [y0.1, y1.1] ∧ (w.noneFrozen x.2 → w.noneFrozen y0.2 ∧ w.noneFrozen y1.2) ∧ cs.length = Tryz.prog.cellsOf t ∧ DataW.trod enc Tryz.prog w 0 (fun _ => true) true n f0.type ((cs.drop f0.offset).take (Tryz.prog.cellsOf f0.type)) = some y0 ∧
   DataW.trod enc Tryz.prog w 0 (fun _ => true) true n f1.type ((cs.drop f1.offset).take (Tryz.prog.cellsOf f1.type)) = some y1 := by
 obtain ⟨xs, n, _, hx, hlen, hxl, hf⟩ := DataW.trod_struct ht h; obtain ⟨y0, y1, rfl⟩ := len2 (hxl.trans rfl); exact ⟨y0, y1, n, by rw [hx]; rfl, fun hz => ⟨fun b o hm => hz b o (by rw [hx]; simp [hm]), fun b o hm => hz b o (by rw [hx]; simp [hm])⟩, hlen, hf 0 f0 rfl, hf 1 f1 rfl⟩
theorem c_int : Tryz.prog.cellsOf 3 = 1 := by kernel_rfl
theorem c_bool : Tryz.prog.cellsOf 4 = 1 := by kernel_rfl
theorem c_u : Tryz.prog.cellsOf 23 = 1 := by kernel_rfl
theorem c_z : Tryz.prog.cellsOf 25 = 2 := by kernel_rfl
theorem open_zc0 {t : TypeId} {f0 f1 : Field} {fuel : Nat} {cs : List Value} {x : DataW H × List MemPlace} (ht : Tryz.prog.underlying t = some (.struct #[f0, f1])) (hC : Tryz.prog.cellsOf t = 2) (o0 : f0.offset = 0) (o1 : f1.offset = 1)
  (t0 : f0.type = 4) (t1 : f1.type = 23) (h : DataW.trod enc Tryz.prog w 0 (fun _ => true) true fuel t cs = some x) (hz : w.noneFrozen x.2) :
  ∃ A c, ∃ z : Z, cs = [.bool z.neg, .slice A z.mag.length c] ∧ Nl w (· < w.heap.size) A c z.mag ∧ z.mag.length + 1 ≤ Rows.uptoBulk x.1 := by
 obtain ⟨y0, y1, n, hx, hzz, hlen, h0, h1⟩ := trod2 ht h
 have hz0 := (hzz hz).1; have hz1 := (hzz hz).2
 rw [hC] at hlen; obtain ⟨c0, c1, rfl⟩ := len2 hlen; rw [o0, t0, c_bool] at h0; rw [o1, t1, c_u] at h1; simp only [List.drop_zero, List.drop_succ_cons, List.take_succ_cons, List.take_zero] at h0 h1; obtain ⟨b, hb, _⟩ := DataW.trod_bool Tryz.underlying4 h0; obtain ⟨A, c, l, hs, hN, hbk⟩ := open_limbs h1 hz1
 injection hb with hb
 injection hs with hs
 subst hb; subst hs
 refine ⟨A, c, ⟨b, l⟩, rfl, hN, ?_⟩; rw [hx]; simp only [Rows.uptoBulk, Rows.uptoBulkAll]
 omega
theorem open_zc {fuel : Nat} {cs : List Value} {x : DataW H × List MemPlace} (h : DataW.trod enc Tryz.prog w 0 (fun _ => true) true fuel 25 cs = some x) (hz : w.noneFrozen x.2) :
  ∃ A c, ∃ z : Z, cs = [.bool z.neg, .slice A z.mag.length c] ∧ Nl w (· < w.heap.size) A c z.mag ∧ z.mag.length + 1 ≤ Rows.uptoBulk x.1 := open_zc0 Tryz.underlying25 c_z rfl rfl rfl rfl h hz
variable {base : Nat} {v : Value} {d : DataW H} {p : List MemPlace}
end

theorem laidOut : laidOutB Tryz.prog = true := by kernel_rfl
theorem post_ext {H : Type} {enc : TypeId × Value → H} {f : Func} {s : ChangeSpec} {apart : Bool} {W W' : World} {args : Array Value} {ds gs : List (DataW H)} {before : List MemPlace}
  (hW : DataW.Whole enc Tryz.prog f.params.toList s.vars apart W args.toList ds gs before) (hf : f.resultTypes = #[4]) (hvs : s.vars = []) (hb : Ext W W')
  (hr : (s.fn H (ds ++ gs)).results = [.lit (.bool true)]) (hg : (s.fn H (ds ++ gs)).vars = []) (ha : (s.fn H (ds ++ gs)).args = ds)
  (hargs : DataW.TrodAll enc Tryz.prog W' 0 (fun b => decide (b < W.heap.size)) true f.params.toList args.toList ds before) :
  s.post enc Tryz.prog f apart true false false W args (.bool true) W' := by
 refine ⟨ds, gs, before, [], before, [], hW, ?_, by rw [ha]; exact hargs, by rw [hvs, hg]; rfl, World.keptBut_mono (fun p hp => ⟨hp, .inr (.inl hp)⟩) (Below.frame hb (· ∈ before)), fun h => by cases h⟩; rw [hr, hf]; exact trodAll_mk1 (shut_bool Tryz.underlying4 true)

end Go.Proofs.YtbgifiijjjoebaaGreatDoor
