/- A tree among the arguments, opened. No conditions. -/
import Derived.Test.YtbgifiijjjoebaaGreatDoorGNamesBc
import Derived.Test.YtbgifiijjjoebaaGreatDoorGNamesAr
import Derived.Test.YtbgifiijjjoebaaGreatDoorGNamesBf
import Derived.Test.YtbgifiijjjoebaaGreatDoorCards
import Derived.Lib.LaidTab
import Derived.Lib.LaidIn
import Derived.Stop.LaidErr
namespace Go.Proofs.YtbgifiijjjoebaaGreatDoor
open Go.RowKit Go.Deep Go.ChangeShapes Go.WideShapes

section
variable {H : Type} {enc : TypeId × Value → H} {w : World}
theorem open_slB {α : Type} {E : World → (Nat → Prop) → List Value → α → Prop} {R : DataW H → α → Prop} {t e : TypeId} {sz fuel : Nat} {cs : List Value} {x : DataW H × List MemPlace}
  (ht : Tryz.prog.underlying t = some (.slice e)) (hC : Tryz.prog.cellsOf e = sz) (hsz : 0 < sz)
  (hel : ∀ n cs' (y : DataW H × List MemPlace), DataW.trod enc Tryz.prog w 0 (fun _ => true) true n e cs' = some y → w.noneFrozen y.2 → Rows.uptoBulk y.1 < Rows.uptoBulk x.1 → ∃ a, E w (· < w.heap.size) cs' a ∧ R y.1 a)
  (h : DataW.trod enc Tryz.prog w 0 (fun _ => true) true fuel t cs = some x) (hz : w.noneFrozen x.2) :
  ∃ A c, ∃ l : List α, ∃ ds : List (DataW H), cs = [.slice A l.length c] ∧ Sl sz E w (· < w.heap.size) A c l ∧ F2 R ds l ∧ Rows.uptoBulkAll ds + 1 ≤ Rows.uptoBulk x.1 := by
 rcases open_slice ht h with ⟨rfl, rfl⟩ | ⟨a, len, cap, m, n, D, Pl, rfl, _, hl, hm, hmm, rfl, hi⟩
 ·exact ⟨none, 0, [], [], rfl, Sl.nil0 _ _ _, .nil, by simp [Rows.uptoBulk, Rows.uptoBulkAll]⟩
 ·rw [hC] at hi
  have hlm : len ≤ m := by rw [hmm]; split <;> omega
  have key : ∀ i, i < len → ∃ b : α, (∃ cs', cs'.length = sz ∧ (∀ j, j < sz → w.cell? ((a.add (i * sz)).add j) = cs'[j]?) ∧ E w (· < w.heap.size) cs' b) ∧ R (D i) b := by
   intro i hil; obtain ⟨cs', hc, ht'⟩ := hi i (by omega); obtain ⟨_, hcl, hat⟩ := World.cells?_some hc
   have hlt : Rows.uptoBulk (D i) < Rows.uptoBulk (DataW.slice (H := H) ((List.range len).map D) ((List.range (m - len)).map fun j => D (len + j))) := by
    simp only [Rows.uptoBulk]; have : D i ∈ (List.range len).map D := List.mem_map.2 ⟨i, List.mem_range.2 (by omega), rfl⟩; have := bulk_mem this
    omega
   obtain ⟨b, hb, hr⟩ := hel _ _ _ ht' (fun b off hm => hz b off (List.mem_append_right _ (List.mem_flatMap.2 ⟨i, List.mem_range.2 (by omega), hm⟩))) hlt; exact ⟨b, ⟨cs', hcl, hat, hb⟩, hr⟩
  obtain ⟨l, hlen, hall⟩ := list_of len _ key; refine ⟨some a, cap, l, (List.range len).map D, by rw [hlen], ⟨by omega, hm, fun h0 => ?_, fun b o hA j hj => ?_⟩, forall2_of (by simp [hlen]) fun i h1 h2 => ?_, by simp only [Rows.uptoBulk]; omega⟩
  case refine_2 =>
   have e1 : a = ⟨b, o, none⟩ := Option.some.inj hA; clear hall hi; subst e1; rw [hlen] at hj; exact hz b (o + j) (List.mem_append_left _ (MemPlace.mem_row.2 ⟨j, by rw [hC]; exact Nat.lt_of_lt_of_le hj (Nat.mul_le_mul_right _ hlm), rfl⟩))
  ·have hspot : a.spot = none := by
    obtain ⟨cs', h1, h2, _⟩ := (hall 0 h0).1; have h3 := h2 0 hsz; rw [Nat.zero_mul] at h3; have h4 : (a.add 0).add 0 = a := rfl; rw [h4, List.getElem?_eq_getElem (by omega)] at h3; unfold World.cell? at h3
    split at h3
    ·split at h3
     ·cases h3
     ·rename_i hs
      simpa using hs
    ·cases h3
   obtain ⟨b, o, s⟩ := a; simp only at hspot; subst hspot; obtain ⟨cs0, h1, h2, _⟩ := (hall 0 h0).1
   have hb : b < w.heap.size := by
    have h3 := h2 0 hsz; rw [List.getElem?_eq_getElem (by omega), Addr.add_lit, Addr.add_lit] at h3; exact World.block_lt_of_cell? _ _ h3
   refine ⟨b, o, rfl, hb, fun i hil => ?_⟩; obtain ⟨cs', h1, h2, h3⟩ := (hall i hil).1; refine ⟨cs', h1, fun j hj => ?_, h3⟩; have := h2 j (by omega); rw [Addr.add_lit, Addr.add_lit, List.getElem?_eq_getElem hj] at this; exact this
  ·have := (hall i h2).2
   simpa using this
theorem open_ns {fuel : Nat} {cs : List Value} {x : DataW H × List MemPlace} (h : DataW.trod enc Tryz.prog w 0 (fun _ => true) true fuel 22 cs = some x) (hz : w.noneFrozen x.2) :
  ∃ l : List ByteArray, ED w (· < w.heap.size) cs [.l (dSs l)] ∧ l.length + 1 ≤ Rows.uptoBulk x.1 := by
 obtain ⟨A, c, l, ds, rfl, h2, h3, h4⟩ := open_slB (E := fun _ _ cs (s : ByteArray) => cs = [.string s] ∧ s.size ≤ maxLen) (R := fun _ _ => True) (sz := 1) Tryz.underlying22 (by kernel_rfl) (by omega) (fun n cs' y hy _ _ => by
  obtain ⟨s, rfl, _, hw⟩ := DataW.trod_string Tryz.underlying9 hy
  exact ⟨s, ⟨rfl, hw⟩, trivial⟩) h hz
 refine ⟨l, .cons (Rp.to_enc (sz := 1) (by omega) (fun cs s hs => ?_) h2) .nil, ?_⟩
 ·obtain ⟨rfl, hs⟩ := hs; exact .cons (.s hs) .nil
 ·have := bulk_len ds; have := forall2_len h3
  omega
theorem len5 {α : Type} {l : List α} (h : l.length = 5) : ∃ a b c d e, l = [a, b, c, d, e] := by
 match l, h with
 | [a, b, c, d, e], _ => exact ⟨a, b, c, d, e, rfl⟩
theorem len6 {α : Type} {l : List α} (h : l.length = 6) : ∃ a b c d e f, l = [a, b, c, d, e, f] := by
 match l, h with
 | [a, b, c, d, e, f], _ => exact ⟨a, b, c, d, e, f, rfl⟩
theorem c_str : Tryz.prog.cellsOf 9 = 1 := by kernel_rfl
theorem c_strs : Tryz.prog.cellsOf 22 = 1 := by kernel_rfl
theorem c_trs : Tryz.prog.cellsOf 26 = 1 := by kernel_rfl
theorem bulks_F2 : ∀ {ds : List (DataW H)} {ks : List Tr}, F2 (fun d (t : Tr) => t.bulk ≤ Rows.uptoBulk d) ds ks → bulks ks ≤ Rows.uptoBulkAll ds
 | _, _, .nil => by simp [bulks, Rows.uptoBulkAll]
 | _, _, .cons h1 h2 => by
  have := bulks_F2 h2; simp only [bulks, Rows.uptoBulkAll]
  omega
theorem open_tree0 {T : TypeId} {f0 f1 f2 f3 f4 : Field} (ht : Tryz.prog.underlying T = some (.struct #[f0, f1, f2, f3, f4])) (hC : Tryz.prog.cellsOf T = 6) (o0 : f0.offset = 0) (o1 : f1.offset = 1) (o2 : f2.offset = 2) (o3 : f3.offset = 3) (o4 : f4.offset = 5)
  (t0 : f0.type = 3) (t1 : f1.type = 9) (t2 : f2.type = 22) (t3 : f3.type = 25) (t4 : f4.type = 26) (hT : T = 28) :
  ∀ (B fuel : Nat) (cs : List Value) (x : DataW H × List MemPlace), Rows.uptoBulk x.1 ≤ B → DataW.trod enc Tryz.prog w 0 (fun _ => true) true fuel T cs = some x → w.noneFrozen x.2 →
   ∃ t : Tr, ED w (· < w.heap.size) cs (dTr t) ∧ t.bulk ≤ Rows.uptoBulk x.1 := by
 intro B
 induction B with
 | zero => intro fuel cs x hB _ _; have := bulk_pos x.1; omega
 | succ B ih =>
  intro fuel cs x hB h hz; obtain ⟨xs, n, _, hx, hlen, hxl, hf⟩ := DataW.trod_struct ht h; obtain ⟨y0, y1, y2, y3, y4, rfl⟩ := len5 (hxl.trans rfl)
  have h0 := hf 0 f0 rfl; have h1 := hf 1 f1 rfl; have h2 := hf 2 f2 rfl; have h3 := hf 3 f3 rfl; have h4 := hf 4 f4 rfl
  have z2 : w.noneFrozen y2.2 := fun b o hm => hz b o (by rw [hx]; simp [hm])
  have z3 : w.noneFrozen y3.2 := fun b o hm => hz b o (by rw [hx]; simp [hm])
  have z4 : w.noneFrozen y4.2 := fun b o hm => hz b o (by rw [hx]; simp [hm])
  rw [hC] at hlen; obtain ⟨c0, c1, c2, c3, c4, c5, rfl⟩ := len6 hlen; rw [o0, t0, c_int] at h0; rw [o1, t1, c_str] at h1; rw [o2, t2, c_strs] at h2; rw [o3, t3, c_z] at h3; rw [o4, t4, c_trs] at h4; simp only [List.drop_zero, List.drop_succ_cons, List.take_succ_cons, List.take_zero] at h0 h1 h2 h3 h4
  have hb : Rows.uptoBulk x.1 = Rows.uptoBulk y0.1 + (Rows.uptoBulk y1.1 + (Rows.uptoBulk y2.1 + (Rows.uptoBulk y3.1 + (Rows.uptoBulk y4.1 + 0)))) + 1 := by
   rw [hx]; rfl
  obtain ⟨k, e0, _, hk⟩ := DataW.trod_int Tryz.underlying3 h0; obtain ⟨s, e1, _, hs⟩ := DataW.trod_string Tryz.underlying9 h1; obtain ⟨ns, hns, hnb⟩ := open_ns h2 z2; obtain ⟨A3, b3, z, e3, hN, hzb⟩ := open_zc h3 z3
  obtain ⟨A4, b4, ks, ds, e4, hS, hF, hkb⟩ := open_slB (E := fun w X cs (t : Tr) => ED w X cs (dTr t)) (R := fun d (t : Tr) => t.bulk ≤ Rows.uptoBulk d) (sz := 6) Tryz.underlying26 (by rw [← hC, hT]) (by omega)
   (fun n cs' y hy hz' hlt => by
    rw [← hT] at hy
    exact ih n cs' y (by omega) hy hz') h4 z4
  injection e0 with e0
  injection e1 with e1
  injection e3 with e3 e3'
  injection e3' with e3'
  injection e4 with e4
  subst e0; subst e1; subst e3; subst e3'; subst e4
  have hkb2 := bulks_F2 hF; simp only [Lit.wf, Bool.and_eq_true, decide_eq_true_eq] at hk; refine ⟨.mk k s ns z ks, ?_, ?_⟩
  ·rw [dTr_eq]; refine .cons (.i hk.1 hk.2) (.cons (.s hs) ?_)
   cases hns with
   | cons hns1 hns2 =>
    cases hns2
    exact .cons hns1 (.cons .b (.cons (rp_n.2 ⟨A3, b3, rfl, hN⟩) (.cons (Rp.to_enc (sz := 6) (by omega) (fun _ _ h => h) hS) .nil)))
  ·rw [bulk_mk]
   omega
variable {base : Nat} {v : Value} {d : DataW H} {p : List MemPlace}
set_option maxRecDepth 100000 in
theorem open_tr (hv : Value.okWide Tryz.prog w .any base 28 v) (h : DataW.Trod enc Tryz.prog w 0 (fun _ => true) true 28 v d p) (hz : w.noneFrozen p) :
  ∃ t : Tr, RelD w (· < w.heap.size) v (.g (dTr t)) ∧ t.bulk ≤ Rows.uptoBulk d := by
 obtain ⟨cs, rfl, hsize⟩ := okWide_struct Tryz.underlying28 hv; obtain ⟨n, hn⟩ := h; obtain ⟨t, h1, h2⟩ := open_tree0 Tryz.underlying28 (by kernel_rfl) rfl rfl rfl rfl rfl rfl rfl rfl rfl rfl rfl _ _ _ _ (Nat.le_refl _) hn hz; exact ⟨t, ⟨cs, rfl, by simpa [Value.cells] using h1⟩, h2⟩
end
mutual
theorem nms_bulk : ∀ t : Tr, t.nms ≤ t.bulk
 | .mk k s ns n ks => by
  rw [nms_mk, bulk_mk]; have := nmss_bulks ks
  omega
theorem nmss_bulks : ∀ l : List Tr, nmss l ≤ bulks l
 | [] => by simp [nmss, bulks]
 | t :: r => by
  have h1 := nms_bulk t; have h2 := nmss_bulks r; rw [nmss, bulks]
  omega
end
mutual
theorem tall_bulk : ∀ t : Tr, t.tall ≤ t.bulk
 | .mk k s ns n ks => by
  rw [Tr.tall, bulk_mk]; have := talls_bulks ks
  omega
theorem talls_bulks : ∀ l : List Tr, talls l ≤ bulks l
 | [] => by simp [talls, bulks]
 | t :: r => by
  have h1 := tall_bulk t; have h2 := talls_bulks r; rw [talls, bulks]
  omega
end

def flat1 : DataW Unit → List Value
 | .agg xs => xs.map fun
  | .lit (.int k z) => Value.int k z
  | _ => .nilIface
 | _ => []
noncomputable def laidWorld (os : Os) : World :=
 let w0 := World.holding Tryz.prog os ⟨#[], #[], []⟩
 let put (h : Array Obj) (g : Nat) (cs : Array Value) : Array Obj := h.modify g fun
  | .cells _ t frozen => .cells cs t frozen
  | o => o
 let h0 := put w0.heap 0 (flat1 Rows.laid_internal_strconv_uint64pow10).toArray
 let h1 := put h0 1 (flat1 Rows.laid_math_bits_deBruijn32tab).toArray
 let h2 := put h1 2 (flat1 Rows.laid_math_bits_deBruijn64tab).toArray
 { w0 with heap := h2 }
noncomputable def laidListed : List (String × DataW Unit) := [("math/bits.deBruijn32tab", Rows.laid_math_bits_deBruijn32tab), ("math/bits.deBruijn64tab", Rows.laid_math_bits_deBruijn64tab), ("internal/strconv.uint64pow10", Rows.laid_internal_strconv_uint64pow10)]
theorem laid_met (os : Os) (args : Array Value) : laidMet Tryz.prog laidListed ((laidWorld os).forCall (fun _ _ => 0) ⟨#[], args, []⟩).memory :=
 (LaidIn.of_run (l := laidListed) [0, 1, 2] 8 (by kernel_rfl) (by kernel_rfl) (by kernel_rfl) (by kernel_rfl)).met
theorem lay_of_laid {W : World} (h : laidMetH Tryz.prog laidListed W) : Lay W := fun _ => by
 have h1 : laidMet Tryz.prog laidListed W := h; have h2 := h1.tail.tail; exact Lib.tabIs_of_head (k := .u64) (zs := Lib.pow10Tab) (g := 0) (by kernel_rfl) (by kernel_rfl) Tryz.underlying276 Tryz.underlying92 (by kernel_rfl) (by kernel_rfl) h2
end Go.Proofs.YtbgifiijjjoebaaGreatDoor
