/- An atom among the arguments, opened; the table that strconv reads, out of the row's list; a world that lays the lists. No conditions. -/
import Derived.Test.YthmjgbkakjpfkaaGreatDoorGLooksAe
import Derived.Test.YthmjgbkakjpfkaaGreatDoorGLooksBd
import Derived.Test.YthmjgbkakjpfkaaGreatDoorCards
import Derived.Lib.LaidTab
import Derived.Lib.LaidIn
import Derived.Stop.LaidErr
namespace Go.Proofs.YthmjgbkakjpfkaaGreatDoor
open Go.RowKit Go.Deep Go.ChangeShapes Go.WideShapes

section
variable {H : Type} {enc : TypeId × Value → H} {w : World}
theorem len6 {α : Type} {l : List α} (h : l.length = 6) : ∃ a b c d e f, l = [a, b, c, d, e, f] := by
  match l, h with
  | [a, b, c, d, e, f], _ => exact ⟨a, b, c, d, e, f, rfl⟩
theorem open_ic {fuel : Nat} {cs : List Value} {x : DataW H × List MemPlace} (h : DataW.trod enc Tryz.prog w 0 (fun _ => true) true fuel 3 cs = some x) : ∃ v : Int, cs = [.int .i64 v] ∧ i64 v := by
  obtain ⟨v, hv, _, hw⟩ := DataW.trod_int Tryz.underlying3 h
  simp [Lit.wf, IntKind.min, IntKind.max, IntKind.signed, IntKind.bits] at hw
  exact ⟨v, hv, ⟨by omega, by omega⟩⟩
theorem open_tc {fuel : Nat} {cs : List Value} {x : DataW H × List MemPlace} (h : DataW.trod enc Tryz.prog w 0 (fun _ => true) true fuel 27 cs = some x) (hz : w.noneFrozen x.2) :
    ∃ A c B e, ∃ t : T, cs = [.slice A t.ps.length c, .bool t.k.neg, .slice B t.k.mag.length e] ∧ Pl w (· < w.heap.size) A c t.ps ∧ Nl w (· < w.heap.size) B e t.k.mag ∧ t.sz (Rows.uptoBulk x.1) :=
  open_t0 Tryz.underlying27 c_t rfl rfl rfl rfl h hz
theorem open_a0 {t : TypeId} {f0 f1 f2 : Field} {fuel : Nat} {cs : List Value} {x : DataW H × List MemPlace} (ht : Tryz.prog.underlying t = some (.struct #[f0, f1, f2])) (hC : Tryz.prog.cellsOf t = 6) (o0 : f0.offset = 0) (o1 : f1.offset = 1) (o2 : f2.offset = 3)
    (t0 : f0.type = 3) (t1 : f1.type = 24) (t2 : f2.type = 27) (h : DataW.trod enc Tryz.prog w 0 (fun _ => true) true fuel t cs = some x) (hz : w.noneFrozen x.2) :
    ∃ a : Ar, Av w (· < w.heap.size) (.agg cs.toArray) a ∧ a.sz (Rows.uptoBulk x.1) := by
  obtain ⟨xs, n, _, hx, hlen, hxl, hf⟩ := DataW.trod_struct ht h
  obtain ⟨y0, y1, y2, rfl⟩ := len3 (hxl.trans rfl)
  have h0 := hf 0 f0 rfl; have h1 := hf 1 f1 rfl; have h2 := hf 2 f2 rfl
  have z1 : w.noneFrozen y1.2 := fun b o hm => hz b o (by rw [hx]; simp [hm])
  have z2 : w.noneFrozen y2.2 := fun b o hm => hz b o (by rw [hx]; simp [hm])
  rw [hC] at hlen
  obtain ⟨c0, c1, c2, c3, c4, c5, rfl⟩ := len6 hlen
  rw [o0, t0, c_int] at h0
  rw [o1, t1, c_z] at h1
  rw [o2, t2, c_t] at h2
  simp only [List.drop_zero, List.drop_succ_cons, List.take_succ_cons, List.take_zero] at h0 h1 h2
  obtain ⟨v0, e0, i0⟩ := open_ic h0
  obtain ⟨A1, b1, k1, e1, hN1, hb1⟩ := open_zc h1 z1
  obtain ⟨A2, b2, B2, d2, k2, e2, hP2, hN2, hs2⟩ := open_tc h2 z2
  injection e0 with e0
  injection e1 with e1 e1'
  injection e1' with e1'
  injection e2 with e2 e2'
  injection e2' with e2' e2''
  injection e2'' with e2''
  subst e0; subst e1; subst e1'; subst e2; subst e2'; subst e2''
  have hb : Rows.uptoBulk x.1 = Rows.uptoBulk y0.1 + (Rows.uptoBulk y1.1 + (Rows.uptoBulk y2.1 + 0)) + 1 := by
    rw [hx]; rfl
  exact ⟨⟨v0, k1, k2⟩, ⟨A1, b1, A2, b2, B2, d2, rfl, i0, hN1, hP2, hN2⟩, by simp only; omega, hs2.mono (by omega)⟩
variable {base : Nat} {v : Value} {d : DataW H} {p : List MemPlace}
set_option maxRecDepth 100000 in
theorem open_a (hv : Value.okWide Tryz.prog w .any base 29 v) (h : DataW.Trod enc Tryz.prog w 0 (fun _ => true) true 29 v d p) (hz : w.noneFrozen p) :
    ∃ a : Ar, Av w (· < w.heap.size) v a ∧ a.sz (Rows.uptoBulk d) := by
  obtain ⟨cs, rfl, hsize⟩ := okWide_struct Tryz.underlying29 hv
  obtain ⟨n, hn⟩ := h
  have := open_a0 Tryz.underlying29 (by kernel_rfl) rfl rfl rfl rfl rfl rfl hn hz
  simpa [Value.cells] using this
end
theorem Ar.sz.mono {a : Ar} {N M : Nat} (h : a.sz N) (hm : N ≤ M) : a.sz M := ⟨Nat.le_trans h.1 hm, h.2.mono hm⟩

def flat1 : DataW Unit → List Value
  | .agg xs => xs.map fun
    | .lit (.int k z) => Value.int k z
    | _ => .nilIface
  | _ => []
def flat2 : DataW Unit → List Value
  | .agg xs => (xs.map flat1).flatten
  | _ => []
noncomputable def laidWorld (os : Os) : World :=
  let w0 := World.holding Tryz.prog os ⟨#[], #[], []⟩
  let put (h : Array Obj) (g : Nat) (cs : Array Value) : Array Obj := h.modify g fun
    | .cells _ t frozen => .cells cs t frozen
    | o => o
  let h0 := put w0.heap 0 (flat1 Rows.laid_internal_strconv_uint64pow10).toArray
  let h1 := put h0 1 (flat1 Rows.laid_unicode_utf8_first).toArray
  let h2 := put h1 2 (flat2 Rows.laid_unicode_utf8_acceptRanges).toArray
  let h3 := put h2 3 (flat1 Rows.laid_math_bits_deBruijn32tab).toArray
  let h4 := put h3 4 (flat1 Rows.laid_math_bits_deBruijn64tab).toArray
  { w0 with heap := h4 }
noncomputable def laidListed : List (String × DataW Unit) := [("math/bits.deBruijn32tab", Rows.laid_math_bits_deBruijn32tab), ("math/bits.deBruijn64tab", Rows.laid_math_bits_deBruijn64tab), ("internal/strconv.uint64pow10", Rows.laid_internal_strconv_uint64pow10), ("unicode/utf8.acceptRanges", Rows.laid_unicode_utf8_acceptRanges), ("unicode/utf8.first", Rows.laid_unicode_utf8_first)]
theorem laid_met (os : Os) (args : Array Value) : laidMet Tryz.prog laidListed ((laidWorld os).forCall (fun _ _ => 0) ⟨#[], args, []⟩).memory :=
  (LaidIn.of_run (l := laidListed) [0, 1, 2, 3, 4] 8 (by kernel_rfl) (by kernel_rfl) (by kernel_rfl) (by kernel_rfl)).met
theorem tab_of_laid {W : World} (h : laidMetH Tryz.prog laidListed W) : Tab W := by
  have h1 : laidMet Tryz.prog laidListed W := h
  have h2 := h1.tail.tail
  exact Lib.tabIs_of_head (k := .u64) (zs := Lib.pow10Tab) (g := 0) (by kernel_rfl) (by kernel_rfl) Tryz.underlying175 Tryz.underlying78 (by kernel_rfl) (by kernel_rfl) h2

end Go.Proofs.YthmjgbkakjpfkaaGreatDoor
