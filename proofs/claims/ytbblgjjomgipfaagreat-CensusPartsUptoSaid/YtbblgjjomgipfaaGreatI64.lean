/- An int's bounds. No conditions. -/
import Derived.Test.YtbblgjjomgipfaaGreatReg
namespace Go.Proofs.YtbblgjjomgipfaaGreat
open Go.RowKit

theorem sq_done {P : Program} {ops : Array Oper} {Q : Exit → Act → World → Prop} {L : Nat} {a : Act} {w : World} (h : Q .normal a w) : SeqW P ops Q L [] a w := h
/-- An int's bounds. -/
def i64 (x : Int) : Prop := -9223372036854775808 ≤ x ∧ x ≤ 9223372036854775807
theorem w64 {n : Int} (h : i64 n) : IntKind.i64.wrap n = n := by
  obtain ⟨h1, h2⟩ := h
  simp [IntKind.wrap, IntKind.bits, IntKind.signed]
  omega
theorem w64n {n : Nat} (h : n ≤ 9223372036854775807) : IntKind.i64.wrap (n : Int) = n := w64 ⟨by omega, by omega⟩

end Go.Proofs.YtbblgjjomgipfaaGreat
