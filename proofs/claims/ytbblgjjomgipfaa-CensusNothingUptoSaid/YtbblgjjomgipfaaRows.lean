/-
  No cell of these rows narrows 'for every input' (looked for: loops, veiled, ifaces, maps, wideKeys, modest, calm, conditions, laid).
  DERIVED. THE GIVEN ROWS OF THIS SEAT. 8 by the template 'for every input the law returns true; each argument reads behind the call as it read before'; 0 by the template 'total and deterministic' (their statements: YtbblgjjomgipfaaTotals.lean).
  GIVEN WITH THE SEED: the statements are not yours to turn. If you find one false, say at which input.
  Laid BY PROGRAM, IN A SANDBOX (cutbox-rows.mjs): the forced cells as the released guide's own fill.sh prints them over the translation c76bebfc08ce83f2… (all of the seat's roots in one cut). By AI agents, Wed Nov 11 2026. No macro, syntax, notation, axiom, sorry.
-/
import Derived.Test.YtbblgjjomgipfaaChecked
import GoSem.Claim
import GoSem.ClaimJoined
import GoSem.ClaimMapViews
import Derived.JoinedTies
import Derived.KernelRfl
namespace Go.Proofs.Ytbblgjjomgipfaa
/- THE CELL 'sum', in the pinned program and in every row, IS THE sha256 OF THE DUMP (.gsa) THAT YtbblgjjomgipfaaProg.lean LOADS. Nothing in Lean hashes anything: it is a label: what it is worth is what the hold of that sum in a sandbox is worth. -/
noncomputable def Try.pinned : Pinned := { name := "ytbblgjjomgipfaa", sum := "c76bebfc08ce83f289df5749da3eb58e10024c295a1bf1807f0aa844535a8ea6", checked := Try.checked }
namespace Rows
def none {H : Type} : Left H := { results := [], args := [] }

/-- 'riddlelaw05.TermStands': WHATEVER THE INPUT: true; the input reads as it did. -/
def termStandsSpec : ChangeSpec := { name := "termStands", fn := fun _ => fun
  | [d1, d2, d3] => { results := [.lit (.bool true)], args := [d1, d2, d3] }
  | _ => none }
def termStandsRow : OpenClaim := { program := "ytbblgjjomgipfaa", sum := "c76bebfc08ce83f289df5749da3eb58e10024c295a1bf1807f0aa844535a8ea6", func := "riddle/riddlelaw05.TermStands", spec := "termStands", unfollowed := true, recurses := true, apart := false }
def TermStandsSaid : Prop := termStandsRow.holds Try.pinned (OpenSpec.ofChange termStandsSpec)

/-- ITS FALSE NEIGHBOUR: 'it returns false'. Refute it at one input. -/
def termStandsWrong : ChangeSpec := { name := "termStands", fn := fun _ => fun
  | [d1, d2, d3] => { results := [.lit (.bool false)], args := [d1, d2, d3] }
  | _ => none }
def TermStandsWrongFalsely : Prop := termStandsRow.holds Try.pinned (OpenSpec.ofChange termStandsWrong)

/-- 'riddlelaw05.TermEvals': WHATEVER THE INPUT: true; the input reads as it did. -/
def termEvalsSpec : ChangeSpec := { name := "termEvals", fn := fun _ => fun
  | [d1, d2] => { results := [.lit (.bool true)], args := [d1, d2] }
  | _ => none }
def termEvalsRow : OpenClaim := { program := "ytbblgjjomgipfaa", sum := "c76bebfc08ce83f289df5749da3eb58e10024c295a1bf1807f0aa844535a8ea6", func := "riddle/riddlelaw05.TermEvals", spec := "termEvals", unfollowed := true, recurses := true, apart := false }
def TermEvalsSaid : Prop := termEvalsRow.holds Try.pinned (OpenSpec.ofChange termEvalsSpec)

/-- ITS FALSE NEIGHBOUR: 'it returns false'. Refute it at one input. -/
def termEvalsWrong : ChangeSpec := { name := "termEvals", fn := fun _ => fun
  | [d1, d2] => { results := [.lit (.bool false)], args := [d1, d2] }
  | _ => none }
def TermEvalsWrongFalsely : Prop := termEvalsRow.holds Try.pinned (OpenSpec.ofChange termEvalsWrong)

/-- 'riddlelaw05.TermSums': WHATEVER THE INPUT: true; the input reads as it did. -/
def termSumsSpec : ChangeSpec := { name := "termSums", fn := fun _ => fun
  | [d1, d2, d3, d4] => { results := [.lit (.bool true)], args := [d1, d2, d3, d4] }
  | _ => none }
def termSumsRow : OpenClaim := { program := "ytbblgjjomgipfaa", sum := "c76bebfc08ce83f289df5749da3eb58e10024c295a1bf1807f0aa844535a8ea6", func := "riddle/riddlelaw05.TermSums", spec := "termSums", unfollowed := true, recurses := true, apart := false }
def TermSumsSaid : Prop := termSumsRow.holds Try.pinned (OpenSpec.ofChange termSumsSpec)

/-- ITS FALSE NEIGHBOUR: 'it returns false'. Refute it at one input. -/
def termSumsWrong : ChangeSpec := { name := "termSums", fn := fun _ => fun
  | [d1, d2, d3, d4] => { results := [.lit (.bool false)], args := [d1, d2, d3, d4] }
  | _ => none }
def TermSumsWrongFalsely : Prop := termSumsRow.holds Try.pinned (OpenSpec.ofChange termSumsWrong)

/-- 'riddlelaw05.TermReckons': WHATEVER THE INPUT: true; the input reads as it did. -/
def termReckonsSpec : ChangeSpec := { name := "termReckons", fn := fun _ => fun
  | [d1, d2, d3, d4] => { results := [.lit (.bool true)], args := [d1, d2, d3, d4] }
  | _ => none }
def termReckonsRow : OpenClaim := { program := "ytbblgjjomgipfaa", sum := "c76bebfc08ce83f289df5749da3eb58e10024c295a1bf1807f0aa844535a8ea6", func := "riddle/riddlelaw05.TermReckons", spec := "termReckons", unfollowed := true, recurses := true, apart := false }
def TermReckonsSaid : Prop := termReckonsRow.holds Try.pinned (OpenSpec.ofChange termReckonsSpec)

/-- ITS FALSE NEIGHBOUR: 'it returns false'. Refute it at one input. -/
def termReckonsWrong : ChangeSpec := { name := "termReckons", fn := fun _ => fun
  | [d1, d2, d3, d4] => { results := [.lit (.bool false)], args := [d1, d2, d3, d4] }
  | _ => none }
def TermReckonsWrongFalsely : Prop := termReckonsRow.holds Try.pinned (OpenSpec.ofChange termReckonsWrong)

/-- 'riddlelaw05.TermPuts': WHATEVER THE INPUT: true; the input reads as it did. -/
def termPutsSpec : ChangeSpec := { name := "termPuts", fn := fun _ => fun
  | [d1, d2, d3, d4] => { results := [.lit (.bool true)], args := [d1, d2, d3, d4] }
  | _ => none }
def termPutsRow : OpenClaim := { program := "ytbblgjjomgipfaa", sum := "c76bebfc08ce83f289df5749da3eb58e10024c295a1bf1807f0aa844535a8ea6", func := "riddle/riddlelaw05.TermPuts", spec := "termPuts", unfollowed := true, recurses := true, apart := false }
def TermPutsSaid : Prop := termPutsRow.holds Try.pinned (OpenSpec.ofChange termPutsSpec)

/-- ITS FALSE NEIGHBOUR: 'it returns false'. Refute it at one input. -/
def termPutsWrong : ChangeSpec := { name := "termPuts", fn := fun _ => fun
  | [d1, d2, d3, d4] => { results := [.lit (.bool false)], args := [d1, d2, d3, d4] }
  | _ => none }
def TermPutsWrongFalsely : Prop := termPutsRow.holds Try.pinned (OpenSpec.ofChange termPutsWrong)

/-- 'riddlelaw05.TermOrders': WHATEVER THE INPUT: true; the input reads as it did. -/
def termOrdersSpec : ChangeSpec := { name := "termOrders", fn := fun _ => fun
  | [d1, d2, d3] => { results := [.lit (.bool true)], args := [d1, d2, d3] }
  | _ => none }
def termOrdersRow : OpenClaim := { program := "ytbblgjjomgipfaa", sum := "c76bebfc08ce83f289df5749da3eb58e10024c295a1bf1807f0aa844535a8ea6", func := "riddle/riddlelaw05.TermOrders", spec := "termOrders", unfollowed := true, recurses := true, apart := false }
def TermOrdersSaid : Prop := termOrdersRow.holds Try.pinned (OpenSpec.ofChange termOrdersSpec)

/-- ITS FALSE NEIGHBOUR: 'it returns false'. Refute it at one input. -/
def termOrdersWrong : ChangeSpec := { name := "termOrders", fn := fun _ => fun
  | [d1, d2, d3] => { results := [.lit (.bool false)], args := [d1, d2, d3] }
  | _ => none }
def TermOrdersWrongFalsely : Prop := termOrdersRow.holds Try.pinned (OpenSpec.ofChange termOrdersWrong)

/-- 'riddlelaw05.TermLooks': WHATEVER THE INPUT: true; the input reads as it did. -/
def termLooksSpec : ChangeSpec := { name := "termLooks", fn := fun _ => fun
  | [d1, d2] => { results := [.lit (.bool true)], args := [d1, d2] }
  | _ => none }
def termLooksRow : OpenClaim := { program := "ytbblgjjomgipfaa", sum := "c76bebfc08ce83f289df5749da3eb58e10024c295a1bf1807f0aa844535a8ea6", func := "riddle/riddlelaw05.TermLooks", spec := "termLooks", unfollowed := true, recurses := true, apart := false }
def TermLooksSaid : Prop := termLooksRow.holds Try.pinned (OpenSpec.ofChange termLooksSpec)

/-- ITS FALSE NEIGHBOUR: 'it returns false'. Refute it at one input. -/
def termLooksWrong : ChangeSpec := { name := "termLooks", fn := fun _ => fun
  | [d1, d2] => { results := [.lit (.bool false)], args := [d1, d2] }
  | _ => none }
def TermLooksWrongFalsely : Prop := termLooksRow.holds Try.pinned (OpenSpec.ofChange termLooksWrong)

/-- 'riddlelaw19.CensusNothing': WHATEVER THE INPUT: true; the input reads as it did. -/
def censusNothingSpec : ChangeSpec := { name := "censusNothing", fn := fun _ => fun
  | [d1, d2] => { results := [.lit (.bool true)], args := [d1, d2] }
  | _ => none }
def censusNothingRow : OpenClaim := { program := "ytbblgjjomgipfaa", sum := "c76bebfc08ce83f289df5749da3eb58e10024c295a1bf1807f0aa844535a8ea6", func := "riddle/riddlelaw19.CensusNothing", spec := "censusNothing", unfollowed := true, recurses := true, apart := false }
def CensusNothingSaid : Prop := censusNothingRow.holds Try.pinned (OpenSpec.ofChange censusNothingSpec)

/-- ITS FALSE NEIGHBOUR: 'it returns false'. Refute it at one input. -/
def censusNothingWrong : ChangeSpec := { name := "censusNothing", fn := fun _ => fun
  | [d1, d2] => { results := [.lit (.bool false)], args := [d1, d2] }
  | _ => none }
def CensusNothingWrongFalsely : Prop := censusNothingRow.holds Try.pinned (OpenSpec.ofChange censusNothingWrong)

/- THE SECOND FORM. 'bulk': how many values and letters a reading holds, each counted each time it is reached (what is shared counts as often as it is met; a slice's spare places count too). A statement '..UptoSaid' is the law's where the arguments, and the package variables that the reading takes, are together of bulk at most 1048576: NARROWER than '..Said'. Prove '..Said' where nothing that the law and all that it calls make is longer than what came in: it says more and counts as full. Else prove '..UptoSaid'. A law counts once. -/
mutual
def uptoBulk {H : Type} : DataW H → Nat
  | .lit (.string bytes) => bytes.length + 1
  | .lit _ => 1
  | .nil => 1
  | .ptr d => uptoBulk d + 1
  | .slice elems spare => uptoBulkAll elems + uptoBulkAll spare + 1
  | .agg parts => uptoBulkAll parts + 1
  | .iface _ d => uptoBulk d + 1
  | .map entries => uptoBulkEntries entries + 1
  | .held _ => 1
def uptoBulkAll {H : Type} : List (DataW H) → Nat
  | [] => 0
  | d :: r => uptoBulk d + uptoBulkAll r
def uptoBulkEntries {H : Type} : List (Lit × DataW H) → Nat
  | [] => 0
  | x :: r => uptoBulkEntry x + uptoBulkEntries r
def uptoBulkEntry {H : Type} : Lit × DataW H → Nat
  | (.string bytes, d) => bytes.length + uptoBulk d + 1
  | (_, d) => uptoBulk d + 1
 end
def uptoSmall : (H : Type) → List (DataW H) → Bool := fun _ ds => decide (uptoBulkAll ds ≤ 1048576)
def OpenSpec.upto (s : _root_.Go.ChangeSpec) : _root_.Go.OpenSpec := { _root_.Go.OpenSpec.ofChange s with cond := some uptoSmall }

/-- 'riddlelaw05.TermStands', WHERE WHAT IT READS IS OF BULK AT MOST 1048576: true; the input reads as it did. -/
def termStandsUptoRow : OpenClaim := { program := "ytbblgjjomgipfaa", sum := "c76bebfc08ce83f289df5749da3eb58e10024c295a1bf1807f0aa844535a8ea6", func := "riddle/riddlelaw05.TermStands", spec := "termStands", unfollowed := true, recurses := true, apart := false, narrowed := true }
def TermStandsUptoSaid : Prop := termStandsUptoRow.holds Try.pinned (OpenSpec.upto termStandsSpec)

/-- 'riddlelaw05.TermEvals', WHERE WHAT IT READS IS OF BULK AT MOST 1048576: true; the input reads as it did. -/
def termEvalsUptoRow : OpenClaim := { program := "ytbblgjjomgipfaa", sum := "c76bebfc08ce83f289df5749da3eb58e10024c295a1bf1807f0aa844535a8ea6", func := "riddle/riddlelaw05.TermEvals", spec := "termEvals", unfollowed := true, recurses := true, apart := false, narrowed := true }
def TermEvalsUptoSaid : Prop := termEvalsUptoRow.holds Try.pinned (OpenSpec.upto termEvalsSpec)

/-- 'riddlelaw05.TermSums', WHERE WHAT IT READS IS OF BULK AT MOST 1048576: true; the input reads as it did. -/
def termSumsUptoRow : OpenClaim := { program := "ytbblgjjomgipfaa", sum := "c76bebfc08ce83f289df5749da3eb58e10024c295a1bf1807f0aa844535a8ea6", func := "riddle/riddlelaw05.TermSums", spec := "termSums", unfollowed := true, recurses := true, apart := false, narrowed := true }
def TermSumsUptoSaid : Prop := termSumsUptoRow.holds Try.pinned (OpenSpec.upto termSumsSpec)

/-- 'riddlelaw05.TermReckons', WHERE WHAT IT READS IS OF BULK AT MOST 1048576: true; the input reads as it did. -/
def termReckonsUptoRow : OpenClaim := { program := "ytbblgjjomgipfaa", sum := "c76bebfc08ce83f289df5749da3eb58e10024c295a1bf1807f0aa844535a8ea6", func := "riddle/riddlelaw05.TermReckons", spec := "termReckons", unfollowed := true, recurses := true, apart := false, narrowed := true }
def TermReckonsUptoSaid : Prop := termReckonsUptoRow.holds Try.pinned (OpenSpec.upto termReckonsSpec)

/-- 'riddlelaw05.TermPuts', WHERE WHAT IT READS IS OF BULK AT MOST 1048576: true; the input reads as it did. -/
def termPutsUptoRow : OpenClaim := { program := "ytbblgjjomgipfaa", sum := "c76bebfc08ce83f289df5749da3eb58e10024c295a1bf1807f0aa844535a8ea6", func := "riddle/riddlelaw05.TermPuts", spec := "termPuts", unfollowed := true, recurses := true, apart := false, narrowed := true }
def TermPutsUptoSaid : Prop := termPutsUptoRow.holds Try.pinned (OpenSpec.upto termPutsSpec)

/-- 'riddlelaw05.TermOrders', WHERE WHAT IT READS IS OF BULK AT MOST 1048576: true; the input reads as it did. -/
def termOrdersUptoRow : OpenClaim := { program := "ytbblgjjomgipfaa", sum := "c76bebfc08ce83f289df5749da3eb58e10024c295a1bf1807f0aa844535a8ea6", func := "riddle/riddlelaw05.TermOrders", spec := "termOrders", unfollowed := true, recurses := true, apart := false, narrowed := true }
def TermOrdersUptoSaid : Prop := termOrdersUptoRow.holds Try.pinned (OpenSpec.upto termOrdersSpec)

/-- 'riddlelaw05.TermLooks', WHERE WHAT IT READS IS OF BULK AT MOST 1048576: true; the input reads as it did. -/
def termLooksUptoRow : OpenClaim := { program := "ytbblgjjomgipfaa", sum := "c76bebfc08ce83f289df5749da3eb58e10024c295a1bf1807f0aa844535a8ea6", func := "riddle/riddlelaw05.TermLooks", spec := "termLooks", unfollowed := true, recurses := true, apart := false, narrowed := true }
def TermLooksUptoSaid : Prop := termLooksUptoRow.holds Try.pinned (OpenSpec.upto termLooksSpec)

/-- 'riddlelaw19.CensusNothing', WHERE WHAT IT READS IS OF BULK AT MOST 1048576: true; the input reads as it did. -/
def censusNothingUptoRow : OpenClaim := { program := "ytbblgjjomgipfaa", sum := "c76bebfc08ce83f289df5749da3eb58e10024c295a1bf1807f0aa844535a8ea6", func := "riddle/riddlelaw19.CensusNothing", spec := "censusNothing", unfollowed := true, recurses := true, apart := false, narrowed := true }
def CensusNothingUptoSaid : Prop := censusNothingUptoRow.holds Try.pinned (OpenSpec.upto censusNothingSpec)

end Rows
end Go.Proofs.Ytbblgjjomgipfaa
