/-
  No cell of these rows narrows 'for every input' (looked for: loops, veiled, ifaces, maps, wideKeys, modest, calm, conditions, laid).
  DERIVED. THE GIVEN ROWS OF THIS SEAT. 4 by the template 'for every input the law returns true; each argument reads behind the call as it read before'; 0 by the template 'total and deterministic' (their statements: YtbblgjjomgipfaaGreatTotals.lean).
  GIVEN WITH THE SEED: the statements are not yours to turn. If you find one false, say at which input.
  Laid BY PROGRAM, IN A SANDBOX (cutbox-rows.mjs): the forced cells as the released guide's own fill.sh prints them over the translation ad767b873d7ef33c… (all of the seat's roots in one cut). By AI agents, Wed Nov 11 2026. No macro, syntax, notation, axiom, sorry.
-/
import Derived.Test.YtbblgjjomgipfaaGreatChecked
import GoSem.Claim
import GoSem.ClaimJoined
import GoSem.ClaimMapViews
import Derived.JoinedTies
import Derived.KernelRfl
namespace Go.Proofs.YtbblgjjomgipfaaGreat
/- THE CELL 'sum', in the pinned program and in every row, IS THE sha256 OF THE DUMP (.gsa) THAT YtbblgjjomgipfaaGreatProg.lean LOADS. Nothing in Lean hashes anything: it is a label: what it is worth is what the hold of that sum in a sandbox is worth. -/
noncomputable def Tryz.pinned : Pinned := { name := "ytbblgjjomgipfaagreat", sum := "ad767b873d7ef33ca1757616afe3003db8320717b7edf7e30af943471220b8ff", checked := Tryz.checked }
namespace Rows
def none {H : Type} : Left H := { results := [], args := [] }

/-- 'riddlelaw19.CensusParts': WHATEVER THE INPUT: true; the input reads as it did. -/
def censusPartsSpec : ChangeSpec := { name := "censusParts", fn := fun _ => fun
  | [d1, d2] => { results := [.lit (.bool true)], args := [d1, d2] }
  | _ => none }
def censusPartsRow : OpenClaim := { program := "ytbblgjjomgipfaagreat", sum := "ad767b873d7ef33ca1757616afe3003db8320717b7edf7e30af943471220b8ff", func := "riddle/riddlelaw19.CensusParts", spec := "censusParts", unfollowed := true, recurses := true, apart := false }
def CensusPartsSaid : Prop := censusPartsRow.holds Tryz.pinned (OpenSpec.ofChange censusPartsSpec)

/-- ITS FALSE NEIGHBOUR: 'it returns false'. Refute it at one input. -/
def censusPartsWrong : ChangeSpec := { name := "censusParts", fn := fun _ => fun
  | [d1, d2] => { results := [.lit (.bool false)], args := [d1, d2] }
  | _ => none }
def CensusPartsWrongFalsely : Prop := censusPartsRow.holds Tryz.pinned (OpenSpec.ofChange censusPartsWrong)

/-- 'riddlelaw19.CensusFinds': WHATEVER THE INPUT: true; the input reads as it did. -/
def censusFindsSpec : ChangeSpec := { name := "censusFinds", fn := fun _ => fun
  | [d1, d2] => { results := [.lit (.bool true)], args := [d1, d2] }
  | _ => none }
def censusFindsRow : OpenClaim := { program := "ytbblgjjomgipfaagreat", sum := "ad767b873d7ef33ca1757616afe3003db8320717b7edf7e30af943471220b8ff", func := "riddle/riddlelaw19.CensusFinds", spec := "censusFinds", unfollowed := true, recurses := true, apart := false }
def CensusFindsSaid : Prop := censusFindsRow.holds Tryz.pinned (OpenSpec.ofChange censusFindsSpec)

/-- ITS FALSE NEIGHBOUR: 'it returns false'. Refute it at one input. -/
def censusFindsWrong : ChangeSpec := { name := "censusFinds", fn := fun _ => fun
  | [d1, d2] => { results := [.lit (.bool false)], args := [d1, d2] }
  | _ => none }
def CensusFindsWrongFalsely : Prop := censusFindsRow.holds Tryz.pinned (OpenSpec.ofChange censusFindsWrong)

/-- 'riddlelaw19.CensusDoes': WHATEVER THE INPUT: true; the input reads as it did. -/
def censusDoesSpec : ChangeSpec := { name := "censusDoes", fn := fun _ => fun
  | [d1, d2] => { results := [.lit (.bool true)], args := [d1, d2] }
  | _ => none }
def censusDoesRow : OpenClaim := { program := "ytbblgjjomgipfaagreat", sum := "ad767b873d7ef33ca1757616afe3003db8320717b7edf7e30af943471220b8ff", func := "riddle/riddlelaw19.CensusDoes", spec := "censusDoes", unfollowed := true, recurses := true, apart := false }
def CensusDoesSaid : Prop := censusDoesRow.holds Tryz.pinned (OpenSpec.ofChange censusDoesSpec)

/-- ITS FALSE NEIGHBOUR: 'it returns false'. Refute it at one input. -/
def censusDoesWrong : ChangeSpec := { name := "censusDoes", fn := fun _ => fun
  | [d1, d2] => { results := [.lit (.bool false)], args := [d1, d2] }
  | _ => none }
def CensusDoesWrongFalsely : Prop := censusDoesRow.holds Tryz.pinned (OpenSpec.ofChange censusDoesWrong)

/-- 'riddlelaw19.CensusEnds': WHATEVER THE INPUT: true; the input reads as it did. -/
def censusEndsSpec : ChangeSpec := { name := "censusEnds", fn := fun _ => fun
  | [d1, d2, d3] => { results := [.lit (.bool true)], args := [d1, d2, d3] }
  | _ => none }
def censusEndsRow : OpenClaim := { program := "ytbblgjjomgipfaagreat", sum := "ad767b873d7ef33ca1757616afe3003db8320717b7edf7e30af943471220b8ff", func := "riddle/riddlelaw19.CensusEnds", spec := "censusEnds", unfollowed := true, recurses := true, apart := false }
def CensusEndsSaid : Prop := censusEndsRow.holds Tryz.pinned (OpenSpec.ofChange censusEndsSpec)

/-- ITS FALSE NEIGHBOUR: 'it returns false'. Refute it at one input. -/
def censusEndsWrong : ChangeSpec := { name := "censusEnds", fn := fun _ => fun
  | [d1, d2, d3] => { results := [.lit (.bool false)], args := [d1, d2, d3] }
  | _ => none }
def CensusEndsWrongFalsely : Prop := censusEndsRow.holds Tryz.pinned (OpenSpec.ofChange censusEndsWrong)

/- THE SECOND FORM. 'bulk': how many values and letters a reading holds, each counted each time it is reached (what is shared counts as often as it is met; a slice's spare places count too). A statement '..UptoSaid' is the law's where the arguments, and the package variables that the reading takes, are together of bulk at most 1048576: NARROWER than '..Said'. Prove '..Said' where nothing that the law and all that it calls make is longer than what came in: it says more and counts as full. Else prove '..UptoSaid'. A law counts once. -/
mutual
def uptoBulk {H : Type} : DataW H → Nat
  | .lit (.string bytes) => bytes.length + 1
  | .lit _ => 1
  | .nil => 1
  | .ptr d => uptoBulk d + 1
  | .slice elems spare => uptoBulkAll elems + uptoBulkAll spare + 1
  | .agg parts => uptoBulkAll parts + 1
  | .iface _ d => uptoBulk d + 1
  | .map entries => uptoBulkEntries entries + 1
  | .held _ => 1
def uptoBulkAll {H : Type} : List (DataW H) → Nat
  | [] => 0
  | d :: r => uptoBulk d + uptoBulkAll r
def uptoBulkEntries {H : Type} : List (Lit × DataW H) → Nat
  | [] => 0
  | x :: r => uptoBulkEntry x + uptoBulkEntries r
def uptoBulkEntry {H : Type} : Lit × DataW H → Nat
  | (.string bytes, d) => bytes.length + uptoBulk d + 1
  | (_, d) => uptoBulk d + 1
 end
def uptoSmall : (H : Type) → List (DataW H) → Bool := fun _ ds => decide (uptoBulkAll ds ≤ 1048576)
def OpenSpec.upto (s : _root_.Go.ChangeSpec) : _root_.Go.OpenSpec := { _root_.Go.OpenSpec.ofChange s with cond := some uptoSmall }

/-- 'riddlelaw19.CensusParts', WHERE WHAT IT READS IS OF BULK AT MOST 1048576: true; the input reads as it did. -/
def censusPartsUptoRow : OpenClaim := { program := "ytbblgjjomgipfaagreat", sum := "ad767b873d7ef33ca1757616afe3003db8320717b7edf7e30af943471220b8ff", func := "riddle/riddlelaw19.CensusParts", spec := "censusParts", unfollowed := true, recurses := true, apart := false, narrowed := true }
def CensusPartsUptoSaid : Prop := censusPartsUptoRow.holds Tryz.pinned (OpenSpec.upto censusPartsSpec)

/-- 'riddlelaw19.CensusFinds', WHERE WHAT IT READS IS OF BULK AT MOST 1048576: true; the input reads as it did. -/
def censusFindsUptoRow : OpenClaim := { program := "ytbblgjjomgipfaagreat", sum := "ad767b873d7ef33ca1757616afe3003db8320717b7edf7e30af943471220b8ff", func := "riddle/riddlelaw19.CensusFinds", spec := "censusFinds", unfollowed := true, recurses := true, apart := false, narrowed := true }
def CensusFindsUptoSaid : Prop := censusFindsUptoRow.holds Tryz.pinned (OpenSpec.upto censusFindsSpec)

/-- 'riddlelaw19.CensusDoes', WHERE WHAT IT READS IS OF BULK AT MOST 1048576: true; the input reads as it did. -/
def censusDoesUptoRow : OpenClaim := { program := "ytbblgjjomgipfaagreat", sum := "ad767b873d7ef33ca1757616afe3003db8320717b7edf7e30af943471220b8ff", func := "riddle/riddlelaw19.CensusDoes", spec := "censusDoes", unfollowed := true, recurses := true, apart := false, narrowed := true }
def CensusDoesUptoSaid : Prop := censusDoesUptoRow.holds Tryz.pinned (OpenSpec.upto censusDoesSpec)

/-- 'riddlelaw19.CensusEnds', WHERE WHAT IT READS IS OF BULK AT MOST 1048576: true; the input reads as it did. -/
def censusEndsUptoRow : OpenClaim := { program := "ytbblgjjomgipfaagreat", sum := "ad767b873d7ef33ca1757616afe3003db8320717b7edf7e30af943471220b8ff", func := "riddle/riddlelaw19.CensusEnds", spec := "censusEnds", unfollowed := true, recurses := true, apart := false, narrowed := true }
def CensusEndsUptoSaid : Prop := censusEndsUptoRow.holds Tryz.pinned (OpenSpec.upto censusEndsSpec)

end Rows
end Go.Proofs.YtbblgjjomgipfaaGreat
