/-
  DERIVED. GIVEN WITH THE SEED: THE CARDS: each row of YtbgifiijjjoebaaGreatDoorRows.lean that lists a variable, with what it lists TIED to the program's text (the seventh form; the later family's looks); each row that meets fmt, with fmt's text TOLD by the authors' own Lean function (tested against real Go, not proved from fmt's source: count such statements apart). THE CARD IS WHAT COUNTS. Prove the row's statement (the work); the ties are given (YtbgifiijjjoebaaGreatDoorTie.lean); close each card by the builder's one call (the guide's Derived/Test/ToyasCard.lean, 'card_holds'). Laid BY PROGRAM, IN A SANDBOX (cutbox-door.mjs). By AI agents, Wed Nov 11 2026. No macro, syntax, notation, axiom, sorry.
-/
import Derived.Test.YtbgifiijjjoebaaGreatDoorRows
import GoSem.ClaimSeven
namespace Go.Proofs.YtbgifiijjjoebaaGreatDoor
namespace Rows

/-- THE TIED CARD OF 'riddlelaw10.LowerNames'. -/
def lowerNamesCard : Claim7 := { stood := { row := lowerNamesRow, standIns := [], harness := (true, "4568f138d5679245e83cfdac1b3074f023c59057f502ab02a8b69b1e4df71c4a"), looks := false }, kinds := [], alts := [], laidByText := true, laidKinds := [.data, .data, .data], laidTests := true, laidLooks := .later }
def LowerNamesCardSaid : Prop := Claim7.holds Tryz.pinned (.plain (OpenSpec.ofChange lowerNamesSpec)) lowerNamesCard

/-- THE TIED CARD OF 'riddlelaw10.LowerTerm'. -/
def lowerTermCard : Claim7 := { stood := { row := lowerTermRow, standIns := [], harness := (true, "4568f138d5679245e83cfdac1b3074f023c59057f502ab02a8b69b1e4df71c4a"), looks := false }, kinds := [], alts := [], laidByText := true, laidKinds := [.data, .data, .data], laidTests := true, laidLooks := .later }
def LowerTermCardSaid : Prop := Claim7.holds Tryz.pinned (.plain (OpenSpec.ofChange lowerTermSpec)) lowerTermCard

/-- THE TIED CARD OF 'riddlelaw10.LowerSums'. -/
def lowerSumsCard : Claim7 := { stood := { row := lowerSumsRow, standIns := [], harness := (true, "4568f138d5679245e83cfdac1b3074f023c59057f502ab02a8b69b1e4df71c4a"), looks := false }, kinds := [], alts := [], laidByText := true, laidKinds := [.data, .data, .data], laidTests := true, laidLooks := .later }
def LowerSumsCardSaid : Prop := Claim7.holds Tryz.pinned (.plain (OpenSpec.ofChange lowerSumsSpec)) lowerSumsCard

/-- THE SECOND FORM's CARD OF 'riddlelaw10.LowerNames'. -/
def lowerNamesUptoCard : Claim7 := { stood := { row := lowerNamesUptoRow, standIns := [], harness := (true, "4568f138d5679245e83cfdac1b3074f023c59057f502ab02a8b69b1e4df71c4a"), looks := false }, kinds := [], alts := [], laidByText := true, laidKinds := [.data, .data, .data], laidTests := true, laidLooks := .later }
def LowerNamesUptoCardSaid : Prop := Claim7.holds Tryz.pinned (.plain (OpenSpec.upto lowerNamesSpec)) lowerNamesUptoCard

/-- THE SECOND FORM's CARD OF 'riddlelaw10.LowerTerm'. -/
def lowerTermUptoCard : Claim7 := { stood := { row := lowerTermUptoRow, standIns := [], harness := (true, "4568f138d5679245e83cfdac1b3074f023c59057f502ab02a8b69b1e4df71c4a"), looks := false }, kinds := [], alts := [], laidByText := true, laidKinds := [.data, .data, .data], laidTests := true, laidLooks := .later }
def LowerTermUptoCardSaid : Prop := Claim7.holds Tryz.pinned (.plain (OpenSpec.upto lowerTermSpec)) lowerTermUptoCard

/-- THE SECOND FORM's CARD OF 'riddlelaw10.LowerSums'. -/
def lowerSumsUptoCard : Claim7 := { stood := { row := lowerSumsUptoRow, standIns := [], harness := (true, "4568f138d5679245e83cfdac1b3074f023c59057f502ab02a8b69b1e4df71c4a"), looks := false }, kinds := [], alts := [], laidByText := true, laidKinds := [.data, .data, .data], laidTests := true, laidLooks := .later }
def LowerSumsUptoCardSaid : Prop := Claim7.holds Tryz.pinned (.plain (OpenSpec.upto lowerSumsSpec)) lowerSumsUptoCard
end Rows
end Go.Proofs.YtbgifiijjjoebaaGreatDoor
