/-
  DERIVED. GIVEN WITH THE SEED: THE CARDS: each row of YthmjgbkakjpfkaaGreatDoorRows.lean that lists a variable, with what it lists TIED to the program's text (the seventh form; the later family's looks); each row that meets fmt, with fmt's text TOLD by the authors' own Lean function (tested against real Go, not proved from fmt's source: count such statements apart). THE CARD IS WHAT COUNTS. Prove the row's statement (the work); the ties are given (YthmjgbkakjpfkaaGreatDoorTie.lean); close each card by the builder's one call (the guide's Derived/Test/ToyasCard.lean, 'card_holds'). Laid BY PROGRAM, IN A SANDBOX (cutbox-door.mjs). By AI agents, Wed Nov 11 2026. No macro, syntax, notation, axiom, sorry.
-/
import Derived.Test.YthmjgbkakjpfkaaGreatDoorRows
import GoSem.ClaimSeven
namespace Go.Proofs.YthmjgbkakjpfkaaGreatDoor
namespace Rows

/-- THE TIED CARD OF 'riddlelaw06.AtomShort'. -/
def atomShortCard : Claim7 := { stood := { row := atomShortRow, standIns := [], harness := (true, "99f1d0e3e27bdcf30156ade00af53c4a956fb480d1db55a8c5adf5d1949e39a4"), looks := false }, kinds := [], alts := [], laidByText := true, laidKinds := [.data, .data, .data, .data, .pinned], laidTests := true, laidLooks := .later }
def AtomShortCardSaid : Prop := Claim7.holds Tryz.pinned (.plain (OpenSpec.ofChange atomShortSpec)) atomShortCard

/-- THE TIED CARD OF 'riddlelaw06.AtomForms'. -/
def atomFormsCard : Claim7 := { stood := { row := atomFormsRow, standIns := [], harness := (true, "99f1d0e3e27bdcf30156ade00af53c4a956fb480d1db55a8c5adf5d1949e39a4"), looks := false }, kinds := [], alts := [], laidByText := true, laidKinds := [.data, .data, .data, .data, .pinned], laidTests := true, laidLooks := .later }
def AtomFormsCardSaid : Prop := Claim7.holds Tryz.pinned (.plain (OpenSpec.ofChange atomFormsSpec)) atomFormsCard

/-- THE TIED CARD OF 'riddlelaw06.AtomLooks'. -/
def atomLooksCard : Claim7 := { stood := { row := atomLooksRow, standIns := [], harness := (true, "99f1d0e3e27bdcf30156ade00af53c4a956fb480d1db55a8c5adf5d1949e39a4"), looks := false }, kinds := [], alts := [], laidByText := true, laidKinds := [.data, .data, .data, .data, .pinned], laidTests := true, laidLooks := .later }
def AtomLooksCardSaid : Prop := Claim7.holds Tryz.pinned (.plain (OpenSpec.ofChange atomLooksSpec)) atomLooksCard

/-- THE TIED CARD OF 'riddlelaw06.AtomOpposite'. -/
def atomOppositeCard : Claim7 := { stood := { row := atomOppositeRow, standIns := [], harness := (true, "99f1d0e3e27bdcf30156ade00af53c4a956fb480d1db55a8c5adf5d1949e39a4"), looks := false }, kinds := [], alts := [], laidByText := true, laidKinds := [.data, .data, .data, .data, .pinned], laidTests := true, laidLooks := .later }
def AtomOppositeCardSaid : Prop := Claim7.holds Tryz.pinned (.plain (OpenSpec.ofChange atomOppositeSpec)) atomOppositeCard

/-- THE TIED CARD OF 'riddlelaw06.AtomMeans'. -/
def atomMeansCard : Claim7 := { stood := { row := atomMeansRow, standIns := [], harness := (true, "99f1d0e3e27bdcf30156ade00af53c4a956fb480d1db55a8c5adf5d1949e39a4"), looks := false }, kinds := [], alts := [], laidByText := true, laidKinds := [.data, .data, .data, .data, .pinned], laidTests := true, laidLooks := .later }
def AtomMeansCardSaid : Prop := Claim7.holds Tryz.pinned (.plain (OpenSpec.ofChange atomMeansSpec)) atomMeansCard

/-- THE TIED CARD OF 'riddlelaw06.AtomTurns'. -/
def atomTurnsCard : Claim7 := { stood := { row := atomTurnsRow, standIns := [], harness := (true, "99f1d0e3e27bdcf30156ade00af53c4a956fb480d1db55a8c5adf5d1949e39a4"), looks := false }, kinds := [], alts := [], laidByText := true, laidKinds := [.data, .data, .data, .data, .pinned], laidTests := true, laidLooks := .later }
def AtomTurnsCardSaid : Prop := Claim7.holds Tryz.pinned (.plain (OpenSpec.ofChange atomTurnsSpec)) atomTurnsCard

/-- THE TIED CARD OF 'riddlelaw06.AtomPuts'. -/
def atomPutsCard : Claim7 := { stood := { row := atomPutsRow, standIns := [], harness := (true, "99f1d0e3e27bdcf30156ade00af53c4a956fb480d1db55a8c5adf5d1949e39a4"), looks := false }, kinds := [], alts := [], laidByText := true, laidKinds := [.data, .data, .data, .data, .pinned], laidTests := true, laidLooks := .later }
def AtomPutsCardSaid : Prop := Claim7.holds Tryz.pinned (.plain (OpenSpec.ofChange atomPutsSpec)) atomPutsCard

/-- THE SECOND FORM's CARD OF 'riddlelaw06.AtomShort'. -/
def atomShortUptoCard : Claim7 := { stood := { row := atomShortUptoRow, standIns := [], harness := (true, "99f1d0e3e27bdcf30156ade00af53c4a956fb480d1db55a8c5adf5d1949e39a4"), looks := false }, kinds := [], alts := [], laidByText := true, laidKinds := [.data, .data, .data, .data, .pinned], laidTests := true, laidLooks := .later }
def AtomShortUptoCardSaid : Prop := Claim7.holds Tryz.pinned (.plain (OpenSpec.upto atomShortSpec)) atomShortUptoCard

/-- THE SECOND FORM's CARD OF 'riddlelaw06.AtomForms'. -/
def atomFormsUptoCard : Claim7 := { stood := { row := atomFormsUptoRow, standIns := [], harness := (true, "99f1d0e3e27bdcf30156ade00af53c4a956fb480d1db55a8c5adf5d1949e39a4"), looks := false }, kinds := [], alts := [], laidByText := true, laidKinds := [.data, .data, .data, .data, .pinned], laidTests := true, laidLooks := .later }
def AtomFormsUptoCardSaid : Prop := Claim7.holds Tryz.pinned (.plain (OpenSpec.upto atomFormsSpec)) atomFormsUptoCard

/-- THE SECOND FORM's CARD OF 'riddlelaw06.AtomLooks'. -/
def atomLooksUptoCard : Claim7 := { stood := { row := atomLooksUptoRow, standIns := [], harness := (true, "99f1d0e3e27bdcf30156ade00af53c4a956fb480d1db55a8c5adf5d1949e39a4"), looks := false }, kinds := [], alts := [], laidByText := true, laidKinds := [.data, .data, .data, .data, .pinned], laidTests := true, laidLooks := .later }
def AtomLooksUptoCardSaid : Prop := Claim7.holds Tryz.pinned (.plain (OpenSpec.upto atomLooksSpec)) atomLooksUptoCard

/-- THE SECOND FORM's CARD OF 'riddlelaw06.AtomOpposite'. -/
def atomOppositeUptoCard : Claim7 := { stood := { row := atomOppositeUptoRow, standIns := [], harness := (true, "99f1d0e3e27bdcf30156ade00af53c4a956fb480d1db55a8c5adf5d1949e39a4"), looks := false }, kinds := [], alts := [], laidByText := true, laidKinds := [.data, .data, .data, .data, .pinned], laidTests := true, laidLooks := .later }
def AtomOppositeUptoCardSaid : Prop := Claim7.holds Tryz.pinned (.plain (OpenSpec.upto atomOppositeSpec)) atomOppositeUptoCard

/-- THE SECOND FORM's CARD OF 'riddlelaw06.AtomMeans'. -/
def atomMeansUptoCard : Claim7 := { stood := { row := atomMeansUptoRow, standIns := [], harness := (true, "99f1d0e3e27bdcf30156ade00af53c4a956fb480d1db55a8c5adf5d1949e39a4"), looks := false }, kinds := [], alts := [], laidByText := true, laidKinds := [.data, .data, .data, .data, .pinned], laidTests := true, laidLooks := .later }
def AtomMeansUptoCardSaid : Prop := Claim7.holds Tryz.pinned (.plain (OpenSpec.upto atomMeansSpec)) atomMeansUptoCard

/-- THE SECOND FORM's CARD OF 'riddlelaw06.AtomTurns'. -/
def atomTurnsUptoCard : Claim7 := { stood := { row := atomTurnsUptoRow, standIns := [], harness := (true, "99f1d0e3e27bdcf30156ade00af53c4a956fb480d1db55a8c5adf5d1949e39a4"), looks := false }, kinds := [], alts := [], laidByText := true, laidKinds := [.data, .data, .data, .data, .pinned], laidTests := true, laidLooks := .later }
def AtomTurnsUptoCardSaid : Prop := Claim7.holds Tryz.pinned (.plain (OpenSpec.upto atomTurnsSpec)) atomTurnsUptoCard

/-- THE SECOND FORM's CARD OF 'riddlelaw06.AtomPuts'. -/
def atomPutsUptoCard : Claim7 := { stood := { row := atomPutsUptoRow, standIns := [], harness := (true, "99f1d0e3e27bdcf30156ade00af53c4a956fb480d1db55a8c5adf5d1949e39a4"), looks := false }, kinds := [], alts := [], laidByText := true, laidKinds := [.data, .data, .data, .data, .pinned], laidTests := true, laidLooks := .later }
def AtomPutsUptoCardSaid : Prop := Claim7.holds Tryz.pinned (.plain (OpenSpec.upto atomPutsSpec)) atomPutsUptoCard
end Rows
end Go.Proofs.YthmjgbkakjpfkaaGreatDoor
