/- Rows of parts of the call's own. No conditions. slices.Clone of parts. No conditions. -/
import Derived.Test.YtbgifiijjjoebaaGreatDoorGNamesAn
import Derived.Test.YtbgifiijjjoebaaGreatDoorGNamesAb
import Derived.Shelf.Abstract
namespace Go.Proofs.YtbgifiijjjoebaaGreatDoor
open Go.RowKit

abbrev El := (Int × Z) × (Option Addr × Nat)
instance : Inhabited El := ⟨((0, ⟨false, []⟩), (none, 0))⟩
end Go.Proofs.YtbgifiijjjoebaaGreatDoor

namespace Go.Proofs.YtbgifiijjjoebaaGreatDoor
open Go.RowKit

section
variable {α β : Type} {sz : Nat} {E : World → (Nat → Prop) → List Value → α → Prop} {E' : World → (Nat → Prop) → List Value → β → Prop}
end

def EPF (base : Nat) (w : World) (X : Nat → Prop) (cs : List Value) (a : Bool × (Int × Z)) : Prop := EP w (fun c => X c ∧ (a.1 = true → base ≤ c)) cs a.2
instance (base : Nat) : Stab (EPF base) :=
 ⟨fun h k => Stab.keep (E := EP) h fun b hb hl => k b hb.1 hl, fun h k => Stab.widen (E := EP) h fun b hb hl => ⟨k b hb.1 hl, hb.2⟩, fun h => Stab.one (E := EP) h⟩

end Go.Proofs.YtbgifiijjjoebaaGreatDoor
