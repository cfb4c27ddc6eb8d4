/- A map from variables to numbers that the call has made. No conditions. -/
import Derived.Test.YtbgifiijjjoebaaGreatDoorGNamesAb
import Derived.Test.YtbgifiijjjoebaaGreatDoorGNamesAn
import Derived.Maps.RangeWalk
import Derived.Carry
namespace Go.Proofs.YtbgifiijjjoebaaGreatDoor
open Go.RowKit Go.Maps

def z0 : Value := .agg #[.bool false, .slice none 0 0]
section
variable {P : Program} {ops : Array Oper} {Q : Exit → Act → World → Prop} {L : Nat}
end

end Go.Proofs.YtbgifiijjjoebaaGreatDoor
