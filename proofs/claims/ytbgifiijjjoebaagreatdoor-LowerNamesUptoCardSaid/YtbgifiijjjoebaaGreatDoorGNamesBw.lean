/- A closed run: known() of the lowering laws. No conditions. -/
import Derived.Test.YtbgifiijjjoebaaGreatDoorGNamesBv
import Derived.Test.YtbgifiijjjoebaaGreatDoorGNamesAo
namespace Go.Proofs.YtbgifiijjjoebaaGreatDoor
open Go
def apart (s : String) : Bool := s == "riddle/term.gathered" || s == "riddle/syntax.Free"
theorem ext_ok : Cm.extOk Tryz.prog = true := by kernel_rfl
theorem known10_t : Cm.isT (Cm.run Tryz.prog apart 100000 10) = true := by kernel_rfl
theorem known10_v : Fn Tryz.prog 10 [] (.c (.b true)) := Cm.closed_true follows ext_ok apart 100000 _ (by kernel_rfl) known10_t
end Go.Proofs.YtbgifiijjjoebaaGreatDoor
