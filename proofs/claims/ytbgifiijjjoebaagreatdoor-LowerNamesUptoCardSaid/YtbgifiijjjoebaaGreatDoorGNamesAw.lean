/- Strings: rows of them, nat.Text, zint.Text. No conditions. -/
import Derived.Lib.ItoaNum
import Derived.Lib.TrimByte
import Derived.Test.YtbgifiijjjoebaaGreatDoorGNamesAa
import Derived.Test.YtbgifiijjjoebaaGreatDoorGNamesAn
import Derived.Test.YtbgifiijjjoebaaGreatDoorGNamesAb
import Derived.OrdersHeld
import Derived.Shelf.Small.Bits
import Derived.Shelf.Small.Wraps
import Derived.Shelf.Strconv.Itoa0
import Derived.Shelf.Strconv.Itoa1
import Derived.Shelf.LaysM
import Derived.Shelf.Strconv.Itoa2
import Derived.Shelf.Strconv.Itoa3
import Derived.Shelf.Sort.Plain
import Derived.Shelf.Strconv.AppendUint10
import Derived.Shelf.Strconv.AppendInt10
import Derived.Shelf.Slices.Turned
import Derived.Shelf.Slices.Reverse
import Derived.Ground.Names2Prog
import Derived.Shelf.Slices.Clone
import Derived.Shelf.Slices.CompactI
import Derived.Shelf.Slices.SearchI
import Derived.Shelf.Slices.Cells
import Derived.Shelf.Slices.In.SortNone
import Derived.Test.YtbgifiijjjoebaaGreatDoorProg
import Derived.Laws.Runes
import Derived.Lib.AppendIntMem
namespace Go.Proofs.YtbgifiijjjoebaaGreatDoor
open Go.RowKit

def EStr (_ : World) (_ : Nat → Prop) (cs : List Value) (s : List UInt8) : Prop := cs = [.string ⟨s.toArray⟩]
instance : Stab EStr := ⟨fun h _ => h, fun h _ => h, fun h => by subst h; simp [Value.oneCell']⟩
end Go.Proofs.YtbgifiijjjoebaaGreatDoor
