/- atom: divisions as function values; a term mapped. No conditions. -/
import Derived.Test.YtbgifiijjjoebaaGreatDoorGNamesAn
import Derived.Test.YtbgifiijjjoebaaGreatDoorGNamesAb
import Derived.OrdersHeld
import Derived.RegionTactic
import Derived.ChangeAlike
import Derived.Test.YtbgifiijjjoebaaGreatDoorGNamesAa
import Derived.Deep.CutBlock
import Derived.BigQuiet
import Derived.Deep.QuietTactic
import Derived.Shelf.Small.Bits
import Derived.Shelf.Small.Wraps
import Derived.Shelf.Strconv.Itoa0
import Derived.Shelf.Strconv.Itoa1
import Derived.Shelf.LaysM
import Derived.Shelf.Strconv.Itoa2
import Derived.Shelf.Strconv.Itoa3
import Derived.Shelf.Sort.Plain
import Derived.Shelf.Strconv.AppendUint10
import Derived.Shelf.Strconv.AppendInt10
import Derived.Shelf.Slices.Turned
import Derived.Shelf.Slices.Reverse
import Derived.Ground.Names2Prog
import Derived.Shelf.Slices.Clone
import Derived.Shelf.Slices.CompactI
import Derived.Shelf.Slices.SearchI
import Derived.Shelf.Slices.Cells
import Derived.Shelf.Slices.In.SortNone
import Derived.Test.YtbgifiijjjoebaaGreatDoorProg
import Derived.Lib.ItoaNum
import Derived.Deep.CutRange
import Derived.Deep.LoopGhost
import Derived.Test.YtbgifiijjjoebaaGreatDoorGNamesAt
import Derived.Test.YtbgifiijjjoebaaGreatDoorGNamesAu
import Derived.Shelf.SlSortCmp.WholeK
import Derived.Ground.SlsfProg
import Derived.Shelf.SlSortCmp.NoneTotal
import Derived.Shelf.Abstract
namespace Go.Proofs.YtbgifiijjjoebaaGreatDoor
open Go.RowKit

def Fz (w : World) (n : FuncId) (a : Addr) (N : Nat) (F : Int → Int) : Prop :=
 (∀ args W, (callFunc n args).run Tryz.prog W = .ok (.enter n args) W) ∧
 ∀ W, Ext w W → ∀ v x (Y : Nat → Prop), Zi W Y v x → x.mag.length ≤ N → Calls Tryz.prog n #[v, .pointer (some a)] W fun e w' => ∃ r, e = .returned r ∧ Zi w' (W.heap.size ≤ ·) r (cz (F x.v)) ∧ Ext W w'
end Go.Proofs.YtbgifiijjjoebaaGreatDoor
