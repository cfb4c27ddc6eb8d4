/- DERIVED: THE SHELF's CONTRACTS AT THIS DUMP, IN PLAIN WORDS (tools/lay-plain.mjs out of 'YtbgifiijjjoebaaGreatDoorShelfLLay.lean', which tools/lay-shelf.mjs wrote): THE SAME DECLARATIONS UNDER THE SAME NAMES: 'import', 'namespace', 'open', 'def', 'theorem' AND NOTHING ELSE: no command of the shelf's: FOR A HAND-IN. Each laying: the table of numbers ('.._ren') and one theorem, a field a fact of the dump's own or the kernel's comparison; each contract: ONE APPLICATION. -/
import Derived.Shelf.Small.Bits
import Derived.Shelf.Small.Wraps
import Derived.Shelf.Strconv.Itoa0
import Derived.Shelf.Strconv.Itoa1
import Derived.Shelf.LaysM
import Derived.Shelf.Strconv.Itoa2
import Derived.Shelf.Strconv.Itoa3
import Derived.Shelf.Sort.Plain
import Derived.Shelf.Strconv.AppendUint10
import Derived.Shelf.Strconv.AppendInt10
import Derived.Shelf.Slices.Turned
import Derived.Shelf.Slices.Reverse
import Derived.Ground.Names2Prog
import Derived.Shelf.Slices.Clone
import Derived.Shelf.Slices.CompactI
import Derived.Shelf.Slices.SearchI
import Derived.Shelf.Slices.Cells
import Derived.Shelf.Slices.In.SortNone
import Derived.Test.YtbgifiijjjoebaaGreatDoorProg
namespace Go.Proofs
open Go.Shelf
def Tryz.lays190_ren : Go.Shelf.Ren := ⟨fun | 190 => 46 | 125 => 83 | 258 => 82 | 128 => 114 | 129 => 115 | 302 => 105 | 303 => 106 | 304 => 107 | 305 => 108 | 306 => 109 | 307 => 110 | 308 => 111 | 309 => 112 | 310 => 113 | 333 => 140 | 329 => 141 | 330 => 142 | 334 => 143 | 335 => 144 | 336 => 145 | 344 => 160 | n => n, fun | 31 => 22 | 9 => 9 | 3 => 3 | 46 => 93 | 0 => 0 | 51 => 43 | 53 => 92 | 4 => 4 | 183 => 146 | 182 => 145 | 131 => 151 | 5 => 5 | 218 => 173 | 222 => 177 | 228 => 190 | 229 => 191 | n => n, fun | n => n⟩
theorem Tryz.lays190 : Go.Proofs.Lays.n190 Tryz.prog Tryz.lays190_ren := {
 mixed := by kernel_rfl
 f125 := Tryz.func83.trans (congrArg some (by kernel_rfl))
 f128 := Tryz.func114.trans (congrArg some (by kernel_rfl))
 f129 := Tryz.func115.trans (congrArg some (by kernel_rfl))
 f190 := Tryz.func46.trans (congrArg some (by kernel_rfl))
 f258 := Tryz.func82.trans (congrArg some (by kernel_rfl))
 f302 := Tryz.func105.trans (congrArg some (by kernel_rfl))
 f303 := Tryz.func106.trans (congrArg some (by kernel_rfl))
 f304 := Tryz.func107.trans (congrArg some (by kernel_rfl))
 f305 := Tryz.func108.trans (congrArg some (by kernel_rfl))
 f306 := Tryz.func109.trans (congrArg some (by kernel_rfl))
 f307 := Tryz.func110.trans (congrArg some (by kernel_rfl))
 f308 := Tryz.func111.trans (congrArg some (by kernel_rfl))
 f309 := Tryz.func112.trans (congrArg some (by kernel_rfl))
 f310 := Tryz.func113.trans (congrArg some (by kernel_rfl))
 f329 := Tryz.func141.trans (congrArg some (by kernel_rfl))
 f330 := Tryz.func142.trans (congrArg some (by kernel_rfl))
 f333 := Tryz.func140.trans (congrArg some (by kernel_rfl))
 f334 := Tryz.func143.trans (congrArg some (by kernel_rfl))
 f335 := Tryz.func144.trans (congrArg some (by kernel_rfl))
 f336 := Tryz.func145.trans (congrArg some (by kernel_rfl))
 f344 := Tryz.func160.trans (congrArg some (by kernel_rfl))
 t0 := Tryz.underlying0
 a0 := Tryz.isAgg0
 z0 := Tryz.sizeOf0
 v0 := Tryz.zeroValue0
 t3 := Tryz.underlying3
 a3 := Tryz.isAgg3
 z3 := Tryz.sizeOf3
 v3 := Tryz.zeroValue3
 t4 := Tryz.underlying4
 a4 := Tryz.isAgg4
 z4 := Tryz.sizeOf4
 v4 := Tryz.zeroValue4
 t5 := Tryz.underlying5
 a5 := Tryz.isAgg5
 z5 := Tryz.sizeOf5
 v5 := Tryz.zeroValue5
 t9 := Tryz.underlying9
 a9 := Tryz.isAgg9
 z9 := Tryz.sizeOf9
 v9 := Tryz.zeroValue9
 t31 := Tryz.underlying22
 a31 := Tryz.isAgg22
 z31 := Tryz.sizeOf22
 v31 := Tryz.zeroValue22
 t46 := Tryz.underlying93
 a46 := Tryz.isAgg93
 z46 := Tryz.sizeOf93
 v46 := Tryz.zeroValue93
 t51 := Tryz.underlying43
 a51 := Tryz.isAgg43
 z51 := Tryz.sizeOf43
 v51 := Tryz.zeroValue43
 t53 := Tryz.underlying92
 a53 := Tryz.isAgg92
 z53 := Tryz.sizeOf92
 v53 := Tryz.zeroValue92
 t131 := Tryz.underlying151
 a131 := Tryz.isAgg151
 z131 := Tryz.sizeOf151
 v131 := Tryz.zeroValue151
 t182 := Tryz.underlying145
 a182 := Tryz.isAgg145
 z182 := Tryz.sizeOf145
 v182 := Tryz.zeroValue145
 t183 := Tryz.underlying146
 a183 := Tryz.isAgg146
 z183 := Tryz.sizeOf146
 v183 := Tryz.zeroValue146
 t218 := Tryz.underlying173
 a218 := Tryz.isAgg173
 z218 := Tryz.sizeOf173
 v218 := Tryz.zeroValue173
 t222 := Tryz.underlying177
 a222 := Tryz.isAgg177
 z222 := Tryz.sizeOf177
 v222 := Tryz.zeroValue177
 t228 := Tryz.underlying190
 a228 := Tryz.isAgg190
 z228 := Tryz.sizeOf190
 v228 := Tryz.zeroValue190
 t229 := Tryz.underlying191
 a229 := Tryz.isAgg191
 z229 := Tryz.sizeOf191
 v229 := Tryz.zeroValue191 }
open Go.Sort Go.RowKit in
theorem Tryz.slices_Sort_string (blk off cap : Nat) (ss : List (List UInt8)) (w : World) (hH : Holds encStr w blk off ss.toArray) (hblk : blk < w.heap.size) (hsz : ss.length < 4611686018427387904) :
  Calls Tryz.prog 46 #[.slice (some ⟨blk, off, none⟩) ss.length cap] w fun e w' =>
   e = .returned (.tuple #[]) ∧ ∃ n os, w' = grow (putRow encStr (Sort.ahead w n) blk off (ss.mergeSort fun x y => decide (x ≤ y)).toArray) os := Any.slices_Sort_string Tryz.lays190 blk off cap ss w hH hblk hsz
open Go.RowKit Go.Sort in
theorem Tryz.slices_Sort_string_none (p : Option Addr) (cap : Nat) (w : World) :
  Calls Tryz.prog 46 #[.slice p 0 cap] w fun e w' => e = .returned (.tuple #[]) ∧ w' = w := Any.slices_Sort_string_none Tryz.lays190 p cap w
end Go.Proofs
