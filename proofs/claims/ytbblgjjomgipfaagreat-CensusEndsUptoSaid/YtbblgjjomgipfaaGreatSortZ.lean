/-
  DERIVED: THE SHELF's CONTRACTS AT THIS DUMP, IN PLAIN WORDS (tools/lay-plain.mjs out of 'YtbblgjjomgipfaaGreatSortZLay.lean', which tools/lay-shelf.mjs wrote): THE SAME DECLARATIONS UNDER THE SAME NAMES: 'import', 'namespace', 'open', 'def', 'theorem' AND NOTHING ELSE: no command of the shelf's: FOR A HAND-IN. Each laying: the table of numbers ('.._ren') and one theorem, a field a fact of the dump's own or the kernel's comparison; each contract: ONE APPLICATION.
-/
import Derived.Shelf.SlSortCmp.WholeK
import Derived.Ground.SlsfProg
import Derived.Test.YtbblgjjomgipfaaGreatProg
namespace Go.Proofs
open Go.Shelf
def Tryz.laySortZ_ren : Go.Shelf.Ren := ⟨fun | 6 => 118 | 15 => 136 | 14 => 135 | 28 => 137 | 29 => 147 | 20 => 139 | 21 => 140 | 22 => 141 | 23 => 142 | 24 => 143 | 25 => 144 | 26 => 145 | 27 => 146 | 46 => 148 | 47 => 149 | 48 => 150 | 49 => 151 | 50 => 152 | 57 => 153 | n => n, fun | 22 => 41 | 24 => 25 | 25 => 33 | 3 => 3 | 39 => 101 | 0 => 0 | 53 => 56 | 55 => 99 | 4 => 4 | 46 => 148 | 45 => 147 | 50 => 95 | 5 => 5 | 9 => 9 | 66 => 154 | 70 => 158 | 76 => 160 | 77 => 161 | n => n, fun | n => n⟩
theorem Tryz.laySortZ : Go.Proofs.SlLaysF0.n6 Tryz.prog Tryz.laySortZ_ren := {
  mixed := by kernel_rfl
  f6 := ⟨Tryz.f118.name, by decide, Tryz.func118.trans (congrArg some (by kernel_rfl))⟩
  f14 := ⟨Tryz.f135.name, by decide, Tryz.func135.trans (congrArg some (by kernel_rfl))⟩
  f15 := Tryz.func136.trans (congrArg some (by kernel_rfl))
  f20 := ⟨Tryz.f139.name, by decide, Tryz.func139.trans (congrArg some (by kernel_rfl))⟩
  f21 := ⟨Tryz.f140.name, by decide, Tryz.func140.trans (congrArg some (by kernel_rfl))⟩
  f22 := ⟨Tryz.f141.name, by decide, Tryz.func141.trans (congrArg some (by kernel_rfl))⟩
  f23 := ⟨Tryz.f142.name, by decide, Tryz.func142.trans (congrArg some (by kernel_rfl))⟩
  f24 := ⟨Tryz.f143.name, by decide, Tryz.func143.trans (congrArg some (by kernel_rfl))⟩
  f25 := ⟨Tryz.f144.name, by decide, Tryz.func144.trans (congrArg some (by kernel_rfl))⟩
  f26 := ⟨Tryz.f145.name, by decide, Tryz.func145.trans (congrArg some (by kernel_rfl))⟩
  f27 := ⟨Tryz.f146.name, by decide, Tryz.func146.trans (congrArg some (by kernel_rfl))⟩
  f28 := Tryz.func137.trans (congrArg some (by kernel_rfl))
  f29 := Tryz.func147.trans (congrArg some (by kernel_rfl))
  f46 := ⟨Tryz.f148.name, by decide, Tryz.func148.trans (congrArg some (by kernel_rfl))⟩
  f47 := Tryz.func149.trans (congrArg some (by kernel_rfl))
  f48 := Tryz.func150.trans (congrArg some (by kernel_rfl))
  f49 := ⟨Tryz.f151.name, by decide, Tryz.func151.trans (congrArg some (by kernel_rfl))⟩
  f50 := ⟨Tryz.f152.name, by decide, Tryz.func152.trans (congrArg some (by kernel_rfl))⟩
  f57 := ⟨Tryz.f153.name, by decide, Tryz.func153.trans (congrArg some (by kernel_rfl))⟩
  t0 := Tryz.underlying0
  a0 := Tryz.isAgg0
  z0 := Tryz.sizeOf0
  v0 := Tryz.zeroValue0
  t3 := Tryz.underlying3
  a3 := Tryz.isAgg3
  z3 := Tryz.sizeOf3
  v3 := Tryz.zeroValue3
  t4 := Tryz.underlying4
  a4 := Tryz.isAgg4
  z4 := Tryz.sizeOf4
  v4 := Tryz.zeroValue4
  t5 := Tryz.underlying5
  a5 := Tryz.isAgg5
  z5 := Tryz.sizeOf5
  v5 := Tryz.zeroValue5
  t9 := Tryz.underlying9
  a9 := Tryz.isAgg9
  z9 := Tryz.sizeOf9
  v9 := Tryz.zeroValue9
  t22 := Tryz.underlying41
  a22 := Tryz.isAgg41
  z22 := Tryz.sizeOf41
  v22 := Tryz.zeroValue41
  t25 := Tryz.underlying33
  a25 := Tryz.isAgg33
  z25 := Tryz.sizeOf33
  v25 := Tryz.zeroValue33
  t39 := Tryz.underlying101
  a39 := Tryz.isAgg101
  z39 := Tryz.sizeOf101
  v39 := Tryz.zeroValue101
  t45 := Tryz.underlying147
  a45 := Tryz.isAgg147
  z45 := Tryz.sizeOf147
  v45 := Tryz.zeroValue147
  t46 := Tryz.underlying148
  a46 := Tryz.isAgg148
  z46 := Tryz.sizeOf148
  v46 := Tryz.zeroValue148
  t50 := Tryz.underlying95
  a50 := Tryz.isAgg95
  z50 := Tryz.sizeOf95
  v50 := Tryz.zeroValue95
  t53 := Tryz.underlying56
  a53 := Tryz.isAgg56
  z53 := Tryz.sizeOf56
  v53 := Tryz.zeroValue56
  t55 := Tryz.underlying99
  a55 := Tryz.isAgg99
  z55 := Tryz.sizeOf99
  v55 := Tryz.zeroValue99
  t66 := Tryz.underlying154
  a66 := Tryz.isAgg154
  z66 := Tryz.sizeOf154
  v66 := Tryz.zeroValue154
  t70 := Tryz.underlying158
  a70 := Tryz.isAgg158
  z70 := Tryz.sizeOf158
  v70 := Tryz.zeroValue158
  t76 := Tryz.underlying160
  a76 := Tryz.isAgg160
  z76 := Tryz.sizeOf160
  v76 := Tryz.zeroValue160
  t77 := Tryz.underlying161
  a77 := Tryz.isAgg161
  z77 := Tryz.sizeOf161
  v77 := Tryz.zeroValue161 }
end Go.Proofs
