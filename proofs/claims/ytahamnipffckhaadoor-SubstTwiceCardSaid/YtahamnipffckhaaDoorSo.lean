/-
  DERIVED: THE SHELF's CONTRACTS AT THIS DUMP, IN PLAIN WORDS (tools/lay-plain.mjs out of 'YtahamnipffckhaaDoorSo0.lean', which tools/lay-shelf.mjs wrote): THE SAME DECLARATIONS UNDER THE SAME NAMES: 'import', 'namespace', 'open', 'def', 'theorem' AND NOTHING ELSE: no command of the shelf's: FOR A HAND-IN. Each laying: the table of numbers ('.._ren') and one theorem, a field a fact of the dump's own or the kernel's comparison; each contract: ONE APPLICATION.
-/
import Derived.Shelf.SlSortCmp.WholeK
import Derived.Test.YtahamnipffckhaaDoorProg
namespace Go.Proofs
open Go.Shelf
def Tryd.laysSort_ren : Go.Shelf.Ren := ⟨fun | 6 => 51 | 15 => 74 | 14 => 73 | 28 => 95 | 29 => 96 | 20 => 87 | 21 => 88 | 22 => 89 | 23 => 90 | 24 => 91 | 25 => 92 | 26 => 93 | 27 => 94 | 46 => 107 | 47 => 108 | 48 => 109 | 49 => 110 | 50 => 111 | 57 => 119 | n => n, fun | 22 => 23 | 24 => 52 | 25 => 96 | 3 => 3 | 39 => 125 | 0 => 0 | 53 => 145 | 55 => 147 | 4 => 4 | 46 => 138 | 45 => 137 | 50 => 142 | 5 => 5 | 9 => 9 | 66 => 158 | 70 => 162 | 76 => 169 | 77 => 170 | n => n, fun | n => n⟩
theorem Tryd.laysSort : Go.Proofs.SlLaysF0.n6 Tryd.prog Tryd.laysSort_ren := {
  mixed := by kernel_rfl
  f6 := ⟨Tryd.f51.name, by decide, Tryd.func51.trans (congrArg some (by kernel_rfl))⟩
  f14 := ⟨Tryd.f73.name, by decide, Tryd.func73.trans (congrArg some (by kernel_rfl))⟩
  f15 := Tryd.func74.trans (congrArg some (by kernel_rfl))
  f20 := ⟨Tryd.f87.name, by decide, Tryd.func87.trans (congrArg some (by kernel_rfl))⟩
  f21 := ⟨Tryd.f88.name, by decide, Tryd.func88.trans (congrArg some (by kernel_rfl))⟩
  f22 := ⟨Tryd.f89.name, by decide, Tryd.func89.trans (congrArg some (by kernel_rfl))⟩
  f23 := ⟨Tryd.f90.name, by decide, Tryd.func90.trans (congrArg some (by kernel_rfl))⟩
  f24 := ⟨Tryd.f91.name, by decide, Tryd.func91.trans (congrArg some (by kernel_rfl))⟩
  f25 := ⟨Tryd.f92.name, by decide, Tryd.func92.trans (congrArg some (by kernel_rfl))⟩
  f26 := ⟨Tryd.f93.name, by decide, Tryd.func93.trans (congrArg some (by kernel_rfl))⟩
  f27 := ⟨Tryd.f94.name, by decide, Tryd.func94.trans (congrArg some (by kernel_rfl))⟩
  f28 := Tryd.func95.trans (congrArg some (by kernel_rfl))
  f29 := Tryd.func96.trans (congrArg some (by kernel_rfl))
  f46 := ⟨Tryd.f107.name, by decide, Tryd.func107.trans (congrArg some (by kernel_rfl))⟩
  f47 := Tryd.func108.trans (congrArg some (by kernel_rfl))
  f48 := Tryd.func109.trans (congrArg some (by kernel_rfl))
  f49 := ⟨Tryd.f110.name, by decide, Tryd.func110.trans (congrArg some (by kernel_rfl))⟩
  f50 := ⟨Tryd.f111.name, by decide, Tryd.func111.trans (congrArg some (by kernel_rfl))⟩
  f57 := ⟨Tryd.f119.name, by decide, Tryd.func119.trans (congrArg some (by kernel_rfl))⟩
  t0 := Tryd.underlying0
  a0 := Tryd.isAgg0
  z0 := Tryd.sizeOf0
  v0 := Tryd.zeroValue0
  t3 := Tryd.underlying3
  a3 := Tryd.isAgg3
  z3 := Tryd.sizeOf3
  v3 := Tryd.zeroValue3
  t4 := Tryd.underlying4
  a4 := Tryd.isAgg4
  z4 := Tryd.sizeOf4
  v4 := Tryd.zeroValue4
  t5 := Tryd.underlying5
  a5 := Tryd.isAgg5
  z5 := Tryd.sizeOf5
  v5 := Tryd.zeroValue5
  t9 := Tryd.underlying9
  a9 := Tryd.isAgg9
  z9 := Tryd.sizeOf9
  v9 := Tryd.zeroValue9
  t22 := Tryd.underlying23
  a22 := Tryd.isAgg23
  z22 := Tryd.sizeOf23
  v22 := Tryd.zeroValue23
  t25 := Tryd.underlying96
  a25 := Tryd.isAgg96
  z25 := Tryd.sizeOf96
  v25 := Tryd.zeroValue96
  t39 := Tryd.underlying125
  a39 := Tryd.isAgg125
  z39 := Tryd.sizeOf125
  v39 := Tryd.zeroValue125
  t45 := Tryd.underlying137
  a45 := Tryd.isAgg137
  z45 := Tryd.sizeOf137
  v45 := Tryd.zeroValue137
  t46 := Tryd.underlying138
  a46 := Tryd.isAgg138
  z46 := Tryd.sizeOf138
  v46 := Tryd.zeroValue138
  t50 := Tryd.underlying142
  a50 := Tryd.isAgg142
  z50 := Tryd.sizeOf142
  v50 := Tryd.zeroValue142
  t53 := Tryd.underlying145
  a53 := Tryd.isAgg145
  z53 := Tryd.sizeOf145
  v53 := Tryd.zeroValue145
  t55 := Tryd.underlying147
  a55 := Tryd.isAgg147
  z55 := Tryd.sizeOf147
  v55 := Tryd.zeroValue147
  t66 := Tryd.underlying158
  a66 := Tryd.isAgg158
  z66 := Tryd.sizeOf158
  v66 := Tryd.zeroValue158
  t70 := Tryd.underlying162
  a70 := Tryd.isAgg162
  z70 := Tryd.sizeOf162
  v70 := Tryd.zeroValue162
  t76 := Tryd.underlying169
  a76 := Tryd.isAgg169
  z76 := Tryd.sizeOf169
  v76 := Tryd.zeroValue169
  t77 := Tryd.underlying170
  a77 := Tryd.isAgg170
  z77 := Tryd.sizeOf170
  v77 := Tryd.zeroValue170 }
end Go.Proofs
