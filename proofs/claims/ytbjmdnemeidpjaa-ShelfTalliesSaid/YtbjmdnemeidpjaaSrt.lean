/-
  DERIVED: THE SHELF's CONTRACTS AT THIS DUMP, IN PLAIN WORDS (tools/lay-plain.mjs out of 'TrySrt.lean', which tools/lay-shelf.mjs wrote): THE SAME DECLARATIONS UNDER THE SAME NAMES: 'import', 'namespace', 'open', 'def', 'theorem' AND NOTHING ELSE: no command of the shelf's: FOR A HAND-IN. Each laying: the table of numbers ('.._ren') and one theorem, a field a fact of the dump's own or the kernel's comparison; each contract: ONE APPLICATION.
-/
import Derived.Shelf.SlSortCmp.NoneTotal
import Derived.Shelf.SlicesG.Cmp
import Derived.Test.YtbjmdnemeidpjaaProg
namespace Go.Proofs
open Go.Shelf
def Try.sortFn_ren : Go.Shelf.Ren := ⟨fun | 6 => 92 | 15 => 109 | 14 => 108 | 28 => 120 | 29 => 79 | 20 => 112 | 21 => 113 | 22 => 114 | 23 => 115 | 24 => 116 | 25 => 117 | 26 => 118 | 27 => 119 | 46 => 121 | 47 => 122 | 48 => 123 | 49 => 124 | 50 => 125 | 57 => 126 | n => n, fun | 22 => 120 | 24 => 62 | 25 => 125 | 3 => 3 | 39 => 143 | 0 => 0 | 53 => 194 | 55 => 23 | 4 => 4 | 46 => 187 | 45 => 186 | 50 => 191 | 5 => 5 | 9 => 9 | 66 => 195 | 70 => 198 | 76 => 200 | 77 => 201 | n => n, fun | n => n⟩
theorem Try.sortFn : Go.Proofs.SlLaysF0.n6 Try.prog Try.sortFn_ren := {
  mixed := by kernel_rfl
  f6 := ⟨Try.f92.name, by decide, Try.func92.trans (congrArg some (by kernel_rfl))⟩
  f14 := ⟨Try.f108.name, by decide, Try.func108.trans (congrArg some (by kernel_rfl))⟩
  f15 := Try.func109.trans (congrArg some (by kernel_rfl))
  f20 := ⟨Try.f112.name, by decide, Try.func112.trans (congrArg some (by kernel_rfl))⟩
  f21 := ⟨Try.f113.name, by decide, Try.func113.trans (congrArg some (by kernel_rfl))⟩
  f22 := ⟨Try.f114.name, by decide, Try.func114.trans (congrArg some (by kernel_rfl))⟩
  f23 := ⟨Try.f115.name, by decide, Try.func115.trans (congrArg some (by kernel_rfl))⟩
  f24 := ⟨Try.f116.name, by decide, Try.func116.trans (congrArg some (by kernel_rfl))⟩
  f25 := ⟨Try.f117.name, by decide, Try.func117.trans (congrArg some (by kernel_rfl))⟩
  f26 := ⟨Try.f118.name, by decide, Try.func118.trans (congrArg some (by kernel_rfl))⟩
  f27 := ⟨Try.f119.name, by decide, Try.func119.trans (congrArg some (by kernel_rfl))⟩
  f28 := Try.func120.trans (congrArg some (by kernel_rfl))
  f29 := Try.func79.trans (congrArg some (by kernel_rfl))
  f46 := ⟨Try.f121.name, by decide, Try.func121.trans (congrArg some (by kernel_rfl))⟩
  f47 := Try.func122.trans (congrArg some (by kernel_rfl))
  f48 := Try.func123.trans (congrArg some (by kernel_rfl))
  f49 := ⟨Try.f124.name, by decide, Try.func124.trans (congrArg some (by kernel_rfl))⟩
  f50 := ⟨Try.f125.name, by decide, Try.func125.trans (congrArg some (by kernel_rfl))⟩
  f57 := ⟨Try.f126.name, by decide, Try.func126.trans (congrArg some (by kernel_rfl))⟩
  t0 := Try.underlying0
  a0 := Try.isAgg0
  z0 := Try.sizeOf0
  v0 := Try.zeroValue0
  t3 := Try.underlying3
  a3 := Try.isAgg3
  z3 := Try.sizeOf3
  v3 := Try.zeroValue3
  t4 := Try.underlying4
  a4 := Try.isAgg4
  z4 := Try.sizeOf4
  v4 := Try.zeroValue4
  t5 := Try.underlying5
  a5 := Try.isAgg5
  z5 := Try.sizeOf5
  v5 := Try.zeroValue5
  t9 := Try.underlying9
  a9 := Try.isAgg9
  z9 := Try.sizeOf9
  v9 := Try.zeroValue9
  t22 := Try.underlying120
  a22 := Try.isAgg120
  z22 := Try.sizeOf120
  v22 := Try.zeroValue120
  t25 := Try.underlying125
  a25 := Try.isAgg125
  z25 := Try.sizeOf125
  v25 := Try.zeroValue125
  t39 := Try.underlying143
  a39 := Try.isAgg143
  z39 := Try.sizeOf143
  v39 := Try.zeroValue143
  t45 := Try.underlying186
  a45 := Try.isAgg186
  z45 := Try.sizeOf186
  v45 := Try.zeroValue186
  t46 := Try.underlying187
  a46 := Try.isAgg187
  z46 := Try.sizeOf187
  v46 := Try.zeroValue187
  t50 := Try.underlying191
  a50 := Try.isAgg191
  z50 := Try.sizeOf191
  v50 := Try.zeroValue191
  t53 := Try.underlying194
  a53 := Try.isAgg194
  z53 := Try.sizeOf194
  v53 := Try.zeroValue194
  t55 := Try.underlying23
  a55 := Try.isAgg23
  z55 := Try.sizeOf23
  v55 := Try.zeroValue23
  t66 := Try.underlying195
  a66 := Try.isAgg195
  z66 := Try.sizeOf195
  v66 := Try.zeroValue195
  t70 := Try.underlying198
  a70 := Try.isAgg198
  z70 := Try.sizeOf198
  v70 := Try.zeroValue198
  t76 := Try.underlying200
  a76 := Try.isAgg200
  z76 := Try.sizeOf200
  v76 := Try.zeroValue200
  t77 := Try.underlying201
  a77 := Try.isAgg201
  z77 := Try.sizeOf201
  v77 := Try.zeroValue201 }
def Try.cmpFn_ren : Go.Shelf.Ren := ⟨fun | 5 => 94 | 7 => 110 | n => n, fun | 22 => 2 | 3 => 3 | 4 => 4 | n => n, fun | n => n⟩
theorem Try.cmpFn : Go.Proofs.SlLaysC2.n5 Try.prog Try.cmpFn_ren := {
  mixed := by kernel_rfl
  f5 := ⟨Try.f94.name, by decide, Try.func94.trans (congrArg some (by kernel_rfl))⟩
  f7 := ⟨Try.f110.name, by decide, Try.func110.trans (congrArg some (by kernel_rfl))⟩
  t3 := Try.underlying3
  a3 := Try.isAgg3
  z3 := Try.sizeOf3
  v3 := Try.zeroValue3
  t4 := Try.underlying4
  a4 := Try.isAgg4
  z4 := Try.sizeOf4
  v4 := Try.zeroValue4
  t22 := Try.underlying2
  a22 := Try.isAgg2
  z22 := Try.sizeOf2
  v22 := Try.zeroValue2 }
end Go.Proofs
