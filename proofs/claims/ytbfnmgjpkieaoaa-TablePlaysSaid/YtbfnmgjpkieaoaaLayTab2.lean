/-
  DERIVED: THE SHELF's CONTRACTS AT THIS DUMP, IN PLAIN WORDS (tools/lay-plain.mjs out of 'YtbfnmgjpkieaoaaLayTab2.lean', which tools/lay-shelf.mjs wrote): THE SAME DECLARATIONS UNDER THE SAME NAMES: 'import', 'namespace', 'open', 'def', 'theorem' AND NOTHING ELSE: no command of the shelf's: FOR A HAND-IN. Each laying: the table of numbers ('.._ren') and one theorem, a field a fact of the dump's own or the kernel's comparison; each contract: ONE APPLICATION.
-/
import Derived.Ground.SlsfProg
import Derived.Shelf.SlSortCmp.NoneTotal
import Derived.Test.YtbfnmgjpkieaoaaProg
namespace Go.Proofs
open Go.Shelf
def Try.sortFuncN_ren : Go.Shelf.Ren := ⟨fun | 6 => 95 | 15 => 108 | 14 => 107 | 28 => 126 | 29 => 127 | 20 => 118 | 21 => 119 | 22 => 120 | 23 => 121 | 24 => 122 | 25 => 123 | 26 => 124 | 27 => 125 | 46 => 147 | 47 => 148 | 48 => 149 | 49 => 150 | 50 => 151 | 57 => 158 | n => n, fun | 22 => 139 | 24 => 77 | 25 => 145 | 3 => 3 | 39 => 169 | 0 => 0 | 53 => 185 | 55 => 187 | 4 => 4 | 46 => 179 | 45 => 178 | 50 => 88 | 5 => 5 | 9 => 9 | 66 => 201 | 70 => 205 | 76 => 211 | 77 => 70 | n => n, fun | n => n⟩
theorem Try.sortFuncN : Go.Proofs.SlLaysF0.n6 Try.prog Try.sortFuncN_ren := {
  mixed := by kernel_rfl
  f6 := ⟨Try.f95.name, by decide, Try.func95.trans (congrArg some (by kernel_rfl))⟩
  f14 := ⟨Try.f107.name, by decide, Try.func107.trans (congrArg some (by kernel_rfl))⟩
  f15 := Try.func108.trans (congrArg some (by kernel_rfl))
  f20 := ⟨Try.f118.name, by decide, Try.func118.trans (congrArg some (by kernel_rfl))⟩
  f21 := ⟨Try.f119.name, by decide, Try.func119.trans (congrArg some (by kernel_rfl))⟩
  f22 := ⟨Try.f120.name, by decide, Try.func120.trans (congrArg some (by kernel_rfl))⟩
  f23 := ⟨Try.f121.name, by decide, Try.func121.trans (congrArg some (by kernel_rfl))⟩
  f24 := ⟨Try.f122.name, by decide, Try.func122.trans (congrArg some (by kernel_rfl))⟩
  f25 := ⟨Try.f123.name, by decide, Try.func123.trans (congrArg some (by kernel_rfl))⟩
  f26 := ⟨Try.f124.name, by decide, Try.func124.trans (congrArg some (by kernel_rfl))⟩
  f27 := ⟨Try.f125.name, by decide, Try.func125.trans (congrArg some (by kernel_rfl))⟩
  f28 := Try.func126.trans (congrArg some (by kernel_rfl))
  f29 := Try.func127.trans (congrArg some (by kernel_rfl))
  f46 := ⟨Try.f147.name, by decide, Try.func147.trans (congrArg some (by kernel_rfl))⟩
  f47 := Try.func148.trans (congrArg some (by kernel_rfl))
  f48 := Try.func149.trans (congrArg some (by kernel_rfl))
  f49 := ⟨Try.f150.name, by decide, Try.func150.trans (congrArg some (by kernel_rfl))⟩
  f50 := ⟨Try.f151.name, by decide, Try.func151.trans (congrArg some (by kernel_rfl))⟩
  f57 := ⟨Try.f158.name, by decide, Try.func158.trans (congrArg some (by kernel_rfl))⟩
  t0 := Try.underlying0
  a0 := Try.isAgg0
  z0 := Try.sizeOf0
  v0 := Try.zeroValue0
  t3 := Try.underlying3
  a3 := Try.isAgg3
  z3 := Try.sizeOf3
  v3 := Try.zeroValue3
  t4 := Try.underlying4
  a4 := Try.isAgg4
  z4 := Try.sizeOf4
  v4 := Try.zeroValue4
  t5 := Try.underlying5
  a5 := Try.isAgg5
  z5 := Try.sizeOf5
  v5 := Try.zeroValue5
  t9 := Try.underlying9
  a9 := Try.isAgg9
  z9 := Try.sizeOf9
  v9 := Try.zeroValue9
  t22 := Try.underlying139
  a22 := Try.isAgg139
  z22 := Try.sizeOf139
  v22 := Try.zeroValue139
  t25 := Try.underlying145
  a25 := Try.isAgg145
  z25 := Try.sizeOf145
  v25 := Try.zeroValue145
  t39 := Try.underlying169
  a39 := Try.isAgg169
  z39 := Try.sizeOf169
  v39 := Try.zeroValue169
  t45 := Try.underlying178
  a45 := Try.isAgg178
  z45 := Try.sizeOf178
  v45 := Try.zeroValue178
  t46 := Try.underlying179
  a46 := Try.isAgg179
  z46 := Try.sizeOf179
  v46 := Try.zeroValue179
  t50 := Try.underlying88
  a50 := Try.isAgg88
  z50 := Try.sizeOf88
  v50 := Try.zeroValue88
  t53 := Try.underlying185
  a53 := Try.isAgg185
  z53 := Try.sizeOf185
  v53 := Try.zeroValue185
  t55 := Try.underlying187
  a55 := Try.isAgg187
  z55 := Try.sizeOf187
  v55 := Try.zeroValue187
  t66 := Try.underlying201
  a66 := Try.isAgg201
  z66 := Try.sizeOf201
  v66 := Try.zeroValue201
  t70 := Try.underlying205
  a70 := Try.isAgg205
  z70 := Try.sizeOf205
  v70 := Try.zeroValue205
  t76 := Try.underlying211
  a76 := Try.isAgg211
  z76 := Try.sizeOf211
  v76 := Try.zeroValue211
  t77 := Try.underlying70
  a77 := Try.isAgg70
  z77 := Try.sizeOf70
  v77 := Try.zeroValue70 }
end Go.Proofs
