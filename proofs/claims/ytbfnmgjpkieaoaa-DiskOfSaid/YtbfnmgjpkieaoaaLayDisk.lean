/-
  DERIVED: THE SHELF's CONTRACTS AT THIS DUMP, IN PLAIN WORDS (tools/lay-plain.mjs out of 'YtbfnmgjpkieaoaaLayDisk.lean', which tools/lay-shelf.mjs wrote): THE SAME DECLARATIONS UNDER THE SAME NAMES: 'import', 'namespace', 'open', 'def', 'theorem' AND NOTHING ELSE: no command of the shelf's: FOR A HAND-IN. Each laying: the table of numbers ('.._ren') and one theorem, a field a fact of the dump's own or the kernel's comparison; each contract: ONE APPLICATION.
-/
import Derived.Ground.SlsfProg
import Derived.Shelf.SlSortCmp.NoneTotal
import Derived.Test.YtbfnmgjpkieaoaaProg
namespace Go.Proofs
open Go.Shelf
def Try.sortFuncP_ren : Go.Shelf.Ren := ⟨fun | 6 => 99 | 15 => 108 | 14 => 110 | 28 => 126 | 29 => 127 | 20 => 128 | 21 => 129 | 22 => 130 | 23 => 131 | 24 => 132 | 25 => 133 | 26 => 134 | 27 => 135 | 46 => 152 | 47 => 148 | 48 => 149 | 49 => 153 | 50 => 154 | 57 => 159 | n => n, fun | 22 => 115 | 24 => 113 | 25 => 150 | 3 => 3 | 39 => 169 | 0 => 0 | 53 => 185 | 55 => 187 | 4 => 4 | 46 => 179 | 45 => 178 | 50 => 88 | 5 => 5 | 9 => 9 | 66 => 201 | 70 => 205 | 76 => 211 | 77 => 70 | n => n, fun | n => n⟩
theorem Try.sortFuncP : Go.Proofs.SlLaysF0.n6 Try.prog Try.sortFuncP_ren := {
  mixed := by kernel_rfl
  f6 := ⟨Try.f99.name, by decide, Try.func99.trans (congrArg some (by kernel_rfl))⟩
  f14 := ⟨Try.f110.name, by decide, Try.func110.trans (congrArg some (by kernel_rfl))⟩
  f15 := Try.func108.trans (congrArg some (by kernel_rfl))
  f20 := ⟨Try.f128.name, by decide, Try.func128.trans (congrArg some (by kernel_rfl))⟩
  f21 := ⟨Try.f129.name, by decide, Try.func129.trans (congrArg some (by kernel_rfl))⟩
  f22 := ⟨Try.f130.name, by decide, Try.func130.trans (congrArg some (by kernel_rfl))⟩
  f23 := ⟨Try.f131.name, by decide, Try.func131.trans (congrArg some (by kernel_rfl))⟩
  f24 := ⟨Try.f132.name, by decide, Try.func132.trans (congrArg some (by kernel_rfl))⟩
  f25 := ⟨Try.f133.name, by decide, Try.func133.trans (congrArg some (by kernel_rfl))⟩
  f26 := ⟨Try.f134.name, by decide, Try.func134.trans (congrArg some (by kernel_rfl))⟩
  f27 := ⟨Try.f135.name, by decide, Try.func135.trans (congrArg some (by kernel_rfl))⟩
  f28 := Try.func126.trans (congrArg some (by kernel_rfl))
  f29 := Try.func127.trans (congrArg some (by kernel_rfl))
  f46 := ⟨Try.f152.name, by decide, Try.func152.trans (congrArg some (by kernel_rfl))⟩
  f47 := Try.func148.trans (congrArg some (by kernel_rfl))
  f48 := Try.func149.trans (congrArg some (by kernel_rfl))
  f49 := ⟨Try.f153.name, by decide, Try.func153.trans (congrArg some (by kernel_rfl))⟩
  f50 := ⟨Try.f154.name, by decide, Try.func154.trans (congrArg some (by kernel_rfl))⟩
  f57 := ⟨Try.f159.name, by decide, Try.func159.trans (congrArg some (by kernel_rfl))⟩
  t0 := Try.underlying0
  a0 := Try.isAgg0
  z0 := Try.sizeOf0
  v0 := Try.zeroValue0
  t3 := Try.underlying3
  a3 := Try.isAgg3
  z3 := Try.sizeOf3
  v3 := Try.zeroValue3
  t4 := Try.underlying4
  a4 := Try.isAgg4
  z4 := Try.sizeOf4
  v4 := Try.zeroValue4
  t5 := Try.underlying5
  a5 := Try.isAgg5
  z5 := Try.sizeOf5
  v5 := Try.zeroValue5
  t9 := Try.underlying9
  a9 := Try.isAgg9
  z9 := Try.sizeOf9
  v9 := Try.zeroValue9
  t22 := Try.underlying115
  a22 := Try.isAgg115
  z22 := Try.sizeOf115
  v22 := Try.zeroValue115
  t25 := Try.underlying150
  a25 := Try.isAgg150
  z25 := Try.sizeOf150
  v25 := Try.zeroValue150
  t39 := Try.underlying169
  a39 := Try.isAgg169
  z39 := Try.sizeOf169
  v39 := Try.zeroValue169
  t45 := Try.underlying178
  a45 := Try.isAgg178
  z45 := Try.sizeOf178
  v45 := Try.zeroValue178
  t46 := Try.underlying179
  a46 := Try.isAgg179
  z46 := Try.sizeOf179
  v46 := Try.zeroValue179
  t50 := Try.underlying88
  a50 := Try.isAgg88
  z50 := Try.sizeOf88
  v50 := Try.zeroValue88
  t53 := Try.underlying185
  a53 := Try.isAgg185
  z53 := Try.sizeOf185
  v53 := Try.zeroValue185
  t55 := Try.underlying187
  a55 := Try.isAgg187
  z55 := Try.sizeOf187
  v55 := Try.zeroValue187
  t66 := Try.underlying201
  a66 := Try.isAgg201
  z66 := Try.sizeOf201
  v66 := Try.zeroValue201
  t70 := Try.underlying205
  a70 := Try.isAgg205
  z70 := Try.sizeOf205
  v70 := Try.zeroValue205
  t76 := Try.underlying211
  a76 := Try.isAgg211
  z76 := Try.sizeOf211
  v76 := Try.zeroValue211
  t77 := Try.underlying70
  a77 := Try.isAgg70
  z77 := Try.sizeOf70
  v77 := Try.zeroValue70 }
end Go.Proofs
