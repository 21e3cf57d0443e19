/-
  DERIVED: THE SHELF's CONTRACTS AT THIS DUMP, IN PLAIN WORDS (tools/lay-plain.mjs out of 'YtnagpianaghjeaaLayDisk.lean', which tools/lay-shelf.mjs wrote): THE SAME DECLARATIONS UNDER THE SAME NAMES: 'import', 'namespace', 'open', 'def', 'theorem' AND NOTHING ELSE: no command of the shelf's: FOR A HAND-IN. Each laying: the table of numbers ('.._ren') and one theorem, a field a fact of the dump's own or the kernel's comparison; each contract: ONE APPLICATION.
-/
import Derived.Ground.SlsfProg
import Derived.Shelf.SlSortCmp.NoneTotal
import Derived.Test.YtnagpianaghjeaaProg
namespace Go.Proofs
open Go.Shelf
def Try.sortFuncP_ren : Go.Shelf.Ren := ⟨fun | 6 => 134 | 15 => 131 | 14 => 149 | 28 => 146 | 29 => 147 | 20 => 156 | 21 => 157 | 22 => 158 | 23 => 159 | 24 => 160 | 25 => 161 | 26 => 162 | 27 => 163 | 46 => 165 | 47 => 151 | 48 => 152 | 49 => 166 | 50 => 167 | 57 => 168 | n => n, fun | 22 => 145 | 24 => 144 | 25 => 168 | 3 => 3 | 39 => 169 | 0 => 0 | 53 => 22 | 55 => 30 | 4 => 4 | 46 => 184 | 45 => 183 | 50 => 188 | 5 => 5 | 9 => 9 | 66 => 193 | 70 => 196 | 76 => 203 | 77 => 77 | n => n, fun | n => n⟩
theorem Try.sortFuncP : Go.Proofs.SlLaysF0.n6 Try.prog Try.sortFuncP_ren := {
  mixed := by kernel_rfl
  f6 := ⟨Try.f134.name, by decide, Try.func134.trans (congrArg some (by kernel_rfl))⟩
  f14 := ⟨Try.f149.name, by decide, Try.func149.trans (congrArg some (by kernel_rfl))⟩
  f15 := Try.func131.trans (congrArg some (by kernel_rfl))
  f20 := ⟨Try.f156.name, by decide, Try.func156.trans (congrArg some (by kernel_rfl))⟩
  f21 := ⟨Try.f157.name, by decide, Try.func157.trans (congrArg some (by kernel_rfl))⟩
  f22 := ⟨Try.f158.name, by decide, Try.func158.trans (congrArg some (by kernel_rfl))⟩
  f23 := ⟨Try.f159.name, by decide, Try.func159.trans (congrArg some (by kernel_rfl))⟩
  f24 := ⟨Try.f160.name, by decide, Try.func160.trans (congrArg some (by kernel_rfl))⟩
  f25 := ⟨Try.f161.name, by decide, Try.func161.trans (congrArg some (by kernel_rfl))⟩
  f26 := ⟨Try.f162.name, by decide, Try.func162.trans (congrArg some (by kernel_rfl))⟩
  f27 := ⟨Try.f163.name, by decide, Try.func163.trans (congrArg some (by kernel_rfl))⟩
  f28 := Try.func146.trans (congrArg some (by kernel_rfl))
  f29 := Try.func147.trans (congrArg some (by kernel_rfl))
  f46 := ⟨Try.f165.name, by decide, Try.func165.trans (congrArg some (by kernel_rfl))⟩
  f47 := Try.func151.trans (congrArg some (by kernel_rfl))
  f48 := Try.func152.trans (congrArg some (by kernel_rfl))
  f49 := ⟨Try.f166.name, by decide, Try.func166.trans (congrArg some (by kernel_rfl))⟩
  f50 := ⟨Try.f167.name, by decide, Try.func167.trans (congrArg some (by kernel_rfl))⟩
  f57 := ⟨Try.f168.name, by decide, Try.func168.trans (congrArg some (by kernel_rfl))⟩
  t0 := Try.underlying0
  a0 := Try.isAgg0
  z0 := Try.sizeOf0
  v0 := Try.zeroValue0
  t3 := Try.underlying3
  a3 := Try.isAgg3
  z3 := Try.sizeOf3
  v3 := Try.zeroValue3
  t4 := Try.underlying4
  a4 := Try.isAgg4
  z4 := Try.sizeOf4
  v4 := Try.zeroValue4
  t5 := Try.underlying5
  a5 := Try.isAgg5
  z5 := Try.sizeOf5
  v5 := Try.zeroValue5
  t9 := Try.underlying9
  a9 := Try.isAgg9
  z9 := Try.sizeOf9
  v9 := Try.zeroValue9
  t22 := Try.underlying145
  a22 := Try.isAgg145
  z22 := Try.sizeOf145
  v22 := Try.zeroValue145
  t25 := Try.underlying168
  a25 := Try.isAgg168
  z25 := Try.sizeOf168
  v25 := Try.zeroValue168
  t39 := Try.underlying169
  a39 := Try.isAgg169
  z39 := Try.sizeOf169
  v39 := Try.zeroValue169
  t45 := Try.underlying183
  a45 := Try.isAgg183
  z45 := Try.sizeOf183
  v45 := Try.zeroValue183
  t46 := Try.underlying184
  a46 := Try.isAgg184
  z46 := Try.sizeOf184
  v46 := Try.zeroValue184
  t50 := Try.underlying188
  a50 := Try.isAgg188
  z50 := Try.sizeOf188
  v50 := Try.zeroValue188
  t53 := Try.underlying22
  a53 := Try.isAgg22
  z53 := Try.sizeOf22
  v53 := Try.zeroValue22
  t55 := Try.underlying30
  a55 := Try.isAgg30
  z55 := Try.sizeOf30
  v55 := Try.zeroValue30
  t66 := Try.underlying193
  a66 := Try.isAgg193
  z66 := Try.sizeOf193
  v66 := Try.zeroValue193
  t70 := Try.underlying196
  a70 := Try.isAgg196
  z70 := Try.sizeOf196
  v70 := Try.zeroValue196
  t76 := Try.underlying203
  a76 := Try.isAgg203
  z76 := Try.sizeOf203
  v76 := Try.zeroValue203
  t77 := Try.underlying77
  a77 := Try.isAgg77
  z77 := Try.sizeOf77
  v77 := Try.zeroValue77 }
end Go.Proofs
