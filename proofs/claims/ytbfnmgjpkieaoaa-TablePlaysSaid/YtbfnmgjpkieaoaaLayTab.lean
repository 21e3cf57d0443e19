/-
  DERIVED: THE SHELF's CONTRACTS AT THIS DUMP, IN PLAIN WORDS (tools/lay-plain.mjs out of 'YtbfnmgjpkieaoaaLayTab.lean', which tools/lay-shelf.mjs wrote): THE SAME DECLARATIONS UNDER THE SAME NAMES: 'import', 'namespace', 'open', 'def', 'theorem' AND NOTHING ELSE: no command of the shelf's: FOR A HAND-IN. Each laying: the table of numbers ('.._ren') and one theorem, a field a fact of the dump's own or the kernel's comparison; each contract: ONE APPLICATION.
-/
import Derived.Shelf.Strings.Shaped
import Derived.Test.YtbfnmgjpkieaoaaProg
namespace Go.Proofs
open Go.Shelf
def Try.lContains_ren : Go.Shelf.Ren := ⟨fun | 144 => 72 | 143 => 92 | 219 => 105 | 217 => 114 | 225 => 115 | 224 => 116 | 267 => 117 | 266 => 145 | 314 => 146 | n => n, fun | 9 => 9 | 4 => 4 | 3 => 3 | 5 => 5 | 46 => 169 | 146 => 199 | 51 => 185 | n => n, fun | 1 => 0 | n => n⟩
theorem Try.lContains : Go.Proofs.LaysM.n144 Try.prog Try.lContains_ren := {
  mixed := by kernel_rfl
  f143 := Try.func92.trans (congrArg some (by kernel_rfl))
  f144 := Try.func72.trans (congrArg some (by kernel_rfl))
  f217 := Try.func114.trans (congrArg some (by kernel_rfl))
  f219 := Try.func105.trans (congrArg some (by kernel_rfl))
  f224 := Try.func116.trans (congrArg some (by kernel_rfl))
  f225 := Try.func115.trans (congrArg some (by kernel_rfl))
  f266 := Try.func145.trans (congrArg some (by kernel_rfl))
  f267 := Try.func117.trans (congrArg some (by kernel_rfl))
  f314 := Try.func146.trans (congrArg some (by kernel_rfl))
  t3 := Try.underlying3
  a3 := Try.isAgg3
  z3 := Try.sizeOf3
  v3 := Try.zeroValue3
  t4 := Try.underlying4
  a4 := Try.isAgg4
  z4 := Try.sizeOf4
  v4 := Try.zeroValue4
  t5 := Try.underlying5
  a5 := Try.isAgg5
  z5 := Try.sizeOf5
  v5 := Try.zeroValue5
  t9 := Try.underlying9
  a9 := Try.isAgg9
  z9 := Try.sizeOf9
  v9 := Try.zeroValue9
  t46 := Try.underlying169
  a46 := Try.isAgg169
  z46 := Try.sizeOf169
  v46 := Try.zeroValue169
  t51 := Try.underlying185
  a51 := Try.isAgg185
  z51 := Try.sizeOf185
  v51 := Try.zeroValue185
  t146 := Try.underlying199
  a146 := Try.isAgg199
  z146 := Try.sizeOf199
  v146 := Try.zeroValue199
  g1 := by kernel_rfl
  i3 := by kernel_rfl
  i4 := by kernel_rfl
  i5 := by kernel_rfl
  i9 := by kernel_rfl
  i46 := by kernel_rfl
  i51 := by kernel_rfl
  i146 := by kernel_rfl
  m1 := by kernel_rfl
  s1_3 := fun w h => Go.Proofs.cell_of_shapedOpen_int (zero := #[.int .i64 0]) (t := 3) h (of_decide_eq_true (by kernel_rfl)) (by kernel_rfl) rfl (by kernel_rfl) (by kernel_rfl) Try.underlying3 }
def Try.lCut_ren : Go.Shelf.Ren := ⟨fun | 145 => 73 | 220 => 93 | 219 => 105 | 217 => 114 | 225 => 115 | 224 => 116 | 267 => 117 | 266 => 145 | 314 => 146 | n => n, fun | 9 => 9 | 4 => 4 | 59 => 136 | 3 => 3 | 5 => 5 | 46 => 169 | 146 => 199 | 51 => 185 | n => n, fun | 1 => 0 | n => n⟩
theorem Try.lCut : Go.Proofs.LaysM.n145 Try.prog Try.lCut_ren := {
  mixed := by kernel_rfl
  f145 := Try.func73.trans (congrArg some (by kernel_rfl))
  f217 := Try.func114.trans (congrArg some (by kernel_rfl))
  f219 := Try.func105.trans (congrArg some (by kernel_rfl))
  f220 := Try.func93.trans (congrArg some (by kernel_rfl))
  f224 := Try.func116.trans (congrArg some (by kernel_rfl))
  f225 := Try.func115.trans (congrArg some (by kernel_rfl))
  f266 := Try.func145.trans (congrArg some (by kernel_rfl))
  f267 := Try.func117.trans (congrArg some (by kernel_rfl))
  f314 := Try.func146.trans (congrArg some (by kernel_rfl))
  t3 := Try.underlying3
  a3 := Try.isAgg3
  z3 := Try.sizeOf3
  v3 := Try.zeroValue3
  t4 := Try.underlying4
  a4 := Try.isAgg4
  z4 := Try.sizeOf4
  v4 := Try.zeroValue4
  t5 := Try.underlying5
  a5 := Try.isAgg5
  z5 := Try.sizeOf5
  v5 := Try.zeroValue5
  t9 := Try.underlying9
  a9 := Try.isAgg9
  z9 := Try.sizeOf9
  v9 := Try.zeroValue9
  t46 := Try.underlying169
  a46 := Try.isAgg169
  z46 := Try.sizeOf169
  v46 := Try.zeroValue169
  t51 := Try.underlying185
  a51 := Try.isAgg185
  z51 := Try.sizeOf185
  v51 := Try.zeroValue185
  t59 := Try.underlying136
  a59 := Try.isAgg136
  z59 := Try.sizeOf136
  v59 := Try.zeroValue136
  t146 := Try.underlying199
  a146 := Try.isAgg199
  z146 := Try.sizeOf199
  v146 := Try.zeroValue199
  g1 := by kernel_rfl
  i3 := by kernel_rfl
  i4 := by kernel_rfl
  i5 := by kernel_rfl
  i9 := by kernel_rfl
  i46 := by kernel_rfl
  i51 := by kernel_rfl
  i59 := by kernel_rfl
  i146 := by kernel_rfl
  m1 := by kernel_rfl
  s1_3 := fun w h => Go.Proofs.cell_of_shapedOpen_int (zero := #[.int .i64 0]) (t := 3) h (of_decide_eq_true (by kernel_rfl)) (by kernel_rfl) rfl (by kernel_rfl) (by kernel_rfl) Try.underlying3 }
end Go.Proofs
