/-
  A name's text: table.Fix, refused.
-/
import Derived.Test.YtbfnmgjpkieaoaaLayTab
import Derived.Test.YtbfnmgjpkieaoaaKeyFuncs
import Derived.Test.YtbfnmgjpkieaoaaWords
import Derived.Laws.ResultCell
import Derived.Deep.MidRow
import Derived.Deep.WholeRow
import Derived.Deep.Cut
import Derived.ProofKit
namespace Go.Proofs.Ytbfnmgjpkieaoaa.Tb
open Go Go.RowKit Go.Maps Go.Sort Go.Proofs

/-- A name's cells, its value. -/
def cellsN (n : List Int) : List Value := n.map (Value.int .u8)
def encN (n : List Int) : Value := .agg (cellsN n).toArray
theorem sizeN : (Try.prog.info? 77).map (·.size) = some 32 := by kernel_rfl
theorem undN : Try.prog.underlying 77 = some (.array 32 5) := Try.underlying77
theorem oneN (n : List Int) : (cellsN n).toArray.all (·.oneCell') = true := all_oneCell_toArray (fun v hv => by obtain ⟨x, -, rfl⟩ := List.mem_map.1 hv; rfl)
theorem there_of {w : World} {b : Nat} {Z : Array Value} {t : TypeId} (h : w.heap[b]? = some (.cells Z t (0, 0))) : w.there b 0 Z.size := fun j hj => by
  refine ⟨?_, by simp [World.frozen?, h]⟩
  simp only [World.cell?, h, Nat.zero_add, Option.isSome_none, Bool.false_eq_true, if_false]
  rw [Array.getElem?_eq_getElem hj]
  rfl
/-- The store of a name into a variable of its own. -/
theorem store_name {w : World} {b : Nat} {Z : Array Value} (h : w.heap[b]? = some (.cells Z 77 (0, 0))) (hZ : Z.size = 32) {n : List Int} (hn : n.length = 32) :
    (Instr.storeAt 77 (.pointer (some ⟨b, 0, none⟩)) (encN n)).run Try.prog w = .ok () (w.setCells b 0 (cellsN n)) := by
  have hs : (cellsN n).toArray.size = 32 := by simp [cellsN, hn]
  have := run_storeAt_mid (P := Try.prog) w b 0 77 (cellsN n).toArray (by rw [hs, ← hZ]; exact there_of h) (by rw [hs]; exact sizeN) (oneN n)
  simpa [encN] using this
theorem load_name {w : World} {b : Nat} {n : List Int} (hn : n.length = 32) (h : w.rangeAt b 0 (cellsN n)) :
    (loadVar 77 ⟨b, 0, none⟩).run Try.prog w = .ok (encN n) w := by
  have hs : (cellsN n).length = 32 := by simp [cellsN, hn]
  have := run_loadVar_mid (P := Try.prog) w b 0 77 (cellsN n) _ h undN rfl (by rw [hs]; exact sizeN)
  simpa [encN] using this
theorem results_name {fn : Func} {p u : Tmp} (h : fn.results = #[.cell p 77, .tmp u]) (tmps : Array Value) (w : World) (b : Nat) {n : List Int} (hn : n.length = 32) (hp : tmps.getD p undef = .pointer (some ⟨b, 0, none⟩)) (hr : w.rangeAt b 0 (cellsN n)) :
    (results fn tmps).run Try.prog w = .ok (.tuple #[encN n, tmps.getD u undef]) w := by
  have hp' : tmps[p]?.getD undef = .pointer (some ⟨b, 0, none⟩) := by simpa using hp
  rw [results_cell_tmp h]
  simp [hp', asAddr, load_name hn hr, Result.andThen]
theorem moves_setCells {S : Nat → Prop} {w : World} {b : Nat} (hb : b < w.heap.size → S b) : ∀ (vs : List Value) (w' : World) (o : Nat), Moves S w w' → Moves S w (w'.setCells b o vs)
  | [], _, _, h => h
  | v :: vs, _, o, h => moves_setCells hb vs _ (o + 1) (h.setCell (p := ⟨b, o, none⟩) hb v)
end Go.Proofs.Ytbfnmgjpkieaoaa.Tb
