/-
  A name's text: (table.Name).String.
-/
import Derived.Test.YtbfnmgjpkieaoaaTabFixOk
import Derived.Laws.BytesArg
namespace Go.Proofs.Ytbfnmgjpkieaoaa.Tb
open Go Go.RowKit Go.Maps Go.Sort Go.Proofs

theorem conv_name {w : World} {b : Nat} {n : List Int} (hn : n.length = 32) (hr : w.rangeAt b 0 (cellsN n)) : (convert 29 9 (.slice (some ⟨b, 0, none⟩) 32 32)).run Try.prog w = .ok (.string (strOfNums n)) w := by
  have hcell : ∀ i, i < n.length → w.cell? ⟨b, 0 + i, none⟩ = some (.int .u8 (n.getD i 0)) := fun i hi => hr i _ (by
    unfold cellsN
    rw [List.getElem?_map, List.getElem?_eq_getElem hi, List.getD_eq_getElem?_getD, List.getElem?_eq_getElem hi]; rfl)
  have h := run_convert_bytes_arg w _ 5 Try.underlying29 Try.underlying5 b 0 n.length n.length n rfl hcell _ Try.underlying9
  rw [hn] at h
  exact h
/-- What a name reads as. -/
def textOf (n : List Int) : ByteArray := ⟨(Lib.cut (strOfNums n).data.toList [0]).1.toArray⟩
set_option maxRecDepth 100000 in
set_option maxHeartbeats 2000000 in
theorem string_any {n : List Int} (hn : n.length = 32) {m : Int} (w : World) (hm : w.cell? ⟨0, 0, none⟩ = some (.int .i64 m)) : Calls Try.prog 45 #[encN n] w fun e w' => e = .returned (.string (textOf n)) ∧ Moves (fun _ => False) w w' := by
  have hlt : 0 < w.heap.size := World.block_lt_of_cell? w _ hm
  have hb : (w.alloc (.cells (cellsN n).toArray 77)).heap[w.heap.size]? = some (.cells (cellsN n).toArray 77 (0, 0)) := heap_alloc_new _ _
  have hr : (w.alloc (.cells (cellsN n).toArray 77)).rangeAt w.heap.size 0 (cellsN n) := fun j v hv => by
    simp only [World.cell?, hb, Nat.zero_add, Option.isSome_none, Bool.false_eq_true, if_false]
    rw [← Array.getElem?_toList]
    exact hv
  have hcv := conv_name hn hr
  have hsz : (strOfNums n).size < 4294967281 := by rw [strOfNums_size, hn]; omega
  have HC := Lib.hid (Any.strings_Cut { Try.lCut with } (strOfNums n) ⟨#[0]⟩ m (w.alloc (.cells (cellsN n).toArray 77)) hsz ((World.cell?_alloc_lt _ _ _ hlt).trans hm))
  clear hb hr hm hsz hn
  show Calls Try.prog 45 #[.agg (cellsN n).toArray] w _
  go_enter Try.func45, Try.ntmps45
  go_wp2_with (first
    | (go_at_call 73
       refine HC.out.mono ?_
       rintro e w1 ⟨rfl, k, rfl⟩)
    | fail)
  go_ret
  exact ⟨rfl, ((Moves.refl _ w).alloc _).drewN k⟩
end Go.Proofs.Ytbfnmgjpkieaoaa.Tb
