/-
  A name's text: table.Fix, refused.
-/
import Derived.Test.YtbfnmgjpkieaoaaTabWords
namespace Go.Proofs.Ytbfnmgjpkieaoaa.Tb
open Go Go.RowKit Go.Maps Go.Sort Go.Proofs

def FixPost (w : World) (n : List Int) (r : Int) (e : Ending) (w' : World) : Prop := e = .returned (.tuple #[encN n, .int .i64 r]) ∧ Moves (fun _ => False) w w'
theorem has_nul (s : ByteArray) (w : World) : Calls Try.prog 72 #[.string s, .string ⟨#[0]⟩] w fun e w' => e = .returned (.bool (decide (0 ≤ Lib.indexByte s.data.toList 0))) ∧ w' = w :=
  Any.strings_Contains_one { Try.lContains with } s 0 w
set_option maxRecDepth 100000 in
set_option maxHeartbeats 2000000 in
theorem fix_short {s : ByteArray} (h : s.size < 1) (w : World) : Calls Try.prog 43 #[.string s] w (FixPost w (List.replicate 32 0) 4) := by
  have h1 : (s.size : Int) < 1 := by omega
  clear h
  go_enter Try.func43, Try.ntmps43
  go_wp2_with (first
    | (refine wpList_store_mid rfl 77 (.tmp 2) (.tmp 17) rfl w.heap.size 0 (cellsN (List.replicate 32 0)).toArray rfl rfl (there_of ((Below.heap_alloc _ _ _ (by simp)).trans (heap_alloc_new w _))) sizeN (oneN _) ?_)
    | fail)
  (try simp only [Exit.inBlock, Exit.then])
  refine bodyPost_ret (results_name rfl _ _ w.heap.size (n := List.replicate 32 0) (by simp) rfl (World.rangeAt_setCells_same _ _ _ _ (by exact there_of ((Below.heap_alloc _ _ _ (by simp)).trans (heap_alloc_new w _))))) rfl ?_
  exact ⟨rfl, moves_setCells (fun h => absurd h (Nat.lt_irrefl _)) _ _ _ (((Moves.refl _ w).alloc _).alloc _)⟩
set_option maxRecDepth 100000 in
set_option maxHeartbeats 2000000 in
theorem fix_long {s : ByteArray} (h : 32 < s.size) (w : World) : Calls Try.prog 43 #[.string s] w (FixPost w (List.replicate 32 0) 4) := by
  have h1 : ¬ (s.size : Int) < 1 := by omega
  have h2 : (32 : Int) < (s.size : Int) := by omega
  clear h
  go_enter Try.func43, Try.ntmps43
  go_wp2_with (first
    | (refine wpList_store_mid rfl 77 (.tmp 2) (.tmp 17) rfl w.heap.size 0 (cellsN (List.replicate 32 0)).toArray rfl rfl (there_of ((Below.heap_alloc _ _ _ (by simp)).trans (heap_alloc_new w _))) sizeN (oneN _) ?_)
    | fail)
  (try simp only [Exit.inBlock, Exit.then])
  refine bodyPost_ret (results_name rfl _ _ w.heap.size (n := List.replicate 32 0) (by simp) rfl (World.rangeAt_setCells_same _ _ _ _ (by exact there_of ((Below.heap_alloc _ _ _ (by simp)).trans (heap_alloc_new w _))))) rfl ?_
  exact ⟨rfl, moves_setCells (fun h => absurd h (Nat.lt_irrefl _)) _ _ _ (((Moves.refl _ w).alloc _).alloc _)⟩
set_option maxRecDepth 100000 in
set_option maxHeartbeats 2000000 in
theorem fix_nul {s : ByteArray} (h : 1 ≤ s.size ∧ s.size ≤ 32) (hz : 0 ≤ Lib.indexByte s.data.toList 0) (w : World) : Calls Try.prog 43 #[.string s] w (FixPost w (List.replicate 32 0) 4) := by
  have h1 : ¬ (s.size : Int) < 1 := by omega
  have h2 : ¬ (32 : Int) < (s.size : Int) := by omega
  have HC := Lib.hid (has_nul s ((w.alloc (.cells (cellsN (List.replicate 32 0)).toArray 77)).alloc (.cells (cellsN (List.replicate 32 0)).toArray 77)))
  rw [decide_eq_true hz] at HC
  clear h hz
  go_enter Try.func43, Try.ntmps43
  go_wp2_with (first
    | (refine wpList_store_mid rfl 77 (.tmp 2) (.tmp 17) rfl w.heap.size 0 (cellsN (List.replicate 32 0)).toArray rfl rfl (there_of ((Below.heap_alloc _ _ _ (by simp)).trans (heap_alloc_new w _))) sizeN (oneN _) ?_)
    | (go_at_call 72
       refine HC.out.mono ?_
       rintro e w1 ⟨rfl, rfl⟩)
    | fail)
  (try simp only [Exit.inBlock, Exit.then])
  refine bodyPost_ret (results_name rfl _ _ w.heap.size (n := List.replicate 32 0) (by simp) rfl (World.rangeAt_setCells_same _ _ _ _ (by exact there_of ((Below.heap_alloc _ _ _ (by simp)).trans (heap_alloc_new w _))))) rfl ?_
  exact ⟨rfl, moves_setCells (fun h => absurd h (Nat.lt_irrefl _)) _ _ _ (((Moves.refl _ w).alloc _).alloc _)⟩
end Go.Proofs.Ytbfnmgjpkieaoaa.Tb
