/-
  A new cache: empty frames.
-/
import Derived.Test.YtbfnmgjpkieaoaaCGet
import Derived.Deep.OwnRows
namespace Go.Proofs.Ytbfnmgjpkieaoaa
open Go Go.RowKit Go.Maps Go.Sort Go.Proofs

theorem infoF : (Try.prog.info? 124).map (fun i => (i.zero, i.size, i.bytes)) = some (some (.agg #[.int .i64 0, .int .i64 0, .slice none 0 0, .bool false, .bool false, .bool false, .int .i64 0]), 7, 56) := by kernel_rfl
def NewC (w : World) (n : Nat) (e : Ending) (w' : World) : Prop := ∃ p lb m, e = .returned (.tuple #[.pointer (some ⟨p, 0, none⟩), .int .i64 0]) ∧ IsCache w' w.heap.size p lb m (List.replicate n zeroF) 0 ∧ Moves (fun _ => False) w w'

theorem flat_len {dvs : List Value} {fs : List FrS} (hl : dvs.length = fs.length) : (flat dvs fs).length = fs.length * 7 := by
  induction fs generalizing dvs with
  | nil => cases dvs <;> simp [flat]
  | cons f fs ih =>
    cases dvs with
    | nil => simp at hl
    | cons dv dvs =>
      simp only [flat, List.length_append, List.length_cons, ih (by simpa using hl)]
      simp [fcells]
      omega
theorem made_frames (n : Nat) : (madeCells #[.int .i64 0, .int .i64 0, .slice none 0 0, .bool false, .bool false, .bool false, .int .i64 0] (n * 7)).toList = flat (List.replicate n (.slice none 0 0)) (List.replicate n zeroF) := by
  have hl : (List.replicate n (Value.slice none 0 0)).length = (List.replicate n zeroF).length := by simp
  apply List.ext_getElem?
  intro j
  by_cases hj : j < n * 7
  · have e : j = j / 7 * 7 + j % 7 := by omega
    have h1 := flat_get hl (i := j / 7) (by simp; omega) (r := j % 7) (by omega)
    rw [← e] at h1
    rw [h1]
    simp only [madeCells, List.getElem_replicate]
    rw [Array.getElem?_toList, Array.getElem?_map]
    have h2 : (Array.range (n * 7))[j]? = some j := by simp [hj]
    rw [h2]
    have h3 : j % 7 = 0 ∨ j % 7 = 1 ∨ j % 7 = 2 ∨ j % 7 = 3 ∨ j % 7 = 4 ∨ j % 7 = 5 ∨ j % 7 = 6 := by omega
    simp only [Option.map_some, List.size_toArray, List.length_cons, List.length_nil, Nat.reduceAdd]
    rcases h3 with h | h | h | h | h | h | h <;> rw [h] <;> rfl
  · rw [List.getElem?_eq_none (by rw [Array.length_toList, size_madeCells]; omega), List.getElem?_eq_none (by rw [flat_len hl]; simp; omega)]

set_option maxRecDepth 100000 in
set_option maxHeartbeats 2000000 in
theorem new_c {n : Nat} (hn : 1 ≤ n ∧ n ≤ 64) (w : World) : Calls Try.prog 26 #[.int .i64 n] w (NewC w n) := by
  obtain ⟨i5, hi5, hp0, hp1, hp2⟩ := info_parts infoF
  have hmm := @run_makeMap Try.prog
  have hmk : ∀ W, (Instr.makeSlice 117 (.int .i64 n) (.int .i64 n)).run Try.prog W = .ok (.slice (some ⟨W.heap.size, 0, none⟩) n n) (W.alloc (.cells (madeCells #[.int .i64 0, .int .i64 0, .slice none 0 0, .bool false, .bool false, .bool false, .int .i64 0] (n * 7)) 124)) := fun W => by
    have hr := run_make (P := Try.prog) W 117 124 i5 _ Try.underlying117 hi5 hp0 .i64 .i64 n n (by omega) (Int.le_refl _) (by rw [hp2]; omega) (by omega)
    simp only [Int.toNat_natCast, hp1] at hr
    exact hr
  have b0 : ¬ (n : Int) < 1 := by omega
  have b1 : ¬ (64 : Int) < (n : Int) := by omega
  go_enter Try.func26, Try.ntmps26
  go_wp2
  go_ret2
  have h0 := heap_alloc_new w (.cells (madeCells #[.int .i64 0, .int .i64 0, .slice none 0 0, .bool false, .bool false, .bool false, .int .i64 0] (n * 7)) 124)
  generalize hw1 : w.alloc (.cells (madeCells #[.int .i64 0, .int .i64 0, .slice none 0 0, .bool false, .bool false, .bool false, .int .i64 0] (n * 7)) 124) = w1 at h0 ⊢
  have hs1 : w1.heap.size = w.heap.size + 1 := by rw [← hw1]; simp
  have hm1 : Moves (fun _ => False) w w1 := by rw [← hw1]; exact (Moves.refl _ w).alloc _
  have h2 := heap_alloc2_new w1 (.map #[] 0) (.cells #[.slice (some ⟨w.heap.size, 0, none⟩) n n, .map (some (w.heap.size + 1)), .int .i64 0] 120)
  have hmap := (World.ownsMap_made (H := Unit) w1 Try.prog 43 RI).alloc (.cells #[.slice (some ⟨w.heap.size, 0, none⟩) n n, .map (some (w.heap.size + 1)), .int .i64 0] 120)
  have hfb : ((w1.alloc (.map #[] 0)).alloc (.cells #[.slice (some ⟨w.heap.size, 0, none⟩) n n, .map (some (w.heap.size + 1)), .int .i64 0] 120)).heap[w.heap.size]? = _ := ((Below.heap_alloc _ _ _ (by simp; omega)).trans (Below.heap_alloc _ _ _ (by omega))).trans h0
  rw [hs1] at h2 hmap
  refine ⟨w.heap.size + 1 + 1, w.heap.size, w.heap.size + 1, rfl, ⟨.map [], List.replicate n (.slice none 0 0), ?_, by omega, ⟨_, hfb, made_frames n⟩, Nat.le_refl _, by simp, fun i hi hi' => ?_, hmap, IOf.nil n, by omega, by simp; omega, fun f hf => ?_, by simp; omega⟩, (hm1.alloc _).alloc _⟩
  · rw [List.length_replicate]
    exact h2
  · simp only [List.getElem_replicate]
    exact World.ownsRow_nil _ _ _ _
  · have := List.eq_of_mem_replicate hf
    subst this
    simp [zeroF]
end Go.Proofs.Ytbfnmgjpkieaoaa
