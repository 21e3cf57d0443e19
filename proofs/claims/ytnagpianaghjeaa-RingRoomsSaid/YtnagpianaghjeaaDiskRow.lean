/-
  The disk's row: the pending writes in their order.
-/
import Derived.Test.YtnagpianaghjeaaDiskWords
namespace Go.Proofs.Ytnagpianaghjeaa.Pl
open Go Go.RowKit Go.Maps Go.Sort Go.Proofs Go.Shelf

def RowPost (w : World) (ss : List Int) (e : Ending) (w' : World) : Prop :=
  ∃ A c, e = .returned (.slice A ss.length c) ∧ w'.ownsRow w.heap.size 144 2 (.slice A ss.length c) ss.length (cellsP ((List.range ss.length).map (fP (sF ss)))) ∧ Moves (fun _ => False) w w'

set_option maxHeartbeats 1000000 in
theorem row_any {w : World} {base d : Nat} {S : DS} {kv : Value} {kvs : List Value} {m : Nat} {D : DataW Value} {pvs : List Value} {kpv : Value} (h : DiskAt w base d S kv kvs m D pvs kpv) : Calls Try.prog 101 #[.pointer (some ⟨d, 0, none⟩)] w (RowPost w S.secs) := by
  have hfew := h.few.1
  have c2 : w.cell? ⟨d, 2, none⟩ = some (.map (some m)) := by simp [World.cell?, h.blk]
  have hseq := keysK_gives Fence.wide 2 trivial rfl (by omega) w.heap.size m _ D h.pend (w.alloc (.cells #[.map (some m)] 103)) (by simp) (by simp) (h.map.alloc _)
  rw [pl_fst] at hseq
  have hsz : Maps.size D ≤ 1000000 := by rw [h.pend.size, pl_len]; exact hfew
  refine (callsIn_wide (n := 6)).1 ?_
  have cK := fun W => keysK_make Fence.wide 5 trivial rfl (some m) W
  have cS := sortedFuncP (n := S.secs.length) (s := sF S.secs) rfl 135 #[.pointer (some ⟨w.heap.size, 0, none⟩)] (enters_of Try.func135 (by kernel_rfl) rfl) hsz hfew _ hseq
  have hfK : Fence.wide.fn 122 := trivial
  have hfS : Fence.wide.fn 121 := trivial
  clear hseq h
  refine callsIn_of_wp Try.func101 rfl trivial ?_ rfl
  simp only [Try.ntmps101, List.size_toArray, List.length_cons, List.length_nil, Nat.reduceAdd, Nat.reduceSub, Array.replicate_succ, Array.replicate_zero, List.push_toArray, List.append_toArray, List.nil_append, List.cons_append]
  gi_wp2_with (first
    | (gi_at_call 122; refine (cK _).mono ?_; rintro e w' ⟨rfl, rfl⟩)
    | (gi_at_call 121; refine cS.mono ?_; rintro e w1 ⟨A, c, rfl, hrow, hb⟩))
  go_ret
  refine ⟨A, c, rfl, own_weak (by simp) hrow, Moves.of_below (((Below.refl _ w).alloc (Nat.le_refl _) _).trans (hb.mono (by simp)))⟩
end Go.Proofs.Ytnagpianaghjeaa.Pl
