/-
  Bytes as a disk, refused.
-/
import Derived.Test.YtbfnmgjpkieaoaaChunk
namespace Go.Proofs.Ytbfnmgjpkieaoaa.Pl
open Go Go.RowKit Go.Maps Go.Sort Go.Proofs

set_option maxRecDepth 100000 in
set_option maxHeartbeats 2000000 in
theorem of_bad {N : Nat} {z : Int} (hb : z < 64 ∨ 1024 < z ∨ (N : Int) % z ≠ 0 ∨ N = 0) (hN : N ≤ 4000) (A : Option Addr) (c : Nat) (w : World) : Calls Try.prog 41 #[.slice A N c, .int .i64 z] w (SameP w (.tuple #[.pointer none, .int .i64 1])) := by
  by_cases h1 : z < 64
  · clear hb
    go_enter Try.func41, Try.ntmps41
    go_wp2
    go_ret2
    exact ⟨rfl, rfl⟩
  by_cases h2 : 1024 < z
  · clear hb
    go_enter Try.func41, Try.ntmps41
    go_wp2
    go_ret2
    exact ⟨rfl, rfl⟩
  obtain ⟨y, rfl⟩ : ∃ y : Nat, z = y := ⟨z.toNat, by omega⟩
  have hy0 : ¬ (y : Int) = 0 := by omega
  by_cases h3 : N % y = 0
  · obtain rfl : N = 0 := by
      rcases hb with h | h | h | h
      · omega
      · omega
      · exact absurd (by exact_mod_cast h3) h
      · exact h
    have HRT := Lib.hid (right_any (n := 0) (z := y) (b := false) (by unfold rightZ; simp) w)
    have t1 : Int.tmod (0 : Int) (y : Int) = 0 := by simp
    have t2 : Int.tdiv (0 : Int) (y : Int) = 0 := by simp
    clear hb h3
    go_enter Try.func41, Try.ntmps41
    go_wp2_with fail
    refine HRT.out.mono ?_
    rintro e w1 ⟨rfl, rfl⟩
    go_wp2
    go_ret2
    exact ⟨rfl, rfl⟩
  · have t1 : Int.tmod (N : Int) (y : Int) = ((N % y : Nat) : Int) := by rw [Int.tmod_eq_emod_of_nonneg (by omega)]; rfl
    have t3 : ¬ ((N % y : Nat) : Int) = 0 := by omega
    clear hb
    go_enter Try.func41, Try.ntmps41
    go_wp2
    go_ret2
    exact ⟨rfl, rfl⟩
end Go.Proofs.Ytbfnmgjpkieaoaa.Pl
