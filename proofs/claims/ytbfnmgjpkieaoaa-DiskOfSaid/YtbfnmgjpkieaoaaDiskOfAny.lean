/-
  DiskOf, whatever the arguments hold.
-/
import Derived.Test.YtbfnmgjpkieaoaaDiskOfLawOk
namespace Go.Proofs.Ytbfnmgjpkieaoaa.Pl
open Go Go.RowKit Go.Maps Go.Sort Go.Proofs

theorem disk_of (w : World) {v : Value} {xs : List Int} {L : Nat → Prop} {z : Int} (r : Row w L v (xs.map (Value.int .u8))) : Calls Try.prog 9 #[v, .int .i64 z] w (TruePost w) := by
  obtain ⟨A, c, rfl, hc, hx⟩ := r
  rw [List.length_map] at hc hx ⊢
  by_cases h1 : 4000 < xs.length
  · exact of_long h1 w
  by_cases h2 : z < 64 ∨ 1024 < z ∨ (xs.length : Int) % z ≠ 0 ∨ xs.length = 0
  · exact of_refused (by omega) h2 w
  have a1 : ¬ z < 64 := fun h => h2 (.inl h)
  have a2 : ¬ 1024 < z := fun h => h2 (.inr (.inl h))
  have a4 : ¬ xs.length = 0 := fun h => h2 (.inr (.inr (.inr h)))
  obtain ⟨y, rfl⟩ : ∃ y : Nat, z = y := ⟨z.toNat, by omega⟩
  have a3 : xs.length % y = 0 := by
    by_cases h : xs.length % y = 0
    · exact h
    · exact absurd (.inr (.inr (.inl (fun e => h (by exact_mod_cast e))))) h2
  obtain ⟨g, o, rfl, -, hg, hcell⟩ := hx (by omega)
  have hN : xs.length = xs.length / y * y := (Nat.div_mul_cancel (Nat.dvd_of_mod_eq_zero a3)).symm
  generalize hk : xs.length / y = k at hN
  have hk1 : 1 ≤ k := by
    rcases Nat.eq_zero_or_pos k with h | h
    · rw [h] at hN; omega
    · exact h
  have hk2 : k ≤ 62 := by
    have h1 : k * 64 ≤ k * y := Nat.mul_le_mul_left k (by omega)
    omega
  exact of_law_ok hN rfl ⟨hk1, hk2⟩ (by omega) (by omega) hc hg hcell
end Go.Proofs.Ytbfnmgjpkieaoaa.Pl
