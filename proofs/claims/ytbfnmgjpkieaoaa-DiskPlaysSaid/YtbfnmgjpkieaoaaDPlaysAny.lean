/-
  DiskPlays, whatever the arguments hold.
-/
import Derived.Test.YtbfnmgjpkieaoaaDPlaysEarly
import Derived.Test.YtbfnmgjpkieaoaaDPlaysWalk
namespace Go.Proofs.Ytbfnmgjpkieaoaa.Pl
open Go Go.RowKit Go.Maps Go.Sort Go.Proofs

theorem disk_plays {w : World} {n z : Int} {v : Value} (hA : ∃ l, Acts w v l) : Calls Try.prog 8 #[.int .i64 n, .int .i64 z, v] w (TruePost w) := by
  obtain ⟨l, hA⟩ := hA
  have hA' := hA
  obtain ⟨A, c, rfl, -⟩ := hA'
  by_cases h : 80 < l.length ∨ (64 < n ∧ n ≤ 16384) ∨ (256 < z ∧ z ≤ 1024)
  · exact plays_early h w
  cases hb : rightZ n z with
  | false => exact plays_bad h hb w
  | true =>
    unfold rightZ at hb
    simp at hb
    obtain ⟨a, rfl⟩ : ∃ a : Nat, n = a := ⟨n.toNat, by omega⟩
    obtain ⟨b, rfl⟩ : ∃ b : Nat, z = b := ⟨z.toNat, by omega⟩
    exact plays_ok hA (by omega) (by omega) (by omega)
end Go.Proofs.Ytbfnmgjpkieaoaa.Pl
