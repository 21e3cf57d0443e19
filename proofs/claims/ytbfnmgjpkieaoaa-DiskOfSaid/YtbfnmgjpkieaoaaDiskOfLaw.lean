/-
  DiskOf's ways out ahead of a disk; what its loop adds up.
-/
import Derived.Test.YtbfnmgjpkieaoaaDiskOfWalk
import Derived.Test.YtbfnmgjpkieaoaaDPlayHead
import Derived.Test.YtbfnmgjpkieaoaaDiskBytes
namespace Go.Proofs.Ytbfnmgjpkieaoaa.Pl
open Go Go.RowKit Go.Maps Go.Sort Go.Proofs

/-- The sectors. -/
def secsOf (xs : List Int) (z k : Nat) : List (List Int) := (List.finRange k).map fun x => ch xs z x.val
theorem secs_len (xs : List Int) (z k : Nat) : (secsOf xs z k).length = k := by simp [secsOf]
theorem secs_get {xs : List Int} {z k i : Nat} (h : i < (secsOf xs z k).length) : (secsOf xs z k)[i] = ch xs z i := by simp [secsOf]
theorem secs_take {xs : List Int} {z k : Nat} : ∀ i, i ≤ k → ((secsOf xs z k).take i).flatten = xs.take (i * z) := by
  intro i
  induction i with
  | zero => intro _; simp
  | succ i ih =>
    intro h
    rw [flat_succ (by rw [secs_len]; omega), ih (by omega), secs_get, Nat.succ_mul, List.take_add]
    rfl
theorem secs_flat {xs : List Int} {z k : Nat} (h : xs.length = k * z) : (secsOf xs z k).flatten = xs := by
  have h1 := secs_take (xs := xs) (z := z) (k := k) k (Nat.le_refl _)
  rw [List.take_of_length_le (by rw [secs_len]; exact Nat.le_refl _), ← h, List.take_length] at h1
  exact h1

set_option maxRecDepth 100000 in
set_option maxHeartbeats 4000000 in
theorem of_long {N : Nat} {A : Option Addr} {c : Nat} {z : Int} (h : 4000 < N) (w : World) : Calls Try.prog 9 #[.slice A N c, .int .i64 z] w (TruePost w) := by
  have HK := Lib.hid (known_any w)
  have e1 : (4000 : Int) < (N : Int) := by omega
  clear h
  go_enter Try.func9, Try.ntmps9
  go_wp2_with fail
  refine HK.out.mono ?_
  rintro e w1 ⟨rfl, hM⟩
  go_wp2
  go_ret
  exact ⟨rfl, hM⟩
set_option maxRecDepth 100000 in
set_option maxHeartbeats 8000000 in
theorem of_refused {N : Nat} {A : Option Addr} {c : Nat} {z : Int} (h : N ≤ 4000) (hb : z < 64 ∨ 1024 < z ∨ (N : Int) % z ≠ 0 ∨ N = 0) (w : World) : Calls Try.prog 9 #[.slice A N c, .int .i64 z] w (TruePost w) := by
  have HK := Lib.hid (known_any w)
  have HB := Lib.hid (fun W => of_bad hb h A c W)
  have e1 : ¬ (4000 : Int) < (N : Int) := by omega
  by_cases h1 : z < 64
  · have e2 : ¬ 64 ≤ z := by omega
    clear hb h
    go_enter Try.func9, Try.ntmps9
    go_wp2_with fail
    refine HK.out.mono ?_
    rintro e w1 ⟨rfl, hM⟩
    go_wp2_with fail
    refine (HB.out w1).mono ?_
    rintro e w2 ⟨rfl, rfl⟩
    go_wp2
    go_ret
    exact ⟨rfl, hM⟩
  have e2 : 64 ≤ z := by omega
  by_cases h2 : 1024 < z
  · have e3 : (!decide (z ≤ 1024)) = true := by simp; omega
    have e4 : decide (z ≤ 1024) = false := by simp; omega
    clear hb h
    go_enter Try.func9, Try.ntmps9
    go_wp2_with fail
    refine HK.out.mono ?_
    rintro e w1 ⟨rfl, hM⟩
    go_wp2_with fail
    refine (HB.out w1).mono ?_
    rintro e w2 ⟨rfl, rfl⟩
    go_wp2
    all_goals first
      | (exfalso; omega)
      | (have hq : ¬ ((!decide (z ≤ 1024)) = false) := by simp; omega
         exact absurd (by assumption) hq)
      | (go_ret; exact ⟨rfl, hM⟩)
  obtain ⟨y, rfl⟩ : ∃ y : Nat, z = y := ⟨z.toNat, by omega⟩
  have e3 : (y : Int) ≤ 1024 := by omega
  have hy0 : ¬ (y : Int) = 0 := by omega
  by_cases h0 : N = 0
  · subst h0
    clear hb h
    go_enter Try.func9, Try.ntmps9
    go_wp2_with fail
    refine HK.out.mono ?_
    rintro e w1 ⟨rfl, hM⟩
    go_wp2_with fail
    refine (HB.out w1).mono ?_
    rintro e w2 ⟨rfl, rfl⟩
    go_wp2
    go_ret
    exact ⟨rfl, hM⟩
  · have hr : ¬ (N : Int) % (y : Int) = 0 := by
      rcases hb with h | h | h | h
      · omega
      · omega
      · exact h
      · exact absurd h h0
    have t1 : Int.tmod (N : Int) (y : Int) = ((N % y : Nat) : Int) := by rw [Int.tmod_eq_emod_of_nonneg (by omega)]; rfl
    have t3 : ¬ ((N % y : Nat) : Int) = 0 := by omega
    have e5 : (0 : Int) < (N : Int) := by omega
    clear hb h hr
    go_enter Try.func9, Try.ntmps9
    go_wp2_with fail
    refine HK.out.mono ?_
    rintro e w1 ⟨rfl, hM⟩
    go_wp2_with fail
    refine (HB.out w1).mono ?_
    rintro e w2 ⟨rfl, rfl⟩
    go_wp2
    all_goals first
      | (go_ret; exact ⟨rfl, hM⟩)
      | trace_state
end Go.Proofs.Ytbfnmgjpkieaoaa.Pl
