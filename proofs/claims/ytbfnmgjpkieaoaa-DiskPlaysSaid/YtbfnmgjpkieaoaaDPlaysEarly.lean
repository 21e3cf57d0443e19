/-
  DiskPlays' ways out ahead of the play.
-/
import Derived.Test.YtbfnmgjpkieaoaaDPlaysSw
namespace Go.Proofs.Ytbfnmgjpkieaoaa.Pl
open Go Go.RowKit Go.Maps Go.Sort Go.Proofs

set_option maxRecDepth 100000 in
set_option maxHeartbeats 4000000 in
theorem plays_early {n z : Int} {A : Option Addr} {k c : Nat} (h : 80 < k ∨ (64 < n ∧ n ≤ 16384) ∨ (256 < z ∧ z ≤ 1024)) (w : World) : Calls Try.prog 8 #[.int .i64 n, .int .i64 z, .slice A k c] w (TruePost w) := by
  have HK := Lib.hid (known_any w)
  by_cases h1 : 80 < k
  · have e1 : (80 : Int) < (k : Int) := by omega
    clear h
    go_enter Try.func8, Try.ntmps8
    go_wp2_with fail
    refine HK.out.mono ?_
    rintro e w1 ⟨rfl, hM⟩
    go_wp2
    go_ret
    exact ⟨rfl, hM⟩
  have e1 : ¬ (80 : Int) < (k : Int) := by omega
  by_cases h2 : 64 < n ∧ n ≤ 16384
  · obtain ⟨e2, e3⟩ := h2
    clear h
    go_enter Try.func8, Try.ntmps8
    go_wp2_with fail
    refine HK.out.mono ?_
    rintro e w1 ⟨rfl, hM⟩
    go_wp2
    go_ret
    exact ⟨rfl, hM⟩
  have h3 : 256 < z ∧ z ≤ 1024 := by
    rcases h with h | h | h
    · exact absurd h h1
    · exact absurd h h2
    · exact h
  obtain ⟨e4, e5⟩ := h3
  clear h
  by_cases e2 : 64 < n
  · have e3 : ¬ n ≤ 16384 := fun h => h2 ⟨e2, h⟩
    clear h2
    go_enter Try.func8, Try.ntmps8
    go_wp2_with fail
    refine HK.out.mono ?_
    rintro e w1 ⟨rfl, hM⟩
    go_wp2
    go_ret
    exact ⟨rfl, hM⟩
  · clear h2
    go_enter Try.func8, Try.ntmps8
    go_wp2_with fail
    refine HK.out.mono ?_
    rintro e w1 ⟨rfl, hM⟩
    go_wp2
    go_ret
    exact ⟨rfl, hM⟩

set_option maxRecDepth 100000 in
set_option maxHeartbeats 8000000 in
theorem plays_bad {n z : Int} {A : Option Addr} {k c : Nat} (h : ¬ (80 < k ∨ (64 < n ∧ n ≤ 16384) ∨ (256 < z ∧ z ≤ 1024))) (hb : rightZ n z = false) (w : World) : Calls Try.prog 8 #[.int .i64 n, .int .i64 z, .slice A k c] w (TruePost w) := by
  have HK := Lib.hid (known_any w)
  have e1 : ¬ (80 : Int) < (k : Int) := by omega
  have HB := Lib.hid (fun w => new_bad hb w)
  have hc : (n < 1 ∧ z ≤ 256) ∨ (n < 1 ∧ 1024 < z) ∨ ((1 ≤ n ∧ n ≤ 64) ∧ z < 64) ∨ ((1 ≤ n ∧ n ≤ 64) ∧ 1024 < z) ∨ (16384 < n ∧ z ≤ 256) ∨ (16384 < n ∧ 1024 < z) := by
    unfold rightZ at hb
    simp at hb
    omega
  clear h hb
  rcases hc with ⟨h1, h2⟩ | ⟨h1, h2⟩ | ⟨⟨h1, h3⟩, h2⟩ | ⟨⟨h1, h3⟩, h2⟩ | ⟨h1, h2⟩ | ⟨h1, h2⟩
  · have e2 : ¬ 64 < n := by omega
    have e3 : ¬ 1 ≤ n := by omega
    have e4 : ¬ 256 < z := by omega
    clear h1 h2
    go_enter Try.func8, Try.ntmps8
    go_wp2_with fail
    refine HK.out.mono ?_
    rintro e w1 ⟨rfl, hM⟩
    go_wp2_with fail
    refine (HB.out w1).mono ?_
    rintro e w2 ⟨rfl, rfl⟩
    go_wp2
    all_goals first
      | (exfalso; omega)
      | (have hq : ¬ ((!decide (z ≤ 1024)) = false) := by simp; omega
         exact absurd (by assumption) hq)
      | (go_ret; exact ⟨rfl, hM⟩)
  · have e2 : ¬ 64 < n := by omega
    have e3 : ¬ 1 ≤ n := by omega
    have e4 : 256 < z := by omega
    have e5 : ¬ z ≤ 1024 := by omega
    clear h1 h2
    go_enter Try.func8, Try.ntmps8
    go_wp2_with fail
    refine HK.out.mono ?_
    rintro e w1 ⟨rfl, hM⟩
    go_wp2_with fail
    refine (HB.out w1).mono ?_
    rintro e w2 ⟨rfl, rfl⟩
    go_wp2
    all_goals first
      | (exfalso; omega)
      | (have hq : ¬ ((!decide (z ≤ 1024)) = false) := by simp; omega
         exact absurd (by assumption) hq)
      | (go_ret; exact ⟨rfl, hM⟩)
  · have e2 : ¬ 64 < n := by omega
    have e3 : n ≤ 16384 := by omega
    have e4 : ¬ 256 < z := by omega
    have e5 : ¬ 64 ≤ z := by omega
    clear h2 h3
    go_enter Try.func8, Try.ntmps8
    go_wp2_with fail
    refine HK.out.mono ?_
    rintro e w1 ⟨rfl, hM⟩
    go_wp2_with fail
    refine (HB.out w1).mono ?_
    rintro e w2 ⟨rfl, rfl⟩
    go_wp2
    all_goals first
      | (exfalso; omega)
      | (have hq : ¬ ((!decide (z ≤ 1024)) = false) := by simp; omega
         exact absurd (by assumption) hq)
      | (go_ret; exact ⟨rfl, hM⟩)
  · have e2 : ¬ 64 < n := by omega
    have e3 : n ≤ 16384 := by omega
    have e4 : 256 < z := by omega
    have e5 : 64 ≤ z := by omega
    have e6 : ¬ z ≤ 1024 := by omega
    clear h2 h3
    go_enter Try.func8, Try.ntmps8
    go_wp2_with fail
    refine HK.out.mono ?_
    rintro e w1 ⟨rfl, hM⟩
    go_wp2_with fail
    refine (HB.out w1).mono ?_
    rintro e w2 ⟨rfl, rfl⟩
    go_wp2
    all_goals first
      | (exfalso; omega)
      | (have hq : ¬ ((!decide (z ≤ 1024)) = false) := by simp; omega
         exact absurd (by assumption) hq)
      | (go_ret; exact ⟨rfl, hM⟩)
  · have e2 : 64 < n := by omega
    have e3 : 1 ≤ n := by omega
    have e4 : ¬ 256 < z := by omega
    have e5 : ¬ n ≤ 16384 := by omega
    clear h1 h2
    go_enter Try.func8, Try.ntmps8
    go_wp2_with fail
    refine HK.out.mono ?_
    rintro e w1 ⟨rfl, hM⟩
    go_wp2_with fail
    refine (HB.out w1).mono ?_
    rintro e w2 ⟨rfl, rfl⟩
    go_wp2
    all_goals first
      | (exfalso; omega)
      | (have hq : ¬ ((!decide (z ≤ 1024)) = false) := by simp; omega
         exact absurd (by assumption) hq)
      | (go_ret; exact ⟨rfl, hM⟩)
  · have e2 : 64 < n := by omega
    have e3 : 1 ≤ n := by omega
    have e4 : 256 < z := by omega
    have e5 : ¬ n ≤ 16384 := by omega
    have e6 : ¬ z ≤ 1024 := by omega
    clear h1 h2
    go_enter Try.func8, Try.ntmps8
    go_wp2_with fail
    refine HK.out.mono ?_
    rintro e w1 ⟨rfl, hM⟩
    go_wp2_with fail
    refine (HB.out w1).mono ?_
    rintro e w2 ⟨rfl, rfl⟩
    go_wp2
    all_goals first
      | (exfalso; omega)
      | (have hq : ¬ ((!decide (z ≤ 1024)) = false) := by simp; omega
         exact absurd (by assumption) hq)
      | (go_ret; exact ⟨rfl, hM⟩)
end Go.Proofs.Ytbfnmgjpkieaoaa.Pl
