/-
  Two helpers of the statements: a handle's place in a row of pairs; are two rows of ints alike?
-/
import Derived.Test.YtmennobdgfgjaaaHandFindsWalk
import Derived.Test.YtmennobdgfgjaaaAppend
import Derived.BigQuiet
import Derived.Deep.Cut
import Derived.Deep.DeepCutAuto
import Derived.Deep.QuietTactic
namespace Go.Proofs.Ytmennobdgfgjaaa
open Go Go.RowKit Go.Maps Go.Sort Go.Shelf Go.Proofs

def idxP (R : List Pr) (h : Int) : Int := match R.findIdx? (fun p => p.1 == h) with | some j => (j : Int) | none => -1

theorem idxP_hit {R : List Pr} {h : Int} {k : Nat} (hk : k < R.length) (he : R[k].1 = h) (hne : ∀ i (hi : i < R.length), i < k → R[i].1 ≠ h) : idxP R h = k := by
  unfold idxP
  have : R.findIdx? (fun p => p.1 == h) = some k := by
    rw [List.findIdx?_eq_some_iff_getElem]
    exact ⟨hk, by simpa using he, fun j hj => by simpa using hne j (by omega) hj⟩
  rw [this]

theorem idxP_miss {R : List Pr} {h : Int} (hne : ∀ i (hi : i < R.length), R[i].1 ≠ h) : idxP R h = -1 := by
  unfold idxP
  have : R.findIdx? (fun p => p.1 == h) = none := by
    rw [List.findIdx?_eq_none_iff]
    intro p hp
    obtain ⟨i, hi, rfl⟩ := List.getElem_of_mem hp
    simpa using hne i hi
  rw [this]

set_option maxRecDepth 100000 in
set_option maxHeartbeats 100000 in
theorem at_any {w : World} {base : Nat} {v : Value} {R : List Pr} {h i : Int} (hi : idxP R h = i) (hown : w.ownsRow base 44 2 v R.length (cellsP R)) (hl : R.length ≤ 1000) :
    Calls Try.prog 20 #[v, .int .i64 h] w (SamePost w (.int .i64 i)) := by
  obtain ⟨A, c, rfl, hc, -, -, -, hcells⟩ := own_form hown
  have Hi := Lib.hid hi
  clear hown hi
  go_enter Try.func20, Try.ntmps20
  go_wp2
  go_loop [5] (fun t => ∃ k : Nat, k ≤ R.length ∧ t = .int .i64 k ∧ ∀ i (hi : i < R.length), i < k → R[i].1 ≠ h) (fun t => R.length - (intOf t).toNat)
  case atStart => exact ⟨0, Nat.zero_le _, rfl, fun i _ h => absurd h (by omega)⟩
  case round =>
    obtain ⟨k, hk, rfl, hne⟩ := hrel
    have Hne := Lib.hid hne
    clear hne
    by_cases hlt : k < R.length
    · obtain ⟨g, rfl, hg, hgl, hcell⟩ := hcells (by omega)
      have hv : w.cell? ⟨g, k * 2, none⟩ = some (.int .i64 R[k].1) := hcell _ _ (cellsP_get hlt).1
      clear hcell hcells
      generalize hx : R[k].1 = x at hv
      have Hx := Lib.hid hx
      clear hx
      by_cases hyn : x = h
      · subst hyn
        go_wp2
        have hki : i = (k : Int) := by rw [← Hi.out]; exact idxP_hit hlt Hx.out Hne.out
        go_ret
        rw [hki]
        exact ⟨rfl, rfl⟩
      · have ht : (x == h) = false := by simpa using hyn
        have Hyn := Lib.hid hyn
        clear hyn
        go_wp2
        go_round
        case rel =>
          refine ⟨k + 1, by omega, by go_num, fun i hi hik => ?_⟩
          by_cases e : i = k
          · subst e; rw [Hx.out]; exact Hyn.out
          · exact Hne.out i hi (by omega)
        case measure => simp [intOf]; omega
    · have hl : i = -1 := by rw [← Hi.out]; exact idxP_miss fun i hi => Hne.out i hi (by omega)
      subst hl
      go_wp2
      go_ret
      exact ⟨rfl, rfl⟩

set_option maxRecDepth 100000 in
set_option maxHeartbeats 1000000 in
theorem ints1 {w : World} {La Lb : Nat → Prop} {va vb : Value} {xs : List Int} (ha : Row w La va (xs.map encZ)) (hb : Row w Lb vb (xs.map encZ)) (hl : xs.length ≤ 1000) :
    Calls Try.prog 43 #[va, vb] w (KnownPost w) := by
  obtain ⟨A, c, rfl, hc, hca⟩ := ha
  obtain ⟨B, d, rfl, hd, hcb⟩ := hb
  simp only [List.length_map] at hc hd hca hcb ⊢
  go_enter Try.func43, Try.ntmps43
  go_wp2
  go_loopw [5] (fun t wr => ∃ k : Nat, k ≤ xs.length ∧ t = .int .i64 k ∧ Moves (fun _ => False) w wr) (fun t _ => xs.length - (intOf t).toNat)
  case atStart => exact ⟨0, Nat.zero_le _, rfl, Moves.refl _ _⟩
  case round =>
    obtain ⟨k, hk, rfl, hM⟩ := hrel
    by_cases hlt : k < xs.length
    · obtain ⟨g, o, rfl, _, hgl, hcell⟩ := hca (by omega)
      obtain ⟨g', o', rfl, _, hgl', hcell'⟩ := hcb (by omega)
      have hv : wr.cell? ⟨g, o + k, none⟩ = some (.int .i64 xs[k]) := (hM.cell (p := ⟨g, o + k, none⟩) hgl (fun h => h)).trans (hcell _ _ (by simp [hlt]))
      have hv' : wr.cell? ⟨g', o' + k, none⟩ = some (.int .i64 xs[k]) := (hM.cell (p := ⟨g', o' + k, none⟩) hgl' (fun h => h)).trans (hcell' _ _ (by simp [hlt]))
      generalize xs[k] = x at hv hv'
      clear hcell hcell' hca hcb
      have h0 : (0 : Int) ≤ (k : Int) := Int.natCast_nonneg _
      have h1 : (k : Int) < (xs.length : Int) := by omega
      have h2 : (x != x) = false := by simp
      go_wp2_with fail
      go_quiet (fail)
      go_wp2
      go_roundw
      case rel => exact ⟨k + 1, by omega, by go_num, hM.drewN _⟩
      case measure => simp [intOf]; omega
    · go_wp2
      go_ret
      exact ⟨rfl, hM⟩

theorem ints_any {w : World} {La Lb : Nat → Prop} {va vb : Value} {xs : List Int} (ha : Row w La va (xs.map encZ)) (hb : Row w Lb vb (xs.map encZ)) (hl : xs.length ≤ 1000) :
    Calls Try.prog 22 #[va, vb] w (KnownPost w) := by
  have hc := ints1 ha hb hl
  have Hc := Lib.hid hc
  clear hc ha hb hl
  go_enter Try.func22, Try.ntmps22
  go_wp2_with fail
  refine Hc.out.mono ?_
  rintro e w1 ⟨rfl, hM⟩
  go_wp2
  go_ret
  exact ⟨rfl, hM⟩
end Go.Proofs.Ytmennobdgfgjaaa
