/-
  The contract of For: the least handle that is for a node, or what Open gives.
-/
import Derived.Test.YtmennobdgfgjaaaHandLive
namespace Go.Proofs.Ytmennobdgfgjaaa
open Go Go.RowKit Go.Maps Go.Sort Go.Shelf Go.Proofs

theorem least_none {R : List Pr} {node : Int} (h : ∀ i (hi : i < R.length), R[i].2 ≠ node) : least R node = none := by
  unfold least
  rw [Option.map_eq_none_iff, List.find?_eq_none]
  intro p hp
  obtain ⟨i, hi, rfl⟩ := List.getElem_of_mem hp
  simpa using h i hi

theorem least_some {R : List Pr} {node : Int} {k : Nat} (hk : k < R.length) (hn : R[k].2 = node) (h : ∀ i (hi : i < R.length), i < k → R[i].2 ≠ node) : least R node = some R[k].1 := by
  unfold least
  have : R.find? (fun p => p.2 == node) = some R[k] := by
    rw [List.find?_eq_some_iff_getElem]
    refine ⟨by simpa using hn, k, hk, rfl, fun j hj => ?_⟩
    simpa using h j (by omega) hj
  rw [this]
  rfl

theorem least_ne {R : List Pr} {node : Int} (h : least R node = none) {i : Nat} (hi : i < R.length) : R[i].2 ≠ node := by
  unfold least at h
  rw [Option.map_eq_none_iff, List.find?_eq_none] at h
  simpa using h R[i] (List.getElem_mem hi)

def ForFound (w : World) (x : Int) (e : Ending) (w' : World) : Prop := e = .returned (.tuple #[.int .i64 x, .int .i64 0]) ∧ Moves (fun _ => False) w w'
def ForNone (w : World) (a b : Int) (Q : World → World → Prop) (e : Ending) (w' : World) : Prop := e = .returned (.tuple #[.int .i64 a, .int .i64 b]) ∧ ∃ w1, Moves (fun _ => False) w w1 ∧ Q w1 w'

set_option maxRecDepth 100000 in
set_option maxHeartbeats 1000000 in
theorem for_any {w : World} {p m : Nat} {R : List Pr} {last node a b : Int} {Q : World → World → Prop} (hT : Tab w p m R last)
    (hO : least R node = none → ∀ w1, Tab w1 p m R last → Calls Try.prog 14 #[.pointer (some ⟨p, 0, none⟩), .int .i64 node] w1 (fun e w' => e = .returned (.tuple #[.int .i64 a, .int .i64 b]) ∧ Q w1 w')) :
    Calls Try.prog 15 #[.pointer (some ⟨p, 0, none⟩), .int .i64 node] w (fun e w' => (∃ x, least R node = some x ∧ ForFound w x e w') ∨ (least R node = none ∧ ForNone w a b Q e w')) := by
  have HO := Lib.hid hO
  clear hO
  have h256 := hT.ok.len
  go_enter Try.func15, Try.ntmps15
  go_wp2_with (go_at_call 19; refine (live_any hT).mono ?_; rintro e w1 ⟨v, rfl, ⟨A, c, rfl, hc, hcells⟩, hmv⟩; simp only [List.length_map] at hc hcells ⊢)
  have hT1 : Tab w1 p m R last := hT.moves hmv (fun h => h) (fun h => h)
  have c0 := hT1.c0
  have hown := hT1.map
  go_loop [7, 11] (fun _ t => ∃ k : Nat, k ≤ R.length ∧ t = .int .i64 k ∧ ∀ i (hi : i < R.length), i < k → R[i].2 ≠ node) (fun _ t => R.length - (intOf t).toNat)
  case atStart => exact ⟨0, Nat.zero_le _, rfl, fun i _ h => absurd h (by omega)⟩
  case round =>
    obtain ⟨k, hk, rfl, hne⟩ := hrel
    have Hne := Lib.hid hne
    clear hne
    by_cases hlt : k < R.length
    · obtain ⟨g, o, rfl, hg, hgl, hcell⟩ := hcells (by omega)
      have hv : w1.cell? ⟨g, o + k, none⟩ = some (.int .i64 R[k].1) := hcell k _ (by simp [hlt])
      have hwk := hT1.ok.wf (List.getElem_mem hlt)
      have hlook := look_of_mem hT1.ok.rise (show (R[k].1, R[k].2) ∈ R from List.getElem_mem hlt)
      have hkey := keyOf_int_mk Try.underlying3 hwk.1
      have Hlook := Lib.hid hlook
      have Hwk := Lib.hid hwk
      clear hcell hcells hlook hwk
      generalize hx : R[k].1 = x at hv hkey Hlook
      generalize hy : R[k].2 = y at Hlook
      have Hx := Lib.hid hx
      have Hy := Lib.hid hy
      clear hx hy
      by_cases hyn : y = node
      · have ht : (y == node) = true := by simpa using hyn
        have Hyn := Lib.hid hyn
        clear hyn
        go_wp2_with (first
          | (at_lookup; refine wpList_lookup_own_int _ rfl _ _ 76 rfl 3 3 .i64 law3 Try.underlying76 Try.underlying3 (zero3 _) m R.length (dat R) rfl hown _ _ rfl hkey ?_; intro c' hat hwc; obtain rfl : c' = y := by { rw [look_val hat, Hlook.out]; rfl })
          | go_in)
        go_ret2
        refine .inl ⟨x, ?_, rfl, hmv⟩
        rw [← Hx.out]
        exact least_some hlt (by rw [Hy.out, Hyn.out]) Hne.out
      · have ht : (y == node) = false := by simpa using hyn
        have Hyn := Lib.hid hyn
        clear hyn
        go_wp2_with (first
          | (at_lookup; refine wpList_lookup_own_int _ rfl _ _ 76 rfl 3 3 .i64 law3 Try.underlying76 Try.underlying3 (zero3 _) m R.length (dat R) rfl hown _ _ rfl hkey ?_; intro c' hat hwc; obtain rfl : c' = y := by { rw [look_val hat, Hlook.out]; rfl })
          | go_in)
        go_round
        case rel =>
          refine ⟨k + 1, by omega, by go_num, fun i hi hik => ?_⟩
          by_cases e : i = k
          · subst e; rw [Hy.out]; exact Hyn.out
          · exact Hne.out i hi (by omega)
        case measure => simp [intOf]; omega
    · have hl : least R node = none := least_none fun i hi => Hne.out i hi (by omega)
      have hO := HO.out hl w1 hT1
      have Hl := Lib.hid hl
      clear hl hcells
      go_wp2_with (go_at_call 14; refine hO.mono ?_; rintro e w2 ⟨rfl, hq⟩)
      go_ret2
      exact .inr ⟨Hl.out, rfl, w1, hmv, hq⟩
end Go.Proofs.Ytmennobdgfgjaaa
