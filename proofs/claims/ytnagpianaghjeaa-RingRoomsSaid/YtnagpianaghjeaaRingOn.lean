/-
  A log made over sectors; a sector of its area.
-/
import Derived.Test.YtnagpianaghjeaaRingNewest
namespace Go.Proofs.Ytnagpianaghjeaa.Rg
open Go Go.RowKit Go.Proofs Go.Proofs.Ytnagpianaghjeaa.Sl
open Pl (DS IsDisk DOwn DPost DMv DKeep)

set_option maxRecDepth 100000 in
set_option maxHeartbeats 2000000 in
theorem ron_bad {w : World} {base d : Nat} {S : DS} (hD : IsDisk w base d S) {s n : Int} (hb : s < 0 ∨ n < 8 ∨ (S.kept.length : Int) < n ∨ (S.kept.length : Int) - n < s) (hm : S.kept.length ≤ 16384) : Calls Try.prog 71 #[.pointer (some ⟨d, 0, none⟩), .int .i64 s, .int .i64 n] w (MovV w (.tuple #[.pointer none, .int .i64 1])) := by
  have HSH := Lib.hid (Pl.shape_any hD)
  clear hD
  generalize S.kept.length = m at HSH hb hm
  have b0 : (0 : Int) ≤ (m : Int) := by omega
  have b1 : (m : Int) ≤ 16384 := by omega
  by_cases h1 : n < 8
  · clear hb
    go_enter Try.func71, Try.ntmps71
    go_wp2_with fail
    refine HSH.out.mono ?_
    rintro e w1 ⟨rfl, hm1⟩
    go_wp2
    go_ret2
    exact ⟨rfl, hm1⟩
  by_cases h2 : (m : Int) < n
  · clear hb
    go_enter Try.func71, Try.ntmps71
    go_wp2_with fail
    refine HSH.out.mono ?_
    rintro e w1 ⟨rfl, hm1⟩
    go_wp2
    go_ret2
    exact ⟨rfl, hm1⟩
  by_cases h3 : s < 0
  · clear hb
    go_enter Try.func71, Try.ntmps71
    go_wp2_with fail
    refine HSH.out.mono ?_
    rintro e w1 ⟨rfl, hm1⟩
    go_wp2
    go_ret2
    exact ⟨rfl, hm1⟩
  have h4 : (m : Int) - n < s := by omega
  have hw : IntKind.i64.wrap ((m : Int) - n) = (m : Int) - n := IntWalk.i64_in _ (by omega)
  have hw2 : wrap64 ((m : Int) - n) = (m : Int) - n := w64 (by omega) (by omega)
  clear hb
  go_enter Try.func71, Try.ntmps71
  go_wp2_with fail
  refine HSH.out.mono ?_
  rintro e w1 ⟨rfl, hm1⟩
  go_wp2
  go_ret2
  exact ⟨rfl, hm1⟩
def OnPost (w : World) (d s n z : Nat) (e : Ending) (w' : World) : Prop := ∃ r, e = .returned (.tuple #[.pointer (some ⟨r, 0, none⟩), .int .i64 0]) ∧ w.heap.size ≤ r ∧ RingB w' r d s n z hd0 (.slice none 0 0) ∧ Moves (fun _ => False) w w'
set_option maxRecDepth 100000 in
set_option maxHeartbeats 2000000 in
theorem ron_ok {w : World} {base d : Nat} {S : DS} (hD : IsDisk w base d S) (ho : S.off = false) {s n m z : Nat} (hz : S.size = z) (hm : S.kept.length = m) (hn : 8 ≤ n) (hs : s + n ≤ m) (hm2 : m ≤ 16384) : Calls Try.prog 71 #[.pointer (some ⟨d, 0, none⟩), .int .i64 s, .int .i64 n] w (OnPost w d s n z) := by
  have HSH := Lib.hid (Pl.shape_any hD)
  have HOF := Lib.hid (fun W (hW : Moves (fun _ => False) w W) => Pl.off_any (hD.moves0 hW))
  rw [hm, hz] at HSH
  rw [ho] at HOF
  have b0 : (8 : Int) ≤ (n : Int) := by omega
  have b1 : (m : Int) ≤ 16384 := by omega
  have b2 : (n : Int) ≤ (m : Int) := by omega
  have b3 : (0 : Int) ≤ (s : Int) := by omega
  have b4 : (s : Int) ≤ (m : Int) - (n : Int) := by omega
  have HQ : Hid (∀ e w' r, e = .returned (.tuple #[.pointer (some ⟨r, 0, none⟩), .int .i64 0]) → w.heap.size ≤ r → RingB w' r d s n z hd0 (.slice none 0 0) → Moves (fun _ => False) w w' → OnPost w d s n z e w') := Lib.hid fun e w' r h1 h2 h3 h4 => ⟨r, h1, h2, h3, h4⟩
  generalize OnPost w d s n z = Q at HQ ⊢
  clear hD ho hm hz hn hs hm2
  go_enter Try.func71, Try.ntmps71
  go_wp2_with fail
  refine HSH.out.mono ?_
  rintro e w1 ⟨rfl, hm1⟩
  go_wp2_with fail
  refine (HOF.out w1 hm1).mono ?_
  rintro e w2 ⟨rfl, rfl⟩
  go_wp2
  exact HQ.out _ _ _ rfl hm1.size (alloc_at rfl) (hm1.alloc _)
end Go.Proofs.Ytnagpianaghjeaa.Rg
