/-
  The table: Twin.
-/
import Derived.Test.YtbfnmgjpkieaoaaTabRootsW
import Derived.Test.YtbfnmgjpkieaoaaLayTab3
import Derived.Shelf.SlMaps.Clone
namespace Go.Proofs.Ytbfnmgjpkieaoaa.Tb
open Go Go.RowKit Go.Maps Go.Sort Go.Proofs Go.Shelf

def TwinPost (w : World) (M : List (Nm × Int)) (e : Ending) (w' : World) : Prop := ∃ q, e = .returned (.pointer (some ⟨q, 0, none⟩)) ∧ TabAt w' w.heap.size q M ∧ Moves (fun _ => False) w w'
set_option maxRecDepth 100000 in
set_option maxHeartbeats 1000000 in
theorem twin_any {w : World} {base p : Nat} {M : List (Nm × Int)} (h : TabAt w base p M) : Calls Try.prog 52 #[.pointer (some ⟨p, 0, none⟩)] w (TwinPost w M) := by
  obtain ⟨mb, hb, hp, hx⟩ := h
  have c0 : w.cell? ⟨p, 0, none⟩ = some (.map mb) := by simp [World.cell?, hb]
  rcases hx with ⟨rfl, rfl⟩ | ⟨m, D, rfl, hbm, hown, hk⟩
  · have HC := Lib.hid (AnyW.maps_Clone_nil Try.cloneN w)
    change Hid (Calls Try.prog 75 _ _ _) at HC
    go_enter Try.func52, Try.ntmps52
    go_wp2_with (first
      | (go_at_call 75
         refine HC.out.mono ?_
         rintro e w1 ⟨rfl, rfl⟩)
      | fail)
    go_ret
    exact ⟨_, rfl, ⟨none, heap_alloc_new _ _, by omega, .inl ⟨rfl, rfl⟩⟩, (Moves.refl _ _).alloc _⟩
  · have HC := Lib.hid (AnyW.maps_Clone_owns Try.cloneN 77 RI m M.length D w hown)
    change Hid (Calls Try.prog 75 _ _ _) at HC
    have HK := Lib.hid hk
    clear hown hk
    go_enter Try.func52, Try.ntmps52
    go_wp2_with (first
      | (go_at_call 75
         refine HC.out.mono ?_
         rintro e w1 ⟨rfl, hown1, -, hB1⟩)
      | fail)
    go_ret
    exact ⟨_, rfl, ⟨some w.heap.size, heap_alloc_new _ _, hB1.size, .inr ⟨_, D, rfl, Nat.le_refl _, hown1.alloc _, HK.out⟩⟩, (Moves.of_below hB1).alloc _⟩
end Go.Proofs.Ytbfnmgjpkieaoaa.Tb
