/-
  A disk's refusals, its shape.
-/
import Derived.Test.YtnagpianaghjeaaDiskRead
import Derived.Test.YtnagpianaghjeaaDiskNew
import Derived.Test.YtnagpianaghjeaaDiskCloneS
namespace Go.Proofs.Ytnagpianaghjeaa.Pl
open Go Go.RowKit Go.Maps Go.Sort Go.Proofs

set_option maxRecDepth 100000 in
set_option maxHeartbeats 1000000 in
theorem new_bad {n z : Int} (hb : rightZ n z = false) (w : World) : Calls Try.prog 28 #[.int .i64 n, .int .i64 z] w (SameP w (.tuple #[.pointer none, .int .i64 1])) := by
  have HRT := Lib.hid (right_any hb w)
  clear hb
  go_enter Try.func28, Try.ntmps28
  go_wp2_with fail
  refine HRT.out.mono ?_
  rintro e w1 ⟨rfl, rfl⟩
  go_wp2
  go_ret2
  exact ⟨rfl, rfl⟩
set_option maxRecDepth 100000 in
set_option maxHeartbeats 1000000 in
theorem write_bad {w : World} {base d : Nat} {S : DS} (h : IsDisk w base d S) (ho : S.off = false) {i : Int} {A : Option Addr} {n c : Nat} (hb : inS S i = false ∨ n ≠ S.size) :
    Calls Try.prog 59 #[.pointer (some ⟨d, 0, none⟩), .int .i64 i, .slice A n c] w (SameP w (.int .i64 1)) := by
  have HIN := Lib.hid (fun b (hb : inS S i = b) => in_any h hb)
  obtain ⟨kv, kvs, m, D, pvs, kpv, h⟩ := h
  obtain ⟨c0, -, -, c3, -⟩ := h.cells
  rw [ho] at c3
  clear h ho
  by_cases hi : inS S i = false
  · clear hb
    go_enter Try.func59, Try.ntmps59
    go_wp2_with fail
    refine (HIN.out _ hi).mono ?_
    rintro e w1 ⟨rfl, rfl⟩
    go_wp2
    go_ret
    exact ⟨rfl, rfl⟩
  · have hn : ¬ (n : Int) = (S.size : Int) := by
      rcases hb with h | h
      · exact absurd h hi
      · omega
    have hn1 : ((n : Int) == (S.size : Int)) = false := by simpa using hn
    have hi' : inS S i = true := by simpa using hi
    clear hb hi
    generalize S.size = z at c0 hn hn1
    go_enter Try.func59, Try.ntmps59
    go_wp2_with fail
    refine (HIN.out _ hi').mono ?_
    rintro e w1 ⟨rfl, rfl⟩
    clear hi'
    go_wp2
    go_ret
    exact ⟨rfl, rfl⟩
set_option maxRecDepth 100000 in
set_option maxHeartbeats 1000000 in
theorem read_bad {w : World} {base d : Nat} {S : DS} (h : IsDisk w base d S) (ho : S.off = false) {i : Int} (hi : inS S i = false) :
    Calls Try.prog 62 #[.pointer (some ⟨d, 0, none⟩), .int .i64 i] w (SameP w (.tuple #[.slice none 0 0, .int .i64 1])) := by
  have HIN := Lib.hid (in_any h hi)
  obtain ⟨kv, kvs, m, D, pvs, kpv, h⟩ := h
  obtain ⟨-, -, -, c3, -⟩ := h.cells
  rw [ho] at c3
  clear h ho hi
  go_enter Try.func62, Try.ntmps62
  go_wp2_with fail
  refine HIN.out.mono ?_
  rintro e w1 ⟨rfl, rfl⟩
  go_wp2
  go_ret2
  exact ⟨rfl, rfl⟩
def MPost (w : World) (v : Value) (e : Ending) (w' : World) : Prop := e = .returned v ∧ Moves (fun _ => False) w w'
set_option maxRecDepth 100000 in
set_option maxHeartbeats 1000000 in
theorem shape_any {w : World} {base d : Nat} {S : DS} (h : IsDisk w base d S) :
    Calls Try.prog 39 #[.pointer (some ⟨d, 0, none⟩)] w (MPost w (.tuple #[.int .i64 S.kept.length, .int .i64 S.size])) := by
  obtain ⟨kv, kvs, m, D, pvs, kpv, h⟩ := h
  obtain ⟨c0, c1, -⟩ := h.cells
  obtain ⟨A, c, rfl, -, -, -, -, -⟩ := own_form h.kept
  have hl : kvs.length = S.kept.length := h.secs.1
  rw [hl] at c1
  clear h hl
  go_enter Try.func39, Try.ntmps39
  go_wp2_with fail
  go_quiet (fail)
  go_wp2
  go_ret2
  exact ⟨rfl, (Moves.refl _ w).drewN _⟩
end Go.Proofs.Ytnagpianaghjeaa.Pl
