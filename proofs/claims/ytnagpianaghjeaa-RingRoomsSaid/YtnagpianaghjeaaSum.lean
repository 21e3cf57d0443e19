/-
  crc.Sum of one row.
-/
import Derived.Test.YtnagpianaghjeaaPut
namespace Go.Proofs.Ytnagpianaghjeaa.Sl
open Go Go.RowKit Go.Proofs

theorem add_zero {w : World} {L : Nat → Prop} {v : Value} {bs : List Int} (h : BRow w L v bs) : Calls Try.prog 132 #[.int .u32 0, v] w (SameV w (.int .u32 (crcL bs))) := add_any h 0#32
set_option maxRecDepth 100000 in
set_option maxHeartbeats 2000000 in
theorem sum_one {w : World} {L : Nat → Prop} {v : Value} {bs : List Int} (h : BRow w L v bs) {k : Nat} (hc : w.cell? ⟨k, 0, none⟩ = some v) : Calls Try.prog 120 #[.slice (some ⟨k, 0, none⟩) 1 1] w (SameV w (.int .u32 (crcL bs))) := by
  have HA := Lib.hid (add_zero h)
  obtain ⟨⟨A, c, rfl, -, -⟩, -, -⟩ := h
  rw [List.length_map] at hc HA
  generalize crcL bs = z at HA ⊢
  go_enter Try.func120, Try.ntmps120
  go_wp2_with fail
  go_loopg [3, 8] 1 (fun gg s3 s8 wr => wr = w ∧ ((gg = 1 ∧ s8 = .int .i64 0 ∧ s3 = .int .u32 0) ∨ (gg = 0 ∧ s8 = .int .i64 1 ∧ s3 = .int .u32 z)))
  case atStart => exact ⟨rfl, .inl ⟨rfl, rfl, rfl⟩⟩
  case round =>
    obtain ⟨rfl, ⟨rfl, rfl, rfl⟩ | ⟨rfl, rfl, rfl⟩⟩ := hrel
    · go_wp2_with (first
        | (go_at_call 132
           refine HA.out.mono ?_
           rintro e w1 ⟨rfl, rfl⟩)
        | fail)
      go_roundg 0
      case measure => omega
      case rel => exact ⟨rfl, .inr ⟨rfl, rfl, rfl⟩⟩
    · go_wp2_with fail
      go_ret
      exact ⟨rfl, rfl⟩
end Go.Proofs.Ytnagpianaghjeaa.Sl
