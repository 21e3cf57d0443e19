/-
  sup.Decode: what it answers of a row of bytes.
-/
import Derived.Test.YtnagpianaghjeaaDecode
namespace Go.Proofs.Ytnagpianaghjeaa.Sl
open Go Go.RowKit Go.Proofs

def DecPost (w : World) (r : Option Blk) (e : Ending) (w' : World) : Prop := e = .returned (.tuple #[blkV (r.getD zeroB), .int .i64 (if r.isSome then 0 else 2)]) ∧ Moves (fun _ => False) w w'
/-- What Decode answers of a row of bytes. -/
theorem decode_any {w : World} {L : Nat → Prop} {v : Value} {s : List Int} (h : BRow w L v s) (hl : 64 ≤ s.length) : Calls Try.prog 63 #[v] w (DecPost w (decS crcL s)) := by
  have hr := fun (W : World) (g : Nat) (hW : Moves (fun _ => False) w W) (hc : W.cell? ⟨g, 0, none⟩ = some v) (p n : Nat) (h1 : 1 ≤ n) (h8 : n ≤ 8) (hp : p + n ≤ 44) => reader_ok (h.moves hW (fun _ _ _ e => e)) hc p n h1 h8 (by omega)
  have hx : ∀ p, 0 ≤ getL s p 4 ∧ getL s p 4 < 4294967296 := fun p => getL_lt h.2.1 p 4
  have hlen := h.2.2
  have hB := h
  obtain ⟨⟨A, c, rfl, -⟩, -⟩ := h
  rw [List.length_map] at hr hB ⊢
  by_cases hg : GoodB (readS s)
  · have hE := fun W (hW : Moves (fun _ => False) w W) => (encode_ok hg W).mono (R' := fun e w' => ∃ v', e = .returned (.tuple #[v', .int .i64 0]) ∧ Moves (fun _ => False) W w' ∧ Calls Try.prog 104 #[v', .slice A s.length c] w' (SameV w' (.bool (decide (encS crcL (readS s) = s))))) (fun e w' ⟨v', he, hn⟩ => ⟨v', he, hn.2, equal_any (hn.row (encS_byte _ _) (by have := encS_len crcL hg.1.1.1; have := hg.1.1.2.1; omega)) (hB.moves (hW.trans hn.2) (fun _ _ _ e => e))⟩)
    by_cases hq : encS crcL (readS s) = s
    · have hd : decS crcL s = some (readS s) := by unfold decS; rw [if_pos ⟨hl, hg, hq⟩]
      rw [hd]
      rw [decide_eq_true hq] at hE
      exact decode_eq (by omega) (by omega) (hx 16) (hx 20) (hx 24) (hx 28) (hx 32) (fun W g hW hc => hr W g hW hc 8 8 (by decide) (by decide) (by decide)) (fun W g hW hc => hr W g hW hc 16 4 (by decide) (by decide) (by decide)) (fun W g hW hc => hr W g hW hc 20 4 (by decide) (by decide) (by decide)) (fun W g hW hc => hr W g hW hc 24 4 (by decide) (by decide) (by decide)) (fun W g hW hc => hr W g hW hc 28 4 (by decide) (by decide) (by decide)) (fun W g hW hc => hr W g hW hc 32 4 (by decide) (by decide) (by decide)) (fun W g hW hc => hr W g hW hc 36 8 (by decide) (by decide) (by decide)) hE
    · have hd : decS crcL s = none := by unfold decS; rw [if_neg (fun e => hq e.2.2)]
      rw [hd]
      rw [decide_eq_false hq] at hE
      exact decode_ne (by omega) (by omega) (hx 16) (hx 20) (hx 24) (hx 28) (hx 32) (fun W g hW hc => hr W g hW hc 8 8 (by decide) (by decide) (by decide)) (fun W g hW hc => hr W g hW hc 16 4 (by decide) (by decide) (by decide)) (fun W g hW hc => hr W g hW hc 20 4 (by decide) (by decide) (by decide)) (fun W g hW hc => hr W g hW hc 24 4 (by decide) (by decide) (by decide)) (fun W g hW hc => hr W g hW hc 28 4 (by decide) (by decide) (by decide)) (fun W g hW hc => hr W g hW hc 32 4 (by decide) (by decide) (by decide)) (fun W g hW hc => hr W g hW hc 36 8 (by decide) (by decide) (by decide)) hE
  · have hd : decS crcL s = none := by unfold decS; rw [if_neg (fun e => hg e.2.1)]
    rw [hd]
    have hE := fun W (_ : Moves (fun _ => False) w W) => (encode_bad hg W).mono (R' := fun e w' => ∃ v', e = .returned (.tuple #[v', .int .i64 1]) ∧ Moves (fun _ => False) W w') (fun e w' ⟨he, hm⟩ => ⟨_, he, hm⟩)
    exact decode_bad (by omega) (by omega) (hx 16) (hx 20) (hx 24) (hx 28) (hx 32) (fun W g hW hc => hr W g hW hc 8 8 (by decide) (by decide) (by decide)) (fun W g hW hc => hr W g hW hc 16 4 (by decide) (by decide) (by decide)) (fun W g hW hc => hr W g hW hc 20 4 (by decide) (by decide) (by decide)) (fun W g hW hc => hr W g hW hc 24 4 (by decide) (by decide) (by decide)) (fun W g hW hc => hr W g hW hc 28 4 (by decide) (by decide) (by decide)) (fun W g hW hc => hr W g hW hc 32 4 (by decide) (by decide) (by decide)) (fun W g hW hc => hr W g hW hc 36 8 (by decide) (by decide) (by decide)) hE
end Go.Proofs.Ytnagpianaghjeaa.Sl
