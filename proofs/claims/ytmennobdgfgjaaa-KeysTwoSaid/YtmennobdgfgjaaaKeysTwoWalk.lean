/-
  KeysTwo's walk, whatever the keys.
-/
import Derived.Test.YtmennobdgfgjaaaKeysTwoTt
import Derived.Test.YtmennobdgfgjaaaKeysTwoTf
import Derived.Test.YtmennobdgfgjaaaKeysTwoFt
import Derived.Test.YtmennobdgfgjaaaKeysTwoFf
namespace Go.Proofs.Ytmennobdgfgjaaa
open Go Go.RowKit Go.Maps Go.Sort Go.Proofs

theorem keys_two (w : World) {va vb : Value} (ha : ∃ k : Pr, va = encK k ∧ wf2 k) (hb : ∃ k : Pr, vb = encK k ∧ wf2 k) : Calls Try.prog 7 #[va, vb] w (TruePost w) := by
  obtain ⟨⟨a1, a2⟩, rfl, -, -⟩ := ha
  obtain ⟨⟨b1, b2⟩, rfl, -, -⟩ := hb
  cases hsa : shortK (a1, a2) with
  | true =>
    cases hsb : shortK (b1, b2) with
    | true => exact keys_two_tt w hsa hsb rfl rfl rfl (back_short hsa) (back_short hsb) (pack_short hsa hsb)
    | false => exact keys_two_tf w hsa hsb rfl rfl rfl (back_short hsa) rfl
  | false =>
    cases hsb : shortK (b1, b2) with
    | true => exact keys_two_ft w hsa hsb rfl rfl rfl rfl (back_short hsb)
    | false => exact keys_two_ff w hsa hsb rfl rfl rfl rfl rfl
end Go.Proofs.Ytmennobdgfgjaaa

