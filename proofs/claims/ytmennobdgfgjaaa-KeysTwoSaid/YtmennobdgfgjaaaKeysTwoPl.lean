/-
  The walk of KeysTwo: which of two keys is the lesser; as words they come back.
-/
import Derived.Test.YtmennobdgfgjaaaKeyKnown
import Derived.Test.YtmennobdgfgjaaaKeySort
import Derived.Test.YtmennobdgfgjaaaKeyOpen
import Derived.Deep.RegionHeld3
import Derived.BigQuiet
namespace Go.Proofs.Ytmennobdgfgjaaa
open Go Go.RowKit Go.Maps Go.Sort Go.Proofs

theorem back_short {p : Pr} (hs : shortK p = true) : unpackZ (packZ p) = p := by
  unfold shortK at hs
  simp only [decide_eq_true_eq] at hs
  unfold unpackZ packZ w32
  refine Prod.ext ?_ ?_ <;> simp only <;> omega
theorem pack_short {p q : Pr} (hp : shortK p = true) (hq : shortK q = true) : (packZ p == packZ q) = (cmpK p q == 0) := by
  have h1 := back_short hp
  have h2 := back_short hq
  by_cases h : p = q
  · subst h
    rw [(cmpK_zero p p).2 rfl, beq_self_eq_true]
    rfl
  · have e1 : packZ p ≠ packZ q := fun e => h (by rw [← h1, ← h2, e])
    have e2 : cmpK p q ≠ 0 := fun e => h ((cmpK_zero p q).1 e)
    rw [beq_eq_false_iff_ne.2 e1, beq_eq_false_iff_ne.2 e2]
theorem cmpK_swap (p q : Pr) : cmpK q p = 0 - cmpK p q := by
  unfold cmpK cmpI
  repeat' split
  all_goals omega
theorem cmpK_in (p q : Pr) : -1 ≤ cmpK p q ∧ cmpK p q ≤ 1 := by
  unfold cmpK cmpI
  repeat' split
  all_goals omega
end Go.Proofs.Ytmennobdgfgjaaa
