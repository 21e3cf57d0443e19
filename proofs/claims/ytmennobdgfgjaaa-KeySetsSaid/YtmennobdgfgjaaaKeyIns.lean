/-
  The document's order: one key laid in among keys that rise.
-/
import Derived.Test.YtmennobdgfgjaaaKeyRow
namespace Go.Proofs.Ytmennobdgfgjaaa
open Go Go.RowKit Go.Maps Go.Sort Go.Proofs

abbrev leK (a b : Pr) : Prop := (!(ltOf cmpK) b a) = true
theorem leK_of_pos {a b : Pr} (h : 0 < cmpK a b) : leK b a := by
  unfold leK ltOf
  simp
  omega
theorem leK_of_not {a b : Pr} (h : ¬ 0 < cmpK a b) : leK a b := by
  have h1 : cmpK b a = 0 - cmpK a b := by
    unfold cmpK cmpI
    repeat' split
    all_goals omega
  unfold leK ltOf
  simp
  omega

theorem cmpK_mono {a b x : Pr} (h : leK a b) (hb : ¬ 0 < cmpK b x) : ¬ 0 < cmpK a x := by
  have h' : ¬ (b.1 < a.1 ∨ (b.1 = a.1 ∧ b.2 < a.2)) := by
    unfold leK at h
    rw [cmpK_lt] at h
    simp only [ltK, Bool.not_eq_true', decide_eq_false_iff_not] at h
    exact h
  unfold cmpK cmpI at *
  repeat' split at hb
  all_goals repeat' split
  all_goals omega
/-- All below a place that is not greater are not greater. -/
theorem low_not {L : List Pr} {x : Pr} {k : Nat} (hL : L.Pairwise leK) (hk : k < L.length) (h : ¬ 0 < cmpK L[k] x) : ∀ i (hi : i < L.length), i < k + 1 → ¬ 0 < cmpK L[i] x := fun i hi hik => by
  by_cases e : i = k
  · subst e; exact h
  · exact cmpK_mono (List.pairwise_iff_getElem.1 hL i k hi hk (by omega)) h
theorem ins_sorted {L : List Pr} {x : Pr} {k : Nat} (hL : L.Pairwise leK) (hk : k ≤ L.length) (h1 : ∀ i (hi : i < L.length), k ≤ i → 0 < cmpK L[i] x) (h2 : ∀ i (hi : i < L.length), i < k → ¬ 0 < cmpK L[i] x) :
    sortK (L ++ [x]) = L.take k ++ [x] ++ L.drop k := by
  refine sortK_unique ((sortK_isPerm _).trans ?_) (sortK_pairwise _) ?_
  · conv => lhs; rw [← List.take_append_drop k L]
    rw [List.append_assoc, List.append_assoc]
    exact List.Perm.append_left _ List.perm_append_comm
  · rw [List.pairwise_append, List.pairwise_append]
    refine ⟨⟨hL.sublist (List.take_sublist _ _), List.pairwise_singleton _ _, fun a ha b hb => ?_⟩, hL.sublist (List.drop_sublist _ _), fun a ha b hb => ?_⟩
    · simp at hb; subst hb
      obtain ⟨i, hi, rfl⟩ := List.getElem_of_mem ha
      simp at hi
      rw [List.getElem_take]
      exact leK_of_not (h2 i (by omega) (by omega))
    · obtain ⟨j, hj, rfl⟩ := List.getElem_of_mem hb
      simp at hj
      rw [List.getElem_drop]
      rcases List.mem_append.1 ha with ha | ha
      · obtain ⟨i, hi, rfl⟩ := List.getElem_of_mem ha
        simp at hi
        rw [List.getElem_take]
        exact List.pairwise_iff_getElem.1 hL i (k + j) (by omega) (by omega) (by omega)
      · simp at ha; subst ha
        exact leK_of_pos (h1 (k + j) (by omega) (by omega))
end Go.Proofs.Ytmennobdgfgjaaa
