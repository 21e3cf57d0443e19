/-
  Where the hand stops: plain laws on its way.
-/
import Derived.Test.YtbfnmgjpkieaoaaCKnown
namespace Go.Proofs.Ytbfnmgjpkieaoaa
open Go Go.RowKit Go.Maps Go.Sort Go.Proofs

theorem Sweep.all {fs : List FrS} {h i : Nat} {fs' : List FrS} {h' : Nat} (s : Sweep fs h i fs' h') :
    ((∀ (j : Nat) (f : FrS), fs[j]? = some f → f.pins ≤ 0 → (j < h → f.mark = false) ∧ (h ≤ j → f.mark = true)) ∨ ((∀ (j : Nat) (f : FrS), fs[j]? = some f → f.pins ≤ 0 → f.mark = false) ∧ ∀ (j : Nat) (f : FrS), fs[j]? = some f → j < h → 0 < f.pins)) →
    (∀ (j : Nat) (f : FrS), fs'[j]? = some f → f.pins ≤ 0 → f.mark = false) ∧ (∀ (j : Nat) (f : FrS), fs'[j]? = some f → j < i → 0 < f.pins) ∧ h' = (i + 1) % fs.length := by
  induction s with
  | stop fs h f hf hp hm =>
    rintro (h1 | ⟨h1, h2⟩)
    · have := (h1 h f hf hp).2 (Nat.le_refl _)
      rw [hm] at this
      cases this
    · exact ⟨h1, h2, rfl⟩
  | pass fs h f i fs' h' hf hp s ih =>
    intro hyp
    refine ih ?_
    have hl := (List.getElem?_eq_some_iff.1 hf).1
    by_cases hn : h + 1 < fs.length
    · rw [Nat.mod_eq_of_lt hn]
      rcases hyp with h1 | ⟨h1, h2⟩
      · left
        intro j g hg hgp
        have hne : j ≠ h := fun e => by subst e; rw [hf] at hg; cases hg; omega
        exact ⟨fun hj => (h1 j g hg hgp).1 (by omega), fun hj => (h1 j g hg hgp).2 (by omega)⟩
      · right
        refine ⟨h1, fun j g hg hj => ?_⟩
        by_cases e : j = h
        · subst e; rw [hf] at hg; cases hg; exact hp
        · exact h2 j g hg (by omega)
    · have e : h + 1 = fs.length := by omega
      rw [e, Nat.mod_self]
      right
      refine ⟨fun j g hg hgp => ?_, fun j g hg hj => absurd hj (by omega)⟩
      rcases hyp with h1 | ⟨h1, h2⟩
      · have hne : j ≠ h := fun e => by subst e; rw [hf] at hg; cases hg; omega
        have := (List.getElem?_eq_some_iff.1 hg).1
        exact (h1 j g hg hgp).1 (by omega)
      · exact h1 j g hg hgp
  | turn fs h f i fs' h' hf hp hm s ih =>
    intro hyp
    have hl := (List.getElem?_eq_some_iff.1 hf).1
    rw [List.length_set] at ih
    rcases hyp with h1 | ⟨h1, h2⟩
    · have back : ∀ (j : Nat) (g : FrS), (fs.set h (unmark f))[j]? = some g → g.pins ≤ 0 → (j = h ∧ g.mark = false) ∨ (j ≠ h ∧ fs[j]? = some g) := fun j g hg _ => by
        by_cases e : h = j
        · subst e
          rw [List.getElem?_set_self hl] at hg
          cases hg
          exact .inl ⟨rfl, rfl⟩
        · rw [List.getElem?_set_ne e] at hg
          exact .inr ⟨fun e' => e e'.symm, hg⟩
      refine ih ?_
      by_cases hn : h + 1 < fs.length
      · rw [Nat.mod_eq_of_lt hn]
        left
        intro j g hg hgp
        rcases back j g hg hgp with ⟨rfl, hgm⟩ | ⟨hne, hg'⟩
        · exact ⟨fun _ => hgm, fun hj => absurd hj (by omega)⟩
        · exact ⟨fun hj => (h1 j g hg' hgp).1 (by omega), fun hj => (h1 j g hg' hgp).2 (by omega)⟩
      · have e : h + 1 = fs.length := by omega
        rw [e, Nat.mod_self]
        right
        refine ⟨fun j g hg hgp => ?_, fun j g hg hj => absurd hj (by omega)⟩
        rcases back j g hg hgp with ⟨rfl, hgm⟩ | ⟨hne, hg'⟩
        · exact hgm
        · have := (List.getElem?_eq_some_iff.1 hg').1
          exact (h1 j g hg' hgp).1 (by omega)
    · have := h1 h f hf hp
      rw [hm] at this
      cases this

theorem Sweep.to {fs : List FrS} {h i : Nat} {fs' : List FrS} {h' : Nat} (s : Sweep fs h i fs' h') {u : Nat} : ∀ {g : FrS}, h ≤ u → fs[u]? = some g → g.pins ≤ 0 → g.mark = false → (∀ (j : Nat) (f : FrS), h ≤ j → j < u → fs[j]? = some f → 0 < f.pins ∨ f.mark = true) → i = u := by
  induction s with
  | stop fs h f hf hp hm =>
    intro g hu hg hgp hgm hh
    by_cases e : h = u
    · exact e
    · rcases hh h f (Nat.le_refl _) (by omega) hf with h1 | h1
      · omega
      · rw [hm] at h1; cases h1
  | pass fs h f i fs' h' hf hp s ih =>
    intro g hu hg hgp hgm hh
    have hne : h ≠ u := fun e => by subst e; rw [hf] at hg; cases hg; omega
    have hul := (List.getElem?_eq_some_iff.1 hg).1
    have hmod : (h + 1) % fs.length = h + 1 := Nat.mod_eq_of_lt (by omega)
    rw [hmod] at ih
    exact ih (by omega) hg hgp hgm (fun j f hj hju hf => hh j f (by omega) hju hf)
  | turn fs h f i fs' h' hf hp hm s ih =>
    intro g hu hg hgp hgm hh
    have hne : h ≠ u := fun e => by subst e; rw [hf] at hg; cases hg; rw [hm] at hgm; cases hgm
    have hul := (List.getElem?_eq_some_iff.1 hg).1
    have hmod : (h + 1) % fs.length = h + 1 := Nat.mod_eq_of_lt (by omega)
    rw [hmod] at ih
    refine ih (by omega) (by rw [List.getElem?_set_ne hne]; exact hg) hgp hgm (fun j f hj hju hf => ?_)
    rw [List.getElem?_set_ne (by omega)] at hf
    exact hh j f (by omega) hju hf

theorem Sweep.by_pass {fs : List FrS} {h i : Nat} {fs' : List FrS} {h' : Nat} (s : Sweep fs h i fs' h') {u : Nat} : ∀ {g : FrS}, h ≤ u → fs[u]? = some g → g.pins ≤ 0 → g.mark = false → (∀ (j : Nat) (f : FrS), h ≤ j → j < u → fs[j]? = some f → 0 < f.pins) → fs' = fs ∧ i = u ∧ h' = (u + 1) % fs.length := by
  induction s with
  | stop fs h f hf hp hm =>
    intro g hu hg hgp hgm hh
    by_cases e : h = u
    · subst e; exact ⟨rfl, rfl, rfl⟩
    · have := hh h f (Nat.le_refl _) (by omega) hf
      omega
  | pass fs h f i fs' h' hf hp s ih =>
    intro g hu hg hgp hgm hh
    have hne : h ≠ u := fun e => by subst e; rw [hf] at hg; cases hg; omega
    have hul := (List.getElem?_eq_some_iff.1 hg).1
    have hmod : (h + 1) % fs.length = h + 1 := Nat.mod_eq_of_lt (by omega)
    rw [hmod] at ih
    exact ih (by omega) hg hgp hgm (fun j f hj hju hf => hh j f (by omega) hju hf)
  | turn fs h f i fs' h' hf hp hm s ih =>
    intro g hu hg hgp hgm hh
    by_cases e : h = u
    · subst e; rw [hf] at hg; cases hg; rw [hm] at hgm; cases hgm
    · have := hh h f (Nat.le_refl _) (by omega) hf
      omega
theorem IsCache.beyond {w0 w w' : World} {base p lb m : Nat} {fs : List FrS} {hand : Nat} (h : IsCache w base p lb m fs hand) (hb : w0.heap.size ≤ base) (h0 : Moves (fun _ => False) w0 w) (hm : Moves (COwn p lb m) w w') : Moves (fun _ => False) w0 w' :=
  h0.andThen hm (fun k e hlt => by have := h.low; rcases e with e | e | e <;> omega)
theorem nil_row (w : World) : Row w (fun _ => False) (.slice none 0 0) (([] : List Int).map encB8) := ⟨none, 0, rfl, Nat.le_refl _, fun h => absurd h (by simp)⟩
theorem all_here {fs : List FrS} (h : ∀ (j : Nat) (f : FrS), fs[j]? = some f → f.here = true) : idxZ (fun f => !f.here) fs = -1 := idxZ_miss (fun j hj => by simp [h j _ (List.getElem?_eq_getElem hj)])
theorem all_count {fs : List FrS} (h : ∀ (j : Nat) (f : FrS), fs[j]? = some f → f.here = true) : (fs.filter FrS.here).length = fs.length := by
  rw [List.filter_eq_self.2 (fun f hf => by obtain ⟨j, hj, rfl⟩ := List.getElem_of_mem hf; exact h j _ (List.getElem?_eq_getElem hj))]
end Go.Proofs.Ytbfnmgjpkieaoaa
