/-
  Plain laws for CacheKeeps: which frame goes.
-/
import Derived.Test.YtbfnmgjpkieaoaaCSweep
namespace Go.Proofs.Ytbfnmgjpkieaoaa
open Go Go.RowKit Go.Maps Go.Sort Go.Proofs

/-- i pages are in, the other frames are empty. -/
structure K1 (n i : Nat) (fs : List FrS) : Prop where
  len : fs.length = n
  lo : ∀ (j : Nat) (f : FrS), fs[j]? = some f → j < i → f.here = true ∧ f.key = (0, (j : Int)) ∧ f.mark = true ∧ f.pins = 0
  hi : ∀ (j : Nat) (f : FrS), fs[j]? = some f → i ≤ j → f.here = false
/-- All are full; at the first place is the page 100; the others are marked where they were asked for. -/
structure K3 (n i : Nat) (asked : List Bool) (fs : List FrS) : Prop where
  len : fs.length = n
  first : ∀ (f : FrS), fs[0]? = some f → f.here = true ∧ f.key = (0, 100) ∧ f.pins = 0
  rest : ∀ (j : Nat) (f : FrS), fs[j]? = some f → 1 ≤ j → f.here = true ∧ f.key = (0, (j : Int)) ∧ f.pins = 0 ∧ f.mark = (decide (j < i) && asked.getD j false)
theorem K1.start (n : Nat) : K1 n 0 (List.replicate n zeroF) := ⟨by simp, fun j f _ h => absurd h (by omega), fun j f hf _ => by rw [List.eq_of_mem_replicate (List.mem_of_getElem? hf)]; rfl⟩
theorem K1.step {n i : Nat} {fs : List FrS} (h : K1 n i fs) {f : FrS} (h1 : f.here = true) (h2 : f.key = (0, (i : Int))) (h3 : f.mark = true) (h4 : f.pins = 0) : K1 n (i + 1) (fs.set i f) := by
  refine ⟨by rw [List.length_set]; exact h.len, fun j g hg hj => ?_, fun j g hg hj => ?_⟩
  · by_cases e : i = j
    · subst e
      rw [List.getElem?_set] at hg
      simp at hg
      obtain ⟨-, rfl⟩ := hg
      exact ⟨h1, h2, h3, h4⟩
    · rw [List.getElem?_set_ne e] at hg
      exact h.lo j g hg (by omega)
  · rw [List.getElem?_set_ne (by omega)] at hg
    exact h.hi j g hg (by omega)
theorem K1.empty {n i : Nat} {fs : List FrS} (h : K1 n i fs) (hi : i < n) : idxZ (fun f => !f.here) fs = i := by
  have hl : i < fs.length := by rw [h.len]; exact hi
  refine idxZ_hit hl (by simp [h.hi i _ (List.getElem?_eq_getElem hl) (Nat.le_refl _)]) (fun j hj hji => ?_)
  simp [(h.lo j _ (List.getElem?_eq_getElem hj) hji).1]
theorem K1.fresh {n i : Nat} {fs : List FrS} (h : K1 n i fs) {k : Pr} (hk : ∀ j : Nat, j < i → k ≠ (0, (j : Int))) : NoKey fs k := fun j f hf hh e => by
  by_cases hj : j < i
  · have := (h.lo j f hf hj).2.1
    rw [this] at e
    exact hk j hj e.symm
  · rw [h.hi j f hf (by omega)] at hh
    cases hh
theorem K3.of {n i h' : Nat} {fs fs' : List FrS} {asked : List Bool} (h : K1 n n fs) (hn : 1 ≤ n) (s : Sweep fs 0 i fs' h') {f : FrS} (hf : fs'[i]? = some f) {g : FrS} (g1 : g.here = true) (g2 : g.key = (0, 100)) (g3 : g.pins = 0) : f.key = (0, 0) ∧ h' = 1 % n ∧ K3 n 1 asked (fs'.set i g) := by
  obtain ⟨a1, a2, a3⟩ := s.all (.inl (fun j f hf _ => ⟨fun hj => absurd hj (by omega), fun _ => by
    have := (List.getElem?_eq_some_iff.1 hf).1
    exact (h.lo j f hf (by rw [← h.len]; exact this)).2.2.1⟩))
  have hk := s.keeps
  have hl := h.len
  have back : ∀ (j : Nat) (x : FrS), fs'[j]? = some x → x.here = true ∧ x.key = (0, (j : Int)) ∧ x.pins = 0 := fun j x hx => by
    obtain ⟨y, hy, e1, e2, e3, -⟩ := hk.2 j x hx
    have hj := (List.getElem?_eq_some_iff.1 hy).1
    obtain ⟨b1, b2, -, b4⟩ := h.lo j y hy (by omega)
    exact ⟨e2.trans b1, e1.trans b2, e3.trans b4⟩
  have hi0 : i = 0 := by
    by_cases e : i = 0
    · exact e
    · have h0 : 0 < fs'.length := by rw [hk.1, hl]; omega
      have := a2 0 _ (List.getElem?_eq_getElem h0) (by omega)
      have := (back 0 _ (List.getElem?_eq_getElem h0)).2.2
      omega
  subst hi0
  have h0 : 0 < fs'.length := by rw [hk.1, hl]; omega
  refine ⟨(back 0 f hf).2.1, by rw [a3, hl], ⟨by rw [List.length_set, hk.1, hl], fun x hx => ?_, fun j x hx hj => ?_⟩⟩
  · rw [List.getElem?_set_self h0] at hx
    cases hx
    exact ⟨g1, g2, g3⟩
  · rw [List.getElem?_set_ne (by omega)] at hx
    obtain ⟨b1, b2, b3⟩ := back j x hx
    refine ⟨b1, b2, b3, ?_⟩
    rw [a1 j x hx (by omega)]
    simp
    omega
theorem K3.keep {n i : Nat} {fs : List FrS} {asked : List Bool} (h : K3 n i asked fs) (hi : 1 ≤ i) (ha : asked.getD i false = false) : K3 n (i + 1) asked fs := by
  refine ⟨h.len, h.first, fun j f hf hj => ?_⟩
  obtain ⟨b1, b2, b3, b4⟩ := h.rest j f hf hj
  refine ⟨b1, b2, b3, b4.trans ?_⟩
  by_cases e : j = i
  · subst e; rw [ha]; simp
  · congr 1
    simp
    omega
theorem K3.ask {n i : Nat} {fs : List FrS} {asked : List Bool} (h : K3 n i asked fs) (hi : 1 ≤ i) (ha : asked.getD i false = true) {f : FrS} (hf : fs[i]? = some f) : K3 n (i + 1) asked (fs.set i { f with mark := true }) := by
  have hl := (List.getElem?_eq_some_iff.1 hf).1
  refine ⟨by rw [List.length_set]; exact h.len, fun x hx => ?_, fun j x hx hj => ?_⟩
  · rw [List.getElem?_set_ne (by omega)] at hx
    exact h.first x hx
  · by_cases e : i = j
    · subst e
      rw [List.getElem?_set_self hl] at hx
      cases hx
      obtain ⟨b1, b2, b3, b4⟩ := h.rest i f hf hj
      exact ⟨b1, b2, b3, by rw [ha]; simp⟩
    · rw [List.getElem?_set_ne e] at hx
      obtain ⟨b1, b2, b3, b4⟩ := h.rest j x hx hj
      refine ⟨b1, b2, b3, b4.trans ?_⟩
      congr 1
      simp
      omega
theorem K3.here {n i : Nat} {fs : List FrS} {asked : List Bool} (h : K3 n i asked fs) : ∀ (j : Nat) (f : FrS), fs[j]? = some f → f.here = true ∧ f.pins = 0 := fun j f hf => by
  by_cases e : j = 0
  · subst e; exact ⟨(h.first f hf).1, (h.first f hf).2.2⟩
  · exact ⟨(h.rest j f hf (by omega)).1, (h.rest j f hf (by omega)).2.2.1⟩
/-- The first place from 1 on that was not asked for: -1 where there is none. -/
def wantAt (asked : List Bool) (i : Nat) : Int := match (List.range i).find? (fun j => decide (1 ≤ j) && !asked.getD j false) with | some j => j | none => -1
theorem wantAt_one (asked : List Bool) : wantAt asked 1 = -1 := rfl
theorem wantAt_step (asked : List Bool) {i : Nat} (hi : 1 ≤ i) : wantAt asked (i + 1) = if asked.getD i false = false ∧ wantAt asked i < 0 then (i : Int) else wantAt asked i := by
  unfold wantAt
  rw [List.range_succ, List.find?_append]
  cases hx : (List.range i).find? (fun j => decide (1 ≤ j) && !asked.getD j false) with
  | some j =>
    simp only [Option.some_or]
    rw [if_neg (by rintro ⟨-, h⟩; omega)]
  | none =>
    simp only [Option.none_or, List.find?_cons, List.find?_nil]
    cases ha : asked.getD i false with
    | true => simp
    | false => simp [hi]
theorem wantAt_some {asked : List Bool} {i u : Nat} (h : wantAt asked i = u) : 1 ≤ u ∧ u < i ∧ asked.getD u false = false ∧ ∀ j, 1 ≤ j → j < u → asked.getD j false = true := by
  unfold wantAt at h
  split at h
  · rename_i j hj
    have e : j = u := by omega
    subst e
    obtain ⟨h1, pr, po, h2, h3⟩ := List.find?_eq_some_iff_append.1 hj
    have hm : j ∈ List.range i := by rw [h2]; simp
    have hlen : pr.length = j := by
      have hh := congrArg (fun l => l[pr.length]?) h2
      have hl := congrArg List.length h2
      simp at hh hl
      rw [List.getElem?_range (by omega)] at hh
      simpa using hh
    simp at h1 hm
    refine ⟨h1.1, hm, by simpa using h1.2, fun x hx hxj => ?_⟩
    have hxm : x ∈ pr := by
      have hh : (List.range i)[x]? = (pr ++ j :: po)[x]? := by rw [h2]
      rw [List.getElem?_range (by omega), List.getElem?_append_left (by omega)] at hh
      exact List.mem_of_getElem? hh.symm
    have := h3 x hxm
    simpa [hx] using this
  · omega
end Go.Proofs.Ytbfnmgjpkieaoaa
