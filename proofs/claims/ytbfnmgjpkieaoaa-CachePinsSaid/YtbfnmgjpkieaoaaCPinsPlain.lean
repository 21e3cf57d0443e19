/-
  Plain laws for CachePins: pinned pages never go.
-/
import Derived.Test.YtbfnmgjpkieaoaaCSweep
namespace Go.Proofs.Ytbfnmgjpkieaoaa
open Go Go.RowKit Go.Maps Go.Sort Go.Proofs

/-- How many of the first i are pinned. -/
def cnt (pins : List Bool) (i : Nat) : Nat := ((List.range i).filter (fun j => pins.getD j false)).length
theorem cnt_step (pins : List Bool) (i : Nat) : cnt pins (i + 1) = cnt pins i + (if pins.getD i false then 1 else 0) := by
  unfold cnt
  rw [List.range_succ, List.filter_append, List.length_append]
  congr 1
  simp only [List.filter_cons, List.filter_nil]
  split <;> simp_all
theorem cnt_le (pins : List Bool) (i : Nat) : cnt pins i ≤ i := by
  have := List.length_filter_le (fun j => pins.getD j false) (List.range i)
  simpa [cnt] using this
theorem cnt_all {pins : List Bool} {i : Nat} (h : cnt pins i = i) : ∀ j, j < i → pins.getD j false = true := by
  induction i with
  | zero => intro j hj; omega
  | succ i ih =>
    rw [cnt_step] at h
    have := cnt_le pins i
    have hi : pins.getD i false = true := by
      cases hp : pins.getD i false with
      | true => rfl
      | false => rw [hp] at h; simp at h; omega
    rw [hi] at h
    simp at h
    intro j hj
    by_cases e : j = i
    · subst e; exact hi
    · exact ih h j (by omega)
theorem cnt_some {pins : List Bool} {i : Nat} (h : cnt pins i < i) : ∃ j, j < i ∧ pins.getD j false = false := by
  induction i with
  | zero => omega
  | succ i ih =>
    cases hp : pins.getD i false with
    | false => exact ⟨i, by omega, hp⟩
    | true =>
      rw [cnt_step, hp] at h
      simp at h
      obtain ⟨j, hj, hpj⟩ := ih (by omega)
      exact ⟨j, by omega, hpj⟩

/-- i pages are in, some of them pinned; the other frames are empty. -/
structure P1 (n i : Nat) (pins : List Bool) (fs : List FrS) : Prop where
  len : fs.length = n
  lo : ∀ (j : Nat) (f : FrS), fs[j]? = some f → j < i → f.here = true ∧ f.key = (0, (j : Int)) ∧ f.mark = true ∧ f.dirty = true ∧ f.pins = if pins.getD j false then 1 else 0
  hi : ∀ (j : Nat) (f : FrS), fs[j]? = some f → i ≤ j → f.here = false
theorem P1.start (n : Nat) (pins : List Bool) : P1 n 0 pins (List.replicate n zeroF) := ⟨by simp, fun j f _ h => absurd h (by omega), fun j f hf _ => by rw [List.eq_of_mem_replicate (List.mem_of_getElem? hf)]; rfl⟩
theorem P1.step {n i : Nat} {pins : List Bool} {fs : List FrS} (h : P1 n i pins fs) {f : FrS} (h1 : f.here = true) (h2 : f.key = (0, (i : Int))) (h3 : f.mark = true) (h4 : f.dirty = true) (h5 : f.pins = if pins.getD i false then 1 else 0) : P1 n (i + 1) pins (fs.set i f) := by
  refine ⟨by rw [List.length_set]; exact h.len, fun j g hg hj => ?_, fun j g hg hj => ?_⟩
  · by_cases e : i = j
    · subst e
      rw [List.getElem?_set] at hg
      simp at hg
      obtain ⟨-, rfl⟩ := hg
      exact ⟨h1, h2, h3, h4, h5⟩
    · rw [List.getElem?_set_ne e] at hg
      exact h.lo j g hg (by omega)
  · rw [List.getElem?_set_ne (by omega)] at hg
    exact h.hi j g hg (by omega)
theorem P1.empty {n i : Nat} {pins : List Bool} {fs : List FrS} (h : P1 n i pins fs) (hi : i < n) : idxZ (fun f => !f.here) fs = i := by
  have hl : i < fs.length := by rw [h.len]; exact hi
  refine idxZ_hit hl (by simp [h.hi i _ (List.getElem?_eq_getElem hl) (Nat.le_refl _)]) (fun j hj hji => ?_)
  simp [(h.lo j _ (List.getElem?_eq_getElem hj) hji).1]
theorem P1.fresh {n i : Nat} {pins : List Bool} {fs : List FrS} (h : P1 n i pins fs) : NoKey fs (0, (i : Int)) := fun j f hf hh e => by
  by_cases hj : j < i
  · have := (h.lo j f hf hj).2.1
    rw [this] at e
    have := congrArg Prod.snd e
    simp at this
    omega
  · rw [h.hi j f hf (by omega)] at hh
    cases hh

/-- All frames are full: the pinned ones with their first page, the others with that or one of the new ones. -/
structure PG (n K : Nat) (pins : List Bool) (fs : List FrS) : Prop where
  len : fs.length = n
  all : ∀ (j : Nat) (f : FrS), fs[j]? = some f → f.here = true ∧ f.key.1 = 0 ∧ (pins.getD j false = true → f.key.2 = (j : Int) ∧ f.pins = 1 ∧ f.dirty = true) ∧ (pins.getD j false = false → f.pins = 0 ∧ (f.key.2 = (j : Int) ∨ (1000 ≤ f.key.2 ∧ f.key.2 < 1000 + (K : Int))))
/-- The others hold new pages alone. -/
def AllNew (pins : List Bool) (fs : List FrS) : Prop := ∀ (j : Nat) (f : FrS), fs[j]? = some f → pins.getD j false = false → 1000 ≤ f.key.2
/-- How far the hand has come. -/
def Prog (n K : Nat) (pins : List Bool) (fs : List FrS) (hand : Nat) : Prop :=
  (K = 0 ∧ hand = 0 ∧ ∀ (j : Nat) (f : FrS), fs[j]? = some f → pins.getD j false = false → f.mark = true) ∨
  (K ≤ hand ∧ hand < n ∧ (∀ (j : Nat) (f : FrS), fs[j]? = some f → pins.getD j false = false → j < hand → 1000 ≤ f.key.2) ∧ (∀ (j : Nat) (f : FrS), fs[j]? = some f → pins.getD j false = false → hand ≤ j → f.mark = false)) ∨
  AllNew pins fs

theorem PG.of {n : Nat} {pins : List Bool} {fs : List FrS} (h : P1 n n pins fs) : PG n 0 pins fs ∧ Prog n 0 pins fs 0 := by
  have hl := h.len
  have key : ∀ (j : Nat) (f : FrS), fs[j]? = some f → f.here = true ∧ f.key = (0, (j : Int)) ∧ f.mark = true ∧ f.dirty = true ∧ f.pins = if pins.getD j false then 1 else 0 := fun j f hf => by
    have := (List.getElem?_eq_some_iff.1 hf).1
    exact h.lo j f hf (by omega)
  refine ⟨⟨hl, fun j f hf => ?_⟩, .inl ⟨rfl, rfl, fun j f hf _ => (key j f hf).2.2.1⟩⟩
  obtain ⟨b1, b2, b3, b4, b5⟩ := key j f hf
  refine ⟨b1, by rw [b2], fun hp => ⟨by rw [b2], by rw [b5, hp]; rfl, b4⟩, fun hp => ⟨by rw [b5, hp]; rfl, .inl (by rw [b2])⟩⟩
theorem PG.sweep {n K h i h' : Nat} {pins : List Bool} {fs fs' : List FrS} (g : PG n K pins fs) (s : Sweep fs h i fs' h') : PG n K pins fs' := by
  have hk := s.keeps
  refine ⟨hk.1.trans g.len, fun j f hf => ?_⟩
  obtain ⟨y, hy, e1, e2, e3, e4, e5⟩ := hk.2 j f hf
  rw [e1, e2, e3, e5]
  exact g.all j y hy
theorem PG.free {n K : Nat} {pins : List Bool} {fs : List FrS} (g : PG n K pins fs) {j : Nat} {f : FrS} (hf : fs[j]? = some f) (hp : f.pins ≤ 0) : pins.getD j false = false := by
  cases hpj : pins.getD j false with
  | false => rfl
  | true =>
    have := ((g.all j f hf).2.2.1 hpj).2.1
    omega
theorem PG.put {n K : Nat} {pins : List Bool} {fs : List FrS} (g : PG n K pins fs) {i : Nat} (hp : pins.getD i false = false) {f : FrS} (h1 : f.here = true) (h2 : f.key = (0, 1000 + (K : Int))) (h3 : f.pins = 0) : PG n (K + 1) pins (fs.set i f) := by
  refine ⟨by rw [List.length_set]; exact g.len, fun j x hx => ?_⟩
  by_cases e : i = j
  · subst e
    rw [List.getElem?_set] at hx
    simp at hx
    obtain ⟨-, rfl⟩ := hx
    refine ⟨h1, by rw [h2], fun hp' => ?_, fun _ => ⟨h3, .inr ⟨by rw [h2]; simp; omega, by rw [h2]; simp; omega⟩⟩⟩
    rw [hp] at hp'
    cases hp'
  · rw [List.getElem?_set_ne e] at hx
    obtain ⟨b1, b2, b3, b4⟩ := g.all j x hx
    refine ⟨b1, b2, b3, fun hp' => ⟨(b4 hp').1, ?_⟩⟩
    rcases (b4 hp').2 with h | h
    · exact .inl h
    · exact .inr ⟨h.1, by omega⟩
theorem PG.fresh {n K : Nat} {pins : List Bool} {fs : List FrS} (g : PG n K pins fs) (hn : n ≤ 64) {x : Int} (hx : 1000 + (K : Int) ≤ x) : NoKey fs (0, x) := fun j f hf hh e => by
  have hj := (List.getElem?_eq_some_iff.1 hf).1
  have hl := g.len
  obtain ⟨b1, b2, b3, b4⟩ := g.all j f hf
  have e2 : f.key.2 = x := by rw [e]
  cases hp : pins.getD j false with
  | true => have := (b3 hp).1; omega
  | false =>
    rcases (b4 hp).2 with h | h
    · omega
    · omega
theorem Prog.next {n K h i h' : Nat} {pins : List Bool} {fs fs' : List FrS} (g : PG n K pins fs) (p : Prog n K pins fs h) (s : Sweep fs h i fs' h') {f : FrS} (h2 : f.key = (0, 1000 + (K : Int))) : Prog n (K + 1) pins (fs'.set i f) h' := by
  have hk := s.keeps
  have hl := g.len
  obtain ⟨f0, hf0, hp0, -⟩ := s.at_
  have hil := (List.getElem?_eq_some_iff.1 hf0).1
  have hpi := (g.sweep s).free hf0 hp0
  have unp : ∀ (j : Nat) (x : FrS), fs[j]? = some x → pins.getD j false = false → x.pins ≤ 0 := fun j x hx hp => by
    rw [((g.all j x hx).2.2.2 hp).1]; exact Int.le_refl _
  have unp' : ∀ (j : Nat) (x : FrS), fs'[j]? = some x → pins.getD j false = false → x.pins ≤ 0 := fun j x hx hp => by
    rw [(((g.sweep s).all j x hx).2.2.2 hp).1]; exact Int.le_refl _
  have pin : ∀ (j : Nat) (x : FrS), fs[j]? = some x → x.pins ≤ 0 → pins.getD j false = false := fun j x hx hp => g.free hx hp
  -- where the hand comes to be
  have fin : (∀ (j : Nat) (x : FrS), fs'[j]? = some x → pins.getD j false = false → i < j → x.mark = false) → (∀ (j : Nat) (x : FrS), fs'[j]? = some x → pins.getD j false = false → j < i → 1000 ≤ x.key.2) → K ≤ i → h' = (i + 1) % n → Prog n (K + 1) pins (fs'.set i f) h' := fun hm ho hKi hh => by
    by_cases hlt : i + 1 < n
    · rw [hh, Nat.mod_eq_of_lt hlt]
      refine .inr (.inl ⟨by omega, hlt, fun j x hx hp hj => ?_, fun j x hx hp hj => ?_⟩)
      · by_cases e : i = j
        · subst e
          rw [List.getElem?_set_self hil] at hx
          cases hx
          rw [h2]
          simp
          omega
        · rw [List.getElem?_set_ne e] at hx
          exact ho j x hx hp (by omega)
      · rw [List.getElem?_set_ne (by omega)] at hx
        exact hm j x hx hp (by omega)
    · refine .inr (.inr (fun j x hx hp => ?_))
      by_cases e : i = j
      · subst e
        rw [List.getElem?_set_self hil] at hx
        cases hx
        rw [h2]
        simp
        omega
      · rw [List.getElem?_set_ne e] at hx
        have hj := (List.getElem?_eq_some_iff.1 hx).1
        have := hk.1
        exact ho j x hx hp (by omega)
  have new : AllNew pins fs → Prog n (K + 1) pins (fs'.set i f) h' := fun hnew => .inr (.inr (fun j x hx hp => by
    by_cases e : i = j
    · subst e
      rw [List.getElem?_set_self hil] at hx
      cases hx
      rw [h2]
      simp
      omega
    · rw [List.getElem?_set_ne e] at hx
      obtain ⟨y, hy, e1, -⟩ := hk.2 j x hx
      rw [e1]
      exact hnew j y hy hp))
  rcases p with ⟨rfl, rfl, hm⟩ | ⟨hKh, hhn, ho, hm⟩ | hnew
  · obtain ⟨a1, a2, a3⟩ := s.all (.inl (fun j x hx hp => ⟨fun hj => absurd hj (by omega), fun _ => hm j x hx (pin j x hx hp)⟩))
    rw [hl] at a3
    refine fin (fun j x hx hp hj => a1 j x hx (unp' j x hx hp)) (fun j x hx hp hj => ?_) (by omega) a3
    have := a2 j x hx hj
    have := unp' j x hx hp
    omega
  · by_cases hex : ∃ u, h ≤ u ∧ u < n ∧ pins.getD u false = false
    · -- the first one
      obtain ⟨u, hu1, hu2, hu3, hu4⟩ : ∃ u, h ≤ u ∧ u < n ∧ pins.getD u false = false ∧ ∀ j, h ≤ j → j < u → pins.getD j false = true := by
        obtain ⟨u, h1, h2, h3⟩ := hex
        induction u using Nat.strongRecOn with
        | ind u ih =>
          by_cases hh : ∃ j, h ≤ j ∧ j < u ∧ pins.getD j false = false
          · obtain ⟨j, j1, j2, j3⟩ := hh
            exact ih j j2 j1 (by omega) j3
          · refine ⟨u, h1, h2, h3, fun j hj hju => ?_⟩
            cases hp : pins.getD j false with
            | true => rfl
            | false => exact (hh ⟨j, hj, hju, hp⟩).elim
      have hul : u < fs.length := by omega
      have hfu := List.getElem?_eq_getElem hul
      obtain ⟨e1, e2, e3⟩ := s.by_pass hu1 hfu (unp u _ hfu hu3) (hm u _ hfu hu3 hu1) (fun j x hj hju hx => by
        rw [((g.all j x hx).2.2.1 (hu4 j hj hju)).2.1]; decide)
      subst e1 e2
      rw [hl] at e3
      refine fin (fun j x hx hp hj => hm j x hx hp (by omega)) (fun j x hx hp hj => ?_) (by omega) e3
      by_cases hjh : j < h
      · exact ho j x hx hp hjh
      · rw [hu4 j (by omega) hj] at hp
        cases hp
    · refine new (fun j x hx hp => ?_)
      have hj := (List.getElem?_eq_some_iff.1 hx).1
      by_cases hjh : j < h
      · exact ho j x hx hp hjh
      · exact (hex ⟨j, by omega, by omega, hp⟩).elim
  · exact new hnew
theorem Prog.done {n K : Nat} {pins : List Bool} {fs : List FrS} {hand : Nat} (p : Prog n K pins fs hand) (hK : n ≤ K) (hn : 1 ≤ n) : AllNew pins fs := by
  rcases p with ⟨h, -⟩ | ⟨h1, h2, -⟩ | h
  · omega
  · omega
  · exact h
theorem PG.mark {n K : Nat} {pins : List Bool} {fs : List FrS} (g : PG n K pins fs) {k : Nat} {f : FrS} (hf : fs[k]? = some f) : PG n K pins (fs.set k { f with mark := true }) := by
  refine ⟨by rw [List.length_set]; exact g.len, fun j x hx => ?_⟩
  by_cases e : k = j
  · subst e
    rw [List.getElem?_set_self (List.getElem?_eq_some_iff.1 hf).1] at hx
    cases hx
    exact g.all k f hf
  · rw [List.getElem?_set_ne e] at hx
    exact g.all j x hx
theorem AllNew.mark {pins : List Bool} {fs : List FrS} (h : AllNew pins fs) {k : Nat} {f : FrS} (hf : fs[k]? = some f) : AllNew pins (fs.set k { f with mark := true }) := fun j x hx hp => by
  by_cases e : k = j
  · subst e
    rw [List.getElem?_set_self (List.getElem?_eq_some_iff.1 hf).1] at hx
    cases hx
    exact h k f hf hp
  · rw [List.getElem?_set_ne e] at hx
    exact h j x hx hp
theorem PG.gone {n K : Nat} {pins : List Bool} {fs : List FrS} (g : PG n K pins fs) (hnew : AllNew pins fs) {k : Nat} (hk : k < n) (hn : n ≤ 64) (hp : pins.getD k false = false) : NoKey fs (0, (k : Int)) := fun j f hf hh e => by
  have hj := (List.getElem?_eq_some_iff.1 hf).1
  have hl := g.len
  have e2 : f.key.2 = k := by rw [e]
  cases hpj : pins.getD j false with
  | true =>
    have := ((g.all j f hf).2.2.1 hpj).1
    have hjk : j = k := by omega
    rw [hjk, hp] at hpj
    cases hpj
  | false =>
    have := hnew j f hf hpj
    omega
theorem PG.key {n K : Nat} {pins : List Bool} {fs : List FrS} (g : PG n K pins fs) {k : Nat} {f : FrS} (hf : fs[k]? = some f) (hp : pins.getD k false = true) : f.here = true ∧ f.key = (0, (k : Int)) ∧ f.pins = 1 ∧ f.dirty = true := by
  obtain ⟨b1, b2, b3, -⟩ := g.all k f hf
  exact ⟨b1, Prod.ext b2 (b3 hp).1, (b3 hp).2.1, (b3 hp).2.2⟩
end Go.Proofs.Ytbfnmgjpkieaoaa
