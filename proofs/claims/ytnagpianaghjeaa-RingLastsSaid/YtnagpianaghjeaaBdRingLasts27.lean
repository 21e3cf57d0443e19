/-
  An argument that is a slice of integers or of bools, as a row of its elements' cells.
-/
import Derived.Test.YtnagpianaghjeaaBdRingLasts1
import Derived.ChangeSlices
import Derived.Deep.Grids
import Derived.WideShapes
namespace Go.Proofs.Ytnagpianaghjeaa
open Go Go.RowKit Go.ChangeShapes Go.WideShapes Go.Deep

section
variable {H : Type} {enc : TypeId × Value → H} {P : Program} {W : World} {r : Reach} {b0 : Nat} {t e : TypeId} {v : Value} {d : DataW H} {p : List MemPlace}

theorem addr_of_cell {w : World} {a : Addr} {u : Value} (h : w.cell? a = some u) : a = ⟨a.block, a.off, none⟩ := by
  obtain ⟨b, o, s⟩ := a
  cases s with
  | none => rfl
  | some s => unfold World.cell? at h; split at h <;> simp at h

theorem row_of_adds {w : World} {a : Addr} {xs : List Value} {n cap : Nat} (hn : xs.length = n) (hc : n ≤ cap) (h : ∀ i u, xs[i]? = some u → w.cell? (a.add i) = some u) : Row w (fun i => i < w.heap.size) (.slice (some a) n cap) xs := by
  subst hn
  refine ⟨_, cap, rfl, hc, fun h0 => ?_⟩
  have h1 := h 0 _ (List.getElem?_eq_getElem h0)
  have ha : a = ⟨a.block, a.off, none⟩ := addr_of_cell (by simpa [Addr.add] using h1)
  have hlt := World.block_lt_of_cell? w _ h1
  refine ⟨a.block, a.off, by rw [← ha], by simpa [Addr.add] using hlt, by simpa [Addr.add] using hlt, fun j u hu => ?_⟩
  have h2 := h j u hu
  rw [ha] at h2
  unfold Addr.add at h2
  by_cases hj : j = 0
  · subst hj; simpa using h2
  · simpa [hj] using h2

theorem open_row_int {k : IntKind} (ht : P.underlying t = some (.slice e)) (he : P.underlying e = some (.int k)) (hc : P.cellsOf e = 1) (hv : Value.okWide P W r b0 t v) (h : DataW.Trod enc P W 0 (fun _ => true) true t v d p) :
    ∃ zs : List Int, Row W (fun i => i < W.heap.size) v (zs.map (Value.int k)) ∧ ∀ z ∈ zs, (Lit.int k z).wf = true := by
  obtain ⟨a, len, cap, rfl⟩ := okWide_slice ht hv
  obtain ⟨fuel, hf⟩ := h
  rcases open_ints ht he hc hf with ⟨hcs, _⟩ | ⟨x, l, c, zs, hcs, _, hl, hm, hz, _, hcell, hwz⟩
  · simp [Value.cells] at hcs
    obtain ⟨rfl, rfl, rfl⟩ := hcs
    exact ⟨[], ⟨none, 0, rfl, Nat.le_refl _, fun h => absurd h (by simp)⟩, by simp⟩
  · simp [Value.cells] at hcs
    obtain ⟨rfl, rfl, rfl⟩ := hcs
    simp at hz
    refine ⟨zs.take len, row_of_adds (by simp; omega) hl fun i u hu => ?_, fun z hz' => hwz z (List.mem_of_mem_take hz')⟩
    have hi : i < len ∧ i < zs.length := by
      have := (List.getElem?_eq_some_iff.1 hu).1
      simp at this
      omega
    rw [hcell i hi.2]
    rw [List.getElem?_map, List.getElem?_take_of_lt hi.1, List.getElem?_eq_getElem hi.2] at hu
    rw [List.getD_eq_getElem?_getD, List.getElem?_eq_getElem hi.2]
    simpa using hu

theorem open_row_bool (ht : P.underlying t = some (.slice e)) (he : P.underlying e = some .bool) (hc : P.cellsOf e = 1) (hv : Value.okWide P W r b0 t v) (h : DataW.Trod enc P W 0 (fun _ => true) true t v d p) :
    ∃ zs : List Bool, Row W (fun i => i < W.heap.size) v (zs.map Value.bool) := by
  obtain ⟨a, len, cap, rfl⟩ := okWide_slice ht hv
  obtain ⟨fuel, hf⟩ := h
  rcases open_bools ht he hc hf with ⟨hcs, _⟩ | ⟨x, l, c, B, hcs, _, hl, hm, _, hcell⟩
  · simp [Value.cells] at hcs
    obtain ⟨rfl, rfl, rfl⟩ := hcs
    exact ⟨[], ⟨none, 0, rfl, Nat.le_refl _, fun h => absurd h (by simp)⟩⟩
  · simp [Value.cells] at hcs
    obtain ⟨rfl, rfl, rfl⟩ := hcs
    refine ⟨(List.range len).map B, row_of_adds (by simp) hl fun i u hu => ?_⟩
    have hi : i < len := by
      have := (List.getElem?_eq_some_iff.1 hu).1
      simpa using this
    rw [hcell i (by omega)]
    rw [List.getElem?_map, List.getElem?_map, List.getElem?_range hi] at hu
    simpa using hu
end
end Go.Proofs.Ytnagpianaghjeaa
