/-
  An argument that is a slice of slices of integers.
-/
import Derived.Test.YtnagpianaghjeaaBdRingLasts27
import Derived.Deep.Matrix
namespace Go.Proofs.Ytnagpianaghjeaa
open Go Go.RowKit Go.ChangeShapes Go.WideShapes Go.Deep

/-- A slice of slices that reads as rows of integers, all in blocks of which L holds. -/
def Rows2 (k : IntKind) (w : World) (L : Nat → Prop) (v : Value) (zss : List (List Int)) : Prop :=
  ∃ (A : Option Addr) (c : Nat) (vs : List Value), v = .slice A zss.length c ∧ zss.length ≤ c ∧ vs.length = zss.length ∧ (0 < zss.length → ∃ g o, A = some ⟨g, o, none⟩ ∧ L g ∧ g < w.heap.size ∧ ∀ j u, vs[j]? = some u → w.cell? ⟨g, o + j, none⟩ = some u) ∧
    ∀ i (h : i < zss.length) (h' : i < vs.length), Row w L vs[i] (zss[i].map (Value.int k))

theorem Rows2.moves {k : IntKind} {S L : Nat → Prop} {w w' : World} {v : Value} {zss : List (List Int)} (h : Rows2 k w L v zss) (hm : Moves S w w') (hs : ∀ i, L i → i < w.heap.size → ¬ S i) : Rows2 k w' L v zss := by
  obtain ⟨A, c, vs, hv, hc, hl, hx, hr⟩ := h
  refine ⟨A, c, vs, hv, hc, hl, fun h0 => ?_, fun i hi hi' => (hr i hi hi').moves hm hs⟩
  obtain ⟨g, o, hA, hlo, hlt, hcell⟩ := hx h0
  exact ⟨g, o, hA, hlo, Nat.lt_of_lt_of_le hlt hm.size, fun j u hu => (hm.cell (p := ⟨g, o + j, none⟩) hlt (hs g hlo hlt)).trans (hcell j u hu)⟩

section
variable {H : Type} {enc : TypeId × Value → H} {P : Program} {W : World} {r : Reach} {b0 : Nat} {t e q : TypeId} {v : Value} {d : DataW H} {p : List MemPlace}
theorem add_plain (g o i : Nat) : (⟨g, o, none⟩ : Addr).add i = ⟨g, o + i, none⟩ := by unfold Addr.add; split <;> simp_all

theorem open_rows2 {k : IntKind} (ht : P.underlying t = some (.slice e)) (he : P.underlying e = some (.slice q)) (hq : P.underlying q = some (.int k)) (ce : P.cellsOf e = 1) (cq : P.cellsOf q = 1)
    (hv : Value.okWide P W r b0 t v) (h : DataW.Trod enc P W 0 (fun _ => true) true t v d p) :
    ∃ zss : List (List Int), Rows2 k W (fun i => i < W.heap.size) v zss ∧ ∀ zs ∈ zss, ∀ z ∈ zs, (Lit.int k z).wf = true := by
  obtain ⟨a, len, cap, rfl⟩ := okWide_slice ht hv
  obtain ⟨fuel, hf⟩ := h
  rcases open_int_rows ht he hq ce cq hf with ⟨hcs, _⟩ | ⟨x, l, c, A, L, C, Z, hcs, _, hl, hm, _, hcell⟩
  · simp [Value.cells] at hcs
    obtain ⟨rfl, rfl, rfl⟩ := hcs
    exact ⟨[], ⟨none, 0, [], rfl, Nat.le_refl _, rfl, fun h => absurd h (by simp), fun i hi => absurd hi (by simp)⟩, by simp⟩
  · simp [Value.cells] at hcs
    obtain ⟨rfl, rfl, rfl⟩ := hcs
    refine ⟨(List.range len).map fun r => (Z r).take (L r), ⟨some x, cap, (List.range len).map fun r => .slice (A r) (L r) (C r), by simp, by simpa using hl, by simp, fun h0 => ?_, fun i hi hi' => ?_⟩, fun zs hzs => ?_⟩
    · have h0 : 0 < len := by simpa using h0
      have h1 := (hcell 0 (by omega)).1
      have ha : x = ⟨x.block, x.off, none⟩ := addr_of_cell (by simpa [Addr.add] using h1)
      have hlt := World.block_lt_of_cell? W _ h1
      refine ⟨x.block, x.off, by rw [← ha], by simpa [Addr.add] using hlt, by simpa [Addr.add] using hlt, fun j u hu => ?_⟩
      have hj : j < len := by
        have := (List.getElem?_eq_some_iff.1 hu).1
        simpa using this
      have h2 := (hcell j (by omega)).1
      rw [ha, add_plain] at h2
      rw [h2]
      rw [List.getElem?_map, List.getElem?_range hj] at hu
      simpa using hu
    · have hi0 : i < len := by simpa using hi
      obtain ⟨h1, h2, h3, h4, h5, h6, h7⟩ := hcell i (by omega)
      simp only [List.getElem_map, List.getElem_range]
      have hn : ((Z i).take (L i)).length = L i := by rw [List.length_take]; omega
      cases hA : A i with
      | none =>
        have := h6 hA
        refine ⟨none, C i, by rw [List.length_map, hn], by rw [List.length_map, hn]; omega, fun h0 => ?_⟩
        rw [List.length_map, hn] at h0
        omega
      | some a' =>
        refine row_of_adds (by rw [List.length_map, hn]) h2 fun j u hu => ?_
        have hj : j < L i := by
          have := (List.getElem?_eq_some_iff.1 hu).1
          rw [List.length_map, hn] at this
          exact this
        rw [(h7 a' hA).2 j (by omega)]
        rw [List.getElem?_map, List.getElem?_take_of_lt hj, List.getElem?_eq_getElem (by omega)] at hu
        rw [List.getD_eq_getElem?_getD, List.getElem?_eq_getElem (by omega)]
        simpa using hu
    · obtain ⟨i, hi, rfl⟩ := List.mem_map.1 hzs
      have hi : i < len := by simpa using hi
      intro z hz
      exact (hcell i (by omega)).2.2.2.2.1 z (List.mem_of_mem_take hz)
end
end Go.Proofs.Ytnagpianaghjeaa
