/-
  A slice that reads as keys.
-/
import Derived.Test.YtbfnmgjpkieaoaaKeyFuncs
import Derived.Test.YtbfnmgjpkieaoaaAppend
namespace Go.Proofs.Ytbfnmgjpkieaoaa
open Go Go.RowKit Go.Maps Go.Sort

def KRow (w : World) (L : Nat → Prop) (v : Value) (ks : List Pr) : Prop :=
  ∃ A c, v = .slice A ks.length c ∧ ks.length ≤ c ∧ (0 < ks.length → ∃ g o, A = some ⟨g, o, none⟩ ∧ L g ∧ g < w.heap.size ∧ ∀ j u, (cellsP ks)[j]? = some u → w.cell? ⟨g, o + j, none⟩ = some u)

theorem KRow.moves {S L : Nat → Prop} {w w' : World} {v : Value} {ks : List Pr} (h : KRow w L v ks) (hm : Moves S w w') (hs : ∀ i, L i → i < w.heap.size → ¬ S i) : KRow w' L v ks := by
  obtain ⟨A, c, hv, hc, hx⟩ := h
  refine ⟨A, c, hv, hc, fun h0 => ?_⟩
  obtain ⟨g, o, hA, hL, hg, hcell⟩ := hx h0
  exact ⟨g, o, hA, hL, Nat.lt_of_lt_of_le hg hm.size, fun j u hu => (hm.cell (p := ⟨g, o + j, none⟩) hg (hs g hL hg)).trans (hcell j u hu)⟩
theorem KRow.mono {L L' : Nat → Prop} {w : World} {v : Value} {ks : List Pr} (h : KRow w L v ks) (hl : ∀ i, L i → i < w.heap.size → L' i) : KRow w L' v ks := by
  obtain ⟨A, c, hv, hc, hx⟩ := h
  refine ⟨A, c, hv, hc, fun h0 => ?_⟩
  obtain ⟨g, o, hA, hL, hg, hcell⟩ := hx h0
  exact ⟨g, o, hA, hl g hL hg, hg, hcell⟩

end Go.Proofs.Ytbfnmgjpkieaoaa
