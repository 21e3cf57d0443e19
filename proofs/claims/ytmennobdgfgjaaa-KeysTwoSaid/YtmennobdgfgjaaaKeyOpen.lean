/-
  Arguments that are keys, slices of keys, opened.
-/
import Derived.Test.YtmennobdgfgjaaaHandActs
import Derived.Test.YtmennobdgfgjaaaKeySet
import Derived.Lib.SmallJoins
namespace Go.Proofs.Ytmennobdgfgjaaa
open Go Go.RowKit Go.ChangeShapes Go.WideShapes Go.Deep Go.Joins

section
variable {H : Type} {enc : TypeId × Value → H} {W : World} {r : Reach} {b0 : Nat}

set_option maxRecDepth 100000 in
theorem open_key {v : Value} {d : DataW H} {p : List MemPlace} (hv : Value.okWide Try.prog W r b0 49 v) (h : DataW.Trod enc Try.prog W 0 (fun _ => true) true 49 v d p) :
    ∃ k : Pr, v = encK k ∧ wf2 k := by
  obtain ⟨u0, u1, y0, y1, n, rfl, -, -, h0, h1⟩ := open_agg2 Try.underlying49 (by kernel_rfl) (by kernel_rfl) hv h
  obtain ⟨n0, e0, rfl, w0⟩ := DataW.trod_int Try.underlying3 h0
  obtain ⟨n1, e1, rfl, w1⟩ := DataW.trod_int Try.underlying3 h1
  simp at e0 e1
  subst e0 e1
  exact ⟨(n0, n1), rfl, w0, w1⟩

set_option maxRecDepth 100000 in
theorem open_keys_at {fuel : Nat} {v : Value} {x : DataW H × List MemPlace} (h : DataW.trod enc Try.prog W 0 (fun _ => true) true fuel 64 [v] = some x) : ∃ ks : List Pr, KRow W (fun i => i < W.heap.size) v ks ∧ ∀ k ∈ ks, wf2 k := by
  rcases open_structs Try.underlying64 Try.underlying49 (by kernel_rfl) (by kernel_rfl) h with hcs | ⟨a, len, cap, hcs, hl, hm, hi⟩
  · simp at hcs
    subst hcs
    exact ⟨[], ⟨none, 0, rfl, Nat.le_refl _, fun h => absurd h (by simp)⟩, by simp⟩
  · simp at hcs
    subst hcs
    have each : ∀ i, i < len → ∃ k : Pr, W.cell? (a.add (i * 2)) = some (.int .i64 k.1) ∧ W.cell? (a.add (i * 2 + 1)) = some (.int .i64 k.2) ∧ wf2 k := fun i hil => by
      obtain ⟨n, hj⟩ := hi i hil
      obtain ⟨v0, y0, c0, t0⟩ := hj 0 _ rfl
      obtain ⟨v1, y1, c1, t1⟩ := hj 1 _ rfl
      obtain ⟨n0, e0, rfl, w0⟩ := DataW.trod_int Try.underlying3 t0
      obtain ⟨n1, e1, rfl, w1⟩ := DataW.trod_int Try.underlying3 t1
      simp at e0 e1
      subst e0 e1
      exact ⟨(n0, n1), c0, c1, w0, w1⟩
    obtain ⟨L, hL, hLp⟩ := choose_list len each
    subst hL
    refine ⟨L, ⟨_, cap, rfl, hl, fun h0 => ?_⟩, fun k hk => ?_⟩
    · have h1 := (hLp 0 h0).1
      have ha : a = ⟨a.block, a.off, none⟩ := addr_of_cell (by simpa [Addr.add] using h1)
      have hlt := World.block_lt_of_cell? W _ h1
      have hlt' : a.block < W.heap.size := by simpa [Addr.add] using hlt
      refine ⟨a.block, a.off, by rw [← ha], hlt', hlt', fun j u hu => ?_⟩
      have hj : j < L.length * 2 := by
        have := (List.getElem?_eq_some_iff.1 hu).1
        rwa [cellsP_len] at this
      have hq : j / 2 < L.length := by omega
      have hp := hLp (j / 2) hq
      rw [add_of ha, add_of ha] at hp
      have hg := cellsP_get hq
      rcases Nat.mod_two_eq_zero_or_one j with e | e
      · have ej : j / 2 * 2 = j := by omega
        rw [ej] at hp hg
        rw [hg.1] at hu
        cases hu
        exact hp.1
      · have ej : j / 2 * 2 + 1 = j := by omega
        rw [ej] at hp hg
        rw [hg.2] at hu
        cases hu
        exact hp.2.1
    · obtain ⟨i, hi, rfl⟩ := List.getElem_of_mem hk
      exact (hLp i hi).2.2

set_option maxRecDepth 100000 in
theorem open_keys {v : Value} {d : DataW H} {p : List MemPlace} (hv : Value.okWide Try.prog W r b0 64 v) (h : DataW.Trod enc Try.prog W 0 (fun _ => true) true 64 v d p) : ∃ ks : List Pr, KRow W (fun i => i < W.heap.size) v ks ∧ ∀ k ∈ ks, wf2 k := by
  obtain ⟨A, len, cap, rfl⟩ := okWide_slice Try.underlying64 hv
  obtain ⟨fuel, hf⟩ := h
  exact open_keys_at hf
end
end Go.Proofs.Ytmennobdgfgjaaa
