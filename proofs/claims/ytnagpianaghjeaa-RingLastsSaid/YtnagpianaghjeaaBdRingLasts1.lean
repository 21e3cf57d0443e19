/-
  Words on worlds: nothing has turned but blocks that may, and new ones.
-/
import Derived.Maps.OwnSet
import Derived.Below
import Derived.Deep.Draws
namespace Go.Proofs.Ytnagpianaghjeaa
open Go Go.RowKit Go.Maps

structure Moves (S : Nat → Prop) (w w' : World) : Prop where
  os : w'.os = w.os
  tape : w'.tape = w.tape
  output : w'.output = w.output
  size : w.heap.size ≤ w'.heap.size
  block : ∀ k, k < w.heap.size → ¬ S k → w'.heap[k]? = w.heap[k]?

section
variable {S S' : Nat → Prop} {w w' w'' : World}
theorem Moves.refl (S : Nat → Prop) (w : World) : Moves S w w := ⟨rfl, rfl, rfl, Nat.le_refl _, fun _ _ _ => rfl⟩
theorem Moves.trans (h : Moves S w w') (k : Moves S w' w'') : Moves S w w'' :=
  ⟨k.os.trans h.os, k.tape.trans h.tape, k.output.trans h.output, Nat.le_trans h.size k.size, fun i hi hn => (k.block i (Nat.lt_of_lt_of_le hi h.size) hn).trans (h.block i hi hn)⟩
/-- A later step may turn blocks that are new to the first world. -/
theorem Moves.andThen (h : Moves S w w') (k : Moves S' w' w'') (hs : ∀ i, S' i → i < w.heap.size → S i) : Moves S w w'' :=
  ⟨k.os.trans h.os, k.tape.trans h.tape, k.output.trans h.output, Nat.le_trans h.size k.size, fun i hi hn => (k.block i (Nat.lt_of_lt_of_le hi h.size) (fun e => hn (hs i e hi))).trans (h.block i hi hn)⟩
theorem Moves.mono (h : Moves S w w') (hs : ∀ i, S i → S' i) : Moves S' w w' := ⟨h.os, h.tape, h.output, h.size, fun i hi hn => h.block i hi (fun e => hn (hs i e))⟩
theorem Moves.none (h : Moves (fun _ => False) w w') (S : Nat → Prop) : Moves S w w' := h.mono fun _ e => e.elim
theorem Moves.alloc (h : Moves S w w') (o : Obj) : Moves S w (w'.alloc o) :=
  h.trans ⟨rfl, rfl, rfl, by simp, fun k hk _ => Below.heap_alloc _ _ _ hk⟩
theorem Moves.drew (h : Moves S w w') : Moves S w w'.drew := ⟨h.os, h.tape, h.output, h.size, h.block⟩
theorem Moves.drewN (h : Moves S w w') (n : Nat) : Moves S w (w'.drewN n) := ⟨h.os, h.tape, h.output, h.size, h.block⟩
theorem Moves.setCell (h : Moves S w w') {p : Addr} (hp : p.block < w.heap.size → S p.block) (u : Value) : Moves S w (w'.setCell p u) :=
  ⟨h.os, h.tape, h.output, by have := h.size; simpa [World.setCell] using this, fun k hk hn => (Below.heap_setCell _ _ _ _ (fun e => hn (by subst e; exact hp hk))).trans (h.block k hk hn)⟩
theorem Moves.grown {row : Option Nat} (h : Moves S w w') (hg : w'.grownBy w'' row) (hr : ∀ k, row = some k → k < w.heap.size → S k) : Moves S w w'' :=
  ⟨hg.os.trans h.os, hg.tape.trans h.tape, hg.output.trans h.output, Nat.le_trans h.size hg.size, fun i hi hn => (hg.block i (Nat.lt_of_lt_of_le hi h.size) (fun e => hn (hr i e.symm hi))).trans (h.block i hi hn)⟩
theorem Moves.of_grown {row : Option Nat} (hg : w.grownBy w' row) (hr : ∀ k, row = some k → S k) : Moves S w w' := (Moves.refl S w).grown hg fun k e _ => hr k e
theorem Moves.turned {b : Nat} (h : Moves S w w') (ht : w'.mapTurned w'' b) (hb : b < w.heap.size → S b) : Moves S w w'' := h.grown ht.grown fun k e hk => by cases e; exact hb hk
theorem Moves.of_below (h : Below w.heap.size w w') : Moves S w w' := ⟨h.os, h.tape, h.output, h.size, fun k hk _ => h.block k hk⟩
theorem Moves.below (h : Moves S w w') {B : Nat} (hB : B ≤ w.heap.size) (hs : ∀ i, i < B → ¬ S i) : Below B w w' := ⟨h.os, h.tape, h.output, h.size, fun k hk => h.block k (by omega) (hs k hk)⟩
theorem Moves.grownBy (h : Moves S w w') {row : Option Nat} (hs : ∀ i, S i → row = some i) : w.grownBy w' row := ⟨h.os, h.tape, h.output, h.size, fun k hk hn => h.block k hk (fun e => hn (hs k e).symm)⟩
theorem Moves.cell (h : Moves S w w') {p : Addr} (hlt : p.block < w.heap.size) (hp : ¬ S p.block) : w'.cell? p = w.cell? p := World.cell?_of_block (w := w) (h.block p.block hlt hp)
theorem Moves.frozen (h : Moves S w w') {p : Addr} (hlt : p.block < w.heap.size) (hp : ¬ S p.block) : w'.frozen? p = w.frozen? p := World.frozen?_of_block (w := w) (h.block p.block hlt hp)
theorem Moves.ownsMap {H : Type} {P : Program} {k : TypeId} {R : Value → Option (DataW H × List MemPlace)} {b n : Nat} {D : DataW H} (h : Moves S w w') (ho : w.ownsMap P k R b n D) (hb : ¬ S b) : w'.ownsMap P k R b n D := by
  have hlt := ho.lt
  obtain ⟨es, clock, hb', r⟩ := ho
  exact ⟨es, clock, (h.block b hlt hb).trans hb', r⟩
end

/-- A map's bound is no more than what is in it. -/
theorem ownsMap_tight {H : Type} {P : Program} {k : TypeId} {R : Value → Option (DataW H × List MemPlace)} {w : World} {b n : Nat} {D : DataW H} (h : w.ownsMap P k R b n D) : w.ownsMap P k R b (Maps.size D) D := by
  obtain ⟨es, clock, hb, F, hs, rfl⟩ := h
  exact ⟨es, clock, hb, F, by simp [Maps.size, length_sorted], rfl⟩

/-- A slice that reads as a list of cells, its cells in a block of which L holds. -/
def Row (w : World) (L : Nat → Prop) (v : Value) (xs : List Value) : Prop :=
  ∃ A c, v = .slice A xs.length c ∧ xs.length ≤ c ∧ (0 < xs.length → ∃ g o, A = some ⟨g, o, none⟩ ∧ L g ∧ g < w.heap.size ∧ ∀ j u, xs[j]? = some u → w.cell? ⟨g, o + j, none⟩ = some u)

section
variable {S L L' : Nat → Prop} {w w' : World} {v : Value} {xs : List Value}
theorem Row.moves (h : Row w L v xs) (hm : Moves S w w') (hs : ∀ i, L i → i < w.heap.size → ¬ S i) : Row w' L v xs := by
  obtain ⟨A, c, hv, hc, hx⟩ := h
  refine ⟨A, c, hv, hc, fun h0 => ?_⟩
  obtain ⟨g, o, hA, hlo, hlt, hcell⟩ := hx h0
  exact ⟨g, o, hA, hlo, Nat.lt_of_lt_of_le hlt hm.size, fun j u hu => (hm.cell (p := ⟨g, o + j, none⟩) hlt (hs g hlo hlt)).trans (hcell j u hu)⟩
theorem Row.mono (h : Row w L v xs) (hl : ∀ i, L i → i < w.heap.size → L' i) : Row w L' v xs := by
  obtain ⟨A, c, hv, hc, hx⟩ := h
  refine ⟨A, c, hv, hc, fun h0 => ?_⟩
  obtain ⟨g, o, hA, hlo, hlt, r⟩ := hx h0
  exact ⟨g, o, hA, hl g hlo hlt, hlt, r⟩
theorem Row.of_owns {base n : Nat} {e : TypeId} (h : w.ownsRow base e 1 v n xs) : Row w (fun i => base ≤ i) v xs := by
  obtain rfl : xs.length = n := by simpa using h.1
  rcases h.2 with ⟨rfl, h0⟩ | ⟨g, cap, cur, rfl, hb, hg, hn, hm, hs, ht⟩
  · exact ⟨none, 0, by rw [h0], by omega, fun h' => by omega⟩
  · refine ⟨_, cap, rfl, hn, fun _ => ⟨g, 0, rfl, hb, (Array.getElem?_eq_some_iff.1 hg).1, fun j u hu => ?_⟩⟩
    have hj : j < xs.length := (List.getElem?_eq_some_iff.1 hu).1
    rw [← ht, List.getElem?_take_of_lt (by omega)] at hu
    simp only [World.cell?, hg, Nat.zero_add, Option.isSome_none, Bool.false_eq_true, if_false]
    rw [← Array.getElem?_toList]
    exact hu
end

end Go.Proofs.Ytnagpianaghjeaa
