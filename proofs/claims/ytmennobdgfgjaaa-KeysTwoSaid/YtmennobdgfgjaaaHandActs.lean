/-
  An argument that is a slice of structs, opened field by field; the acts of a play.
-/
import Derived.Test.YtmennobdgfgjaaaOpen
import Derived.Test.YtmennobdgfgjaaaHandPlayParts
import Derived.Deep.Slices
import Derived.Deep.Fields
import Derived.ChangeSame
namespace Go.Proofs.Ytmennobdgfgjaaa
open Go Go.RowKit Go.ChangeShapes Go.WideShapes Go.Deep

section
variable {H : Type} {enc : TypeId × Value → H} {P : Program} {w : World} {base : Nat} {spare : Nat → Bool} {held : Bool}
/-- A slice of structs of one-cell fields, opened at every element and every field. -/
theorem open_structs {t e : TypeId} {fs : Array Field} {fuel : Nat} {cs : List Value} {x : DataW H × List MemPlace} (ht : P.underlying t = some (.slice e)) (he : P.underlying e = some (.struct fs))
    (hone : oneCellFields P fs = true) (hC : P.cellsOf e = fs.size) (h : DataW.trod enc P w base spare held fuel t cs = some x) :
    cs = [.slice none 0 0] ∨
    ∃ (a : Addr) (len cap : Nat), cs = [.slice (some a) len cap] ∧ len ≤ cap ∧ cap ≤ maxLen ∧
      ∀ i, i < len → ∃ (n : Nat), ∀ (j : Nat) (f : Field), fs[j]? = some f → ∃ (v : Value) (y : DataW H × List MemPlace), w.cell? (a.add (i * fs.size + j)) = some v ∧ DataW.trod enc P w base spare held n f.type [v] = some y := by
  rcases open_slice ht h with h0 | ⟨a, len, cap, m, n, D, Pl, hcs, hb, hl, hm, hmm, hx, hi⟩
  · exact .inl h0.1
  · refine .inr ⟨a, len, cap, hcs, hl, hm, fun i hil => ?_⟩
    obtain ⟨cs', hc, ht'⟩ := hi i (by rw [hmm]; split <;> omega)
    rw [hC] at hc
    obtain ⟨ys, n', hn', hy, hlen, hyl, hf⟩ := DataW.trod_struct he ht'
    obtain ⟨_, hcl, hat⟩ := World.cells?_some hc
    refine ⟨n', fun j f hj => ?_⟩
    obtain ⟨ho, hk⟩ := hone_of hone j f hj
    have hjl : j < fs.size := (Array.getElem?_eq_some_iff.1 hj).1
    have hcell := hat j hjl
    have hv : cs'[j]? = some (cs'[j]'(by omega)) := List.getElem?_eq_getElem (by omega)
    have h1 := hf j f hj
    rw [ho, hk] at h1
    have hone' : (cs'.drop j).take 1 = [cs'[j]'(by omega)] := by
      rw [List.drop_eq_getElem_cons (by omega)]
      rfl
    rw [hone'] at h1
    have hys : ys[j]? = some (ys[j]'(by omega)) := List.getElem?_eq_getElem (by omega)
    refine ⟨_, _, ?_, h1.trans hys⟩
    rw [← Go.Deep.add_add, hcell, hv]

theorem choose_list {α : Type} [Inhabited α] (n : Nat) {p : Nat → α → Prop} (h : ∀ i, i < n → ∃ a, p i a) : ∃ l : List α, l.length = n ∧ ∀ i (hi : i < l.length), p i l[i] := by
  induction n with
  | zero => exact ⟨[], rfl, fun i hi => by simp at hi⟩
  | succ n ih =>
    obtain ⟨l, hl, hp⟩ := ih (fun i hi => h i (by omega))
    obtain ⟨a, ha⟩ := h n (by omega)
    refine ⟨l ++ [a], by simp [hl], fun i hi => ?_⟩
    by_cases e : i < l.length
    · rw [List.getElem_append_left e]; exact hp i e
    · have : i = n := by simp at hi; omega
      subst this
      rw [List.getElem_append_right (by omega)]
      simpa [hl] using ha
end

structure ActD where
  op : Int
  n : Int
  tv : Value
  trow : List Int
instance : Inhabited ActD := ⟨⟨0, 0, undef, []⟩⟩

/-- One act's three cells at an address, and the row that it bears. -/
structure ActAt (w : World) (a : ActD) (c0 c1 c2 : Addr) : Prop where
  op : w.cell? c0 = some (.int .i64 a.op)
  n : w.cell? c1 = some (.int .i64 a.n)
  tv : w.cell? c2 = some a.tv
  row : Row w (fun i => i < w.heap.size) a.tv (a.trow.map encZ)
  wop : iw a.op
  wn : iw a.n
  wto : ∀ x ∈ a.trow, iw x

def Acts (w : World) (v : Value) (l : List ActD) : Prop :=
  ∃ A c, v = .slice A l.length c ∧ l.length ≤ c ∧ (0 < l.length → ∃ g o, A = some ⟨g, o, none⟩ ∧ g < w.heap.size ∧ ∀ i (hi : i < l.length), ActAt w l[i] ⟨g, o + i * 3, none⟩ ⟨g, o + i * 3 + 1, none⟩ ⟨g, o + i * 3 + 2, none⟩)

theorem add_of {a : Addr} (ha : a = ⟨a.block, a.off, none⟩) (k : Nat) : a.add k = ⟨a.block, a.off + k, none⟩ := by
  rw [ha]
  unfold Addr.add
  by_cases h : k = 0
  · subst h; rfl
  · simp [h]

set_option maxRecDepth 100000 in
theorem open_acts {H : Type} {enc : TypeId × Value → H} {W : World} {r : Reach} {b0 : Nat} {v : Value} {d : DataW H} {p : List MemPlace} (hv : Value.okWide Try.prog W r b0 39 v) (h : DataW.Trod enc Try.prog W 0 (fun _ => true) true 39 v d p) :
    ∃ l : List ActD, Acts W v l := by
  obtain ⟨A, len, cap, rfl⟩ := okWide_slice Try.underlying39 hv
  obtain ⟨fuel, hf⟩ := h
  rcases open_structs Try.underlying39 Try.underlying42 (by kernel_rfl) (by kernel_rfl) hf with hcs | ⟨a, l, c, hcs, hl, hm, hi⟩
  · simp [Value.cells] at hcs
    obtain ⟨rfl, rfl, rfl⟩ := hcs
    exact ⟨[], none, 0, rfl, Nat.le_refl _, fun h => absurd h (by simp)⟩
  · simp [Value.cells] at hcs
    obtain ⟨rfl, rfl, rfl⟩ := hcs
    have each : ∀ i, i < len → ∃ x : ActD, ActAt W x (a.add (i * 3)) (a.add (i * 3 + 1)) (a.add (i * 3 + 2)) := fun i hil => by
      obtain ⟨n, hj⟩ := hi i hil
      obtain ⟨v0, y0, c0, t0⟩ := hj 0 _ rfl
      obtain ⟨v1, y1, c1, t1⟩ := hj 1 _ rfl
      obtain ⟨v2, y2, c2, t2⟩ := hj 2 _ rfl
      obtain ⟨n0, e0, rfl, w0⟩ := DataW.trod_int Try.underlying3 t0
      obtain ⟨n1, e1, rfl, w1⟩ := DataW.trod_int Try.underlying3 t1
      simp at e0 e1
      subst e0 e1
      rcases open_ints Try.underlying31 Try.underlying3 (by kernel_rfl) t2 with ⟨hcs, _⟩ | ⟨x, l, c, zs, hcs, _, hl', hm', hz, _, hcell, hwz⟩
      · simp at hcs
        subst hcs
        exact ⟨⟨n0, n1, _, []⟩, c0, c1, c2, ⟨none, 0, rfl, Nat.le_refl _, fun h => absurd h (by simp)⟩, w0, w1, by simp⟩
      · simp at hcs
        subst hcs
        simp at hz
        refine ⟨⟨n0, n1, _, zs.take l⟩, c0, c1, c2, ?_, w0, w1, fun z hz' => hwz z (List.mem_of_mem_take hz')⟩
        refine row_of_adds (by simp; omega) hl' fun i u hu => ?_
        have hi : i < l ∧ i < zs.length := by
          have := (List.getElem?_eq_some_iff.1 hu).1
          simp at this
          omega
        rw [hcell i hi.2]
        rw [List.getElem?_map, List.getElem?_take_of_lt hi.1, List.getElem?_eq_getElem hi.2] at hu
        rw [List.getD_eq_getElem?_getD, List.getElem?_eq_getElem hi.2]
        simpa using hu
    obtain ⟨L, hL, hLp⟩ := choose_list len each
    subst hL
    refine ⟨L, _, cap, rfl, hl, fun h0 => ?_⟩
    have h1 := (hLp 0 h0).op
    have ha : a = ⟨a.block, a.off, none⟩ := addr_of_cell (by simpa [Addr.add] using h1)
    have hlt := World.block_lt_of_cell? W _ h1
    refine ⟨a.block, a.off, by rw [← ha], by simpa [Addr.add] using hlt, fun i hi => ?_⟩
    have := hLp i hi
    rw [add_of ha, add_of ha, add_of ha] at this
    exact this
end Go.Proofs.Ytmennobdgfgjaaa
