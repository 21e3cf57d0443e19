/-
  The acts of a play on a disk, as they come in.
-/
import Derived.Test.YtbfnmgjpkieaoaaOpenStructs
import Derived.Test.YtbfnmgjpkieaoaaDModelWrite
import Derived.Test.YtbfnmgjpkieaoaaDiskKnown
namespace Go.Proofs.Ytbfnmgjpkieaoaa.Pl
open Go Go.RowKit Go.Maps Go.Sort Go.Proofs Go.ChangeShapes Go.WideShapes Go.Deep

structure ActD where
  op : Int
  sector : Int
  n : Int
  bv : Value
  b : List Int
  whole : Bool
  kv : Value
  keep : List Bool
instance : Inhabited ActD := ⟨⟨0, 0, 0, undef, [], false, undef, []⟩⟩
/-- One act's six cells at an address, and the rows that it bears. -/
structure ActAt (w : World) (a : ActD) (c0 c1 c2 c3 c4 c5 : Addr) : Prop where
  op : w.cell? c0 = some (.int .i64 a.op)
  sector : w.cell? c1 = some (.int .i64 a.sector)
  n : w.cell? c2 = some (.int .i64 a.n)
  bv : w.cell? c3 = some a.bv
  whole : w.cell? c4 = some (.bool a.whole)
  kv : w.cell? c5 = some a.kv
  rowb : Row w (fun i => i < w.heap.size) a.bv (a.b.map encB)
  rowk : Row w (fun i => i < w.heap.size) a.kv (a.keep.map .bool)
  wn : (Lit.int .i64 a.n).wf = true
  wb : ∀ x ∈ a.b, (Lit.int .u8 x).wf = true
def Acts (w : World) (v : Value) (l : List ActD) : Prop :=
  ∃ A c, v = .slice A l.length c ∧ l.length ≤ c ∧ (0 < l.length → ∃ g o, A = some ⟨g, o, none⟩ ∧ g < w.heap.size ∧ ∀ i (hi : i < l.length), ActAt w l[i] ⟨g, o + i * 6, none⟩ ⟨g, o + i * 6 + 1, none⟩ ⟨g, o + i * 6 + 2, none⟩ ⟨g, o + i * 6 + 3, none⟩ ⟨g, o + i * 6 + 4, none⟩ ⟨g, o + i * 6 + 5, none⟩)

set_option maxRecDepth 100000 in
theorem open_acts {H : Type} {enc : TypeId × Value → H} {W : World} {r : Reach} {b0 : Nat} {v : Value} {d : DataW H} {p : List MemPlace} (hv : Value.okWide Try.prog W r b0 56 v) (h : DataW.Trod enc Try.prog W 0 (fun _ => true) true 56 v d p) :
    ∃ l : List ActD, Acts W v l := by
  obtain ⟨A, len, cap, rfl⟩ := okWide_slice Try.underlying56 hv
  obtain ⟨fuel, hf⟩ := h
  rcases open_structs Try.underlying56 Try.underlying63 (by kernel_rfl) (by kernel_rfl) hf with hcs | ⟨a, l, c, hcs, hl, hm, hi⟩
  · simp [Value.cells] at hcs
    obtain ⟨rfl, rfl, rfl⟩ := hcs
    exact ⟨[], none, 0, rfl, Nat.le_refl _, fun h => absurd h (by simp)⟩
  · simp [Value.cells] at hcs
    obtain ⟨rfl, rfl, rfl⟩ := hcs
    have rowB : ∀ {v : Value} {y : DataW H × List MemPlace} {n : Nat}, DataW.trod enc Try.prog W 0 (fun _ => true) true n 29 [v] = some y → ∃ zs : List Int, Row W (fun i => i < W.heap.size) v (zs.map encB) ∧ ∀ z ∈ zs, (Lit.int .u8 z).wf = true := fun {v y n} t => by
      rcases open_ints Try.underlying29 Try.underlying5 (by kernel_rfl) t with ⟨hcs, _⟩ | ⟨x, l, c, zs, hcs, _, hl', hm', hz, _, hcell, hwz⟩
      · simp at hcs
        subst hcs
        exact ⟨[], ⟨none, 0, rfl, Nat.le_refl _, fun h => absurd h (by simp)⟩, by simp⟩
      · simp at hcs
        subst hcs
        simp at hz
        refine ⟨zs.take l, ?_, fun z hz' => hwz z (List.mem_of_mem_take hz')⟩
        refine row_of_adds (by simp; omega) hl' fun i u hu => ?_
        have hi : i < l ∧ i < zs.length := by
          have := (List.getElem?_eq_some_iff.1 hu).1
          simp at this
          omega
        rw [hcell i hi.2]
        rw [List.getElem?_map, List.getElem?_take_of_lt hi.1, List.getElem?_eq_getElem hi.2] at hu
        rw [List.getD_eq_getElem?_getD, List.getElem?_eq_getElem hi.2]
        simpa using hu
    have rowK : ∀ {v : Value} {y : DataW H × List MemPlace} {n : Nat}, DataW.trod enc Try.prog W 0 (fun _ => true) true n 32 [v] = some y → ∃ zs : List Bool, Row W (fun i => i < W.heap.size) v (zs.map .bool) := fun {v y n} t => by
      rcases open_bools Try.underlying32 Try.underlying4 (by kernel_rfl) t with ⟨hcs, _⟩ | ⟨x, l, c, B, hcs, _, hl', hm', _, hcell⟩
      · simp at hcs
        subst hcs
        exact ⟨[], ⟨none, 0, rfl, Nat.le_refl _, fun h => absurd h (by simp)⟩⟩
      · simp at hcs
        subst hcs
        refine ⟨(List.range l).map B, row_of_adds (by simp) hl' fun i u hu => ?_⟩
        have hi : i < l := by
          have := (List.getElem?_eq_some_iff.1 hu).1
          simpa using this
        rw [hcell i (by omega)]
        rw [List.getElem?_map, List.getElem?_map, List.getElem?_range hi] at hu
        simpa using hu
    have each : ∀ i, i < len → ∃ x : ActD, ActAt W x (a.add (i * 6)) (a.add (i * 6 + 1)) (a.add (i * 6 + 2)) (a.add (i * 6 + 3)) (a.add (i * 6 + 4)) (a.add (i * 6 + 5)) := fun i hil => by
      obtain ⟨n, hj⟩ := hi i hil
      obtain ⟨v0, y0, c0, t0⟩ := hj 0 _ rfl
      obtain ⟨v1, y1, c1, t1⟩ := hj 1 _ rfl
      obtain ⟨v2, y2, c2, t2⟩ := hj 2 _ rfl
      obtain ⟨v3, y3, c3, t3⟩ := hj 3 _ rfl
      obtain ⟨v4, y4, c4, t4⟩ := hj 4 _ rfl
      obtain ⟨v5, y5, c5, t5⟩ := hj 5 _ rfl
      obtain ⟨n0, e0, rfl, w0⟩ := DataW.trod_int Try.underlying3 t0
      obtain ⟨n1, e1, rfl, w1⟩ := DataW.trod_int Try.underlying3 t1
      obtain ⟨n2, e2, rfl, w2⟩ := DataW.trod_int Try.underlying3 t2
      obtain ⟨n4, e4, rfl⟩ := DataW.trod_bool Try.underlying4 t4
      simp at e0 e1 e2 e4
      subst e0 e1 e2 e4
      obtain ⟨zb, rb, wb⟩ := rowB t3
      obtain ⟨zk, rk⟩ := rowK t5
      exact ⟨⟨n0, n1, n2, v3, zb, n4, v5, zk⟩, c0, c1, c2, c3, c4, c5, rb, rk, w2, wb⟩
    obtain ⟨L, hL, hLp⟩ := choose_list len each
    subst hL
    refine ⟨L, _, cap, rfl, hl, fun h0 => ?_⟩
    have h1 := (hLp 0 h0).op
    have ha : a = ⟨a.block, a.off, none⟩ := addr_of_cell (by simpa [Addr.add] using h1)
    have hlt := World.block_lt_of_cell? W _ h1
    refine ⟨a.block, a.off, by rw [← ha], by simpa [Addr.add] using hlt, fun i hi => ?_⟩
    have := hLp i hi
    rw [add_of ha, add_of ha, add_of ha, add_of ha, add_of ha, add_of ha] at this
    exact this

set_option maxRecDepth 100000 in
theorem keeps_any (w : World) (A : Option Addr) (n c : Nat) {b : Bool} (hb : decide (n ≤ 300) = b) : Calls Try.prog 34 #[.slice A n c] w (SameP w (.bool b)) := by
  subst hb
  by_cases h : n ≤ 300
  · rw [decide_eq_true h]
    have h1 : (n : Int) ≤ 300 := by omega
    go_enter Try.func34, Try.ntmps34
    go_wp2
    go_ret
    exact ⟨rfl, rfl⟩
  · rw [decide_eq_false h]
    have h1 : ¬ (n : Int) ≤ 300 := by omega
    go_enter Try.func34, Try.ntmps34
    go_wp2
    go_ret
    exact ⟨rfl, rfl⟩
end Go.Proofs.Ytbfnmgjpkieaoaa.Pl
