/-
  The acts of a play on a table, as they come in: 34 cells each.
-/
import Derived.Test.YtbfnmgjpkieaoaaTabRising
import Derived.Test.YtbfnmgjpkieaoaaOpenStructs
import Derived.OpenShut
namespace Go.Proofs.Ytbfnmgjpkieaoaa.Tb
open Go Go.RowKit Go.Maps Go.Sort Go.Proofs Go.ChangeShapes Go.WideShapes Go.Deep

structure ActT where
  op : Int
  n : Nm
  to : Int
instance : Inhabited ActT := ⟨⟨0, default, 0⟩⟩
/-- An act's cells. -/
def actC (a : ActT) : List Value := .int .i64 a.op :: (encM a.n ++ [.int .i64 a.to])
theorem actC_len (a : ActT) : (actC a).length = 34 := by
  unfold actC
  rw [List.length_cons, List.length_append, encM_len]
  rfl
theorem actC_one (a : ActT) : ∀ v ∈ actC a, v.oneCell' = true := fun v hv => by
  unfold actC at hv
  rcases List.mem_cons.1 hv with rfl | hv
  · rfl
  · rcases List.mem_append.1 hv with hv | hv
    · exact encM_one _ _ hv
    · rw [List.mem_singleton] at hv; subst hv; rfl
theorem actC_op (a : ActT) : (actC a)[0]? = some (.int .i64 a.op) := rfl
theorem actC_nm (a : ActT) {j : Nat} {v : Value} (h : (encM a.n)[j]? = some v) : (actC a)[1 + j]? = some v := by
  unfold actC
  rw [Nat.add_comm, List.getElem?_cons_succ, List.getElem?_append_left (List.getElem?_eq_some_iff.1 h).1]
  exact h
theorem actC_to (a : ActT) : (actC a)[33]? = some (.int .i64 a.to) := by
  unfold actC
  rw [List.getElem?_cons_succ, List.getElem?_append_right (by rw [encM_len]; omega), encM_len]
  rfl
def Acts (w : World) (v : Value) (l : List ActT) : Prop :=
  ∃ A c, v = .slice A l.length c ∧ l.length ≤ c ∧ (0 < l.length → ∃ g o, A = some ⟨g, o, none⟩ ∧ g < w.heap.size ∧ ∀ i (hi : i < l.length), w.rangeAt g (o + i * 34) (actC l[i]) ∧ (Lit.int .i64 (l[i]).to).wf = true)
section
variable {H : Type} {enc : TypeId × Value → H} {P : Program} {w : World} {base : Nat} {spare : Nat → Bool} {held : Bool}
/-- A slice of structs, opened at every element and every field, whatever the fields' widths. -/
theorem open_structsW {t e : TypeId} {fs : Array Field} {fuel : Nat} {cs : List Value} {x : DataW H × List MemPlace} (ht : P.underlying t = some (.slice e)) (he : P.underlying e = some (.struct fs)) (h : DataW.trod enc P w base spare held fuel t cs = some x) :
    cs = [.slice none 0 0] ∨
    ∃ (a : Addr) (len cap : Nat), cs = [.slice (some a) len cap] ∧ len ≤ cap ∧ cap ≤ maxLen ∧
      ∀ i, i < len → ∃ (n : Nat) (cs' : List Value), cs'.length = P.cellsOf e ∧ (∀ j, j < P.cellsOf e → w.cell? (a.add (i * P.cellsOf e + j)) = cs'[j]?) ∧ ∀ (j : Nat) (f : Field), fs[j]? = some f → ∃ (y : DataW H × List MemPlace), DataW.trod enc P w base spare held n f.type ((cs'.drop f.offset).take (P.cellsOf f.type)) = some y := by
  rcases open_slice ht h with h0 | ⟨a, len, cap, m, n, D, Pl, hcs, hb, hl, hm, hmm, hx, hi⟩
  · exact .inl h0.1
  · refine .inr ⟨a, len, cap, hcs, hl, hm, fun i hil => ?_⟩
    obtain ⟨cs', hc, ht'⟩ := hi i (by rw [hmm]; split <;> omega)
    obtain ⟨ys, n', hn', hy, hlen, hyl, hf⟩ := DataW.trod_struct he ht'
    obtain ⟨_, hcl, hat⟩ := World.cells?_some hc
    refine ⟨n', cs', hlen, fun j hj => ?_, fun j f hj => ?_⟩
    · rw [← hat j hj, Go.Deep.add_add]
    · have h1 := hf j f hj
      have hjl : j < fs.size := (Array.getElem?_eq_some_iff.1 hj).1
      exact ⟨_, h1.trans (List.getElem?_eq_getElem (by omega))⟩
end
theorem actFields : ∃ f0 f1 f2 : Field, Try.prog.underlying 95 = some (.struct #[f0, f1, f2]) ∧ f0.offset = 0 ∧ f1.offset = 1 ∧ f2.offset = 33 ∧ f0.type = 3 ∧ f1.type = 77 ∧ f2.type = 3 := ⟨_, _, _, Try.underlying95, rfl, rfl, rfl, rfl, rfl, rfl⟩
theorem cellsOfAct : Try.prog.cellsOf 95 = 34 := by kernel_rfl
theorem cellsOfInt : Try.prog.cellsOf 3 = 1 := by kernel_rfl
set_option maxRecDepth 100000 in
theorem open_acts {H : Type} {enc : TypeId × Value → H} {W : World} {r : Reach} {b0 : Nat} {v : Value} {d : DataW H} {p : List MemPlace} (hv : Value.okWide Try.prog W r b0 91 v) (h : DataW.Trod enc Try.prog W 0 (fun _ => true) true 91 v d p) :
    ∃ l : List ActT, Acts W v l := by
  obtain ⟨A, len, cap, rfl⟩ := okWide_slice Try.underlying91 hv
  obtain ⟨fuel, hf⟩ := h
  obtain ⟨f0, f1, f2, hst, o0, o1, o2, y0, y1, y2⟩ := actFields
  rcases open_structsW Try.underlying91 hst hf with hcs | ⟨a, l, c, hcs, hl, hm, hi⟩
  · simp [Value.cells] at hcs
    obtain ⟨rfl, rfl, rfl⟩ := hcs
    exact ⟨[], none, 0, rfl, Nat.le_refl _, fun h => absurd h (by simp)⟩
  · simp [Value.cells] at hcs
    obtain ⟨rfl, rfl, rfl⟩ := hcs
    have each : ∀ i, i < len → ∃ x : ActT, (∀ j v, (actC x)[j]? = some v → W.cell? (a.add (i * 34 + j)) = some v) ∧ (Lit.int .i64 x.to).wf = true := fun i hil => by
      obtain ⟨n, cs', hlen, hcell, hj⟩ := hi i hil
      rw [cellsOfAct] at hlen hcell
      obtain ⟨z0, t0⟩ := hj 0 f0 rfl
      obtain ⟨z1, t1⟩ := hj 1 f1 rfl
      obtain ⟨z2, t2⟩ := hj 2 f2 rfl
      rw [o0, y0, cellsOfInt] at t0
      rw [o1, y1, cellsOfN] at t1
      rw [o2, y2, cellsOfInt] at t2
      obtain ⟨n0, e0, rfl, w0⟩ := DataW.trod_int Try.underlying3 t0
      obtain ⟨n2, e2, rfl, w2⟩ := DataW.trod_int Try.underlying3 t2
      obtain ⟨xs, m, -, -, hl1, hxs, hel⟩ := DataW.trod_array Try.underlying77 t1
      rw [cellsOfB] at hel
      have hb : ∃ bs : List UInt8, (cs'.drop 1).take 32 = bs.map fun b => Value.int .u8 (b.toNat : Int) := cells_bytes fun v hv => by
        obtain ⟨k, hk, rfl⟩ := List.mem_iff_getElem.1 hv
        have hk32 : k < 32 := by rw [List.length_take] at hk; omega
        have h1 := hel k hk32
        rw [chunk1 _ _ hk] at h1
        have hxl : ∃ y, DataW.trod enc Try.prog W 0 (fun _ => true) true m 5 [((cs'.drop 1).take 32)[k]] = some y := by
          rw [h1]
          exact ⟨_, List.getElem?_eq_getElem (by omega)⟩
        obtain ⟨y, hy⟩ := hxl
        obtain ⟨q, hq, -, hw⟩ := DataW.trod_int Try.underlying5 hy
        have hw : (decide (IntKind.u8.min ≤ q) && decide (q ≤ IntKind.u8.max)) = true := hw
        have e1 : IntKind.u8.min = 0 := rfl
        have e2 : IntKind.u8.max = 255 := rfl
        rw [e1, e2, Bool.and_eq_true, decide_eq_true_eq, decide_eq_true_eq] at hw
        refine ⟨UInt8.ofNat q.toNat, ?_⟩
        have e3 : ((UInt8.ofNat q.toNat).toNat : Int) = q := by
          rw [UInt8.toNat_ofNat_of_lt' (by simp [UInt8.size]; omega)]
          omega
        rw [e3]
        simpa using hq
      obtain ⟨bs, hbs⟩ := hb
      have hbl : bs.length = 32 := by
        have := congrArg List.length hbs
        rw [List.length_map, List.length_take, List.length_drop] at this
        omega
      refine ⟨⟨n0, ⟨bs, hbl⟩, n2⟩, fun j v hv => ?_, w2⟩
      have hcs : cs' = actC ⟨n0, ⟨bs, hbl⟩, n2⟩ := by
        have hd0 : cs'.take 1 = [.int .i64 n0] := by simpa using e0
        have hd2 : cs'.drop 33 = [.int .i64 n2] := by
          have : (cs'.drop 33).take 1 = cs'.drop 33 := List.take_of_length_le (by rw [List.length_drop]; omega)
          rw [← this]
          simpa using e2
        have : cs' = cs'.take 1 ++ ((cs'.drop 1).take 32 ++ cs'.drop 33) := by
          conv => lhs; rw [← List.take_append_drop 1 cs', ← List.take_append_drop 32 (cs'.drop 1), List.drop_drop]
        rw [this, hd0, hd2, hbs]
        rfl
      have hjl : j < 34 := by
        have := (List.getElem?_eq_some_iff.1 hv).1
        rwa [actC_len] at this
      rw [hcell j hjl, hcs]
      exact hv
    obtain ⟨L, hL, hLp⟩ := choose_list len each
    subst hL
    refine ⟨L, _, cap, rfl, hl, fun h0 => ?_⟩
    have h1 := (hLp 0 h0).1 0 _ (actC_op _)
    have ha : a = ⟨a.block, a.off, none⟩ := addr_of_cell (by simpa [Addr.add] using h1)
    have hlt := World.block_lt_of_cell? W _ h1
    refine ⟨a.block, a.off, by rw [← ha], by simpa [Addr.add] using hlt, fun i hi => ⟨fun j v hv => ?_, (hLp i hi).2⟩⟩
    have := (hLp i hi).1 j v hv
    rw [add_of ha] at this
    rw [Nat.add_assoc]
    exact this
end Go.Proofs.Ytbfnmgjpkieaoaa.Tb
