/-
  An argument that is a row of blocks, opened cell by cell.
  Two blocks compared.
  SlotsCuts: what lies in the two slots, and what the call remembers of them.
-/
import Derived.Test.YtnagpianaghjeaaFields
import Derived.Test.YtnagpianaghjeaaOpenStructs
import Derived.Laws.StructEq
import Derived.Test.YtnagpianaghjeaaSlotsTwo
import Derived.Test.YtnagpianaghjeaaDiskClear
namespace Go.Proofs.Ytnagpianaghjeaa.Sl
open Go Go.RowKit Go.ChangeShapes Go.WideShapes Go.Deep Go.Proofs

instance : Inhabited Blk := ⟨⟨0, ⟨0, 0, 0⟩, 0, 0, 0⟩⟩
/-- What Go's own types hold of a block. -/
def WfA (b : Blk) : Prop := (Lit.int .u64 b.epoch).wf = true ∧ (Lit.int .i64 b.geom.sector).wf = true ∧ (Lit.int .i64 b.geom.log).wf = true ∧ (Lit.int .i64 b.geom.words).wf = true ∧ (Lit.int .i64 b.space).wf = true ∧ (Lit.int .i64 b.words).wf = true ∧ (Lit.int .u64 b.log).wf = true
/-- One block's seven cells. -/
structure BlkAt (w : World) (b : Blk) (c0 c1 c2 c3 c4 c5 c6 : Addr) : Prop where
  h0 : w.cell? c0 = some (.int .u64 b.epoch)
  h1 : w.cell? c1 = some (.int .i64 b.geom.sector)
  h2 : w.cell? c2 = some (.int .i64 b.geom.log)
  h3 : w.cell? c3 = some (.int .i64 b.geom.words)
  h4 : w.cell? c4 = some (.int .i64 b.space)
  h5 : w.cell? c5 = some (.int .i64 b.words)
  h6 : w.cell? c6 = some (.int .u64 b.log)
  wf : WfA b
/-- A slice that reads as these blocks. -/
def Blks (w : World) (v : Value) (l : List Blk) : Prop :=
  ∃ A c, v = .slice A l.length c ∧ l.length ≤ c ∧ (0 < l.length → ∃ g o, A = some ⟨g, o, none⟩ ∧ g < w.heap.size ∧ ∀ i (hi : i < l.length), BlkAt w l[i] ⟨g, o + i * 7, none⟩ ⟨g, o + i * 7 + 1, none⟩ ⟨g, o + i * 7 + 2, none⟩ ⟨g, o + i * 7 + 3, none⟩ ⟨g, o + i * 7 + 4, none⟩ ⟨g, o + i * 7 + 5, none⟩ ⟨g, o + i * 7 + 6, none⟩)
theorem list7 {α : Type} {l : List α} (h : l.length = 7) : ∃ a b c d e f g, l = [a, b, c, d, e, f, g] := by
  match l, h with
  | [a, b, c, d, e, f, g], _ => exact ⟨a, b, c, d, e, f, g, rfl⟩
theorem list3 {α : Type} {l : List α} (h : l.length = 3) : ∃ a b c, l = [a, b, c] := by
  match l, h with
  | [a, b, c], _ => exact ⟨a, b, c, rfl⟩
theorem cells_int : Try.prog.cellsOf 3 = 1 := by kernel_rfl
theorem cells_u64 : Try.prog.cellsOf 30 = 1 := by kernel_rfl
theorem cells_geom : Try.prog.cellsOf 25 = 3 := by kernel_rfl
theorem cells_blk : Try.prog.cellsOf 32 = 7 := by kernel_rfl
set_option maxRecDepth 100000 in
theorem open_geoL {H : Type} {enc : TypeId × Value → H} {W : World} {n : Nat} {cs : List Value} {x : DataW H × List MemPlace} (h : DataW.trod enc Try.prog W 0 (fun _ => true) true n 25 cs = some x) :
    ∃ g : Geo, cs = [.int .i64 g.sector, .int .i64 g.log, .int .i64 g.words] ∧ (Lit.int .i64 g.sector).wf = true ∧ (Lit.int .i64 g.log).wf = true ∧ (Lit.int .i64 g.words).wf = true := by
  obtain ⟨ys, n', hn', hy, hlen, hyl, hf⟩ := DataW.trod_struct Try.underlying25 h
  rw [cells_geom] at hlen
  obtain ⟨c0, c1, c2, rfl⟩ := list3 hlen
  obtain ⟨y0, y1, y2, rfl⟩ := list3 (l := ys) hyl
  have t0 : DataW.trod enc Try.prog W 0 (fun _ => true) true n' 3 (([c0, c1, c2].drop 0).take (Try.prog.cellsOf 3)) = some y0 := hf 0 _ rfl
  have t1 : DataW.trod enc Try.prog W 0 (fun _ => true) true n' 3 (([c0, c1, c2].drop 1).take (Try.prog.cellsOf 3)) = some y1 := hf 1 _ rfl
  have t2 : DataW.trod enc Try.prog W 0 (fun _ => true) true n' 3 (([c0, c1, c2].drop 2).take (Try.prog.cellsOf 3)) = some y2 := hf 2 _ rfl
  rw [cells_int] at t0 t1 t2
  obtain ⟨n0, e0, -, w0⟩ := DataW.trod_int Try.underlying3 t0
  obtain ⟨n1, e1, -, w1⟩ := DataW.trod_int Try.underlying3 t1
  obtain ⟨n2, e2, -, w2⟩ := DataW.trod_int Try.underlying3 t2
  simp at e0 e1 e2
  subst e0 e1 e2
  exact ⟨⟨n0, n1, n2⟩, rfl, w0, w1, w2⟩
set_option maxRecDepth 100000 in
theorem open_blkL {H : Type} {enc : TypeId × Value → H} {W : World} {n : Nat} {cs : List Value} {x : DataW H × List MemPlace} (h : DataW.trod enc Try.prog W 0 (fun _ => true) true n 32 cs = some x) :
    ∃ b : Blk, cs = (blkCells b).toList ∧ WfA b := by
  obtain ⟨ys, n', hn', hy, hlen, hyl, hf⟩ := DataW.trod_struct Try.underlying32 h
  rw [cells_blk] at hlen
  obtain ⟨c0, c1, c2, c3, c4, c5, c6, rfl⟩ := list7 hlen
  have hyl : ys.length = 5 := hyl
  have some_of : ∀ j, j < 5 → ∃ y, ys[j]? = some y := fun j hj => ⟨_, List.getElem?_eq_getElem (by omega)⟩
  obtain ⟨y0, k0⟩ := some_of 0 (by omega)
  obtain ⟨y1, k1⟩ := some_of 1 (by omega)
  obtain ⟨y2, k2⟩ := some_of 2 (by omega)
  obtain ⟨y3, k3⟩ := some_of 3 (by omega)
  obtain ⟨y4, k4⟩ := some_of 4 (by omega)
  have t0 : DataW.trod enc Try.prog W 0 (fun _ => true) true n' 30 (([c0, c1, c2, c3, c4, c5, c6].drop 0).take (Try.prog.cellsOf 30)) = some y0 := (hf 0 _ rfl).trans k0
  have t1 : DataW.trod enc Try.prog W 0 (fun _ => true) true n' 25 (([c0, c1, c2, c3, c4, c5, c6].drop 1).take (Try.prog.cellsOf 25)) = some y1 := (hf 1 _ rfl).trans k1
  have t2 : DataW.trod enc Try.prog W 0 (fun _ => true) true n' 3 (([c0, c1, c2, c3, c4, c5, c6].drop 4).take (Try.prog.cellsOf 3)) = some y2 := (hf 2 _ rfl).trans k2
  have t3 : DataW.trod enc Try.prog W 0 (fun _ => true) true n' 3 (([c0, c1, c2, c3, c4, c5, c6].drop 5).take (Try.prog.cellsOf 3)) = some y3 := (hf 3 _ rfl).trans k3
  have t4 : DataW.trod enc Try.prog W 0 (fun _ => true) true n' 30 (([c0, c1, c2, c3, c4, c5, c6].drop 6).take (Try.prog.cellsOf 30)) = some y4 := (hf 4 _ rfl).trans k4
  rw [cells_int] at t2 t3
  rw [cells_u64] at t0 t4
  rw [cells_geom] at t1
  obtain ⟨n0, e0, -, w0⟩ := DataW.trod_int Try.underlying30 t0
  obtain ⟨n2, e2, -, w2⟩ := DataW.trod_int Try.underlying3 t2
  obtain ⟨n3, e3, -, w3⟩ := DataW.trod_int Try.underlying3 t3
  obtain ⟨n4, e4, -, w4⟩ := DataW.trod_int Try.underlying30 t4
  obtain ⟨g, e1, wa, wb, wc⟩ := open_geoL t1
  simp at e0 e1 e2 e3 e4
  obtain ⟨q0, q1, q2⟩ := e1
  subst e0 e2 e3 e4 q0 q1 q2
  exact ⟨⟨n0, g, n2, n3, n4⟩, rfl, w0, wa, wb, wc, w2, w3, w4⟩
set_option maxRecDepth 100000 in
theorem open_blks {H : Type} {enc : TypeId × Value → H} {W : World} {r : Reach} {b0 : Nat} {v : Value} {d : DataW H} {p : List MemPlace} (hv : Value.okWide Try.prog W r b0 44 v) (h : DataW.Trod enc Try.prog W 0 (fun _ => true) true 44 v d p) :
    ∃ l : List Blk, Blks W v l := by
  obtain ⟨A, len, cap, rfl⟩ := okWide_slice Try.underlying44 hv
  obtain ⟨fuel, hf⟩ := h
  rcases open_slice Try.underlying44 hf with ⟨hcs, -⟩ | ⟨a, l, c, m, n, D, P, hcs, -, hl, -, hmm, -, hi⟩
  · simp [Value.cells] at hcs
    obtain ⟨rfl, rfl, rfl⟩ := hcs
    exact ⟨[], none, 0, rfl, Nat.le_refl _, fun h => absurd h (by simp)⟩
  · simp [Value.cells] at hcs
    obtain ⟨rfl, rfl, rfl⟩ := hcs
    rw [cells_blk] at hi
    have each : ∀ i, i < len → ∃ b : Blk, BlkAt W b (a.add (i * 7)) (a.add (i * 7 + 1)) (a.add (i * 7 + 2)) (a.add (i * 7 + 3)) (a.add (i * 7 + 4)) (a.add (i * 7 + 5)) (a.add (i * 7 + 6)) := fun i hil => by
      obtain ⟨cs', hc, ht⟩ := hi i (by rw [hmm]; split <;> omega)
      obtain ⟨b, rfl, hw⟩ := open_blkL ht
      obtain ⟨_, hcl, hat⟩ := World.cells?_some hc
      have q : ∀ j, j < 7 → W.cell? (a.add (i * 7 + j)) = (blkCells b).toList[j]? := fun j hj => by
        rw [← Go.Deep.add_add]
        exact hat j hj
      exact ⟨b, q 0 (by omega), q 1 (by omega), q 2 (by omega), q 3 (by omega), q 4 (by omega), q 5 (by omega), q 6 (by omega), hw⟩
    obtain ⟨L, hL, hLp⟩ := choose_list len each
    subst hL
    refine ⟨L, _, cap, rfl, hl, fun h0 => ?_⟩
    have h1 := (hLp 0 h0).h0
    have ha : a = ⟨a.block, a.off, none⟩ := addr_of_cell (by simpa [Addr.add] using h1)
    have hlt := World.block_lt_of_cell? W _ h1
    refine ⟨a.block, a.off, by rw [← ha], by simpa [Addr.add] using hlt, fun i hi => ?_⟩
    have := hLp i hi
    rw [add_of ha, add_of ha, add_of ha, add_of ha, add_of ha, add_of ha, add_of ha] at this
    exact this
end Go.Proofs.Ytnagpianaghjeaa.Sl
namespace Go.Proofs.Ytnagpianaghjeaa.Sl
open Go Go.RowKit Go.Proofs

set_option maxRecDepth 100000 in
set_option maxHeartbeats 1000000 in
theorem eql_blk (a b : Blk) (w : World) : (binOp .eql 49 (blkV a) (blkV b)).run Try.prog w = .ok (.bool (decide (a = b))) w := by
  rw [run_eql_struct]
  go_simp
  by_cases h : a = b
  · subst h
    simp
  · rw [decide_eq_false h]
    obtain ⟨a0, ⟨a1, a2, a3⟩, a4, a5, a6⟩ := a
    obtain ⟨b0, ⟨b1, b2, b3⟩, b4, b5, b6⟩ := b
    repeat' split
    all_goals first | rfl | (exfalso; apply h; simp_all)
end Go.Proofs.Ytnagpianaghjeaa.Sl
namespace Go.Proofs.Ytnagpianaghjeaa.Sl
open Go Go.RowKit Go.Proofs
open Pl (DS IsDisk DOwn DPost DMv DKeep Clear)

theorem GoodG.of (g : Geo) : FreshG g → GoodG g := fun h => h.1
def shapeS (g : Geo) : DS := calmS (sizeN g) (List.replicate (secsN g) []) false 0 [] 0
/-- What a geometry's disk has in its two slots. -/
structure Cuts (g : Geo) (K : List (List Int)) (r0 r1 : Option Blk) : Prop where
  len : K.length = secsN g
  z0 : (K.getD 0 []).length = sizeN g ∧ ∀ x ∈ K.getD 0 [], 0 ≤ x ∧ x < 256
  z1 : (K.getD 1 []).length = sizeN g ∧ ∀ x ∈ K.getD 1 [], 0 ≤ x ∧ x < 256
  e0 : rightS (shapeS g) 0 (K.getD 0 []) = r0
  e1 : rightS (shapeS g) 1 (K.getD 1 []) = r1
theorem secs_two {g : Geo} (hg : FreshG g) : 2 ≤ secsN g := by have := hg.1.secs; unfold secsN; omega
theorem Cuts.zero {g : Geo} (hg : FreshG g) : Cuts g (List.replicate (secsN g) (List.replicate (sizeN g) 0)) none none := by
  have h2 := secs_two hg
  have q : ∀ j, j < 2 → (List.replicate (secsN g) (List.replicate (sizeN g) (0 : Int))).getD j [] = List.replicate (sizeN g) 0 := fun j hj => by
    rw [List.getD_eq_getElem?_getD, List.getElem?_replicate, if_pos (by omega)]
    rfl
  have z : ∀ n : Nat, (List.replicate n (0 : Int)).length = n ∧ ∀ x ∈ List.replicate n (0 : Int), 0 ≤ x ∧ x < 256 := fun n => ⟨List.length_replicate, fun x hx => by rw [(List.mem_replicate.1 hx).2]; exact ⟨by decide, by decide⟩⟩
  refine ⟨List.length_replicate, ?_, ?_, ?_, ?_⟩
  · rw [q 0 (by omega)]; exact z _
  · rw [q 1 (by omega)]; exact z _
  · rw [q 0 (by omega)]; exact right_zero _ _ _
  · rw [q 1 (by omega)]; exact right_zero _ _ _
theorem shape_kept (g : Geo) : ((shapeS g).kept.length : Nat) = secsN g := List.length_replicate
theorem fits_cuts {g : Geo} (hg : FreshG g) {K : List (List Int)} (hK : K.length = secsN g) (a : Bool) (l : Int) (k : List Bool) (wr : Int) : fitsB (calmS (sizeN g) K a l k wr) g = true := by
  rw [fits_iff]
  refine ⟨?_, ?_⟩
  · show g.sector = ((g.sector.toNat : Nat) : Int)
    have := hg.1.1.1
    omega
  · show secsG g ≤ ((K.length : Nat) : Int)
    rw [hK]
    have := hg.1.secs
    unfold secsN
    omega
theorem Cuts.put {g : Geo} {K : List (List Int)} {r0 r1 : Option Blk} (h : Cuts g K r0 r1) (hg : FreshG g) {b : Blk} (hb : GoodB b) (hw : WfB b) (hbg : b.geom = g) :
    Cuts g (putK K b) (if b.epoch % 2 = 0 then some b else r0) (if b.epoch % 2 = 0 then r1 else some b) := by
  have h2 := secs_two hg
  have hl : (encS crcL b).length = sizeN g := by
    have := encS_len crcL (b := b) (by rw [hbg]; exact hg.1.1.1)
    rw [hbg] at this
    unfold sizeN
    omega
  have hf : fitsB (shapeS g) b.geom = true := by
    rw [hbg]
    exact fits_cuts hg List.length_replicate _ _ _ _
  have hr := right_enc hb hw hf
  have z : (encS crcL b).length = sizeN g ∧ ∀ x ∈ encS crcL b, 0 ≤ x ∧ x < 256 := ⟨hl, encS_byte _ _⟩
  have hK : 2 ≤ K.length := by rw [h.len]; exact h2
  rcases slot_01 b.epoch with e | e
  · have g0 : (putK K b).getD 0 [] = encS crcL b := putK_get hK b (i := 0) e
    have g1 : (putK K b).getD 1 [] = K.getD 1 [] := putK_other b (i := 0) e (by decide)
    rw [if_pos e, if_pos e]
    rw [e] at hr
    exact ⟨(putK_len _ _).trans h.len, by rw [g0]; exact z, by rw [g1]; exact h.z1, by rw [g0]; exact hr, by rw [g1]; exact h.e1⟩
  · have g1 : (putK K b).getD 1 [] = encS crcL b := putK_get hK b (i := 1) e
    have g0 : (putK K b).getD 0 [] = K.getD 0 [] := putK_other b (i := 1) e (by decide)
    rw [if_neg (by omega), if_neg (by omega)]
    rw [e] at hr
    exact ⟨(putK_len _ _).trans h.len, by rw [g0]; exact h.z0, by rw [g1]; exact z, by rw [g0]; exact h.e0, by rw [g1]; exact hr⟩
theorem Cuts.both {g : Geo} {K : List (List Int)} {r0 r1 : Option Blk} (h : Cuts g K r0 r1) (hg : FreshG g) {w : World} {base d : Nat} {a : Bool} {l : Int} {k : List Bool} {wr : Int} (hD : IsDisk w base d (calmS (sizeN g) K a l k wr)) :
    Calls Try.prog 16 #[.pointer (some ⟨d, 0, none⟩)] w (BothPost w r0 r1) := by
  have h2 := secs_two hg
  have hz : 64 ≤ sizeN g ∧ sizeN g ≤ 1024 := by have := hg.1.1; unfold sizeN; omega
  have hc := both_ok hD rfl (by show 2 ≤ K.length; rw [h.len]; exact h2) hz (s0 := K.getD 0 []) (s1 := K.getD 1 []) rfl rfl h.z0.2 h.z1.2 h.z0.1 h.z1.1
  have hk : (calmS (sizeN g) K a l k wr).kept.length = (shapeS g).kept.length := by rw [shape_kept]; exact h.len
  rw [right_shape (S := calmS (sizeN g) K a l k wr) (S' := shapeS g) rfl hk 0, right_shape (S := calmS (sizeN g) K a l k wr) (S' := shapeS g) rfl hk 1, h.e0, h.e1] at hc
  exact hc
/-- The disk stays when a block of a type that is none of its own is written to. -/
theorem beside {w w' : World} {base d g : Nat} {S : DS} {cs : Array Value} {t : TypeId} {fr : Nat × Nat} (h : IsDisk w base d S) (hg : w.heap[g]? = some (.cells cs t fr)) (t1 : t ≠ 105) (t2 : t ≠ 55) (t3 : t ≠ 5) (t4 : t ≠ 4) (hm : Moves (fun k => k = g) w w') : IsDisk w' base d S := by
  obtain ⟨kv, kvs, m, D, pvs, kpv, h⟩ := h
  have ty : ∀ (k : Nat) (cs' : Array Value) (t' : TypeId) (fr' : Nat × Nat), w.heap[k]? = some (.cells cs' t' fr') → t ≠ t' → k ≠ g := fun k cs' t' fr' hk ht e => by
    rw [e, hg] at hk
    injection hk with hk
    injection hk with _ h1
    exact ht h1
  have hc : Clear w base d S (fun k => k = g) kv kvs m D pvs kpv := by
    refine ⟨h, ty d _ _ _ h.blk t1, fun k hk e => ?_, fun e => ?_, fun k cs' hk e => ty k cs' _ _ hk t3 e, fun k cs' hk e => ty k cs' _ _ hk t4 e⟩
    · obtain ⟨cur, hc⟩ := own_block h.kept hk
      exact ty k cur _ _ hc t2 e
    · obtain ⟨es, ck, hb, _⟩ := h.map
      have e : m = g := e
      rw [e, hg] at hb
      cases hb
  exact ⟨kv, kvs, m, D, pvs, kpv, hc.moves hm⟩
abbrev geoCells (g : Geo) : Array Value := #[.int .i64 g.sector, .int .i64 g.log, .int .i64 g.words]
/-- What the call remembers: its shape, the blocks, which of them there are, the one that was cut. -/
structure CutW (w : World) (bg bn bh bt : Nat) (g : Geo) (tb : Blk) (r0 r1 : Option Blk) (W : World) : Prop where
  mv : Moves (fun _ => False) w W
  hg : W.heap[bg]? = some (.cells (geoCells g) 25 (0, 0))
  hn : W.heap[bn]? = some (.cells (cells14 (orZ r0) (orZ r1)) 50 (0, 0))
  hh : W.heap[bh]? = some (.cells #[.bool (isB r0), .bool (isB r1)] 36 (0, 0))
  ht : W.heap[bt]? = some (.cells (blkCells tb) 49 (0, 0))
  lo : w.heap.size ≤ bn ∧ w.heap.size ≤ bh ∧ w.heap.size ≤ bt
variable {w : World} {bg bn bh bt : Nat} {g : Geo} {tb : Blk} {r0 r1 : Option Blk}
theorem ne_ty {W : World} {a b : Nat} {cs cs' : Array Value} {t t' : TypeId} {fr fr' : Nat × Nat} (ha : W.heap[a]? = some (.cells cs t fr)) (hb : W.heap[b]? = some (.cells cs' t' fr')) (h : t ≠ t') : a ≠ b := fun e => by
  rw [e, hb] at ha
  injection ha with ha
  injection ha with _ h1
  exact h h1.symm
theorem CutW.moves {W W' : World} (h : CutW w bg bn bh bt g tb r0 r1 W) {S : Nat → Prop} (hm : Moves S W W') (m : Moves (fun _ => False) w W') (n0 : ¬ S bg) (n1 : ¬ S bn) (n2 : ¬ S bh) (n3 : ¬ S bt) : CutW w bg bn bh bt g tb r0 r1 W' :=
  ⟨m, (hm.block _ (lt_of_block h.hg) n0).trans h.hg, (hm.block _ (lt_of_block h.hn) n1).trans h.hn, (hm.block _ (lt_of_block h.hh) n2).trans h.hh, (hm.block _ (lt_of_block h.ht) n3).trans h.ht, h.lo⟩
theorem CutW.moves0 {W W' : World} (h : CutW w bg bn bh bt g tb r0 r1 W) (hm : Moves (fun _ => False) W W') : CutW w bg bn bh bt g tb r0 r1 W' :=
  h.moves hm (h.mv.trans hm) (fun e => e) (fun e => e) (fun e => e) (fun e => e)
theorem CutW.disk {W W' : World} (h : CutW w bg bn bh bt g tb r0 r1 W) {base d : Nat} {S : DS} (hD : IsDisk W base d S) (hb : w.heap.size ≤ base) (hm : DMv W d W') : CutW w bg bn bh bt g tb r0 r1 W' :=
  h.moves hm.mv (under hD h.mv hb hm) (hD.apart h.hg (by decide) (by decide)) (hD.apart h.hn (by decide) (by decide)) (hD.apart h.hh (by decide) (by decide)) (hD.apart h.ht (by decide) (by decide))
abbrev put7 (W : World) (p k : Nat) (b : Blk) : World := ((((((W.setCell ⟨p, k, none⟩ (.int .u64 b.epoch)).setCell ⟨p, k + 1, none⟩ (.int .i64 b.geom.sector)).setCell ⟨p, k + 2, none⟩ (.int .i64 b.geom.log)).setCell ⟨p, k + 3, none⟩ (.int .i64 b.geom.words)).setCell ⟨p, k + 4, none⟩ (.int .i64 b.space)).setCell ⟨p, k + 5, none⟩ (.int .i64 b.words)).setCell ⟨p, k + 6, none⟩ (.int .u64 b.log)
theorem put7_moves (W : World) (p k : Nat) (b : Blk) : Moves (fun i => i = p) W (put7 W p k b) :=
  (((((((Moves.refl (fun i => i = p) W).setCell (p := ⟨p, k, none⟩) (fun _ => rfl) _).setCell (p := ⟨p, k + 1, none⟩) (fun _ => rfl) _).setCell (p := ⟨p, k + 2, none⟩) (fun _ => rfl) _).setCell (p := ⟨p, k + 3, none⟩) (fun _ => rfl) _).setCell (p := ⟨p, k + 4, none⟩) (fun _ => rfl) _).setCell (p := ⟨p, k + 5, none⟩) (fun _ => rfl) _).setCell (p := ⟨p, k + 6, none⟩) (fun _ => rfl) _
/-- A block is laid into what is remembered. -/
theorem CutW.put0 {W : World} (h : CutW w bg bn bh bt g tb r0 r1 W) (b : Blk) : CutW w bg bn bh bt g tb (some b) r1 ((put7 W bn 0 b).setCell ⟨bh, 0, none⟩ (.bool true)) := by
  have m1 := put7_moves W bn 0 b
  have m2 : Moves (fun i => i = bh) (put7 W bn 0 b) ((put7 W bn 0 b).setCell ⟨bh, 0, none⟩ (.bool true)) := (Moves.refl (fun i => i = bh) _).setCell (p := ⟨bh, 0, none⟩) (fun _ => rfl) _
  have e1 : (put7 W bn 0 b).heap[bn]? = some (.cells (cells14 (orZ (some b)) (orZ r1)) 50 (0, 0)) := set14a h.hn
  generalize put7 W bn 0 b = W1 at m1 m2 e1 ⊢
  have k1 : ∀ {i : Nat} {cs : Array Value} {t : TypeId}, W.heap[i]? = some (.cells cs t (0, 0)) → t ≠ 50 → W1.heap[i]? = some (.cells cs t (0, 0)) := fun hi ht => (m1.block _ (lt_of_block hi) (ne_ty hi h.hn ht)).trans hi
  have h3 := k1 h.hh (by decide)
  have k2 : ∀ {i : Nat} {cs : Array Value} {t : TypeId}, W1.heap[i]? = some (.cells cs t (0, 0)) → t ≠ 36 → (W1.setCell ⟨bh, 0, none⟩ (.bool true)).heap[i]? = some (.cells cs t (0, 0)) := fun hi ht => (m2.block _ (lt_of_block hi) (ne_ty hi h3 ht)).trans hi
  exact ⟨(h.mv.andThen m1 (fun i e hi => by have := h.lo.1; omega)).andThen m2 (fun i e hi => by have := h.lo.2.1; omega), k2 (k1 h.hg (by decide)) (by decide), k2 e1 (by decide), by simp [World.setCell, Array.getElem?_modify, h3, isB], k2 (k1 h.ht (by decide)) (by decide), h.lo⟩
theorem CutW.put1 {W : World} (h : CutW w bg bn bh bt g tb r0 r1 W) (b : Blk) : CutW w bg bn bh bt g tb r0 (some b) ((put7 W bn 7 b).setCell ⟨bh, 1, none⟩ (.bool true)) := by
  have m1 := put7_moves W bn 7 b
  have m2 : Moves (fun i => i = bh) (put7 W bn 7 b) ((put7 W bn 7 b).setCell ⟨bh, 1, none⟩ (.bool true)) := (Moves.refl (fun i => i = bh) _).setCell (p := ⟨bh, 1, none⟩) (fun _ => rfl) _
  have e1 : (put7 W bn 7 b).heap[bn]? = some (.cells (cells14 (orZ r0) (orZ (some b))) 50 (0, 0)) := set14b h.hn
  generalize put7 W bn 7 b = W1 at m1 m2 e1 ⊢
  have k1 : ∀ {i : Nat} {cs : Array Value} {t : TypeId}, W.heap[i]? = some (.cells cs t (0, 0)) → t ≠ 50 → W1.heap[i]? = some (.cells cs t (0, 0)) := fun hi ht => (m1.block _ (lt_of_block hi) (ne_ty hi h.hn ht)).trans hi
  have h3 := k1 h.hh (by decide)
  have k2 : ∀ {i : Nat} {cs : Array Value} {t : TypeId}, W1.heap[i]? = some (.cells cs t (0, 0)) → t ≠ 36 → (W1.setCell ⟨bh, 1, none⟩ (.bool true)).heap[i]? = some (.cells cs t (0, 0)) := fun hi ht => (m2.block _ (lt_of_block hi) (ne_ty hi h3 ht)).trans hi
  exact ⟨(h.mv.andThen m1 (fun i e hi => by have := h.lo.1; omega)).andThen m2 (fun i e hi => by have := h.lo.2.1; omega), k2 (k1 h.hg (by decide)) (by decide), k2 e1 (by decide), by simp [World.setCell, Array.getElem?_modify, h3, isB], k2 (k1 h.ht (by decide)) (by decide), h.lo⟩
theorem CutW.torn {W : World} (h : CutW w bg bn bh bt g tb r0 r1 W) (b : Blk) : CutW w bg bn bh bt g b r0 r1 (put7 W bt 0 b) := by
  have m1 := put7_moves W bt 0 b
  have e1 : (put7 W bt 0 b).heap[bt]? = some (.cells (blkCells b) 49 (0, 0)) := by simp [World.setCell, Array.getElem?_modify, h.ht]
  generalize put7 W bt 0 b = W1 at m1 e1 ⊢
  have k1 : ∀ {i : Nat} {cs : Array Value} {t : TypeId}, W.heap[i]? = some (.cells cs t (0, 0)) → t ≠ 49 → W1.heap[i]? = some (.cells cs t (0, 0)) := fun hi ht => (m1.block _ (lt_of_block hi) (ne_ty hi h.ht ht)).trans hi
  exact ⟨h.mv.andThen m1 (fun i e hi => by have := h.lo.2.2; omega), k1 h.hg (by decide), k1 h.hn (by decide), k1 h.hh (by decide), e1, h.lo⟩
theorem CutW.diskN {W : World} (h : CutW w bg bn bh bt g tb r0 r1 W) {base d : Nat} {S : DS} (hD : IsDisk W base d S) (k e : Nat) (b : Blk) (v : Value) : IsDisk ((put7 W bn k b).setCell ⟨bh, e, none⟩ v) base d S := by
  have m1 := put7_moves W bn k b
  have m2 : Moves (fun i => i = bh) (put7 W bn k b) ((put7 W bn k b).setCell ⟨bh, e, none⟩ v) := (Moves.refl (fun i => i = bh) _).setCell (p := ⟨bh, e, none⟩) (fun _ => rfl) _
  have hD1 := beside hD h.hn (by decide) (by decide) (by decide) (by decide) m1
  have h3 : (put7 W bn k b).heap[bh]? = _ := (m1.block _ (lt_of_block h.hh) (ne_ty h.hh h.hn (by decide))).trans h.hh
  exact beside hD1 h3 (by decide) (by decide) (by decide) (by decide) m2
theorem CutW.diskT {W : World} (h : CutW w bg bn bh bt g tb r0 r1 W) {base d : Nat} {S : DS} (hD : IsDisk W base d S) (b : Blk) : IsDisk (put7 W bt 0 b) base d S :=
  beside hD h.ht (by decide) (by decide) (by decide) (by decide) (put7_moves W bt 0 b)
theorem cellF {W : World} {p : Nat} {cs : Array Value} {t : TypeId} (h : W.heap[p]? = some (.cells cs t (0, 0))) (j : Nat) {v : Value} (hj : cs[j]? = some v) : W.cell? ⟨p, j, none⟩ = some v ∧ W.frozen? ⟨p, j, none⟩ = false := by
  simp only [World.cell?, World.frozen?, h, Option.isSome_none, Bool.false_eq_true, if_false]
  exact ⟨hj, by simp⟩
/-- A disk on which the power went, or did not go. -/
def cutD (g : Geo) (K : List (List Int)) (keep : List Bool) (c : Bool) (l wr : Int) : DS := if c then { calmS (sizeN g) K false l [] wr with off := true } else calmS (sizeN g) K true l keep wr
/-- The loop's state. -/
def CutT (w : World) (base d bg bn bh bt : Nat) (g : Geo) (keep : List Bool) (i : Nat) (c : Bool) (W : World) : Prop :=
  ∃ (r0 r1 : Option Blk) (tb : Blk) (K : List (List Int)) (l wr : Int), Cuts g K r0 r1 ∧ CutW w bg bn bh bt g tb r0 r1 W ∧ IsDisk W base d (cutD g K keep c l wr) ∧ (c = false → 1 ≤ l ∧ l ≤ 1000) ∧ 0 ≤ wr ∧ wr ≤ i ∧ 0 ≤ tb.epoch
end Go.Proofs.Ytnagpianaghjeaa.Sl
