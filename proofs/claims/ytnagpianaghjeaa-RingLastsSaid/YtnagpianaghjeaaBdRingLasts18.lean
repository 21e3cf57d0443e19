/-
  slots.Both. (Printed by gen_both.py.)
  slots.Read. (Printed by gen_slotsread.py.)
  loamlaw6.Few, loamlaw4.Of, loamref4: one, Sectors, Check. (Printed by gen_ref4.py.)
-/
import Derived.Test.YtnagpianaghjeaaBdRingLasts17
import Derived.Test.YtnagpianaghjeaaBdRingLasts15
import Derived.RegionTactic
import Derived.ChangeAlike
import Derived.Test.YtnagpianaghjeaaBdRingLasts8
namespace Go.Proofs.Ytnagpianaghjeaa.Sl
open Go Go.RowKit Go.Proofs
open Pl (DS IsDisk DOwn DPost DMv DKeep)

/-- What a slot's sector counts as. -/
def rightS (S : DS) (i : Int) (s : List Int) : Option Blk := match decS crcL s with
  | some b => if fitsB S b.geom = true ∧ b.epoch % 2 = i then some b else none
  | none => none
abbrev cells14 (a b : Blk) : Array Value := #[.int .u64 a.epoch, .int .i64 a.geom.sector, .int .i64 a.geom.log, .int .i64 a.geom.words, .int .i64 a.space, .int .i64 a.words, .int .u64 a.log, .int .u64 b.epoch, .int .i64 b.geom.sector, .int .i64 b.geom.log, .int .i64 b.geom.words, .int .i64 b.space, .int .i64 b.words, .int .u64 b.log]
def orZ (r : Option Blk) : Blk := r.getD zeroB
def isB (r : Option Blk) : Bool := r.isSome
abbrev pairV (r0 r1 : Option Blk) : Value := .agg (cells14 (orZ r0) (orZ r1))
abbrev onV (r0 r1 : Option Blk) : Value := .agg #[.bool (isB r0), .bool (isB r1)]
def BothPost (w : World) (r0 r1 : Option Blk) (e : Ending) (w' : World) : Prop := e = .returned (.tuple #[pairV r0 r1, onV r0 r1, .int .i64 0]) ∧ Moves (fun _ => False) w w'
theorem read_row {w w' : World} {s : List Int} {e : Ending} (h : Pl.ReadPost w s e w') (hb : ∀ x ∈ s, 0 ≤ x ∧ x < 256) (hl : s.length ≤ 1000000) : ∃ g, e = .returned (.tuple #[.slice (some ⟨g, 0, none⟩) s.length s.length, .int .i64 0]) ∧ w.heap.size ≤ g ∧ BRow w' (fun k => k = g) (.slice (some ⟨g, 0, none⟩) s.length s.length) s ∧ Moves (fun _ => False) w w' := by
  obtain ⟨g, he, hg, hlt, hc, hm⟩ := h
  refine ⟨g, he, hg, ⟨⟨some ⟨g, 0, none⟩, s.length, by rw [List.length_map], by rw [List.length_map]; exact Nat.le_refl _, fun _ => ⟨g, 0, rfl, rfl, hlt, fun j u hu => ?_⟩⟩, hb, hl⟩, hm⟩
  rw [Nat.zero_add]
  exact hc j u hu
theorem set14a {w : World} {g : Nat} {z0 z1 z2 z3 z4 z5 z6 y0 y1 y2 y3 y4 y5 y6 a0 a1 a2 a3 a4 a5 a6 : Value} {t : TypeId} (h : w.heap[g]? = some (.cells #[z0, z1, z2, z3, z4, z5, z6, y0, y1, y2, y3, y4, y5, y6] t (0, 0))) :
    (((((((w.setCell ⟨g, 0, none⟩ a0).setCell ⟨g, 1, none⟩ a1).setCell ⟨g, 2, none⟩ a2).setCell ⟨g, 3, none⟩ a3).setCell ⟨g, 4, none⟩ a4).setCell ⟨g, 5, none⟩ a5).setCell ⟨g, 6, none⟩ a6).heap[g]? = some (.cells #[a0, a1, a2, a3, a4, a5, a6, y0, y1, y2, y3, y4, y5, y6] t (0, 0)) := by
  simp [World.setCell, Array.getElem?_modify, h]
theorem set14b {w : World} {g : Nat} {z0 z1 z2 z3 z4 z5 z6 y0 y1 y2 y3 y4 y5 y6 a0 a1 a2 a3 a4 a5 a6 : Value} {t : TypeId} (h : w.heap[g]? = some (.cells #[z0, z1, z2, z3, z4, z5, z6, y0, y1, y2, y3, y4, y5, y6] t (0, 0))) :
    (((((((w.setCell ⟨g, 7, none⟩ a0).setCell ⟨g, 8, none⟩ a1).setCell ⟨g, 9, none⟩ a2).setCell ⟨g, 10, none⟩ a3).setCell ⟨g, 11, none⟩ a4).setCell ⟨g, 12, none⟩ a5).setCell ⟨g, 13, none⟩ a6).heap[g]? = some (.cells #[z0, z1, z2, z3, z4, z5, z6, a0, a1, a2, a3, a4, a5, a6] t (0, 0)) := by
  simp [World.setCell, Array.getElem?_modify, h]
/-- The four blocks of Both's own. -/
def Own4 (w : World) (gb : Nat) (W : World) (r0 r1 : Option Blk) : Prop := Moves (fun _ => False) w W ∧ W.heap[gb]? = some (.cells #[.int .u64 0, .int .i64 0, .int .i64 0, .int .i64 0, .int .i64 0, .int .i64 0, .int .u64 0, .int .u64 0, .int .i64 0, .int .i64 0, .int .i64 0, .int .i64 0, .int .i64 0, .int .u64 0] 35 (0, 0)) ∧ W.heap[gb + 1]? = some (.cells #[.bool false, .bool false] 36 (0, 0)) ∧ W.heap[gb + 2]? = some (.cells (cells14 (orZ r0) (orZ r1)) 35 (0, 0)) ∧ W.heap[gb + 3]? = some (.cells #[.bool (isB r0), .bool (isB r1)] 36 (0, 0))
theorem Own4.moves {w W W' : World} {gb : Nat} {r0 r1 : Option Blk} (h : Own4 w gb W r0 r1) (hm : Moves (fun _ => False) W W') : Own4 w gb W' r0 r1 :=
  ⟨h.1.trans hm, (hm.block _ (lt_of_block h.2.1) (fun e => e)).trans h.2.1, (hm.block _ (lt_of_block h.2.2.1) (fun e => e)).trans h.2.2.1, (hm.block _ (lt_of_block h.2.2.2.1) (fun e => e)).trans h.2.2.2.1, (hm.block _ (lt_of_block h.2.2.2.2) (fun e => e)).trans h.2.2.2.2⟩
theorem Own4.put0 {w W : World} {gb : Nat} {r1 : Option Blk} (h : Own4 w gb W (none) (r1)) (hgb : w.heap.size ≤ gb) (b : Blk) : Own4 w gb ((((((((W.setCell ⟨gb + 2, 0, none⟩ (.int .u64 b.epoch)).setCell ⟨gb + 2, 1, none⟩ (.int .i64 b.geom.sector)).setCell ⟨gb + 2, 2, none⟩ (.int .i64 b.geom.log)).setCell ⟨gb + 2, 3, none⟩ (.int .i64 b.geom.words)).setCell ⟨gb + 2, 4, none⟩ (.int .i64 b.space)).setCell ⟨gb + 2, 5, none⟩ (.int .i64 b.words)).setCell ⟨gb + 2, 6, none⟩ (.int .u64 b.log)).setCell ⟨gb + 3, 0, none⟩ (.bool true)) (some b) (r1) := by
  obtain ⟨hm, h0, h1, h2, h3⟩ := h
  have e2 := set14a (a0 := .int .u64 b.epoch) (a1 := .int .i64 b.geom.sector) (a2 := .int .i64 b.geom.log) (a3 := .int .i64 b.geom.words) (a4 := .int .i64 b.space) (a5 := .int .i64 b.words) (a6 := .int .u64 b.log) h2
  have m2 : Moves (fun k => k = gb + 2) W (((((((W.setCell ⟨gb + 2, 0, none⟩ (.int .u64 b.epoch)).setCell ⟨gb + 2, 1, none⟩ (.int .i64 b.geom.sector)).setCell ⟨gb + 2, 2, none⟩ (.int .i64 b.geom.log)).setCell ⟨gb + 2, 3, none⟩ (.int .i64 b.geom.words)).setCell ⟨gb + 2, 4, none⟩ (.int .i64 b.space)).setCell ⟨gb + 2, 5, none⟩ (.int .i64 b.words)).setCell ⟨gb + 2, 6, none⟩ (.int .u64 b.log)) := Moves.setCell (p := ⟨gb + 2, 6, none⟩) (Moves.setCell (p := ⟨gb + 2, 5, none⟩) (Moves.setCell (p := ⟨gb + 2, 4, none⟩) (Moves.setCell (p := ⟨gb + 2, 3, none⟩) (Moves.setCell (p := ⟨gb + 2, 2, none⟩) (Moves.setCell (p := ⟨gb + 2, 1, none⟩) (Moves.setCell (p := ⟨gb + 2, 0, none⟩) (Moves.refl (fun k => k = gb + 2) W) (fun _ => rfl) (.int .u64 b.epoch)) (fun _ => rfl) (.int .i64 b.geom.sector)) (fun _ => rfl) (.int .i64 b.geom.log)) (fun _ => rfl) (.int .i64 b.geom.words)) (fun _ => rfl) (.int .i64 b.space)) (fun _ => rfl) (.int .i64 b.words)) (fun _ => rfl) (.int .u64 b.log)
  generalize (((((((W.setCell ⟨gb + 2, 0, none⟩ (.int .u64 b.epoch)).setCell ⟨gb + 2, 1, none⟩ (.int .i64 b.geom.sector)).setCell ⟨gb + 2, 2, none⟩ (.int .i64 b.geom.log)).setCell ⟨gb + 2, 3, none⟩ (.int .i64 b.geom.words)).setCell ⟨gb + 2, 4, none⟩ (.int .i64 b.space)).setCell ⟨gb + 2, 5, none⟩ (.int .i64 b.words)).setCell ⟨gb + 2, 6, none⟩ (.int .u64 b.log)) = W2 at e2 m2 ⊢
  have m3 : Moves (fun k => k = gb + 3) W2 (W2.setCell ⟨gb + 3, 0, none⟩ (.bool true)) := Moves.setCell (p := ⟨gb + 3, 0, none⟩) (Moves.refl (fun k => k = gb + 3) W2) (fun _ => rfl) (.bool true)
  have g3 := (m2.block _ (lt_of_block h3) (fun (e : gb + 3 = gb + 2) => by omega)).trans h3
  refine ⟨(hm.andThen m2 (fun k e hk => by omega)).andThen m3 (fun k e hk => by omega), ?_, ?_, ?_, ?_⟩
  · exact (m3.block _ (by have := m2.size; have := lt_of_block h0; omega) (fun (e : gb = gb + 3) => by omega)).trans ((m2.block _ (lt_of_block h0) (fun (e : gb = gb + 2) => by omega)).trans h0)
  · exact (m3.block _ (by have := m2.size; have := lt_of_block h1; omega) (fun (e : gb + 1 = gb + 3) => by omega)).trans ((m2.block _ (lt_of_block h1) (fun (e : gb + 1 = gb + 2) => by omega)).trans h1)
  · exact (m3.block _ (lt_of_block e2) (fun (e : gb + 2 = gb + 3) => by omega)).trans e2
  · simp [World.setCell, Array.getElem?_modify, g3, isB]
theorem Own4.put1 {w W : World} {gb : Nat} {r0 : Option Blk} (h : Own4 w gb W (r0) (none)) (hgb : w.heap.size ≤ gb) (b : Blk) : Own4 w gb ((((((((W.setCell ⟨gb + 2, 7, none⟩ (.int .u64 b.epoch)).setCell ⟨gb + 2, 8, none⟩ (.int .i64 b.geom.sector)).setCell ⟨gb + 2, 9, none⟩ (.int .i64 b.geom.log)).setCell ⟨gb + 2, 10, none⟩ (.int .i64 b.geom.words)).setCell ⟨gb + 2, 11, none⟩ (.int .i64 b.space)).setCell ⟨gb + 2, 12, none⟩ (.int .i64 b.words)).setCell ⟨gb + 2, 13, none⟩ (.int .u64 b.log)).setCell ⟨gb + 3, 1, none⟩ (.bool true)) (r0) (some b) := by
  obtain ⟨hm, h0, h1, h2, h3⟩ := h
  have e2 := set14b (a0 := .int .u64 b.epoch) (a1 := .int .i64 b.geom.sector) (a2 := .int .i64 b.geom.log) (a3 := .int .i64 b.geom.words) (a4 := .int .i64 b.space) (a5 := .int .i64 b.words) (a6 := .int .u64 b.log) h2
  have m2 : Moves (fun k => k = gb + 2) W (((((((W.setCell ⟨gb + 2, 7, none⟩ (.int .u64 b.epoch)).setCell ⟨gb + 2, 8, none⟩ (.int .i64 b.geom.sector)).setCell ⟨gb + 2, 9, none⟩ (.int .i64 b.geom.log)).setCell ⟨gb + 2, 10, none⟩ (.int .i64 b.geom.words)).setCell ⟨gb + 2, 11, none⟩ (.int .i64 b.space)).setCell ⟨gb + 2, 12, none⟩ (.int .i64 b.words)).setCell ⟨gb + 2, 13, none⟩ (.int .u64 b.log)) := Moves.setCell (p := ⟨gb + 2, 13, none⟩) (Moves.setCell (p := ⟨gb + 2, 12, none⟩) (Moves.setCell (p := ⟨gb + 2, 11, none⟩) (Moves.setCell (p := ⟨gb + 2, 10, none⟩) (Moves.setCell (p := ⟨gb + 2, 9, none⟩) (Moves.setCell (p := ⟨gb + 2, 8, none⟩) (Moves.setCell (p := ⟨gb + 2, 7, none⟩) (Moves.refl (fun k => k = gb + 2) W) (fun _ => rfl) (.int .u64 b.epoch)) (fun _ => rfl) (.int .i64 b.geom.sector)) (fun _ => rfl) (.int .i64 b.geom.log)) (fun _ => rfl) (.int .i64 b.geom.words)) (fun _ => rfl) (.int .i64 b.space)) (fun _ => rfl) (.int .i64 b.words)) (fun _ => rfl) (.int .u64 b.log)
  generalize (((((((W.setCell ⟨gb + 2, 7, none⟩ (.int .u64 b.epoch)).setCell ⟨gb + 2, 8, none⟩ (.int .i64 b.geom.sector)).setCell ⟨gb + 2, 9, none⟩ (.int .i64 b.geom.log)).setCell ⟨gb + 2, 10, none⟩ (.int .i64 b.geom.words)).setCell ⟨gb + 2, 11, none⟩ (.int .i64 b.space)).setCell ⟨gb + 2, 12, none⟩ (.int .i64 b.words)).setCell ⟨gb + 2, 13, none⟩ (.int .u64 b.log)) = W2 at e2 m2 ⊢
  have m3 : Moves (fun k => k = gb + 3) W2 (W2.setCell ⟨gb + 3, 1, none⟩ (.bool true)) := Moves.setCell (p := ⟨gb + 3, 1, none⟩) (Moves.refl (fun k => k = gb + 3) W2) (fun _ => rfl) (.bool true)
  have g3 := (m2.block _ (lt_of_block h3) (fun (e : gb + 3 = gb + 2) => by omega)).trans h3
  refine ⟨(hm.andThen m2 (fun k e hk => by omega)).andThen m3 (fun k e hk => by omega), ?_, ?_, ?_, ?_⟩
  · exact (m3.block _ (by have := m2.size; have := lt_of_block h0; omega) (fun (e : gb = gb + 3) => by omega)).trans ((m2.block _ (lt_of_block h0) (fun (e : gb = gb + 2) => by omega)).trans h0)
  · exact (m3.block _ (by have := m2.size; have := lt_of_block h1; omega) (fun (e : gb + 1 = gb + 3) => by omega)).trans ((m2.block _ (lt_of_block h1) (fun (e : gb + 1 = gb + 2) => by omega)).trans h1)
  · exact (m3.block _ (lt_of_block e2) (fun (e : gb + 2 = gb + 3) => by omega)).trans e2
  · simp [World.setCell, Array.getElem?_modify, g3, isB]
theorem zero14 (w : World) : Own4 w w.heap.size ((((w.alloc (.cells #[.int .u64 0, .int .i64 0, .int .i64 0, .int .i64 0, .int .i64 0, .int .i64 0, .int .u64 0, .int .u64 0, .int .i64 0, .int .i64 0, .int .i64 0, .int .i64 0, .int .i64 0, .int .u64 0] 35)).alloc (.cells #[.bool false, .bool false] 36)).alloc (.cells #[.int .u64 0, .int .i64 0, .int .i64 0, .int .i64 0, .int .i64 0, .int .i64 0, .int .u64 0, .int .u64 0, .int .i64 0, .int .i64 0, .int .i64 0, .int .i64 0, .int .i64 0, .int .u64 0] 35)).alloc (.cells #[.bool false, .bool false] 36)) none none := by
  refine ⟨((((Moves.refl _ w).alloc _).alloc _).alloc _).alloc _, ?_, ?_, ?_, ?_⟩
  · exact (Below.heap_alloc _ _ _ (by simp; omega)).trans ((Below.heap_alloc _ _ _ (by simp; omega)).trans ((Below.heap_alloc _ _ _ (by simp)).trans (alloc_at rfl)))
  · exact (Below.heap_alloc _ _ _ (by simp)).trans ((Below.heap_alloc _ _ _ (by simp)).trans (alloc_at (by simp)))
  · exact (Below.heap_alloc _ _ _ (by simp)).trans (alloc_at (by simp))
  · exact alloc_at (by simp)
theorem cells14_at {w : World} {g : Nat} {a b : Blk} {t : TypeId} (h : w.heap[g]? = some (.cells (cells14 a b) t (0, 0))) (j : Nat) (v : Value) (hj : (cells14 a b)[j]? = some v) : w.cell? ⟨g, j, none⟩ = some v ∧ w.frozen? ⟨g, j, none⟩ = false := by
  simp only [World.cell?, World.frozen?, h, Option.isSome_none, Bool.false_eq_true, if_false]
  exact ⟨hj, by simp⟩
theorem zero14_at {w : World} {g : Nat} {t : TypeId} (h : w.heap[g]? = some (.cells #[.int .u64 0, .int .i64 0, .int .i64 0, .int .i64 0, .int .i64 0, .int .i64 0, .int .u64 0, .int .u64 0, .int .i64 0, .int .i64 0, .int .i64 0, .int .i64 0, .int .i64 0, .int .u64 0] t (0, 0))) (j : Nat) (v : Value) (hj : (#[.int .u64 0, .int .i64 0, .int .i64 0, .int .i64 0, .int .i64 0, .int .i64 0, .int .u64 0, .int .u64 0, .int .i64 0, .int .i64 0, .int .i64 0, .int .i64 0, .int .i64 0, .int .u64 0] : Array Value)[j]? = some v) : w.cell? ⟨g, j, none⟩ = some v ∧ w.frozen? ⟨g, j, none⟩ = false := by
  simp only [World.cell?, World.frozen?, h, Option.isSome_none, Bool.false_eq_true, if_false]
  exact ⟨hj, by simp⟩
set_option maxRecDepth 100000 in
set_option maxHeartbeats 8000000 in
theorem both_ok {w : World} {base d : Nat} {S : DS} (h : IsDisk w base d S) (ho : S.off = false) (hk : 2 ≤ S.kept.length) (hz : 64 ≤ S.size ∧ S.size ≤ 1024) {s0 s1 : List Int} (h0 : Pl.rdN S 0 S.secs.length = s0) (h1 : Pl.rdN S 1 S.secs.length = s1) (b0 : ∀ x ∈ s0, 0 ≤ x ∧ x < 256) (b1 : ∀ x ∈ s1, 0 ≤ x ∧ x < 256) (l0 : s0.length = S.size) (l1 : s1.length = S.size) : Calls Try.prog 16 #[.pointer (some ⟨d, 0, none⟩)] w (BothPost w (rightS S 0 s0) (rightS S 1 s1)) := by
  have HSH := Lib.hid (fun W (hW : Moves (fun _ => False) w W) => Pl.shape_any (h.moves0 hW))
  have HOF := Lib.hid (fun W (hW : Moves (fun _ => False) w W) => Pl.off_any (h.moves0 hW))
  rw [ho] at HOF
  have hkl : 2 ≤ (S.kept.length : Int) := by omega
  have HRD0 := Lib.hid (fun W (hW : Moves (fun _ => False) w W) => (Pl.read_ok (h.moves0 hW) ho (i := 0) (by unfold Pl.inS; simp; omega) (by omega) (by omega) h0).mono (fun e w' hr => read_row hr b0 (by omega)))
  have HRD1 := Lib.hid (fun W (hW : Moves (fun _ => False) w W) => (Pl.read_ok (h.moves0 hW) ho (i := 1) (by unfold Pl.inS; simp; omega) (by omega) (by omega) h1).mono (fun e w' hr => read_row hr b1 (by omega)))
  have HFT := Lib.hid (fun W (hW : Moves (fun _ => False) w W) (g : Geo) (hg : NearG g) => fits_any (h.moves0 hW) hg)
  have HL0 : Hid (64 ≤ s0.length) := Lib.hid (by omega)
  have HL1 : Hid (64 ≤ s1.length) := Lib.hid (by omega)
  have HB0 := Lib.hid b0
  have HB1 := Lib.hid b1
  have HR0 : Hid (rightS S 0 s0 = match decS crcL s0 with | some b => if fitsB S b.geom = true ∧ b.epoch % 2 = 0 then some b else none | none => none) := Lib.hid rfl
  have HR1 : Hid (rightS S 1 s1 = match decS crcL s1 with | some b => if fitsB S b.geom = true ∧ b.epoch % 2 = 1 then some b else none | none => none) := Lib.hid rfl
  have HO := Lib.hid (zero14 w)
  clear h ho hk h0 h1 b0 b1
  generalize rightS S 0 s0 = r0 at HR0 ⊢
  generalize rightS S 1 s1 = r1 at HR1 ⊢
  have HQ : Hid (∀ e w', e = .returned (.tuple #[pairV r0 r1, onV r0 r1, .int .i64 0]) → Moves (fun _ => False) w w' → BothPost w r0 r1 e w') := Lib.hid fun e w' h1 h2 => ⟨h1, h2⟩
  generalize BothPost w r0 r1 = Q at HQ ⊢
  generalize S.kept.length = k at HSH hkl
  generalize hzz : S.size = z at HSH
  clear hz l0 l1 hzz
  go_enter Try.func16, Try.ntmps16
  go_wp2_with fail
  generalize (((w.alloc (.cells #[.int .u64 0, .int .i64 0, .int .i64 0, .int .i64 0, .int .i64 0, .int .i64 0, .int .u64 0, .int .u64 0, .int .i64 0, .int .i64 0, .int .i64 0, .int .i64 0, .int .i64 0, .int .u64 0] 35)).alloc (.cells #[.bool false, .bool false] 36)).alloc (.cells #[.int .u64 0, .int .i64 0, .int .i64 0, .int .i64 0, .int .i64 0, .int .i64 0, .int .u64 0, .int .u64 0, .int .i64 0, .int .i64 0, .int .i64 0, .int .i64 0, .int .i64 0, .int .u64 0] 35)).alloc (.cells #[.bool false, .bool false] 36) = W0 at HO ⊢
  obtain ⟨gb, hgb⟩ : ∃ gb, gb = w.heap.size := ⟨_, rfl⟩
  rw [← hgb] at HO ⊢
  have HGB := Lib.hid hgb
  clear hgb
  refine (HSH.out W0 HO.out.1).mono ?_
  rintro e w1 ⟨rfl, hm1⟩
  have HO1 := Lib.hid (HO.out.moves hm1)
  clear hm1 HO
  go_wp2_with fail
  refine (HOF.out w1 HO1.out.1).mono ?_
  rintro e w2 ⟨rfl, rfl⟩
  go_wp2_with fail
  go_loopg [29] 2 (fun gg s29 wr => (gg = 2 ∧ s29 = .int .i64 0 ∧ Hid (Own4 w gb wr none none)) ∨ (gg = 1 ∧ s29 = .int .i64 1 ∧ Hid (Own4 w gb wr r0 none)) ∨ (gg = 0 ∧ s29 = .int .i64 2 ∧ Hid (Own4 w gb wr r0 r1)))
  case atStart => exact .inl ⟨rfl, rfl, HO1⟩
  case round =>
    rcases hrel with ⟨rfl, rfl, HI⟩ | ⟨rfl, rfl, HI⟩ | ⟨rfl, rfl, HI⟩
    · go_wp2_with fail
      refine (HRD0.out _ HI.out.1).mono ?_
      rintro e w3 ⟨g, rfl, hg, hrow, hm3⟩
      have HO3 := Lib.hid (HI.out.moves hm3)
      clear hm3 HI
      have hdec := decode_any hrow HL0.out
      clear hrow hg
      generalize hd : decS crcL s0 = ov at HR0 hdec
      go_wp2_with fail
      cases ov with
      | none =>
        have hdec' : Calls Try.prog 63 _ _ (fun e w' => e = .returned (.tuple #[blkV zeroB, .int .i64 2]) ∧ Moves (fun _ => False) w3 w') := hdec
        obtain rfl : r0 = none := HR0.out
        clear hdec hd
        refine hdec'.mono ?_
        rintro e w4 ⟨rfl, hm4⟩
        have HO4 := Lib.hid (HO3.out.moves (hm4.alloc (.cells (blkCells zeroB) 32)))
        clear hm4
        go_wp2_with fail
        go_roundg 1
        case measure => omega
        case rel => exact .inr (.inl ⟨rfl, by go_num, Lib.hid HO4.out⟩)
      | some b =>
        have hgood := dec_some hd
        have hep : 0 ≤ b.epoch ∧ b.epoch < 18446744073709551616 := by
          rw [hgood.2.2]
          exact getL_lt HB0.out 8 8
        obtain ⟨hep1, hep2⟩ := hep
        have HNR := Lib.hid hgood.1.1.near
        have hdec' : Calls Try.prog 63 _ _ (fun e w' => e = .returned (.tuple #[blkV b, .int .i64 0]) ∧ Moves (fun _ => False) w3 w') := hdec
        have HR : Hid (r0 = if fitsB S b.geom = true ∧ b.epoch % 2 = 0 then some b else none) := Lib.hid HR0.out
        clear hdec hd hgood HR0
        refine hdec'.mono ?_
        rintro e w4 ⟨rfl, hm4⟩
        have HO4 := Lib.hid (HO3.out.moves (hm4.alloc (.cells (blkCells b) 32)))
        have hb4 := heap_alloc_new w4 (.cells (blkCells b) 32)
        clear hm4
        by_cases hf : fitsB S b.geom = true
        · by_cases he : b.epoch % 2 = 0
          · obtain rfl : r0 = some b := HR.out.trans (if_pos ⟨hf, he⟩)
            have hft := fun W hW => HFT.out W hW b.geom HNR.out
            rw [hf] at hft
            have HF := Lib.hid hft
            have HS := Lib.hid (fun W => slot_any b.epoch hep1 hep2 W)
            rw [he] at HS
            clear hft hf HR he
            go_wp2_with fail
            generalize w4.alloc (.cells (blkCells b) 32) = W5 at HO4 hb4 ⊢
            refine (HF.out _ HO4.out.1).mono ?_
            rintro e w6 ⟨rfl, hm6⟩
            have HO6 := Lib.hid (HO4.out.moves hm6)
            obtain ⟨q0, q1, q2, q3, q4, q5, q6⟩ := cells7 ((hm6.block _ (lt_of_block hb4) (fun e => e)).trans hb4)
            clear hm6 HO4 hb4
            go_wp2_with fail
            refine (HS.out _).mono ?_
            rintro e w7 ⟨rfl, rfl⟩
            obtain ⟨d0, f0⟩ := cells14_at HO6.out.2.2.2.1 0 _ rfl
            obtain ⟨d1, f1⟩ := cells14_at HO6.out.2.2.2.1 1 _ rfl
            obtain ⟨d2, f2⟩ := cells14_at HO6.out.2.2.2.1 2 _ rfl
            obtain ⟨d3, f3⟩ := cells14_at HO6.out.2.2.2.1 3 _ rfl
            obtain ⟨d4, f4⟩ := cells14_at HO6.out.2.2.2.1 4 _ rfl
            obtain ⟨d5, f5⟩ := cells14_at HO6.out.2.2.2.1 5 _ rfl
            obtain ⟨d6, f6⟩ := cells14_at HO6.out.2.2.2.1 6 _ rfl
            have d7 : w6.cell? ⟨gb + 3, 0, none⟩ = some (.bool (isB none)) := by
              have := HO6.out.2.2.2.2
              simp [World.cell?, this]
            have f7 : w6.frozen? ⟨gb + 3, 0, none⟩ = false := by
              have := HO6.out.2.2.2.2
              simp [World.frozen?, this]
            have z6 : gb + 3 < w6.heap.size := lt_of_block HO6.out.2.2.2.2
            have z5 : gb + 2 < w6.heap.size := lt_of_block HO6.out.2.2.2.1
            have HP := Lib.hid (HO6.out.put0 (by have := HGB.out; omega) b)
            go_wp2_with fail
            go_roundg 1
            case measure => omega
            case rel => exact .inr (.inl ⟨rfl, by go_num, Lib.hid HP.out⟩)
          · obtain rfl : r0 = none := HR.out.trans (if_neg (fun e => he e.2))
            have hft := fun W hW => HFT.out W hW b.geom HNR.out
            rw [hf] at hft
            have HF := Lib.hid hft
            have HS := Lib.hid (fun W => slot_any b.epoch hep1 hep2 W)
            have he' : (b.epoch % 2 == 0) = false := by simpa using he
            clear hft hf HR he
            go_wp2_with fail
            generalize w4.alloc (.cells (blkCells b) 32) = W5 at HO4 hb4 ⊢
            refine (HF.out _ HO4.out.1).mono ?_
            rintro e w6 ⟨rfl, hm6⟩
            have HO6 := Lib.hid (HO4.out.moves hm6)
            obtain ⟨q0, q1, q2, q3, q4, q5, q6⟩ := cells7 ((hm6.block _ (lt_of_block hb4) (fun e => e)).trans hb4)
            clear hm6 HO4 hb4
            go_wp2_with fail
            refine (HS.out _).mono ?_
            rintro e w7 ⟨rfl, rfl⟩
            go_wp2_with fail
            go_roundg 1
            case measure => omega
            case rel => exact .inr (.inl ⟨rfl, by go_num, Lib.hid HO6.out⟩)
        · obtain rfl : r0 = none := HR.out.trans (if_neg (fun e => hf e.1))
          have hft := fun W hW => HFT.out W hW b.geom HNR.out
          rw [show fitsB S b.geom = false by simpa using hf] at hft
          have HF := Lib.hid hft
          clear hft hf HR
          go_wp2_with fail
          generalize w4.alloc (.cells (blkCells b) 32) = W5 at HO4 hb4 ⊢
          refine (HF.out _ HO4.out.1).mono ?_
          rintro e w6 ⟨rfl, hm6⟩
          have HO6 := Lib.hid (HO4.out.moves hm6)
          clear hm6 HO4 hb4
          go_wp2_with fail
          go_roundg 1
          case measure => omega
          case rel => exact .inr (.inl ⟨rfl, by go_num, Lib.hid HO6.out⟩)
    · go_wp2_with fail
      refine (HRD1.out _ HI.out.1).mono ?_
      rintro e w3 ⟨g, rfl, hg, hrow, hm3⟩
      have HO3 := Lib.hid (HI.out.moves hm3)
      clear hm3 HI
      have hdec := decode_any hrow HL1.out
      clear hrow hg
      generalize hd : decS crcL s1 = ov at HR1 hdec
      go_wp2_with fail
      cases ov with
      | none =>
        have hdec' : Calls Try.prog 63 _ _ (fun e w' => e = .returned (.tuple #[blkV zeroB, .int .i64 2]) ∧ Moves (fun _ => False) w3 w') := hdec
        obtain rfl : r1 = none := HR1.out
        clear hdec hd
        refine hdec'.mono ?_
        rintro e w4 ⟨rfl, hm4⟩
        have HO4 := Lib.hid (HO3.out.moves (hm4.alloc (.cells (blkCells zeroB) 32)))
        clear hm4
        go_wp2_with fail
        go_roundg 0
        case measure => omega
        case rel => exact .inr (.inr ⟨rfl, by go_num, Lib.hid HO4.out⟩)
      | some b =>
        have hgood := dec_some hd
        have hep : 0 ≤ b.epoch ∧ b.epoch < 18446744073709551616 := by
          rw [hgood.2.2]
          exact getL_lt HB1.out 8 8
        obtain ⟨hep1, hep2⟩ := hep
        have HNR := Lib.hid hgood.1.1.near
        have hdec' : Calls Try.prog 63 _ _ (fun e w' => e = .returned (.tuple #[blkV b, .int .i64 0]) ∧ Moves (fun _ => False) w3 w') := hdec
        have HR : Hid (r1 = if fitsB S b.geom = true ∧ b.epoch % 2 = 1 then some b else none) := Lib.hid HR1.out
        clear hdec hd hgood HR1
        refine hdec'.mono ?_
        rintro e w4 ⟨rfl, hm4⟩
        have HO4 := Lib.hid (HO3.out.moves (hm4.alloc (.cells (blkCells b) 32)))
        have hb4 := heap_alloc_new w4 (.cells (blkCells b) 32)
        clear hm4
        by_cases hf : fitsB S b.geom = true
        · by_cases he : b.epoch % 2 = 1
          · obtain rfl : r1 = some b := HR.out.trans (if_pos ⟨hf, he⟩)
            have hft := fun W hW => HFT.out W hW b.geom HNR.out
            rw [hf] at hft
            have HF := Lib.hid hft
            have HS := Lib.hid (fun W => slot_any b.epoch hep1 hep2 W)
            rw [he] at HS
            clear hft hf HR he
            go_wp2_with fail
            generalize w4.alloc (.cells (blkCells b) 32) = W5 at HO4 hb4 ⊢
            refine (HF.out _ HO4.out.1).mono ?_
            rintro e w6 ⟨rfl, hm6⟩
            have HO6 := Lib.hid (HO4.out.moves hm6)
            obtain ⟨q0, q1, q2, q3, q4, q5, q6⟩ := cells7 ((hm6.block _ (lt_of_block hb4) (fun e => e)).trans hb4)
            clear hm6 HO4 hb4
            go_wp2_with fail
            refine (HS.out _).mono ?_
            rintro e w7 ⟨rfl, rfl⟩
            obtain ⟨d0, f0⟩ := cells14_at HO6.out.2.2.2.1 7 _ rfl
            obtain ⟨d1, f1⟩ := cells14_at HO6.out.2.2.2.1 8 _ rfl
            obtain ⟨d2, f2⟩ := cells14_at HO6.out.2.2.2.1 9 _ rfl
            obtain ⟨d3, f3⟩ := cells14_at HO6.out.2.2.2.1 10 _ rfl
            obtain ⟨d4, f4⟩ := cells14_at HO6.out.2.2.2.1 11 _ rfl
            obtain ⟨d5, f5⟩ := cells14_at HO6.out.2.2.2.1 12 _ rfl
            obtain ⟨d6, f6⟩ := cells14_at HO6.out.2.2.2.1 13 _ rfl
            have d7 : w6.cell? ⟨gb + 3, 1, none⟩ = some (.bool (isB none)) := by
              have := HO6.out.2.2.2.2
              simp [World.cell?, this]
            have f7 : w6.frozen? ⟨gb + 3, 1, none⟩ = false := by
              have := HO6.out.2.2.2.2
              simp [World.frozen?, this]
            have z6 : gb + 3 < w6.heap.size := lt_of_block HO6.out.2.2.2.2
            have z5 : gb + 2 < w6.heap.size := lt_of_block HO6.out.2.2.2.1
            have HP := Lib.hid (HO6.out.put1 (by have := HGB.out; omega) b)
            go_wp2_with fail
            go_roundg 0
            case measure => omega
            case rel => exact .inr (.inr ⟨rfl, by go_num, Lib.hid HP.out⟩)
          · obtain rfl : r1 = none := HR.out.trans (if_neg (fun e => he e.2))
            have hft := fun W hW => HFT.out W hW b.geom HNR.out
            rw [hf] at hft
            have HF := Lib.hid hft
            have HS := Lib.hid (fun W => slot_any b.epoch hep1 hep2 W)
            have he' : (b.epoch % 2 == 1) = false := by simpa using he
            clear hft hf HR he
            go_wp2_with fail
            generalize w4.alloc (.cells (blkCells b) 32) = W5 at HO4 hb4 ⊢
            refine (HF.out _ HO4.out.1).mono ?_
            rintro e w6 ⟨rfl, hm6⟩
            have HO6 := Lib.hid (HO4.out.moves hm6)
            obtain ⟨q0, q1, q2, q3, q4, q5, q6⟩ := cells7 ((hm6.block _ (lt_of_block hb4) (fun e => e)).trans hb4)
            clear hm6 HO4 hb4
            go_wp2_with fail
            refine (HS.out _).mono ?_
            rintro e w7 ⟨rfl, rfl⟩
            go_wp2_with fail
            go_roundg 0
            case measure => omega
            case rel => exact .inr (.inr ⟨rfl, by go_num, Lib.hid HO6.out⟩)
        · obtain rfl : r1 = none := HR.out.trans (if_neg (fun e => hf e.1))
          have hft := fun W hW => HFT.out W hW b.geom HNR.out
          rw [show fitsB S b.geom = false by simpa using hf] at hft
          have HF := Lib.hid hft
          clear hft hf HR
          go_wp2_with fail
          generalize w4.alloc (.cells (blkCells b) 32) = W5 at HO4 hb4 ⊢
          refine (HF.out _ HO4.out.1).mono ?_
          rintro e w6 ⟨rfl, hm6⟩
          have HO6 := Lib.hid (HO4.out.moves hm6)
          clear hm6 HO4 hb4
          go_wp2_with fail
          go_roundg 0
          case measure => omega
          case rel => exact .inr (.inr ⟨rfl, by go_num, Lib.hid HO6.out⟩)
    · have hb0 := HI.out.2.1
      have hb1 := HI.out.2.2.1
      have hb2 := HI.out.2.2.2.1
      have hb3 := HI.out.2.2.2.2
      have u0 : wr.cell? ⟨gb + 2, 0, none⟩ = some _ := (cells14_at hb2 0 _ rfl).1
      have u1 : wr.cell? ⟨gb + 2, 1, none⟩ = some _ := (cells14_at hb2 1 _ rfl).1
      have u2 : wr.cell? ⟨gb + 2, 2, none⟩ = some _ := (cells14_at hb2 2 _ rfl).1
      have u3 : wr.cell? ⟨gb + 2, 3, none⟩ = some _ := (cells14_at hb2 3 _ rfl).1
      have u4 : wr.cell? ⟨gb + 2, 4, none⟩ = some _ := (cells14_at hb2 4 _ rfl).1
      have u5 : wr.cell? ⟨gb + 2, 5, none⟩ = some _ := (cells14_at hb2 5 _ rfl).1
      have u6 : wr.cell? ⟨gb + 2, 6, none⟩ = some _ := (cells14_at hb2 6 _ rfl).1
      have u7 : wr.cell? ⟨gb + 2, 7, none⟩ = some _ := (cells14_at hb2 7 _ rfl).1
      have u8 : wr.cell? ⟨gb + 2, 8, none⟩ = some _ := (cells14_at hb2 8 _ rfl).1
      have u9 : wr.cell? ⟨gb + 2, 9, none⟩ = some _ := (cells14_at hb2 9 _ rfl).1
      have u10 : wr.cell? ⟨gb + 2, 10, none⟩ = some _ := (cells14_at hb2 10 _ rfl).1
      have u11 : wr.cell? ⟨gb + 2, 11, none⟩ = some _ := (cells14_at hb2 11 _ rfl).1
      have u12 : wr.cell? ⟨gb + 2, 12, none⟩ = some _ := (cells14_at hb2 12 _ rfl).1
      have u13 : wr.cell? ⟨gb + 2, 13, none⟩ = some _ := (cells14_at hb2 13 _ rfl).1
      obtain ⟨v0, x0⟩ := zero14_at hb0 0 _ rfl
      obtain ⟨v1, x1⟩ := zero14_at hb0 1 _ rfl
      obtain ⟨v2, x2⟩ := zero14_at hb0 2 _ rfl
      obtain ⟨v3, x3⟩ := zero14_at hb0 3 _ rfl
      obtain ⟨v4, x4⟩ := zero14_at hb0 4 _ rfl
      obtain ⟨v5, x5⟩ := zero14_at hb0 5 _ rfl
      obtain ⟨v6, x6⟩ := zero14_at hb0 6 _ rfl
      obtain ⟨v7, x7⟩ := zero14_at hb0 7 _ rfl
      obtain ⟨v8, x8⟩ := zero14_at hb0 8 _ rfl
      obtain ⟨v9, x9⟩ := zero14_at hb0 9 _ rfl
      obtain ⟨v10, x10⟩ := zero14_at hb0 10 _ rfl
      obtain ⟨v11, x11⟩ := zero14_at hb0 11 _ rfl
      obtain ⟨v12, x12⟩ := zero14_at hb0 12 _ rfl
      obtain ⟨v13, x13⟩ := zero14_at hb0 13 _ rfl
      have t0 : wr.cell? ⟨gb + 3, 0, none⟩ = some (.bool (isB r0)) := by simp [World.cell?, hb3]
      have y0 : wr.cell? ⟨gb + 1, 0, none⟩ = some (.bool false) := by simp [World.cell?, hb1]
      have k0 : wr.frozen? ⟨gb + 1, 0, none⟩ = false := by simp [World.frozen?, hb1]
      have t1 : wr.cell? ⟨gb + 3, 1, none⟩ = some (.bool (isB r1)) := by simp [World.cell?, hb3]
      have y1 : wr.cell? ⟨gb + 1, 1, none⟩ = some (.bool false) := by simp [World.cell?, hb1]
      have k1 : wr.frozen? ⟨gb + 1, 1, none⟩ = false := by simp [World.frozen?, hb1]
      have HI2 := Lib.hid HI.out
      clear hb0 hb1 hb2 hb3 HI
      go_wp2_with fail
      go_region
      go_wp2
      have e14 := set14b (a0 := .int .u64 (orZ r1).epoch) (a1 := .int .i64 (orZ r1).geom.sector) (a2 := .int .i64 (orZ r1).geom.log) (a3 := .int .i64 (orZ r1).geom.words) (a4 := .int .i64 (orZ r1).space) (a5 := .int .i64 (orZ r1).words) (a6 := .int .u64 (orZ r1).log) (set14a (a0 := .int .u64 (orZ r0).epoch) (a1 := .int .i64 (orZ r0).geom.sector) (a2 := .int .i64 (orZ r0).geom.log) (a3 := .int .i64 (orZ r0).geom.words) (a4 := .int .i64 (orZ r0).space) (a5 := .int .i64 (orZ r0).words) (a6 := .int .u64 (orZ r0).log) HI2.out.2.1)
      have m14 : Moves (fun k => k = gb) wr ((((((((((((((wr.setCell ⟨gb, 0, none⟩ (.int .u64 (orZ r0).epoch)).setCell ⟨gb, 1, none⟩ (.int .i64 (orZ r0).geom.sector)).setCell ⟨gb, 2, none⟩ (.int .i64 (orZ r0).geom.log)).setCell ⟨gb, 3, none⟩ (.int .i64 (orZ r0).geom.words)).setCell ⟨gb, 4, none⟩ (.int .i64 (orZ r0).space)).setCell ⟨gb, 5, none⟩ (.int .i64 (orZ r0).words)).setCell ⟨gb, 6, none⟩ (.int .u64 (orZ r0).log)).setCell ⟨gb, 7, none⟩ (.int .u64 (orZ r1).epoch)).setCell ⟨gb, 8, none⟩ (.int .i64 (orZ r1).geom.sector)).setCell ⟨gb, 9, none⟩ (.int .i64 (orZ r1).geom.log)).setCell ⟨gb, 10, none⟩ (.int .i64 (orZ r1).geom.words)).setCell ⟨gb, 11, none⟩ (.int .i64 (orZ r1).space)).setCell ⟨gb, 12, none⟩ (.int .i64 (orZ r1).words)).setCell ⟨gb, 13, none⟩ (.int .u64 (orZ r1).log)) := Moves.setCell (p := ⟨gb, 13, none⟩) (Moves.setCell (p := ⟨gb, 12, none⟩) (Moves.setCell (p := ⟨gb, 11, none⟩) (Moves.setCell (p := ⟨gb, 10, none⟩) (Moves.setCell (p := ⟨gb, 9, none⟩) (Moves.setCell (p := ⟨gb, 8, none⟩) (Moves.setCell (p := ⟨gb, 7, none⟩) (Moves.setCell (p := ⟨gb, 6, none⟩) (Moves.setCell (p := ⟨gb, 5, none⟩) (Moves.setCell (p := ⟨gb, 4, none⟩) (Moves.setCell (p := ⟨gb, 3, none⟩) (Moves.setCell (p := ⟨gb, 2, none⟩) (Moves.setCell (p := ⟨gb, 1, none⟩) (Moves.setCell (p := ⟨gb, 0, none⟩) (Moves.refl (fun k => k = gb) wr) (fun _ => rfl) (.int .u64 (orZ r0).epoch)) (fun _ => rfl) (.int .i64 (orZ r0).geom.sector)) (fun _ => rfl) (.int .i64 (orZ r0).geom.log)) (fun _ => rfl) (.int .i64 (orZ r0).geom.words)) (fun _ => rfl) (.int .i64 (orZ r0).space)) (fun _ => rfl) (.int .i64 (orZ r0).words)) (fun _ => rfl) (.int .u64 (orZ r0).log)) (fun _ => rfl) (.int .u64 (orZ r1).epoch)) (fun _ => rfl) (.int .i64 (orZ r1).geom.sector)) (fun _ => rfl) (.int .i64 (orZ r1).geom.log)) (fun _ => rfl) (.int .i64 (orZ r1).geom.words)) (fun _ => rfl) (.int .i64 (orZ r1).space)) (fun _ => rfl) (.int .i64 (orZ r1).words)) (fun _ => rfl) (.int .u64 (orZ r1).log)
      have g1 := (m14.block _ (lt_of_block HI2.out.2.2.1) (fun (e : gb + 1 = gb) => by omega)).trans HI2.out.2.2.1
      generalize ((((((((((((((wr.setCell ⟨gb, 0, none⟩ (.int .u64 (orZ r0).epoch)).setCell ⟨gb, 1, none⟩ (.int .i64 (orZ r0).geom.sector)).setCell ⟨gb, 2, none⟩ (.int .i64 (orZ r0).geom.log)).setCell ⟨gb, 3, none⟩ (.int .i64 (orZ r0).geom.words)).setCell ⟨gb, 4, none⟩ (.int .i64 (orZ r0).space)).setCell ⟨gb, 5, none⟩ (.int .i64 (orZ r0).words)).setCell ⟨gb, 6, none⟩ (.int .u64 (orZ r0).log)).setCell ⟨gb, 7, none⟩ (.int .u64 (orZ r1).epoch)).setCell ⟨gb, 8, none⟩ (.int .i64 (orZ r1).geom.sector)).setCell ⟨gb, 9, none⟩ (.int .i64 (orZ r1).geom.log)).setCell ⟨gb, 10, none⟩ (.int .i64 (orZ r1).geom.words)).setCell ⟨gb, 11, none⟩ (.int .i64 (orZ r1).space)).setCell ⟨gb, 12, none⟩ (.int .i64 (orZ r1).words)).setCell ⟨gb, 13, none⟩ (.int .u64 (orZ r1).log)) = X at e14 m14 g1 ⊢
      have e2 : ((X.setCell ⟨gb + 1, 0, none⟩ (.bool (isB r0))).setCell ⟨gb + 1, 1, none⟩ (.bool (isB r1))).heap[gb + 1]? = some (.cells #[.bool (isB r0), .bool (isB r1)] 36 (0, 0)) := by simp [World.setCell, Array.getElem?_modify, g1]
      have m2 : Moves (fun k => k = gb + 1) X ((X.setCell ⟨gb + 1, 0, none⟩ (.bool (isB r0))).setCell ⟨gb + 1, 1, none⟩ (.bool (isB r1))) := Moves.setCell (p := ⟨gb + 1, 1, none⟩) (Moves.setCell (p := ⟨gb + 1, 0, none⟩) (Moves.refl (fun k => k = gb + 1) X) (fun _ => rfl) _) (fun _ => rfl) _
      have e14' := (m2.block _ (lt_of_block e14) (fun (e : gb = gb + 1) => by omega)).trans e14
      have hm : Moves (fun _ => False) w ((X.setCell ⟨gb + 1, 0, none⟩ (.bool (isB r0))).setCell ⟨gb + 1, 1, none⟩ (.bool (isB r1))) := (HI2.out.1.andThen m14 (fun k e hk => by have := HGB.out; omega)).andThen m2 (fun k e hk => by have := HGB.out; omega)
      generalize (X.setCell ⟨gb + 1, 0, none⟩ (.bool (isB r0))).setCell ⟨gb + 1, 1, none⟩ (.bool (isB r1)) = Y at e2 e14' hm ⊢
      have n0 := (cells14_at e14' 0 _ rfl).1
      have n1 := (cells14_at e14' 1 _ rfl).1
      have n2 := (cells14_at e14' 2 _ rfl).1
      have n3 := (cells14_at e14' 3 _ rfl).1
      have n4 := (cells14_at e14' 4 _ rfl).1
      have n5 := (cells14_at e14' 5 _ rfl).1
      have n6 := (cells14_at e14' 6 _ rfl).1
      have n7 := (cells14_at e14' 7 _ rfl).1
      have n8 := (cells14_at e14' 8 _ rfl).1
      have n9 := (cells14_at e14' 9 _ rfl).1
      have n10 := (cells14_at e14' 10 _ rfl).1
      have n11 := (cells14_at e14' 11 _ rfl).1
      have n12 := (cells14_at e14' 12 _ rfl).1
      have n13 := (cells14_at e14' 13 _ rfl).1
      have o0 : Y.cell? ⟨gb + 1, 0, none⟩ = some (.bool (isB r0)) := by simp [World.cell?, e2]
      have o1 : Y.cell? ⟨gb + 1, 1, none⟩ = some (.bool (isB r1)) := by simp [World.cell?, e2]
      exact bodyPost_ret (v := .tuple #[pairV r0 r1, onV r0 r1, .int .i64 0]) (by simp [results, Try.results16, go_sem, n0, n1, n2, n3, n4, n5, n6, n7, n8, n9, n10, n11, n12, n13, o0, o1]) rfl (HQ.out _ _ rfl hm.drew)
end Go.Proofs.Ytnagpianaghjeaa.Sl
namespace Go.Proofs.Ytnagpianaghjeaa.Sl
open Go Go.RowKit Go.Proofs
open Pl (DS IsDisk DOwn DPost DMv DKeep)

/-- The newer right one. -/
def pickB (r0 r1 : Option Blk) : Option Blk := match r0, r1 with
  | none, none => none
  | none, some b => some b
  | some a, none => some a
  | some a, some b => if b.epoch < a.epoch then some a else some b
def ReadS (w : World) (r : Option Blk) (e : Ending) (w' : World) : Prop := e = .returned (.tuple #[blkV (orZ r), .int .i64 (if r.isSome then 0 else 2)]) ∧ Moves (fun _ => False) w w'
set_option maxRecDepth 100000 in
set_option maxHeartbeats 4000000 in
theorem read_none {w : World} {d : Nat} {a b : Blk} (hb : ∀ W, Moves (fun _ => False) w W → Calls Try.prog 16 #[.pointer (some ⟨d, 0, none⟩)] W (fun e w' => e = .returned (.tuple #[.agg (cells14 a b), .agg #[.bool false, .bool false], .int .i64 0]) ∧ Moves (fun _ => False) W w')) : Calls Try.prog 15 #[.pointer (some ⟨d, 0, none⟩)] w (fun e w' => e = .returned (.tuple #[blkV zeroB, .int .i64 2]) ∧ Moves (fun _ => False) w w') := by
  have HB := Lib.hid hb
  have M0 := Lib.hid ((Moves.refl (fun _ => False) w).alloc (.cells #[.int .u64 0, .int .i64 0, .int .i64 0, .int .i64 0, .int .i64 0, .int .i64 0, .int .u64 0] 32))
  have hb0 := heap_alloc_new w (.cells #[.int .u64 0, .int .i64 0, .int .i64 0, .int .i64 0, .int .i64 0, .int .i64 0, .int .u64 0] 32)
  clear hb
  go_enter Try.func15, Try.ntmps15
  go_wp2_with fail
  generalize w.alloc (.cells #[.int .u64 0, .int .i64 0, .int .i64 0, .int .i64 0, .int .i64 0, .int .i64 0, .int .u64 0] 32) = W0 at M0 hb0 ⊢
  obtain ⟨gb, hgb⟩ : ∃ gb, gb = w.heap.size := ⟨_, rfl⟩
  rw [← hgb] at hb0 ⊢
  have HGB := Lib.hid hgb
  clear hgb
  refine (HB.out W0 M0.out).mono ?_
  rintro e w1 ⟨rfl, hm1⟩
  have hb1 := (hm1.block _ (lt_of_block hb0) (fun e => e)).trans hb0
  have M1 := Lib.hid (((M0.out.trans hm1).alloc (.cells (cells14 a b) 35)).alloc (.cells #[.bool false, .bool false] 36))
  have hb2 : ((w1.alloc (.cells (cells14 a b) 35)).alloc (.cells #[.bool false, .bool false] 36)).heap[gb]? = some (.cells #[.int .u64 0, .int .i64 0, .int .i64 0, .int .i64 0, .int .i64 0, .int .i64 0, .int .u64 0] 32 (0, 0)) := (Below.heap_alloc _ _ _ (by have := lt_of_block hb1; simp; omega)).trans ((Below.heap_alloc _ _ _ (lt_of_block hb1)).trans hb1)
  have hl2 : ((w1.alloc (.cells (cells14 a b) 35)).alloc (.cells #[.bool false, .bool false] 36)).heap[w1.heap.size]? = some (.cells (cells14 a b) 35 (0, 0)) := (Below.heap_alloc _ _ _ (by simp)).trans (alloc_at rfl)
  have ho2 : ((w1.alloc (.cells (cells14 a b) 35)).alloc (.cells #[.bool false, .bool false] 36)).heap[w1.heap.size + 1]? = some (.cells #[.bool false, .bool false] 36 (0, 0)) := alloc_at (by simp)
  have HB2 := Lib.hid hb2
  have HL2 := Lib.hid hl2
  have HO2 := Lib.hid ho2
  clear hm1 hb0 hb1 hb2 hl2 ho2
  go_upto_region 2 with (fail)
  generalize (w1.alloc (.cells (cells14 a b) 35)).alloc (.cells #[.bool false, .bool false] 36) = W1 at M1 HB2 HL2 HO2 ⊢
  generalize w1.heap.size = gl at HL2 HO2 ⊢
  have n0 := (cells14_at HL2.out 0 _ rfl).1
  have n1 := (cells14_at HL2.out 1 _ rfl).1
  have n2 := (cells14_at HL2.out 2 _ rfl).1
  have n3 := (cells14_at HL2.out 3 _ rfl).1
  have n4 := (cells14_at HL2.out 4 _ rfl).1
  have n5 := (cells14_at HL2.out 5 _ rfl).1
  have n6 := (cells14_at HL2.out 6 _ rfl).1
  have n7 := (cells14_at HL2.out 7 _ rfl).1
  have n8 := (cells14_at HL2.out 8 _ rfl).1
  have n9 := (cells14_at HL2.out 9 _ rfl).1
  have n10 := (cells14_at HL2.out 10 _ rfl).1
  have n11 := (cells14_at HL2.out 11 _ rfl).1
  have n12 := (cells14_at HL2.out 12 _ rfl).1
  have n13 := (cells14_at HL2.out 13 _ rfl).1
  have o0 : W1.cell? ⟨gl + 1, 0, none⟩ = some (.bool false) := by { have q := HO2.out; simp [World.cell?, q] }
  have o1 : W1.cell? ⟨gl + 1, 1, none⟩ = some (.bool false) := by { have q := HO2.out; simp [World.cell?, q] }
  obtain ⟨y0, y1, y2, y3, y4, y5, y6⟩ := cells7 HB2.out
  have f0 : W1.frozen? ⟨gb, 0, none⟩ = false := by { have q := HB2.out; simp [World.frozen?, q] }
  have f1 : W1.frozen? ⟨gb, 1, none⟩ = false := by { have q := HB2.out; simp [World.frozen?, q] }
  have f2 : W1.frozen? ⟨gb, 2, none⟩ = false := by { have q := HB2.out; simp [World.frozen?, q] }
  have f3 : W1.frozen? ⟨gb, 3, none⟩ = false := by { have q := HB2.out; simp [World.frozen?, q] }
  have f4 : W1.frozen? ⟨gb, 4, none⟩ = false := by { have q := HB2.out; simp [World.frozen?, q] }
  have f5 : W1.frozen? ⟨gb, 5, none⟩ = false := by { have q := HB2.out; simp [World.frozen?, q] }
  have f6 : W1.frozen? ⟨gb, 6, none⟩ = false := by { have q := HB2.out; simp [World.frozen?, q] }
  have zb : gb < W1.heap.size := lt_of_block HB2.out
  go_wp2
  have e7 := cells7 (set7 (a0 := .int .u64 0) (a1 := .int .i64 0) (a2 := .int .i64 0) (a3 := .int .i64 0) (a4 := .int .i64 0) (a5 := .int .i64 0) (a6 := .int .u64 0) HB2.out)
  have m7 : Moves (fun k => k = gb) W1 (((((((W1.setCell ⟨gb, 0, none⟩ (.int .u64 0)).setCell ⟨gb, 1, none⟩ (.int .i64 0)).setCell ⟨gb, 2, none⟩ (.int .i64 0)).setCell ⟨gb, 3, none⟩ (.int .i64 0)).setCell ⟨gb, 4, none⟩ (.int .i64 0)).setCell ⟨gb, 5, none⟩ (.int .i64 0)).setCell ⟨gb, 6, none⟩ (.int .u64 0)) := Moves.setCell (p := ⟨gb, 6, none⟩) (Moves.setCell (p := ⟨gb, 5, none⟩) (Moves.setCell (p := ⟨gb, 4, none⟩) (Moves.setCell (p := ⟨gb, 3, none⟩) (Moves.setCell (p := ⟨gb, 2, none⟩) (Moves.setCell (p := ⟨gb, 1, none⟩) (Moves.setCell (p := ⟨gb, 0, none⟩) (Moves.refl (fun k => k = gb) W1) (fun _ => rfl) (.int .u64 0)) (fun _ => rfl) (.int .i64 0)) (fun _ => rfl) (.int .i64 0)) (fun _ => rfl) (.int .i64 0)) (fun _ => rfl) (.int .i64 0)) (fun _ => rfl) (.int .i64 0)) (fun _ => rfl) (.int .u64 0)
  have hm : Moves (fun _ => False) w (((((((W1.setCell ⟨gb, 0, none⟩ (.int .u64 0)).setCell ⟨gb, 1, none⟩ (.int .i64 0)).setCell ⟨gb, 2, none⟩ (.int .i64 0)).setCell ⟨gb, 3, none⟩ (.int .i64 0)).setCell ⟨gb, 4, none⟩ (.int .i64 0)).setCell ⟨gb, 5, none⟩ (.int .i64 0)).setCell ⟨gb, 6, none⟩ (.int .u64 0)) := M1.out.andThen m7 (fun k e hk => by have := HGB.out; omega)
  clear m7 y0 y1 y2 y3 y4 y5 y6 f0 f1 f2 f3 f4 f5 f6
  generalize (((((((W1.setCell ⟨gb, 0, none⟩ (.int .u64 0)).setCell ⟨gb, 1, none⟩ (.int .i64 0)).setCell ⟨gb, 2, none⟩ (.int .i64 0)).setCell ⟨gb, 3, none⟩ (.int .i64 0)).setCell ⟨gb, 4, none⟩ (.int .i64 0)).setCell ⟨gb, 5, none⟩ (.int .i64 0)).setCell ⟨gb, 6, none⟩ (.int .u64 0)) = Y at e7 hm ⊢
  obtain ⟨e0, e1, e2, e3, e4, e5, e6⟩ := e7
  exact bodyPost_ret (v := .tuple #[blkV zeroB, .int .i64 2]) (by simp [results, Try.results15, go_sem, e0, e1, e2, e3, e4, e5, e6, zeroB]) rfl ⟨rfl, hm⟩
set_option maxRecDepth 100000 in
set_option maxHeartbeats 4000000 in
theorem read_first {w : World} {d : Nat} {a b : Blk} (hb : ∀ W, Moves (fun _ => False) w W → Calls Try.prog 16 #[.pointer (some ⟨d, 0, none⟩)] W (fun e w' => e = .returned (.tuple #[.agg (cells14 a b), .agg #[.bool true, .bool false], .int .i64 0]) ∧ Moves (fun _ => False) W w')) : Calls Try.prog 15 #[.pointer (some ⟨d, 0, none⟩)] w (fun e w' => e = .returned (.tuple #[blkV a, .int .i64 0]) ∧ Moves (fun _ => False) w w') := by
  have HB := Lib.hid hb
  have M0 := Lib.hid ((Moves.refl (fun _ => False) w).alloc (.cells #[.int .u64 0, .int .i64 0, .int .i64 0, .int .i64 0, .int .i64 0, .int .i64 0, .int .u64 0] 32))
  have hb0 := heap_alloc_new w (.cells #[.int .u64 0, .int .i64 0, .int .i64 0, .int .i64 0, .int .i64 0, .int .i64 0, .int .u64 0] 32)
  clear hb
  go_enter Try.func15, Try.ntmps15
  go_wp2_with fail
  generalize w.alloc (.cells #[.int .u64 0, .int .i64 0, .int .i64 0, .int .i64 0, .int .i64 0, .int .i64 0, .int .u64 0] 32) = W0 at M0 hb0 ⊢
  obtain ⟨gb, hgb⟩ : ∃ gb, gb = w.heap.size := ⟨_, rfl⟩
  rw [← hgb] at hb0 ⊢
  have HGB := Lib.hid hgb
  clear hgb
  refine (HB.out W0 M0.out).mono ?_
  rintro e w1 ⟨rfl, hm1⟩
  have hb1 := (hm1.block _ (lt_of_block hb0) (fun e => e)).trans hb0
  have M1 := Lib.hid (((M0.out.trans hm1).alloc (.cells (cells14 a b) 35)).alloc (.cells #[.bool true, .bool false] 36))
  have hb2 : ((w1.alloc (.cells (cells14 a b) 35)).alloc (.cells #[.bool true, .bool false] 36)).heap[gb]? = some (.cells #[.int .u64 0, .int .i64 0, .int .i64 0, .int .i64 0, .int .i64 0, .int .i64 0, .int .u64 0] 32 (0, 0)) := (Below.heap_alloc _ _ _ (by have := lt_of_block hb1; simp; omega)).trans ((Below.heap_alloc _ _ _ (lt_of_block hb1)).trans hb1)
  have hl2 : ((w1.alloc (.cells (cells14 a b) 35)).alloc (.cells #[.bool true, .bool false] 36)).heap[w1.heap.size]? = some (.cells (cells14 a b) 35 (0, 0)) := (Below.heap_alloc _ _ _ (by simp)).trans (alloc_at rfl)
  have ho2 : ((w1.alloc (.cells (cells14 a b) 35)).alloc (.cells #[.bool true, .bool false] 36)).heap[w1.heap.size + 1]? = some (.cells #[.bool true, .bool false] 36 (0, 0)) := alloc_at (by simp)
  have HB2 := Lib.hid hb2
  have HL2 := Lib.hid hl2
  have HO2 := Lib.hid ho2
  clear hm1 hb0 hb1 hb2 hl2 ho2
  go_upto_region 2 with (fail)
  generalize (w1.alloc (.cells (cells14 a b) 35)).alloc (.cells #[.bool true, .bool false] 36) = W1 at M1 HB2 HL2 HO2 ⊢
  generalize w1.heap.size = gl at HL2 HO2 ⊢
  have n0 := (cells14_at HL2.out 0 _ rfl).1
  have n1 := (cells14_at HL2.out 1 _ rfl).1
  have n2 := (cells14_at HL2.out 2 _ rfl).1
  have n3 := (cells14_at HL2.out 3 _ rfl).1
  have n4 := (cells14_at HL2.out 4 _ rfl).1
  have n5 := (cells14_at HL2.out 5 _ rfl).1
  have n6 := (cells14_at HL2.out 6 _ rfl).1
  have n7 := (cells14_at HL2.out 7 _ rfl).1
  have n8 := (cells14_at HL2.out 8 _ rfl).1
  have n9 := (cells14_at HL2.out 9 _ rfl).1
  have n10 := (cells14_at HL2.out 10 _ rfl).1
  have n11 := (cells14_at HL2.out 11 _ rfl).1
  have n12 := (cells14_at HL2.out 12 _ rfl).1
  have n13 := (cells14_at HL2.out 13 _ rfl).1
  have o0 : W1.cell? ⟨gl + 1, 0, none⟩ = some (.bool true) := by { have q := HO2.out; simp [World.cell?, q] }
  have o1 : W1.cell? ⟨gl + 1, 1, none⟩ = some (.bool false) := by { have q := HO2.out; simp [World.cell?, q] }
  obtain ⟨y0, y1, y2, y3, y4, y5, y6⟩ := cells7 HB2.out
  have f0 : W1.frozen? ⟨gb, 0, none⟩ = false := by { have q := HB2.out; simp [World.frozen?, q] }
  have f1 : W1.frozen? ⟨gb, 1, none⟩ = false := by { have q := HB2.out; simp [World.frozen?, q] }
  have f2 : W1.frozen? ⟨gb, 2, none⟩ = false := by { have q := HB2.out; simp [World.frozen?, q] }
  have f3 : W1.frozen? ⟨gb, 3, none⟩ = false := by { have q := HB2.out; simp [World.frozen?, q] }
  have f4 : W1.frozen? ⟨gb, 4, none⟩ = false := by { have q := HB2.out; simp [World.frozen?, q] }
  have f5 : W1.frozen? ⟨gb, 5, none⟩ = false := by { have q := HB2.out; simp [World.frozen?, q] }
  have f6 : W1.frozen? ⟨gb, 6, none⟩ = false := by { have q := HB2.out; simp [World.frozen?, q] }
  have zb : gb < W1.heap.size := lt_of_block HB2.out
  go_wp2
  have e7 := cells7 (set7 (a0 := .int .u64 a.epoch) (a1 := .int .i64 a.geom.sector) (a2 := .int .i64 a.geom.log) (a3 := .int .i64 a.geom.words) (a4 := .int .i64 a.space) (a5 := .int .i64 a.words) (a6 := .int .u64 a.log) HB2.out)
  have m7 : Moves (fun k => k = gb) W1 (((((((W1.setCell ⟨gb, 0, none⟩ (.int .u64 a.epoch)).setCell ⟨gb, 1, none⟩ (.int .i64 a.geom.sector)).setCell ⟨gb, 2, none⟩ (.int .i64 a.geom.log)).setCell ⟨gb, 3, none⟩ (.int .i64 a.geom.words)).setCell ⟨gb, 4, none⟩ (.int .i64 a.space)).setCell ⟨gb, 5, none⟩ (.int .i64 a.words)).setCell ⟨gb, 6, none⟩ (.int .u64 a.log)) := Moves.setCell (p := ⟨gb, 6, none⟩) (Moves.setCell (p := ⟨gb, 5, none⟩) (Moves.setCell (p := ⟨gb, 4, none⟩) (Moves.setCell (p := ⟨gb, 3, none⟩) (Moves.setCell (p := ⟨gb, 2, none⟩) (Moves.setCell (p := ⟨gb, 1, none⟩) (Moves.setCell (p := ⟨gb, 0, none⟩) (Moves.refl (fun k => k = gb) W1) (fun _ => rfl) (.int .u64 a.epoch)) (fun _ => rfl) (.int .i64 a.geom.sector)) (fun _ => rfl) (.int .i64 a.geom.log)) (fun _ => rfl) (.int .i64 a.geom.words)) (fun _ => rfl) (.int .i64 a.space)) (fun _ => rfl) (.int .i64 a.words)) (fun _ => rfl) (.int .u64 a.log)
  have hm : Moves (fun _ => False) w (((((((W1.setCell ⟨gb, 0, none⟩ (.int .u64 a.epoch)).setCell ⟨gb, 1, none⟩ (.int .i64 a.geom.sector)).setCell ⟨gb, 2, none⟩ (.int .i64 a.geom.log)).setCell ⟨gb, 3, none⟩ (.int .i64 a.geom.words)).setCell ⟨gb, 4, none⟩ (.int .i64 a.space)).setCell ⟨gb, 5, none⟩ (.int .i64 a.words)).setCell ⟨gb, 6, none⟩ (.int .u64 a.log)) := M1.out.andThen m7 (fun k e hk => by have := HGB.out; omega)
  clear m7 y0 y1 y2 y3 y4 y5 y6 f0 f1 f2 f3 f4 f5 f6
  generalize (((((((W1.setCell ⟨gb, 0, none⟩ (.int .u64 a.epoch)).setCell ⟨gb, 1, none⟩ (.int .i64 a.geom.sector)).setCell ⟨gb, 2, none⟩ (.int .i64 a.geom.log)).setCell ⟨gb, 3, none⟩ (.int .i64 a.geom.words)).setCell ⟨gb, 4, none⟩ (.int .i64 a.space)).setCell ⟨gb, 5, none⟩ (.int .i64 a.words)).setCell ⟨gb, 6, none⟩ (.int .u64 a.log)) = Y at e7 hm ⊢
  obtain ⟨e0, e1, e2, e3, e4, e5, e6⟩ := e7
  exact bodyPost_ret (v := .tuple #[blkV a, .int .i64 0]) (by simp [results, Try.results15, go_sem, e0, e1, e2, e3, e4, e5, e6]) rfl ⟨rfl, hm⟩
set_option maxRecDepth 100000 in
set_option maxHeartbeats 4000000 in
theorem read_second {w : World} {d : Nat} {a b : Blk} (hb : ∀ W, Moves (fun _ => False) w W → Calls Try.prog 16 #[.pointer (some ⟨d, 0, none⟩)] W (fun e w' => e = .returned (.tuple #[.agg (cells14 a b), .agg #[.bool false, .bool true], .int .i64 0]) ∧ Moves (fun _ => False) W w')) : Calls Try.prog 15 #[.pointer (some ⟨d, 0, none⟩)] w (fun e w' => e = .returned (.tuple #[blkV b, .int .i64 0]) ∧ Moves (fun _ => False) w w') := by
  have HB := Lib.hid hb
  have M0 := Lib.hid ((Moves.refl (fun _ => False) w).alloc (.cells #[.int .u64 0, .int .i64 0, .int .i64 0, .int .i64 0, .int .i64 0, .int .i64 0, .int .u64 0] 32))
  have hb0 := heap_alloc_new w (.cells #[.int .u64 0, .int .i64 0, .int .i64 0, .int .i64 0, .int .i64 0, .int .i64 0, .int .u64 0] 32)
  clear hb
  go_enter Try.func15, Try.ntmps15
  go_wp2_with fail
  generalize w.alloc (.cells #[.int .u64 0, .int .i64 0, .int .i64 0, .int .i64 0, .int .i64 0, .int .i64 0, .int .u64 0] 32) = W0 at M0 hb0 ⊢
  obtain ⟨gb, hgb⟩ : ∃ gb, gb = w.heap.size := ⟨_, rfl⟩
  rw [← hgb] at hb0 ⊢
  have HGB := Lib.hid hgb
  clear hgb
  refine (HB.out W0 M0.out).mono ?_
  rintro e w1 ⟨rfl, hm1⟩
  have hb1 := (hm1.block _ (lt_of_block hb0) (fun e => e)).trans hb0
  have M1 := Lib.hid (((M0.out.trans hm1).alloc (.cells (cells14 a b) 35)).alloc (.cells #[.bool false, .bool true] 36))
  have hb2 : ((w1.alloc (.cells (cells14 a b) 35)).alloc (.cells #[.bool false, .bool true] 36)).heap[gb]? = some (.cells #[.int .u64 0, .int .i64 0, .int .i64 0, .int .i64 0, .int .i64 0, .int .i64 0, .int .u64 0] 32 (0, 0)) := (Below.heap_alloc _ _ _ (by have := lt_of_block hb1; simp; omega)).trans ((Below.heap_alloc _ _ _ (lt_of_block hb1)).trans hb1)
  have hl2 : ((w1.alloc (.cells (cells14 a b) 35)).alloc (.cells #[.bool false, .bool true] 36)).heap[w1.heap.size]? = some (.cells (cells14 a b) 35 (0, 0)) := (Below.heap_alloc _ _ _ (by simp)).trans (alloc_at rfl)
  have ho2 : ((w1.alloc (.cells (cells14 a b) 35)).alloc (.cells #[.bool false, .bool true] 36)).heap[w1.heap.size + 1]? = some (.cells #[.bool false, .bool true] 36 (0, 0)) := alloc_at (by simp)
  have HB2 := Lib.hid hb2
  have HL2 := Lib.hid hl2
  have HO2 := Lib.hid ho2
  clear hm1 hb0 hb1 hb2 hl2 ho2
  go_upto_region 2 with (fail)
  generalize (w1.alloc (.cells (cells14 a b) 35)).alloc (.cells #[.bool false, .bool true] 36) = W1 at M1 HB2 HL2 HO2 ⊢
  generalize w1.heap.size = gl at HL2 HO2 ⊢
  have n0 := (cells14_at HL2.out 0 _ rfl).1
  have n1 := (cells14_at HL2.out 1 _ rfl).1
  have n2 := (cells14_at HL2.out 2 _ rfl).1
  have n3 := (cells14_at HL2.out 3 _ rfl).1
  have n4 := (cells14_at HL2.out 4 _ rfl).1
  have n5 := (cells14_at HL2.out 5 _ rfl).1
  have n6 := (cells14_at HL2.out 6 _ rfl).1
  have n7 := (cells14_at HL2.out 7 _ rfl).1
  have n8 := (cells14_at HL2.out 8 _ rfl).1
  have n9 := (cells14_at HL2.out 9 _ rfl).1
  have n10 := (cells14_at HL2.out 10 _ rfl).1
  have n11 := (cells14_at HL2.out 11 _ rfl).1
  have n12 := (cells14_at HL2.out 12 _ rfl).1
  have n13 := (cells14_at HL2.out 13 _ rfl).1
  have o0 : W1.cell? ⟨gl + 1, 0, none⟩ = some (.bool false) := by { have q := HO2.out; simp [World.cell?, q] }
  have o1 : W1.cell? ⟨gl + 1, 1, none⟩ = some (.bool true) := by { have q := HO2.out; simp [World.cell?, q] }
  obtain ⟨y0, y1, y2, y3, y4, y5, y6⟩ := cells7 HB2.out
  have f0 : W1.frozen? ⟨gb, 0, none⟩ = false := by { have q := HB2.out; simp [World.frozen?, q] }
  have f1 : W1.frozen? ⟨gb, 1, none⟩ = false := by { have q := HB2.out; simp [World.frozen?, q] }
  have f2 : W1.frozen? ⟨gb, 2, none⟩ = false := by { have q := HB2.out; simp [World.frozen?, q] }
  have f3 : W1.frozen? ⟨gb, 3, none⟩ = false := by { have q := HB2.out; simp [World.frozen?, q] }
  have f4 : W1.frozen? ⟨gb, 4, none⟩ = false := by { have q := HB2.out; simp [World.frozen?, q] }
  have f5 : W1.frozen? ⟨gb, 5, none⟩ = false := by { have q := HB2.out; simp [World.frozen?, q] }
  have f6 : W1.frozen? ⟨gb, 6, none⟩ = false := by { have q := HB2.out; simp [World.frozen?, q] }
  have zb : gb < W1.heap.size := lt_of_block HB2.out
  go_wp2
  have e7 := cells7 (set7 (a0 := .int .u64 b.epoch) (a1 := .int .i64 b.geom.sector) (a2 := .int .i64 b.geom.log) (a3 := .int .i64 b.geom.words) (a4 := .int .i64 b.space) (a5 := .int .i64 b.words) (a6 := .int .u64 b.log) HB2.out)
  have m7 : Moves (fun k => k = gb) W1 (((((((W1.setCell ⟨gb, 0, none⟩ (.int .u64 b.epoch)).setCell ⟨gb, 1, none⟩ (.int .i64 b.geom.sector)).setCell ⟨gb, 2, none⟩ (.int .i64 b.geom.log)).setCell ⟨gb, 3, none⟩ (.int .i64 b.geom.words)).setCell ⟨gb, 4, none⟩ (.int .i64 b.space)).setCell ⟨gb, 5, none⟩ (.int .i64 b.words)).setCell ⟨gb, 6, none⟩ (.int .u64 b.log)) := Moves.setCell (p := ⟨gb, 6, none⟩) (Moves.setCell (p := ⟨gb, 5, none⟩) (Moves.setCell (p := ⟨gb, 4, none⟩) (Moves.setCell (p := ⟨gb, 3, none⟩) (Moves.setCell (p := ⟨gb, 2, none⟩) (Moves.setCell (p := ⟨gb, 1, none⟩) (Moves.setCell (p := ⟨gb, 0, none⟩) (Moves.refl (fun k => k = gb) W1) (fun _ => rfl) (.int .u64 b.epoch)) (fun _ => rfl) (.int .i64 b.geom.sector)) (fun _ => rfl) (.int .i64 b.geom.log)) (fun _ => rfl) (.int .i64 b.geom.words)) (fun _ => rfl) (.int .i64 b.space)) (fun _ => rfl) (.int .i64 b.words)) (fun _ => rfl) (.int .u64 b.log)
  have hm : Moves (fun _ => False) w (((((((W1.setCell ⟨gb, 0, none⟩ (.int .u64 b.epoch)).setCell ⟨gb, 1, none⟩ (.int .i64 b.geom.sector)).setCell ⟨gb, 2, none⟩ (.int .i64 b.geom.log)).setCell ⟨gb, 3, none⟩ (.int .i64 b.geom.words)).setCell ⟨gb, 4, none⟩ (.int .i64 b.space)).setCell ⟨gb, 5, none⟩ (.int .i64 b.words)).setCell ⟨gb, 6, none⟩ (.int .u64 b.log)) := M1.out.andThen m7 (fun k e hk => by have := HGB.out; omega)
  clear m7 y0 y1 y2 y3 y4 y5 y6 f0 f1 f2 f3 f4 f5 f6
  generalize (((((((W1.setCell ⟨gb, 0, none⟩ (.int .u64 b.epoch)).setCell ⟨gb, 1, none⟩ (.int .i64 b.geom.sector)).setCell ⟨gb, 2, none⟩ (.int .i64 b.geom.log)).setCell ⟨gb, 3, none⟩ (.int .i64 b.geom.words)).setCell ⟨gb, 4, none⟩ (.int .i64 b.space)).setCell ⟨gb, 5, none⟩ (.int .i64 b.words)).setCell ⟨gb, 6, none⟩ (.int .u64 b.log)) = Y at e7 hm ⊢
  obtain ⟨e0, e1, e2, e3, e4, e5, e6⟩ := e7
  exact bodyPost_ret (v := .tuple #[blkV b, .int .i64 0]) (by simp [results, Try.results15, go_sem, e0, e1, e2, e3, e4, e5, e6]) rfl ⟨rfl, hm⟩
set_option maxRecDepth 100000 in
set_option maxHeartbeats 4000000 in
theorem read_newer {w : World} {d : Nat} {a b : Blk} (hn : decide (b.epoch < a.epoch) = true) (hb : ∀ W, Moves (fun _ => False) w W → Calls Try.prog 16 #[.pointer (some ⟨d, 0, none⟩)] W (fun e w' => e = .returned (.tuple #[.agg (cells14 a b), .agg #[.bool true, .bool true], .int .i64 0]) ∧ Moves (fun _ => False) W w')) : Calls Try.prog 15 #[.pointer (some ⟨d, 0, none⟩)] w (fun e w' => e = .returned (.tuple #[blkV a, .int .i64 0]) ∧ Moves (fun _ => False) w w') := by
  have HB := Lib.hid hb
  have M0 := Lib.hid ((Moves.refl (fun _ => False) w).alloc (.cells #[.int .u64 0, .int .i64 0, .int .i64 0, .int .i64 0, .int .i64 0, .int .i64 0, .int .u64 0] 32))
  have hb0 := heap_alloc_new w (.cells #[.int .u64 0, .int .i64 0, .int .i64 0, .int .i64 0, .int .i64 0, .int .i64 0, .int .u64 0] 32)
  have HN := Lib.hid (fun W => newer_any a b W)
  rw [hn] at HN
  clear hn
  clear hb
  go_enter Try.func15, Try.ntmps15
  go_wp2_with fail
  generalize w.alloc (.cells #[.int .u64 0, .int .i64 0, .int .i64 0, .int .i64 0, .int .i64 0, .int .i64 0, .int .u64 0] 32) = W0 at M0 hb0 ⊢
  obtain ⟨gb, hgb⟩ : ∃ gb, gb = w.heap.size := ⟨_, rfl⟩
  rw [← hgb] at hb0 ⊢
  have HGB := Lib.hid hgb
  clear hgb
  refine (HB.out W0 M0.out).mono ?_
  rintro e w1 ⟨rfl, hm1⟩
  have hb1 := (hm1.block _ (lt_of_block hb0) (fun e => e)).trans hb0
  have M1 := Lib.hid (((M0.out.trans hm1).alloc (.cells (cells14 a b) 35)).alloc (.cells #[.bool true, .bool true] 36))
  have hb2 : ((w1.alloc (.cells (cells14 a b) 35)).alloc (.cells #[.bool true, .bool true] 36)).heap[gb]? = some (.cells #[.int .u64 0, .int .i64 0, .int .i64 0, .int .i64 0, .int .i64 0, .int .i64 0, .int .u64 0] 32 (0, 0)) := (Below.heap_alloc _ _ _ (by have := lt_of_block hb1; simp; omega)).trans ((Below.heap_alloc _ _ _ (lt_of_block hb1)).trans hb1)
  have hl2 : ((w1.alloc (.cells (cells14 a b) 35)).alloc (.cells #[.bool true, .bool true] 36)).heap[w1.heap.size]? = some (.cells (cells14 a b) 35 (0, 0)) := (Below.heap_alloc _ _ _ (by simp)).trans (alloc_at rfl)
  have ho2 : ((w1.alloc (.cells (cells14 a b) 35)).alloc (.cells #[.bool true, .bool true] 36)).heap[w1.heap.size + 1]? = some (.cells #[.bool true, .bool true] 36 (0, 0)) := alloc_at (by simp)
  have HB2 := Lib.hid hb2
  have HL2 := Lib.hid hl2
  have HO2 := Lib.hid ho2
  clear hm1 hb0 hb1 hb2 hl2 ho2
  go_upto_region 2 with (fail)
  generalize (w1.alloc (.cells (cells14 a b) 35)).alloc (.cells #[.bool true, .bool true] 36) = W1 at M1 HB2 HL2 HO2 ⊢
  generalize w1.heap.size = gl at HL2 HO2 ⊢
  have n0 := (cells14_at HL2.out 0 _ rfl).1
  have n1 := (cells14_at HL2.out 1 _ rfl).1
  have n2 := (cells14_at HL2.out 2 _ rfl).1
  have n3 := (cells14_at HL2.out 3 _ rfl).1
  have n4 := (cells14_at HL2.out 4 _ rfl).1
  have n5 := (cells14_at HL2.out 5 _ rfl).1
  have n6 := (cells14_at HL2.out 6 _ rfl).1
  have n7 := (cells14_at HL2.out 7 _ rfl).1
  have n8 := (cells14_at HL2.out 8 _ rfl).1
  have n9 := (cells14_at HL2.out 9 _ rfl).1
  have n10 := (cells14_at HL2.out 10 _ rfl).1
  have n11 := (cells14_at HL2.out 11 _ rfl).1
  have n12 := (cells14_at HL2.out 12 _ rfl).1
  have n13 := (cells14_at HL2.out 13 _ rfl).1
  have o0 : W1.cell? ⟨gl + 1, 0, none⟩ = some (.bool true) := by { have q := HO2.out; simp [World.cell?, q] }
  have o1 : W1.cell? ⟨gl + 1, 1, none⟩ = some (.bool true) := by { have q := HO2.out; simp [World.cell?, q] }
  obtain ⟨y0, y1, y2, y3, y4, y5, y6⟩ := cells7 HB2.out
  have f0 : W1.frozen? ⟨gb, 0, none⟩ = false := by { have q := HB2.out; simp [World.frozen?, q] }
  have f1 : W1.frozen? ⟨gb, 1, none⟩ = false := by { have q := HB2.out; simp [World.frozen?, q] }
  have f2 : W1.frozen? ⟨gb, 2, none⟩ = false := by { have q := HB2.out; simp [World.frozen?, q] }
  have f3 : W1.frozen? ⟨gb, 3, none⟩ = false := by { have q := HB2.out; simp [World.frozen?, q] }
  have f4 : W1.frozen? ⟨gb, 4, none⟩ = false := by { have q := HB2.out; simp [World.frozen?, q] }
  have f5 : W1.frozen? ⟨gb, 5, none⟩ = false := by { have q := HB2.out; simp [World.frozen?, q] }
  have f6 : W1.frozen? ⟨gb, 6, none⟩ = false := by { have q := HB2.out; simp [World.frozen?, q] }
  have zb : gb < W1.heap.size := lt_of_block HB2.out
  go_wp2_with fail
  refine (HN.out _).mono ?_
  rintro e w2 ⟨rfl, hm2⟩
  clear n0 n1 n2 n3 n4 n5 n6 n7 n8 n9 n10 n11 n12 n13 y0 y1 y2 y3 y4 y5 y6 f0 f1 f2 f3 f4 f5 f6 zb o0 o1
  have HB3 := Lib.hid ((hm2.block _ (lt_of_block HB2.out) (fun e => e)).trans HB2.out)
  have HL3 := Lib.hid ((hm2.block _ (lt_of_block HL2.out) (fun e => e)).trans HL2.out)
  have HO3 := Lib.hid ((hm2.block _ (lt_of_block HO2.out) (fun e => e)).trans HO2.out)
  have M2 := Lib.hid (M1.out.trans hm2)
  clear hm2
  have n0 := (cells14_at HL3.out 0 _ rfl).1
  have n1 := (cells14_at HL3.out 1 _ rfl).1
  have n2 := (cells14_at HL3.out 2 _ rfl).1
  have n3 := (cells14_at HL3.out 3 _ rfl).1
  have n4 := (cells14_at HL3.out 4 _ rfl).1
  have n5 := (cells14_at HL3.out 5 _ rfl).1
  have n6 := (cells14_at HL3.out 6 _ rfl).1
  have n7 := (cells14_at HL3.out 7 _ rfl).1
  have n8 := (cells14_at HL3.out 8 _ rfl).1
  have n9 := (cells14_at HL3.out 9 _ rfl).1
  have n10 := (cells14_at HL3.out 10 _ rfl).1
  have n11 := (cells14_at HL3.out 11 _ rfl).1
  have n12 := (cells14_at HL3.out 12 _ rfl).1
  have n13 := (cells14_at HL3.out 13 _ rfl).1
  have o0 : w2.cell? ⟨gl + 1, 0, none⟩ = some (.bool true) := by { have q := HO3.out; simp [World.cell?, q] }
  have o1 : w2.cell? ⟨gl + 1, 1, none⟩ = some (.bool true) := by { have q := HO3.out; simp [World.cell?, q] }
  obtain ⟨y0, y1, y2, y3, y4, y5, y6⟩ := cells7 HB3.out
  have f0 : w2.frozen? ⟨gb, 0, none⟩ = false := by { have q := HB3.out; simp [World.frozen?, q] }
  have f1 : w2.frozen? ⟨gb, 1, none⟩ = false := by { have q := HB3.out; simp [World.frozen?, q] }
  have f2 : w2.frozen? ⟨gb, 2, none⟩ = false := by { have q := HB3.out; simp [World.frozen?, q] }
  have f3 : w2.frozen? ⟨gb, 3, none⟩ = false := by { have q := HB3.out; simp [World.frozen?, q] }
  have f4 : w2.frozen? ⟨gb, 4, none⟩ = false := by { have q := HB3.out; simp [World.frozen?, q] }
  have f5 : w2.frozen? ⟨gb, 5, none⟩ = false := by { have q := HB3.out; simp [World.frozen?, q] }
  have f6 : w2.frozen? ⟨gb, 6, none⟩ = false := by { have q := HB3.out; simp [World.frozen?, q] }
  have zb : gb < w2.heap.size := lt_of_block HB3.out
  go_wp2
  have e7 := cells7 (set7 (a0 := .int .u64 a.epoch) (a1 := .int .i64 a.geom.sector) (a2 := .int .i64 a.geom.log) (a3 := .int .i64 a.geom.words) (a4 := .int .i64 a.space) (a5 := .int .i64 a.words) (a6 := .int .u64 a.log) HB3.out)
  have m7 : Moves (fun k => k = gb) w2 (((((((w2.setCell ⟨gb, 0, none⟩ (.int .u64 a.epoch)).setCell ⟨gb, 1, none⟩ (.int .i64 a.geom.sector)).setCell ⟨gb, 2, none⟩ (.int .i64 a.geom.log)).setCell ⟨gb, 3, none⟩ (.int .i64 a.geom.words)).setCell ⟨gb, 4, none⟩ (.int .i64 a.space)).setCell ⟨gb, 5, none⟩ (.int .i64 a.words)).setCell ⟨gb, 6, none⟩ (.int .u64 a.log)) := Moves.setCell (p := ⟨gb, 6, none⟩) (Moves.setCell (p := ⟨gb, 5, none⟩) (Moves.setCell (p := ⟨gb, 4, none⟩) (Moves.setCell (p := ⟨gb, 3, none⟩) (Moves.setCell (p := ⟨gb, 2, none⟩) (Moves.setCell (p := ⟨gb, 1, none⟩) (Moves.setCell (p := ⟨gb, 0, none⟩) (Moves.refl (fun k => k = gb) w2) (fun _ => rfl) (.int .u64 a.epoch)) (fun _ => rfl) (.int .i64 a.geom.sector)) (fun _ => rfl) (.int .i64 a.geom.log)) (fun _ => rfl) (.int .i64 a.geom.words)) (fun _ => rfl) (.int .i64 a.space)) (fun _ => rfl) (.int .i64 a.words)) (fun _ => rfl) (.int .u64 a.log)
  have hm : Moves (fun _ => False) w (((((((w2.setCell ⟨gb, 0, none⟩ (.int .u64 a.epoch)).setCell ⟨gb, 1, none⟩ (.int .i64 a.geom.sector)).setCell ⟨gb, 2, none⟩ (.int .i64 a.geom.log)).setCell ⟨gb, 3, none⟩ (.int .i64 a.geom.words)).setCell ⟨gb, 4, none⟩ (.int .i64 a.space)).setCell ⟨gb, 5, none⟩ (.int .i64 a.words)).setCell ⟨gb, 6, none⟩ (.int .u64 a.log)) := M2.out.andThen m7 (fun k e hk => by have := HGB.out; omega)
  clear m7 y0 y1 y2 y3 y4 y5 y6 f0 f1 f2 f3 f4 f5 f6
  generalize (((((((w2.setCell ⟨gb, 0, none⟩ (.int .u64 a.epoch)).setCell ⟨gb, 1, none⟩ (.int .i64 a.geom.sector)).setCell ⟨gb, 2, none⟩ (.int .i64 a.geom.log)).setCell ⟨gb, 3, none⟩ (.int .i64 a.geom.words)).setCell ⟨gb, 4, none⟩ (.int .i64 a.space)).setCell ⟨gb, 5, none⟩ (.int .i64 a.words)).setCell ⟨gb, 6, none⟩ (.int .u64 a.log)) = Y at e7 hm ⊢
  obtain ⟨e0, e1, e2, e3, e4, e5, e6⟩ := e7
  exact bodyPost_ret (v := .tuple #[blkV a, .int .i64 0]) (by simp [results, Try.results15, go_sem, e0, e1, e2, e3, e4, e5, e6]) rfl ⟨rfl, hm⟩
set_option maxRecDepth 100000 in
set_option maxHeartbeats 4000000 in
theorem read_older {w : World} {d : Nat} {a b : Blk} (hn : decide (b.epoch < a.epoch) = false) (hb : ∀ W, Moves (fun _ => False) w W → Calls Try.prog 16 #[.pointer (some ⟨d, 0, none⟩)] W (fun e w' => e = .returned (.tuple #[.agg (cells14 a b), .agg #[.bool true, .bool true], .int .i64 0]) ∧ Moves (fun _ => False) W w')) : Calls Try.prog 15 #[.pointer (some ⟨d, 0, none⟩)] w (fun e w' => e = .returned (.tuple #[blkV b, .int .i64 0]) ∧ Moves (fun _ => False) w w') := by
  have HB := Lib.hid hb
  have M0 := Lib.hid ((Moves.refl (fun _ => False) w).alloc (.cells #[.int .u64 0, .int .i64 0, .int .i64 0, .int .i64 0, .int .i64 0, .int .i64 0, .int .u64 0] 32))
  have hb0 := heap_alloc_new w (.cells #[.int .u64 0, .int .i64 0, .int .i64 0, .int .i64 0, .int .i64 0, .int .i64 0, .int .u64 0] 32)
  have HN := Lib.hid (fun W => newer_any a b W)
  rw [hn] at HN
  clear hn
  clear hb
  go_enter Try.func15, Try.ntmps15
  go_wp2_with fail
  generalize w.alloc (.cells #[.int .u64 0, .int .i64 0, .int .i64 0, .int .i64 0, .int .i64 0, .int .i64 0, .int .u64 0] 32) = W0 at M0 hb0 ⊢
  obtain ⟨gb, hgb⟩ : ∃ gb, gb = w.heap.size := ⟨_, rfl⟩
  rw [← hgb] at hb0 ⊢
  have HGB := Lib.hid hgb
  clear hgb
  refine (HB.out W0 M0.out).mono ?_
  rintro e w1 ⟨rfl, hm1⟩
  have hb1 := (hm1.block _ (lt_of_block hb0) (fun e => e)).trans hb0
  have M1 := Lib.hid (((M0.out.trans hm1).alloc (.cells (cells14 a b) 35)).alloc (.cells #[.bool true, .bool true] 36))
  have hb2 : ((w1.alloc (.cells (cells14 a b) 35)).alloc (.cells #[.bool true, .bool true] 36)).heap[gb]? = some (.cells #[.int .u64 0, .int .i64 0, .int .i64 0, .int .i64 0, .int .i64 0, .int .i64 0, .int .u64 0] 32 (0, 0)) := (Below.heap_alloc _ _ _ (by have := lt_of_block hb1; simp; omega)).trans ((Below.heap_alloc _ _ _ (lt_of_block hb1)).trans hb1)
  have hl2 : ((w1.alloc (.cells (cells14 a b) 35)).alloc (.cells #[.bool true, .bool true] 36)).heap[w1.heap.size]? = some (.cells (cells14 a b) 35 (0, 0)) := (Below.heap_alloc _ _ _ (by simp)).trans (alloc_at rfl)
  have ho2 : ((w1.alloc (.cells (cells14 a b) 35)).alloc (.cells #[.bool true, .bool true] 36)).heap[w1.heap.size + 1]? = some (.cells #[.bool true, .bool true] 36 (0, 0)) := alloc_at (by simp)
  have HB2 := Lib.hid hb2
  have HL2 := Lib.hid hl2
  have HO2 := Lib.hid ho2
  clear hm1 hb0 hb1 hb2 hl2 ho2
  go_upto_region 2 with (fail)
  generalize (w1.alloc (.cells (cells14 a b) 35)).alloc (.cells #[.bool true, .bool true] 36) = W1 at M1 HB2 HL2 HO2 ⊢
  generalize w1.heap.size = gl at HL2 HO2 ⊢
  have n0 := (cells14_at HL2.out 0 _ rfl).1
  have n1 := (cells14_at HL2.out 1 _ rfl).1
  have n2 := (cells14_at HL2.out 2 _ rfl).1
  have n3 := (cells14_at HL2.out 3 _ rfl).1
  have n4 := (cells14_at HL2.out 4 _ rfl).1
  have n5 := (cells14_at HL2.out 5 _ rfl).1
  have n6 := (cells14_at HL2.out 6 _ rfl).1
  have n7 := (cells14_at HL2.out 7 _ rfl).1
  have n8 := (cells14_at HL2.out 8 _ rfl).1
  have n9 := (cells14_at HL2.out 9 _ rfl).1
  have n10 := (cells14_at HL2.out 10 _ rfl).1
  have n11 := (cells14_at HL2.out 11 _ rfl).1
  have n12 := (cells14_at HL2.out 12 _ rfl).1
  have n13 := (cells14_at HL2.out 13 _ rfl).1
  have o0 : W1.cell? ⟨gl + 1, 0, none⟩ = some (.bool true) := by { have q := HO2.out; simp [World.cell?, q] }
  have o1 : W1.cell? ⟨gl + 1, 1, none⟩ = some (.bool true) := by { have q := HO2.out; simp [World.cell?, q] }
  obtain ⟨y0, y1, y2, y3, y4, y5, y6⟩ := cells7 HB2.out
  have f0 : W1.frozen? ⟨gb, 0, none⟩ = false := by { have q := HB2.out; simp [World.frozen?, q] }
  have f1 : W1.frozen? ⟨gb, 1, none⟩ = false := by { have q := HB2.out; simp [World.frozen?, q] }
  have f2 : W1.frozen? ⟨gb, 2, none⟩ = false := by { have q := HB2.out; simp [World.frozen?, q] }
  have f3 : W1.frozen? ⟨gb, 3, none⟩ = false := by { have q := HB2.out; simp [World.frozen?, q] }
  have f4 : W1.frozen? ⟨gb, 4, none⟩ = false := by { have q := HB2.out; simp [World.frozen?, q] }
  have f5 : W1.frozen? ⟨gb, 5, none⟩ = false := by { have q := HB2.out; simp [World.frozen?, q] }
  have f6 : W1.frozen? ⟨gb, 6, none⟩ = false := by { have q := HB2.out; simp [World.frozen?, q] }
  have zb : gb < W1.heap.size := lt_of_block HB2.out
  go_wp2_with fail
  refine (HN.out _).mono ?_
  rintro e w2 ⟨rfl, hm2⟩
  clear n0 n1 n2 n3 n4 n5 n6 n7 n8 n9 n10 n11 n12 n13 y0 y1 y2 y3 y4 y5 y6 f0 f1 f2 f3 f4 f5 f6 zb o0 o1
  have HB3 := Lib.hid ((hm2.block _ (lt_of_block HB2.out) (fun e => e)).trans HB2.out)
  have HL3 := Lib.hid ((hm2.block _ (lt_of_block HL2.out) (fun e => e)).trans HL2.out)
  have HO3 := Lib.hid ((hm2.block _ (lt_of_block HO2.out) (fun e => e)).trans HO2.out)
  have M2 := Lib.hid (M1.out.trans hm2)
  clear hm2
  have n0 := (cells14_at HL3.out 0 _ rfl).1
  have n1 := (cells14_at HL3.out 1 _ rfl).1
  have n2 := (cells14_at HL3.out 2 _ rfl).1
  have n3 := (cells14_at HL3.out 3 _ rfl).1
  have n4 := (cells14_at HL3.out 4 _ rfl).1
  have n5 := (cells14_at HL3.out 5 _ rfl).1
  have n6 := (cells14_at HL3.out 6 _ rfl).1
  have n7 := (cells14_at HL3.out 7 _ rfl).1
  have n8 := (cells14_at HL3.out 8 _ rfl).1
  have n9 := (cells14_at HL3.out 9 _ rfl).1
  have n10 := (cells14_at HL3.out 10 _ rfl).1
  have n11 := (cells14_at HL3.out 11 _ rfl).1
  have n12 := (cells14_at HL3.out 12 _ rfl).1
  have n13 := (cells14_at HL3.out 13 _ rfl).1
  have o0 : w2.cell? ⟨gl + 1, 0, none⟩ = some (.bool true) := by { have q := HO3.out; simp [World.cell?, q] }
  have o1 : w2.cell? ⟨gl + 1, 1, none⟩ = some (.bool true) := by { have q := HO3.out; simp [World.cell?, q] }
  obtain ⟨y0, y1, y2, y3, y4, y5, y6⟩ := cells7 HB3.out
  have f0 : w2.frozen? ⟨gb, 0, none⟩ = false := by { have q := HB3.out; simp [World.frozen?, q] }
  have f1 : w2.frozen? ⟨gb, 1, none⟩ = false := by { have q := HB3.out; simp [World.frozen?, q] }
  have f2 : w2.frozen? ⟨gb, 2, none⟩ = false := by { have q := HB3.out; simp [World.frozen?, q] }
  have f3 : w2.frozen? ⟨gb, 3, none⟩ = false := by { have q := HB3.out; simp [World.frozen?, q] }
  have f4 : w2.frozen? ⟨gb, 4, none⟩ = false := by { have q := HB3.out; simp [World.frozen?, q] }
  have f5 : w2.frozen? ⟨gb, 5, none⟩ = false := by { have q := HB3.out; simp [World.frozen?, q] }
  have f6 : w2.frozen? ⟨gb, 6, none⟩ = false := by { have q := HB3.out; simp [World.frozen?, q] }
  have zb : gb < w2.heap.size := lt_of_block HB3.out
  go_wp2
  have e7 := cells7 (set7 (a0 := .int .u64 b.epoch) (a1 := .int .i64 b.geom.sector) (a2 := .int .i64 b.geom.log) (a3 := .int .i64 b.geom.words) (a4 := .int .i64 b.space) (a5 := .int .i64 b.words) (a6 := .int .u64 b.log) HB3.out)
  have m7 : Moves (fun k => k = gb) w2 (((((((w2.setCell ⟨gb, 0, none⟩ (.int .u64 b.epoch)).setCell ⟨gb, 1, none⟩ (.int .i64 b.geom.sector)).setCell ⟨gb, 2, none⟩ (.int .i64 b.geom.log)).setCell ⟨gb, 3, none⟩ (.int .i64 b.geom.words)).setCell ⟨gb, 4, none⟩ (.int .i64 b.space)).setCell ⟨gb, 5, none⟩ (.int .i64 b.words)).setCell ⟨gb, 6, none⟩ (.int .u64 b.log)) := Moves.setCell (p := ⟨gb, 6, none⟩) (Moves.setCell (p := ⟨gb, 5, none⟩) (Moves.setCell (p := ⟨gb, 4, none⟩) (Moves.setCell (p := ⟨gb, 3, none⟩) (Moves.setCell (p := ⟨gb, 2, none⟩) (Moves.setCell (p := ⟨gb, 1, none⟩) (Moves.setCell (p := ⟨gb, 0, none⟩) (Moves.refl (fun k => k = gb) w2) (fun _ => rfl) (.int .u64 b.epoch)) (fun _ => rfl) (.int .i64 b.geom.sector)) (fun _ => rfl) (.int .i64 b.geom.log)) (fun _ => rfl) (.int .i64 b.geom.words)) (fun _ => rfl) (.int .i64 b.space)) (fun _ => rfl) (.int .i64 b.words)) (fun _ => rfl) (.int .u64 b.log)
  have hm : Moves (fun _ => False) w (((((((w2.setCell ⟨gb, 0, none⟩ (.int .u64 b.epoch)).setCell ⟨gb, 1, none⟩ (.int .i64 b.geom.sector)).setCell ⟨gb, 2, none⟩ (.int .i64 b.geom.log)).setCell ⟨gb, 3, none⟩ (.int .i64 b.geom.words)).setCell ⟨gb, 4, none⟩ (.int .i64 b.space)).setCell ⟨gb, 5, none⟩ (.int .i64 b.words)).setCell ⟨gb, 6, none⟩ (.int .u64 b.log)) := M2.out.andThen m7 (fun k e hk => by have := HGB.out; omega)
  clear m7 y0 y1 y2 y3 y4 y5 y6 f0 f1 f2 f3 f4 f5 f6
  generalize (((((((w2.setCell ⟨gb, 0, none⟩ (.int .u64 b.epoch)).setCell ⟨gb, 1, none⟩ (.int .i64 b.geom.sector)).setCell ⟨gb, 2, none⟩ (.int .i64 b.geom.log)).setCell ⟨gb, 3, none⟩ (.int .i64 b.geom.words)).setCell ⟨gb, 4, none⟩ (.int .i64 b.space)).setCell ⟨gb, 5, none⟩ (.int .i64 b.words)).setCell ⟨gb, 6, none⟩ (.int .u64 b.log)) = Y at e7 hm ⊢
  obtain ⟨e0, e1, e2, e3, e4, e5, e6⟩ := e7
  exact bodyPost_ret (v := .tuple #[blkV b, .int .i64 0]) (by simp [results, Try.results15, go_sem, e0, e1, e2, e3, e4, e5, e6]) rfl ⟨rfl, hm⟩
theorem read_any {w : World} {base d : Nat} {S : DS} (h : IsDisk w base d S) (ho : S.off = false) (hk : 2 ≤ S.kept.length) (hz : 64 ≤ S.size ∧ S.size ≤ 1024) {s0 s1 : List Int} (h0 : Pl.rdN S 0 S.secs.length = s0) (h1 : Pl.rdN S 1 S.secs.length = s1) (b0 : ∀ x ∈ s0, 0 ≤ x ∧ x < 256) (b1 : ∀ x ∈ s1, 0 ≤ x ∧ x < 256) (l0 : s0.length = S.size) (l1 : s1.length = S.size) : Calls Try.prog 15 #[.pointer (some ⟨d, 0, none⟩)] w (ReadS w (pickB (rightS S 0 s0) (rightS S 1 s1))) := by
  have hb := fun W (hW : Moves (fun _ => False) w W) => both_ok (h.moves0 hW) ho hk hz h0 h1 b0 b1 l0 l1
  generalize rightS S 0 s0 = r0 at hb ⊢
  generalize rightS S 1 s1 = r1 at hb ⊢
  cases r0 with
  | none =>
    cases r1 with
    | none => exact read_none hb
    | some b => exact read_second (a := zeroB) (b := b) hb
  | some a =>
    cases r1 with
    | none => exact read_first (a := a) (b := zeroB) hb
    | some b =>
      by_cases hn : b.epoch < a.epoch
      · have e : pickB (some a) (some b) = some a := if_pos hn
        rw [e]
        exact read_newer (a := a) (b := b) (decide_eq_true hn) hb
      · have e : pickB (some a) (some b) = some b := if_neg hn
        rw [e]
        exact read_older (a := a) (b := b) (decide_eq_false hn) hb
end Go.Proofs.Ytnagpianaghjeaa.Sl
namespace Go.Proofs.Ytnagpianaghjeaa.Sl
open Go Go.RowKit Go.Proofs

def FewG (g : Geo) : Prop := (8 ≤ g.sector ∧ g.sector ≤ 1048576) ∧ (-1048576 ≤ g.words ∧ g.words ≤ 1048576) ∧ (-1048576 ≤ g.log ∧ g.log ≤ 1048576)
theorem GoodG.few {g : Geo} (h : GoodG g) : FewG g := by
  obtain ⟨⟨a, b, _⟩, ⟨c, d, e, f⟩, _⟩ := h
  refine ⟨⟨?_, ?_⟩, ⟨?_, ?_⟩, ?_, ?_⟩ <;> omega
set_option maxRecDepth 100000 in
set_option maxHeartbeats 2000000 in
theorem few_ok {g : Geo} (h : FewG g) (w : World) : Calls Try.prog 52 #[geoV g] w (MovV w (.bool true)) := by
  obtain ⟨s, l, n⟩ := g
  obtain ⟨⟨h1, h2⟩, ⟨h3, h4⟩, h5, h6⟩ := h
  dsimp only at h1 h2 h3 h4 h5 h6
  go_enter Try.func52, Try.ntmps52
  go_wp2
  go_ret
  exact ⟨rfl, (Moves.refl _ w).alloc _⟩
set_option maxRecDepth 100000 in
set_option maxHeartbeats 2000000 in
theorem few_bad {g : Geo} (h : ¬ FewG g) (w : World) : Calls Try.prog 52 #[geoV g] w (MovV w (.bool false)) := by
  have HB := Lib.hid h
  clear h
  obtain ⟨s, l, n⟩ := g
  by_cases h1 : 8 ≤ s
  · by_cases h2 : s ≤ 1048576
    · by_cases h3 : -1048576 ≤ n
      · by_cases h4 : n ≤ 1048576
        · by_cases h5 : -1048576 ≤ l
          · by_cases h6 : l ≤ 1048576
            · exact absurd ⟨⟨h1, h2⟩, ⟨h3, h4⟩, h5, h6⟩ HB.out
            · go_enter Try.func52, Try.ntmps52
              go_wp2
              go_ret
              exact ⟨rfl, (Moves.refl _ w).alloc _⟩
          · go_enter Try.func52, Try.ntmps52
            go_wp2
            go_ret
            exact ⟨rfl, (Moves.refl _ w).alloc _⟩
        · go_enter Try.func52, Try.ntmps52
          go_wp2
          go_ret
          exact ⟨rfl, (Moves.refl _ w).alloc _⟩
      · go_enter Try.func52, Try.ntmps52
        go_wp2
        go_ret
        exact ⟨rfl, (Moves.refl _ w).alloc _⟩
    · go_enter Try.func52, Try.ntmps52
      go_wp2
      go_ret
      exact ⟨rfl, (Moves.refl _ w).alloc _⟩
  · go_enter Try.func52, Try.ntmps52
    go_wp2
    go_ret
    exact ⟨rfl, (Moves.refl _ w).alloc _⟩
set_option maxRecDepth 100000 in
set_option maxHeartbeats 2000000 in
theorem of4_any (g : Geo) (w : World) : Calls Try.prog 54 #[geoV g] w (MovV w (geoV g)) := by
  obtain ⟨s, l, n⟩ := g
  go_enter Try.func54, Try.ntmps54
  go_wp2
  exact bodyPost_ret (v := geoV ⟨s, l, n⟩) (by simp [results, Try.results54, go_sem]) rfl ⟨rfl, ((Moves.refl _ w).alloc _).alloc _⟩
theorem per_of {s : Int} (h : s % 8 = 0) (n : Int) : (n * 8 + s - 1) / s = (n + s / 8 - 1) / (s / 8) := by
  obtain ⟨p, hp⟩ : ∃ p, s = p * 8 := ⟨s / 8, by omega⟩
  subst hp
  rw [per_eq, Int.mul_ediv_cancel _ (by decide)]
set_option maxRecDepth 100000 in
set_option maxHeartbeats 2000000 in
theorem rone_ok {g : Geo} (h : NearG g) (h8 : g.sector % 8 = 0) (w : World) : Calls Try.prog 95 #[geoV g] w (MovV w (.int .i64 (oneG g))) := by
  obtain ⟨s, l, n⟩ := g
  obtain ⟨⟨a, b⟩, ⟨c, d⟩, e, f⟩ := h
  dsimp only at a b c d e f h8
  have he := per_of h8 n
  have hp : 8 ≤ s / 8 ∧ s / 8 ≤ 128 := by omega
  obtain ⟨hp1, hp2⟩ := hp
  have hq := div_64 (n := n) (b := s / 8) (by omega) (by omega) (by omega) (by omega)
  have hr : 0 ≤ (n + 31) / 32 ∧ (n + 31) / 32 ≤ 10000 := by omega
  have HE : Hid (wrap64 ((n + s / 8 - 1) / (s / 8) + (n + 31) / 32) = oneG ⟨s, l, n⟩) := by
    rw [w64 (by omega) (by omega)]
    unfold oneG
    rw [he]
    rfl
  have e8 : IntKind.i64.wrap (n + 31) = n + 31 := IntWalk.i64_in _ (by omega)
  have e9 : s.tdiv 8 = s / 8 := Int.tdiv_eq_ediv_of_nonneg (by omega)
  have HE9 := Lib.hid e9
  generalize hy : oneG ⟨s, l, n⟩ = y at HE ⊢
  clear he hq hr h8 hy e9
  go_enter Try.func95, Try.ntmps95
  go_wp2
  generalize s / 8 = q at HE hp1 hp2 ⊢
  have e7 : IntKind.i64.wrap (n + q) = n + q := IntWalk.i64_in _ (by omega)
  have e6 : IntKind.i64.wrap (n + q - 1) = n + q - 1 := IntWalk.i64_in _ (by omega)
  have p1 : 0 ≤ n + q - 1 := by omega
  have p2 : 0 ≤ n + 31 := by omega
  go_quiet (fail)
  go_wp2
  go_ret
  exact ⟨congrArg (fun x => Ending.returned (.int .i64 x)) HE.out, ((Moves.refl _ w).alloc _).drewN _⟩
set_option maxRecDepth 100000 in
set_option maxHeartbeats 2000000 in
theorem rsectors_ok {g : Geo} (h : NearG g) (h8 : g.sector % 8 = 0) (w : World) : Calls Try.prog 55 #[geoV g] w (MovV w (.int .i64 (secsG g))) := by
  have hO := oneG_le h
  have hlog := h.2.1
  have HC := Lib.hid (fun W => rone_ok h h8 W)
  have HE : Hid (IntKind.i64.wrap (IntKind.i64.wrap (2 + g.log) + IntKind.i64.wrap (2 * oneG g)) = secsG g) := by
    have e1 : IntKind.i64.wrap (2 + g.log) = 2 + g.log := IntWalk.i64_in _ (by omega)
    have e2 : IntKind.i64.wrap (2 * oneG g) = 2 * oneG g := IntWalk.i64_in _ (by omega)
    rw [e1, e2]
    exact IntWalk.i64_in _ (by omega)
  obtain ⟨s, l, n⟩ := g
  dsimp only at hlog HE hO
  generalize oneG ⟨s, l, n⟩ = x at HE hO HC
  generalize secsG ⟨s, l, n⟩ = z at HE ⊢
  clear h8
  go_enter Try.func55, Try.ntmps55
  go_wp2
  have hm := (Moves.refl (fun _ => False) w).alloc (.cells #[.int .i64 s, .int .i64 l, .int .i64 n] 47)
  have hb := cells3 (heap_alloc_new w (.cells #[.int .i64 s, .int .i64 l, .int .i64 n] 47))
  generalize w.alloc (.cells #[.int .i64 s, .int .i64 l, .int .i64 n] 47) = W at hm hb ⊢
  obtain ⟨hb0, hb1, hb2⟩ := hb
  generalize w.heap.size = gb at hb0 hb1 hb2 ⊢
  have HN : Hid (∀ w', KpS W w' → KpS W w' ∧ w'.cell? ⟨gb, 0, none⟩ = some (.int .i64 s) ∧ w'.cell? ⟨gb, 1, none⟩ = some (.int .i64 l) ∧ w'.cell? ⟨gb, 2, none⟩ = some (.int .i64 n)) := Lib.hid fun w' hk => ⟨hk, hk.cell hb0, hk.cell hb1, hk.cell hb2⟩
  have HM := Lib.hid hm
  have hK0 := KpS.refl W
  clear hm
  go_region_held3 (fun w' => KpS W w' ∧ w'.cell? ⟨gb, 0, none⟩ = some (.int .i64 s) ∧ w'.cell? ⟨gb, 1, none⟩ = some (.int .i64 l) ∧ w'.cell? ⟨gb, 2, none⟩ = some (.int .i64 n)) (first | exact hS' | exact HN.out _ hK0 | assumption | go_keep)
    (first
      | (go_at_call 95; refine (HC.out _).mono ?_; rintro e w' ⟨rfl, hl⟩; have hS' := HN.out _ (KpS.of ((KpS.moves (And.left (by assumption))).trans hl)))
      | fail)
  go_wp2
  go_ret
  exact ⟨congrArg (fun x => Ending.returned (.int .i64 x)) HE.out, HM.out.drew.trans hl⟩
set_option maxRecDepth 100000 in
set_option maxHeartbeats 2000000 in
theorem rcheck_bad' {g : Geo} (h : ¬ GoodG g) (w : World) : Calls Try.prog 53 #[geoV g] w (MovV w (.int .i64 1)) := by
  have HB := Lib.hid h
  have HS := Lib.hid (fun W hn h8 => rsectors_ok (g := g) hn h8 W)
  clear h
  obtain ⟨s, l, n⟩ := g
  dsimp only at HS
  by_cases h1 : 64 ≤ s
  · by_cases h2 : s ≤ 1024
    · by_cases h3 : s % 8 = 0
      · by_cases h4 : 8 ≤ l
        · by_cases h5 : l ≤ 1024
          · by_cases h6 : 64 ≤ n
            · by_cases h7 : n ≤ 8192
              · have hb : 16384 < secsG ⟨s, l, n⟩ := by
                  by_cases q : 16384 < secsG ⟨s, l, n⟩
                  · exact q
                  · exact absurd ⟨⟨h1, h2, h3⟩, ⟨h4, h5, h6, h7⟩, Int.not_lt.1 q⟩ HB.out
                have HSS := Lib.hid (fun W => HS.out W ⟨⟨h1, h2⟩, ⟨by show 0 ≤ l; omega, h5⟩, by show 0 ≤ n; omega, h7⟩ h3)
                have h3' : (s % 8 != 0) = false := by simpa using h3
                clear h3 HS
                generalize secsG ⟨s, l, n⟩ = z at hb HSS
                go_enter Try.func53, Try.ntmps53
                go_wp2_with (first | (go_at_call 55; refine (HSS.out _).mono ?_; rintro e w1 ⟨rfl, hm⟩) | fail)
                go_ret
                exact ⟨rfl, ((Moves.refl _ w).alloc _).trans hm⟩
              · have h3' : (s % 8 != 0) = false := by simpa using h3
                clear h3
                go_enter Try.func53, Try.ntmps53
                go_wp2
                go_ret
                exact ⟨rfl, (Moves.refl _ w).alloc _⟩
            · have h3' : (s % 8 != 0) = false := by simpa using h3
              clear h3
              go_enter Try.func53, Try.ntmps53
              go_wp2
              go_ret
              exact ⟨rfl, (Moves.refl _ w).alloc _⟩
          · have h3' : (s % 8 != 0) = false := by simpa using h3
            clear h3
            go_enter Try.func53, Try.ntmps53
            go_wp2
            go_ret
            exact ⟨rfl, (Moves.refl _ w).alloc _⟩
        · have h3' : (s % 8 != 0) = false := by simpa using h3
          clear h3
          go_enter Try.func53, Try.ntmps53
          go_wp2
          go_ret
          exact ⟨rfl, (Moves.refl _ w).alloc _⟩
      · have h3' : (s % 8 != 0) = true := by simpa using h3
        clear h3
        go_enter Try.func53, Try.ntmps53
        go_wp2
        go_ret
        exact ⟨rfl, (Moves.refl _ w).alloc _⟩
    · go_enter Try.func53, Try.ntmps53
      go_wp2
      go_ret
      exact ⟨rfl, (Moves.refl _ w).alloc _⟩
  · go_enter Try.func53, Try.ntmps53
    go_wp2
    go_ret
    exact ⟨rfl, (Moves.refl _ w).alloc _⟩
set_option maxRecDepth 100000 in
set_option maxHeartbeats 2000000 in
theorem rcheck_ok {g : Geo} (h : GoodG g) (w : World) : Calls Try.prog 53 #[geoV g] w (MovV w (.int .i64 0)) := by
  have HSS := Lib.hid (fun W => rsectors_ok h.near h.1.2.2 W)
  obtain ⟨s, l, n⟩ := g
  obtain ⟨⟨h1, h2, h3⟩, ⟨h4, h5, h6, h7⟩, hb⟩ := h
  dsimp only at h1 h2 h3 h4 h5 h6 h7
  have h3' : (s % 8 != 0) = false := by simpa using h3
  clear h3
  generalize secsG ⟨s, l, n⟩ = z at hb HSS
  go_enter Try.func53, Try.ntmps53
  go_wp2_with (first | (go_at_call 55; refine (HSS.out _).mono ?_; rintro e w1 ⟨rfl, hm⟩) | fail)
  go_ret
  exact ⟨rfl, ((Moves.refl _ w).alloc _).trans hm⟩
theorem rcheck_bad {g : Geo} (_ : FewG g) (h : ¬ GoodG g) (w : World) : Calls Try.prog 53 #[geoV g] w (MovV w (.int .i64 1)) := rcheck_bad' h w
end Go.Proofs.Ytnagpianaghjeaa.Sl
