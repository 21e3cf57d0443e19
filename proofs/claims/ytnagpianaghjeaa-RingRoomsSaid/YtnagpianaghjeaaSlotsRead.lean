/-
  slots.Read. (Printed by gen_slotsread.py.)
-/
import Derived.Test.YtnagpianaghjeaaBoth
namespace Go.Proofs.Ytnagpianaghjeaa.Sl
open Go Go.RowKit Go.Proofs
open Pl (DS IsDisk DOwn DPost DMv DKeep)

/-- The newer right one. -/
def pickB (r0 r1 : Option Blk) : Option Blk := match r0, r1 with
  | none, none => none
  | none, some b => some b
  | some a, none => some a
  | some a, some b => if b.epoch < a.epoch then some a else some b
def ReadS (w : World) (r : Option Blk) (e : Ending) (w' : World) : Prop := e = .returned (.tuple #[blkV (orZ r), .int .i64 (if r.isSome then 0 else 2)]) ∧ Moves (fun _ => False) w w'
set_option maxRecDepth 100000 in
set_option maxHeartbeats 4000000 in
theorem read_none {w : World} {d : Nat} {a b : Blk} (hb : ∀ W, Moves (fun _ => False) w W → Calls Try.prog 16 #[.pointer (some ⟨d, 0, none⟩)] W (fun e w' => e = .returned (.tuple #[.agg (cells14 a b), .agg #[.bool false, .bool false], .int .i64 0]) ∧ Moves (fun _ => False) W w')) : Calls Try.prog 15 #[.pointer (some ⟨d, 0, none⟩)] w (fun e w' => e = .returned (.tuple #[blkV zeroB, .int .i64 2]) ∧ Moves (fun _ => False) w w') := by
  have HB := Lib.hid hb
  have M0 := Lib.hid ((Moves.refl (fun _ => False) w).alloc (.cells #[.int .u64 0, .int .i64 0, .int .i64 0, .int .i64 0, .int .i64 0, .int .i64 0, .int .u64 0] 32))
  have hb0 := heap_alloc_new w (.cells #[.int .u64 0, .int .i64 0, .int .i64 0, .int .i64 0, .int .i64 0, .int .i64 0, .int .u64 0] 32)
  clear hb
  go_enter Try.func15, Try.ntmps15
  go_wp2_with fail
  generalize w.alloc (.cells #[.int .u64 0, .int .i64 0, .int .i64 0, .int .i64 0, .int .i64 0, .int .i64 0, .int .u64 0] 32) = W0 at M0 hb0 ⊢
  obtain ⟨gb, hgb⟩ : ∃ gb, gb = w.heap.size := ⟨_, rfl⟩
  rw [← hgb] at hb0 ⊢
  have HGB := Lib.hid hgb
  clear hgb
  refine (HB.out W0 M0.out).mono ?_
  rintro e w1 ⟨rfl, hm1⟩
  have hb1 := (hm1.block _ (lt_of_block hb0) (fun e => e)).trans hb0
  have M1 := Lib.hid (((M0.out.trans hm1).alloc (.cells (cells14 a b) 35)).alloc (.cells #[.bool false, .bool false] 36))
  have hb2 : ((w1.alloc (.cells (cells14 a b) 35)).alloc (.cells #[.bool false, .bool false] 36)).heap[gb]? = some (.cells #[.int .u64 0, .int .i64 0, .int .i64 0, .int .i64 0, .int .i64 0, .int .i64 0, .int .u64 0] 32 (0, 0)) := (Below.heap_alloc _ _ _ (by have := lt_of_block hb1; simp; omega)).trans ((Below.heap_alloc _ _ _ (lt_of_block hb1)).trans hb1)
  have hl2 : ((w1.alloc (.cells (cells14 a b) 35)).alloc (.cells #[.bool false, .bool false] 36)).heap[w1.heap.size]? = some (.cells (cells14 a b) 35 (0, 0)) := (Below.heap_alloc _ _ _ (by simp)).trans (alloc_at rfl)
  have ho2 : ((w1.alloc (.cells (cells14 a b) 35)).alloc (.cells #[.bool false, .bool false] 36)).heap[w1.heap.size + 1]? = some (.cells #[.bool false, .bool false] 36 (0, 0)) := alloc_at (by simp)
  have HB2 := Lib.hid hb2
  have HL2 := Lib.hid hl2
  have HO2 := Lib.hid ho2
  clear hm1 hb0 hb1 hb2 hl2 ho2
  go_upto_region 2 with (fail)
  generalize (w1.alloc (.cells (cells14 a b) 35)).alloc (.cells #[.bool false, .bool false] 36) = W1 at M1 HB2 HL2 HO2 ⊢
  generalize w1.heap.size = gl at HL2 HO2 ⊢
  have n0 := (cells14_at HL2.out 0 _ rfl).1
  have n1 := (cells14_at HL2.out 1 _ rfl).1
  have n2 := (cells14_at HL2.out 2 _ rfl).1
  have n3 := (cells14_at HL2.out 3 _ rfl).1
  have n4 := (cells14_at HL2.out 4 _ rfl).1
  have n5 := (cells14_at HL2.out 5 _ rfl).1
  have n6 := (cells14_at HL2.out 6 _ rfl).1
  have n7 := (cells14_at HL2.out 7 _ rfl).1
  have n8 := (cells14_at HL2.out 8 _ rfl).1
  have n9 := (cells14_at HL2.out 9 _ rfl).1
  have n10 := (cells14_at HL2.out 10 _ rfl).1
  have n11 := (cells14_at HL2.out 11 _ rfl).1
  have n12 := (cells14_at HL2.out 12 _ rfl).1
  have n13 := (cells14_at HL2.out 13 _ rfl).1
  have o0 : W1.cell? ⟨gl + 1, 0, none⟩ = some (.bool false) := by { have q := HO2.out; simp [World.cell?, q] }
  have o1 : W1.cell? ⟨gl + 1, 1, none⟩ = some (.bool false) := by { have q := HO2.out; simp [World.cell?, q] }
  obtain ⟨y0, y1, y2, y3, y4, y5, y6⟩ := cells7 HB2.out
  have f0 : W1.frozen? ⟨gb, 0, none⟩ = false := by { have q := HB2.out; simp [World.frozen?, q] }
  have f1 : W1.frozen? ⟨gb, 1, none⟩ = false := by { have q := HB2.out; simp [World.frozen?, q] }
  have f2 : W1.frozen? ⟨gb, 2, none⟩ = false := by { have q := HB2.out; simp [World.frozen?, q] }
  have f3 : W1.frozen? ⟨gb, 3, none⟩ = false := by { have q := HB2.out; simp [World.frozen?, q] }
  have f4 : W1.frozen? ⟨gb, 4, none⟩ = false := by { have q := HB2.out; simp [World.frozen?, q] }
  have f5 : W1.frozen? ⟨gb, 5, none⟩ = false := by { have q := HB2.out; simp [World.frozen?, q] }
  have f6 : W1.frozen? ⟨gb, 6, none⟩ = false := by { have q := HB2.out; simp [World.frozen?, q] }
  have zb : gb < W1.heap.size := lt_of_block HB2.out
  go_wp2
  have e7 := cells7 (set7 (a0 := .int .u64 0) (a1 := .int .i64 0) (a2 := .int .i64 0) (a3 := .int .i64 0) (a4 := .int .i64 0) (a5 := .int .i64 0) (a6 := .int .u64 0) HB2.out)
  have m7 : Moves (fun k => k = gb) W1 (((((((W1.setCell ⟨gb, 0, none⟩ (.int .u64 0)).setCell ⟨gb, 1, none⟩ (.int .i64 0)).setCell ⟨gb, 2, none⟩ (.int .i64 0)).setCell ⟨gb, 3, none⟩ (.int .i64 0)).setCell ⟨gb, 4, none⟩ (.int .i64 0)).setCell ⟨gb, 5, none⟩ (.int .i64 0)).setCell ⟨gb, 6, none⟩ (.int .u64 0)) := Moves.setCell (p := ⟨gb, 6, none⟩) (Moves.setCell (p := ⟨gb, 5, none⟩) (Moves.setCell (p := ⟨gb, 4, none⟩) (Moves.setCell (p := ⟨gb, 3, none⟩) (Moves.setCell (p := ⟨gb, 2, none⟩) (Moves.setCell (p := ⟨gb, 1, none⟩) (Moves.setCell (p := ⟨gb, 0, none⟩) (Moves.refl (fun k => k = gb) W1) (fun _ => rfl) (.int .u64 0)) (fun _ => rfl) (.int .i64 0)) (fun _ => rfl) (.int .i64 0)) (fun _ => rfl) (.int .i64 0)) (fun _ => rfl) (.int .i64 0)) (fun _ => rfl) (.int .i64 0)) (fun _ => rfl) (.int .u64 0)
  have hm : Moves (fun _ => False) w (((((((W1.setCell ⟨gb, 0, none⟩ (.int .u64 0)).setCell ⟨gb, 1, none⟩ (.int .i64 0)).setCell ⟨gb, 2, none⟩ (.int .i64 0)).setCell ⟨gb, 3, none⟩ (.int .i64 0)).setCell ⟨gb, 4, none⟩ (.int .i64 0)).setCell ⟨gb, 5, none⟩ (.int .i64 0)).setCell ⟨gb, 6, none⟩ (.int .u64 0)) := M1.out.andThen m7 (fun k e hk => by have := HGB.out; omega)
  clear m7 y0 y1 y2 y3 y4 y5 y6 f0 f1 f2 f3 f4 f5 f6
  generalize (((((((W1.setCell ⟨gb, 0, none⟩ (.int .u64 0)).setCell ⟨gb, 1, none⟩ (.int .i64 0)).setCell ⟨gb, 2, none⟩ (.int .i64 0)).setCell ⟨gb, 3, none⟩ (.int .i64 0)).setCell ⟨gb, 4, none⟩ (.int .i64 0)).setCell ⟨gb, 5, none⟩ (.int .i64 0)).setCell ⟨gb, 6, none⟩ (.int .u64 0)) = Y at e7 hm ⊢
  obtain ⟨e0, e1, e2, e3, e4, e5, e6⟩ := e7
  exact bodyPost_ret (v := .tuple #[blkV zeroB, .int .i64 2]) (by simp [results, Try.results15, go_sem, e0, e1, e2, e3, e4, e5, e6, zeroB]) rfl ⟨rfl, hm⟩
set_option maxRecDepth 100000 in
set_option maxHeartbeats 4000000 in
theorem read_first {w : World} {d : Nat} {a b : Blk} (hb : ∀ W, Moves (fun _ => False) w W → Calls Try.prog 16 #[.pointer (some ⟨d, 0, none⟩)] W (fun e w' => e = .returned (.tuple #[.agg (cells14 a b), .agg #[.bool true, .bool false], .int .i64 0]) ∧ Moves (fun _ => False) W w')) : Calls Try.prog 15 #[.pointer (some ⟨d, 0, none⟩)] w (fun e w' => e = .returned (.tuple #[blkV a, .int .i64 0]) ∧ Moves (fun _ => False) w w') := by
  have HB := Lib.hid hb
  have M0 := Lib.hid ((Moves.refl (fun _ => False) w).alloc (.cells #[.int .u64 0, .int .i64 0, .int .i64 0, .int .i64 0, .int .i64 0, .int .i64 0, .int .u64 0] 32))
  have hb0 := heap_alloc_new w (.cells #[.int .u64 0, .int .i64 0, .int .i64 0, .int .i64 0, .int .i64 0, .int .i64 0, .int .u64 0] 32)
  clear hb
  go_enter Try.func15, Try.ntmps15
  go_wp2_with fail
  generalize w.alloc (.cells #[.int .u64 0, .int .i64 0, .int .i64 0, .int .i64 0, .int .i64 0, .int .i64 0, .int .u64 0] 32) = W0 at M0 hb0 ⊢
  obtain ⟨gb, hgb⟩ : ∃ gb, gb = w.heap.size := ⟨_, rfl⟩
  rw [← hgb] at hb0 ⊢
  have HGB := Lib.hid hgb
  clear hgb
  refine (HB.out W0 M0.out).mono ?_
  rintro e w1 ⟨rfl, hm1⟩
  have hb1 := (hm1.block _ (lt_of_block hb0) (fun e => e)).trans hb0
  have M1 := Lib.hid (((M0.out.trans hm1).alloc (.cells (cells14 a b) 35)).alloc (.cells #[.bool true, .bool false] 36))
  have hb2 : ((w1.alloc (.cells (cells14 a b) 35)).alloc (.cells #[.bool true, .bool false] 36)).heap[gb]? = some (.cells #[.int .u64 0, .int .i64 0, .int .i64 0, .int .i64 0, .int .i64 0, .int .i64 0, .int .u64 0] 32 (0, 0)) := (Below.heap_alloc _ _ _ (by have := lt_of_block hb1; simp; omega)).trans ((Below.heap_alloc _ _ _ (lt_of_block hb1)).trans hb1)
  have hl2 : ((w1.alloc (.cells (cells14 a b) 35)).alloc (.cells #[.bool true, .bool false] 36)).heap[w1.heap.size]? = some (.cells (cells14 a b) 35 (0, 0)) := (Below.heap_alloc _ _ _ (by simp)).trans (alloc_at rfl)
  have ho2 : ((w1.alloc (.cells (cells14 a b) 35)).alloc (.cells #[.bool true, .bool false] 36)).heap[w1.heap.size + 1]? = some (.cells #[.bool true, .bool false] 36 (0, 0)) := alloc_at (by simp)
  have HB2 := Lib.hid hb2
  have HL2 := Lib.hid hl2
  have HO2 := Lib.hid ho2
  clear hm1 hb0 hb1 hb2 hl2 ho2
  go_upto_region 2 with (fail)
  generalize (w1.alloc (.cells (cells14 a b) 35)).alloc (.cells #[.bool true, .bool false] 36) = W1 at M1 HB2 HL2 HO2 ⊢
  generalize w1.heap.size = gl at HL2 HO2 ⊢
  have n0 := (cells14_at HL2.out 0 _ rfl).1
  have n1 := (cells14_at HL2.out 1 _ rfl).1
  have n2 := (cells14_at HL2.out 2 _ rfl).1
  have n3 := (cells14_at HL2.out 3 _ rfl).1
  have n4 := (cells14_at HL2.out 4 _ rfl).1
  have n5 := (cells14_at HL2.out 5 _ rfl).1
  have n6 := (cells14_at HL2.out 6 _ rfl).1
  have n7 := (cells14_at HL2.out 7 _ rfl).1
  have n8 := (cells14_at HL2.out 8 _ rfl).1
  have n9 := (cells14_at HL2.out 9 _ rfl).1
  have n10 := (cells14_at HL2.out 10 _ rfl).1
  have n11 := (cells14_at HL2.out 11 _ rfl).1
  have n12 := (cells14_at HL2.out 12 _ rfl).1
  have n13 := (cells14_at HL2.out 13 _ rfl).1
  have o0 : W1.cell? ⟨gl + 1, 0, none⟩ = some (.bool true) := by { have q := HO2.out; simp [World.cell?, q] }
  have o1 : W1.cell? ⟨gl + 1, 1, none⟩ = some (.bool false) := by { have q := HO2.out; simp [World.cell?, q] }
  obtain ⟨y0, y1, y2, y3, y4, y5, y6⟩ := cells7 HB2.out
  have f0 : W1.frozen? ⟨gb, 0, none⟩ = false := by { have q := HB2.out; simp [World.frozen?, q] }
  have f1 : W1.frozen? ⟨gb, 1, none⟩ = false := by { have q := HB2.out; simp [World.frozen?, q] }
  have f2 : W1.frozen? ⟨gb, 2, none⟩ = false := by { have q := HB2.out; simp [World.frozen?, q] }
  have f3 : W1.frozen? ⟨gb, 3, none⟩ = false := by { have q := HB2.out; simp [World.frozen?, q] }
  have f4 : W1.frozen? ⟨gb, 4, none⟩ = false := by { have q := HB2.out; simp [World.frozen?, q] }
  have f5 : W1.frozen? ⟨gb, 5, none⟩ = false := by { have q := HB2.out; simp [World.frozen?, q] }
  have f6 : W1.frozen? ⟨gb, 6, none⟩ = false := by { have q := HB2.out; simp [World.frozen?, q] }
  have zb : gb < W1.heap.size := lt_of_block HB2.out
  go_wp2
  have e7 := cells7 (set7 (a0 := .int .u64 a.epoch) (a1 := .int .i64 a.geom.sector) (a2 := .int .i64 a.geom.log) (a3 := .int .i64 a.geom.words) (a4 := .int .i64 a.space) (a5 := .int .i64 a.words) (a6 := .int .u64 a.log) HB2.out)
  have m7 : Moves (fun k => k = gb) W1 (((((((W1.setCell ⟨gb, 0, none⟩ (.int .u64 a.epoch)).setCell ⟨gb, 1, none⟩ (.int .i64 a.geom.sector)).setCell ⟨gb, 2, none⟩ (.int .i64 a.geom.log)).setCell ⟨gb, 3, none⟩ (.int .i64 a.geom.words)).setCell ⟨gb, 4, none⟩ (.int .i64 a.space)).setCell ⟨gb, 5, none⟩ (.int .i64 a.words)).setCell ⟨gb, 6, none⟩ (.int .u64 a.log)) := Moves.setCell (p := ⟨gb, 6, none⟩) (Moves.setCell (p := ⟨gb, 5, none⟩) (Moves.setCell (p := ⟨gb, 4, none⟩) (Moves.setCell (p := ⟨gb, 3, none⟩) (Moves.setCell (p := ⟨gb, 2, none⟩) (Moves.setCell (p := ⟨gb, 1, none⟩) (Moves.setCell (p := ⟨gb, 0, none⟩) (Moves.refl (fun k => k = gb) W1) (fun _ => rfl) (.int .u64 a.epoch)) (fun _ => rfl) (.int .i64 a.geom.sector)) (fun _ => rfl) (.int .i64 a.geom.log)) (fun _ => rfl) (.int .i64 a.geom.words)) (fun _ => rfl) (.int .i64 a.space)) (fun _ => rfl) (.int .i64 a.words)) (fun _ => rfl) (.int .u64 a.log)
  have hm : Moves (fun _ => False) w (((((((W1.setCell ⟨gb, 0, none⟩ (.int .u64 a.epoch)).setCell ⟨gb, 1, none⟩ (.int .i64 a.geom.sector)).setCell ⟨gb, 2, none⟩ (.int .i64 a.geom.log)).setCell ⟨gb, 3, none⟩ (.int .i64 a.geom.words)).setCell ⟨gb, 4, none⟩ (.int .i64 a.space)).setCell ⟨gb, 5, none⟩ (.int .i64 a.words)).setCell ⟨gb, 6, none⟩ (.int .u64 a.log)) := M1.out.andThen m7 (fun k e hk => by have := HGB.out; omega)
  clear m7 y0 y1 y2 y3 y4 y5 y6 f0 f1 f2 f3 f4 f5 f6
  generalize (((((((W1.setCell ⟨gb, 0, none⟩ (.int .u64 a.epoch)).setCell ⟨gb, 1, none⟩ (.int .i64 a.geom.sector)).setCell ⟨gb, 2, none⟩ (.int .i64 a.geom.log)).setCell ⟨gb, 3, none⟩ (.int .i64 a.geom.words)).setCell ⟨gb, 4, none⟩ (.int .i64 a.space)).setCell ⟨gb, 5, none⟩ (.int .i64 a.words)).setCell ⟨gb, 6, none⟩ (.int .u64 a.log)) = Y at e7 hm ⊢
  obtain ⟨e0, e1, e2, e3, e4, e5, e6⟩ := e7
  exact bodyPost_ret (v := .tuple #[blkV a, .int .i64 0]) (by simp [results, Try.results15, go_sem, e0, e1, e2, e3, e4, e5, e6]) rfl ⟨rfl, hm⟩
set_option maxRecDepth 100000 in
set_option maxHeartbeats 4000000 in
theorem read_second {w : World} {d : Nat} {a b : Blk} (hb : ∀ W, Moves (fun _ => False) w W → Calls Try.prog 16 #[.pointer (some ⟨d, 0, none⟩)] W (fun e w' => e = .returned (.tuple #[.agg (cells14 a b), .agg #[.bool false, .bool true], .int .i64 0]) ∧ Moves (fun _ => False) W w')) : Calls Try.prog 15 #[.pointer (some ⟨d, 0, none⟩)] w (fun e w' => e = .returned (.tuple #[blkV b, .int .i64 0]) ∧ Moves (fun _ => False) w w') := by
  have HB := Lib.hid hb
  have M0 := Lib.hid ((Moves.refl (fun _ => False) w).alloc (.cells #[.int .u64 0, .int .i64 0, .int .i64 0, .int .i64 0, .int .i64 0, .int .i64 0, .int .u64 0] 32))
  have hb0 := heap_alloc_new w (.cells #[.int .u64 0, .int .i64 0, .int .i64 0, .int .i64 0, .int .i64 0, .int .i64 0, .int .u64 0] 32)
  clear hb
  go_enter Try.func15, Try.ntmps15
  go_wp2_with fail
  generalize w.alloc (.cells #[.int .u64 0, .int .i64 0, .int .i64 0, .int .i64 0, .int .i64 0, .int .i64 0, .int .u64 0] 32) = W0 at M0 hb0 ⊢
  obtain ⟨gb, hgb⟩ : ∃ gb, gb = w.heap.size := ⟨_, rfl⟩
  rw [← hgb] at hb0 ⊢
  have HGB := Lib.hid hgb
  clear hgb
  refine (HB.out W0 M0.out).mono ?_
  rintro e w1 ⟨rfl, hm1⟩
  have hb1 := (hm1.block _ (lt_of_block hb0) (fun e => e)).trans hb0
  have M1 := Lib.hid (((M0.out.trans hm1).alloc (.cells (cells14 a b) 35)).alloc (.cells #[.bool false, .bool true] 36))
  have hb2 : ((w1.alloc (.cells (cells14 a b) 35)).alloc (.cells #[.bool false, .bool true] 36)).heap[gb]? = some (.cells #[.int .u64 0, .int .i64 0, .int .i64 0, .int .i64 0, .int .i64 0, .int .i64 0, .int .u64 0] 32 (0, 0)) := (Below.heap_alloc _ _ _ (by have := lt_of_block hb1; simp; omega)).trans ((Below.heap_alloc _ _ _ (lt_of_block hb1)).trans hb1)
  have hl2 : ((w1.alloc (.cells (cells14 a b) 35)).alloc (.cells #[.bool false, .bool true] 36)).heap[w1.heap.size]? = some (.cells (cells14 a b) 35 (0, 0)) := (Below.heap_alloc _ _ _ (by simp)).trans (alloc_at rfl)
  have ho2 : ((w1.alloc (.cells (cells14 a b) 35)).alloc (.cells #[.bool false, .bool true] 36)).heap[w1.heap.size + 1]? = some (.cells #[.bool false, .bool true] 36 (0, 0)) := alloc_at (by simp)
  have HB2 := Lib.hid hb2
  have HL2 := Lib.hid hl2
  have HO2 := Lib.hid ho2
  clear hm1 hb0 hb1 hb2 hl2 ho2
  go_upto_region 2 with (fail)
  generalize (w1.alloc (.cells (cells14 a b) 35)).alloc (.cells #[.bool false, .bool true] 36) = W1 at M1 HB2 HL2 HO2 ⊢
  generalize w1.heap.size = gl at HL2 HO2 ⊢
  have n0 := (cells14_at HL2.out 0 _ rfl).1
  have n1 := (cells14_at HL2.out 1 _ rfl).1
  have n2 := (cells14_at HL2.out 2 _ rfl).1
  have n3 := (cells14_at HL2.out 3 _ rfl).1
  have n4 := (cells14_at HL2.out 4 _ rfl).1
  have n5 := (cells14_at HL2.out 5 _ rfl).1
  have n6 := (cells14_at HL2.out 6 _ rfl).1
  have n7 := (cells14_at HL2.out 7 _ rfl).1
  have n8 := (cells14_at HL2.out 8 _ rfl).1
  have n9 := (cells14_at HL2.out 9 _ rfl).1
  have n10 := (cells14_at HL2.out 10 _ rfl).1
  have n11 := (cells14_at HL2.out 11 _ rfl).1
  have n12 := (cells14_at HL2.out 12 _ rfl).1
  have n13 := (cells14_at HL2.out 13 _ rfl).1
  have o0 : W1.cell? ⟨gl + 1, 0, none⟩ = some (.bool false) := by { have q := HO2.out; simp [World.cell?, q] }
  have o1 : W1.cell? ⟨gl + 1, 1, none⟩ = some (.bool true) := by { have q := HO2.out; simp [World.cell?, q] }
  obtain ⟨y0, y1, y2, y3, y4, y5, y6⟩ := cells7 HB2.out
  have f0 : W1.frozen? ⟨gb, 0, none⟩ = false := by { have q := HB2.out; simp [World.frozen?, q] }
  have f1 : W1.frozen? ⟨gb, 1, none⟩ = false := by { have q := HB2.out; simp [World.frozen?, q] }
  have f2 : W1.frozen? ⟨gb, 2, none⟩ = false := by { have q := HB2.out; simp [World.frozen?, q] }
  have f3 : W1.frozen? ⟨gb, 3, none⟩ = false := by { have q := HB2.out; simp [World.frozen?, q] }
  have f4 : W1.frozen? ⟨gb, 4, none⟩ = false := by { have q := HB2.out; simp [World.frozen?, q] }
  have f5 : W1.frozen? ⟨gb, 5, none⟩ = false := by { have q := HB2.out; simp [World.frozen?, q] }
  have f6 : W1.frozen? ⟨gb, 6, none⟩ = false := by { have q := HB2.out; simp [World.frozen?, q] }
  have zb : gb < W1.heap.size := lt_of_block HB2.out
  go_wp2
  have e7 := cells7 (set7 (a0 := .int .u64 b.epoch) (a1 := .int .i64 b.geom.sector) (a2 := .int .i64 b.geom.log) (a3 := .int .i64 b.geom.words) (a4 := .int .i64 b.space) (a5 := .int .i64 b.words) (a6 := .int .u64 b.log) HB2.out)
  have m7 : Moves (fun k => k = gb) W1 (((((((W1.setCell ⟨gb, 0, none⟩ (.int .u64 b.epoch)).setCell ⟨gb, 1, none⟩ (.int .i64 b.geom.sector)).setCell ⟨gb, 2, none⟩ (.int .i64 b.geom.log)).setCell ⟨gb, 3, none⟩ (.int .i64 b.geom.words)).setCell ⟨gb, 4, none⟩ (.int .i64 b.space)).setCell ⟨gb, 5, none⟩ (.int .i64 b.words)).setCell ⟨gb, 6, none⟩ (.int .u64 b.log)) := Moves.setCell (p := ⟨gb, 6, none⟩) (Moves.setCell (p := ⟨gb, 5, none⟩) (Moves.setCell (p := ⟨gb, 4, none⟩) (Moves.setCell (p := ⟨gb, 3, none⟩) (Moves.setCell (p := ⟨gb, 2, none⟩) (Moves.setCell (p := ⟨gb, 1, none⟩) (Moves.setCell (p := ⟨gb, 0, none⟩) (Moves.refl (fun k => k = gb) W1) (fun _ => rfl) (.int .u64 b.epoch)) (fun _ => rfl) (.int .i64 b.geom.sector)) (fun _ => rfl) (.int .i64 b.geom.log)) (fun _ => rfl) (.int .i64 b.geom.words)) (fun _ => rfl) (.int .i64 b.space)) (fun _ => rfl) (.int .i64 b.words)) (fun _ => rfl) (.int .u64 b.log)
  have hm : Moves (fun _ => False) w (((((((W1.setCell ⟨gb, 0, none⟩ (.int .u64 b.epoch)).setCell ⟨gb, 1, none⟩ (.int .i64 b.geom.sector)).setCell ⟨gb, 2, none⟩ (.int .i64 b.geom.log)).setCell ⟨gb, 3, none⟩ (.int .i64 b.geom.words)).setCell ⟨gb, 4, none⟩ (.int .i64 b.space)).setCell ⟨gb, 5, none⟩ (.int .i64 b.words)).setCell ⟨gb, 6, none⟩ (.int .u64 b.log)) := M1.out.andThen m7 (fun k e hk => by have := HGB.out; omega)
  clear m7 y0 y1 y2 y3 y4 y5 y6 f0 f1 f2 f3 f4 f5 f6
  generalize (((((((W1.setCell ⟨gb, 0, none⟩ (.int .u64 b.epoch)).setCell ⟨gb, 1, none⟩ (.int .i64 b.geom.sector)).setCell ⟨gb, 2, none⟩ (.int .i64 b.geom.log)).setCell ⟨gb, 3, none⟩ (.int .i64 b.geom.words)).setCell ⟨gb, 4, none⟩ (.int .i64 b.space)).setCell ⟨gb, 5, none⟩ (.int .i64 b.words)).setCell ⟨gb, 6, none⟩ (.int .u64 b.log)) = Y at e7 hm ⊢
  obtain ⟨e0, e1, e2, e3, e4, e5, e6⟩ := e7
  exact bodyPost_ret (v := .tuple #[blkV b, .int .i64 0]) (by simp [results, Try.results15, go_sem, e0, e1, e2, e3, e4, e5, e6]) rfl ⟨rfl, hm⟩
set_option maxRecDepth 100000 in
set_option maxHeartbeats 4000000 in
theorem read_newer {w : World} {d : Nat} {a b : Blk} (hn : decide (b.epoch < a.epoch) = true) (hb : ∀ W, Moves (fun _ => False) w W → Calls Try.prog 16 #[.pointer (some ⟨d, 0, none⟩)] W (fun e w' => e = .returned (.tuple #[.agg (cells14 a b), .agg #[.bool true, .bool true], .int .i64 0]) ∧ Moves (fun _ => False) W w')) : Calls Try.prog 15 #[.pointer (some ⟨d, 0, none⟩)] w (fun e w' => e = .returned (.tuple #[blkV a, .int .i64 0]) ∧ Moves (fun _ => False) w w') := by
  have HB := Lib.hid hb
  have M0 := Lib.hid ((Moves.refl (fun _ => False) w).alloc (.cells #[.int .u64 0, .int .i64 0, .int .i64 0, .int .i64 0, .int .i64 0, .int .i64 0, .int .u64 0] 32))
  have hb0 := heap_alloc_new w (.cells #[.int .u64 0, .int .i64 0, .int .i64 0, .int .i64 0, .int .i64 0, .int .i64 0, .int .u64 0] 32)
  have HN := Lib.hid (fun W => newer_any a b W)
  rw [hn] at HN
  clear hn
  clear hb
  go_enter Try.func15, Try.ntmps15
  go_wp2_with fail
  generalize w.alloc (.cells #[.int .u64 0, .int .i64 0, .int .i64 0, .int .i64 0, .int .i64 0, .int .i64 0, .int .u64 0] 32) = W0 at M0 hb0 ⊢
  obtain ⟨gb, hgb⟩ : ∃ gb, gb = w.heap.size := ⟨_, rfl⟩
  rw [← hgb] at hb0 ⊢
  have HGB := Lib.hid hgb
  clear hgb
  refine (HB.out W0 M0.out).mono ?_
  rintro e w1 ⟨rfl, hm1⟩
  have hb1 := (hm1.block _ (lt_of_block hb0) (fun e => e)).trans hb0
  have M1 := Lib.hid (((M0.out.trans hm1).alloc (.cells (cells14 a b) 35)).alloc (.cells #[.bool true, .bool true] 36))
  have hb2 : ((w1.alloc (.cells (cells14 a b) 35)).alloc (.cells #[.bool true, .bool true] 36)).heap[gb]? = some (.cells #[.int .u64 0, .int .i64 0, .int .i64 0, .int .i64 0, .int .i64 0, .int .i64 0, .int .u64 0] 32 (0, 0)) := (Below.heap_alloc _ _ _ (by have := lt_of_block hb1; simp; omega)).trans ((Below.heap_alloc _ _ _ (lt_of_block hb1)).trans hb1)
  have hl2 : ((w1.alloc (.cells (cells14 a b) 35)).alloc (.cells #[.bool true, .bool true] 36)).heap[w1.heap.size]? = some (.cells (cells14 a b) 35 (0, 0)) := (Below.heap_alloc _ _ _ (by simp)).trans (alloc_at rfl)
  have ho2 : ((w1.alloc (.cells (cells14 a b) 35)).alloc (.cells #[.bool true, .bool true] 36)).heap[w1.heap.size + 1]? = some (.cells #[.bool true, .bool true] 36 (0, 0)) := alloc_at (by simp)
  have HB2 := Lib.hid hb2
  have HL2 := Lib.hid hl2
  have HO2 := Lib.hid ho2
  clear hm1 hb0 hb1 hb2 hl2 ho2
  go_upto_region 2 with (fail)
  generalize (w1.alloc (.cells (cells14 a b) 35)).alloc (.cells #[.bool true, .bool true] 36) = W1 at M1 HB2 HL2 HO2 ⊢
  generalize w1.heap.size = gl at HL2 HO2 ⊢
  have n0 := (cells14_at HL2.out 0 _ rfl).1
  have n1 := (cells14_at HL2.out 1 _ rfl).1
  have n2 := (cells14_at HL2.out 2 _ rfl).1
  have n3 := (cells14_at HL2.out 3 _ rfl).1
  have n4 := (cells14_at HL2.out 4 _ rfl).1
  have n5 := (cells14_at HL2.out 5 _ rfl).1
  have n6 := (cells14_at HL2.out 6 _ rfl).1
  have n7 := (cells14_at HL2.out 7 _ rfl).1
  have n8 := (cells14_at HL2.out 8 _ rfl).1
  have n9 := (cells14_at HL2.out 9 _ rfl).1
  have n10 := (cells14_at HL2.out 10 _ rfl).1
  have n11 := (cells14_at HL2.out 11 _ rfl).1
  have n12 := (cells14_at HL2.out 12 _ rfl).1
  have n13 := (cells14_at HL2.out 13 _ rfl).1
  have o0 : W1.cell? ⟨gl + 1, 0, none⟩ = some (.bool true) := by { have q := HO2.out; simp [World.cell?, q] }
  have o1 : W1.cell? ⟨gl + 1, 1, none⟩ = some (.bool true) := by { have q := HO2.out; simp [World.cell?, q] }
  obtain ⟨y0, y1, y2, y3, y4, y5, y6⟩ := cells7 HB2.out
  have f0 : W1.frozen? ⟨gb, 0, none⟩ = false := by { have q := HB2.out; simp [World.frozen?, q] }
  have f1 : W1.frozen? ⟨gb, 1, none⟩ = false := by { have q := HB2.out; simp [World.frozen?, q] }
  have f2 : W1.frozen? ⟨gb, 2, none⟩ = false := by { have q := HB2.out; simp [World.frozen?, q] }
  have f3 : W1.frozen? ⟨gb, 3, none⟩ = false := by { have q := HB2.out; simp [World.frozen?, q] }
  have f4 : W1.frozen? ⟨gb, 4, none⟩ = false := by { have q := HB2.out; simp [World.frozen?, q] }
  have f5 : W1.frozen? ⟨gb, 5, none⟩ = false := by { have q := HB2.out; simp [World.frozen?, q] }
  have f6 : W1.frozen? ⟨gb, 6, none⟩ = false := by { have q := HB2.out; simp [World.frozen?, q] }
  have zb : gb < W1.heap.size := lt_of_block HB2.out
  go_wp2_with fail
  refine (HN.out _).mono ?_
  rintro e w2 ⟨rfl, hm2⟩
  clear n0 n1 n2 n3 n4 n5 n6 n7 n8 n9 n10 n11 n12 n13 y0 y1 y2 y3 y4 y5 y6 f0 f1 f2 f3 f4 f5 f6 zb o0 o1
  have HB3 := Lib.hid ((hm2.block _ (lt_of_block HB2.out) (fun e => e)).trans HB2.out)
  have HL3 := Lib.hid ((hm2.block _ (lt_of_block HL2.out) (fun e => e)).trans HL2.out)
  have HO3 := Lib.hid ((hm2.block _ (lt_of_block HO2.out) (fun e => e)).trans HO2.out)
  have M2 := Lib.hid (M1.out.trans hm2)
  clear hm2
  have n0 := (cells14_at HL3.out 0 _ rfl).1
  have n1 := (cells14_at HL3.out 1 _ rfl).1
  have n2 := (cells14_at HL3.out 2 _ rfl).1
  have n3 := (cells14_at HL3.out 3 _ rfl).1
  have n4 := (cells14_at HL3.out 4 _ rfl).1
  have n5 := (cells14_at HL3.out 5 _ rfl).1
  have n6 := (cells14_at HL3.out 6 _ rfl).1
  have n7 := (cells14_at HL3.out 7 _ rfl).1
  have n8 := (cells14_at HL3.out 8 _ rfl).1
  have n9 := (cells14_at HL3.out 9 _ rfl).1
  have n10 := (cells14_at HL3.out 10 _ rfl).1
  have n11 := (cells14_at HL3.out 11 _ rfl).1
  have n12 := (cells14_at HL3.out 12 _ rfl).1
  have n13 := (cells14_at HL3.out 13 _ rfl).1
  have o0 : w2.cell? ⟨gl + 1, 0, none⟩ = some (.bool true) := by { have q := HO3.out; simp [World.cell?, q] }
  have o1 : w2.cell? ⟨gl + 1, 1, none⟩ = some (.bool true) := by { have q := HO3.out; simp [World.cell?, q] }
  obtain ⟨y0, y1, y2, y3, y4, y5, y6⟩ := cells7 HB3.out
  have f0 : w2.frozen? ⟨gb, 0, none⟩ = false := by { have q := HB3.out; simp [World.frozen?, q] }
  have f1 : w2.frozen? ⟨gb, 1, none⟩ = false := by { have q := HB3.out; simp [World.frozen?, q] }
  have f2 : w2.frozen? ⟨gb, 2, none⟩ = false := by { have q := HB3.out; simp [World.frozen?, q] }
  have f3 : w2.frozen? ⟨gb, 3, none⟩ = false := by { have q := HB3.out; simp [World.frozen?, q] }
  have f4 : w2.frozen? ⟨gb, 4, none⟩ = false := by { have q := HB3.out; simp [World.frozen?, q] }
  have f5 : w2.frozen? ⟨gb, 5, none⟩ = false := by { have q := HB3.out; simp [World.frozen?, q] }
  have f6 : w2.frozen? ⟨gb, 6, none⟩ = false := by { have q := HB3.out; simp [World.frozen?, q] }
  have zb : gb < w2.heap.size := lt_of_block HB3.out
  go_wp2
  have e7 := cells7 (set7 (a0 := .int .u64 a.epoch) (a1 := .int .i64 a.geom.sector) (a2 := .int .i64 a.geom.log) (a3 := .int .i64 a.geom.words) (a4 := .int .i64 a.space) (a5 := .int .i64 a.words) (a6 := .int .u64 a.log) HB3.out)
  have m7 : Moves (fun k => k = gb) w2 (((((((w2.setCell ⟨gb, 0, none⟩ (.int .u64 a.epoch)).setCell ⟨gb, 1, none⟩ (.int .i64 a.geom.sector)).setCell ⟨gb, 2, none⟩ (.int .i64 a.geom.log)).setCell ⟨gb, 3, none⟩ (.int .i64 a.geom.words)).setCell ⟨gb, 4, none⟩ (.int .i64 a.space)).setCell ⟨gb, 5, none⟩ (.int .i64 a.words)).setCell ⟨gb, 6, none⟩ (.int .u64 a.log)) := Moves.setCell (p := ⟨gb, 6, none⟩) (Moves.setCell (p := ⟨gb, 5, none⟩) (Moves.setCell (p := ⟨gb, 4, none⟩) (Moves.setCell (p := ⟨gb, 3, none⟩) (Moves.setCell (p := ⟨gb, 2, none⟩) (Moves.setCell (p := ⟨gb, 1, none⟩) (Moves.setCell (p := ⟨gb, 0, none⟩) (Moves.refl (fun k => k = gb) w2) (fun _ => rfl) (.int .u64 a.epoch)) (fun _ => rfl) (.int .i64 a.geom.sector)) (fun _ => rfl) (.int .i64 a.geom.log)) (fun _ => rfl) (.int .i64 a.geom.words)) (fun _ => rfl) (.int .i64 a.space)) (fun _ => rfl) (.int .i64 a.words)) (fun _ => rfl) (.int .u64 a.log)
  have hm : Moves (fun _ => False) w (((((((w2.setCell ⟨gb, 0, none⟩ (.int .u64 a.epoch)).setCell ⟨gb, 1, none⟩ (.int .i64 a.geom.sector)).setCell ⟨gb, 2, none⟩ (.int .i64 a.geom.log)).setCell ⟨gb, 3, none⟩ (.int .i64 a.geom.words)).setCell ⟨gb, 4, none⟩ (.int .i64 a.space)).setCell ⟨gb, 5, none⟩ (.int .i64 a.words)).setCell ⟨gb, 6, none⟩ (.int .u64 a.log)) := M2.out.andThen m7 (fun k e hk => by have := HGB.out; omega)
  clear m7 y0 y1 y2 y3 y4 y5 y6 f0 f1 f2 f3 f4 f5 f6
  generalize (((((((w2.setCell ⟨gb, 0, none⟩ (.int .u64 a.epoch)).setCell ⟨gb, 1, none⟩ (.int .i64 a.geom.sector)).setCell ⟨gb, 2, none⟩ (.int .i64 a.geom.log)).setCell ⟨gb, 3, none⟩ (.int .i64 a.geom.words)).setCell ⟨gb, 4, none⟩ (.int .i64 a.space)).setCell ⟨gb, 5, none⟩ (.int .i64 a.words)).setCell ⟨gb, 6, none⟩ (.int .u64 a.log)) = Y at e7 hm ⊢
  obtain ⟨e0, e1, e2, e3, e4, e5, e6⟩ := e7
  exact bodyPost_ret (v := .tuple #[blkV a, .int .i64 0]) (by simp [results, Try.results15, go_sem, e0, e1, e2, e3, e4, e5, e6]) rfl ⟨rfl, hm⟩
set_option maxRecDepth 100000 in
set_option maxHeartbeats 4000000 in
theorem read_older {w : World} {d : Nat} {a b : Blk} (hn : decide (b.epoch < a.epoch) = false) (hb : ∀ W, Moves (fun _ => False) w W → Calls Try.prog 16 #[.pointer (some ⟨d, 0, none⟩)] W (fun e w' => e = .returned (.tuple #[.agg (cells14 a b), .agg #[.bool true, .bool true], .int .i64 0]) ∧ Moves (fun _ => False) W w')) : Calls Try.prog 15 #[.pointer (some ⟨d, 0, none⟩)] w (fun e w' => e = .returned (.tuple #[blkV b, .int .i64 0]) ∧ Moves (fun _ => False) w w') := by
  have HB := Lib.hid hb
  have M0 := Lib.hid ((Moves.refl (fun _ => False) w).alloc (.cells #[.int .u64 0, .int .i64 0, .int .i64 0, .int .i64 0, .int .i64 0, .int .i64 0, .int .u64 0] 32))
  have hb0 := heap_alloc_new w (.cells #[.int .u64 0, .int .i64 0, .int .i64 0, .int .i64 0, .int .i64 0, .int .i64 0, .int .u64 0] 32)
  have HN := Lib.hid (fun W => newer_any a b W)
  rw [hn] at HN
  clear hn
  clear hb
  go_enter Try.func15, Try.ntmps15
  go_wp2_with fail
  generalize w.alloc (.cells #[.int .u64 0, .int .i64 0, .int .i64 0, .int .i64 0, .int .i64 0, .int .i64 0, .int .u64 0] 32) = W0 at M0 hb0 ⊢
  obtain ⟨gb, hgb⟩ : ∃ gb, gb = w.heap.size := ⟨_, rfl⟩
  rw [← hgb] at hb0 ⊢
  have HGB := Lib.hid hgb
  clear hgb
  refine (HB.out W0 M0.out).mono ?_
  rintro e w1 ⟨rfl, hm1⟩
  have hb1 := (hm1.block _ (lt_of_block hb0) (fun e => e)).trans hb0
  have M1 := Lib.hid (((M0.out.trans hm1).alloc (.cells (cells14 a b) 35)).alloc (.cells #[.bool true, .bool true] 36))
  have hb2 : ((w1.alloc (.cells (cells14 a b) 35)).alloc (.cells #[.bool true, .bool true] 36)).heap[gb]? = some (.cells #[.int .u64 0, .int .i64 0, .int .i64 0, .int .i64 0, .int .i64 0, .int .i64 0, .int .u64 0] 32 (0, 0)) := (Below.heap_alloc _ _ _ (by have := lt_of_block hb1; simp; omega)).trans ((Below.heap_alloc _ _ _ (lt_of_block hb1)).trans hb1)
  have hl2 : ((w1.alloc (.cells (cells14 a b) 35)).alloc (.cells #[.bool true, .bool true] 36)).heap[w1.heap.size]? = some (.cells (cells14 a b) 35 (0, 0)) := (Below.heap_alloc _ _ _ (by simp)).trans (alloc_at rfl)
  have ho2 : ((w1.alloc (.cells (cells14 a b) 35)).alloc (.cells #[.bool true, .bool true] 36)).heap[w1.heap.size + 1]? = some (.cells #[.bool true, .bool true] 36 (0, 0)) := alloc_at (by simp)
  have HB2 := Lib.hid hb2
  have HL2 := Lib.hid hl2
  have HO2 := Lib.hid ho2
  clear hm1 hb0 hb1 hb2 hl2 ho2
  go_upto_region 2 with (fail)
  generalize (w1.alloc (.cells (cells14 a b) 35)).alloc (.cells #[.bool true, .bool true] 36) = W1 at M1 HB2 HL2 HO2 ⊢
  generalize w1.heap.size = gl at HL2 HO2 ⊢
  have n0 := (cells14_at HL2.out 0 _ rfl).1
  have n1 := (cells14_at HL2.out 1 _ rfl).1
  have n2 := (cells14_at HL2.out 2 _ rfl).1
  have n3 := (cells14_at HL2.out 3 _ rfl).1
  have n4 := (cells14_at HL2.out 4 _ rfl).1
  have n5 := (cells14_at HL2.out 5 _ rfl).1
  have n6 := (cells14_at HL2.out 6 _ rfl).1
  have n7 := (cells14_at HL2.out 7 _ rfl).1
  have n8 := (cells14_at HL2.out 8 _ rfl).1
  have n9 := (cells14_at HL2.out 9 _ rfl).1
  have n10 := (cells14_at HL2.out 10 _ rfl).1
  have n11 := (cells14_at HL2.out 11 _ rfl).1
  have n12 := (cells14_at HL2.out 12 _ rfl).1
  have n13 := (cells14_at HL2.out 13 _ rfl).1
  have o0 : W1.cell? ⟨gl + 1, 0, none⟩ = some (.bool true) := by { have q := HO2.out; simp [World.cell?, q] }
  have o1 : W1.cell? ⟨gl + 1, 1, none⟩ = some (.bool true) := by { have q := HO2.out; simp [World.cell?, q] }
  obtain ⟨y0, y1, y2, y3, y4, y5, y6⟩ := cells7 HB2.out
  have f0 : W1.frozen? ⟨gb, 0, none⟩ = false := by { have q := HB2.out; simp [World.frozen?, q] }
  have f1 : W1.frozen? ⟨gb, 1, none⟩ = false := by { have q := HB2.out; simp [World.frozen?, q] }
  have f2 : W1.frozen? ⟨gb, 2, none⟩ = false := by { have q := HB2.out; simp [World.frozen?, q] }
  have f3 : W1.frozen? ⟨gb, 3, none⟩ = false := by { have q := HB2.out; simp [World.frozen?, q] }
  have f4 : W1.frozen? ⟨gb, 4, none⟩ = false := by { have q := HB2.out; simp [World.frozen?, q] }
  have f5 : W1.frozen? ⟨gb, 5, none⟩ = false := by { have q := HB2.out; simp [World.frozen?, q] }
  have f6 : W1.frozen? ⟨gb, 6, none⟩ = false := by { have q := HB2.out; simp [World.frozen?, q] }
  have zb : gb < W1.heap.size := lt_of_block HB2.out
  go_wp2_with fail
  refine (HN.out _).mono ?_
  rintro e w2 ⟨rfl, hm2⟩
  clear n0 n1 n2 n3 n4 n5 n6 n7 n8 n9 n10 n11 n12 n13 y0 y1 y2 y3 y4 y5 y6 f0 f1 f2 f3 f4 f5 f6 zb o0 o1
  have HB3 := Lib.hid ((hm2.block _ (lt_of_block HB2.out) (fun e => e)).trans HB2.out)
  have HL3 := Lib.hid ((hm2.block _ (lt_of_block HL2.out) (fun e => e)).trans HL2.out)
  have HO3 := Lib.hid ((hm2.block _ (lt_of_block HO2.out) (fun e => e)).trans HO2.out)
  have M2 := Lib.hid (M1.out.trans hm2)
  clear hm2
  have n0 := (cells14_at HL3.out 0 _ rfl).1
  have n1 := (cells14_at HL3.out 1 _ rfl).1
  have n2 := (cells14_at HL3.out 2 _ rfl).1
  have n3 := (cells14_at HL3.out 3 _ rfl).1
  have n4 := (cells14_at HL3.out 4 _ rfl).1
  have n5 := (cells14_at HL3.out 5 _ rfl).1
  have n6 := (cells14_at HL3.out 6 _ rfl).1
  have n7 := (cells14_at HL3.out 7 _ rfl).1
  have n8 := (cells14_at HL3.out 8 _ rfl).1
  have n9 := (cells14_at HL3.out 9 _ rfl).1
  have n10 := (cells14_at HL3.out 10 _ rfl).1
  have n11 := (cells14_at HL3.out 11 _ rfl).1
  have n12 := (cells14_at HL3.out 12 _ rfl).1
  have n13 := (cells14_at HL3.out 13 _ rfl).1
  have o0 : w2.cell? ⟨gl + 1, 0, none⟩ = some (.bool true) := by { have q := HO3.out; simp [World.cell?, q] }
  have o1 : w2.cell? ⟨gl + 1, 1, none⟩ = some (.bool true) := by { have q := HO3.out; simp [World.cell?, q] }
  obtain ⟨y0, y1, y2, y3, y4, y5, y6⟩ := cells7 HB3.out
  have f0 : w2.frozen? ⟨gb, 0, none⟩ = false := by { have q := HB3.out; simp [World.frozen?, q] }
  have f1 : w2.frozen? ⟨gb, 1, none⟩ = false := by { have q := HB3.out; simp [World.frozen?, q] }
  have f2 : w2.frozen? ⟨gb, 2, none⟩ = false := by { have q := HB3.out; simp [World.frozen?, q] }
  have f3 : w2.frozen? ⟨gb, 3, none⟩ = false := by { have q := HB3.out; simp [World.frozen?, q] }
  have f4 : w2.frozen? ⟨gb, 4, none⟩ = false := by { have q := HB3.out; simp [World.frozen?, q] }
  have f5 : w2.frozen? ⟨gb, 5, none⟩ = false := by { have q := HB3.out; simp [World.frozen?, q] }
  have f6 : w2.frozen? ⟨gb, 6, none⟩ = false := by { have q := HB3.out; simp [World.frozen?, q] }
  have zb : gb < w2.heap.size := lt_of_block HB3.out
  go_wp2
  have e7 := cells7 (set7 (a0 := .int .u64 b.epoch) (a1 := .int .i64 b.geom.sector) (a2 := .int .i64 b.geom.log) (a3 := .int .i64 b.geom.words) (a4 := .int .i64 b.space) (a5 := .int .i64 b.words) (a6 := .int .u64 b.log) HB3.out)
  have m7 : Moves (fun k => k = gb) w2 (((((((w2.setCell ⟨gb, 0, none⟩ (.int .u64 b.epoch)).setCell ⟨gb, 1, none⟩ (.int .i64 b.geom.sector)).setCell ⟨gb, 2, none⟩ (.int .i64 b.geom.log)).setCell ⟨gb, 3, none⟩ (.int .i64 b.geom.words)).setCell ⟨gb, 4, none⟩ (.int .i64 b.space)).setCell ⟨gb, 5, none⟩ (.int .i64 b.words)).setCell ⟨gb, 6, none⟩ (.int .u64 b.log)) := Moves.setCell (p := ⟨gb, 6, none⟩) (Moves.setCell (p := ⟨gb, 5, none⟩) (Moves.setCell (p := ⟨gb, 4, none⟩) (Moves.setCell (p := ⟨gb, 3, none⟩) (Moves.setCell (p := ⟨gb, 2, none⟩) (Moves.setCell (p := ⟨gb, 1, none⟩) (Moves.setCell (p := ⟨gb, 0, none⟩) (Moves.refl (fun k => k = gb) w2) (fun _ => rfl) (.int .u64 b.epoch)) (fun _ => rfl) (.int .i64 b.geom.sector)) (fun _ => rfl) (.int .i64 b.geom.log)) (fun _ => rfl) (.int .i64 b.geom.words)) (fun _ => rfl) (.int .i64 b.space)) (fun _ => rfl) (.int .i64 b.words)) (fun _ => rfl) (.int .u64 b.log)
  have hm : Moves (fun _ => False) w (((((((w2.setCell ⟨gb, 0, none⟩ (.int .u64 b.epoch)).setCell ⟨gb, 1, none⟩ (.int .i64 b.geom.sector)).setCell ⟨gb, 2, none⟩ (.int .i64 b.geom.log)).setCell ⟨gb, 3, none⟩ (.int .i64 b.geom.words)).setCell ⟨gb, 4, none⟩ (.int .i64 b.space)).setCell ⟨gb, 5, none⟩ (.int .i64 b.words)).setCell ⟨gb, 6, none⟩ (.int .u64 b.log)) := M2.out.andThen m7 (fun k e hk => by have := HGB.out; omega)
  clear m7 y0 y1 y2 y3 y4 y5 y6 f0 f1 f2 f3 f4 f5 f6
  generalize (((((((w2.setCell ⟨gb, 0, none⟩ (.int .u64 b.epoch)).setCell ⟨gb, 1, none⟩ (.int .i64 b.geom.sector)).setCell ⟨gb, 2, none⟩ (.int .i64 b.geom.log)).setCell ⟨gb, 3, none⟩ (.int .i64 b.geom.words)).setCell ⟨gb, 4, none⟩ (.int .i64 b.space)).setCell ⟨gb, 5, none⟩ (.int .i64 b.words)).setCell ⟨gb, 6, none⟩ (.int .u64 b.log)) = Y at e7 hm ⊢
  obtain ⟨e0, e1, e2, e3, e4, e5, e6⟩ := e7
  exact bodyPost_ret (v := .tuple #[blkV b, .int .i64 0]) (by simp [results, Try.results15, go_sem, e0, e1, e2, e3, e4, e5, e6]) rfl ⟨rfl, hm⟩
theorem read_any {w : World} {base d : Nat} {S : DS} (h : IsDisk w base d S) (ho : S.off = false) (hk : 2 ≤ S.kept.length) (hz : 64 ≤ S.size ∧ S.size ≤ 1024) {s0 s1 : List Int} (h0 : Pl.rdN S 0 S.secs.length = s0) (h1 : Pl.rdN S 1 S.secs.length = s1) (b0 : ∀ x ∈ s0, 0 ≤ x ∧ x < 256) (b1 : ∀ x ∈ s1, 0 ≤ x ∧ x < 256) (l0 : s0.length = S.size) (l1 : s1.length = S.size) : Calls Try.prog 15 #[.pointer (some ⟨d, 0, none⟩)] w (ReadS w (pickB (rightS S 0 s0) (rightS S 1 s1))) := by
  have hb := fun W (hW : Moves (fun _ => False) w W) => both_ok (h.moves0 hW) ho hk hz h0 h1 b0 b1 l0 l1
  generalize rightS S 0 s0 = r0 at hb ⊢
  generalize rightS S 1 s1 = r1 at hb ⊢
  cases r0 with
  | none =>
    cases r1 with
    | none => exact read_none hb
    | some b => exact read_second (a := zeroB) (b := b) hb
  | some a =>
    cases r1 with
    | none => exact read_first (a := a) (b := zeroB) hb
    | some b =>
      by_cases hn : b.epoch < a.epoch
      · have e : pickB (some a) (some b) = some a := if_pos hn
        rw [e]
        exact read_newer (a := a) (b := b) (decide_eq_true hn) hb
      · have e : pickB (some a) (some b) = some b := if_neg hn
        rw [e]
        exact read_older (a := a) (b := b) (decide_eq_false hn) hb
end Go.Proofs.Ytnagpianaghjeaa.Sl
