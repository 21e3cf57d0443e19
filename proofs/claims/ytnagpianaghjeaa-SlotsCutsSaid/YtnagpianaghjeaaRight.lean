/-
  loamlaw7.Encode, loamlaw7.right. (Printed by gen_right.py.)
-/
import Derived.Test.YtnagpianaghjeaaOf6
import Derived.Test.YtnagpianaghjeaaRDecode
import Derived.Test.YtnagpianaghjeaaBoth
namespace Go.Proofs.Ytnagpianaghjeaa.Sl
open Go Go.RowKit Go.Proofs
open Pl (DS)

set_option maxRecDepth 100000 in
set_option maxHeartbeats 2000000 in
theorem enc7_any (b : Blk) (w : World) : Calls Try.prog 22 #[blkV b] w (MovV w (.bool (decide (GoodB b)))) := by
  have HO := Lib.hid (fun W => of6_any b W)
  have hm0 := (Moves.refl (fun _ => False) w).alloc (.cells (blkCells b) 32)
  have hb0 := heap_alloc_new w (.cells (blkCells b) 32)
  by_cases hg : GoodB b
  · have HE := Lib.hid (fun W => renc_ok hg W)
    rw [decide_eq_true hg]
    clear hg
    go_enter Try.func22, Try.ntmps22
    go_wp2_with fail
    generalize w.alloc (.cells (blkCells b) 32) = W0 at hm0 hb0 ⊢
    refine (HO.out _).mono ?_
    rintro e w1 ⟨rfl, hm1⟩
    go_wp2_with fail
    refine (HE.out _).mono ?_
    rintro e w2 ⟨v', rfl, hn⟩
    go_wp2
    go_ret
    exact ⟨rfl, hm0.trans (hm1.trans hn.2)⟩
  · have HE := Lib.hid (fun W => renc_bad hg W)
    rw [decide_eq_false hg]
    clear hg
    go_enter Try.func22, Try.ntmps22
    go_wp2_with fail
    generalize w.alloc (.cells (blkCells b) 32) = W0 at hm0 hb0 ⊢
    refine (HO.out _).mono ?_
    rintro e w1 ⟨rfl, hm1⟩
    go_wp2_with fail
    refine (HE.out _).mono ?_
    rintro e w2 ⟨rfl, hm2⟩
    go_wp2
    go_ret
    exact ⟨rfl, hm0.trans (hm1.trans hm2)⟩
/-- What the document counts a slot's sector as. -/
def rightR (z n i : Int) (s : List Int) : Option Blk := match decS crcL s with
  | some b => if (b.geom.sector = z ∧ secsG b.geom ≤ n) ∧ b.epoch % 2 = i then some b else none
  | none => none
theorem right_same {S : DS} {z n : Int} (hz : (S.size : Int) = z) (hn : (S.kept.length : Int) = n) (i : Int) (s : List Int) : rightS S i s = rightR z n i s := by
  unfold rightS rightR
  cases decS crcL s with
  | none => rfl
  | some b =>
    have e : (fitsB S b.geom = true) = (b.geom.sector = z ∧ secsG b.geom ≤ n) := by
      unfold fitsB
      rw [Bool.and_eq_true, decide_eq_true_eq, decide_eq_true_eq, hz, hn]
    simp only [e]
set_option maxRecDepth 100000 in
set_option maxHeartbeats 4000000 in
theorem right_none {w : World} {A : Option Addr} {k c : Nat} {i z n : Int} (hd : ∀ W, Moves (fun _ => False) w W → Calls Try.prog 70 #[.slice A k c] W (fun e w' => e = .returned (.tuple #[blkV zeroB, .int .i64 2]) ∧ Moves (fun _ => False) W w')) : Calls Try.prog 26 #[.slice A k c, .int .i64 i, .int .i64 z, .int .i64 n] w (fun e w' => e = .returned (.tuple #[blkV zeroB, .bool false]) ∧ Moves (fun _ => False) w w') := by
  have HD := Lib.hid hd
  have M0 := Lib.hid ((Moves.refl (fun _ => False) w).alloc (.cells #[.int .u64 0, .int .i64 0, .int .i64 0, .int .i64 0, .int .i64 0, .int .i64 0, .int .u64 0] 49))
  have B0 := Lib.hid (heap_alloc_new w (.cells #[.int .u64 0, .int .i64 0, .int .i64 0, .int .i64 0, .int .i64 0, .int .i64 0, .int .u64 0] 49))
  clear hd
  go_enter Try.func26, Try.ntmps26
  go_wp2_with fail
  generalize w.alloc (.cells #[.int .u64 0, .int .i64 0, .int .i64 0, .int .i64 0, .int .i64 0, .int .i64 0, .int .u64 0] 49) = W0 at M0 B0 ⊢
  obtain ⟨gb, hgb⟩ : ∃ gb, gb = w.heap.size := ⟨_, rfl⟩
  rw [← hgb] at B0 ⊢
  have HGB := Lib.hid hgb
  clear hgb
  refine (HD.out W0 M0.out).mono ?_
  rintro e w1 ⟨rfl, hm1⟩
  have M1 := Lib.hid ((M0.out.trans hm1).alloc (.cells (blkCells zeroB) 49))
  have hb1 := (hm1.block _ (lt_of_block B0.out) (fun e => e)).trans B0.out
  have B1 := Lib.hid ((Below.heap_alloc w1 (.cells (blkCells zeroB) 49) _ (lt_of_block hb1)).trans hb1)
  have C1 := Lib.hid (heap_alloc_new w1 (.cells (blkCells zeroB) 49))
  clear hm1 hb1
  go_upto_region 2 with (fail)
  generalize w1.alloc (.cells (blkCells zeroB) 49) = W1 at M1 B1 C1 ⊢
  generalize w1.heap.size = g1 at C1 ⊢
  obtain ⟨x0, x1, x2, x3, x4, x5, x6⟩ := cells7 C1.out
  obtain ⟨y0, y1, y2, y3, y4, y5, y6⟩ := cells7 B1.out
  have f0 : W1.frozen? ⟨gb, 0, none⟩ = false := by { have q := B1.out; simp [World.frozen?, q] }
  have f1 : W1.frozen? ⟨gb, 1, none⟩ = false := by { have q := B1.out; simp [World.frozen?, q] }
  have f2 : W1.frozen? ⟨gb, 2, none⟩ = false := by { have q := B1.out; simp [World.frozen?, q] }
  have f3 : W1.frozen? ⟨gb, 3, none⟩ = false := by { have q := B1.out; simp [World.frozen?, q] }
  have f4 : W1.frozen? ⟨gb, 4, none⟩ = false := by { have q := B1.out; simp [World.frozen?, q] }
  have f5 : W1.frozen? ⟨gb, 5, none⟩ = false := by { have q := B1.out; simp [World.frozen?, q] }
  have f6 : W1.frozen? ⟨gb, 6, none⟩ = false := by { have q := B1.out; simp [World.frozen?, q] }
  have zb : gb < W1.heap.size := lt_of_block B1.out
  go_wp2
  have e7 := cells7 (set7 (a0 := .int .u64 0) (a1 := .int .i64 0) (a2 := .int .i64 0) (a3 := .int .i64 0) (a4 := .int .i64 0) (a5 := .int .i64 0) (a6 := .int .u64 0) B1.out)
  have m7 : Moves (fun k => k = gb) W1 (((((((W1.setCell ⟨gb, 0, none⟩ (.int .u64 0)).setCell ⟨gb, 1, none⟩ (.int .i64 0)).setCell ⟨gb, 2, none⟩ (.int .i64 0)).setCell ⟨gb, 3, none⟩ (.int .i64 0)).setCell ⟨gb, 4, none⟩ (.int .i64 0)).setCell ⟨gb, 5, none⟩ (.int .i64 0)).setCell ⟨gb, 6, none⟩ (.int .u64 0)) := Moves.setCell (p := ⟨gb, 6, none⟩) (Moves.setCell (p := ⟨gb, 5, none⟩) (Moves.setCell (p := ⟨gb, 4, none⟩) (Moves.setCell (p := ⟨gb, 3, none⟩) (Moves.setCell (p := ⟨gb, 2, none⟩) (Moves.setCell (p := ⟨gb, 1, none⟩) (Moves.setCell (p := ⟨gb, 0, none⟩) (Moves.refl (fun k => k = gb) W1) (fun _ => rfl) (.int .u64 0)) (fun _ => rfl) (.int .i64 0)) (fun _ => rfl) (.int .i64 0)) (fun _ => rfl) (.int .i64 0)) (fun _ => rfl) (.int .i64 0)) (fun _ => rfl) (.int .i64 0)) (fun _ => rfl) (.int .u64 0)
  have hm : Moves (fun _ => False) w (((((((W1.setCell ⟨gb, 0, none⟩ (.int .u64 0)).setCell ⟨gb, 1, none⟩ (.int .i64 0)).setCell ⟨gb, 2, none⟩ (.int .i64 0)).setCell ⟨gb, 3, none⟩ (.int .i64 0)).setCell ⟨gb, 4, none⟩ (.int .i64 0)).setCell ⟨gb, 5, none⟩ (.int .i64 0)).setCell ⟨gb, 6, none⟩ (.int .u64 0)) := M1.out.andThen m7 (fun k e hk => by have := HGB.out; omega)
  clear m7 y0 y1 y2 y3 y4 y5 y6 f0 f1 f2 f3 f4 f5 f6
  generalize (((((((W1.setCell ⟨gb, 0, none⟩ (.int .u64 0)).setCell ⟨gb, 1, none⟩ (.int .i64 0)).setCell ⟨gb, 2, none⟩ (.int .i64 0)).setCell ⟨gb, 3, none⟩ (.int .i64 0)).setCell ⟨gb, 4, none⟩ (.int .i64 0)).setCell ⟨gb, 5, none⟩ (.int .i64 0)).setCell ⟨gb, 6, none⟩ (.int .u64 0)) = Y at e7 hm ⊢
  obtain ⟨e0, e1, e2, e3, e4, e5, e6⟩ := e7
  exact bodyPost_ret (v := .tuple #[blkV zeroB, .bool false]) (by simp [results, Try.results26, go_sem, e0, e1, e2, e3, e4, e5, e6, zeroB]) rfl ⟨rfl, hm⟩
set_option maxRecDepth 100000 in
set_option maxHeartbeats 4000000 in
theorem right_sec {w : World} {A : Option Addr} {k c : Nat} {i z n : Int} {b : Blk} (h1 : (b.geom.sector != z) = true) (hd : ∀ W, Moves (fun _ => False) w W → Calls Try.prog 70 #[.slice A k c] W (fun e w' => e = .returned (.tuple #[blkV b, .int .i64 0]) ∧ Moves (fun _ => False) W w')) : Calls Try.prog 26 #[.slice A k c, .int .i64 i, .int .i64 z, .int .i64 n] w (fun e w' => e = .returned (.tuple #[blkV zeroB, .bool false]) ∧ Moves (fun _ => False) w w') := by
  have HD := Lib.hid hd
  have M0 := Lib.hid ((Moves.refl (fun _ => False) w).alloc (.cells #[.int .u64 0, .int .i64 0, .int .i64 0, .int .i64 0, .int .i64 0, .int .i64 0, .int .u64 0] 49))
  have B0 := Lib.hid (heap_alloc_new w (.cells #[.int .u64 0, .int .i64 0, .int .i64 0, .int .i64 0, .int .i64 0, .int .i64 0, .int .u64 0] 49))
  clear hd
  go_enter Try.func26, Try.ntmps26
  go_wp2_with fail
  generalize w.alloc (.cells #[.int .u64 0, .int .i64 0, .int .i64 0, .int .i64 0, .int .i64 0, .int .i64 0, .int .u64 0] 49) = W0 at M0 B0 ⊢
  obtain ⟨gb, hgb⟩ : ∃ gb, gb = w.heap.size := ⟨_, rfl⟩
  rw [← hgb] at B0 ⊢
  have HGB := Lib.hid hgb
  clear hgb
  refine (HD.out W0 M0.out).mono ?_
  rintro e w1 ⟨rfl, hm1⟩
  have M1 := Lib.hid ((M0.out.trans hm1).alloc (.cells (blkCells b) 49))
  have hb1 := (hm1.block _ (lt_of_block B0.out) (fun e => e)).trans B0.out
  have B1 := Lib.hid ((Below.heap_alloc w1 (.cells (blkCells b) 49) _ (lt_of_block hb1)).trans hb1)
  have C1 := Lib.hid (heap_alloc_new w1 (.cells (blkCells b) 49))
  clear hm1 hb1
  go_upto_region 2 with (fail)
  generalize w1.alloc (.cells (blkCells b) 49) = W1 at M1 B1 C1 ⊢
  generalize w1.heap.size = g1 at C1 ⊢
  obtain ⟨x0, x1, x2, x3, x4, x5, x6⟩ := cells7 C1.out
  obtain ⟨y0, y1, y2, y3, y4, y5, y6⟩ := cells7 B1.out
  have f0 : W1.frozen? ⟨gb, 0, none⟩ = false := by { have q := B1.out; simp [World.frozen?, q] }
  have f1 : W1.frozen? ⟨gb, 1, none⟩ = false := by { have q := B1.out; simp [World.frozen?, q] }
  have f2 : W1.frozen? ⟨gb, 2, none⟩ = false := by { have q := B1.out; simp [World.frozen?, q] }
  have f3 : W1.frozen? ⟨gb, 3, none⟩ = false := by { have q := B1.out; simp [World.frozen?, q] }
  have f4 : W1.frozen? ⟨gb, 4, none⟩ = false := by { have q := B1.out; simp [World.frozen?, q] }
  have f5 : W1.frozen? ⟨gb, 5, none⟩ = false := by { have q := B1.out; simp [World.frozen?, q] }
  have f6 : W1.frozen? ⟨gb, 6, none⟩ = false := by { have q := B1.out; simp [World.frozen?, q] }
  have zb : gb < W1.heap.size := lt_of_block B1.out
  go_wp2
  have e7 := cells7 (set7 (a0 := .int .u64 0) (a1 := .int .i64 0) (a2 := .int .i64 0) (a3 := .int .i64 0) (a4 := .int .i64 0) (a5 := .int .i64 0) (a6 := .int .u64 0) B1.out)
  have m7 : Moves (fun k => k = gb) W1 (((((((W1.setCell ⟨gb, 0, none⟩ (.int .u64 0)).setCell ⟨gb, 1, none⟩ (.int .i64 0)).setCell ⟨gb, 2, none⟩ (.int .i64 0)).setCell ⟨gb, 3, none⟩ (.int .i64 0)).setCell ⟨gb, 4, none⟩ (.int .i64 0)).setCell ⟨gb, 5, none⟩ (.int .i64 0)).setCell ⟨gb, 6, none⟩ (.int .u64 0)) := Moves.setCell (p := ⟨gb, 6, none⟩) (Moves.setCell (p := ⟨gb, 5, none⟩) (Moves.setCell (p := ⟨gb, 4, none⟩) (Moves.setCell (p := ⟨gb, 3, none⟩) (Moves.setCell (p := ⟨gb, 2, none⟩) (Moves.setCell (p := ⟨gb, 1, none⟩) (Moves.setCell (p := ⟨gb, 0, none⟩) (Moves.refl (fun k => k = gb) W1) (fun _ => rfl) (.int .u64 0)) (fun _ => rfl) (.int .i64 0)) (fun _ => rfl) (.int .i64 0)) (fun _ => rfl) (.int .i64 0)) (fun _ => rfl) (.int .i64 0)) (fun _ => rfl) (.int .i64 0)) (fun _ => rfl) (.int .u64 0)
  have hm : Moves (fun _ => False) w (((((((W1.setCell ⟨gb, 0, none⟩ (.int .u64 0)).setCell ⟨gb, 1, none⟩ (.int .i64 0)).setCell ⟨gb, 2, none⟩ (.int .i64 0)).setCell ⟨gb, 3, none⟩ (.int .i64 0)).setCell ⟨gb, 4, none⟩ (.int .i64 0)).setCell ⟨gb, 5, none⟩ (.int .i64 0)).setCell ⟨gb, 6, none⟩ (.int .u64 0)) := M1.out.andThen m7 (fun k e hk => by have := HGB.out; omega)
  clear m7 y0 y1 y2 y3 y4 y5 y6 f0 f1 f2 f3 f4 f5 f6
  generalize (((((((W1.setCell ⟨gb, 0, none⟩ (.int .u64 0)).setCell ⟨gb, 1, none⟩ (.int .i64 0)).setCell ⟨gb, 2, none⟩ (.int .i64 0)).setCell ⟨gb, 3, none⟩ (.int .i64 0)).setCell ⟨gb, 4, none⟩ (.int .i64 0)).setCell ⟨gb, 5, none⟩ (.int .i64 0)).setCell ⟨gb, 6, none⟩ (.int .u64 0)) = Y at e7 hm ⊢
  obtain ⟨e0, e1, e2, e3, e4, e5, e6⟩ := e7
  exact bodyPost_ret (v := .tuple #[blkV zeroB, .bool false]) (by simp [results, Try.results26, go_sem, e0, e1, e2, e3, e4, e5, e6, zeroB]) rfl ⟨rfl, hm⟩
set_option maxRecDepth 100000 in
set_option maxHeartbeats 4000000 in
theorem right_big {w : World} {A : Option Addr} {k c : Nat} {i z n : Int} {b : Blk} (hnr : NearG b.geom) (h8 : b.geom.sector % 8 = 0) (h1 : (b.geom.sector != z) = false) (h2 : n < secsG b.geom) (hd : ∀ W, Moves (fun _ => False) w W → Calls Try.prog 70 #[.slice A k c] W (fun e w' => e = .returned (.tuple #[blkV b, .int .i64 0]) ∧ Moves (fun _ => False) W w')) : Calls Try.prog 26 #[.slice A k c, .int .i64 i, .int .i64 z, .int .i64 n] w (fun e w' => e = .returned (.tuple #[blkV zeroB, .bool false]) ∧ Moves (fun _ => False) w w') := by
  have HD := Lib.hid hd
  have M0 := Lib.hid ((Moves.refl (fun _ => False) w).alloc (.cells #[.int .u64 0, .int .i64 0, .int .i64 0, .int .i64 0, .int .i64 0, .int .i64 0, .int .u64 0] 49))
  have B0 := Lib.hid (heap_alloc_new w (.cells #[.int .u64 0, .int .i64 0, .int .i64 0, .int .i64 0, .int .i64 0, .int .i64 0, .int .u64 0] 49))
  have HSEC := Lib.hid (fun W => rsectors_ok hnr h8 W)
  generalize secsG b.geom = y at HSEC h2
  clear hnr h8
  clear hd
  go_enter Try.func26, Try.ntmps26
  go_wp2_with fail
  generalize w.alloc (.cells #[.int .u64 0, .int .i64 0, .int .i64 0, .int .i64 0, .int .i64 0, .int .i64 0, .int .u64 0] 49) = W0 at M0 B0 ⊢
  obtain ⟨gb, hgb⟩ : ∃ gb, gb = w.heap.size := ⟨_, rfl⟩
  rw [← hgb] at B0 ⊢
  have HGB := Lib.hid hgb
  clear hgb
  refine (HD.out W0 M0.out).mono ?_
  rintro e w1 ⟨rfl, hm1⟩
  have M1 := Lib.hid ((M0.out.trans hm1).alloc (.cells (blkCells b) 49))
  have hb1 := (hm1.block _ (lt_of_block B0.out) (fun e => e)).trans B0.out
  have B1 := Lib.hid ((Below.heap_alloc w1 (.cells (blkCells b) 49) _ (lt_of_block hb1)).trans hb1)
  have C1 := Lib.hid (heap_alloc_new w1 (.cells (blkCells b) 49))
  clear hm1 hb1
  go_upto_region 2 with (fail)
  generalize w1.alloc (.cells (blkCells b) 49) = W1 at M1 B1 C1 ⊢
  generalize w1.heap.size = g1 at C1 ⊢
  obtain ⟨x0, x1, x2, x3, x4, x5, x6⟩ := cells7 C1.out
  obtain ⟨y0, y1, y2, y3, y4, y5, y6⟩ := cells7 B1.out
  have f0 : W1.frozen? ⟨gb, 0, none⟩ = false := by { have q := B1.out; simp [World.frozen?, q] }
  have f1 : W1.frozen? ⟨gb, 1, none⟩ = false := by { have q := B1.out; simp [World.frozen?, q] }
  have f2 : W1.frozen? ⟨gb, 2, none⟩ = false := by { have q := B1.out; simp [World.frozen?, q] }
  have f3 : W1.frozen? ⟨gb, 3, none⟩ = false := by { have q := B1.out; simp [World.frozen?, q] }
  have f4 : W1.frozen? ⟨gb, 4, none⟩ = false := by { have q := B1.out; simp [World.frozen?, q] }
  have f5 : W1.frozen? ⟨gb, 5, none⟩ = false := by { have q := B1.out; simp [World.frozen?, q] }
  have f6 : W1.frozen? ⟨gb, 6, none⟩ = false := by { have q := B1.out; simp [World.frozen?, q] }
  have zb : gb < W1.heap.size := lt_of_block B1.out
  go_wp2_with fail
  refine (HSEC.out _).mono ?_
  rintro e w2 ⟨rfl, hm2⟩
  clear x0 x1 x2 x3 x4 x5 x6 y0 y1 y2 y3 y4 y5 y6 f0 f1 f2 f3 f4 f5 f6 zb
  have B2 := Lib.hid ((hm2.block _ (lt_of_block B1.out) (fun e => e)).trans B1.out)
  have C2 := Lib.hid ((hm2.block _ (lt_of_block C1.out) (fun e => e)).trans C1.out)
  have M2 := Lib.hid (M1.out.trans hm2)
  clear hm2
  obtain ⟨x0, x1, x2, x3, x4, x5, x6⟩ := cells7 C2.out
  obtain ⟨y0, y1, y2, y3, y4, y5, y6⟩ := cells7 B2.out
  have f0 : w2.frozen? ⟨gb, 0, none⟩ = false := by { have q := B2.out; simp [World.frozen?, q] }
  have f1 : w2.frozen? ⟨gb, 1, none⟩ = false := by { have q := B2.out; simp [World.frozen?, q] }
  have f2 : w2.frozen? ⟨gb, 2, none⟩ = false := by { have q := B2.out; simp [World.frozen?, q] }
  have f3 : w2.frozen? ⟨gb, 3, none⟩ = false := by { have q := B2.out; simp [World.frozen?, q] }
  have f4 : w2.frozen? ⟨gb, 4, none⟩ = false := by { have q := B2.out; simp [World.frozen?, q] }
  have f5 : w2.frozen? ⟨gb, 5, none⟩ = false := by { have q := B2.out; simp [World.frozen?, q] }
  have f6 : w2.frozen? ⟨gb, 6, none⟩ = false := by { have q := B2.out; simp [World.frozen?, q] }
  have zb : gb < w2.heap.size := lt_of_block B2.out
  go_wp2
  have e7 := cells7 (set7 (a0 := .int .u64 0) (a1 := .int .i64 0) (a2 := .int .i64 0) (a3 := .int .i64 0) (a4 := .int .i64 0) (a5 := .int .i64 0) (a6 := .int .u64 0) B2.out)
  have m7 : Moves (fun k => k = gb) w2 (((((((w2.setCell ⟨gb, 0, none⟩ (.int .u64 0)).setCell ⟨gb, 1, none⟩ (.int .i64 0)).setCell ⟨gb, 2, none⟩ (.int .i64 0)).setCell ⟨gb, 3, none⟩ (.int .i64 0)).setCell ⟨gb, 4, none⟩ (.int .i64 0)).setCell ⟨gb, 5, none⟩ (.int .i64 0)).setCell ⟨gb, 6, none⟩ (.int .u64 0)) := Moves.setCell (p := ⟨gb, 6, none⟩) (Moves.setCell (p := ⟨gb, 5, none⟩) (Moves.setCell (p := ⟨gb, 4, none⟩) (Moves.setCell (p := ⟨gb, 3, none⟩) (Moves.setCell (p := ⟨gb, 2, none⟩) (Moves.setCell (p := ⟨gb, 1, none⟩) (Moves.setCell (p := ⟨gb, 0, none⟩) (Moves.refl (fun k => k = gb) w2) (fun _ => rfl) (.int .u64 0)) (fun _ => rfl) (.int .i64 0)) (fun _ => rfl) (.int .i64 0)) (fun _ => rfl) (.int .i64 0)) (fun _ => rfl) (.int .i64 0)) (fun _ => rfl) (.int .i64 0)) (fun _ => rfl) (.int .u64 0)
  have hm : Moves (fun _ => False) w (((((((w2.setCell ⟨gb, 0, none⟩ (.int .u64 0)).setCell ⟨gb, 1, none⟩ (.int .i64 0)).setCell ⟨gb, 2, none⟩ (.int .i64 0)).setCell ⟨gb, 3, none⟩ (.int .i64 0)).setCell ⟨gb, 4, none⟩ (.int .i64 0)).setCell ⟨gb, 5, none⟩ (.int .i64 0)).setCell ⟨gb, 6, none⟩ (.int .u64 0)) := M2.out.andThen m7 (fun k e hk => by have := HGB.out; omega)
  clear m7 y0 y1 y2 y3 y4 y5 y6 f0 f1 f2 f3 f4 f5 f6
  generalize (((((((w2.setCell ⟨gb, 0, none⟩ (.int .u64 0)).setCell ⟨gb, 1, none⟩ (.int .i64 0)).setCell ⟨gb, 2, none⟩ (.int .i64 0)).setCell ⟨gb, 3, none⟩ (.int .i64 0)).setCell ⟨gb, 4, none⟩ (.int .i64 0)).setCell ⟨gb, 5, none⟩ (.int .i64 0)).setCell ⟨gb, 6, none⟩ (.int .u64 0)) = Y at e7 hm ⊢
  obtain ⟨e0, e1, e2, e3, e4, e5, e6⟩ := e7
  exact bodyPost_ret (v := .tuple #[blkV zeroB, .bool false]) (by simp [results, Try.results26, go_sem, e0, e1, e2, e3, e4, e5, e6, zeroB]) rfl ⟨rfl, hm⟩
set_option maxRecDepth 100000 in
set_option maxHeartbeats 4000000 in
theorem right_odd {w : World} {A : Option Addr} {k c : Nat} {i z n : Int} {b : Blk} (hnr : NearG b.geom) (h8 : b.geom.sector % 8 = 0) (hep : 0 ≤ b.epoch ∧ b.epoch < 18446744073709551616) (h1 : (b.geom.sector != z) = false) (h2 : ¬ n < secsG b.geom) (h3 : (b.epoch % 2 != i) = true) (hd : ∀ W, Moves (fun _ => False) w W → Calls Try.prog 70 #[.slice A k c] W (fun e w' => e = .returned (.tuple #[blkV b, .int .i64 0]) ∧ Moves (fun _ => False) W w')) : Calls Try.prog 26 #[.slice A k c, .int .i64 i, .int .i64 z, .int .i64 n] w (fun e w' => e = .returned (.tuple #[blkV zeroB, .bool false]) ∧ Moves (fun _ => False) w w') := by
  have HD := Lib.hid hd
  have M0 := Lib.hid ((Moves.refl (fun _ => False) w).alloc (.cells #[.int .u64 0, .int .i64 0, .int .i64 0, .int .i64 0, .int .i64 0, .int .i64 0, .int .u64 0] 49))
  have B0 := Lib.hid (heap_alloc_new w (.cells #[.int .u64 0, .int .i64 0, .int .i64 0, .int .i64 0, .int .i64 0, .int .i64 0, .int .u64 0] 49))
  have HSEC := Lib.hid (fun W => rsectors_ok hnr h8 W)
  generalize secsG b.geom = y at HSEC h2
  clear hnr h8
  obtain ⟨hep1, hep2⟩ := hep
  clear hd
  go_enter Try.func26, Try.ntmps26
  go_wp2_with fail
  generalize w.alloc (.cells #[.int .u64 0, .int .i64 0, .int .i64 0, .int .i64 0, .int .i64 0, .int .i64 0, .int .u64 0] 49) = W0 at M0 B0 ⊢
  obtain ⟨gb, hgb⟩ : ∃ gb, gb = w.heap.size := ⟨_, rfl⟩
  rw [← hgb] at B0 ⊢
  have HGB := Lib.hid hgb
  clear hgb
  refine (HD.out W0 M0.out).mono ?_
  rintro e w1 ⟨rfl, hm1⟩
  have M1 := Lib.hid ((M0.out.trans hm1).alloc (.cells (blkCells b) 49))
  have hb1 := (hm1.block _ (lt_of_block B0.out) (fun e => e)).trans B0.out
  have B1 := Lib.hid ((Below.heap_alloc w1 (.cells (blkCells b) 49) _ (lt_of_block hb1)).trans hb1)
  have C1 := Lib.hid (heap_alloc_new w1 (.cells (blkCells b) 49))
  clear hm1 hb1
  go_upto_region 2 with (fail)
  generalize w1.alloc (.cells (blkCells b) 49) = W1 at M1 B1 C1 ⊢
  generalize w1.heap.size = g1 at C1 ⊢
  obtain ⟨x0, x1, x2, x3, x4, x5, x6⟩ := cells7 C1.out
  obtain ⟨y0, y1, y2, y3, y4, y5, y6⟩ := cells7 B1.out
  have f0 : W1.frozen? ⟨gb, 0, none⟩ = false := by { have q := B1.out; simp [World.frozen?, q] }
  have f1 : W1.frozen? ⟨gb, 1, none⟩ = false := by { have q := B1.out; simp [World.frozen?, q] }
  have f2 : W1.frozen? ⟨gb, 2, none⟩ = false := by { have q := B1.out; simp [World.frozen?, q] }
  have f3 : W1.frozen? ⟨gb, 3, none⟩ = false := by { have q := B1.out; simp [World.frozen?, q] }
  have f4 : W1.frozen? ⟨gb, 4, none⟩ = false := by { have q := B1.out; simp [World.frozen?, q] }
  have f5 : W1.frozen? ⟨gb, 5, none⟩ = false := by { have q := B1.out; simp [World.frozen?, q] }
  have f6 : W1.frozen? ⟨gb, 6, none⟩ = false := by { have q := B1.out; simp [World.frozen?, q] }
  have zb : gb < W1.heap.size := lt_of_block B1.out
  go_wp2_with fail
  refine (HSEC.out _).mono ?_
  rintro e w2 ⟨rfl, hm2⟩
  clear x0 x1 x2 x3 x4 x5 x6 y0 y1 y2 y3 y4 y5 y6 f0 f1 f2 f3 f4 f5 f6 zb
  have B2 := Lib.hid ((hm2.block _ (lt_of_block B1.out) (fun e => e)).trans B1.out)
  have C2 := Lib.hid ((hm2.block _ (lt_of_block C1.out) (fun e => e)).trans C1.out)
  have M2 := Lib.hid (M1.out.trans hm2)
  clear hm2
  obtain ⟨x0, x1, x2, x3, x4, x5, x6⟩ := cells7 C2.out
  obtain ⟨y0, y1, y2, y3, y4, y5, y6⟩ := cells7 B2.out
  have f0 : w2.frozen? ⟨gb, 0, none⟩ = false := by { have q := B2.out; simp [World.frozen?, q] }
  have f1 : w2.frozen? ⟨gb, 1, none⟩ = false := by { have q := B2.out; simp [World.frozen?, q] }
  have f2 : w2.frozen? ⟨gb, 2, none⟩ = false := by { have q := B2.out; simp [World.frozen?, q] }
  have f3 : w2.frozen? ⟨gb, 3, none⟩ = false := by { have q := B2.out; simp [World.frozen?, q] }
  have f4 : w2.frozen? ⟨gb, 4, none⟩ = false := by { have q := B2.out; simp [World.frozen?, q] }
  have f5 : w2.frozen? ⟨gb, 5, none⟩ = false := by { have q := B2.out; simp [World.frozen?, q] }
  have f6 : w2.frozen? ⟨gb, 6, none⟩ = false := by { have q := B2.out; simp [World.frozen?, q] }
  have zb : gb < w2.heap.size := lt_of_block B2.out
  go_wp2
  have e7 := cells7 (set7 (a0 := .int .u64 0) (a1 := .int .i64 0) (a2 := .int .i64 0) (a3 := .int .i64 0) (a4 := .int .i64 0) (a5 := .int .i64 0) (a6 := .int .u64 0) B2.out)
  have m7 : Moves (fun k => k = gb) w2 (((((((w2.setCell ⟨gb, 0, none⟩ (.int .u64 0)).setCell ⟨gb, 1, none⟩ (.int .i64 0)).setCell ⟨gb, 2, none⟩ (.int .i64 0)).setCell ⟨gb, 3, none⟩ (.int .i64 0)).setCell ⟨gb, 4, none⟩ (.int .i64 0)).setCell ⟨gb, 5, none⟩ (.int .i64 0)).setCell ⟨gb, 6, none⟩ (.int .u64 0)) := Moves.setCell (p := ⟨gb, 6, none⟩) (Moves.setCell (p := ⟨gb, 5, none⟩) (Moves.setCell (p := ⟨gb, 4, none⟩) (Moves.setCell (p := ⟨gb, 3, none⟩) (Moves.setCell (p := ⟨gb, 2, none⟩) (Moves.setCell (p := ⟨gb, 1, none⟩) (Moves.setCell (p := ⟨gb, 0, none⟩) (Moves.refl (fun k => k = gb) w2) (fun _ => rfl) (.int .u64 0)) (fun _ => rfl) (.int .i64 0)) (fun _ => rfl) (.int .i64 0)) (fun _ => rfl) (.int .i64 0)) (fun _ => rfl) (.int .i64 0)) (fun _ => rfl) (.int .i64 0)) (fun _ => rfl) (.int .u64 0)
  have hm : Moves (fun _ => False) w (((((((w2.setCell ⟨gb, 0, none⟩ (.int .u64 0)).setCell ⟨gb, 1, none⟩ (.int .i64 0)).setCell ⟨gb, 2, none⟩ (.int .i64 0)).setCell ⟨gb, 3, none⟩ (.int .i64 0)).setCell ⟨gb, 4, none⟩ (.int .i64 0)).setCell ⟨gb, 5, none⟩ (.int .i64 0)).setCell ⟨gb, 6, none⟩ (.int .u64 0)) := M2.out.andThen m7 (fun k e hk => by have := HGB.out; omega)
  clear m7 y0 y1 y2 y3 y4 y5 y6 f0 f1 f2 f3 f4 f5 f6
  generalize (((((((w2.setCell ⟨gb, 0, none⟩ (.int .u64 0)).setCell ⟨gb, 1, none⟩ (.int .i64 0)).setCell ⟨gb, 2, none⟩ (.int .i64 0)).setCell ⟨gb, 3, none⟩ (.int .i64 0)).setCell ⟨gb, 4, none⟩ (.int .i64 0)).setCell ⟨gb, 5, none⟩ (.int .i64 0)).setCell ⟨gb, 6, none⟩ (.int .u64 0)) = Y at e7 hm ⊢
  obtain ⟨e0, e1, e2, e3, e4, e5, e6⟩ := e7
  exact bodyPost_ret (v := .tuple #[blkV zeroB, .bool false]) (by simp [results, Try.results26, go_sem, e0, e1, e2, e3, e4, e5, e6, zeroB]) rfl ⟨rfl, hm⟩
set_option maxRecDepth 100000 in
set_option maxHeartbeats 4000000 in
theorem right_yes {w : World} {A : Option Addr} {k c : Nat} {i z n : Int} {b : Blk} (hnr : NearG b.geom) (h8 : b.geom.sector % 8 = 0) (hep : 0 ≤ b.epoch ∧ b.epoch < 18446744073709551616) (h1 : (b.geom.sector != z) = false) (h2 : ¬ n < secsG b.geom) (h3 : (b.epoch % 2 != i) = false) (hd : ∀ W, Moves (fun _ => False) w W → Calls Try.prog 70 #[.slice A k c] W (fun e w' => e = .returned (.tuple #[blkV b, .int .i64 0]) ∧ Moves (fun _ => False) W w')) : Calls Try.prog 26 #[.slice A k c, .int .i64 i, .int .i64 z, .int .i64 n] w (fun e w' => e = .returned (.tuple #[blkV b, .bool true]) ∧ Moves (fun _ => False) w w') := by
  have HD := Lib.hid hd
  have M0 := Lib.hid ((Moves.refl (fun _ => False) w).alloc (.cells #[.int .u64 0, .int .i64 0, .int .i64 0, .int .i64 0, .int .i64 0, .int .i64 0, .int .u64 0] 49))
  have B0 := Lib.hid (heap_alloc_new w (.cells #[.int .u64 0, .int .i64 0, .int .i64 0, .int .i64 0, .int .i64 0, .int .i64 0, .int .u64 0] 49))
  have HSEC := Lib.hid (fun W => rsectors_ok hnr h8 W)
  generalize secsG b.geom = y at HSEC h2
  clear hnr h8
  obtain ⟨hep1, hep2⟩ := hep
  clear hd
  go_enter Try.func26, Try.ntmps26
  go_wp2_with fail
  generalize w.alloc (.cells #[.int .u64 0, .int .i64 0, .int .i64 0, .int .i64 0, .int .i64 0, .int .i64 0, .int .u64 0] 49) = W0 at M0 B0 ⊢
  obtain ⟨gb, hgb⟩ : ∃ gb, gb = w.heap.size := ⟨_, rfl⟩
  rw [← hgb] at B0 ⊢
  have HGB := Lib.hid hgb
  clear hgb
  refine (HD.out W0 M0.out).mono ?_
  rintro e w1 ⟨rfl, hm1⟩
  have M1 := Lib.hid ((M0.out.trans hm1).alloc (.cells (blkCells b) 49))
  have hb1 := (hm1.block _ (lt_of_block B0.out) (fun e => e)).trans B0.out
  have B1 := Lib.hid ((Below.heap_alloc w1 (.cells (blkCells b) 49) _ (lt_of_block hb1)).trans hb1)
  have C1 := Lib.hid (heap_alloc_new w1 (.cells (blkCells b) 49))
  clear hm1 hb1
  go_upto_region 2 with (fail)
  generalize w1.alloc (.cells (blkCells b) 49) = W1 at M1 B1 C1 ⊢
  generalize w1.heap.size = g1 at C1 ⊢
  obtain ⟨x0, x1, x2, x3, x4, x5, x6⟩ := cells7 C1.out
  obtain ⟨y0, y1, y2, y3, y4, y5, y6⟩ := cells7 B1.out
  have f0 : W1.frozen? ⟨gb, 0, none⟩ = false := by { have q := B1.out; simp [World.frozen?, q] }
  have f1 : W1.frozen? ⟨gb, 1, none⟩ = false := by { have q := B1.out; simp [World.frozen?, q] }
  have f2 : W1.frozen? ⟨gb, 2, none⟩ = false := by { have q := B1.out; simp [World.frozen?, q] }
  have f3 : W1.frozen? ⟨gb, 3, none⟩ = false := by { have q := B1.out; simp [World.frozen?, q] }
  have f4 : W1.frozen? ⟨gb, 4, none⟩ = false := by { have q := B1.out; simp [World.frozen?, q] }
  have f5 : W1.frozen? ⟨gb, 5, none⟩ = false := by { have q := B1.out; simp [World.frozen?, q] }
  have f6 : W1.frozen? ⟨gb, 6, none⟩ = false := by { have q := B1.out; simp [World.frozen?, q] }
  have zb : gb < W1.heap.size := lt_of_block B1.out
  go_wp2_with fail
  refine (HSEC.out _).mono ?_
  rintro e w2 ⟨rfl, hm2⟩
  clear x0 x1 x2 x3 x4 x5 x6 y0 y1 y2 y3 y4 y5 y6 f0 f1 f2 f3 f4 f5 f6 zb
  have B2 := Lib.hid ((hm2.block _ (lt_of_block B1.out) (fun e => e)).trans B1.out)
  have C2 := Lib.hid ((hm2.block _ (lt_of_block C1.out) (fun e => e)).trans C1.out)
  have M2 := Lib.hid (M1.out.trans hm2)
  clear hm2
  obtain ⟨x0, x1, x2, x3, x4, x5, x6⟩ := cells7 C2.out
  obtain ⟨y0, y1, y2, y3, y4, y5, y6⟩ := cells7 B2.out
  have f0 : w2.frozen? ⟨gb, 0, none⟩ = false := by { have q := B2.out; simp [World.frozen?, q] }
  have f1 : w2.frozen? ⟨gb, 1, none⟩ = false := by { have q := B2.out; simp [World.frozen?, q] }
  have f2 : w2.frozen? ⟨gb, 2, none⟩ = false := by { have q := B2.out; simp [World.frozen?, q] }
  have f3 : w2.frozen? ⟨gb, 3, none⟩ = false := by { have q := B2.out; simp [World.frozen?, q] }
  have f4 : w2.frozen? ⟨gb, 4, none⟩ = false := by { have q := B2.out; simp [World.frozen?, q] }
  have f5 : w2.frozen? ⟨gb, 5, none⟩ = false := by { have q := B2.out; simp [World.frozen?, q] }
  have f6 : w2.frozen? ⟨gb, 6, none⟩ = false := by { have q := B2.out; simp [World.frozen?, q] }
  have zb : gb < w2.heap.size := lt_of_block B2.out
  go_wp2
  have e7 := cells7 (set7 (a0 := .int .u64 b.epoch) (a1 := .int .i64 b.geom.sector) (a2 := .int .i64 b.geom.log) (a3 := .int .i64 b.geom.words) (a4 := .int .i64 b.space) (a5 := .int .i64 b.words) (a6 := .int .u64 b.log) B2.out)
  have m7 : Moves (fun k => k = gb) w2 (((((((w2.setCell ⟨gb, 0, none⟩ (.int .u64 b.epoch)).setCell ⟨gb, 1, none⟩ (.int .i64 b.geom.sector)).setCell ⟨gb, 2, none⟩ (.int .i64 b.geom.log)).setCell ⟨gb, 3, none⟩ (.int .i64 b.geom.words)).setCell ⟨gb, 4, none⟩ (.int .i64 b.space)).setCell ⟨gb, 5, none⟩ (.int .i64 b.words)).setCell ⟨gb, 6, none⟩ (.int .u64 b.log)) := Moves.setCell (p := ⟨gb, 6, none⟩) (Moves.setCell (p := ⟨gb, 5, none⟩) (Moves.setCell (p := ⟨gb, 4, none⟩) (Moves.setCell (p := ⟨gb, 3, none⟩) (Moves.setCell (p := ⟨gb, 2, none⟩) (Moves.setCell (p := ⟨gb, 1, none⟩) (Moves.setCell (p := ⟨gb, 0, none⟩) (Moves.refl (fun k => k = gb) w2) (fun _ => rfl) (.int .u64 b.epoch)) (fun _ => rfl) (.int .i64 b.geom.sector)) (fun _ => rfl) (.int .i64 b.geom.log)) (fun _ => rfl) (.int .i64 b.geom.words)) (fun _ => rfl) (.int .i64 b.space)) (fun _ => rfl) (.int .i64 b.words)) (fun _ => rfl) (.int .u64 b.log)
  have hm : Moves (fun _ => False) w (((((((w2.setCell ⟨gb, 0, none⟩ (.int .u64 b.epoch)).setCell ⟨gb, 1, none⟩ (.int .i64 b.geom.sector)).setCell ⟨gb, 2, none⟩ (.int .i64 b.geom.log)).setCell ⟨gb, 3, none⟩ (.int .i64 b.geom.words)).setCell ⟨gb, 4, none⟩ (.int .i64 b.space)).setCell ⟨gb, 5, none⟩ (.int .i64 b.words)).setCell ⟨gb, 6, none⟩ (.int .u64 b.log)) := M2.out.andThen m7 (fun k e hk => by have := HGB.out; omega)
  clear m7 y0 y1 y2 y3 y4 y5 y6 f0 f1 f2 f3 f4 f5 f6
  generalize (((((((w2.setCell ⟨gb, 0, none⟩ (.int .u64 b.epoch)).setCell ⟨gb, 1, none⟩ (.int .i64 b.geom.sector)).setCell ⟨gb, 2, none⟩ (.int .i64 b.geom.log)).setCell ⟨gb, 3, none⟩ (.int .i64 b.geom.words)).setCell ⟨gb, 4, none⟩ (.int .i64 b.space)).setCell ⟨gb, 5, none⟩ (.int .i64 b.words)).setCell ⟨gb, 6, none⟩ (.int .u64 b.log)) = Y at e7 hm ⊢
  obtain ⟨e0, e1, e2, e3, e4, e5, e6⟩ := e7
  exact bodyPost_ret (v := .tuple #[blkV b, .bool true]) (by simp [results, Try.results26, go_sem, e0, e1, e2, e3, e4, e5, e6]) rfl ⟨rfl, hm⟩
def RightPost (w : World) (r : Option Blk) (e : Ending) (w' : World) : Prop := e = .returned (.tuple #[blkV (orZ r), .bool (isB r)]) ∧ Moves (fun _ => False) w w'
theorem right_any {w : World} {L : Nat → Prop} {v : Value} {s : List Int} (h : BRow w L v s) (hl : 64 ≤ s.length) (i z n : Int) : Calls Try.prog 26 #[v, .int .i64 i, .int .i64 z, .int .i64 n] w (RightPost w (rightR z n i s)) := by
  have hd := fun W (hW : Moves (fun _ => False) w W) => rdecode_any (h.moves hW (fun _ _ _ e => e)) hl
  have hby := h.2.1
  obtain ⟨⟨A, c, rfl, -⟩, -⟩ := h
  unfold rightR
  generalize hs : decS crcL s = ov at hd ⊢
  cases ov with
  | none => exact right_none hd
  | some b =>
    have hg := dec_some hs
    have hep : 0 ≤ b.epoch ∧ b.epoch < 18446744073709551616 := by
      rw [hg.2.2]
      exact getL_lt hby 8 8
    dsimp only
    by_cases h1 : b.geom.sector = z
    · have q1 : (b.geom.sector != z) = false := by simpa using h1
      by_cases h2 : secsG b.geom ≤ n
      · by_cases h3 : b.epoch % 2 = i
        · rw [if_pos ⟨⟨h1, h2⟩, h3⟩]
          exact right_yes (b := b) hg.1.1.near hg.1.1.1.2.2 hep q1 (by omega) (by simpa using h3) hd
        · rw [if_neg (fun e => h3 e.2)]
          exact right_odd (b := b) hg.1.1.near hg.1.1.1.2.2 hep q1 (by omega) (by simpa using h3) hd
      · rw [if_neg (fun e => h2 e.1.2)]
        exact right_big (b := b) hg.1.1.near hg.1.1.1.2.2 q1 (by omega) hd
    · rw [if_neg (fun e => h1 e.1.1)]
      exact right_sec (b := b) (by simpa using h1) hd
end Go.Proofs.Ytnagpianaghjeaa.Sl
