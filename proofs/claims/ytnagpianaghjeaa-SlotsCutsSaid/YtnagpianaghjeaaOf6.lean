/-
  loamlaw6.Of, loamlaw7.Encode, loamref1.Get, loamref6.number.
-/
import Derived.Test.YtnagpianaghjeaaRef6
import Derived.Test.YtnagpianaghjeaaDecode
namespace Go.Proofs.Ytnagpianaghjeaa.Sl
open Go Go.RowKit Go.Proofs

set_option maxRecDepth 100000 in
set_option maxHeartbeats 1000000 in
theorem of6_any (b : Blk) (w : World) : Calls Try.prog 23 #[blkV b] w (MovV w (blkV b)) := by
  have HO := Lib.hid (fun W => of4_any b.geom W)
  obtain ⟨ep, ⟨s, l, n⟩, sp, wd, lg⟩ := b
  have HO : Hid (∀ W, Calls Try.prog 54 #[geoV ⟨s, l, n⟩] W (MovV W (.agg #[.int .i64 s, .int .i64 l, .int .i64 n]))) := HO
  have M0 := Lib.hid (((Moves.refl (fun _ => False) w).alloc (.cells (blkCells ⟨ep, ⟨s, l, n⟩, sp, wd, lg⟩) 32)).alloc (.cells #[.int .u64 0, .int .i64 0, .int .i64 0, .int .i64 0, .int .i64 0, .int .i64 0, .int .u64 0] 49))
  have b0 : ((w.alloc (.cells (blkCells ⟨ep, ⟨s, l, n⟩, sp, wd, lg⟩) 32)).alloc (.cells #[.int .u64 0, .int .i64 0, .int .i64 0, .int .i64 0, .int .i64 0, .int .i64 0, .int .u64 0] 49)).heap[w.heap.size]? = some (.cells (blkCells ⟨ep, ⟨s, l, n⟩, sp, wd, lg⟩) 32 (0, 0)) := (Below.heap_alloc _ _ _ (by simp)).trans (alloc_at rfl)
  have b1 : ((w.alloc (.cells (blkCells ⟨ep, ⟨s, l, n⟩, sp, wd, lg⟩) 32)).alloc (.cells #[.int .u64 0, .int .i64 0, .int .i64 0, .int .i64 0, .int .i64 0, .int .i64 0, .int .u64 0] 49)).heap[w.heap.size + 1]? = some (.cells #[.int .u64 0, .int .i64 0, .int .i64 0, .int .i64 0, .int .i64 0, .int .i64 0, .int .u64 0] 49 (0, 0)) := alloc_at (by simp)
  go_enter Try.func23, Try.ntmps23
  go_wp2_with fail
  generalize (w.alloc (.cells (blkCells ⟨ep, ⟨s, l, n⟩, sp, wd, lg⟩) 32)).alloc (.cells #[.int .u64 0, .int .i64 0, .int .i64 0, .int .i64 0, .int .i64 0, .int .i64 0, .int .u64 0] 49) = W0 at M0 b0 b1 ⊢
  obtain ⟨gb, hgb⟩ : ∃ gb, gb = w.heap.size := ⟨_, rfl⟩
  rw [← hgb] at b0 b1 ⊢
  have HGB := Lib.hid hgb
  clear hgb
  obtain ⟨c0, c1, c2, c3, c4, c5, c6⟩ := cells7 (b0 : W0.heap[gb]? = some (.cells #[.int .u64 ep, .int .i64 s, .int .i64 l, .int .i64 n, .int .i64 sp, .int .i64 wd, .int .u64 lg] 32 (0, 0)))
  have B0 := Lib.hid b0
  have B1 := Lib.hid b1
  clear b0 b1
  have HS0 := Lib.hid (And.intro c0 (And.intro c1 (And.intro c2 (And.intro c3 (And.intro c4 (And.intro c5 c6))))))
  have HS0d := Lib.hid (cells7 (show W0.drew.heap[gb]? = some (.cells #[.int .u64 ep, .int .i64 s, .int .i64 l, .int .i64 n, .int .i64 sp, .int .i64 wd, .int .u64 lg] 32 (0, 0)) from B0.out))
  have HS1 := HS0
  have HS2 := HS0
  clear c0 c1 c2 c3 c4 c5 c6
  go_region_held3 (fun w' => w'.cell? ⟨gb, 0, none⟩ = some (.int .u64 ep) ∧ w'.cell? ⟨gb, 1, none⟩ = some (.int .i64 s) ∧ w'.cell? ⟨gb, 2, none⟩ = some (.int .i64 l) ∧ w'.cell? ⟨gb, 3, none⟩ = some (.int .i64 n) ∧ w'.cell? ⟨gb, 4, none⟩ = some (.int .i64 sp) ∧ w'.cell? ⟨gb, 5, none⟩ = some (.int .i64 wd) ∧ w'.cell? ⟨gb, 6, none⟩ = some (.int .u64 lg)) (first | with_reducible exact HS0.out | with_reducible exact HS0d.out | with_reducible exact HS1.out | with_reducible exact HS2.out)
    (first
      | (go_at_call 54
         refine (HO.out _).mono ?_
         rintro e w' ⟨rfl, hl0⟩
         have hl : Moves (fun _ => False) W0 w' := by { first | exact hl0 | exact (Moves.refl (fun _ => False) W0).drew.trans hl0 }
         have hb1 : w'.heap[gb + 1]? = some (.cells #[.int .u64 0, .int .i64 0, .int .i64 0, .int .i64 0, .int .i64 0, .int .i64 0, .int .u64 0] 49 (0, 0)) := (hl.block _ (lt_of_block B1.out) (fun e => e)).trans B1.out
         have hbb : w'.heap[gb]? = some (.cells #[.int .u64 ep, .int .i64 s, .int .i64 l, .int .i64 n, .int .i64 sp, .int .i64 wd, .int .u64 lg] 32 (0, 0)) := (hl.block _ (lt_of_block B0.out) (fun e => e)).trans B0.out
         have hm7 : Moves (fun k => k = gb + 1) w' (((((((w'.setCell ⟨gb + 1, 0, none⟩ (.int .u64 ep)).setCell ⟨gb + 1, 1, none⟩ (.int .i64 s)).setCell ⟨gb + 1, 2, none⟩ (.int .i64 l)).setCell ⟨gb + 1, 3, none⟩ (.int .i64 n)).setCell ⟨gb + 1, 4, none⟩ (.int .i64 sp)).setCell ⟨gb + 1, 5, none⟩ (.int .i64 wd)).setCell ⟨gb + 1, 6, none⟩ (.int .u64 lg)) := Moves.setCell (p := ⟨gb + 1, 6, none⟩) (Moves.setCell (p := ⟨gb + 1, 5, none⟩) (Moves.setCell (p := ⟨gb + 1, 4, none⟩) (Moves.setCell (p := ⟨gb + 1, 3, none⟩) (Moves.setCell (p := ⟨gb + 1, 2, none⟩) (Moves.setCell (p := ⟨gb + 1, 1, none⟩) (Moves.setCell (p := ⟨gb + 1, 0, none⟩) (Moves.refl (fun k => k = gb + 1) w') (fun _ => rfl) (.int .u64 ep)) (fun _ => rfl) (.int .i64 s)) (fun _ => rfl) (.int .i64 l)) (fun _ => rfl) (.int .i64 n)) (fun _ => rfl) (.int .i64 sp)) (fun _ => rfl) (.int .i64 wd)) (fun _ => rfl) (.int .u64 lg)
         have HS1 := Lib.hid (cells7 hbb)
         have HS2 := Lib.hid (cells7 ((hm7.block gb (lt_of_block hbb) (fun (e : gb = gb + 1) => by omega)).trans hbb))
         obtain ⟨z0, z1, z2, z3, z4, z5, z6⟩ := cells7 hb1
         have f0 : w'.frozen? ⟨gb + 1, 0, none⟩ = false := by { simp [World.frozen?, hb1] }
         have f1 : w'.frozen? ⟨gb + 1, 1, none⟩ = false := by { simp [World.frozen?, hb1] }
         have f2 : w'.frozen? ⟨gb + 1, 2, none⟩ = false := by { simp [World.frozen?, hb1] }
         have f3 : w'.frozen? ⟨gb + 1, 3, none⟩ = false := by { simp [World.frozen?, hb1] }
         have f4 : w'.frozen? ⟨gb + 1, 4, none⟩ = false := by { simp [World.frozen?, hb1] }
         have f5 : w'.frozen? ⟨gb + 1, 5, none⟩ = false := by { simp [World.frozen?, hb1] }
         have f6 : w'.frozen? ⟨gb + 1, 6, none⟩ = false := by { simp [World.frozen?, hb1] }
         have zb : gb + 1 < w'.heap.size := lt_of_block hb1
         have HB1 := Lib.hid hb1
         have HL := Lib.hid hl
         have HM7 := Lib.hid hm7
         clear hb1 hl hl0 hbb hm7)
      | fail)
  have e7 := cells7 (set7 (a0 := .int .u64 ep) (a1 := .int .i64 s) (a2 := .int .i64 l) (a3 := .int .i64 n) (a4 := .int .i64 sp) (a5 := .int .i64 wd) (a6 := .int .u64 lg) HB1.out)
  have hm := HM7.out
  clear HS1 HS2 HM7 z0 z1 z2 z3 z4 z5 z6 f0 f1 f2 f3 f4 f5 f6 zb
  generalize (((((((w'.setCell ⟨gb + 1, 0, none⟩ (.int .u64 ep)).setCell ⟨gb + 1, 1, none⟩ (.int .i64 s)).setCell ⟨gb + 1, 2, none⟩ (.int .i64 l)).setCell ⟨gb + 1, 3, none⟩ (.int .i64 n)).setCell ⟨gb + 1, 4, none⟩ (.int .i64 sp)).setCell ⟨gb + 1, 5, none⟩ (.int .i64 wd)).setCell ⟨gb + 1, 6, none⟩ (.int .u64 lg)) = Y at hm e7 ⊢
  obtain ⟨e0, e1, e2, e3, e4, e5, e6⟩ := e7
  go_wp2
  exact bodyPost_ret (v := .agg #[.int .u64 ep, .int .i64 s, .int .i64 l, .int .i64 n, .int .i64 sp, .int .i64 wd, .int .u64 lg]) (by simp [results, Try.results23, go_sem, e0, e1, e2, e3, e4, e5, e6]) rfl ⟨rfl, ((M0.out.trans HL.out).andThen hm (fun k e hk => by have := HGB.out; omega))⟩
end Go.Proofs.Ytnagpianaghjeaa.Sl
