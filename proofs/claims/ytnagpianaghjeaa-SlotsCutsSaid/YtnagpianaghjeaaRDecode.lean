/-
  loamref6.Decode. (Printed by gen_rdecode.py.)
-/
import Derived.Test.YtnagpianaghjeaaNumber
import Derived.Test.YtnagpianaghjeaaDecodeAny
import Derived.StillTailTactics
namespace Go.Proofs.Ytnagpianaghjeaa.Sl
open Go Go.RowKit Go.Proofs

theorem SameV.flip {P : Program} {f : FuncId} {args : Array Value} {w : World} {v : Value} (h : Calls P f args w (SameV w v)) : Calls P f args w (fun e w'' => e = .returned v ∧ w'' = w) := h.mono fun _ _ q => ⟨q.1, q.2.symm⟩
set_option maxRecDepth 100000 in
set_option maxHeartbeats 4000000 in
theorem rdecode_bad {w : World} {A : Option Addr} {n c : Nat} {x0 x1 x2 x3 x4 x5 x6 : Int} (hn : 64 ≤ (n : Int)) (hm : (n : Int) ≤ 1000000) (b1 : 0 ≤ x1 ∧ x1 < 4294967296) (b2 : 0 ≤ x2 ∧ x2 < 4294967296) (b3 : 0 ≤ x3 ∧ x3 < 4294967296) (b4 : 0 ≤ x4 ∧ x4 < 4294967296) (b5 : 0 ≤ x5 ∧ x5 < 4294967296) (r0 : ∀ W, Moves (fun _ => False) w W → Calls Try.prog 109 #[.slice A n c, .int .i64 8, .int .i64 8] W (SameV W (.int .u64 x0))) (r1 : ∀ W, Moves (fun _ => False) w W → Calls Try.prog 109 #[.slice A n c, .int .i64 16, .int .i64 4] W (SameV W (.int .u64 x1))) (r2 : ∀ W, Moves (fun _ => False) w W → Calls Try.prog 109 #[.slice A n c, .int .i64 20, .int .i64 4] W (SameV W (.int .u64 x2))) (r3 : ∀ W, Moves (fun _ => False) w W → Calls Try.prog 109 #[.slice A n c, .int .i64 24, .int .i64 4] W (SameV W (.int .u64 x3))) (r4 : ∀ W, Moves (fun _ => False) w W → Calls Try.prog 109 #[.slice A n c, .int .i64 28, .int .i64 4] W (SameV W (.int .u64 x4))) (r5 : ∀ W, Moves (fun _ => False) w W → Calls Try.prog 109 #[.slice A n c, .int .i64 32, .int .i64 4] W (SameV W (.int .u64 x5))) (r6 : ∀ W, Moves (fun _ => False) w W → Calls Try.prog 109 #[.slice A n c, .int .i64 36, .int .i64 8] W (SameV W (.int .u64 x6))) (hE : ∀ W, Moves (fun _ => False) w W → Calls Try.prog 66 #[blkV ⟨x0, ⟨x1, x2, x3⟩, x4, x5, x6⟩] W (fun e w' => ∃ v', e = .returned (.tuple #[v', .int .i64 1]) ∧ Moves (fun _ => False) W w')) : Calls Try.prog 70 #[.slice A n c] w (fun e w' => e = .returned (.tuple #[blkV zeroB, .int .i64 2]) ∧ Moves (fun _ => False) w w') := by
  have R0 := Lib.hid r0
  have R1 := Lib.hid r1
  have R2 := Lib.hid r2
  have R3 := Lib.hid r3
  have R4 := Lib.hid r4
  have R5 := Lib.hid r5
  have R6 := Lib.hid r6
  have HE := Lib.hid hE
  obtain ⟨b1a, b1b⟩ := b1
  obtain ⟨b2a, b2b⟩ := b2
  obtain ⟨b3a, b3b⟩ := b3
  obtain ⟨b4a, b4b⟩ := b4
  obtain ⟨b5a, b5b⟩ := b5
  clear r0 r1 r2 r3 r4 r5 r6 hE
  have M0 := Lib.hid ((Moves.refl (fun _ => False) w).alloc (.cells #[.int .u64 0, .int .i64 0, .int .i64 0, .int .i64 0, .int .i64 0, .int .i64 0, .int .u64 0] 49))
  have B2 := Lib.hid (heap_alloc_new w (.cells #[.int .u64 0, .int .i64 0, .int .i64 0, .int .i64 0, .int .i64 0, .int .i64 0, .int .u64 0] 49))
  go_enter Try.func70, Try.ntmps70
  go_wp2_with fail
  generalize w.alloc (.cells #[.int .u64 0, .int .i64 0, .int .i64 0, .int .i64 0, .int .i64 0, .int .i64 0, .int .u64 0] 49) = W0 at M0 B2 ⊢
  obtain ⟨gb, hgb⟩ : ∃ gb, gb = w.heap.size := ⟨_, rfl⟩
  rw [← hgb] at B2 ⊢
  have HGB := Lib.hid hgb
  clear hgb
  refine (R1.out W0 M0.out).mono ?_
  rintro e w1 ⟨rfl, rfl⟩
  go_wp2_with fail
  refine (R2.out W0 M0.out).mono ?_
  rintro e w1 ⟨rfl, rfl⟩
  go_wp2_with fail
  refine (R3.out W0 M0.out).mono ?_
  rintro e w1 ⟨rfl, rfl⟩
  go_wp2_with fail
  have M1 := Lib.hid (M0.out.alloc (.cells #[.int .i64 x1, .int .i64 x2, .int .i64 x3] 47))
  have c4 := cells3 (heap_alloc_new W0 (.cells #[.int .i64 x1, .int .i64 x2, .int .i64 x3] 47))
  have B2b := Lib.hid ((Below.heap_alloc W0 (.cells #[.int .i64 x1, .int .i64 x2, .int .i64 x3] 47) _ (lt_of_block B2.out)).trans B2.out)
  have hz4 : W0.heap.size < (W0.alloc (.cells #[.int .i64 x1, .int .i64 x2, .int .i64 x3] 47)).heap.size := by simp
  generalize W0.alloc (.cells #[.int .i64 x1, .int .i64 x2, .int .i64 x3] 47) = W1 at M1 c4 B2b hz4 ⊢
  generalize W0.heap.size = g4 at c4 hz4 ⊢
  obtain ⟨k0, k1, k2⟩ := c4
  have e4 : IntKind.i64.wrap x4 = x4 := IntWalk.i64_in _ (by omega)
  have e5 : IntKind.i64.wrap x5 = x5 := IntWalk.i64_in _ (by omega)
  have hK0 := KpS.refl W1
  have HN : Hid (∀ w', KpS W1 w' → KpS W1 w' ∧ w'.cell? ⟨g4, 0, none⟩ = some (.int .i64 x1) ∧ w'.cell? ⟨g4, 1, none⟩ = some (.int .i64 x2) ∧ w'.cell? ⟨g4, 2, none⟩ = some (.int .i64 x3)) := Lib.hid fun w' hk => ⟨hk, hk.cell k0, hk.cell k1, hk.cell k2⟩
  go_region_held3 (fun w' => KpS W1 w' ∧ w'.cell? ⟨g4, 0, none⟩ = some (.int .i64 x1) ∧ w'.cell? ⟨g4, 1, none⟩ = some (.int .i64 x2) ∧ w'.cell? ⟨g4, 2, none⟩ = some (.int .i64 x3)) (first | exact HN.out _ hK0 | assumption | exact HN.out _ (KpS.of (((Moves.refl (fun _ => False) W1).alloc _).drew)) | exact HN.out _ (KpS.of ((Moves.refl (fun _ => False) W1).alloc _)) | go_keep)
    (first
      | (go_at_call 109; (with_reducible refine (R0.out _ (by exact M1.out.trans (KpS.moves (And.left (by assumption))))).mono ?_); rintro e w' ⟨rfl, rfl⟩)
      | (go_at_call 109; (with_reducible refine (R4.out _ (by exact M1.out.trans (KpS.moves (And.left (by assumption))))).mono ?_); rintro e w' ⟨rfl, rfl⟩)
      | (go_at_call 109; (with_reducible refine (R5.out _ (by exact M1.out.trans (KpS.moves (And.left (by assumption))))).mono ?_); rintro e w' ⟨rfl, rfl⟩)
      | (go_at_call 109; (with_reducible refine (R6.out _ (by exact M1.out.trans (KpS.moves (And.left (by assumption))))).mono ?_); rintro e w' ⟨rfl, rfl⟩)
      | fail)
  clear k0 k1 k2 hK0
  all_goals
    have hA : Moves (fun _ => False) w (W1.alloc (.cells #[.int .u64 x0, .int .i64 x1, .int .i64 x2, .int .i64 x3, .int .i64 x4, .int .i64 x5, .int .u64 x6] 49)).drew := (M1.out.alloc _).drew
    have c5 := cells7 (show (W1.alloc (.cells #[.int .u64 x0, .int .i64 x1, .int .i64 x2, .int .i64 x3, .int .i64 x4, .int .i64 x5, .int .u64 x6] 49)).drew.heap[W1.heap.size]? = some (.cells #[.int .u64 x0, .int .i64 x1, .int .i64 x2, .int .i64 x3, .int .i64 x4, .int .i64 x5, .int .u64 x6] 49 (0, 0)) from heap_alloc_new W1 _)
    have B3 : (W1.alloc (.cells #[.int .u64 x0, .int .i64 x1, .int .i64 x2, .int .i64 x3, .int .i64 x4, .int .i64 x5, .int .u64 x6] 49)).drew.heap[gb]? = some (.cells #[.int .u64 0, .int .i64 0, .int .i64 0, .int .i64 0, .int .i64 0, .int .i64 0, .int .u64 0] 49 (0, 0)) := (Below.heap_alloc W1 (.cells #[.int .u64 x0, .int .i64 x1, .int .i64 x2, .int .i64 x3, .int .i64 x4, .int .i64 x5, .int .u64 x6] 49) _ (lt_of_block B2b.out)).trans B2b.out
    have g5 : W1.heap.size < (W1.alloc (.cells #[.int .u64 x0, .int .i64 x1, .int .i64 x2, .int .i64 x3, .int .i64 x4, .int .i64 x5, .int .u64 x6] 49)).drew.heap.size := by simp
    have gW : gb < W1.heap.size := lt_of_block B2b.out
    generalize (W1.alloc (.cells #[.int .u64 x0, .int .i64 x1, .int .i64 x2, .int .i64 x3, .int .i64 x4, .int .i64 x5, .int .u64 x6] 49)).drew = W3 at hA c5 B3 g5 ⊢
    go_wp2_with fail
    refine (HE.out W3 hA).mono ?_
    rintro e w2 ⟨v', rfl, hm2⟩
    have B2' := (hm2.block _ (lt_of_block B3) (fun e => e)).trans B3
    obtain ⟨s0, s1, s2, s3, s4, s5, s6⟩ := cells7 B2'
    have f0 : ∀ j, w2.frozen? ⟨gb, j, none⟩ = false := fun j => by simp [World.frozen?, B2']
    have B2h := Lib.hid B2'
    have z2 : gb < w2.heap.size := lt_of_block B2'
    have t0 : w2.cell? ⟨W1.heap.size, 0, none⟩ = some (.int .u64 x0) := (hm2.cell g5 (fun e => e)).trans c5.1
    have t1 : w2.cell? ⟨W1.heap.size, 1, none⟩ = some (.int .i64 x1) := (hm2.cell g5 (fun e => e)).trans c5.2.1
    have t2 : w2.cell? ⟨W1.heap.size, 2, none⟩ = some (.int .i64 x2) := (hm2.cell g5 (fun e => e)).trans c5.2.2.1
    have t3 : w2.cell? ⟨W1.heap.size, 3, none⟩ = some (.int .i64 x3) := (hm2.cell g5 (fun e => e)).trans c5.2.2.2.1
    have t4 : w2.cell? ⟨W1.heap.size, 4, none⟩ = some (.int .i64 x4) := (hm2.cell g5 (fun e => e)).trans c5.2.2.2.2.1
    have t5 : w2.cell? ⟨W1.heap.size, 5, none⟩ = some (.int .i64 x5) := (hm2.cell g5 (fun e => e)).trans c5.2.2.2.2.2.1
    have t6 : w2.cell? ⟨W1.heap.size, 6, none⟩ = some (.int .u64 x6) := (hm2.cell g5 (fun e => e)).trans c5.2.2.2.2.2.2
    have M2 := Lib.hid (hA.trans hm2)
    clear c5 hm2 B2' hA B3
    generalize W1.heap.size = g2 at t0 t1 t2 t3 t4 t5 t6 g5 gW ⊢
    go_wp2
    have e7 := cells7 (set7 (a0 := .int .u64 0) (a1 := .int .i64 0) (a2 := .int .i64 0) (a3 := .int .i64 0) (a4 := .int .i64 0) (a5 := .int .i64 0) (a6 := .int .u64 0) B2h.out)
    have m7 : Moves (fun k => k = gb) w2 (((((((w2.setCell ⟨gb, 0, none⟩ (.int .u64 0)).setCell ⟨gb, 1, none⟩ (.int .i64 0)).setCell ⟨gb, 2, none⟩ (.int .i64 0)).setCell ⟨gb, 3, none⟩ (.int .i64 0)).setCell ⟨gb, 4, none⟩ (.int .i64 0)).setCell ⟨gb, 5, none⟩ (.int .i64 0)).setCell ⟨gb, 6, none⟩ (.int .u64 0)) := Moves.setCell (p := ⟨gb, 6, none⟩) (Moves.setCell (p := ⟨gb, 5, none⟩) (Moves.setCell (p := ⟨gb, 4, none⟩) (Moves.setCell (p := ⟨gb, 3, none⟩) (Moves.setCell (p := ⟨gb, 2, none⟩) (Moves.setCell (p := ⟨gb, 1, none⟩) (Moves.setCell (p := ⟨gb, 0, none⟩) (Moves.refl (fun k => k = gb) w2) (fun _ => rfl) (.int .u64 0)) (fun _ => rfl) (.int .i64 0)) (fun _ => rfl) (.int .i64 0)) (fun _ => rfl) (.int .i64 0)) (fun _ => rfl) (.int .i64 0)) (fun _ => rfl) (.int .i64 0)) (fun _ => rfl) (.int .u64 0)
    have M4 : Moves (fun _ => False) w (((((((w2.setCell ⟨gb, 0, none⟩ (.int .u64 0)).setCell ⟨gb, 1, none⟩ (.int .i64 0)).setCell ⟨gb, 2, none⟩ (.int .i64 0)).setCell ⟨gb, 3, none⟩ (.int .i64 0)).setCell ⟨gb, 4, none⟩ (.int .i64 0)).setCell ⟨gb, 5, none⟩ (.int .i64 0)).setCell ⟨gb, 6, none⟩ (.int .u64 0)) := M2.out.andThen m7 (fun k e hk => by have := HGB.out; omega)
    clear m7 s0 s1 s2 s3 s4 s5 s6 f0
    generalize (((((((w2.setCell ⟨gb, 0, none⟩ (.int .u64 0)).setCell ⟨gb, 1, none⟩ (.int .i64 0)).setCell ⟨gb, 2, none⟩ (.int .i64 0)).setCell ⟨gb, 3, none⟩ (.int .i64 0)).setCell ⟨gb, 4, none⟩ (.int .i64 0)).setCell ⟨gb, 5, none⟩ (.int .i64 0)).setCell ⟨gb, 6, none⟩ (.int .u64 0)) = W4 at e7 M4 ⊢
    obtain ⟨e0, e1, e2, e3, e4, e5, e6⟩ := e7
    exact bodyPost_ret (v := .tuple #[blkV zeroB, .int .i64 2]) (by simp [results, Try.results70, go_sem, e0, e1, e2, e3, e4, e5, e6, zeroB]) rfl ⟨rfl, M4⟩
set_option maxRecDepth 100000 in
set_option maxHeartbeats 4000000 in
theorem rdecode_ne {w : World} {A : Option Addr} {n c : Nat} {x0 x1 x2 x3 x4 x5 x6 : Int} (hn : 64 ≤ (n : Int)) (hm : (n : Int) ≤ 1000000) (b1 : 0 ≤ x1 ∧ x1 < 4294967296) (b2 : 0 ≤ x2 ∧ x2 < 4294967296) (b3 : 0 ≤ x3 ∧ x3 < 4294967296) (b4 : 0 ≤ x4 ∧ x4 < 4294967296) (b5 : 0 ≤ x5 ∧ x5 < 4294967296) (r0 : ∀ W, Moves (fun _ => False) w W → Calls Try.prog 109 #[.slice A n c, .int .i64 8, .int .i64 8] W (SameV W (.int .u64 x0))) (r1 : ∀ W, Moves (fun _ => False) w W → Calls Try.prog 109 #[.slice A n c, .int .i64 16, .int .i64 4] W (SameV W (.int .u64 x1))) (r2 : ∀ W, Moves (fun _ => False) w W → Calls Try.prog 109 #[.slice A n c, .int .i64 20, .int .i64 4] W (SameV W (.int .u64 x2))) (r3 : ∀ W, Moves (fun _ => False) w W → Calls Try.prog 109 #[.slice A n c, .int .i64 24, .int .i64 4] W (SameV W (.int .u64 x3))) (r4 : ∀ W, Moves (fun _ => False) w W → Calls Try.prog 109 #[.slice A n c, .int .i64 28, .int .i64 4] W (SameV W (.int .u64 x4))) (r5 : ∀ W, Moves (fun _ => False) w W → Calls Try.prog 109 #[.slice A n c, .int .i64 32, .int .i64 4] W (SameV W (.int .u64 x5))) (r6 : ∀ W, Moves (fun _ => False) w W → Calls Try.prog 109 #[.slice A n c, .int .i64 36, .int .i64 8] W (SameV W (.int .u64 x6))) (hE : ∀ W, Moves (fun _ => False) w W → Calls Try.prog 66 #[blkV ⟨x0, ⟨x1, x2, x3⟩, x4, x5, x6⟩] W (fun e w' => ∃ v', e = .returned (.tuple #[v', .int .i64 0]) ∧ Moves (fun _ => False) W w' ∧ ∃ sx sy, (convert 55 9 v').run Try.prog w' = .ok (.string sx) w' ∧ (convert 55 9 (.slice A n c)).run Try.prog w' = .ok (.string sy) w' ∧ (sx.toList == sy.toList) = false)) : Calls Try.prog 70 #[.slice A n c] w (fun e w' => e = .returned (.tuple #[blkV zeroB, .int .i64 2]) ∧ Moves (fun _ => False) w w') := by
  have R0 := Lib.hid r0
  have R1 := Lib.hid r1
  have R2 := Lib.hid r2
  have R3 := Lib.hid r3
  have R4 := Lib.hid r4
  have R5 := Lib.hid r5
  have R6 := Lib.hid r6
  have HE := Lib.hid hE
  obtain ⟨b1a, b1b⟩ := b1
  obtain ⟨b2a, b2b⟩ := b2
  obtain ⟨b3a, b3b⟩ := b3
  obtain ⟨b4a, b4b⟩ := b4
  obtain ⟨b5a, b5b⟩ := b5
  clear r0 r1 r2 r3 r4 r5 r6 hE
  have M0 := Lib.hid ((Moves.refl (fun _ => False) w).alloc (.cells #[.int .u64 0, .int .i64 0, .int .i64 0, .int .i64 0, .int .i64 0, .int .i64 0, .int .u64 0] 49))
  have B2 := Lib.hid (heap_alloc_new w (.cells #[.int .u64 0, .int .i64 0, .int .i64 0, .int .i64 0, .int .i64 0, .int .i64 0, .int .u64 0] 49))
  go_enter Try.func70, Try.ntmps70
  go_wp2_with fail
  generalize w.alloc (.cells #[.int .u64 0, .int .i64 0, .int .i64 0, .int .i64 0, .int .i64 0, .int .i64 0, .int .u64 0] 49) = W0 at M0 B2 ⊢
  obtain ⟨gb, hgb⟩ : ∃ gb, gb = w.heap.size := ⟨_, rfl⟩
  rw [← hgb] at B2 ⊢
  have HGB := Lib.hid hgb
  clear hgb
  refine (R1.out W0 M0.out).mono ?_
  rintro e w1 ⟨rfl, rfl⟩
  go_wp2_with fail
  refine (R2.out W0 M0.out).mono ?_
  rintro e w1 ⟨rfl, rfl⟩
  go_wp2_with fail
  refine (R3.out W0 M0.out).mono ?_
  rintro e w1 ⟨rfl, rfl⟩
  go_wp2_with fail
  have M1 := Lib.hid (M0.out.alloc (.cells #[.int .i64 x1, .int .i64 x2, .int .i64 x3] 47))
  have c4 := cells3 (heap_alloc_new W0 (.cells #[.int .i64 x1, .int .i64 x2, .int .i64 x3] 47))
  have B2b := Lib.hid ((Below.heap_alloc W0 (.cells #[.int .i64 x1, .int .i64 x2, .int .i64 x3] 47) _ (lt_of_block B2.out)).trans B2.out)
  have hz4 : W0.heap.size < (W0.alloc (.cells #[.int .i64 x1, .int .i64 x2, .int .i64 x3] 47)).heap.size := by simp
  generalize W0.alloc (.cells #[.int .i64 x1, .int .i64 x2, .int .i64 x3] 47) = W1 at M1 c4 B2b hz4 ⊢
  generalize W0.heap.size = g4 at c4 hz4 ⊢
  obtain ⟨k0, k1, k2⟩ := c4
  have e4 : IntKind.i64.wrap x4 = x4 := IntWalk.i64_in _ (by omega)
  have e5 : IntKind.i64.wrap x5 = x5 := IntWalk.i64_in _ (by omega)
  have hK0 := KpS.refl W1
  have HN : Hid (∀ w', KpS W1 w' → KpS W1 w' ∧ w'.cell? ⟨g4, 0, none⟩ = some (.int .i64 x1) ∧ w'.cell? ⟨g4, 1, none⟩ = some (.int .i64 x2) ∧ w'.cell? ⟨g4, 2, none⟩ = some (.int .i64 x3)) := Lib.hid fun w' hk => ⟨hk, hk.cell k0, hk.cell k1, hk.cell k2⟩
  go_region_held3 (fun w' => KpS W1 w' ∧ w'.cell? ⟨g4, 0, none⟩ = some (.int .i64 x1) ∧ w'.cell? ⟨g4, 1, none⟩ = some (.int .i64 x2) ∧ w'.cell? ⟨g4, 2, none⟩ = some (.int .i64 x3)) (first | exact HN.out _ hK0 | assumption | exact HN.out _ (KpS.of (((Moves.refl (fun _ => False) W1).alloc _).drew)) | exact HN.out _ (KpS.of ((Moves.refl (fun _ => False) W1).alloc _)) | go_keep)
    (first
      | (go_at_call 109; (with_reducible refine (R0.out _ (by exact M1.out.trans (KpS.moves (And.left (by assumption))))).mono ?_); rintro e w' ⟨rfl, rfl⟩)
      | (go_at_call 109; (with_reducible refine (R4.out _ (by exact M1.out.trans (KpS.moves (And.left (by assumption))))).mono ?_); rintro e w' ⟨rfl, rfl⟩)
      | (go_at_call 109; (with_reducible refine (R5.out _ (by exact M1.out.trans (KpS.moves (And.left (by assumption))))).mono ?_); rintro e w' ⟨rfl, rfl⟩)
      | (go_at_call 109; (with_reducible refine (R6.out _ (by exact M1.out.trans (KpS.moves (And.left (by assumption))))).mono ?_); rintro e w' ⟨rfl, rfl⟩)
      | fail)
  clear k0 k1 k2 hK0
  all_goals
    have hA : Moves (fun _ => False) w (W1.alloc (.cells #[.int .u64 x0, .int .i64 x1, .int .i64 x2, .int .i64 x3, .int .i64 x4, .int .i64 x5, .int .u64 x6] 49)).drew := (M1.out.alloc _).drew
    have c5 := cells7 (show (W1.alloc (.cells #[.int .u64 x0, .int .i64 x1, .int .i64 x2, .int .i64 x3, .int .i64 x4, .int .i64 x5, .int .u64 x6] 49)).drew.heap[W1.heap.size]? = some (.cells #[.int .u64 x0, .int .i64 x1, .int .i64 x2, .int .i64 x3, .int .i64 x4, .int .i64 x5, .int .u64 x6] 49 (0, 0)) from heap_alloc_new W1 _)
    have B3 : (W1.alloc (.cells #[.int .u64 x0, .int .i64 x1, .int .i64 x2, .int .i64 x3, .int .i64 x4, .int .i64 x5, .int .u64 x6] 49)).drew.heap[gb]? = some (.cells #[.int .u64 0, .int .i64 0, .int .i64 0, .int .i64 0, .int .i64 0, .int .i64 0, .int .u64 0] 49 (0, 0)) := (Below.heap_alloc W1 (.cells #[.int .u64 x0, .int .i64 x1, .int .i64 x2, .int .i64 x3, .int .i64 x4, .int .i64 x5, .int .u64 x6] 49) _ (lt_of_block B2b.out)).trans B2b.out
    have g5 : W1.heap.size < (W1.alloc (.cells #[.int .u64 x0, .int .i64 x1, .int .i64 x2, .int .i64 x3, .int .i64 x4, .int .i64 x5, .int .u64 x6] 49)).drew.heap.size := by simp
    have gW : gb < W1.heap.size := lt_of_block B2b.out
    generalize (W1.alloc (.cells #[.int .u64 x0, .int .i64 x1, .int .i64 x2, .int .i64 x3, .int .i64 x4, .int .i64 x5, .int .u64 x6] 49)).drew = W3 at hA c5 B3 g5 ⊢
    go_wp2_with fail
    refine (HE.out W3 hA).mono ?_
    rintro e w2 ⟨v', rfl, hm2, sx, sy, hcx, hcy, hxy⟩
    have B2' := (hm2.block _ (lt_of_block B3) (fun e => e)).trans B3
    obtain ⟨s0, s1, s2, s3, s4, s5, s6⟩ := cells7 B2'
    have f0 : ∀ j, w2.frozen? ⟨gb, j, none⟩ = false := fun j => by simp [World.frozen?, B2']
    have B2h := Lib.hid B2'
    have z2 : gb < w2.heap.size := lt_of_block B2'
    have t0 : w2.cell? ⟨W1.heap.size, 0, none⟩ = some (.int .u64 x0) := (hm2.cell g5 (fun e => e)).trans c5.1
    have t1 : w2.cell? ⟨W1.heap.size, 1, none⟩ = some (.int .i64 x1) := (hm2.cell g5 (fun e => e)).trans c5.2.1
    have t2 : w2.cell? ⟨W1.heap.size, 2, none⟩ = some (.int .i64 x2) := (hm2.cell g5 (fun e => e)).trans c5.2.2.1
    have t3 : w2.cell? ⟨W1.heap.size, 3, none⟩ = some (.int .i64 x3) := (hm2.cell g5 (fun e => e)).trans c5.2.2.2.1
    have t4 : w2.cell? ⟨W1.heap.size, 4, none⟩ = some (.int .i64 x4) := (hm2.cell g5 (fun e => e)).trans c5.2.2.2.2.1
    have t5 : w2.cell? ⟨W1.heap.size, 5, none⟩ = some (.int .i64 x5) := (hm2.cell g5 (fun e => e)).trans c5.2.2.2.2.2.1
    have t6 : w2.cell? ⟨W1.heap.size, 6, none⟩ = some (.int .u64 x6) := (hm2.cell g5 (fun e => e)).trans c5.2.2.2.2.2.2
    have M2 := Lib.hid (hA.trans hm2)
    clear c5 hm2 B2' hA B3
    generalize W1.heap.size = g2 at t0 t1 t2 t3 t4 t5 t6 g5 gW ⊢
    go_wp2
    have e7 := cells7 (set7 (a0 := .int .u64 0) (a1 := .int .i64 0) (a2 := .int .i64 0) (a3 := .int .i64 0) (a4 := .int .i64 0) (a5 := .int .i64 0) (a6 := .int .u64 0) B2h.out)
    have m7 : Moves (fun k => k = gb) w2 (((((((w2.setCell ⟨gb, 0, none⟩ (.int .u64 0)).setCell ⟨gb, 1, none⟩ (.int .i64 0)).setCell ⟨gb, 2, none⟩ (.int .i64 0)).setCell ⟨gb, 3, none⟩ (.int .i64 0)).setCell ⟨gb, 4, none⟩ (.int .i64 0)).setCell ⟨gb, 5, none⟩ (.int .i64 0)).setCell ⟨gb, 6, none⟩ (.int .u64 0)) := Moves.setCell (p := ⟨gb, 6, none⟩) (Moves.setCell (p := ⟨gb, 5, none⟩) (Moves.setCell (p := ⟨gb, 4, none⟩) (Moves.setCell (p := ⟨gb, 3, none⟩) (Moves.setCell (p := ⟨gb, 2, none⟩) (Moves.setCell (p := ⟨gb, 1, none⟩) (Moves.setCell (p := ⟨gb, 0, none⟩) (Moves.refl (fun k => k = gb) w2) (fun _ => rfl) (.int .u64 0)) (fun _ => rfl) (.int .i64 0)) (fun _ => rfl) (.int .i64 0)) (fun _ => rfl) (.int .i64 0)) (fun _ => rfl) (.int .i64 0)) (fun _ => rfl) (.int .i64 0)) (fun _ => rfl) (.int .u64 0)
    have M4 : Moves (fun _ => False) w (((((((w2.setCell ⟨gb, 0, none⟩ (.int .u64 0)).setCell ⟨gb, 1, none⟩ (.int .i64 0)).setCell ⟨gb, 2, none⟩ (.int .i64 0)).setCell ⟨gb, 3, none⟩ (.int .i64 0)).setCell ⟨gb, 4, none⟩ (.int .i64 0)).setCell ⟨gb, 5, none⟩ (.int .i64 0)).setCell ⟨gb, 6, none⟩ (.int .u64 0)) := M2.out.andThen m7 (fun k e hk => by have := HGB.out; omega)
    clear m7 s0 s1 s2 s3 s4 s5 s6 f0
    generalize (((((((w2.setCell ⟨gb, 0, none⟩ (.int .u64 0)).setCell ⟨gb, 1, none⟩ (.int .i64 0)).setCell ⟨gb, 2, none⟩ (.int .i64 0)).setCell ⟨gb, 3, none⟩ (.int .i64 0)).setCell ⟨gb, 4, none⟩ (.int .i64 0)).setCell ⟨gb, 5, none⟩ (.int .i64 0)).setCell ⟨gb, 6, none⟩ (.int .u64 0)) = W4 at e7 M4 ⊢
    obtain ⟨e0, e1, e2, e3, e4, e5, e6⟩ := e7
    exact bodyPost_ret (v := .tuple #[blkV zeroB, .int .i64 2]) (by simp [results, Try.results70, go_sem, e0, e1, e2, e3, e4, e5, e6, zeroB]) rfl ⟨rfl, M4⟩
set_option maxRecDepth 100000 in
set_option maxHeartbeats 4000000 in
theorem rdecode_eq {w : World} {A : Option Addr} {n c : Nat} {x0 x1 x2 x3 x4 x5 x6 : Int} (hn : 64 ≤ (n : Int)) (hm : (n : Int) ≤ 1000000) (b1 : 0 ≤ x1 ∧ x1 < 4294967296) (b2 : 0 ≤ x2 ∧ x2 < 4294967296) (b3 : 0 ≤ x3 ∧ x3 < 4294967296) (b4 : 0 ≤ x4 ∧ x4 < 4294967296) (b5 : 0 ≤ x5 ∧ x5 < 4294967296) (r0 : ∀ W, Moves (fun _ => False) w W → Calls Try.prog 109 #[.slice A n c, .int .i64 8, .int .i64 8] W (SameV W (.int .u64 x0))) (r1 : ∀ W, Moves (fun _ => False) w W → Calls Try.prog 109 #[.slice A n c, .int .i64 16, .int .i64 4] W (SameV W (.int .u64 x1))) (r2 : ∀ W, Moves (fun _ => False) w W → Calls Try.prog 109 #[.slice A n c, .int .i64 20, .int .i64 4] W (SameV W (.int .u64 x2))) (r3 : ∀ W, Moves (fun _ => False) w W → Calls Try.prog 109 #[.slice A n c, .int .i64 24, .int .i64 4] W (SameV W (.int .u64 x3))) (r4 : ∀ W, Moves (fun _ => False) w W → Calls Try.prog 109 #[.slice A n c, .int .i64 28, .int .i64 4] W (SameV W (.int .u64 x4))) (r5 : ∀ W, Moves (fun _ => False) w W → Calls Try.prog 109 #[.slice A n c, .int .i64 32, .int .i64 4] W (SameV W (.int .u64 x5))) (r6 : ∀ W, Moves (fun _ => False) w W → Calls Try.prog 109 #[.slice A n c, .int .i64 36, .int .i64 8] W (SameV W (.int .u64 x6))) (hE : ∀ W, Moves (fun _ => False) w W → Calls Try.prog 66 #[blkV ⟨x0, ⟨x1, x2, x3⟩, x4, x5, x6⟩] W (fun e w' => ∃ v', e = .returned (.tuple #[v', .int .i64 0]) ∧ Moves (fun _ => False) W w' ∧ ∃ sx sy, (convert 55 9 v').run Try.prog w' = .ok (.string sx) w' ∧ (convert 55 9 (.slice A n c)).run Try.prog w' = .ok (.string sy) w' ∧ (sx.toList == sy.toList) = true)) : Calls Try.prog 70 #[.slice A n c] w (fun e w' => e = .returned (.tuple #[blkV ⟨x0, ⟨x1, x2, x3⟩, x4, x5, x6⟩, .int .i64 0]) ∧ Moves (fun _ => False) w w') := by
  have R0 := Lib.hid r0
  have R1 := Lib.hid r1
  have R2 := Lib.hid r2
  have R3 := Lib.hid r3
  have R4 := Lib.hid r4
  have R5 := Lib.hid r5
  have R6 := Lib.hid r6
  have HE := Lib.hid hE
  obtain ⟨b1a, b1b⟩ := b1
  obtain ⟨b2a, b2b⟩ := b2
  obtain ⟨b3a, b3b⟩ := b3
  obtain ⟨b4a, b4b⟩ := b4
  obtain ⟨b5a, b5b⟩ := b5
  clear r0 r1 r2 r3 r4 r5 r6 hE
  have M0 := Lib.hid ((Moves.refl (fun _ => False) w).alloc (.cells #[.int .u64 0, .int .i64 0, .int .i64 0, .int .i64 0, .int .i64 0, .int .i64 0, .int .u64 0] 49))
  have B2 := Lib.hid (heap_alloc_new w (.cells #[.int .u64 0, .int .i64 0, .int .i64 0, .int .i64 0, .int .i64 0, .int .i64 0, .int .u64 0] 49))
  go_enter Try.func70, Try.ntmps70
  go_wp2_with fail
  generalize w.alloc (.cells #[.int .u64 0, .int .i64 0, .int .i64 0, .int .i64 0, .int .i64 0, .int .i64 0, .int .u64 0] 49) = W0 at M0 B2 ⊢
  obtain ⟨gb, hgb⟩ : ∃ gb, gb = w.heap.size := ⟨_, rfl⟩
  rw [← hgb] at B2 ⊢
  have HGB := Lib.hid hgb
  clear hgb
  refine (R1.out W0 M0.out).mono ?_
  rintro e w1 ⟨rfl, rfl⟩
  go_wp2_with fail
  refine (R2.out W0 M0.out).mono ?_
  rintro e w1 ⟨rfl, rfl⟩
  go_wp2_with fail
  refine (R3.out W0 M0.out).mono ?_
  rintro e w1 ⟨rfl, rfl⟩
  go_wp2_with fail
  have M1 := Lib.hid (M0.out.alloc (.cells #[.int .i64 x1, .int .i64 x2, .int .i64 x3] 47))
  have c4 := cells3 (heap_alloc_new W0 (.cells #[.int .i64 x1, .int .i64 x2, .int .i64 x3] 47))
  have B2b := Lib.hid ((Below.heap_alloc W0 (.cells #[.int .i64 x1, .int .i64 x2, .int .i64 x3] 47) _ (lt_of_block B2.out)).trans B2.out)
  have hz4 : W0.heap.size < (W0.alloc (.cells #[.int .i64 x1, .int .i64 x2, .int .i64 x3] 47)).heap.size := by simp
  generalize W0.alloc (.cells #[.int .i64 x1, .int .i64 x2, .int .i64 x3] 47) = W1 at M1 c4 B2b hz4 ⊢
  generalize W0.heap.size = g4 at c4 hz4 ⊢
  obtain ⟨k0, k1, k2⟩ := c4
  have e4 : IntKind.i64.wrap x4 = x4 := IntWalk.i64_in _ (by omega)
  have e5 : IntKind.i64.wrap x5 = x5 := IntWalk.i64_in _ (by omega)
  have hK0 := KpS.refl W1
  have HN : Hid (∀ w', KpS W1 w' → KpS W1 w' ∧ w'.cell? ⟨g4, 0, none⟩ = some (.int .i64 x1) ∧ w'.cell? ⟨g4, 1, none⟩ = some (.int .i64 x2) ∧ w'.cell? ⟨g4, 2, none⟩ = some (.int .i64 x3)) := Lib.hid fun w' hk => ⟨hk, hk.cell k0, hk.cell k1, hk.cell k2⟩
  go_region_held3 (fun w' => KpS W1 w' ∧ w'.cell? ⟨g4, 0, none⟩ = some (.int .i64 x1) ∧ w'.cell? ⟨g4, 1, none⟩ = some (.int .i64 x2) ∧ w'.cell? ⟨g4, 2, none⟩ = some (.int .i64 x3)) (first | exact HN.out _ hK0 | assumption | exact HN.out _ (KpS.of (((Moves.refl (fun _ => False) W1).alloc _).drew)) | exact HN.out _ (KpS.of ((Moves.refl (fun _ => False) W1).alloc _)) | go_keep)
    (first
      | (go_at_call 109; (with_reducible refine (R0.out _ (by exact M1.out.trans (KpS.moves (And.left (by assumption))))).mono ?_); rintro e w' ⟨rfl, rfl⟩)
      | (go_at_call 109; (with_reducible refine (R4.out _ (by exact M1.out.trans (KpS.moves (And.left (by assumption))))).mono ?_); rintro e w' ⟨rfl, rfl⟩)
      | (go_at_call 109; (with_reducible refine (R5.out _ (by exact M1.out.trans (KpS.moves (And.left (by assumption))))).mono ?_); rintro e w' ⟨rfl, rfl⟩)
      | (go_at_call 109; (with_reducible refine (R6.out _ (by exact M1.out.trans (KpS.moves (And.left (by assumption))))).mono ?_); rintro e w' ⟨rfl, rfl⟩)
      | fail)
  clear k0 k1 k2 hK0
  all_goals
    have hA : Moves (fun _ => False) w (W1.alloc (.cells #[.int .u64 x0, .int .i64 x1, .int .i64 x2, .int .i64 x3, .int .i64 x4, .int .i64 x5, .int .u64 x6] 49)).drew := (M1.out.alloc _).drew
    have c5 := cells7 (show (W1.alloc (.cells #[.int .u64 x0, .int .i64 x1, .int .i64 x2, .int .i64 x3, .int .i64 x4, .int .i64 x5, .int .u64 x6] 49)).drew.heap[W1.heap.size]? = some (.cells #[.int .u64 x0, .int .i64 x1, .int .i64 x2, .int .i64 x3, .int .i64 x4, .int .i64 x5, .int .u64 x6] 49 (0, 0)) from heap_alloc_new W1 _)
    have B3 : (W1.alloc (.cells #[.int .u64 x0, .int .i64 x1, .int .i64 x2, .int .i64 x3, .int .i64 x4, .int .i64 x5, .int .u64 x6] 49)).drew.heap[gb]? = some (.cells #[.int .u64 0, .int .i64 0, .int .i64 0, .int .i64 0, .int .i64 0, .int .i64 0, .int .u64 0] 49 (0, 0)) := (Below.heap_alloc W1 (.cells #[.int .u64 x0, .int .i64 x1, .int .i64 x2, .int .i64 x3, .int .i64 x4, .int .i64 x5, .int .u64 x6] 49) _ (lt_of_block B2b.out)).trans B2b.out
    have g5 : W1.heap.size < (W1.alloc (.cells #[.int .u64 x0, .int .i64 x1, .int .i64 x2, .int .i64 x3, .int .i64 x4, .int .i64 x5, .int .u64 x6] 49)).drew.heap.size := by simp
    have gW : gb < W1.heap.size := lt_of_block B2b.out
    generalize (W1.alloc (.cells #[.int .u64 x0, .int .i64 x1, .int .i64 x2, .int .i64 x3, .int .i64 x4, .int .i64 x5, .int .u64 x6] 49)).drew = W3 at hA c5 B3 g5 ⊢
    go_wp2_with fail
    refine (HE.out W3 hA).mono ?_
    rintro e w2 ⟨v', rfl, hm2, sx, sy, hcx, hcy, hxy⟩
    have B2' := (hm2.block _ (lt_of_block B3) (fun e => e)).trans B3
    obtain ⟨s0, s1, s2, s3, s4, s5, s6⟩ := cells7 B2'
    have f0 : ∀ j, w2.frozen? ⟨gb, j, none⟩ = false := fun j => by simp [World.frozen?, B2']
    have B2h := Lib.hid B2'
    have z2 : gb < w2.heap.size := lt_of_block B2'
    have t0 : w2.cell? ⟨W1.heap.size, 0, none⟩ = some (.int .u64 x0) := (hm2.cell g5 (fun e => e)).trans c5.1
    have t1 : w2.cell? ⟨W1.heap.size, 1, none⟩ = some (.int .i64 x1) := (hm2.cell g5 (fun e => e)).trans c5.2.1
    have t2 : w2.cell? ⟨W1.heap.size, 2, none⟩ = some (.int .i64 x2) := (hm2.cell g5 (fun e => e)).trans c5.2.2.1
    have t3 : w2.cell? ⟨W1.heap.size, 3, none⟩ = some (.int .i64 x3) := (hm2.cell g5 (fun e => e)).trans c5.2.2.2.1
    have t4 : w2.cell? ⟨W1.heap.size, 4, none⟩ = some (.int .i64 x4) := (hm2.cell g5 (fun e => e)).trans c5.2.2.2.2.1
    have t5 : w2.cell? ⟨W1.heap.size, 5, none⟩ = some (.int .i64 x5) := (hm2.cell g5 (fun e => e)).trans c5.2.2.2.2.2.1
    have t6 : w2.cell? ⟨W1.heap.size, 6, none⟩ = some (.int .u64 x6) := (hm2.cell g5 (fun e => e)).trans c5.2.2.2.2.2.2
    have M2 := Lib.hid (hA.trans hm2)
    clear c5 hm2 B2' hA B3
    generalize W1.heap.size = g2 at t0 t1 t2 t3 t4 t5 t6 g5 gW ⊢
    go_wp2
    have e7 := cells7 (set7 (a0 := .int .u64 x0) (a1 := .int .i64 x1) (a2 := .int .i64 x2) (a3 := .int .i64 x3) (a4 := .int .i64 x4) (a5 := .int .i64 x5) (a6 := .int .u64 x6) B2h.out)
    have m7 : Moves (fun k => k = gb) w2 (((((((w2.setCell ⟨gb, 0, none⟩ (.int .u64 x0)).setCell ⟨gb, 1, none⟩ (.int .i64 x1)).setCell ⟨gb, 2, none⟩ (.int .i64 x2)).setCell ⟨gb, 3, none⟩ (.int .i64 x3)).setCell ⟨gb, 4, none⟩ (.int .i64 x4)).setCell ⟨gb, 5, none⟩ (.int .i64 x5)).setCell ⟨gb, 6, none⟩ (.int .u64 x6)) := Moves.setCell (p := ⟨gb, 6, none⟩) (Moves.setCell (p := ⟨gb, 5, none⟩) (Moves.setCell (p := ⟨gb, 4, none⟩) (Moves.setCell (p := ⟨gb, 3, none⟩) (Moves.setCell (p := ⟨gb, 2, none⟩) (Moves.setCell (p := ⟨gb, 1, none⟩) (Moves.setCell (p := ⟨gb, 0, none⟩) (Moves.refl (fun k => k = gb) w2) (fun _ => rfl) (.int .u64 x0)) (fun _ => rfl) (.int .i64 x1)) (fun _ => rfl) (.int .i64 x2)) (fun _ => rfl) (.int .i64 x3)) (fun _ => rfl) (.int .i64 x4)) (fun _ => rfl) (.int .i64 x5)) (fun _ => rfl) (.int .u64 x6)
    have M4 : Moves (fun _ => False) w (((((((w2.setCell ⟨gb, 0, none⟩ (.int .u64 x0)).setCell ⟨gb, 1, none⟩ (.int .i64 x1)).setCell ⟨gb, 2, none⟩ (.int .i64 x2)).setCell ⟨gb, 3, none⟩ (.int .i64 x3)).setCell ⟨gb, 4, none⟩ (.int .i64 x4)).setCell ⟨gb, 5, none⟩ (.int .i64 x5)).setCell ⟨gb, 6, none⟩ (.int .u64 x6)) := M2.out.andThen m7 (fun k e hk => by have := HGB.out; omega)
    clear m7 s0 s1 s2 s3 s4 s5 s6 f0
    generalize (((((((w2.setCell ⟨gb, 0, none⟩ (.int .u64 x0)).setCell ⟨gb, 1, none⟩ (.int .i64 x1)).setCell ⟨gb, 2, none⟩ (.int .i64 x2)).setCell ⟨gb, 3, none⟩ (.int .i64 x3)).setCell ⟨gb, 4, none⟩ (.int .i64 x4)).setCell ⟨gb, 5, none⟩ (.int .i64 x5)).setCell ⟨gb, 6, none⟩ (.int .u64 x6)) = W4 at e7 M4 ⊢
    obtain ⟨e0, e1, e2, e3, e4, e5, e6⟩ := e7
    exact bodyPost_ret (v := .tuple #[blkV ⟨x0, ⟨x1, x2, x3⟩, x4, x5, x6⟩, .int .i64 0]) (by simp [results, Try.results70, go_sem, e0, e1, e2, e3, e4, e5, e6]) rfl ⟨rfl, M4⟩
theorem rdecode_any {w : World} {L : Nat → Prop} {v : Value} {s : List Int} (h : BRow w L v s) (hl : 64 ≤ s.length) : Calls Try.prog 70 #[v] w (DecPost w (decS crcL s)) := by
  have hr := fun (W : World) (hW : Moves (fun _ => False) w W) (p n : Nat) (h1 : 1 ≤ n) (h8 : n ≤ 8) (hp : p + n ≤ 44) => number_ok (h.moves hW (fun _ _ _ e => e)) p n h1 h8 (by omega)
  have hx : ∀ p, 0 ≤ getL s p 4 ∧ getL s p 4 < 4294967296 := fun p => getL_lt h.2.1 p 4
  have hlen := h.2.2
  have hB := h
  obtain ⟨⟨A, c, rfl, -⟩, -⟩ := h
  rw [List.length_map] at hr hB ⊢
  by_cases hg : GoodB (readS s)
  · have hE := fun W (hW : Moves (fun _ => False) w W) => (renc_ok hg W).mono (R' := fun e w' => ∃ v', e = .returned (.tuple #[v', .int .i64 0]) ∧ Moves (fun _ => False) W w' ∧ ∃ sx sy, (convert 55 9 v').run Try.prog w' = .ok (.string sx) w' ∧ (convert 55 9 (.slice A s.length c)).run Try.prog w' = .ok (.string sy) w' ∧ (sx.toList == sy.toList) = decide (encS crcL (readS s) = s)) (fun e w' ⟨v', he, hn⟩ => ⟨v', he, hn.2, _, _, conv_rowS (Row.of_owns hn.1), conv_rowS (hB.moves (hW.trans hn.2) (fun _ _ _ e => e)).1, str_eq (encS_byte _ _) hB.2.1⟩)
    by_cases hq : encS crcL (readS s) = s
    · have hd : decS crcL s = some (readS s) := by unfold decS; rw [if_pos ⟨hl, hg, hq⟩]
      rw [hd]
      rw [decide_eq_true hq] at hE
      exact rdecode_eq (by omega) (by omega) (hx 16) (hx 20) (hx 24) (hx 28) (hx 32) (fun W hW => hr W hW 8 8 (by decide) (by decide) (by decide)) (fun W hW => hr W hW 16 4 (by decide) (by decide) (by decide)) (fun W hW => hr W hW 20 4 (by decide) (by decide) (by decide)) (fun W hW => hr W hW 24 4 (by decide) (by decide) (by decide)) (fun W hW => hr W hW 28 4 (by decide) (by decide) (by decide)) (fun W hW => hr W hW 32 4 (by decide) (by decide) (by decide)) (fun W hW => hr W hW 36 8 (by decide) (by decide) (by decide)) hE
    · have hd : decS crcL s = none := by unfold decS; rw [if_neg (fun e => hq e.2.2)]
      rw [hd]
      rw [decide_eq_false hq] at hE
      exact rdecode_ne (by omega) (by omega) (hx 16) (hx 20) (hx 24) (hx 28) (hx 32) (fun W hW => hr W hW 8 8 (by decide) (by decide) (by decide)) (fun W hW => hr W hW 16 4 (by decide) (by decide) (by decide)) (fun W hW => hr W hW 20 4 (by decide) (by decide) (by decide)) (fun W hW => hr W hW 24 4 (by decide) (by decide) (by decide)) (fun W hW => hr W hW 28 4 (by decide) (by decide) (by decide)) (fun W hW => hr W hW 32 4 (by decide) (by decide) (by decide)) (fun W hW => hr W hW 36 8 (by decide) (by decide) (by decide)) hE
  · have hd : decS crcL s = none := by unfold decS; rw [if_neg (fun e => hg e.2.1)]
    rw [hd]
    have hE := fun W (_ : Moves (fun _ => False) w W) => (renc_bad hg W).mono (R' := fun e w' => ∃ v', e = .returned (.tuple #[v', .int .i64 1]) ∧ Moves (fun _ => False) W w') (fun e w' ⟨he, hm⟩ => ⟨_, he, hm⟩)
    exact rdecode_bad (by omega) (by omega) (hx 16) (hx 20) (hx 24) (hx 28) (hx 32) (fun W hW => hr W hW 8 8 (by decide) (by decide) (by decide)) (fun W hW => hr W hW 16 4 (by decide) (by decide) (by decide)) (fun W hW => hr W hW 20 4 (by decide) (by decide) (by decide)) (fun W hW => hr W hW 24 4 (by decide) (by decide) (by decide)) (fun W hW => hr W hW 28 4 (by decide) (by decide) (by decide)) (fun W hW => hr W hW 32 4 (by decide) (by decide) (by decide)) (fun W hW => hr W hW 36 8 (by decide) (by decide) (by decide)) hE
end Go.Proofs.Ytnagpianaghjeaa.Sl
