/-
  sup.Decode. (Printed by gen_decode.py.)
-/
import Derived.Test.YtnagpianaghjeaaEncodeBad
namespace Go.Proofs.Ytnagpianaghjeaa.Sl
open Go Go.RowKit Go.Proofs

def zeroB : Blk := ⟨0, ⟨0, 0, 0⟩, 0, 0, 0⟩
theorem encS_byte (crc : List Int → Int) (b : Blk) : ∀ x ∈ encS crc b, 0 ≤ x ∧ x < 256 := by
  unfold encS sealL
  refine putL_byte (fun x hx => ?_) _ _ _
  rcases List.mem_append.1 hx with h | h
  · rw [← putAll_end] at h
    exact putAll_byte b 8 x h
  · rw [(List.mem_replicate.1 h).2]
    exact ⟨by decide, by decide⟩
theorem set7 {w : World} {g : Nat} {z0 z1 z2 z3 z4 z5 z6 a0 a1 a2 a3 a4 a5 a6 : Value} {t : TypeId} (h : w.heap[g]? = some (.cells #[z0, z1, z2, z3, z4, z5, z6] t (0, 0))) :
    (((((((w.setCell ⟨g, 0, none⟩ a0).setCell ⟨g, 1, none⟩ a1).setCell ⟨g, 2, none⟩ a2).setCell ⟨g, 3, none⟩ a3).setCell ⟨g, 4, none⟩ a4).setCell ⟨g, 5, none⟩ a5).setCell ⟨g, 6, none⟩ a6).heap[g]? = some (.cells #[a0, a1, a2, a3, a4, a5, a6] t (0, 0)) := by
  simp [World.setCell, Array.getElem?_modify, h]
set_option maxRecDepth 100000 in
set_option maxHeartbeats 4000000 in
theorem decode_bad {w : World} {A : Option Addr} {n c : Nat} {x0 x1 x2 x3 x4 x5 x6 : Int} (hn : 64 ≤ (n : Int)) (hm : (n : Int) ≤ 1000000) (b1 : 0 ≤ x1 ∧ x1 < 4294967296) (b2 : 0 ≤ x2 ∧ x2 < 4294967296) (b3 : 0 ≤ x3 ∧ x3 < 4294967296) (b4 : 0 ≤ x4 ∧ x4 < 4294967296) (b5 : 0 ≤ x5 ∧ x5 < 4294967296) (r0 : ∀ W (g : Nat), Moves (fun _ => False) w W → W.cell? ⟨g, 0, none⟩ = some (.slice A n c) → Calls Try.prog 102 #[.int .i64 8, .int .i64 8, .pointer (some ⟨g, 0, none⟩)] W (SameV W (.int .u64 x0))) (r1 : ∀ W (g : Nat), Moves (fun _ => False) w W → W.cell? ⟨g, 0, none⟩ = some (.slice A n c) → Calls Try.prog 102 #[.int .i64 16, .int .i64 4, .pointer (some ⟨g, 0, none⟩)] W (SameV W (.int .u64 x1))) (r2 : ∀ W (g : Nat), Moves (fun _ => False) w W → W.cell? ⟨g, 0, none⟩ = some (.slice A n c) → Calls Try.prog 102 #[.int .i64 20, .int .i64 4, .pointer (some ⟨g, 0, none⟩)] W (SameV W (.int .u64 x2))) (r3 : ∀ W (g : Nat), Moves (fun _ => False) w W → W.cell? ⟨g, 0, none⟩ = some (.slice A n c) → Calls Try.prog 102 #[.int .i64 24, .int .i64 4, .pointer (some ⟨g, 0, none⟩)] W (SameV W (.int .u64 x3))) (r4 : ∀ W (g : Nat), Moves (fun _ => False) w W → W.cell? ⟨g, 0, none⟩ = some (.slice A n c) → Calls Try.prog 102 #[.int .i64 28, .int .i64 4, .pointer (some ⟨g, 0, none⟩)] W (SameV W (.int .u64 x4))) (r5 : ∀ W (g : Nat), Moves (fun _ => False) w W → W.cell? ⟨g, 0, none⟩ = some (.slice A n c) → Calls Try.prog 102 #[.int .i64 32, .int .i64 4, .pointer (some ⟨g, 0, none⟩)] W (SameV W (.int .u64 x5))) (r6 : ∀ W (g : Nat), Moves (fun _ => False) w W → W.cell? ⟨g, 0, none⟩ = some (.slice A n c) → Calls Try.prog 102 #[.int .i64 36, .int .i64 8, .pointer (some ⟨g, 0, none⟩)] W (SameV W (.int .u64 x6))) (hE : ∀ W, Moves (fun _ => False) w W → Calls Try.prog 56 #[blkV ⟨x0, ⟨x1, x2, x3⟩, x4, x5, x6⟩] W (fun e w' => ∃ v', e = .returned (.tuple #[v', .int .i64 1]) ∧ Moves (fun _ => False) W w')) : Calls Try.prog 63 #[.slice A n c] w (fun e w' => e = .returned (.tuple #[blkV zeroB, .int .i64 2]) ∧ Moves (fun _ => False) w w') := by
  have R0 := Lib.hid r0
  have R1 := Lib.hid r1
  have R2 := Lib.hid r2
  have R3 := Lib.hid r3
  have R4 := Lib.hid r4
  have R5 := Lib.hid r5
  have R6 := Lib.hid r6
  have HE := Lib.hid hE
  obtain ⟨b1a, b1b⟩ := b1
  obtain ⟨b2a, b2b⟩ := b2
  obtain ⟨b3a, b3b⟩ := b3
  obtain ⟨b4a, b4b⟩ := b4
  obtain ⟨b5a, b5b⟩ := b5
  clear r0 r1 r2 r3 r4 r5 r6 hE
  have M0 := Lib.hid (((Moves.refl (fun _ => False) w).alloc (.cells #[.slice A n c] 55)).alloc (.cells #[.int .u64 0, .int .i64 0, .int .i64 0, .int .i64 0, .int .i64 0, .int .i64 0, .int .u64 0] 32))
  have B1 := Lib.hid (show ((w.alloc (.cells #[.slice A n c] 55)).alloc (.cells #[.int .u64 0, .int .i64 0, .int .i64 0, .int .i64 0, .int .i64 0, .int .i64 0, .int .u64 0] 32)).heap[w.heap.size]? = some (.cells #[.slice A n c] 55 (0, 0)) from (Below.heap_alloc _ _ _ (by simp)).trans (heap_alloc_new w _))
  have B2 := Lib.hid (show ((w.alloc (.cells #[.slice A n c] 55)).alloc (.cells #[.int .u64 0, .int .i64 0, .int .i64 0, .int .i64 0, .int .i64 0, .int .i64 0, .int .u64 0] 32)).heap[w.heap.size + 1]? = some (.cells #[.int .u64 0, .int .i64 0, .int .i64 0, .int .i64 0, .int .i64 0, .int .i64 0, .int .u64 0] 32 (0, 0)) from alloc_at (by simp))
  go_enter Try.func63, Try.ntmps63
  go_wp2_with fail
  generalize (w.alloc (.cells #[.slice A n c] 55)).alloc (.cells #[.int .u64 0, .int .i64 0, .int .i64 0, .int .i64 0, .int .i64 0, .int .i64 0, .int .u64 0] 32) = W0 at M0 B1 B2 ⊢
  have c0 := cell_of_one B1.out
  have gs := lt_of_block B1.out
  have gr := lt_of_block B2.out
  obtain ⟨gb, hgb⟩ : ∃ gb, gb = w.heap.size := ⟨_, rfl⟩
  rw [← hgb] at B1 B2 c0 gs gr ⊢
  have HGB := Lib.hid hgb
  clear hgb
  refine (R0.out W0 gb M0.out c0).mono ?_
  rintro e w1 ⟨rfl, rfl⟩
  go_wp2_with fail
  refine (R1.out W0 gb M0.out c0).mono ?_
  rintro e w1 ⟨rfl, rfl⟩
  go_wp2_with fail
  refine (R2.out W0 gb M0.out c0).mono ?_
  rintro e w1 ⟨rfl, rfl⟩
  go_wp2_with fail
  refine (R3.out W0 gb M0.out c0).mono ?_
  rintro e w1 ⟨rfl, rfl⟩
  go_wp2_with fail
  refine (R4.out W0 gb M0.out c0).mono ?_
  rintro e w1 ⟨rfl, rfl⟩
  go_wp2_with fail
  refine (R5.out W0 gb M0.out c0).mono ?_
  rintro e w1 ⟨rfl, rfl⟩
  go_wp2_with fail
  refine (R6.out W0 gb M0.out c0).mono ?_
  rintro e w1 ⟨rfl, rfl⟩
  go_wp2_with fail
  have c5 := cells7 (alloc_at (w := W0) (o := .cells #[.int .u64 x0, .int .i64 x1, .int .i64 x2, .int .i64 x3, .int .i64 x4, .int .i64 x5, .int .u64 x6] 32) rfl)
  have M1 := Lib.hid (M0.out.alloc (.cells #[.int .u64 x0, .int .i64 x1, .int .i64 x2, .int .i64 x3, .int .i64 x4, .int .i64 x5, .int .u64 x6] 32))
  have M01 := Lib.hid ((Moves.refl (fun _ => False) W0).alloc (.cells #[.int .u64 x0, .int .i64 x1, .int .i64 x2, .int .i64 x3, .int .i64 x4, .int .i64 x5, .int .u64 x6] 32))
  have g5 : W0.heap.size < (W0.alloc (.cells #[.int .u64 x0, .int .i64 x1, .int .i64 x2, .int .i64 x3, .int .i64 x4, .int .i64 x5, .int .u64 x6] 32)).heap.size := by simp
  generalize W0.alloc (.cells #[.int .u64 x0, .int .i64 x1, .int .i64 x2, .int .i64 x3, .int .i64 x4, .int .i64 x5, .int .u64 x6] 32) = W1 at M1 M01 c5 g5 ⊢
  refine (HE.out W1 M1.out).mono ?_
  rintro e w2 ⟨v', rfl, hm2⟩
  have M02 := M01.out.trans hm2
  have k0 := (M02.cell (p := ⟨gb, 0, none⟩) gs (fun e => e)).trans c0
  have B2' := (M02.block (gb + 1) gr (fun e => e)).trans B2.out
  obtain ⟨s0, s1, s2, s3, s4, s5, s6⟩ := cells7 B2'
  have f0 : ∀ j, w2.frozen? ⟨gb + 1, j, none⟩ = false := fun j => by simp [World.frozen?, B2']
  have B2h := Lib.hid B2'
  have z2 : gb + 1 < w2.heap.size := lt_of_block B2'
  have c5' : w2.cell? ⟨W0.heap.size, 0, none⟩ = some (.int .u64 x0) ∧ w2.cell? ⟨W0.heap.size, 1, none⟩ = some (.int .i64 x1) ∧ w2.cell? ⟨W0.heap.size, 2, none⟩ = some (.int .i64 x2) ∧ w2.cell? ⟨W0.heap.size, 3, none⟩ = some (.int .i64 x3) ∧ w2.cell? ⟨W0.heap.size, 4, none⟩ = some (.int .i64 x4) ∧ w2.cell? ⟨W0.heap.size, 5, none⟩ = some (.int .i64 x5) ∧ w2.cell? ⟨W0.heap.size, 6, none⟩ = some (.int .u64 x6) :=
    ⟨(hm2.cell g5 (fun e => e)).trans c5.1, (hm2.cell g5 (fun e => e)).trans c5.2.1, (hm2.cell g5 (fun e => e)).trans c5.2.2.1, (hm2.cell g5 (fun e => e)).trans c5.2.2.2.1, (hm2.cell g5 (fun e => e)).trans c5.2.2.2.2.1, (hm2.cell g5 (fun e => e)).trans c5.2.2.2.2.2.1, (hm2.cell g5 (fun e => e)).trans c5.2.2.2.2.2.2⟩
  have M2 := Lib.hid (M1.out.trans hm2)
  have gW : gb + 1 < W0.heap.size := gr
  clear c0 c5 hm2 M02 B2'
  obtain ⟨t0, t1, t2, t3, t4, t5, t6⟩ := c5'
  generalize W0.heap.size = g2 at t0 t1 t2 t3 t4 t5 t6 g5 gW gs gr ⊢
  go_wp2
  have e7 := cells7 (set7 (a0 := .int .u64 0) (a1 := .int .i64 0) (a2 := .int .i64 0) (a3 := .int .i64 0) (a4 := .int .i64 0) (a5 := .int .i64 0) (a6 := .int .u64 0) B2h.out)
  have M3 : Moves (fun _ => False) w (((((((w2.setCell ⟨gb + 1, 0, none⟩ (.int .u64 0)).setCell ⟨gb + 1, 1, none⟩ (.int .i64 0)).setCell ⟨gb + 1, 2, none⟩ (.int .i64 0)).setCell ⟨gb + 1, 3, none⟩ (.int .i64 0)).setCell ⟨gb + 1, 4, none⟩ (.int .i64 0)).setCell ⟨gb + 1, 5, none⟩ (.int .i64 0)).setCell ⟨gb + 1, 6, none⟩ (.int .u64 0)) := by
    repeat (refine Moves.setCell ?_ (fun (e : gb + 1 < w.heap.size) => absurd e (by have := HGB.out; omega)) _)
    exact M2.out
  generalize (((((((w2.setCell ⟨gb + 1, 0, none⟩ (.int .u64 0)).setCell ⟨gb + 1, 1, none⟩ (.int .i64 0)).setCell ⟨gb + 1, 2, none⟩ (.int .i64 0)).setCell ⟨gb + 1, 3, none⟩ (.int .i64 0)).setCell ⟨gb + 1, 4, none⟩ (.int .i64 0)).setCell ⟨gb + 1, 5, none⟩ (.int .i64 0)).setCell ⟨gb + 1, 6, none⟩ (.int .u64 0)) = W3 at e7 M3 ⊢
  obtain ⟨e0, e1, e2, e3, e4, e5, e6⟩ := e7
  exact bodyPost_ret (v := .tuple #[blkV zeroB, .int .i64 2]) (by simp [results, Try.results63, go_sem, e0, e1, e2, e3, e4, e5, e6, zeroB]) rfl ⟨rfl, M3⟩
set_option maxRecDepth 100000 in
set_option maxHeartbeats 4000000 in
theorem decode_ne {w : World} {A : Option Addr} {n c : Nat} {x0 x1 x2 x3 x4 x5 x6 : Int} (hn : 64 ≤ (n : Int)) (hm : (n : Int) ≤ 1000000) (b1 : 0 ≤ x1 ∧ x1 < 4294967296) (b2 : 0 ≤ x2 ∧ x2 < 4294967296) (b3 : 0 ≤ x3 ∧ x3 < 4294967296) (b4 : 0 ≤ x4 ∧ x4 < 4294967296) (b5 : 0 ≤ x5 ∧ x5 < 4294967296) (r0 : ∀ W (g : Nat), Moves (fun _ => False) w W → W.cell? ⟨g, 0, none⟩ = some (.slice A n c) → Calls Try.prog 102 #[.int .i64 8, .int .i64 8, .pointer (some ⟨g, 0, none⟩)] W (SameV W (.int .u64 x0))) (r1 : ∀ W (g : Nat), Moves (fun _ => False) w W → W.cell? ⟨g, 0, none⟩ = some (.slice A n c) → Calls Try.prog 102 #[.int .i64 16, .int .i64 4, .pointer (some ⟨g, 0, none⟩)] W (SameV W (.int .u64 x1))) (r2 : ∀ W (g : Nat), Moves (fun _ => False) w W → W.cell? ⟨g, 0, none⟩ = some (.slice A n c) → Calls Try.prog 102 #[.int .i64 20, .int .i64 4, .pointer (some ⟨g, 0, none⟩)] W (SameV W (.int .u64 x2))) (r3 : ∀ W (g : Nat), Moves (fun _ => False) w W → W.cell? ⟨g, 0, none⟩ = some (.slice A n c) → Calls Try.prog 102 #[.int .i64 24, .int .i64 4, .pointer (some ⟨g, 0, none⟩)] W (SameV W (.int .u64 x3))) (r4 : ∀ W (g : Nat), Moves (fun _ => False) w W → W.cell? ⟨g, 0, none⟩ = some (.slice A n c) → Calls Try.prog 102 #[.int .i64 28, .int .i64 4, .pointer (some ⟨g, 0, none⟩)] W (SameV W (.int .u64 x4))) (r5 : ∀ W (g : Nat), Moves (fun _ => False) w W → W.cell? ⟨g, 0, none⟩ = some (.slice A n c) → Calls Try.prog 102 #[.int .i64 32, .int .i64 4, .pointer (some ⟨g, 0, none⟩)] W (SameV W (.int .u64 x5))) (r6 : ∀ W (g : Nat), Moves (fun _ => False) w W → W.cell? ⟨g, 0, none⟩ = some (.slice A n c) → Calls Try.prog 102 #[.int .i64 36, .int .i64 8, .pointer (some ⟨g, 0, none⟩)] W (SameV W (.int .u64 x6))) (hE : ∀ W, Moves (fun _ => False) w W → Calls Try.prog 56 #[blkV ⟨x0, ⟨x1, x2, x3⟩, x4, x5, x6⟩] W (fun e w' => ∃ v', e = .returned (.tuple #[v', .int .i64 0]) ∧ Moves (fun _ => False) W w' ∧ Calls Try.prog 104 #[v', .slice A n c] w' (SameV w' (.bool false)))) : Calls Try.prog 63 #[.slice A n c] w (fun e w' => e = .returned (.tuple #[blkV zeroB, .int .i64 2]) ∧ Moves (fun _ => False) w w') := by
  have R0 := Lib.hid r0
  have R1 := Lib.hid r1
  have R2 := Lib.hid r2
  have R3 := Lib.hid r3
  have R4 := Lib.hid r4
  have R5 := Lib.hid r5
  have R6 := Lib.hid r6
  have HE := Lib.hid hE
  obtain ⟨b1a, b1b⟩ := b1
  obtain ⟨b2a, b2b⟩ := b2
  obtain ⟨b3a, b3b⟩ := b3
  obtain ⟨b4a, b4b⟩ := b4
  obtain ⟨b5a, b5b⟩ := b5
  clear r0 r1 r2 r3 r4 r5 r6 hE
  have M0 := Lib.hid (((Moves.refl (fun _ => False) w).alloc (.cells #[.slice A n c] 55)).alloc (.cells #[.int .u64 0, .int .i64 0, .int .i64 0, .int .i64 0, .int .i64 0, .int .i64 0, .int .u64 0] 32))
  have B1 := Lib.hid (show ((w.alloc (.cells #[.slice A n c] 55)).alloc (.cells #[.int .u64 0, .int .i64 0, .int .i64 0, .int .i64 0, .int .i64 0, .int .i64 0, .int .u64 0] 32)).heap[w.heap.size]? = some (.cells #[.slice A n c] 55 (0, 0)) from (Below.heap_alloc _ _ _ (by simp)).trans (heap_alloc_new w _))
  have B2 := Lib.hid (show ((w.alloc (.cells #[.slice A n c] 55)).alloc (.cells #[.int .u64 0, .int .i64 0, .int .i64 0, .int .i64 0, .int .i64 0, .int .i64 0, .int .u64 0] 32)).heap[w.heap.size + 1]? = some (.cells #[.int .u64 0, .int .i64 0, .int .i64 0, .int .i64 0, .int .i64 0, .int .i64 0, .int .u64 0] 32 (0, 0)) from alloc_at (by simp))
  go_enter Try.func63, Try.ntmps63
  go_wp2_with fail
  generalize (w.alloc (.cells #[.slice A n c] 55)).alloc (.cells #[.int .u64 0, .int .i64 0, .int .i64 0, .int .i64 0, .int .i64 0, .int .i64 0, .int .u64 0] 32) = W0 at M0 B1 B2 ⊢
  have c0 := cell_of_one B1.out
  have gs := lt_of_block B1.out
  have gr := lt_of_block B2.out
  obtain ⟨gb, hgb⟩ : ∃ gb, gb = w.heap.size := ⟨_, rfl⟩
  rw [← hgb] at B1 B2 c0 gs gr ⊢
  have HGB := Lib.hid hgb
  clear hgb
  refine (R0.out W0 gb M0.out c0).mono ?_
  rintro e w1 ⟨rfl, rfl⟩
  go_wp2_with fail
  refine (R1.out W0 gb M0.out c0).mono ?_
  rintro e w1 ⟨rfl, rfl⟩
  go_wp2_with fail
  refine (R2.out W0 gb M0.out c0).mono ?_
  rintro e w1 ⟨rfl, rfl⟩
  go_wp2_with fail
  refine (R3.out W0 gb M0.out c0).mono ?_
  rintro e w1 ⟨rfl, rfl⟩
  go_wp2_with fail
  refine (R4.out W0 gb M0.out c0).mono ?_
  rintro e w1 ⟨rfl, rfl⟩
  go_wp2_with fail
  refine (R5.out W0 gb M0.out c0).mono ?_
  rintro e w1 ⟨rfl, rfl⟩
  go_wp2_with fail
  refine (R6.out W0 gb M0.out c0).mono ?_
  rintro e w1 ⟨rfl, rfl⟩
  go_wp2_with fail
  have c5 := cells7 (alloc_at (w := W0) (o := .cells #[.int .u64 x0, .int .i64 x1, .int .i64 x2, .int .i64 x3, .int .i64 x4, .int .i64 x5, .int .u64 x6] 32) rfl)
  have M1 := Lib.hid (M0.out.alloc (.cells #[.int .u64 x0, .int .i64 x1, .int .i64 x2, .int .i64 x3, .int .i64 x4, .int .i64 x5, .int .u64 x6] 32))
  have M01 := Lib.hid ((Moves.refl (fun _ => False) W0).alloc (.cells #[.int .u64 x0, .int .i64 x1, .int .i64 x2, .int .i64 x3, .int .i64 x4, .int .i64 x5, .int .u64 x6] 32))
  have g5 : W0.heap.size < (W0.alloc (.cells #[.int .u64 x0, .int .i64 x1, .int .i64 x2, .int .i64 x3, .int .i64 x4, .int .i64 x5, .int .u64 x6] 32)).heap.size := by simp
  generalize W0.alloc (.cells #[.int .u64 x0, .int .i64 x1, .int .i64 x2, .int .i64 x3, .int .i64 x4, .int .i64 x5, .int .u64 x6] 32) = W1 at M1 M01 c5 g5 ⊢
  refine (HE.out W1 M1.out).mono ?_
  rintro e w2 ⟨v', rfl, hm2, hEq⟩
  have M02 := M01.out.trans hm2
  have k0 := (M02.cell (p := ⟨gb, 0, none⟩) gs (fun e => e)).trans c0
  have B2' := (M02.block (gb + 1) gr (fun e => e)).trans B2.out
  obtain ⟨s0, s1, s2, s3, s4, s5, s6⟩ := cells7 B2'
  have f0 : ∀ j, w2.frozen? ⟨gb + 1, j, none⟩ = false := fun j => by simp [World.frozen?, B2']
  have B2h := Lib.hid B2'
  have z2 : gb + 1 < w2.heap.size := lt_of_block B2'
  have c5' : w2.cell? ⟨W0.heap.size, 0, none⟩ = some (.int .u64 x0) ∧ w2.cell? ⟨W0.heap.size, 1, none⟩ = some (.int .i64 x1) ∧ w2.cell? ⟨W0.heap.size, 2, none⟩ = some (.int .i64 x2) ∧ w2.cell? ⟨W0.heap.size, 3, none⟩ = some (.int .i64 x3) ∧ w2.cell? ⟨W0.heap.size, 4, none⟩ = some (.int .i64 x4) ∧ w2.cell? ⟨W0.heap.size, 5, none⟩ = some (.int .i64 x5) ∧ w2.cell? ⟨W0.heap.size, 6, none⟩ = some (.int .u64 x6) :=
    ⟨(hm2.cell g5 (fun e => e)).trans c5.1, (hm2.cell g5 (fun e => e)).trans c5.2.1, (hm2.cell g5 (fun e => e)).trans c5.2.2.1, (hm2.cell g5 (fun e => e)).trans c5.2.2.2.1, (hm2.cell g5 (fun e => e)).trans c5.2.2.2.2.1, (hm2.cell g5 (fun e => e)).trans c5.2.2.2.2.2.1, (hm2.cell g5 (fun e => e)).trans c5.2.2.2.2.2.2⟩
  have M2 := Lib.hid (M1.out.trans hm2)
  have gW : gb + 1 < W0.heap.size := gr
  clear c0 c5 hm2 M02 B2'
  obtain ⟨t0, t1, t2, t3, t4, t5, t6⟩ := c5'
  generalize W0.heap.size = g2 at t0 t1 t2 t3 t4 t5 t6 g5 gW gs gr ⊢
  have HQ := Lib.hid hEq
  clear hEq
  go_wp2_with (first | (go_at_call 104; refine HQ.out.mono ?_; rintro e w3 ⟨rfl, rfl⟩) | fail)
  have e7 := cells7 (set7 (a0 := .int .u64 0) (a1 := .int .i64 0) (a2 := .int .i64 0) (a3 := .int .i64 0) (a4 := .int .i64 0) (a5 := .int .i64 0) (a6 := .int .u64 0) B2h.out)
  have M3 : Moves (fun _ => False) w (((((((w2.setCell ⟨gb + 1, 0, none⟩ (.int .u64 0)).setCell ⟨gb + 1, 1, none⟩ (.int .i64 0)).setCell ⟨gb + 1, 2, none⟩ (.int .i64 0)).setCell ⟨gb + 1, 3, none⟩ (.int .i64 0)).setCell ⟨gb + 1, 4, none⟩ (.int .i64 0)).setCell ⟨gb + 1, 5, none⟩ (.int .i64 0)).setCell ⟨gb + 1, 6, none⟩ (.int .u64 0)) := by
    repeat (refine Moves.setCell ?_ (fun (e : gb + 1 < w.heap.size) => absurd e (by have := HGB.out; omega)) _)
    exact M2.out
  generalize (((((((w2.setCell ⟨gb + 1, 0, none⟩ (.int .u64 0)).setCell ⟨gb + 1, 1, none⟩ (.int .i64 0)).setCell ⟨gb + 1, 2, none⟩ (.int .i64 0)).setCell ⟨gb + 1, 3, none⟩ (.int .i64 0)).setCell ⟨gb + 1, 4, none⟩ (.int .i64 0)).setCell ⟨gb + 1, 5, none⟩ (.int .i64 0)).setCell ⟨gb + 1, 6, none⟩ (.int .u64 0)) = W3 at e7 M3 ⊢
  obtain ⟨e0, e1, e2, e3, e4, e5, e6⟩ := e7
  exact bodyPost_ret (v := .tuple #[blkV zeroB, .int .i64 2]) (by simp [results, Try.results63, go_sem, e0, e1, e2, e3, e4, e5, e6, zeroB]) rfl ⟨rfl, M3⟩
set_option maxRecDepth 100000 in
set_option maxHeartbeats 4000000 in
theorem decode_eq {w : World} {A : Option Addr} {n c : Nat} {x0 x1 x2 x3 x4 x5 x6 : Int} (hn : 64 ≤ (n : Int)) (hm : (n : Int) ≤ 1000000) (b1 : 0 ≤ x1 ∧ x1 < 4294967296) (b2 : 0 ≤ x2 ∧ x2 < 4294967296) (b3 : 0 ≤ x3 ∧ x3 < 4294967296) (b4 : 0 ≤ x4 ∧ x4 < 4294967296) (b5 : 0 ≤ x5 ∧ x5 < 4294967296) (r0 : ∀ W (g : Nat), Moves (fun _ => False) w W → W.cell? ⟨g, 0, none⟩ = some (.slice A n c) → Calls Try.prog 102 #[.int .i64 8, .int .i64 8, .pointer (some ⟨g, 0, none⟩)] W (SameV W (.int .u64 x0))) (r1 : ∀ W (g : Nat), Moves (fun _ => False) w W → W.cell? ⟨g, 0, none⟩ = some (.slice A n c) → Calls Try.prog 102 #[.int .i64 16, .int .i64 4, .pointer (some ⟨g, 0, none⟩)] W (SameV W (.int .u64 x1))) (r2 : ∀ W (g : Nat), Moves (fun _ => False) w W → W.cell? ⟨g, 0, none⟩ = some (.slice A n c) → Calls Try.prog 102 #[.int .i64 20, .int .i64 4, .pointer (some ⟨g, 0, none⟩)] W (SameV W (.int .u64 x2))) (r3 : ∀ W (g : Nat), Moves (fun _ => False) w W → W.cell? ⟨g, 0, none⟩ = some (.slice A n c) → Calls Try.prog 102 #[.int .i64 24, .int .i64 4, .pointer (some ⟨g, 0, none⟩)] W (SameV W (.int .u64 x3))) (r4 : ∀ W (g : Nat), Moves (fun _ => False) w W → W.cell? ⟨g, 0, none⟩ = some (.slice A n c) → Calls Try.prog 102 #[.int .i64 28, .int .i64 4, .pointer (some ⟨g, 0, none⟩)] W (SameV W (.int .u64 x4))) (r5 : ∀ W (g : Nat), Moves (fun _ => False) w W → W.cell? ⟨g, 0, none⟩ = some (.slice A n c) → Calls Try.prog 102 #[.int .i64 32, .int .i64 4, .pointer (some ⟨g, 0, none⟩)] W (SameV W (.int .u64 x5))) (r6 : ∀ W (g : Nat), Moves (fun _ => False) w W → W.cell? ⟨g, 0, none⟩ = some (.slice A n c) → Calls Try.prog 102 #[.int .i64 36, .int .i64 8, .pointer (some ⟨g, 0, none⟩)] W (SameV W (.int .u64 x6))) (hE : ∀ W, Moves (fun _ => False) w W → Calls Try.prog 56 #[blkV ⟨x0, ⟨x1, x2, x3⟩, x4, x5, x6⟩] W (fun e w' => ∃ v', e = .returned (.tuple #[v', .int .i64 0]) ∧ Moves (fun _ => False) W w' ∧ Calls Try.prog 104 #[v', .slice A n c] w' (SameV w' (.bool true)))) : Calls Try.prog 63 #[.slice A n c] w (fun e w' => e = .returned (.tuple #[blkV ⟨x0, ⟨x1, x2, x3⟩, x4, x5, x6⟩, .int .i64 0]) ∧ Moves (fun _ => False) w w') := by
  have R0 := Lib.hid r0
  have R1 := Lib.hid r1
  have R2 := Lib.hid r2
  have R3 := Lib.hid r3
  have R4 := Lib.hid r4
  have R5 := Lib.hid r5
  have R6 := Lib.hid r6
  have HE := Lib.hid hE
  obtain ⟨b1a, b1b⟩ := b1
  obtain ⟨b2a, b2b⟩ := b2
  obtain ⟨b3a, b3b⟩ := b3
  obtain ⟨b4a, b4b⟩ := b4
  obtain ⟨b5a, b5b⟩ := b5
  clear r0 r1 r2 r3 r4 r5 r6 hE
  have M0 := Lib.hid (((Moves.refl (fun _ => False) w).alloc (.cells #[.slice A n c] 55)).alloc (.cells #[.int .u64 0, .int .i64 0, .int .i64 0, .int .i64 0, .int .i64 0, .int .i64 0, .int .u64 0] 32))
  have B1 := Lib.hid (show ((w.alloc (.cells #[.slice A n c] 55)).alloc (.cells #[.int .u64 0, .int .i64 0, .int .i64 0, .int .i64 0, .int .i64 0, .int .i64 0, .int .u64 0] 32)).heap[w.heap.size]? = some (.cells #[.slice A n c] 55 (0, 0)) from (Below.heap_alloc _ _ _ (by simp)).trans (heap_alloc_new w _))
  have B2 := Lib.hid (show ((w.alloc (.cells #[.slice A n c] 55)).alloc (.cells #[.int .u64 0, .int .i64 0, .int .i64 0, .int .i64 0, .int .i64 0, .int .i64 0, .int .u64 0] 32)).heap[w.heap.size + 1]? = some (.cells #[.int .u64 0, .int .i64 0, .int .i64 0, .int .i64 0, .int .i64 0, .int .i64 0, .int .u64 0] 32 (0, 0)) from alloc_at (by simp))
  go_enter Try.func63, Try.ntmps63
  go_wp2_with fail
  generalize (w.alloc (.cells #[.slice A n c] 55)).alloc (.cells #[.int .u64 0, .int .i64 0, .int .i64 0, .int .i64 0, .int .i64 0, .int .i64 0, .int .u64 0] 32) = W0 at M0 B1 B2 ⊢
  have c0 := cell_of_one B1.out
  have gs := lt_of_block B1.out
  have gr := lt_of_block B2.out
  obtain ⟨gb, hgb⟩ : ∃ gb, gb = w.heap.size := ⟨_, rfl⟩
  rw [← hgb] at B1 B2 c0 gs gr ⊢
  have HGB := Lib.hid hgb
  clear hgb
  refine (R0.out W0 gb M0.out c0).mono ?_
  rintro e w1 ⟨rfl, rfl⟩
  go_wp2_with fail
  refine (R1.out W0 gb M0.out c0).mono ?_
  rintro e w1 ⟨rfl, rfl⟩
  go_wp2_with fail
  refine (R2.out W0 gb M0.out c0).mono ?_
  rintro e w1 ⟨rfl, rfl⟩
  go_wp2_with fail
  refine (R3.out W0 gb M0.out c0).mono ?_
  rintro e w1 ⟨rfl, rfl⟩
  go_wp2_with fail
  refine (R4.out W0 gb M0.out c0).mono ?_
  rintro e w1 ⟨rfl, rfl⟩
  go_wp2_with fail
  refine (R5.out W0 gb M0.out c0).mono ?_
  rintro e w1 ⟨rfl, rfl⟩
  go_wp2_with fail
  refine (R6.out W0 gb M0.out c0).mono ?_
  rintro e w1 ⟨rfl, rfl⟩
  go_wp2_with fail
  have c5 := cells7 (alloc_at (w := W0) (o := .cells #[.int .u64 x0, .int .i64 x1, .int .i64 x2, .int .i64 x3, .int .i64 x4, .int .i64 x5, .int .u64 x6] 32) rfl)
  have M1 := Lib.hid (M0.out.alloc (.cells #[.int .u64 x0, .int .i64 x1, .int .i64 x2, .int .i64 x3, .int .i64 x4, .int .i64 x5, .int .u64 x6] 32))
  have M01 := Lib.hid ((Moves.refl (fun _ => False) W0).alloc (.cells #[.int .u64 x0, .int .i64 x1, .int .i64 x2, .int .i64 x3, .int .i64 x4, .int .i64 x5, .int .u64 x6] 32))
  have g5 : W0.heap.size < (W0.alloc (.cells #[.int .u64 x0, .int .i64 x1, .int .i64 x2, .int .i64 x3, .int .i64 x4, .int .i64 x5, .int .u64 x6] 32)).heap.size := by simp
  generalize W0.alloc (.cells #[.int .u64 x0, .int .i64 x1, .int .i64 x2, .int .i64 x3, .int .i64 x4, .int .i64 x5, .int .u64 x6] 32) = W1 at M1 M01 c5 g5 ⊢
  refine (HE.out W1 M1.out).mono ?_
  rintro e w2 ⟨v', rfl, hm2, hEq⟩
  have M02 := M01.out.trans hm2
  have k0 := (M02.cell (p := ⟨gb, 0, none⟩) gs (fun e => e)).trans c0
  have B2' := (M02.block (gb + 1) gr (fun e => e)).trans B2.out
  obtain ⟨s0, s1, s2, s3, s4, s5, s6⟩ := cells7 B2'
  have f0 : ∀ j, w2.frozen? ⟨gb + 1, j, none⟩ = false := fun j => by simp [World.frozen?, B2']
  have B2h := Lib.hid B2'
  have z2 : gb + 1 < w2.heap.size := lt_of_block B2'
  have c5' : w2.cell? ⟨W0.heap.size, 0, none⟩ = some (.int .u64 x0) ∧ w2.cell? ⟨W0.heap.size, 1, none⟩ = some (.int .i64 x1) ∧ w2.cell? ⟨W0.heap.size, 2, none⟩ = some (.int .i64 x2) ∧ w2.cell? ⟨W0.heap.size, 3, none⟩ = some (.int .i64 x3) ∧ w2.cell? ⟨W0.heap.size, 4, none⟩ = some (.int .i64 x4) ∧ w2.cell? ⟨W0.heap.size, 5, none⟩ = some (.int .i64 x5) ∧ w2.cell? ⟨W0.heap.size, 6, none⟩ = some (.int .u64 x6) :=
    ⟨(hm2.cell g5 (fun e => e)).trans c5.1, (hm2.cell g5 (fun e => e)).trans c5.2.1, (hm2.cell g5 (fun e => e)).trans c5.2.2.1, (hm2.cell g5 (fun e => e)).trans c5.2.2.2.1, (hm2.cell g5 (fun e => e)).trans c5.2.2.2.2.1, (hm2.cell g5 (fun e => e)).trans c5.2.2.2.2.2.1, (hm2.cell g5 (fun e => e)).trans c5.2.2.2.2.2.2⟩
  have M2 := Lib.hid (M1.out.trans hm2)
  have gW : gb + 1 < W0.heap.size := gr
  clear c0 c5 hm2 M02 B2'
  obtain ⟨t0, t1, t2, t3, t4, t5, t6⟩ := c5'
  generalize W0.heap.size = g2 at t0 t1 t2 t3 t4 t5 t6 g5 gW gs gr ⊢
  have HQ := Lib.hid hEq
  clear hEq
  go_wp2_with (first | (go_at_call 104; refine HQ.out.mono ?_; rintro e w3 ⟨rfl, rfl⟩) | fail)
  have e7 := cells7 (set7 (a0 := .int .u64 x0) (a1 := .int .i64 x1) (a2 := .int .i64 x2) (a3 := .int .i64 x3) (a4 := .int .i64 x4) (a5 := .int .i64 x5) (a6 := .int .u64 x6) B2h.out)
  have M3 : Moves (fun _ => False) w (((((((w2.setCell ⟨gb + 1, 0, none⟩ (.int .u64 x0)).setCell ⟨gb + 1, 1, none⟩ (.int .i64 x1)).setCell ⟨gb + 1, 2, none⟩ (.int .i64 x2)).setCell ⟨gb + 1, 3, none⟩ (.int .i64 x3)).setCell ⟨gb + 1, 4, none⟩ (.int .i64 x4)).setCell ⟨gb + 1, 5, none⟩ (.int .i64 x5)).setCell ⟨gb + 1, 6, none⟩ (.int .u64 x6)) := by
    repeat (refine Moves.setCell ?_ (fun (e : gb + 1 < w.heap.size) => absurd e (by have := HGB.out; omega)) _)
    exact M2.out
  generalize (((((((w2.setCell ⟨gb + 1, 0, none⟩ (.int .u64 x0)).setCell ⟨gb + 1, 1, none⟩ (.int .i64 x1)).setCell ⟨gb + 1, 2, none⟩ (.int .i64 x2)).setCell ⟨gb + 1, 3, none⟩ (.int .i64 x3)).setCell ⟨gb + 1, 4, none⟩ (.int .i64 x4)).setCell ⟨gb + 1, 5, none⟩ (.int .i64 x5)).setCell ⟨gb + 1, 6, none⟩ (.int .u64 x6)) = W3 at e7 M3 ⊢
  obtain ⟨e0, e1, e2, e3, e4, e5, e6⟩ := e7
  exact bodyPost_ret (v := .tuple #[blkV ⟨x0, ⟨x1, x2, x3⟩, x4, x5, x6⟩, .int .i64 0]) (by simp [results, Try.results63, go_sem, e0, e1, e2, e3, e4, e5, e6]) rfl ⟨rfl, M3⟩
end Go.Proofs.Ytnagpianaghjeaa.Sl
