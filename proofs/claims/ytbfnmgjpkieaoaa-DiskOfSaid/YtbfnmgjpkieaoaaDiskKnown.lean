/-
  The statement's own disk: a write that is kept, one that is lost.
-/
import Derived.Test.YtbfnmgjpkieaoaaDiskNew
namespace Go.Proofs.Ytbfnmgjpkieaoaa.Pl
open Go Go.RowKit Go.Maps Go.Sort Go.Proofs

def TruePost (w : World) (e : Ending) (w' : World) : Prop := e = .returned (.bool true) ∧ Moves (fun _ => False) w w'
theorem mk64 (w : World) : (Instr.makeSlice 29 (.int .i64 64) (.int .i64 64)).run Try.prog w = .ok (.slice (some ⟨w.heap.size, 0, none⟩) 64 64) (w.alloc (.cells (madeCells #[.int .u8 0] 64) 5)) := by
  obtain ⟨i5, hi5, hp0, hp1, hp2⟩ := info_parts infoB
  exact run_make_row (P := Try.prog) 29 5 i5 _ Try.underlying29 hi5 hp0 hp1 rfl .i64 .i64 64 (by rw [hp2]; omega) (by omega) w
/-- 64 bytes, x in front. -/
def front (x : Int) : List Int := x :: List.replicate 63 0
theorem front_len (x : Int) : (front x).length = 64 := by simp [front]
theorem front_zero : front 0 = List.replicate 64 0 := rfl
/-- A block of 64 bytes, the first one set. -/
theorem front_row {w : World} {xb : Nat} {cs : Array Value} {t : TypeId} (h : w.heap[xb]? = some (.cells cs t (0, 0))) (x : Int) (hcs : cs.toList = (front x).map encB) : Row w (fun k => k = xb) (.slice (some ⟨xb, 0, none⟩) 64 64) ((front x).map encB) := by
  refine ⟨_, 64, by rw [List.length_map, front_len], by rw [List.length_map, front_len]; exact Nat.le_refl _, fun _ => ⟨xb, 0, rfl, rfl, (Array.getElem?_eq_some_iff.1 h).1, fun j u hu => ?_⟩⟩
  rw [← hcs] at hu
  simp only [World.cell?, h, Nat.zero_add, Option.isSome_none, Bool.false_eq_true, if_false]
  rw [← Array.getElem?_toList]
  exact hu
theorem IsDisk.after {w0 w w' : World} {d g : Nat} {S : DS} {cs : Array Value} {t : TypeId} {fr : Nat × Nat} (h : IsDisk w w0.heap.size d S) (hm : Moves (DOwn w d) w w') (hg : w.heap[g]? = some (.cells cs t fr)) (h1 : t ≠ 108) (h2 : t ≠ 29) : w'.heap[g]? = some (.cells cs t fr) :=
  (hm.block g (Array.getElem?_eq_some_iff.1 hg).1 (h.apart hg h1 h2)).trans hg

def cs7 (x : Int) : Array Value := (madeCells #[.int .u8 0] 64).setIfInBounds 0 (.int .u8 x)
theorem cs7_list (x : Int) : (cs7 x).toList = (front x).map encB := by
  unfold cs7
  rw [Array.toList_setIfInBounds, madeB]
  rfl
theorem made_cells (w : World) : (w.alloc (.cells (madeCells #[.int .u8 0] 64) 5)).cell? ⟨w.heap.size, 0, none⟩ = some (.int .u8 0) ∧ (w.alloc (.cells (madeCells #[.int .u8 0] 64) 5)).frozen? ⟨w.heap.size, 0, none⟩ = false := by
  have h := heap_alloc_new w (.cells (madeCells #[.int .u8 0] 64) 5)
  unfold World.cell? World.frozen?
  simp only [h]
  exact ⟨by simp [madeCells], rfl⟩
def kS1 : DS := putS (newS 4 64) 1 (front 7)
def kS2 : DS := putS kS1 2 (front 7)
def kS3 : DS := cutS kS2 [true]
def kS4 : DS := { kS3 with off := false }
theorem kS4_kept : kS4.kept = [front 0, front 7, front 0, front 0] := by decide

set_option maxRecDepth 100000 in
set_option maxHeartbeats 4000000 in
theorem known_any (w : World) : Calls Try.prog 14 #[] w (TruePost w) := by
  have HNEW := Lib.hid (new_ok (n := 4) (z := 64) (by omega) (by omega) w)
  have hmk := mk64
  go_enter Try.func14, Try.ntmps14
  go_wp2_with fail
  refine HNEW.out.mono ?_
  rintro e w1 ⟨d, rfl, h1, hm1⟩
  obtain ⟨x0, f0⟩ := made_cells w1
  have hm2 : Moves (fun _ => False) w1 (w1.alloc (.cells ((madeCells #[.int .u8 0] 64).setIfInBounds 0 (.int .u8 7)) 5)) := (Moves.refl (fun _ => False) w1).alloc _
  have hx2 : (w1.alloc (.cells ((madeCells #[.int .u8 0] 64).setIfInBounds 0 (.int .u8 7)) 5)).heap[w1.heap.size]? = some (.cells (cs7 7) 5 (0, 0)) := heap_alloc_new _ _
  have HA := Lib.hid (⟨hm1, h1, hm2, hx2⟩ : Moves (fun _ => False) w w1 ∧ IsDisk w1 w.heap.size d (newS 4 64) ∧ Moves (fun _ => False) w1 _ ∧ _)
  clear h1 hm1 hm2 hx2
  go_wp2_with fail
  obtain ⟨hm1, h1, hm2, hx2⟩ := HA.out
  clear HA x0 f0 hmk
  obtain ⟨xb, hxb⟩ : ∃ xb, w1.heap.size = xb := ⟨_, rfl⟩
  simp only [hxb] at hm2 hx2 ⊢
  clear hxb
  generalize w1.alloc (.cells ((madeCells #[.int .u8 0] 64).setIfInBounds 0 (.int .u8 7)) 5) = w2 at hm2 hx2 ⊢
  have h2 := h1.moves0 hm2
  have hM2 := hm1.trans hm2
  refine (write_ok h2 rfl rfl (i := 1) (by decide) (front_row hx2 7 (cs7_list 7)) (front_len 7) (by decide) (by decide) (by decide) (by decide)).mono ?_
  rintro e w3 ⟨rfl, h3, hm3⟩
  have hx3 := h2.after hm3 hx2 (by decide) (by decide)
  have hM3 := h2.under hM2 hm3
  clear hm1 h1 hm2 hx2 h2 hM2 hm3
  have HA := Lib.hid (And.intro h3 (And.intro hx3 hM3))
  clear h3 hx3 hM3
  go_wp2_with fail
  obtain ⟨h3, hx3, hM3⟩ := HA.out
  refine (write_ok h3 rfl rfl (i := 2) (by decide) (front_row hx3 7 (cs7_list 7)) (front_len 7) (by decide) (by decide) (by decide) (by decide)).mono ?_
  rintro e w4 ⟨rfl, h4, hm4⟩
  have hM4 := h3.under hM3 hm4
  clear HA h3 hx3 hM3 hm4
  have HA := Lib.hid (And.intro h4 hM4)
  clear h4 hM4
  go_wp2_with fail
  refine (pending_any HA.out.1).mono ?_
  rintro e w5 ⟨rfl, rfl⟩
  go_wp2_with fail
  obtain ⟨h4, hM4⟩ := HA.out
  have hm5 := (Moves.refl (fun _ => False) w4).alloc (.cells #[.bool true] 4)
  have h5 := h4.moves0 hm5
  have hb5 := heap_alloc_new w4 (.cells #[.bool true] 4)
  have hM5 := hM4.trans hm5
  have hr5 : Row (w4.alloc (.cells #[.bool true] 4)) (fun k => k = w4.heap.size) (.slice (some ⟨w4.heap.size, 0, none⟩) 1 1) ([true].map .bool) := ⟨_, 1, rfl, Nat.le_refl _, fun _ => ⟨_, 0, rfl, rfl, by simp, fun j u hu => by
    simp only [World.cell?, hb5, Nat.zero_add, Option.isSome_none, Bool.false_eq_true, if_false]
    rw [← Array.getElem?_toList]
    exact hu⟩⟩
  refine (cut_any (bs := [true]) h5 hr5 (fun k hk _ => by subst hk; exact h5.apart hb5 (by decide) (by decide)) (by decide)).mono ?_
  rintro e w6 ⟨rfl, h6, hm6⟩
  have hM6 := h5.under hM5 hm6
  clear HA h4 hM4 hm5 h5 hb5 hM5 hr5 hm6
  have HA := Lib.hid (And.intro h6 hM6)
  clear h6 hM6
  go_wp2_with fail
  refine (off_any HA.out.1).mono ?_
  rintro e w7 ⟨rfl, rfl⟩
  go_wp2_with fail
  refine (read_off HA.out.1 rfl 1).mono ?_
  rintro e w7 ⟨rfl, rfl⟩
  go_wp2_with fail
  refine (on_any HA.out.1).mono ?_
  rintro e w7 ⟨rfl, h7, hm7⟩
  have hM7 := HA.out.1.under HA.out.2 hm7
  clear HA hm7
  have HA := Lib.hid (And.intro h7 hM7)
  clear h7 hM7
  go_wp2_with fail
  refine (read_ok (bs := front 7) HA.out.1 rfl (i := 1) (by decide) (by decide) (by decide) (by decide)).mono ?_
  rintro e w8 ⟨g8, rfl, hg8, hl8, hc8, hm8⟩
  have h8 := HA.out.1.moves0 hm8
  have hM8 := HA.out.2.trans hm8
  clear HA
  have HA := Lib.hid (And.intro h8 (And.intro hM8 (And.intro hl8 hc8)))
  clear h8 hM8 hm8 hg8 hl8 hc8
  go_wp2_with fail
  refine (read_ok (bs := front 0) HA.out.1 rfl (i := 2) (by decide) (by decide) (by decide) (by decide)).mono ?_
  rintro e w9 ⟨g9, rfl, hg9, hl9, hc9, hm9⟩
  have h9 := HA.out.1.moves0 hm9
  have hM9 := HA.out.2.1.trans hm9
  have e0 : w9.cell? ⟨g8, 0, none⟩ = some (.int .u8 7) := (hm9.cell (p := ⟨g8, 0, none⟩) HA.out.2.2.1 (fun h => h)).trans (HA.out.2.2.2 0 _ rfl)
  have e1 : w9.cell? ⟨g9, 0, none⟩ = some (.int .u8 0) := hc9 0 _ rfl
  clear HA
  have HA := Lib.hid (And.intro h9 hM9)
  have hl7 := front_len 7
  have hl0 := front_len 0
  clear h9 hM9 hm9 hc9 hl9 hg9
  rw [hl7, hl0]
  clear hl7 hl0
  go_wp2_with fail
  refine (writes_any HA.out.1).mono ?_
  rintro e w10 ⟨rfl, rfl⟩
  go_wp2
  go_ret
  exact ⟨rfl, HA.out.2⟩
end Go.Proofs.Ytbfnmgjpkieaoaa.Pl
