/-
  A log on sectors in memory; its small calls: area, need, numbers, newer, on.
-/
import Derived.Test.YtnagpianaghjeaaBdRingLasts3
import Derived.Test.YtnagpianaghjeaaBdRingLasts8
import Derived.Test.YtnagpianaghjeaaBdRingLasts15
import Derived.BigQuiet
import Derived.Deep.QuietTactic
import Derived.Lib.SmallJoins
namespace Go.Proofs.Ytnagpianaghjeaa.Rg
open Go Go.RowKit Go.Proofs Go.Proofs.Ytnagpianaghjeaa.Sl
open Pl (DS IsDisk DOwn DPost DMv DKeep)

abbrev hdCells (h : Hd) : Array Value := #[.int .u64 h.gen, .int .u64 h.first, .int .u64 h.count, .int .u64 h.start, .int .u64 h.used]
abbrev hdV (h : Hd) : Value := .agg (hdCells h)
/-- The log's own block. -/
abbrev ringCells (d s n z : Nat) (h : Hd) (lv : Value) : Array Value := #[.pointer (some ⟨d, 0, none⟩), .int .i64 s, .int .i64 n, .int .i64 z, .int .u64 h.gen, .int .u64 h.first, .int .u64 h.count, .int .u64 h.start, .int .u64 h.used, lv]
def RingB (w : World) (r d s n z : Nat) (h : Hd) (lv : Value) : Prop := w.heap[r]? = some (.cells (ringCells d s n z h lv) 120 (0, 0))
theorem RingB.cells {w : World} {r d s n z : Nat} {h : Hd} {lv : Value} (hb : RingB w r d s n z h lv) : w.cell? ⟨r, 0, none⟩ = some (.pointer (some ⟨d, 0, none⟩)) ∧ w.cell? ⟨r, 1, none⟩ = some (.int .i64 s) ∧ w.cell? ⟨r, 2, none⟩ = some (.int .i64 n) ∧ w.cell? ⟨r, 3, none⟩ = some (.int .i64 z) ∧ w.cell? ⟨r, 4, none⟩ = some (.int .u64 h.gen) ∧ w.cell? ⟨r, 5, none⟩ = some (.int .u64 h.first) ∧ w.cell? ⟨r, 6, none⟩ = some (.int .u64 h.count) ∧ w.cell? ⟨r, 7, none⟩ = some (.int .u64 h.start) ∧ w.cell? ⟨r, 8, none⟩ = some (.int .u64 h.used) ∧ w.cell? ⟨r, 9, none⟩ = some lv := by
  unfold RingB at hb
  refine ⟨?_, ?_, ?_, ?_, ?_, ?_, ?_, ?_, ?_, ?_⟩ <;> simp [World.cell?, hb]
theorem RingB.fr {w : World} {r d s n z : Nat} {h : Hd} {lv : Value} (hb : RingB w r d s n z h lv) (j : Nat) : w.frozen? ⟨r, j, none⟩ = false := by
  unfold RingB at hb
  simp [World.frozen?, hb]
theorem RingB.moves {S : Nat → Prop} {w w' : World} {r d s n z : Nat} {h : Hd} {lv : Value} (hb : RingB w r d s n z h lv) (hm : Moves S w w') (hs : ¬ S r) : RingB w' r d s n z h lv :=
  (hm.block _ (lt_of_block hb) hs).trans hb
theorem RingB.moves0 {w w' : World} {r d s n z : Nat} {h : Hd} {lv : Value} (hb : RingB w r d s n z h lv) (hm : Moves (fun _ => False) w w') : RingB w' r d s n z h lv := hb.moves hm (fun e => e)
set_option maxHeartbeats 2000000 in
theorem area_any {w : World} {r d s n z : Nat} {h : Hd} {lv : Value} (hb : RingB w r d s n z h lv) (hn : 8 ≤ n ∧ n ≤ 16384) : Calls Try.prog 76 #[.pointer (some ⟨r, 0, none⟩)] w (SameV w (.int .i64 ((n - 2 : Nat) : Int))) := by
  obtain ⟨-, -, c2, -⟩ := hb.cells
  clear hb
  have e : ((n - 2 : Nat) : Int) = (n : Int) - 2 := by omega
  have b0 : (8 : Int) ≤ (n : Int) := by omega
  have b1 : (n : Int) ≤ 16384 := by omega
  clear hn
  rw [e]
  clear e
  go_enter Try.func76, Try.ntmps76
  go_wp2
  go_ret
  exact ⟨rfl, rfl⟩
set_option maxHeartbeats 2000000 in
theorem need_any {w : World} {r d s n z : Nat} {h : Hd} {lv : Value} (hb : RingB w r d s n z h lv) (hz : 1 ≤ z ∧ z ≤ 1000000) {x : Nat} (hx : x ≤ 1000000) : Calls Try.prog 74 #[.pointer (some ⟨r, 0, none⟩), .int .i64 x] w (MovV w (.int .i64 (needN z x))) := by
  obtain ⟨-, -, -, c3, -⟩ := hb.cells
  clear hb
  have b0 : (1 : Int) ≤ (z : Int) := by omega
  have b1 : (z : Int) ≤ 1000000 := by omega
  have b2 : (x : Int) ≤ 1000000 := by omega
  have b3 : (0 : Int) ≤ (x : Int) := by omega
  have b4 : ((z : Int) == 0) = false := by simp; omega
  have e : Int.tdiv ((x : Int) + 4 + z - 1) z = (needN z x : Nat) := by
    unfold needN
    rw [show (x : Int) + 4 + z - 1 = ((x + 4 + z - 1 : Nat) : Int) by omega]
    exact (Int.ofNat_tdiv _ _).symm
  have e2 : (needN z x : Int) ≤ 3000000 := by
    have : needN z x ≤ x + 4 + z - 1 := Nat.div_le_self _ _
    omega
  have w1 : IntKind.i64.wrap ((x : Int) + 4 + z - 1) = (x : Int) + 4 + z - 1 := IntWalk.i64_in _ (by omega)
  have w2 : IntKind.i64.wrap (needN z x : Nat) = (needN z x : Nat) := IntWalk.i64_in _ (by omega)
  generalize (needN z x : Nat) = q at e e2 w2 ⊢
  clear hz hx
  go_enter Try.func74, Try.ntmps74
  go_wp2_with fail
  go_quiet (fail)
  go_wp2
  go_ret
  exact ⟨rfl, (Moves.refl _ _).drewN _⟩
def NumPost (w : World) (h : Hd) (e : Ending) (w' : World) : Prop := ∃ k, e = .returned (.slice (some ⟨k, 0, none⟩) 6 6) ∧ w.heap.size ≤ k ∧ w'.heap[k]? = some (.cells #[.int .u64 1196312914, .int .u64 h.gen, .int .u64 h.first, .int .u64 h.count, .int .u64 h.start, .int .u64 h.used] 30 (0, 0)) ∧ Moves (fun _ => False) w w'
set_option maxHeartbeats 2000000 in
theorem numbers_any (h : Hd) (w : World) : Calls Try.prog 112 #[hdV h] w (NumPost w h) := by
  have HF : Hid (∀ k e w', e = .returned (.slice (some ⟨k, 0, none⟩) 6 6) → w.heap.size ≤ k → w'.heap[k]? = some (.cells #[.int .u64 1196312914, .int .u64 h.gen, .int .u64 h.first, .int .u64 h.count, .int .u64 h.start, .int .u64 h.used] 30 (0, 0)) → Moves (fun _ => False) w w' → NumPost w h e w') := Lib.hid fun k e w' he hk hc hm => ⟨k, he, hk, hc, hm⟩
  generalize NumPost w h = Q at HF ⊢
  obtain ⟨a, b, c, d, e⟩ := h
  go_enter Try.func112, Try.ntmps112
  go_wp2
  exact HF.out _ _ _ rfl (by simp) (alloc_at (by simp)) (((Moves.refl _ w).alloc _).alloc _)
set_option maxHeartbeats 2000000 in
theorem hnewer_any {a b : Hd} (w : World) : Calls Try.prog 111 #[hdV a, hdV b] w (MovV w (.bool (decide (newerH a b)))) := by
  have e : decide (newerH a b) = decide (0 < wrap64 (IntKind.u64.wrap (a.gen - b.gen))) := by
    have hu : IntKind.u64.wrap (a.gen - b.gen) = (a.gen - b.gen) % 18446744073709551616 := by simp [IntKind.wrap, IntKind.bits, IntKind.signed]
    have hp : newerH a b ↔ 0 < wrap64 (IntKind.u64.wrap (a.gen - b.gen)) := by
      rw [hu]
      unfold newerH w64u wrap64
      omega
    exact decide_eq_decide.2 hp
  rw [e]
  clear e
  obtain ⟨a1, a2, a3, a4, a5⟩ := a
  obtain ⟨b1, b2, b3, b4, b5⟩ := b
  go_enter Try.func111, Try.ntmps111
  go_wp2
  go_ret
  exact ⟨rfl, ((Moves.refl _ w).alloc _).alloc _⟩
end Go.Proofs.Ytnagpianaghjeaa.Rg
