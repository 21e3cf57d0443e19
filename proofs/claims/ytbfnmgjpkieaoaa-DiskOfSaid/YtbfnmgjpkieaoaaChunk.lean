/-
  slices.Chunk over bytes: its iterator gives each chunk once, in order.
-/
import Derived.Test.YtbfnmgjpkieaoaaDiskMore
import Derived.RangeFuncNested
import Derived.RangeFuncBound
import Derived.RangeFuncCalls
import Derived.RangeFuncLeaves
import Derived.Shelf.Abstract
import Derived.Shelf.RegionOpen
import Derived.WalkKit
import Derived.OwnWalkIn
import Derived.TacticsInMore
import Derived.RegionIn
import Derived.LoopNIn
import Derived.LoopIn
namespace Go.Proofs.Ytbfnmgjpkieaoaa.Pl
open Go Go.RowKit Go.Maps Go.Sort Go.Proofs Go.Shelf
attribute [local go_sem] Oper.semAt_some

/-- What a round keeps: all that lay ahead, and the iterator's two boxes. -/
abbrev KpC (n0 Bs Bn : Nat) (W W' : World) : Prop := Moves (fun k => n0 ≤ k ∧ k ≠ Bs ∧ k ≠ Bn) W W'
/-- The first chunks. -/
def firsts (m k : Nat) : List (Fin m) := (List.finRange m).take k
theorem firsts_succ {m k : Nat} (h : k < m) : firsts m (k + 1) = firsts m k ++ [⟨k, h⟩] := by
  unfold firsts
  rw [List.take_succ_eq_append_getElem (by simpa using h)]
  simp
theorem firsts_len {m k : Nat} (h : k ≤ m) : (firsts m k).length = k := by simp [firsts]; omega
theorem firsts_all (m : Nat) : firsts m m = List.finRange m := by unfold firsts; exact List.take_of_length_le (by simp)

set_option maxRecDepth 100000 in
set_option maxHeartbeats 2000000 in
theorem chunk1_in (F : Fence) (n : Nat) (h91 : F.fn 91) (hro : F.round = none) (hn : 1 ≤ n) (l Bs Bn n0 : Nat) (g o c m z : Nat) (hz : 1 ≤ z ∧ z ≤ 1024) (hN : m * z ≤ 100000) (hc : m * z ≤ c) (J Jx : List (Fin m) → World → Prop)
    (hY : ∀ pre x W, J pre W → pre.length < m → YieldAt F (n - 1) Try.prog l #[.slice (some ⟨g, o + x.val * z, none⟩) z z] W fun e W' =>
      (e = .returned (.bool true) ∧ J (pre ++ [x]) W' ∧ KpC n0 Bs Bn W W') ∨ (e = .returned (.bool false) ∧ Jx (pre ++ [x]) W'))
    (W : World) (hbs : Bs < W.heap.size) (hbn : Bn < W.heap.size) (hB : W.cell? ⟨Bs, 0, none⟩ = some (.slice (some ⟨g, o, none⟩) (m * z) c)) (hZ : W.cell? ⟨Bn, 0, none⟩ = some (.int .i64 z)) (hJ : AbidesFrom W.heap.size J) (h0 : J [] W) :
    CallsIn F n Try.prog 91 #[.func (.yield l) #[] #[], .pointer (some ⟨Bs, 0, none⟩), .pointer (some ⟨Bn, 0, none⟩)] W fun e W' => (∃ v, e = .returned v) ∧
      ((∃ ys, ys = List.finRange m ∧ J ys W') ∨ (∃ pre, (∃ k, k ≤ m ∧ pre = firsts m k) ∧ Jx pre W')) := by
  refine callsIn_of_wp Try.func91 rfl h91 ?_ hro
  simp only [Try.ntmps91, List.size_toArray, List.length_cons, List.length_nil, Nat.reduceAdd, Nat.reduceSub, Array.replicate_succ, Array.replicate_zero, List.push_toArray, List.append_toArray, List.nil_append, List.cons_append]
  gi_wp2
  gi_loopw [4] (fun i wr => ∃ k : Nat, k ≤ m ∧ i = .int .i64 (k * z : Nat) ∧ J (firsts m k) wr ∧ KpC n0 Bs Bn W wr) (fun i _ => m * z - (intOf i).toNat)
  case atStart => exact ⟨0, Nat.zero_le _, by simp, h0, Moves.refl _ _⟩
  case round =>
    obtain ⟨k, hk, rfl, hJs, hmv⟩ := hrel
    have hB' : wr.cell? ⟨Bs, 0, none⟩ = some (.slice (some ⟨g, o, none⟩) (m * z) c) := (hmv.cell (p := ⟨Bs, 0, none⟩) hbs (fun h => h.2.1 rfl)).trans hB
    have hZ' : wr.cell? ⟨Bn, 0, none⟩ = some (.int .i64 z) := (hmv.cell (p := ⟨Bn, 0, none⟩) hbn (fun h => h.2.2 rfl)).trans hZ
    by_cases hlt : k < m
    · obtain ⟨fn, tmps, assign, body, hy, hR⟩ := hY _ ⟨k, hlt⟩ wr.drew (hJ _ wr wr.drew none hJs ⟨rfl, rfl, rfl, Nat.le_refl _, fun _ _ _ => rfl⟩ (fun r e => by cases e)) (by rw [firsts_len hk]; exact hlt)
      dsimp only at hy
      have hs : k * z + z ≤ m * z := by rw [← Nat.succ_mul]; exact Nat.mul_le_mul_right z hlt
      have HKS := Lib.hid (Nat.succ_mul k z)
      generalize k * z = q at hs hy HKS ⊢
      generalize m * z = N at hs hN hc hB' ⊢
      have q1 : (q : Int) < (N : Int) := by omega
      have q0 : (0 : Int) ≤ (q : Int) := by omega
      have q2 : (q : Int) ≤ (N : Int) := by omega
      have q3 : (q : Int) ≤ (c : Int) := by omega
      have q4 : (q : Int) + (z : Int) ≤ (c : Int) := by omega
      have q5 : (0 : Int) ≤ (q : Int) + (z : Int) := by omega
      have q6 : (q : Int) ≤ (q : Int) + (z : Int) := by omega
      have q7 : ((q : Int) + (z : Int)).toNat = q + z := by omega
      have q8 : q + z - q = z := by omega
      have q9 : min (z : Int) ((N - q : Nat) : Int) = (z : Int) := by omega
      have q10 : ¬ (q + z = q) := by omega
      have q11 : ¬ (c = q) := by omega
      have q12 : ¬ (N = q) := by omega
      have hmd : KpC n0 Bs Bn W wr.drew := hmv.trans (Moves.refl _ wr).drew
      have HJ := Lib.hid (And.intro hJ hmd)
      clear hJ hmd hmv hJs h0 hY
      gi_wp2
      gi_region
      all_goals
        gi_wp2
        refine hR.mono ?_
        rintro e W3 (⟨rfl, hJ3, hk3⟩ | ⟨rfl, hJx3⟩)
        · have hmv3 := HJ.out.2.trans hk3
          have hZ3 : W3.cell? ⟨Bn, 0, none⟩ = some (.int .i64 z) := (hmv3.cell (p := ⟨Bn, 0, none⟩) hbn (fun h => h.2.2 rfl)).trans hZ
          have HK3 := Lib.hid (And.intro hJ3 hmv3)
          clear hJ3 hk3 hmv3
          gi_wp2
          go_roundw
          case rel => exact ⟨k + 1, by omega, by rw [show (k + 1) * z = q + z from HKS.out]; simp, by rw [firsts_succ hlt]; exact HK3.out.1, HK3.out.2⟩
          case measure => simp [intOf]; omega
        · gi_wp2
          refine bodyPost_ret (results_none rfl _ _ _) rfl ?_
          exact ⟨⟨_, rfl⟩, .inr ⟨_, ⟨k + 1, by omega, (firsts_succ hlt).symm⟩, hJx3⟩⟩
    · obtain rfl : k = m := by omega
      have q1 : ¬ ((k * z : Nat) : Int) < ((k * z : Nat) : Int) := by omega
      rw [firsts_all] at hJs
      gi_wp2
      go_end0
      exact ⟨⟨_, rfl⟩, .inl hJs⟩
theorem kpC_t {n0 Bs Bn : Nat} {A B C : World} (h : KpC n0 Bs Bn A B) (k : KpC n0 Bs Bn B C) : KpC n0 Bs Bn A C := h.trans k
theorem kpC_b {n0 Bs Bn : Nat} {w : World} (hn : n0 ≤ w.heap.size) (h1 : Bs < w.heap.size) (h2 : Bn < w.heap.size) (W : World) (l : Nat) (o o' : Obj) (hl : w.heap.size ≤ l) (_ : W.heap[l]? = some o) (_ : o.isCells = false) (_ : o.isWalk = false) : KpC n0 Bs Bn W (W.putObj l o') := by
  have h := grownBy_putObj' W l o'
  exact ⟨h.os, h.tape, h.output, h.size, fun k hk hs => h.block k hk (fun e => by cases e; exact hs ⟨by omega, by omega, by omega⟩)⟩

theorem chunk_stops (F : Fence) (n : Nat) (h91 : F.fn 91) (hro : F.round = none) (hn : 1 ≤ n) (Bs Bn n0 : Nat) (g o c m z : Nat) (hz : 1 ≤ z ∧ z ≤ 1024) (hN : m * z ≤ 100000) (hc : m * z ≤ c) (w : World) (hbs : Bs < w.heap.size) (hbn : Bn < w.heap.size)
    (hB : w.cell? ⟨Bs, 0, none⟩ = some (.slice (some ⟨g, o, none⟩) (m * z) c)) (hZ : w.cell? ⟨Bn, 0, none⟩ = some (.int .i64 z)) :
    SeqStopsK F n Try.prog 91 #[.pointer (some ⟨Bs, 0, none⟩), .pointer (some ⟨Bn, 0, none⟩)] (fun x : Fin m => #[Value.slice (some ⟨g, o + x.val * z, none⟩) z z]) (KpC n0 Bs Bn) (fun ys => ys = List.finRange m) (fun _ => True) m w := fun l J Jx W hW hJ _ hY h0 => by
  refine (chunk1_in F n h91 hro hn l Bs Bn n0 g o c m z hz hN hc J Jx hY W (Nat.lt_of_lt_of_le hbs hW.size) (Nat.lt_of_lt_of_le hbn hW.size) ((hW.cell (p := ⟨Bs, 0, none⟩) hbs).trans hB) ((hW.cell (p := ⟨Bn, 0, none⟩) hbn).trans hZ) hJ h0).mono ?_
  rintro e W' ⟨he, ⟨ys, rfl, hj⟩ | ⟨pre, -, hj⟩⟩
  · exact ⟨he, .inl ⟨_, rfl, hj⟩⟩
  · exact ⟨he, .inr ⟨_, trivial, hj⟩⟩

set_option maxHeartbeats 1000000 in
/-- slices.Chunk: the slice and the size are boxed; the function value captures the boxes. -/
theorem chunk_any {z : Nat} (hz : 1 ≤ z ∧ z ≤ 1024) (A : Option Addr) (k c : Nat) (w : World) : Calls Try.prog 71 #[.slice A k c, .int .i64 z] w fun e w' => e = .returned (.func (.func 91) #[] #[.pointer (some ⟨w.heap.size, 0, none⟩), .pointer (some ⟨w.heap.size + 1, 0, none⟩)]) ∧ w' = (w.alloc (.cells #[.slice A k c] 29)).alloc (.cells #[.int .i64 z] 3) := by
  have h1 : ¬ (z : Int) < 1 := by omega
  go_enter Try.func71, Try.ntmps71
  go_wp2
  go_ret
  exact ⟨rfl, rfl⟩
end Go.Proofs.Ytbfnmgjpkieaoaa.Pl
