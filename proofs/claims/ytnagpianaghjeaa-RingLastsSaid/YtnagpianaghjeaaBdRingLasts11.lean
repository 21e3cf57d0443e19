/-
  maps.Keys at the pending writes: its iterator gives each key once, in some order.
-/
import Derived.Test.YtnagpianaghjeaaBdRingLasts10
import Derived.Shelf.SlIter.Collect
import Derived.Shelf.SlIter.Nil
import Derived.Shelf.AbstractIn
import Derived.RangeFuncSeq
import Derived.RangeFuncGives
import Derived.RangeFuncBound
import Derived.Sort.MapsRangeIn
import Derived.WalkKit
import Derived.OwnWalkIn
import Derived.TacticsInMore
import Derived.RegionIn
import Derived.LoopNIn
import Derived.LoopIn
namespace Go.Proofs.Ytnagpianaghjeaa.Pl
open Go Go.RowKit Go.Maps Go.Sort Go.Proofs Go.Shelf

theorem encK_inj {p q : Pr} (h : encK p = encK q) : p = q := by
  simp [encK] at h
  exact Prod.ext h.1 h.2

/-- No key twice; a key is on the list just where the map has it and it is no longer to come. -/
structure CollK (D0 : DataW Value) (left : Lit → Bool) (ss : List Pr) : Prop where
  nodup : ss.Nodup
  wf : ∀ x ∈ ss, wf2 x
  mem : ∀ x, wf2 x → (x ∈ ss ↔ (Maps.has D0 (kK x) = true ∧ left (kK x) = false))

theorem CollK.start (D0 : DataW Value) : CollK D0 (Maps.has D0) [] := ⟨List.nodup_nil, by simp, fun x _ => by cases Maps.has D0 (kK x) <;> simp⟩
theorem same_kK {x y : Pr} (hx : wf2 x) (hy : wf2 y) : (kK x).sameKey (kK y) = decide (x = y) := by
  by_cases h : x = y
  · subst h
    rw [WideAt.sameKey_self (kK_key _)]
    simp
  · cases hs : (kK x).sameKey (kK y)
    · simp [h]
    · exact absurd (kK_inj hx hy (WideAt.sameKey_eq hs)) h
theorem CollK.step {D0 : DataW Value} {left : Lit → Bool} {ss : List Pr} (h : CollK D0 left ss) {x : Pr} (hw : wf2 x) {y : DataW Value} (hlk : left (kK x) = true) (hat : ∀ zd, D0.atKey (kK x) zd = y) : CollK D0 (fun z => left z && !z.sameKey (kK x)) (ss ++ [x]) := by
  have hhas : Maps.has D0 (kK x) = true := has_true_of_atKey hat
  have hnew : x ∉ ss := fun hx => by have := ((h.mem x hw).1 hx).2; rw [hlk] at this; cases this
  refine ⟨List.nodup_append.2 ⟨h.nodup, by simp, fun a ha b hb => by simp at hb; subst hb; exact fun e => hnew (e ▸ ha)⟩, fun z hz => ?_, fun z hz => ?_⟩
  · rcases List.mem_append.1 hz with hz | hz
    · exact h.wf z hz
    · simp at hz; subst hz; exact hw
  · rw [same_kK hz hw, List.mem_append, h.mem z hz]
    by_cases e : z = x
    · subst e; simp [hhas]
    · simp [e]
theorem CollK.perm {D0 : DataW Value} {left : Lit → Bool} {ss : List Pr} {M : List (Pr × Value)} (h : CollK D0 left ss) (hk : VOf D0 M) (hl : ∀ kl, left kl = false) : ss.Perm (M.map Prod.fst) :=
  (List.perm_ext_iff_of_nodup h.nodup hk.nodup).2 fun x => by
    constructor
    · intro hx
      exact (hk.has x (h.wf x hx)).1 ((h.mem x (h.wf x hx)).1 hx).1
    · intro hx
      obtain ⟨q, hq, rfl⟩ := List.mem_map.1 hx
      exact (h.mem q.1 (hk.wf q hq)).2 ⟨(hk.has q.1 (hk.wf q hq)).2 hx, hl _⟩

set_option maxRecDepth 100000 in
set_option maxHeartbeats 1000000 in
theorem keysK_in (F : Fence) (n : Nat) (h10 : F.fn 135) (hro : F.round = none) (hn : 1 ≤ n) (l Bm b nn : Nat) (D0 : DataW Value) {M : List (Pr × Value)} (hk : VOf D0 M) (J : List Pr → World → Prop)
    (hY : ∀ pre x W, J pre W → pre.length < Maps.size D0 → YieldAt F (n - 1) Try.prog l #[encK x] W fun e W' => e = .returned (.bool true) ∧ J (pre ++ [x]) W' ∧ KeepsWalks W W')
    (W : World) (hJ : AbidesFrom W.heap.size J) (hm : W.cell? ⟨Bm, 0, none⟩ = some (.map (some b))) (hown : W.ownsMap Try.prog 144 RV b nn D0) (h0 : J [] W) :
    CallsIn F n Try.prog 135 #[.func (.yield l) #[] #[], .pointer (some ⟨Bm, 0, none⟩)] W fun e W' => (∃ v, e = .returned v) ∧ ∃ ss : List Pr, ss.Perm (M.map Prod.fst) ∧ J ss W' := by
  refine callsIn_of_wp Try.func135 rfl h10 ?_ hro
  simp only [Try.ntmps135, List.size_toArray, List.length_cons, List.length_nil, Nat.reduceAdd, Nat.reduceSub, Array.replicate_succ, Array.replicate_zero, List.push_toArray, List.append_toArray, List.nil_append, List.cons_append]
  gi_wp2_with (first
    | (gi_at_range; refine wpListIn_range_own _ rfl _ 103 rfl 144 55 lawK Try.underlying103 _ b nn _ rfl hown ?_; intro w0 hrg0 hg0 hs0)
    | gi_in)
  go_frame
  gi_loopw [3] (fun _ wr => ∃ (left : Lit → Bool) (cnt : Nat) (ss : List Pr), wr.ranges Try.prog 144 RV b W.heap.size nn D0 left cnt ∧ ss.length + cnt ≤ Maps.size D0 ∧ CollK D0 left ss ∧ J ss wr)
    (fun _ wr => wr.rangeLeft b W.heap.size)
  case atStart =>
    exact ⟨_, _, [], hrg0, by simp, CollK.start D0, hJ [] W w0 none h0 hg0 (fun r e => by cases e)⟩
  case round =>
    obtain ⟨left, cnt, ss, hrg, hcs, hC, hJs⟩ := hrel
    gi_wp2_with (first
      | (gi_at_next; refine wpListIn_next_ranges _ rfl _ rfl 144 lawK RV encK id (fun key kl hk => by obtain ⟨x, hx, _⟩ := keyOf_K_inv hk; exact ⟨x, hx⟩) (fun v _ _ => ⟨v, rfl⟩) b W.heap.size nn _ _ _ rfl hrg ?_ ?_)
      | gi_in)
    · intro hc0 hl0
      gi_wp2
      go_end0
      exact ⟨⟨_, rfl⟩, ss, hC.perm hk hl0, hJs⟩
    · intro x1 x2 c kl yd yp w2 cnt2 hkey hlk hv hat hrg2 hlt hg2 hs2 hen
      obtain ⟨x', ex, hwf, rfl⟩ := keyOf_K_inv hkey
      obtain rfl : (x1, x2) = x' := encK_inj ex
      have hJ2 : J ss w2 := hJ ss wr w2 (some W.heap.size) hJs hg2 (fun r e => by cases e; exact ⟨Nat.le_refl _, hrg.iter_walk⟩)
      have hJ3 : J ss (w2.alloc (.cells #[.int .i64 x1, .int .i64 x2] 144)) := hJ ss w2 _ none hJ2 (World.grownBy_alloc w2 _ none) (fun r e => by cases e)
      obtain ⟨fn, tmps, assign, body, hy, hR⟩ := hY ss (x1, x2) _ hJ3 (by omega)
      have hC2 := hC.step hwf hlk hat
      have hrg3 := hrg2.alloc (.cells #[.int .i64 x1, .int .i64 x2] 144)
      clear hs2 hJ2 hJ3 hg2
      gi_wp2
      refine hR.mono ?_
      rintro e W3 ⟨rfl, hJ4, hk3⟩
      gi_wp2
      have hrg4 := hrg3.of_walks hk3
      go_roundw
      case rel => exact ⟨_, cnt2, ss ++ [(x1, x2)], hrg4, by simp; omega, hC2, hJ4⟩
      case measure => rw [hrg4.left_eq, hrg.left_eq]; exact hlt

theorem keysK_gives (F : Fence) (n : Nat) (h10 : F.fn 135) (hro : F.round = none) (hn : 1 ≤ n) (Bm b nn : Nat) (D0 : DataW Value) {M : List (Pr × Value)} (hk : VOf D0 M) (w : World) (hBm : Bm < w.heap.size)
    (hm : w.cell? ⟨Bm, 0, none⟩ = some (.map (some b))) (hown : w.ownsMap Try.prog 144 RV b nn D0) :
    SeqGives F n Try.prog 135 #[.pointer (some ⟨Bm, 0, none⟩)] encK (fun ss => ss.Perm (M.map Prod.fst)) (Maps.size D0) w := fun l J W hW hJ hY h0 => by
  have hown' : W.ownsMap Try.prog 144 RV b nn D0 := by
    have hbl := hown.lt
    obtain ⟨es, clock, hb, Ft, hs, hD⟩ := hown
    exact ⟨es, clock, (hW.block b hbl).trans hb, Ft, hs, hD⟩
  exact keysK_in F n h10 hro hn l Bm b nn D0 hk J hY W hJ ((hW.cell (p := ⟨Bm, 0, none⟩) hBm).trans hm) hown' h0

set_option maxRecDepth 100000 in
set_option maxHeartbeats 1000000 in
theorem keysK_nil_in (F : Fence) (n : Nat) (h10 : F.fn 135) (hro : F.round = none) (l Bm : Nat) (J : List Pr → World → Prop) (W : World) (hJ : AbidesFrom W.heap.size J)
    (hm : W.cell? ⟨Bm, 0, none⟩ = some (.map none)) (h0 : J [] W) :
    CallsIn F n Try.prog 135 #[.func (.yield l) #[] #[], .pointer (some ⟨Bm, 0, none⟩)] W fun e W' => (∃ v, e = .returned v) ∧ ∃ ss : List Pr, ss.Perm [] ∧ J ss W' := by
  refine callsIn_of_wp Try.func135 rfl h10 ?_ hro
  simp only [Try.ntmps135, List.size_toArray, List.length_cons, List.length_nil, Nat.reduceAdd, Nat.reduceSub, Array.replicate_succ, Array.replicate_zero, List.push_toArray, List.append_toArray, List.nil_append, List.cons_append]
  have hrg := run_range_nilMap (P := Try.prog) W 103 144 55 Try.underlying103
  have hnx : ∀ ty, (Instr.next (.pointer (some ⟨W.heap.size, 0, none⟩)) false ty).run Try.prog (W.alloc (.mapIter none 0 #[] 0)) = _ := fun ty => run_next_nilMap _ ty 0 0 #[]
  gi_wp2
  refine wpIn_loop_rounds 1 ?_
  rw [roundsIn_succ]
  gi_wp2
  go_end0
  exact ⟨⟨_, rfl⟩, [], List.Perm.refl _, hJ [] W _ none h0 (World.grownBy_alloc W _ none) (fun r e => by cases e)⟩

theorem keysK_gives_nil (F : Fence) (n : Nat) (h10 : F.fn 135) (hro : F.round = none) (Bm : Nat) (w : World) (hBm : Bm < w.heap.size) (hm : w.cell? ⟨Bm, 0, none⟩ = some (.map none)) :
    SeqGives F n Try.prog 135 #[.pointer (some ⟨Bm, 0, none⟩)] encK (fun ss : List Pr => ss.Perm []) 0 w := fun l J W hW hJ _ h0 =>
  keysK_nil_in F n h10 hro l Bm J W hJ ((hW.cell (p := ⟨Bm, 0, none⟩) hBm).trans hm) h0

set_option maxHeartbeats 1000000 in
theorem keysK_make (F : Fence) (n : Nat) (h7 : F.fn 122) (hro : F.round = none) (mb : Option Nat) (w : World) :
    CallsIn F n Try.prog 122 #[.map mb] w fun e w' => e = .returned (.func (.func 135) #[] #[.pointer (some ⟨w.heap.size, 0, none⟩)]) ∧ w' = w.alloc (.cells #[.map mb] 103) := by
  refine callsIn_of_wp Try.func122 rfl h7 ?_ hro
  simp only [Try.ntmps122, List.size_toArray, List.length_cons, List.length_nil, Nat.reduceAdd, Nat.reduceSub, Array.replicate_succ, Array.replicate_zero, List.push_toArray, List.append_toArray, List.nil_append, List.cons_append]
  gi_wp2
  go_ret
  exact ⟨rfl, rfl⟩
end Go.Proofs.Ytnagpianaghjeaa.Pl
