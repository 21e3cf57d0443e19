/-
  The plain functions of the layer of keys: which key is the lesser (the program's word, the document's), a key as a word and back.
-/
import Derived.Test.YtbfnmgjpkieaoaaChecked
import Derived.Test.YtbfnmgjpkieaoaaWords
import Derived.Test.YtbfnmgjpkieaoaaHandData
import Derived.Sort.Grow
import Derived.Deep.RegionHeld3
import Derived.BigQuiet
import Derived.Deep.QuietTactic
import Derived.WalkKit
import Derived.Lib.Hide
namespace Go.Proofs.Ytbfnmgjpkieaoaa
open Go Go.RowKit Go.Maps Go.Sort

/-- Draws and blocks at the end: nothing else has turned. -/
def Lays (w w' : World) : Prop := ∃ q os, w' = grow (w.drewN q) os

theorem Lays.refl (w : World) : Lays w w := ⟨0, #[], by simp; rfl⟩
theorem Lays.alloc {w w' : World} (h : Lays w w') (o : Obj) : Lays w (w'.alloc o) := by
  obtain ⟨q, os, rfl⟩ := h
  exact ⟨q, os ++ #[o], by rw [alloc_eq_grow, grow_grow]⟩
theorem Lays.drewN {w w' : World} (h : Lays w w') (n : Nat) : Lays w (w'.drewN n) := by
  obtain ⟨q, os, rfl⟩ := h
  exact ⟨q + n, os, by rw [← World.drewN_drewN]; rfl⟩
theorem Lays.drew {w w' : World} (h : Lays w w') : Lays w w'.drew := h.drewN 1
theorem Lays.trans {w w' w'' : World} (h : Lays w w') (k : Lays w' w'') : Lays w w'' := by
  obtain ⟨q, os, rfl⟩ := k
  obtain ⟨q', os', e⟩ := h.drewN q
  exact ⟨q', os' ++ os, by rw [e, grow_grow]⟩
theorem Lays.moves {w w' : World} (h : Lays w w') (S : Nat → Prop) : Moves S w w' := by
  obtain ⟨q, os, rfl⟩ := h
  refine ⟨rfl, rfl, rfl, by simp [grow], fun i hi _ => ?_⟩
  show (w.heap ++ os)[i]? = w.heap[i]?
  rw [Array.getElem?_append_left hi]

abbrev encK (p : Pr) : Value := .agg #[.int .i64 p.1, .int .i64 p.2]
def cmpI (x y : Int) : Int := if x < y then -1 else if y < x then 1 else 0
def cmpK (p q : Pr) : Int := if cmpI p.1 q.1 = 0 then cmpI p.2 q.2 else cmpI p.1 q.1

theorem cmpI_lt {x y : Int} (h : x < y) : cmpI x y = -1 := if_pos h
theorem cmpI_gt {x y : Int} (h : y < x) : cmpI x y = 1 := by unfold cmpI; rw [if_neg (by omega), if_pos h]
theorem cmpI_eq (x : Int) : cmpI x x = 0 := by unfold cmpI; rw [if_neg (by omega), if_neg (by omega)]

def SameP (w : World) (v : Value) (e : Ending) (w' : World) : Prop := e = .returned v ∧ w = w'

theorem isNaN_any (x : Int) (w : World) : Calls Try.prog 144 #[.int .i64 x] w (SameP w (.bool false)) := by
  have h2 : (x != x) = false := by simp
  go_enter Try.func144, Try.ntmps144
  go_wp2
  go_ret
  exact ⟨rfl, rfl⟩

set_option maxHeartbeats 1000000 in
theorem cmpI_any {x y c : Int} (hc : cmpI x y = c) (w : World) : Calls Try.prog 113 #[.int .i64 x, .int .i64 y] w (SameP w (.int .i64 c)) := by
  rcases Int.lt_trichotomy x y with h | h | h
  · rw [cmpI_lt h] at hc
    subst hc
    go_enter Try.func113, Try.ntmps113
    go_wp2_with (go_at_call 144; refine (isNaN_any _ _).mono ?_; rintro e w' ⟨rfl, rfl⟩)
    go_ret
    exact ⟨rfl, rfl⟩
  · subst h
    rw [cmpI_eq] at hc
    subst hc
    go_enter Try.func113, Try.ntmps113
    go_wp2_with (go_at_call 144; refine (isNaN_any _ _).mono ?_; rintro e w' ⟨rfl, rfl⟩)
    go_ret
    exact ⟨rfl, rfl⟩
  · rw [cmpI_gt h] at hc
    subst hc
    have h' : ¬ x < y := by omega
    go_enter Try.func113, Try.ntmps113
    go_wp2_with (go_at_call 144; refine (isNaN_any _ _).mono ?_; rintro e w' ⟨rfl, rfl⟩)
    go_ret
    exact ⟨rfl, rfl⟩

set_option maxHeartbeats 1000000 in
theorem or2_any {w : World} {g : Nat} {a b c : Int} (h0 : w.cell? ⟨g, 0, none⟩ = some (.int .i64 a)) (h1 : w.cell? ⟨g, 1, none⟩ = some (.int .i64 b)) (hc : (if a = 0 then b else a) = c) :
    Calls Try.prog 112 #[.slice (some ⟨g, 0, none⟩) 2 2] w (SameP w (.int .i64 c)) := by
  by_cases ha : a = 0
  · subst ha
    rw [if_pos rfl] at hc
    subst hc
    by_cases hb : b = 0
    · subst hb
      go_enter Try.func112, Try.ntmps112
      go_wp2_with fail
      refine wp_loop_rounds 3 ?_
      rw [rounds_succ]
      go_wp2_with fail
      rw [rounds_succ]
      go_wp2_with fail
      rw [rounds_succ]
      go_wp2
      go_ret
      exact ⟨rfl, rfl⟩
    · have hb' : (b != 0) = true := by simpa using hb
      go_enter Try.func112, Try.ntmps112
      go_wp2_with fail
      refine wp_loop_rounds 2 ?_
      rw [rounds_succ]
      go_wp2_with fail
      rw [rounds_succ]
      go_wp2
      go_ret
      exact ⟨rfl, rfl⟩
  · have ha' : (a != 0) = true := by simpa using ha
    rw [if_neg ha] at hc
    subst hc
    go_enter Try.func112, Try.ntmps112
    go_wp2_with fail
    refine wp_loop_rounds 1 ?_
    rw [rounds_succ]
    go_wp2
    go_ret
    exact ⟨rfl, rfl⟩

theorem cell2 (w : World) (a b : Value) (t : TypeId) : (w.alloc (.cells #[a, b] t)).cell? ⟨w.heap.size, 0, none⟩ = some a ∧ (w.alloc (.cells #[a, b] t)).cell? ⟨w.heap.size, 1, none⟩ = some b := by
  have := heap_alloc_new w (.cells #[a, b] t)
  unfold World.cell?
  simp only [this]
  exact ⟨rfl, rfl⟩

def CmpPost (w : World) (c : Int) (e : Ending) (w' : World) : Prop := e = .returned (.int .i64 c) ∧ Lays w w'
set_option maxHeartbeats 2000000 in
set_option maxRecDepth 100000 in
theorem compare_any {p q : Pr} {c : Int} (hc : cmpK p q = c) (w : World) : Calls Try.prog 104 #[encK p, encK q] w (CmpPost w c) := by
  obtain ⟨p1, p2⟩ := p
  obtain ⟨q1, q2⟩ := q
  have hc' : (if cmpI p1 q1 = 0 then cmpI p2 q2 else cmpI p1 q1) = c := hc
  clear hc
  have C1 := fun x y W => cmpI_any (x := x) (y := y) rfl W
  generalize cmpI = cI at hc' C1
  have Hc := Lib.hid hc'
  clear hc'
  go_enter Try.func104, Try.ntmps104
  go_wp2_with fail
  have hW := ((Lays.refl w).alloc (.cells #[.int .i64 p1, .int .i64 p2] 43)).alloc (.cells #[.int .i64 q1, .int .i64 q2] 43)
  have b0 : ((w.alloc (.cells #[.int .i64 p1, .int .i64 p2] 43)).alloc (.cells #[.int .i64 q1, .int .i64 q2] 43)).heap[w.heap.size]? = some (.cells #[.int .i64 p1, .int .i64 p2] 43 (0, 0)) := (Below.heap_alloc _ _ _ (by simp)).trans (heap_alloc_new w _)
  have b1 : ((w.alloc (.cells #[.int .i64 p1, .int .i64 p2] 43)).alloc (.cells #[.int .i64 q1, .int .i64 q2] 43)).heap[w.heap.size + 1]? = some (.cells #[.int .i64 q1, .int .i64 q2] 43 (0, 0)) := by
    have := heap_alloc_new (w.alloc (.cells #[.int .i64 p1, .int .i64 p2] 43)) (.cells #[.int .i64 q1, .int .i64 q2] 43)
    simpa using this
  generalize (w.alloc (.cells #[.int .i64 p1, .int .i64 p2] 43)).alloc (.cells #[.int .i64 q1, .int .i64 q2] 43) = W at hW b0 b1 ⊢
  have k0 : W.cell? ⟨w.heap.size, 0, none⟩ = some (.int .i64 p1) := by simp [World.cell?, b0]
  have k1 : W.cell? ⟨w.heap.size, 1, none⟩ = some (.int .i64 p2) := by simp [World.cell?, b0]
  have k2 : W.cell? ⟨w.heap.size + 1, 0, none⟩ = some (.int .i64 q1) := by simp [World.cell?, b1]
  have k3 : W.cell? ⟨w.heap.size + 1, 1, none⟩ = some (.int .i64 q2) := by simp [World.cell?, b1]
  have HW := Lib.hid hW
  clear hW b0 b1
  go_region_held3 (fun w' => w'.cell? ⟨w.heap.size, 0, none⟩ = some (.int .i64 p1) ∧ w'.cell? ⟨w.heap.size, 1, none⟩ = some (.int .i64 p2) ∧ w'.cell? ⟨w.heap.size + 1, 0, none⟩ = some (.int .i64 q1) ∧ w'.cell? ⟨w.heap.size + 1, 1, none⟩ = some (.int .i64 q2)) (go_keep)
    (first
      | (go_at_call 113; refine (C1 _ _ _).mono ?_; rintro e w' ⟨rfl, rfl⟩)
      | (go_at_call 112; refine (or2_any (w := (W.alloc (.cells #[.int .i64 (cI p1 q1), .int .i64 (cI p2 q2)] 3)).drew) (a := cI p1 q1) (b := cI p2 q2) (c := c) (cell2 W _ _ _).1 (cell2 W _ _ _).2 Hc.out).mono ?_; rintro e w' ⟨rfl, rfl⟩))
  all_goals
    go_wp2
    go_ret
    exact ⟨rfl, (HW.out.alloc _).drew⟩
end Go.Proofs.Ytbfnmgjpkieaoaa
