/-
  Words of the layer of keys in which no function of the program stands: draws and blocks at the end; two numbers compared.
-/
import Derived.Test.YtnagpianaghjeaaChecked
import Derived.Test.YtnagpianaghjeaaWords
import Derived.Test.YtnagpianaghjeaaHandData
import Derived.Sort.Grow
import Derived.Deep.RegionHeld3
import Derived.BigQuiet
import Derived.Deep.QuietTactic
import Derived.WalkKit
import Derived.Lib.Hide
namespace Go.Proofs.Ytnagpianaghjeaa
open Go Go.RowKit Go.Maps Go.Sort

/-- Draws and blocks at the end: nothing else has turned. -/
def Lays (w w' : World) : Prop := ∃ q os, w' = grow (w.drewN q) os

theorem Lays.refl (w : World) : Lays w w := ⟨0, #[], by simp; rfl⟩
theorem Lays.alloc {w w' : World} (h : Lays w w') (o : Obj) : Lays w (w'.alloc o) := by
  obtain ⟨q, os, rfl⟩ := h
  exact ⟨q, os ++ #[o], by rw [alloc_eq_grow, grow_grow]⟩
theorem Lays.drewN {w w' : World} (h : Lays w w') (n : Nat) : Lays w (w'.drewN n) := by
  obtain ⟨q, os, rfl⟩ := h
  exact ⟨q + n, os, by rw [← World.drewN_drewN]; rfl⟩
theorem Lays.drew {w w' : World} (h : Lays w w') : Lays w w'.drew := h.drewN 1
theorem Lays.trans {w w' w'' : World} (h : Lays w w') (k : Lays w' w'') : Lays w w'' := by
  obtain ⟨q, os, rfl⟩ := k
  obtain ⟨q', os', e⟩ := h.drewN q
  exact ⟨q', os' ++ os, by rw [e, grow_grow]⟩
theorem Lays.moves {w w' : World} (h : Lays w w') (S : Nat → Prop) : Moves S w w' := by
  obtain ⟨q, os, rfl⟩ := h
  refine ⟨rfl, rfl, rfl, by simp [grow], fun i hi _ => ?_⟩
  show (w.heap ++ os)[i]? = w.heap[i]?
  rw [Array.getElem?_append_left hi]

abbrev encK (p : Pr) : Value := .agg #[.int .i64 p.1, .int .i64 p.2]
def cmpI (x y : Int) : Int := if x < y then -1 else if y < x then 1 else 0
def cmpK (p q : Pr) : Int := if cmpI p.1 q.1 = 0 then cmpI p.2 q.2 else cmpI p.1 q.1

theorem cmpI_lt {x y : Int} (h : x < y) : cmpI x y = -1 := if_pos h
theorem cmpI_gt {x y : Int} (h : y < x) : cmpI x y = 1 := by unfold cmpI; rw [if_neg (by omega), if_pos h]
theorem cmpI_eq (x : Int) : cmpI x x = 0 := by unfold cmpI; rw [if_neg (by omega), if_neg (by omega)]

def SameP (w : World) (v : Value) (e : Ending) (w' : World) : Prop := e = .returned v ∧ w = w'

theorem cell2 (w : World) (a b : Value) (t : TypeId) : (w.alloc (.cells #[a, b] t)).cell? ⟨w.heap.size, 0, none⟩ = some a ∧ (w.alloc (.cells #[a, b] t)).cell? ⟨w.heap.size, 1, none⟩ = some b := by
  have := heap_alloc_new w (.cells #[a, b] t)
  unfold World.cell?
  simp only [this]
  exact ⟨rfl, rfl⟩

def CmpPost (w : World) (c : Int) (e : Ending) (w' : World) : Prop := e = .returned (.int .i64 c) ∧ Lays w w'
end Go.Proofs.Ytnagpianaghjeaa
