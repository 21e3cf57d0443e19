/-
  Plain facts for HandRenumbers: a row renumbered twice, handle by handle.
-/
import Derived.Test.YtmennobdgfgjaaaHandData
namespace Go.Proofs.Ytmennobdgfgjaaa
open Go Go.Maps

/-- A node's number behind two rows of numbers; 0: it has none. -/
def mid (X : List Int) (v : Int) : Int := if v ≤ X.length then X.getD (v - 1).toNat 0 else 0
def fin2 (X Y : List Int) (v : Int) : Int := if 0 < mid X v ∧ mid X v ≤ Y.length then Y.getD (mid X v - 1).toNat 0 else 0

def rowOf (N : List Int) : List Pr := (List.range N.length).map fun (i : Nat) => ((i : Int) + 1, N.getD i 0)
def row2 (X Y N : List Int) : List Pr := (List.range N.length).filterMap fun (i : Nat) => if 0 < fin2 X Y (N.getD i 0) then some ((i : Int) + 1, fin2 X Y (N.getD i 0)) else none
def left2 (X Y N : List Int) (n : Nat) : Nat := ((List.range n).filter fun i => decide (0 < fin2 X Y (N.getD i 0))).length

theorem rowOf_len (N : List Int) : (rowOf N).length = N.length := by simp [rowOf]
theorem rowOf_snoc (N : List Int) (n : Nat) (h : n < N.length) : rowOf (N.take (n + 1)) = rowOf (N.take n) ++ [((n : Int) + 1, N.getD n 0)] := by
  unfold rowOf
  rw [List.length_take, List.length_take, show min (n + 1) N.length = n + 1 by omega, show min n N.length = n by omega, List.range_succ, List.map_append]
  congr 1
  · refine List.map_congr_left fun i hi => ?_
    have := List.mem_range.1 hi
    simp [this, show i < n + 1 by omega]
  · simp

theorem row2_eq (X Y N : List Int) : ((rowOf N).filterMap (ren X)).filterMap (ren Y) = row2 X Y N := by
  unfold rowOf row2
  rw [List.filterMap_map, List.filterMap_filterMap]
  refine filterMap_same fun i _ => ?_
  show (ren X ((i : Int) + 1, N.getD i 0)).bind (ren Y) = _
  generalize N.getD i 0 = v
  unfold ren fin2 mid
  by_cases h1 : v ≤ X.length
  · simp only [h1, true_and, if_true]
    by_cases h2 : 1 ≤ X.getD (v - 1).toNat 0
    · simp only [h2, if_true, Option.bind_some]
      have h3 : 0 < X.getD (v - 1).toNat 0 := by omega
      simp only [h3, true_and]
      by_cases h4 : X.getD (v - 1).toNat 0 ≤ Y.length
      · simp only [h4, true_and, if_true]
        by_cases h5 : 1 ≤ Y.getD (X.getD (v - 1).toNat 0 - 1).toNat 0
        · rw [if_pos h5, if_pos (by omega)]
        · rw [if_neg h5, if_neg (by omega)]
      · rw [if_neg (by rintro ⟨h, _⟩; exact h4 h), if_neg (c := X.getD (v - 1).toNat 0 ≤ (Y.length : Int)) h4, if_neg (by omega)]
    · have h3 : ¬ 0 < X.getD (v - 1).toNat 0 := by omega
      simp only [h2, h3, if_false, false_and, Option.bind_none]
      simp
  · simp [h1]

theorem rowOf_rise (N : List Int) : Rise (rowOf N) := by
  unfold rowOf Rise
  refine List.pairwise_map.2 (List.Pairwise.imp ?_ List.pairwise_lt_range)
  intro a b hab
  show ((a : Int) + 1) < (b : Int) + 1
  omega

theorem row2_rise (X Y N : List Int) : Rise (row2 X Y N) := by
  rw [← row2_eq]
  exact ((rowOf_rise N).filterMap (fun _ _ => ren_key)).filterMap (fun _ _ => ren_key)

theorem row2_mem {X Y N : List Int} {i : Nat} (hi : i < N.length) (hk : 0 < fin2 X Y (N.getD i 0)) : ((i : Int) + 1, fin2 X Y (N.getD i 0)) ∈ row2 X Y N :=
  List.mem_filterMap.2 ⟨i, List.mem_range.2 hi, by rw [if_pos hk]⟩

theorem row2_look {X Y N : List Int} {i : Nat} (hi : i < N.length) : look (row2 X Y N) ((i : Int) + 1) = if 0 < fin2 X Y (N.getD i 0) then some (fin2 X Y (N.getD i 0)) else none := by
  by_cases hk : 0 < fin2 X Y (N.getD i 0)
  · rw [if_pos hk]
    exact look_of_mem (row2_rise X Y N) (row2_mem hi hk)
  · rw [if_neg hk]
    cases hl : look (row2 X Y N) ((i : Int) + 1) with
    | none => rfl
    | some n =>
      have hm := look_mem hl
      obtain ⟨j, _, hj⟩ := List.mem_filterMap.1 hm
      split at hj
      · rename_i hkj
        simp only [Option.some.injEq, Prod.mk.injEq] at hj
        have : j = i := by omega
        subst this
        exact absurd hkj hk
      · cases hj

theorem left2_succ (X Y N : List Int) (n : Nat) : left2 X Y N (n + 1) = left2 X Y N n + if 0 < fin2 X Y (N.getD n 0) then 1 else 0 := by
  unfold left2
  rw [List.range_succ, List.filter_append, List.length_append]
  congr 1
  by_cases h : 0 < fin2 X Y (N.getD n 0)
  · rw [if_pos h, List.filter_cons_of_pos (by simpa using h)]; rfl
  · rw [if_neg h, List.filter_cons_of_neg (by simpa using h)]; rfl

theorem row2_len (X Y N : List Int) : (row2 X Y N).length = left2 X Y N N.length := by
  unfold row2 left2
  generalize List.range N.length = l
  induction l with
  | nil => rfl
  | cons a r ih =>
    rw [List.filterMap_cons, List.filter_cons]
    by_cases h : 0 < fin2 X Y (N.getD a 0)
    · simp only [h, if_true, decide_true, List.length_cons, ih]
    · simp only [h, if_false, decide_false, ih]
      simp

theorem left2_le (X Y N : List Int) (n : Nat) : left2 X Y N n ≤ n := by
  unfold left2
  have := List.length_filter_le (fun i => decide (0 < fin2 X Y (N.getD i 0))) (List.range n)
  simpa using this

theorem getD_mod {Z : List Int} (h : ∀ z ∈ Z, 0 ≤ z ∧ z ≤ 255) (j : Nat) : 0 ≤ (Z.map (· % 20)).getD j 0 ∧ (Z.map (· % 20)).getD j 0 ≤ 19 := by
  rw [List.getD_eq_getElem?_getD]
  by_cases hj : j < Z.length
  · have := h Z[j] (List.getElem_mem hj)
    simp [hj]
    omega
  · simp [hj]
end Go.Proofs.Ytmennobdgfgjaaa
