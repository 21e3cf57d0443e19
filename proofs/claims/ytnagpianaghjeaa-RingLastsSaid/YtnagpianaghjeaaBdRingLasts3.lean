/-
  A log on sectors: what its heads and its records say. Plain law.
-/
import Derived.Test.YtnagpianaghjeaaBdRingLasts2
namespace Go.Proofs.Ytnagpianaghjeaa.Rg
open Go.Proofs.Ytnagpianaghjeaa.Sl

/-- A head. -/
structure Hd where
  gen : Int
  first : Int
  count : Int
  start : Int
  used : Int
  deriving DecidableEq
def hd0 : Hd := ⟨0, 0, 0, 0, 0⟩
/-- What Go's own types hold. -/
def WfH (h : Hd) : Prop := (0 ≤ h.gen ∧ h.gen < 18446744073709551616) ∧ (0 ≤ h.first ∧ h.first < 18446744073709551616) ∧ (0 ≤ h.count ∧ h.count < 18446744073709551616) ∧ (0 ≤ h.start ∧ h.start < 18446744073709551616) ∧ (0 ≤ h.used ∧ h.used < 18446744073709551616)
/-- The head that a sector bears. -/
def hdS (s : List Int) : Hd := ⟨getL s 8 8, getL s 16 8, getL s 24 8, getL s 32 8, getL s 40 8⟩
/-- Is it one of this slot, in an area of so many sectors? -/
def okS (a : Nat) (i : Int) (s : List Int) : Prop := getL s 0 8 = 1196312914 ∧ (hdS s).gen % 2 = i ∧ 0 < (hdS s).first ∧ (hdS s).start < a ∧ (hdS s).used ≤ a ∧ (hdS s).count ≤ (hdS s).used
instance (a : Nat) (i : Int) (s : List Int) : Decidable (okS a i s) := by unfold okS; infer_instance
/-- Generations may go round. -/
def w64u (x : Int) : Int := x % 18446744073709551616
def newerH (a b : Hd) : Prop := 0 < w64u (a.gen - b.gen) ∧ w64u (a.gen - b.gen) < 9223372036854775808
instance (a b : Hd) : Decidable (newerH a b) := by unfold newerH; infer_instance
/-- The newest of two. -/
def newestH (a : Nat) (s0 s1 : List Int) : Option Hd :=
  if okS a 1 s1 ∧ (¬ okS a 0 s0 ∨ newerH (hdS s1) (hdS s0)) then some (hdS s1) else if okS a 0 s0 then some (hdS s0) else none
/-- How many sectors of so many bytes a record takes. -/
def needN (z x : Nat) : Nat := (x + 4 + z - 1) / z
/-- So many sectors from a place on, one behind the other. -/
def wholeN (F : Nat → List Int) (p k : Nat) : List Int := (List.range k).flatMap (fun i => F (p + i))
/-- The records that so many sectors bear: so many are left, at a place, behind those. -/
def loadN (F : Nat → List Int) (z u : Nat) : Nat → Nat → List (List Int) → Option (List (List Int))
  | 0, p, L => if p = u then some L else none
  | c + 1, p, L =>
    if u ≤ p then none else
    if 4096 < getL (F p) 0 4 then none else
    let x := (getL (F p) 0 4).toNat
    if u - p < needN z x then none else
    loadN F z u c (p + needN z x) (L ++ [((wholeN F p (needN z x)).drop 4).take x])
/-- The sector at a place of the area: a disk's sectors K, the log's from s on, an area of a sectors. -/
def secF (K : List (List Int)) (s a t : Nat) (p : Nat) : List Int := K.getD (s + 2 + (t + p) % a) []
/-- What Open finds. -/
def openN (K : List (List Int)) (s n z : Nat) : Option (Hd × List (List Int)) :=
  match newestH (n - 2) (K.getD s []) (K.getD (s + 1) []) with
  | none => none
  | some h => (loadN (secF K s (n - 2) h.start.toNat) z h.used.toNat h.count.toNat 0 []).map (fun L => (h, L))
theorem getL_nonneg {b : List Int} (hb : ∀ x ∈ b, 0 ≤ x ∧ x < 256) (p k : Nat) : 0 ≤ getL b p k ∧ getL b p k < 256 ^ k := by
  induction k generalizing p with
  | zero => exact ⟨Int.le_refl 0, by show (0 : Int) < 1; decide⟩
  | succ k ih =>
    have h := ih (p + 1)
    have hx : 0 ≤ b.getD p 0 ∧ b.getD p 0 < 256 := by
      rw [List.getD_eq_getElem?_getD]
      cases e : b[p]? with
      | none => exact ⟨by decide, by decide⟩
      | some x => exact hb x (List.mem_of_getElem? e)
    unfold getL
    have e : (256 : Int) ^ (k + 1) = 256 * 256 ^ k := by rw [Int.pow_succ, Int.mul_comm]
    rw [e]
    constructor
    · omega
    · omega
theorem hdS_wf {s : List Int} (hb : ∀ x ∈ s, 0 ≤ x ∧ x < 256) : WfH (hdS s) := by
  have e : (256 : Int) ^ 8 = 18446744073709551616 := by decide
  have q := fun p => getL_nonneg hb p 8
  rw [e] at q
  exact ⟨q 8, q 16, q 24, q 32, q 40⟩
theorem wholeN_len {F : Nat → List Int} {p k z : Nat} (h : ∀ i, i < k → (F (p + i)).length = z) : (wholeN F p k).length = k * z := by
  unfold wholeN
  induction k with
  | zero => simp
  | succ k ih =>
    rw [List.range_succ, List.flatMap_append, List.length_append, ih (fun i hi => h i (by omega))]
    simp only [List.flatMap_cons, List.flatMap_nil, List.append_nil]
    rw [h k (by omega), Nat.succ_mul]
theorem wholeN_succ (F : Nat → List Int) (p k : Nat) : wholeN F p (k + 1) = wholeN F p k ++ F (p + k) := by
  unfold wholeN
  rw [List.range_succ, List.flatMap_append]
  simp only [List.flatMap_cons, List.flatMap_nil, List.append_nil]
theorem wholeN_one (F : Nat → List Int) (p : Nat) : wholeN F p 1 = F p := by
  rw [wholeN_succ]
  show [] ++ F (p + 0) = F p
  rfl
theorem needN_pos {z x : Nat} (hz : 1 ≤ z) : 1 ≤ needN z x := by
  unfold needN
  rw [Nat.le_div_iff_mul_le (by omega)]
  omega
theorem needN_room {z x : Nat} (hz : 1 ≤ z) : x + 4 ≤ needN z x * z := by
  unfold needN
  have h := Nat.div_add_mod (x + 4 + z - 1) z
  have h2 := Nat.mod_lt (x + 4 + z - 1) (show 0 < z by omega)
  rw [Nat.mul_comm] at h
  omega
end Go.Proofs.Ytnagpianaghjeaa.Rg
