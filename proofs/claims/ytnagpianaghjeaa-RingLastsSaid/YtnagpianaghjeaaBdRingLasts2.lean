/-
  Numbers laid into bytes, the lowest byte first: plain law.
-/
import Derived.Test.YtnagpianaghjeaaBdRingLasts1
namespace Go.Proofs.Ytnagpianaghjeaa.Sl

/-- A number's byte. -/
def bI (v : Int) (i : Nat) : Int := v / 256 ^ i % 256
/-- So many bytes of a number, laid from a place on. -/
def putL (b : List Int) (p : Nat) : Nat → Int → List Int
  | 0, _ => b
  | n + 1, v => (putL b p n v).set (p + n) (bI v n)
/-- The number that so many bytes are. -/
def getL (b : List Int) (p : Nat) : Nat → Int
  | 0 => 0
  | n + 1 => b.getD p 0 + 256 * getL b (p + 1) n
theorem putL_len (b : List Int) (p n : Nat) (v : Int) : (putL b p n v).length = b.length := by
  induction n with
  | zero => rfl
  | succ n ih => unfold putL; rw [List.length_set, ih]
theorem putL_in (b : List Int) (p n : Nat) (v : Int) {i : Nat} (hi : i < n) (hb : p + n ≤ b.length) : (putL b p n v).getD (p + i) 0 = bI v i := by
  induction n with
  | zero => omega
  | succ n ih =>
    unfold putL
    rw [List.getD_eq_getElem?_getD, List.getElem?_set]
    by_cases h : i = n
    · subst h
      rw [if_pos rfl, if_pos (by rw [putL_len]; omega)]
      rfl
    · rw [if_neg (by omega), ← List.getD_eq_getElem?_getD]
      exact ih (by omega) (by omega)
theorem putL_out (b : List Int) (p n : Nat) (v : Int) {j : Nat} (hj : j < p ∨ p + n ≤ j) : (putL b p n v).getD j 0 = b.getD j 0 := by
  induction n with
  | zero => rfl
  | succ n ih =>
    unfold putL
    rw [List.getD_eq_getElem?_getD, List.getElem?_set, if_neg (by omega), ← List.getD_eq_getElem?_getD]
    exact ih (by omega)
theorem getL_congr {b c : List Int} {p n : Nat} (h : ∀ i, i < n → b.getD (p + i) 0 = c.getD (p + i) 0) : getL b p n = getL c p n := by
  induction n generalizing p with
  | zero => rfl
  | succ n ih =>
    unfold getL
    have h0 := h 0 (by omega)
    rw [Nat.add_zero] at h0
    rw [h0, ih (fun i hi => by have := h (i + 1) (by omega); rwa [show p + (i + 1) = p + 1 + i by omega] at this)]
theorem bI_succ (v : Int) (i : Nat) : bI v (i + 1) = bI (v / 256) i := by
  unfold bI
  rw [Int.pow_succ, Int.mul_comm, ← Int.ediv_ediv_of_nonneg (by decide)]
theorem getL_bytes {b : List Int} {p n : Nat} {v : Int} (h : ∀ i, i < n → b.getD (p + i) 0 = bI v i) : getL b p n = v % 256 ^ n := by
  induction n generalizing p v with
  | zero => unfold getL; rw [Int.pow_zero, Int.emod_one]
  | succ n ih =>
    unfold getL
    have h0 := h 0 (by omega)
    rw [Nat.add_zero] at h0
    rw [h0, ih (v := v / 256) (fun i hi => by
      have := h (i + 1) (by omega)
      rw [show p + (i + 1) = p + 1 + i by omega, bI_succ] at this
      exact this)]
    have e : bI v 0 = v % 256 := by unfold bI; rw [Int.pow_zero, Int.ediv_one]
    rw [e]
    have hp : (0 : Int) < 256 ^ n := Int.pow_pos (by decide)
    have h1 := Int.emod_add_mul_ediv v 256
    have h2 := Int.emod_add_mul_ediv (v / 256) (256 ^ n)
    have h3 := Int.emod_nonneg (v / 256) (Int.ne_of_gt hp)
    have h4 := Int.emod_lt_of_pos (v / 256) hp
    have h5 := Int.emod_nonneg v (show (256 : Int) ≠ 0 by decide)
    have h6 := Int.emod_lt_of_pos v (show (0 : Int) < 256 by decide)
    have e7 : v = (v % 256 + 256 * (v / 256 % 256 ^ n)) + 256 ^ (n + 1) * (v / 256 / 256 ^ n) := by
      rw [Int.pow_succ, Int.mul_assoc, Int.mul_left_comm]
      generalize hA : 256 ^ n * (v / 256 / 256 ^ n) = A at h2 ⊢
      omega
    have hlt : v % 256 + 256 * (v / 256 % 256 ^ n) < 256 ^ (n + 1) := by rw [Int.pow_succ]; omega
    conv => rhs; rw [e7]
    rw [Int.add_mul_emod_self_left, Int.emod_eq_of_lt (by omega) hlt]
theorem getL_put {b : List Int} {p n : Nat} {v : Int} (hb : p + n ≤ b.length) (h0 : 0 ≤ v) (h1 : v < 256 ^ n) : getL (putL b p n v) p n = v := by
  rw [getL_bytes (fun i hi => putL_in b p n v hi hb), Int.emod_eq_of_lt h0 h1]
theorem getL_putOther {b : List Int} {p n q m : Nat} {v : Int} (h : q + m ≤ p ∨ p + n ≤ q) : getL (putL b p n v) q m = getL b q m :=
  getL_congr fun i hi => putL_out b p n v (by omega)
theorem getL_append {b c : List Int} {p n : Nat} (h : p + n ≤ b.length) : getL (b ++ c) p n = getL b p n :=
  getL_congr fun i hi => by rw [List.getD_eq_getElem?_getD, List.getElem?_append_left (by omega), ← List.getD_eq_getElem?_getD]
theorem getD_byte {b : List Int} (hb : ∀ x ∈ b, 0 ≤ x ∧ x < 256) (j : Nat) : 0 ≤ b.getD j 0 ∧ b.getD j 0 < 256 := by
  rw [List.getD_eq_getElem?_getD]
  cases h : b[j]? with
  | none => exact ⟨by decide, by decide⟩
  | some x =>
    obtain ⟨hj, rfl⟩ := List.getElem?_eq_some_iff.1 h
    exact hb _ (List.getElem_mem hj)
theorem getL_lt {b : List Int} (hb : ∀ x ∈ b, 0 ≤ x ∧ x < 256) (p n : Nat) : 0 ≤ getL b p n ∧ getL b p n < 256 ^ n := by
  induction n generalizing p with
  | zero => unfold getL; rw [Int.pow_zero]; exact ⟨by decide, by decide⟩
  | succ n ih =>
    unfold getL
    have h1 := getD_byte hb p
    have h2 := ih (p + 1)
    rw [Int.pow_succ]
    omega
theorem pow_up (n k : Nat) : (256 : Int) ^ n ≤ 256 ^ (n + k) := by
  induction k with
  | zero => exact Int.le_refl _
  | succ k ih =>
    rw [← Nat.add_assoc, Int.pow_succ]
    have h : (0 : Int) ≤ 256 ^ (n + k) := Int.pow_nonneg (by decide)
    omega
theorem getL_56 {b : List Int} (hb : ∀ x ∈ b, 0 ≤ x ∧ x < 256) (p : Nat) {n : Nat} (hn : n ≤ 7) : 0 ≤ getL b p n ∧ getL b p n < 72057594037927936 := by
  obtain ⟨h1, h2⟩ := getL_lt hb p n
  refine ⟨h1, Int.lt_of_lt_of_le h2 ?_⟩
  have h3 : (256 : Int) ^ n ≤ 256 ^ 7 := by
    obtain ⟨k, hk⟩ : ∃ k, 7 = n + k := ⟨7 - n, by omega⟩
    rw [hk]
    exact pow_up n k
  exact Int.le_trans h3 (by decide)
theorem bI_byte (v : Int) (i : Nat) : 0 ≤ bI v i ∧ bI v i < 256 := by unfold bI; omega
theorem putL_byte {b : List Int} (hb : ∀ x ∈ b, 0 ≤ x ∧ x < 256) (p n : Nat) (v : Int) : ∀ x ∈ putL b p n v, 0 ≤ x ∧ x < 256 := by
  induction n with
  | zero => exact hb
  | succ n ih =>
    unfold putL
    intro x hx
    rcases List.mem_or_eq_of_mem_set hx with h | rfl
    · exact ih x h
    · exact bI_byte v n
end Go.Proofs.Ytnagpianaghjeaa.Sl
