/-
  TableFull: plain words: the names that the statement binds.
-/
import Derived.Test.YtbfnmgjpkieaoaaNameUnlikeWalk
namespace Go.Proofs.Ytbfnmgjpkieaoaa.Tb
open Go Go.RowKit Go.Maps Go.Sort Go.Proofs Go.Shelf

/-- The text of number i. -/
def tI (i : Nat) : ByteArray := ⟨#[110, UInt8.ofNat (97 + i / 10), UInt8.ofNat (48 + i % 10)]⟩
theorem tI_good {i : Nat} (h : i < 72) : GoodT (tI i) := by
  refine ⟨by simp [tI, ByteArray.size], by simp [tI, ByteArray.size], fun b hb => ?_⟩
  have h1 : b = 110 ∨ b = UInt8.ofNat (97 + i / 10) ∨ b = UInt8.ofNat (48 + i % 10) := by simpa [tI] using hb
  intro h0
  rcases h1 with e | e | e
  · rw [e] at h0
    exact absurd h0 (by decide)
  · have := congrArg UInt8.toNat (e.symm.trans h0)
    rw [UInt8.toNat_ofNat_of_lt' (by simp [UInt8.size]; omega)] at this
    have e2 : UInt8.toNat 0 = 0 := rfl
    omega
  · have := congrArg UInt8.toNat (e.symm.trans h0)
    rw [UInt8.toNat_ofNat_of_lt' (by simp [UInt8.size]; omega)] at this
    have e2 : UInt8.toNat 0 = 0 := rfl
    omega
theorem tI_inj {i j : Nat} (hi : i < 72) (hj : j < 72) (h : tI i = tI j) : i = j := by
  unfold tI at h
  have h1 := congrArg (fun s : ByteArray => s.data.toList) h
  simp only [List.cons.injEq, true_and, and_true] at h1
  have h2 := congrArg UInt8.toNat h1.1
  have h3 := congrArg UInt8.toNat h1.2
  rw [UInt8.toNat_ofNat_of_lt' (by simp [UInt8.size]; omega), UInt8.toNat_ofNat_of_lt' (by simp [UInt8.size]; omega)] at h2 h3
  omega
def nI (i : Nat) : Nm := nm (tI i)
theorem nI_good {i : Nat} (h : i < 72) : goodN (nI i) = true := good_nm (tI_good h)
theorem nI_inj {i j : Nat} (hi : i < 72) (hj : j < 72) (h : nI i = nI j) : i = j := tI_inj hi hj (nm_inj (tI_good hi) (tI_good hj) h)
/-- The first k names, bound. -/
def mI (k : Nat) : List (Nm × Int) := (List.range k).map fun (j : Nat) => (nI j, (j : Int) + 1)
theorem mI_len (k : Nat) : (mI k).length = k := by unfold mI; simp
theorem mI_no {k i : Nat} (hk : k ≤ i) (hi : i < 72) : ∀ p ∈ mI k, p.1 ≠ nI i := fun p hp e => by
  obtain ⟨j, hj, rfl⟩ := List.mem_map.1 hp
  have := List.mem_range.1 hj
  have := nI_inj (by omega) hi e
  omega
theorem mI_has {k i : Nat} (hk : k ≤ i) (hi : i < 72) : hasN (mI k) (nI i) = false := by
  unfold hasN getM
  have : (mI k).find? (fun p => p.1 == nI i) = none := by
    rw [List.find?_eq_none]
    intro p hp e
    exact mI_no hk hi p hp (eq_of_beq e)
  rw [this]
  rfl
theorem mI_put {i : Nat} (hi : i < 72) : putM (mI i) (nI i) ((i : Int) + 1) = mI (i + 1) := by
  unfold putM delM
  have e : (mI i).filter (fun p => !(p.1 == nI i)) = mI i := List.filter_eq_self.2 fun p hp => bne_of (mI_no (Nat.le_refl i) hi p hp)
  rw [e]
  unfold mI
  rw [List.range_succ, List.map_append]
  rfl
theorem mI_cons (k : Nat) : mI (k + 1) = (nI 0, 1) :: (List.range k).map fun (j : Nat) => (nI (j + 1), ((j + 1 : Nat) : Int) + 1) := by
  unfold mI
  rw [List.range_succ_eq_map, List.map_cons, List.map_map]
  rfl
theorem mI_zero (k : Nat) : getZ (mI (k + 1)) (nI 0) = 1 ∧ hasN (mI (k + 1)) (nI 0) = true := by
  unfold getZ hasN getM
  rw [mI_cons, List.find?_cons_of_pos (by rw [beq_self_eq_true])]
  exact ⟨rfl, rfl⟩
theorem mI_full : (putM (mI 64) (nI 0) 99).length = 64 := by
  unfold putM delM
  rw [List.length_append, mI_cons 63, List.filter_cons_of_neg (by rw [beq_self_eq_true]; decide)]
  have e : ((List.range 63).map fun (j : Nat) => (nI (j + 1), ((j + 1 : Nat) : Int) + 1)).filter (fun p : Nm × Int => !(p.1 == nI 0)) = (List.range 63).map fun (j : Nat) => (nI (j + 1), ((j + 1 : Nat) : Int) + 1) := List.filter_eq_self.2 fun p hp => by
    obtain ⟨j, hj, rfl⟩ := List.mem_map.1 hp
    have := List.mem_range.1 hj
    exact bne_of (fun e => by have := nI_inj (by omega) (by omega) e; omega)
  rw [e]
  simp
theorem tI_sum {i : Nat} (h : i < 72) : (⟨#[110]⟩ : ByteArray) ++ strOfNums [97 + (i : Int) / 10, 48 + (i : Int) % 10] = tI i := by
  apply ByteArray.ext
  have e1 : (97 + (i : Int) / 10).toNat = 97 + i / 10 := by omega
  have e2 : (48 + (i : Int) % 10).toNat = 48 + i % 10 := by omega
  unfold tI strOfNums
  simp [e1, e2]
end Go.Proofs.Ytbfnmgjpkieaoaa.Tb
