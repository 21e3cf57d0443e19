/-
  The sum over bytes: plain law, and the model's own bit operations at kind u32 told over BitVec 32.
-/
import Derived.Test.YtnagpianaghjeaaBytesPlain
import Derived.IntWalk
import Derived.Laws.Entries
namespace Go.Proofs.Ytnagpianaghjeaa.Sl
open Go

/-- A round of the sum: a bit, a byte, a row of bytes. -/
def crcBit (c : BitVec 32) : BitVec 32 := if c &&& 1#32 = 1#32 then (c >>> 1) ^^^ 0xEDB88320#32 else c >>> 1
def crcBits : Nat → BitVec 32 → BitVec 32
  | 0, c => c
  | n + 1, c => crcBit (crcBits n c)
def crcByte (c : BitVec 32) (x : Int) : BitVec 32 := crcBits 8 (c ^^^ BitVec.ofInt 32 x)
def crcAll (c : BitVec 32) (l : List Int) : BitVec 32 := l.foldl crcByte c
/-- What Sum answers of one row of bytes. -/
def crcL (l : List Int) : Int := ((~~~ (crcAll (~~~ 0#32) l)).toNat : Int)
theorem crcAll_succ (c : BitVec 32) (l : List Int) {i : Nat} (h : i < l.length) : crcAll c (l.take (i + 1)) = crcByte (crcAll c (l.take i)) l[i] := by
  unfold crcAll
  rw [List.take_succ_eq_append_getElem h, List.foldl_append]
  rfl
theorem bv_of (c : BitVec 32) : BitVec.ofInt 32 (c.toNat : Int) = c := by
  rw [BitVec.ofInt_natCast, BitVec.ofNat_toNat, BitVec.setWidth_eq]
theorem wrap_bv (c : BitVec 32) : IntKind.u32.wrap (c.toNat : Int) = c.toNat := IntWalk.u32_in _ (by have := c.isLt; omega)
theorem xor_u32 (c d : BitVec 32) : Op.intBits .xor .u32 (c.toNat : Int) (d.toNat : Int) = pure (.int .u32 ((c ^^^ d).toNat : Int)) := by
  show pure (Value.int .u32 (IntKind.u32.wrap ((BitVec.ofInt 32 (c.toNat : Int) ^^^ BitVec.ofInt 32 (d.toNat : Int)).toNat : Int))) = _
  rw [bv_of, bv_of, wrap_bv]
theorem and_u32 (c d : BitVec 32) : Op.intBits .and .u32 (c.toNat : Int) (d.toNat : Int) = pure (.int .u32 ((c &&& d).toNat : Int)) := by
  show pure (Value.int .u32 (IntKind.u32.wrap ((BitVec.ofInt 32 (c.toNat : Int) &&& BitVec.ofInt 32 (d.toNat : Int)).toNat : Int))) = _
  rw [bv_of, bv_of, wrap_bv]
theorem shr_u32 (c : BitVec 32) (yk : IntKind) : Op.shift .shr .u32 (c.toNat : Int) yk 1 = pure (.int .u32 ((c >>> 1).toNat : Int)) := by
  show pure (Value.int .u32 ((c.toNat : Int).fdiv (2 ^ 1))) = _
  rw [Int.fdiv_eq_ediv_of_nonneg _ (by decide), BitVec.toNat_ushiftRight, Nat.shiftRight_eq_div_pow]
  rfl
theorem low_u32 (c : BitVec 32) : (((c &&& 1#32).toNat : Int) == 1) = decide (c &&& 1#32 = 1#32) := by
  rw [Bool.eq_iff_iff, beq_iff_eq, decide_eq_true_eq]
  constructor
  · intro h
    exact BitVec.eq_of_toNat_eq (by simp only [BitVec.toNat_ofNat]; omega)
  · intro h
    rw [h]
    rfl
/-- A byte of a number, as Put takes it. -/
theorem shr_byte (v : Int) (i : Nat) : (v.fdiv (2 ^ (8 * i))) % 256 = bI v i := by
  unfold bI
  rw [Int.fdiv_eq_ediv_of_nonneg _ (Int.pow_nonneg (by decide)), Int.pow_mul]
  rfl
/-- A byte laid behind a number, as Get does. -/
theorem or_u64 {a x : Int} (h0 : 0 ≤ a) (h1 : a < 72057594037927936) (h2 : 0 ≤ x) (h3 : x < 256) : Op.intBits .or .u64 (a * 256) x = pure (.int .u64 (a * 256 + x)) := by
  obtain ⟨n, rfl⟩ := Int.eq_ofNat_of_zero_le h0
  obtain ⟨m, rfl⟩ := Int.eq_ofNat_of_zero_le h2
  show pure (Value.int .u64 (IntKind.u64.wrap ((BitVec.ofInt 64 (((n * 256 : Nat) : Int)) ||| BitVec.ofInt 64 (m : Int)).toNat : Int))) = _
  rw [BitVec.ofInt_natCast, BitVec.ofInt_natCast, BitVec.toNat_or, BitVec.toNat_ofNat, BitVec.toNat_ofNat, Nat.mod_eq_of_lt (by omega), Nat.mod_eq_of_lt (by omega)]
  have e : n * 256 ||| m = n * 256 + m := by
    have := Nat.shiftLeft_add_eq_or_of_lt (show m < 2 ^ 8 by omega) n
    rw [Nat.shiftLeft_eq] at this
    exact this.symm
  rw [e, IntWalk.u64_in _ (by omega)]
  rfl
theorem not_u32 (c : BitVec 32) : Op.intBits .xor .u32 4294967295 (c.toNat : Int) = pure (.int .u32 ((~~~ c).toNat : Int)) := by
  have h := xor_u32 (BitVec.allOnes 32) c
  rw [BitVec.allOnes_xor] at h
  exact h
theorem xor_x (c : BitVec 32) {x : Int} (h0 : 0 ≤ x) (h1 : x < 256) : Op.intBits .xor .u32 (c.toNat : Int) x = pure (.int .u32 ((c ^^^ BitVec.ofInt 32 x).toNat : Int)) := by
  obtain ⟨n, rfl⟩ := Int.eq_ofNat_of_zero_le h0
  have h := xor_u32 c (BitVec.ofInt 32 (n : Int))
  rw [show (((BitVec.ofInt 32 (n : Int)).toNat : Nat) : Int) = (n : Int) by rw [BitVec.ofInt_natCast, BitVec.toNat_ofNat, Nat.mod_eq_of_lt (by omega)]] at h
  exact h
/-! What the walk writes. -/
theorem bits_xor (c d : BitVec 32) : bits .xor .u32 (c.toNat : Int) (d.toNat : Int) = ((c ^^^ d).toNat : Int) := by
  show IntKind.u32.wrap ((BitVec.ofInt 32 (c.toNat : Int) ^^^ BitVec.ofInt 32 (d.toNat : Int)).toNat : Int) = _
  rw [bv_of, bv_of, wrap_bv]
theorem bits_and (c d : BitVec 32) : bits .and .u32 (c.toNat : Int) (d.toNat : Int) = ((c &&& d).toNat : Int) := by
  show IntKind.u32.wrap ((BitVec.ofInt 32 (c.toNat : Int) &&& BitVec.ofInt 32 (d.toNat : Int)).toNat : Int) = _
  rw [bv_of, bv_of, wrap_bv]
theorem bits_not (c : BitVec 32) : bits .xor .u32 IntKind.u32.max (c.toNat : Int) = ((~~~ c).toNat : Int) := by
  have h := bits_xor (BitVec.allOnes 32) c
  rw [BitVec.allOnes_xor] at h
  exact h
theorem bits_x (c : BitVec 32) {x : Int} (h0 : 0 ≤ x) (h1 : x < 256) : bits .xor .u32 (c.toNat : Int) x = ((c ^^^ BitVec.ofInt 32 x).toNat : Int) := by
  obtain ⟨n, rfl⟩ := Int.eq_ofNat_of_zero_le h0
  have h := bits_xor c (BitVec.ofInt 32 (n : Int))
  rw [show (((BitVec.ofInt 32 (n : Int)).toNat : Nat) : Int) = (n : Int) by rw [BitVec.ofInt_natCast, BitVec.toNat_ofNat, Nat.mod_eq_of_lt (by omega)]] at h
  exact h
theorem bits_low (c : BitVec 32) : (bits .and .u32 (c.toNat : Int) 1 == 1) = decide (c &&& 1#32 = 1#32) := by
  have h : bits .and .u32 (c.toNat : Int) 1 = ((c &&& 1#32).toNat : Int) := bits_and c 1#32
  rw [h, low_u32]
theorem shr_i (c : BitVec 32) : (c.toNat : Int) / (2 : Int) = ((c >>> 1).toNat : Int) := by
  rw [BitVec.toNat_ushiftRight, Nat.shiftRight_eq_div_pow]
  rfl
theorem bits_poly (c : BitVec 32) : bits .xor .u32 ((c.toNat : Int) / (2 : Int)) 3988292384 = ((c >>> 1 ^^^ 0xEDB88320#32).toNat : Int) := by
  rw [shr_i]
  exact bits_xor (c >>> 1) 0xEDB88320#32
end Go.Proofs.Ytnagpianaghjeaa.Sl
