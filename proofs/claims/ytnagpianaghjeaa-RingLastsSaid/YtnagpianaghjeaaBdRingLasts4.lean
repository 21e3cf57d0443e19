/-
  The sum over bytes: plain law, and the model's own bit operations at kind u32 told over BitVec 32.
  bits.within, bits.Get.
-/
import Derived.Test.YtnagpianaghjeaaBdRingLasts2
import Derived.IntWalk
import Derived.Laws.Entries
import Derived.Test.YtnagpianaghjeaaBdRingLasts1
import Derived.Test.YtnagpianaghjeaaChecked
import Derived.ProofKit
import Derived.BigQuiet
import Derived.Deep.QuietTactic
import Derived.WalkKit
import Derived.Lib.Hide
import Derived.Deep.LoopGhost
namespace Go.Proofs.Ytnagpianaghjeaa.Sl
open Go

/-- A round of the sum: a bit, a byte, a row of bytes. -/
def crcBit (c : BitVec 32) : BitVec 32 := if c &&& 1#32 = 1#32 then (c >>> 1) ^^^ 0xEDB88320#32 else c >>> 1
def crcBits : Nat → BitVec 32 → BitVec 32
  | 0, c => c
  | n + 1, c => crcBit (crcBits n c)
def crcByte (c : BitVec 32) (x : Int) : BitVec 32 := crcBits 8 (c ^^^ BitVec.ofInt 32 x)
def crcAll (c : BitVec 32) (l : List Int) : BitVec 32 := l.foldl crcByte c
/-- What Sum answers of one row of bytes. -/
def crcL (l : List Int) : Int := ((~~~ (crcAll (~~~ 0#32) l)).toNat : Int)
theorem crcAll_succ (c : BitVec 32) (l : List Int) {i : Nat} (h : i < l.length) : crcAll c (l.take (i + 1)) = crcByte (crcAll c (l.take i)) l[i] := by
  unfold crcAll
  rw [List.take_succ_eq_append_getElem h, List.foldl_append]
  rfl
theorem bv_of (c : BitVec 32) : BitVec.ofInt 32 (c.toNat : Int) = c := by
  rw [BitVec.ofInt_natCast, BitVec.ofNat_toNat, BitVec.setWidth_eq]
theorem wrap_bv (c : BitVec 32) : IntKind.u32.wrap (c.toNat : Int) = c.toNat := IntWalk.u32_in _ (by have := c.isLt; omega)
theorem xor_u32 (c d : BitVec 32) : Op.intBits .xor .u32 (c.toNat : Int) (d.toNat : Int) = pure (.int .u32 ((c ^^^ d).toNat : Int)) := by
  show pure (Value.int .u32 (IntKind.u32.wrap ((BitVec.ofInt 32 (c.toNat : Int) ^^^ BitVec.ofInt 32 (d.toNat : Int)).toNat : Int))) = _
  rw [bv_of, bv_of, wrap_bv]
theorem and_u32 (c d : BitVec 32) : Op.intBits .and .u32 (c.toNat : Int) (d.toNat : Int) = pure (.int .u32 ((c &&& d).toNat : Int)) := by
  show pure (Value.int .u32 (IntKind.u32.wrap ((BitVec.ofInt 32 (c.toNat : Int) &&& BitVec.ofInt 32 (d.toNat : Int)).toNat : Int))) = _
  rw [bv_of, bv_of, wrap_bv]
theorem shr_u32 (c : BitVec 32) (yk : IntKind) : Op.shift .shr .u32 (c.toNat : Int) yk 1 = pure (.int .u32 ((c >>> 1).toNat : Int)) := by
  show pure (Value.int .u32 ((c.toNat : Int).fdiv (2 ^ 1))) = _
  rw [Int.fdiv_eq_ediv_of_nonneg _ (by decide), BitVec.toNat_ushiftRight, Nat.shiftRight_eq_div_pow]
  rfl
theorem low_u32 (c : BitVec 32) : (((c &&& 1#32).toNat : Int) == 1) = decide (c &&& 1#32 = 1#32) := by
  rw [Bool.eq_iff_iff, beq_iff_eq, decide_eq_true_eq]
  constructor
  · intro h
    exact BitVec.eq_of_toNat_eq (by simp only [BitVec.toNat_ofNat]; omega)
  · intro h
    rw [h]
    rfl
/-- A byte of a number, as Put takes it. -/
theorem shr_byte (v : Int) (i : Nat) : (v.fdiv (2 ^ (8 * i))) % 256 = bI v i := by
  unfold bI
  rw [Int.fdiv_eq_ediv_of_nonneg _ (Int.pow_nonneg (by decide)), Int.pow_mul]
  rfl
/-- A byte laid behind a number, as Get does. -/
theorem or_u64 {a x : Int} (h0 : 0 ≤ a) (h1 : a < 72057594037927936) (h2 : 0 ≤ x) (h3 : x < 256) : Op.intBits .or .u64 (a * 256) x = pure (.int .u64 (a * 256 + x)) := by
  obtain ⟨n, rfl⟩ := Int.eq_ofNat_of_zero_le h0
  obtain ⟨m, rfl⟩ := Int.eq_ofNat_of_zero_le h2
  show pure (Value.int .u64 (IntKind.u64.wrap ((BitVec.ofInt 64 (((n * 256 : Nat) : Int)) ||| BitVec.ofInt 64 (m : Int)).toNat : Int))) = _
  rw [BitVec.ofInt_natCast, BitVec.ofInt_natCast, BitVec.toNat_or, BitVec.toNat_ofNat, BitVec.toNat_ofNat, Nat.mod_eq_of_lt (by omega), Nat.mod_eq_of_lt (by omega)]
  have e : n * 256 ||| m = n * 256 + m := by
    have := Nat.shiftLeft_add_eq_or_of_lt (show m < 2 ^ 8 by omega) n
    rw [Nat.shiftLeft_eq] at this
    exact this.symm
  rw [e, IntWalk.u64_in _ (by omega)]
  rfl
theorem not_u32 (c : BitVec 32) : Op.intBits .xor .u32 4294967295 (c.toNat : Int) = pure (.int .u32 ((~~~ c).toNat : Int)) := by
  have h := xor_u32 (BitVec.allOnes 32) c
  rw [BitVec.allOnes_xor] at h
  exact h
theorem xor_x (c : BitVec 32) {x : Int} (h0 : 0 ≤ x) (h1 : x < 256) : Op.intBits .xor .u32 (c.toNat : Int) x = pure (.int .u32 ((c ^^^ BitVec.ofInt 32 x).toNat : Int)) := by
  obtain ⟨n, rfl⟩ := Int.eq_ofNat_of_zero_le h0
  have h := xor_u32 c (BitVec.ofInt 32 (n : Int))
  rw [show (((BitVec.ofInt 32 (n : Int)).toNat : Nat) : Int) = (n : Int) by rw [BitVec.ofInt_natCast, BitVec.toNat_ofNat, Nat.mod_eq_of_lt (by omega)]] at h
  exact h
/-! What the walk writes. -/
theorem bits_xor (c d : BitVec 32) : bits .xor .u32 (c.toNat : Int) (d.toNat : Int) = ((c ^^^ d).toNat : Int) := by
  show IntKind.u32.wrap ((BitVec.ofInt 32 (c.toNat : Int) ^^^ BitVec.ofInt 32 (d.toNat : Int)).toNat : Int) = _
  rw [bv_of, bv_of, wrap_bv]
theorem bits_and (c d : BitVec 32) : bits .and .u32 (c.toNat : Int) (d.toNat : Int) = ((c &&& d).toNat : Int) := by
  show IntKind.u32.wrap ((BitVec.ofInt 32 (c.toNat : Int) &&& BitVec.ofInt 32 (d.toNat : Int)).toNat : Int) = _
  rw [bv_of, bv_of, wrap_bv]
theorem bits_not (c : BitVec 32) : bits .xor .u32 IntKind.u32.max (c.toNat : Int) = ((~~~ c).toNat : Int) := by
  have h := bits_xor (BitVec.allOnes 32) c
  rw [BitVec.allOnes_xor] at h
  exact h
theorem bits_x (c : BitVec 32) {x : Int} (h0 : 0 ≤ x) (h1 : x < 256) : bits .xor .u32 (c.toNat : Int) x = ((c ^^^ BitVec.ofInt 32 x).toNat : Int) := by
  obtain ⟨n, rfl⟩ := Int.eq_ofNat_of_zero_le h0
  have h := bits_xor c (BitVec.ofInt 32 (n : Int))
  rw [show (((BitVec.ofInt 32 (n : Int)).toNat : Nat) : Int) = (n : Int) by rw [BitVec.ofInt_natCast, BitVec.toNat_ofNat, Nat.mod_eq_of_lt (by omega)]] at h
  exact h
theorem bits_low (c : BitVec 32) : (bits .and .u32 (c.toNat : Int) 1 == 1) = decide (c &&& 1#32 = 1#32) := by
  have h : bits .and .u32 (c.toNat : Int) 1 = ((c &&& 1#32).toNat : Int) := bits_and c 1#32
  rw [h, low_u32]
theorem shr_i (c : BitVec 32) : (c.toNat : Int) / (2 : Int) = ((c >>> 1).toNat : Int) := by
  rw [BitVec.toNat_ushiftRight, Nat.shiftRight_eq_div_pow]
  rfl
theorem bits_poly (c : BitVec 32) : bits .xor .u32 ((c.toNat : Int) / (2 : Int)) 3988292384 = ((c >>> 1 ^^^ 0xEDB88320#32).toNat : Int) := by
  rw [shr_i]
  exact bits_xor (c >>> 1) 0xEDB88320#32
end Go.Proofs.Ytnagpianaghjeaa.Sl
namespace Go.Proofs.Ytnagpianaghjeaa.Sl
open Go Go.RowKit Go.Proofs

/-- A row of bytes by its numbers. -/
def BRow (w : World) (L : Nat → Prop) (v : Value) (bs : List Int) : Prop := Row w L v (bs.map fun x => .int .u8 x) ∧ (∀ x ∈ bs, 0 ≤ x ∧ x < 256) ∧ bs.length ≤ 1000000
def SameV (w : World) (v : Value) (e : Ending) (w' : World) : Prop := e = .returned v ∧ w = w'
set_option maxHeartbeats 1000000 in
theorem within_ok {p n s : Nat} (h1 : 1 ≤ n) (h8 : n ≤ 8) (hl : p + n ≤ s) (hs : s ≤ 1000000) (w : World) : Calls Try.prog 113 #[.int .i64 p, .int .i64 n, .int .i64 s] w (SameV w (.bool true)) := by
  have b1 : (1 : Int) ≤ (n : Int) := by omega
  have b2 : (n : Int) ≤ 8 := by omega
  have b3 : (0 : Int) ≤ (p : Int) := by omega
  have b4 : (n : Int) ≤ (s : Int) := by omega
  have b5 : (p : Int) ≤ (s : Int) - (n : Int) := by omega
  have b6 : (s : Int) ≤ 1000000 := by omega
  go_enter Try.func113, Try.ntmps113
  go_wp2
  go_ret
  exact ⟨rfl, rfl⟩
set_option maxRecDepth 100000 in
set_option maxHeartbeats 2000000 in
theorem get_ok {w : World} {L : Nat → Prop} {v : Value} {bs : List Int} (h : BRow w L v bs) {p n : Nat} (h1 : 1 ≤ n) (h8 : n ≤ 8) (hl : p + n ≤ bs.length) : Calls Try.prog 103 #[v, .int .i64 p, .int .i64 n] w (SameV w (.tuple #[.int .u64 (getL bs p n), .int .i64 0])) := by
  obtain ⟨⟨A, c, rfl, hc, hx⟩, hb, hlen⟩ := h
  rw [List.length_map] at hc hx ⊢
  obtain ⟨g, o, rfl, -, hgl, hcell⟩ := hx (by omega)
  have HC : Hid (∀ j (hj : j < bs.length), w.cell? ⟨g, o + j, none⟩ = some (.int .u8 (bs.getD j 0))) := Lib.hid (fun j hj => hcell j _ (by rw [List.getElem?_map, List.getD_eq_getElem?_getD, List.getElem?_eq_getElem hj]; rfl))
  have HW := Lib.hid (within_ok h1 h8 hl hlen w)
  have HB := Lib.hid hb
  clear hx hcell hb
  go_enter Try.func103, Try.ntmps103
  go_wp2_with (first
    | (go_at_call 113
       refine HW.out.mono ?_
       rintro e w1 ⟨rfl, rfl⟩)
    | fail)
  go_loopg [8, 9] n (fun gg s8 s9 wr => ∃ i : Nat, i ≤ n ∧ gg = i ∧ s8 = .int .u64 (getL bs (p + i) (n - i)) ∧ s9 = .int .i64 ((i : Int) - 1) ∧ wr = w)
  case atStart => exact ⟨n, Nat.le_refl _, rfl, by rw [Nat.sub_self]; rfl, rfl, rfl⟩
  case round =>
    obtain ⟨i, hi, hg, rfl, rfl, rfl⟩ := hrel
    by_cases h0 : i = 0
    · subst h0
      go_wp2_with fail
      go_ret2
      exact ⟨rfl, rfl⟩
    · obtain ⟨k, rfl⟩ : ∃ k, i = k + 1 := ⟨i - 1, by omega⟩
      have e1 : (((k + 1 : Nat) : Int) - 1) = (k : Int) := by omega
      have q := HC.out (p + k) (by omega)
      have hx := getD_byte HB.out (p + k)
      have ha := getL_56 HB.out (p + (k + 1)) (n := n - (k + 1)) (by omega)
      have e2 : getL bs (p + k) (n - k) = bs.getD (p + k) 0 + 256 * getL bs (p + (k + 1)) (n - (k + 1)) := by
        rw [show n - k = (n - (k + 1)) + 1 by omega]
        rfl
      have hor := or_u64 ha.1 ha.2 hx.1 hx.2
      have HE := Lib.hid e2
      rw [e1]
      clear e1 e2
      generalize bs.getD (p + k) 0 = x at q hx hor HE
      generalize getL bs (p + (k + 1)) (n - (k + 1)) = a at ha hor HE ⊢
      have b0 : (0 : Int) ≤ (k : Int) := by omega
      have b1 : (k : Int) ≤ 8 := by omega
      have b2 : (p : Int) + (k : Int) < (bs.length : Int) := by omega
      have b3 : (bs.length : Int) ≤ 1000000 := by omega
      have b4 : (0 : Int) ≤ (p : Int) := by omega
      go_wp2_with fail
      go_roundg k
      case measure => omega
      case rel => exact ⟨k, by omega, rfl, by rw [HE.out]; go_num, by go_num, rfl⟩
set_option maxRecDepth 100000 in
set_option maxHeartbeats 2000000 in
/-- The sum's own step. -/
theorem add_any {w : World} {L : Nat → Prop} {v : Value} {bs : List Int} (h : BRow w L v bs) (s : BitVec 32) : Calls Try.prog 132 #[.int .u32 (s.toNat : Int), v] w (SameV w (.int .u32 ((~~~ (crcAll (~~~ s) bs)).toNat : Int))) := by
  obtain ⟨⟨A, c, rfl, hc, hx⟩, hb, hlen⟩ := h
  rw [List.length_map] at hc hx ⊢
  have HX : Hid (0 < bs.length → ∃ g o, A = some ⟨g, o, none⟩ ∧ ∀ j (hj : j < bs.length), w.cell? ⟨g, o + j, none⟩ = some (.int .u8 bs[j])) := Lib.hid (fun h0 => by
    obtain ⟨g, o, e, -, -, hcell⟩ := hx h0
    exact ⟨g, o, e, fun j hj => hcell j _ (by rw [List.getElem?_map, List.getElem?_eq_getElem hj]; rfl)⟩)
  have HB := Lib.hid hb
  have hnot := bits_not s
  generalize hs : ~~~ s = s1 at hnot ⊢
  have HN1 := Lib.hid hnot
  clear hs hx hb hnot
  go_enter Try.func132, Try.ntmps132
  go_wp2_with fail
  go_loopg [0, 12] bs.length (fun gg s0 s12 wr => ∃ i : Nat, i ≤ bs.length ∧ gg = bs.length - i ∧ s12 = .int .i64 i ∧ s0 = .int .u32 ((crcAll s1 (bs.take i)).toNat : Int) ∧ wr = w)
  case atStart => exact ⟨0, Nat.zero_le _, rfl, rfl, by rw [HN1.out]; rfl, rfl⟩
  case round =>
    obtain ⟨i, hi, hg, rfl, rfl, rfl⟩ := hrel
    have b0 : (0 : Int) ≤ (i : Int) := by omega
    have b3 : (bs.length : Int) ≤ 1000000 := by omega
    by_cases hlt : i < bs.length
    · have b1 : (i : Int) < (bs.length : Int) := by omega
      obtain ⟨g, o, rfl, hcell⟩ := HX.out (by omega)
      have q := hcell i hlt
      have hbx := HB.out _ (List.getElem_mem hlt)
      have HE := Lib.hid (crcAll_succ s1 bs hlt)
      clear hcell
      generalize crcAll s1 (bs.take i) = c0 at HE ⊢
      generalize bs[i] = x at q hbx HE
      have HXO := Lib.hid (bits_x c0 hbx.1 hbx.2)
      go_wp2_with fail
      go_loopg [0, 20] 8 (fun gg s0 s20 wq => ∃ k : Nat, k ≤ 8 ∧ gg = 8 - k ∧ s20 = .int .i64 k ∧ s0 = .int .u32 ((crcBits k (c0 ^^^ BitVec.ofInt 32 x)).toNat : Int) ∧ wq = wr)
      case atStart => exact ⟨0, by omega, rfl, rfl, by rw [HXO.out]; rfl, rfl⟩
      case round =>
        obtain ⟨k, hk, hgk, rfl, rfl, rfl⟩ := hrel
        have d0 : (0 : Int) ≤ (k : Int) := by omega
        by_cases hk8 : k < 8
        · have d1 : (k : Int) < 8 := by omega
          obtain ⟨d, hd⟩ : ∃ d, d = crcBits k (c0 ^^^ BitVec.ofInt 32 x) := ⟨_, rfl⟩
          have HD : Hid (crcBits (k + 1) (c0 ^^^ BitVec.ofInt 32 x) = crcBit d) := Lib.hid (by rw [hd]; rfl)
          rw [← hd]
          clear hd
          have hlow := bits_low d
          by_cases hl : d &&& 1#32 = 1#32
          · have HL : Hid (bits .xor .u32 ((d.toNat : Int) / (2 : Int)) 3988292384 = ((crcBit d).toNat : Int)) := Lib.hid (by unfold crcBit; rw [if_pos hl]; exact bits_poly d)
            rw [decide_eq_true hl] at hlow
            clear hl
            go_wp2_with fail
            go_roundg (8 - (k + 1))
            case measure => omega
            case rel => exact ⟨k + 1, by omega, rfl, by go_num, by rw [HL.out, HD.out], rfl⟩
          · have HL : Hid ((d.toNat : Int) / (2 : Int) = ((crcBit d).toNat : Int)) := Lib.hid (by unfold crcBit; rw [if_neg hl]; exact shr_i d)
            rw [decide_eq_false hl] at hlow
            clear hl
            go_wp2_with fail
            go_roundg (8 - (k + 1))
            case measure => omega
            case rel => exact ⟨k + 1, by omega, rfl, by go_num, by rw [HL.out, HD.out], rfl⟩
        · obtain rfl : k = 8 := by omega
          have HZ : Hid (crcBits 8 (c0 ^^^ BitVec.ofInt 32 x) = crcAll s1 (bs.take (i + 1))) := Lib.hid (by rw [HE.out]; rfl)
          rw [HZ.out]
          go_wp2_with fail
          go_roundg (bs.length - (i + 1))
          case measure => omega
          case rel => exact ⟨i + 1, by omega, rfl, by go_num, rfl, rfl⟩
    · obtain rfl : i = bs.length := by omega
      have HN2 := Lib.hid (bits_not (crcAll s1 bs))
      rw [List.take_length]
      go_wp2_with fail
      go_ret
      exact ⟨by rw [HN2.out]; rfl, rfl⟩
end Go.Proofs.Ytnagpianaghjeaa.Sl
