/-
  Two slots: the last block, and the one ahead of it.
-/
import Derived.Test.YtnagpianaghjeaaSlotsPlain
namespace Go.Proofs.Ytnagpianaghjeaa.Sl
open Go Go.RowKit Go.Proofs
open Pl (DS IsDisk DOwn DPost DMv DKeep)

def g0 : Geo := ⟨64, 8, 64⟩
def bk (e : Int) (n : Int) : Blk := ⟨e, g0, 0, n, 0⟩
theorem good0 : GoodG g0 := by decide
theorem fresh0 : FreshG g0 := by decide
theorem secs0 : secsN g0 = 30 := by decide
theorem size0 : sizeN g0 = 64 := by decide
theorem goodK {e n : Int} (h0 : 0 ≤ n) (h1 : n ≤ 64) : GoodB (bk e n) := ⟨good0, by show (0 : Int) ≤ 0; omega, by show (0 : Int) ≤ 1; omega, h0, h1⟩
theorem wfK {e n : Int} (h0 : 0 ≤ e) (h1 : e < 18446744073709551616) : WfB (bk e n) := ⟨h0, h1, by show (0 : Int) ≤ 0; omega, by show (0 : Int) < 256 ^ 8; decide⟩
/-- The disk of g0's shape, with some sectors. -/
def dk (K : List (List Int)) (wr : Int) : DS := calmS 64 K false 0 [] wr
def K0 : List (List Int) := List.replicate 30 (List.replicate 64 0)
theorem K0_len : K0.length = 30 := List.length_replicate
theorem fits0 {K : List (List Int)} (h : K.length = 30) (wr e n : Int) : fitsB (dk K wr) (bk e n).geom = true := by
  rw [fits_iff]
  refine ⟨rfl, ?_⟩
  show secsG g0 ≤ (K.length : Int)
  rw [h]
  decide
theorem zeros_len (n : Nat) : (List.replicate n (0 : Int)).length = n := List.length_replicate
theorem zeros_byte (n : Nat) : ∀ x ∈ List.replicate n (0 : Int), 0 ≤ x ∧ x < 256 := fun x hx => by rw [(List.mem_replicate.1 hx).2]; exact ⟨by decide, by decide⟩
theorem encK_len (e n : Int) : (encS crcL (bk e n)).length = 64 := by
  have := encS_len crcL (b := bk e n) (by show (64 : Int) ≤ 64; omega)
  have h : (bk e n).geom.sector = 64 := rfl
  omega
/-- Two sectors, each of zeros or of a block. -/
def Sec64 (s : List Int) : Prop := s.length = 64 ∧ ∀ x ∈ s, 0 ≤ x ∧ x < 256
theorem sec_zero : Sec64 (List.replicate 64 0) := ⟨zeros_len _, zeros_byte _⟩
theorem sec_enc (e n : Int) : Sec64 (encS crcL (bk e n)) := ⟨encK_len e n, encS_byte _ _⟩
theorem readK {w : World} {base d : Nat} {K : List (List Int)} {wr : Int} (h : IsDisk w base d (dk K wr)) (hK : K.length = 30) {s0 s1 : List Int} (h0 : K.getD 0 [] = s0) (h1 : K.getD 1 [] = s1) (a0 : Sec64 s0) (a1 : Sec64 s1) {r0 r1 : Option Blk} (e0 : rightS (dk K wr) 0 s0 = r0) (e1 : rightS (dk K wr) 1 s1 = r1) :
    Calls Try.prog 15 #[.pointer (some ⟨d, 0, none⟩)] w (ReadS w (pickB r0 r1)) ∧ Calls Try.prog 16 #[.pointer (some ⟨d, 0, none⟩)] w (BothPost w r0 r1) := by
  subst e0 e1
  exact ⟨read_any h rfl (by show 2 ≤ K.length; omega) ⟨by show 64 ≤ 64; omega, by show 64 ≤ 1024; omega⟩ h0 h1 a0.2 a1.2 a0.1 a1.1, both_ok h rfl (by show 2 ≤ K.length; omega) ⟨by show 64 ≤ 64; omega, by show 64 ≤ 1024; omega⟩ h0 h1 a0.2 a1.2 a0.1 a1.1⟩
abbrev bkV (e n : Int) : Value := .agg #[.int .u64 e, .int .i64 64, .int .i64 8, .int .i64 64, .int .i64 0, .int .i64 n, .int .u64 0]
theorem bkV_eq (e n : Int) : blkV (bk e n) = bkV e n := rfl
theorem putK0 {w : World} {base d : Nat} {K : List (List Int)} {wr : Int} (h : IsDisk w base d (dk K wr)) (hK : K.length = 30) {e n : Int} (he0 : 0 ≤ e) (he1 : e < 18446744073709551616) (hn0 : 0 ≤ n) (hn1 : n ≤ 64) (hwr : 0 ≤ wr ∧ wr ≤ 1000000000) :
    Calls Try.prog 14 #[.pointer (some ⟨d, 0, none⟩), bkV e n] w (WPost w base d (dk (putK K (bk e n)) (wr + 1)) (.int .i64 0)) := by
  have hf := fits0 hK wr e n
  unfold dk at h hf
  have := put_turn (b := bk e n) h (goodK hn0 hn1) (wfK he0 he1) hf (by omega) hwr
  rw [bkV_eq] at this
  exact this
theorem readK_none {w : World} {base d : Nat} {K : List (List Int)} {wr : Int} (h : IsDisk w base d (dk K wr)) (hK : K.length = 30) (h0 : K.getD 0 [] = List.replicate 64 0) (h1 : K.getD 1 [] = List.replicate 64 0) :
    Calls Try.prog 15 #[.pointer (some ⟨d, 0, none⟩)] w (fun e w' => e = .returned (.tuple #[.agg #[.int .u64 0, .int .i64 0, .int .i64 0, .int .i64 0, .int .i64 0, .int .i64 0, .int .u64 0], .int .i64 2]) ∧ Moves (fun _ => False) w w') :=
  (readK h hK h0 h1 sec_zero sec_zero (right_zero _ _ _) (right_zero _ _ _)).1.mono fun _ _ h => ⟨h.1, h.2⟩
def TrueP (w : World) (e : Ending) (w' : World) : Prop := e = .returned (.bool true) ∧ Moves (fun _ => False) w w'
theorem putK_get {K : List (List Int)} (hK : 2 ≤ K.length) (b : Blk) {i : Nat} (h : b.epoch % 2 = i) : (putK K b).getD i [] = encS crcL b := by
  unfold putK
  rw [h, Int.toNat_natCast, List.getD_eq_getElem?_getD, List.getElem?_set, if_pos rfl, if_pos (by omega)]
  exact Option.getD_some
theorem putK_other {K : List (List Int)} (b : Blk) {i j : Nat} (h : b.epoch % 2 = i) (hij : i ≠ j) : (putK K b).getD j [] = K.getD j [] := by
  unfold putK
  rw [h, Int.toNat_natCast, List.getD_eq_getElem?_getD, List.getElem?_set, if_neg hij, ← List.getD_eq_getElem?_getD]
/-- What lies in the two slots: the last block, by its epoch and its words, and what was there ahead of it. -/
def before (E : Int) (o : Option Int) : Option Blk := o.map (bk (E - 1))
def sec (r : Option Blk) : List Int := match r with
  | none => List.replicate 64 0
  | some b => encS crcL b
structure Two (K : List (List Int)) (E n : Int) (o : Option Int) : Prop where
  len : K.length = 30
  last : K.getD (E % 2).toNat [] = encS crcL (bk E n)
  other : K.getD (1 - E % 2).toNat [] = sec (before E o)
  lo : 0 ≤ E ∧ E < 18446744073709551616
  ok : 0 ≤ n ∧ n ≤ 64
  old : ∀ m, o = some m → 1 ≤ E ∧ 0 ≤ m ∧ m ≤ 64
theorem putK_get' {K : List (List Int)} (hK : 2 ≤ K.length) (b : Blk) : (putK K b).getD (b.epoch % 2).toNat [] = encS crcL b := by
  unfold putK
  rw [List.getD_eq_getElem?_getD, List.getElem?_set, if_pos rfl, if_pos (by omega)]
  exact Option.getD_some
theorem putK_other' {K : List (List Int)} (b : Blk) {j : Nat} (h : (b.epoch % 2).toNat ≠ j) : (putK K b).getD j [] = K.getD j [] := by
  unfold putK
  rw [List.getD_eq_getElem?_getD, List.getElem?_set, if_neg h, ← List.getD_eq_getElem?_getD]
theorem K0_get {j : Nat} (h : j < 30) : K0.getD j [] = List.replicate 64 0 := by
  unfold K0
  rw [List.getD_eq_getElem?_getD, List.getElem?_replicate, if_pos h]
  rfl
theorem Two.first {E n : Int} (hE : 0 ≤ E ∧ E < 18446744073709551616) (hn : 0 ≤ n ∧ n ≤ 64) : Two (putK K0 (bk E n)) E n none where
  len := (putK_len _ _).trans K0_len
  last := putK_get' (by rw [K0_len]; omega) (bk E n)
  other := (putK_other' (bk E n) (j := (1 - E % 2).toNat) (by show (E % 2).toNat ≠ _; omega)).trans (K0_get (by omega))
  lo := hE
  ok := hn
  old := fun m h => by cases h
theorem Two.next {K : List (List Int)} {E n : Int} {o : Option Int} (h : Two K E n o) (hE : E + 1 < 18446744073709551616) {m : Int} (hm : 0 ≤ m ∧ m ≤ 64) : Two (putK K (bk (E + 1) m)) (E + 1) m (some n) where
  len := (putK_len _ _).trans h.len
  last := putK_get' (by rw [h.len]; omega) (bk (E + 1) m)
  other := by
    rw [putK_other' (bk (E + 1) m) (j := (1 - (E + 1) % 2).toNat) (by show ((E + 1) % 2).toNat ≠ _; omega)]
    have e : (1 - (E + 1) % 2).toNat = (E % 2).toNat := by omega
    rw [e, h.last]
    show _ = encS crcL (bk (E + 1 - 1) n)
    rw [show E + 1 - 1 = E by omega]
  lo := by have := h.lo; omega
  ok := hm
  old := fun k hk => by
    injection hk with hk
    have := h.lo
    have := h.ok
    omega
theorem Two.right_last {K : List (List Int)} {E n : Int} {o : Option Int} (h : Two K E n o) (wr : Int) : rightS (dk K wr) (E % 2) (encS crcL (bk E n)) = some (bk E n) := by
  have e : E % 2 = (bk E n).epoch % 2 := rfl
  rw [e]
  exact right_enc (b := bk E n) (goodK h.ok.1 h.ok.2) (wfK h.lo.1 h.lo.2) (fits0 h.len wr E n)
theorem Two.right_other {K : List (List Int)} {E n : Int} {o : Option Int} (h : Two K E n o) (wr : Int) : rightS (dk K wr) (1 - E % 2) (sec (before E o)) = before E o := by
  cases o with
  | none => exact right_zero _ _ _
  | some m =>
    have ho := h.old m rfl
    have hl := h.lo
    show rightS _ _ (encS crcL (bk (E - 1) m)) = some (bk (E - 1) m)
    have e : 1 - E % 2 = (bk (E - 1) m).epoch % 2 := by show _ = (E - 1) % 2; omega
    rw [e]
    exact right_enc (b := bk (E - 1) m) (goodK ho.2.1 ho.2.2) (wfK (by omega) (by omega)) (fits0 h.len wr _ _)
theorem Two.sec_other {K : List (List Int)} {E n : Int} {o : Option Int} (_ : Two K E n o) : Sec64 (sec (before E o)) := by
  cases o with
  | none => exact sec_zero
  | some m => exact sec_enc _ _
theorem pick_last (E n : Int) (o : Option Int) : pickB (some (bk E n)) (before E o) = some (bk E n) ∧ pickB (before E o) (some (bk E n)) = some (bk E n) := by
  cases o with
  | none => exact ⟨rfl, rfl⟩
  | some m => exact ⟨if_pos (by show E - 1 < E; omega), if_neg (by show ¬ E < E - 1; omega)⟩
def pair0 (E n : Int) (o : Option Int) : Option Blk := if E % 2 = 0 then some (bk E n) else before E o
def pair1 (E n : Int) (o : Option Int) : Option Blk := if E % 2 = 0 then before E o else some (bk E n)
theorem Two.calls {w : World} {base d : Nat} {K : List (List Int)} {wr : Int} {E n : Int} {o : Option Int} (hD : IsDisk w base d (dk K wr)) (h : Two K E n o) :
    Calls Try.prog 15 #[.pointer (some ⟨d, 0, none⟩)] w (ReadS w (some (bk E n))) ∧ Calls Try.prog 16 #[.pointer (some ⟨d, 0, none⟩)] w (BothPost w (pair0 E n o) (pair1 E n o)) := by
  have hl := h.right_last wr
  have hr := h.right_other wr
  have hg := h.last
  have ho := h.other
  have hp := pick_last E n o
  by_cases e : E % 2 = 0
  · rw [e] at hl hr hg ho
    have := readK hD h.len hg ho (sec_enc _ _) h.sec_other hl hr
    rw [hp.1] at this
    unfold pair0 pair1
    rw [if_pos e, if_pos e]
    exact this
  · have e : E % 2 = 1 := by omega
    rw [e] at hl hr hg ho
    have := readK hD h.len ho hg h.sec_other (sec_enc _ _) hr hl
    rw [hp.2] at this
    unfold pair0 pair1
    rw [if_neg (by omega), if_neg (by omega)]
    exact this
end Go.Proofs.Ytnagpianaghjeaa.Sl
