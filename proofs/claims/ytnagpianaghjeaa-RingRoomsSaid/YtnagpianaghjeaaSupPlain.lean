/-
  A superblock's bytes: plain law. The sum is whatever function of the bytes ahead of it.
-/
import Derived.Test.YtnagpianaghjeaaBytesPlain
namespace Go.Proofs.Ytnagpianaghjeaa.Sl

structure Geo where
  sector : Int
  log : Int
  words : Int
  deriving DecidableEq
structure Blk where
  epoch : Int
  geom : Geo
  space : Int
  words : Int
  log : Int
  deriving DecidableEq
/-- A space's sectors; all sectors. -/
def oneG (g : Geo) : Int := (g.words * 8 + g.sector - 1) / g.sector + (g.words + 31) / 32
def secsG (g : Geo) : Int := 2 + g.log + 2 * oneG g
def GoodG (g : Geo) : Prop := (64 ≤ g.sector ∧ g.sector ≤ 1024 ∧ g.sector % 8 = 0) ∧ (8 ≤ g.log ∧ g.log ≤ 1024 ∧ 64 ≤ g.words ∧ g.words ≤ 8192) ∧ secsG g ≤ 16384
instance (g : Geo) : Decidable (GoodG g) := by unfold GoodG; infer_instance
def GoodB (b : Blk) : Prop := GoodG b.geom ∧ 0 ≤ b.space ∧ b.space ≤ 1 ∧ 0 ≤ b.words ∧ b.words ≤ b.geom.words
instance (b : Blk) : Decidable (GoodB b) := by unfold GoodB; infer_instance
/-- What Go's own types hold. -/
def WfB (b : Blk) : Prop := 0 ≤ b.epoch ∧ b.epoch < 256 ^ 8 ∧ 0 ≤ b.log ∧ b.log < 256 ^ 8
def fieldsL (b : Blk) : List (Nat × Nat × Int) := [(4, 4, 1), (8, 8, b.epoch), (16, 4, b.geom.sector), (20, 4, b.geom.log), (24, 4, b.geom.words), (28, 4, b.space), (32, 4, b.words), (36, 8, b.log)]
def magicL (n : Nat) : List Int := [76, 79, 65, 77] ++ List.replicate (n - 4) 0
def headL (b : Blk) : List Int := (fieldsL b).foldl (fun l f => putL l f.1 f.2.1 f.2.2) (magicL (b.geom.sector - 4).toNat)
def sealL (crc : List Int → Int) (l : List Int) : List Int := putL (l ++ List.replicate 4 0) l.length 4 (crc l)
def encS (crc : List Int → Int) (b : Blk) : List Int := sealL crc (headL b)
def readS (s : List Int) : Blk := ⟨getL s 8 8, ⟨getL s 16 4, getL s 20 4, getL s 24 4⟩, getL s 28 4, getL s 32 4, getL s 36 8⟩
/-- What Decode answers. -/
def decS (crc : List Int → Int) (s : List Int) : Option Blk := if 64 ≤ s.length ∧ GoodB (readS s) ∧ encS crc (readS s) = s then some (readS s) else none
theorem magicL_len {n : Nat} (h : 4 ≤ n) : (magicL n).length = n := by unfold magicL; rw [List.length_append, List.length_replicate]; show 4 + _ = _; omega
theorem headL_len {b : Blk} (h : 64 ≤ b.geom.sector) : (headL b).length = (b.geom.sector - 4).toNat := by
  unfold headL fieldsL
  simp only [List.foldl_cons, List.foldl_nil, putL_len]
  exact magicL_len (by omega)
theorem sealL_len (crc : List Int → Int) (l : List Int) : (sealL crc l).length = l.length + 4 := by unfold sealL; rw [putL_len, List.length_append, List.length_replicate]
theorem encS_len (crc : List Int → Int) {b : Blk} (h : 64 ≤ b.geom.sector) : ((encS crc b).length : Int) = b.geom.sector := by
  unfold encS
  rw [sealL_len, headL_len h]
  omega
theorem sealL_get (crc : List Int → Int) {l : List Int} {p n : Nat} (h : p + n ≤ l.length) : getL (sealL crc l) p n = getL l p n := by
  unfold sealL
  rw [getL_putOther (by omega), getL_append h]
theorem readS_enc (crc : List Int → Int) {b : Blk} (h : GoodB b) (hw : WfB b) : readS (encS crc b) = b := by
  obtain ⟨⟨⟨h1, h2, h3⟩, ⟨h4, h5, h6, h7⟩, h8⟩, h9, h10, h11, h12⟩ := h
  obtain ⟨w1, w2, w3, w4⟩ := hw
  have hl := headL_len h1
  have hm : (magicL (b.geom.sector - 4).toNat).length = (b.geom.sector - 4).toNat := magicL_len (by omega)
  have get : ∀ p n, p + n ≤ 60 → getL (encS crc b) p n = getL (headL b) p n := fun p n hp => sealL_get crc (by omega)
  have e8 : (256 : Int) ^ 4 = 4294967296 := by decide
  unfold readS
  rw [get 8 8 (by omega), get 16 4 (by omega), get 20 4 (by omega), get 24 4 (by omega), get 28 4 (by omega), get 32 4 (by omega), get 36 8 (by omega)]
  have f : ∀ (l : List Int), l.length = (b.geom.sector - 4).toNat → 60 ≤ l.length := fun l e => by omega
  have a1 : getL (headL b) 8 8 = b.epoch := by
    unfold headL fieldsL
    simp only [List.foldl_cons, List.foldl_nil]
    rw [getL_putOther (by omega), getL_putOther (by omega), getL_putOther (by omega), getL_putOther (by omega), getL_putOther (by omega), getL_putOther (by omega)]
    exact getL_put (by simp only [putL_len]; omega) w1 w2
  have a2 : getL (headL b) 16 4 = b.geom.sector := by
    unfold headL fieldsL
    simp only [List.foldl_cons, List.foldl_nil]
    rw [getL_putOther (by omega), getL_putOther (by omega), getL_putOther (by omega), getL_putOther (by omega), getL_putOther (by omega)]
    exact getL_put (by simp only [putL_len]; omega) (by omega) (by rw [e8]; omega)
  have a3 : getL (headL b) 20 4 = b.geom.log := by
    unfold headL fieldsL
    simp only [List.foldl_cons, List.foldl_nil]
    rw [getL_putOther (by omega), getL_putOther (by omega), getL_putOther (by omega), getL_putOther (by omega)]
    exact getL_put (by simp only [putL_len]; omega) (by omega) (by rw [e8]; omega)
  have a4 : getL (headL b) 24 4 = b.geom.words := by
    unfold headL fieldsL
    simp only [List.foldl_cons, List.foldl_nil]
    rw [getL_putOther (by omega), getL_putOther (by omega), getL_putOther (by omega)]
    exact getL_put (by simp only [putL_len]; omega) (by omega) (by rw [e8]; omega)
  have a5 : getL (headL b) 28 4 = b.space := by
    unfold headL fieldsL
    simp only [List.foldl_cons, List.foldl_nil]
    rw [getL_putOther (by omega), getL_putOther (by omega)]
    exact getL_put (by simp only [putL_len]; omega) (by omega) (by rw [e8]; omega)
  have a6 : getL (headL b) 32 4 = b.words := by
    unfold headL fieldsL
    simp only [List.foldl_cons, List.foldl_nil]
    rw [getL_putOther (by omega)]
    exact getL_put (by simp only [putL_len]; omega) (by omega) (by rw [e8]; omega)
  have a7 : getL (headL b) 36 8 = b.log := by
    unfold headL fieldsL
    simp only [List.foldl_cons, List.foldl_nil]
    exact getL_put (by simp only [putL_len]; omega) w3 w4
  rw [a1, a2, a3, a4, a5, a6, a7]
/-- A block comes back. -/
theorem dec_enc (crc : List Int → Int) {b : Blk} (h : GoodB b) (hw : WfB b) : decS crc (encS crc b) = some b := by
  unfold decS
  rw [readS_enc crc h hw, if_pos]
  refine ⟨?_, h, rfl⟩
  have := encS_len crc h.1.1.1
  have := h.1.1.1
  omega
/-- What is read is right, and is these bytes. -/
theorem dec_some {crc : List Int → Int} {s : List Int} {b : Blk} (h : decS crc s = some b) : GoodB b ∧ encS crc b = s ∧ b = readS s := by
  unfold decS at h
  by_cases hc : 64 ≤ s.length ∧ GoodB (readS s) ∧ encS crc (readS s) = s
  · rw [if_pos hc] at h
    injection h with h
    subst h
    exact ⟨hc.2.1, hc.2.2, rfl⟩
  · rw [if_neg hc] at h; cases h
/-- The document's own count of a space's sectors is the program's. -/
theorem per_eq (w p : Int) : (w * 8 + p * 8 - 1) / (p * 8) = (w + p - 1) / p := by
  have h1 : w * 8 + p * 8 - 1 = (w + p - 1) * 8 + 7 := by omega
  rw [h1, Int.mul_comm p 8, ← Int.ediv_ediv_of_nonneg (by decide)]
  congr 1
  omega
/-- A number's bytes in a row. -/
def lowL (n : Nat) (v : Int) : List Int := (List.range n).map (bI v)
theorem lowL_len (n : Nat) (v : Int) : (lowL n v).length = n := by unfold lowL; rw [List.length_map, List.length_range]
theorem putL_zero (a : List Int) (m : Nat) (v : Int) {n : Nat} (h : n ≤ m) : putL (a ++ List.replicate m 0) a.length n v = a ++ lowL n v ++ List.replicate (m - n) 0 := by
  induction n with
  | zero => unfold putL lowL; simp
  | succ n ih =>
    unfold putL
    rw [ih (by omega)]
    have e : m - n = (m - (n + 1)) + 1 := by omega
    rw [e, List.replicate_succ, List.set_append_right _ _ (by rw [List.length_append, lowL_len]; omega), List.length_append, lowL_len, Nat.sub_self, List.set_cons_zero]
    have e2 : lowL (n + 1) v = lowL n v ++ [bI v n] := by unfold lowL; rw [List.range_succ, List.map_append]; rfl
    rw [e2]
    simp
theorem putL_zero' {p : Nat} (a : List Int) (m : Nat) (v : Int) {n : Nat} (hp : a.length = p) (h : n ≤ m) : putL (a ++ List.replicate m 0) p n v = a ++ lowL n v ++ List.replicate (m - n) 0 := by
  subst hp
  exact putL_zero a m v h
/-- The bytes ahead of the sum, one behind the other. -/
theorem headL_row {b : Blk} (h : 64 ≤ b.geom.sector) : headL b = [76, 79, 65, 77] ++ lowL 4 1 ++ lowL 8 b.epoch ++ lowL 4 b.geom.sector ++ lowL 4 b.geom.log ++ lowL 4 b.geom.words ++ lowL 4 b.space ++ lowL 4 b.words ++ lowL 8 b.log ++ List.replicate ((b.geom.sector - 4).toNat - 44) 0 := by
  obtain ⟨m, hm⟩ : ∃ m, (b.geom.sector - 4).toNat = m + 44 := ⟨(b.geom.sector - 4).toNat - 44, by omega⟩
  unfold headL fieldsL magicL
  simp only [List.foldl_cons, List.foldl_nil]
  rw [hm]
  rw [putL_zero' (p := 4) [76, 79, 65, 77] (m + 44 - 4) 1 (n := 4) rfl (by omega)]
  rw [putL_zero' (p := 8) _ _ b.epoch (n := 8) (by simp [lowL_len]) (by omega)]
  rw [putL_zero' (p := 16) _ _ b.geom.sector (n := 4) (by simp [lowL_len]) (by omega)]
  rw [putL_zero' (p := 20) _ _ b.geom.log (n := 4) (by simp [lowL_len]) (by omega)]
  rw [putL_zero' (p := 24) _ _ b.geom.words (n := 4) (by simp [lowL_len]) (by omega)]
  rw [putL_zero' (p := 28) _ _ b.space (n := 4) (by simp [lowL_len]) (by omega)]
  rw [putL_zero' (p := 32) _ _ b.words (n := 4) (by simp [lowL_len]) (by omega)]
  rw [putL_zero' (p := 36) _ _ b.log (n := 8) (by simp [lowL_len]) (by omega)]
  have e : m + 44 - 4 - 4 - 8 - 4 - 4 - 4 - 4 - 4 - 8 = m + 44 - 44 := by omega
  rw [e]
/-- The sum laid behind. -/
theorem sealL_row (crc : List Int → Int) (l : List Int) : sealL crc l = l ++ lowL 4 (crc l) := by
  unfold sealL
  rw [putL_zero l 4 (crc l) (Nat.le_refl _)]
  simp
end Go.Proofs.Ytnagpianaghjeaa.Sl
