/-
  bits.Put.
  crc.Sum of one row.
  A superblock's bytes: plain law. The sum is whatever function of the bytes ahead of it.
  crc.Seal.
-/
import Derived.Test.YtnagpianaghjeaaBdRingLasts4
import Derived.Test.YtnagpianaghjeaaBdRingLasts5
import Derived.Laws.CopyOwn
import Derived.Deep.OwnRows
import Derived.Deep.DeepMust
import Derived.WalkSpells
import Derived.OneCell
import Derived.Deep.WholeRow
import Derived.Test.YtnagpianaghjeaaBdRingLasts2
import Derived.Laws.OwnMore
import Derived.Laws.MakeOwn
namespace Go.Proofs.Ytnagpianaghjeaa.Sl
open Go Go.RowKit Go.Proofs

abbrev encX (x : Int) : Value := .int .u8 x
theorem infoX : (Try.prog.info? 5).map (fun i => (i.zero, i.size, i.bytes)) = some (some (.int .u8 0), 1, 1) := by kernel_rfl
theorem sizeX : (Try.prog.info? 5).map (·.size) = some 1 := by kernel_rfl
/-- A new row of bytes. -/
def NewB (w : World) (v' : Value) (bs : List Int) (w' : World) : Prop := w'.ownsRow w.heap.size 5 1 v' bs.length (bs.map encX) ∧ Moves (fun _ => False) w w'
def PutPost (w : World) (bs : List Int) (e : Ending) (w' : World) : Prop := ∃ v', e = .returned (.tuple #[v', .int .i64 0]) ∧ NewB w v' bs w'
theorem own_setB {w : World} {base g n c i : Nat} {e : TypeId} {xs : List Value} (h : w.ownsRow base e 1 (.slice (some ⟨g, 0, none⟩) n c) n xs) (u : Value) : (w.setCell ⟨g, i, none⟩ u).ownsRow base e 1 (.slice (some ⟨g, 0, none⟩) n c) n (xs.set i u) := by
  refine ⟨by simpa using h.1, ?_⟩
  rcases h.2 with ⟨hv, _⟩ | ⟨g', cap, cur, hv, hb, hg, hn, hm, hs, ht⟩
  · cases hv
  · cases hv
    refine .inr ⟨g, c, cur.setIfInBounds i u, rfl, hb, ?_, hn, hm, by simpa using hs, ?_⟩
    · simp [World.setCell, Array.getElem?_modify, hg]
    · rw [← ht]
      simp [List.take_set]

theorem div_byte (v : Int) (i : Nat) : v / 2 ^ (8 * i) % 256 = bI v i := by
  unfold bI
  rw [Int.pow_mul]
  rfl
set_option maxRecDepth 100000 in
set_option maxHeartbeats 2000000 in
theorem put_ok {w : World} {L : Nat → Prop} {v : Value} {bs : List Int} (h : BRow w L v bs) {p n : Nat} (h1 : 1 ≤ n) (h8 : n ≤ 8) (hl : p + n ≤ bs.length) (x : Int) : Calls Try.prog 75 #[v, .int .i64 p, .int .i64 n, .int .u64 x] w (PutPost w (putL bs p n x)) := by
  obtain ⟨⟨A, c, rfl, hc, hx'⟩, hb, hlen⟩ := h
  rw [List.length_map] at hc hx' ⊢
  obtain ⟨g, o, rfl, -, hgl, hcell⟩ := hx' (by omega)
  obtain ⟨i5, hi5, hp0, hp1, hp2⟩ := info_parts infoX
  have hmk := fun W => run_make_row (P := Try.prog) 55 5 i5 _ Try.underlying55 hi5 hp0 hp1 rfl .i64 .i64 bs.length (by rw [hp2]; omega) (by omega) W
  have HW := Lib.hid (fun W => within_ok h1 h8 hl hlen W)
  have hsrc : ∀ j v, (bs.map encX)[j]? = some v → (w.alloc (.cells (madeCells #[.int .u8 0] bs.length) 5)).cell? ((⟨g, o, none⟩ : Addr).add j) = some v := fun j v hv => by
    have e : (⟨g, o, none⟩ : Addr).add j = ⟨g, o + j, none⟩ := by
      unfold Addr.add
      by_cases hj : j = 0
      · subst hj; simp
      · simp [hj]
    rw [e]
    exact (World.cell?_alloc_lt w _ ⟨g, o + j, none⟩ hgl).trans (hcell j v hv)
  have hone : ∀ v ∈ bs.map encX, v.oneCell' = true := fun v hv => by obtain ⟨y, -, rfl⟩ := List.mem_map.1 hv; rfl
  have b3 : (bs.length : Int) ≤ 1000000 := by omega
  clear hx' hcell hb
  go_enter Try.func75, Try.ntmps75
  go_wp2_with (first
    | (go_at_call 113
       refine (HW.out _).mono ?_
       rintro e w1 ⟨rfl, rfl⟩)
    | (refine wpList_copy_own rfl (.tmp 21) (.tmp 22) 55 55 rfl 5 Try.underlying55 sizeX w.heap.size 0 bs.length bs.length ⟨g, o, none⟩ bs.length c rfl rfl _ _ (heap_alloc_new w _) (bs.map encX) (by rw [List.length_map]; exact (Nat.min_self _).symm) hsrc (by rw [List.length_map, size_madeCells]; simp) hone ?_
       go_frame)
    | fail)
  rw [World.setRow_alloc_new]
  have ew : (List.take 0 (madeCells #[Value.int .u8 0] bs.length).toList ++ (bs.map encX ++ List.drop (0 + (bs.map encX).length) (madeCells #[Value.int .u8 0] bs.length).toList)).toArray = (bs.map encX).toArray := by
    rw [List.drop_eq_nil_of_le (by rw [Array.length_toList, size_madeCells, List.length_map]; simp)]
    simp
  rw [ew]
  have hown : (w.alloc (.cells (bs.map encX).toArray 5)).ownsRow w.heap.size 5 1 (.slice (some ⟨w.heap.size, 0, none⟩) bs.length bs.length) bs.length (bs.map encX) :=
    ⟨by simp, .inr ⟨w.heap.size, bs.length, (bs.map encX).toArray, rfl, Nat.le_refl _, heap_alloc_new w _, Nat.le_refl _, by unfold maxLen; omega, by simp, by simp [List.take_of_length_le]⟩⟩
  have hmv := (Moves.refl (fun _ => False) w).alloc (.cells (bs.map encX).toArray 5)
  have H0 := Lib.hid (And.intro hown hmv)
  clear hown hmv ew hsrc hone hmk HW
  generalize w.alloc (.cells (bs.map encX).toArray 5) = W at H0 ⊢
  obtain ⟨gb, hgb⟩ : ∃ gb, gb = w.heap.size := ⟨_, rfl⟩
  rw [← hgb] at H0 ⊢
  have HG := Lib.hid hgb
  clear hgb
  go_loopg [25] n (fun gg s25 wr => ∃ i : Nat, i ≤ n ∧ gg = n - i ∧ s25 = .int .i64 i ∧ Hid (wr.ownsRow gb 5 1 (.slice (some ⟨gb, 0, none⟩) bs.length bs.length) bs.length ((putL bs p i x).map encX) ∧ Moves (fun _ => False) w wr))
  case atStart => exact ⟨0, Nat.zero_le _, rfl, rfl, H0⟩
  case round =>
    obtain ⟨i, hi, hg, rfl, HI⟩ := hrel
    have b0 : (0 : Int) ≤ (i : Int) := by omega
    have b7 : (i : Int) ≤ 8 := by omega
    have b8 : (0 : Int) ≤ (p : Int) := by omega
    by_cases hlt : i < n
    · have b1 : (i : Int) < (n : Int) := by omega
      have b2 : (p : Int) + (i : Int) < (bs.length : Int) := by omega
      obtain ⟨old, q4, f4⟩ : ∃ old, wr.cell? ⟨gb, p + i, none⟩ = some old ∧ wr.frozen? ⟨gb, p + i, none⟩ = false := by
        obtain ⟨A4', c', e4, -, -, -, -, hx4⟩ := own_form HI.out.1
        cases e4
        obtain ⟨g4', e, -, -, hc4⟩ := hx4 (by omega)
        cases e
        rcases HI.out.1.2 with ⟨e, -⟩ | ⟨g5, cap, cur, e, -, hcur, -⟩
        · cases e
        · cases e
          exact ⟨_, hc4 (p + i) _ (List.getElem?_eq_getElem (by rw [List.length_map, putL_len]; omega)), by simp [World.frozen?, hcur]⟩
      go_wp2_with fail
      go_roundg (n - (i + 1))
      case measure => omega
      case rel =>
        refine ⟨i + 1, by omega, rfl, by go_num, ?_⟩
        rw [div_byte]
        have hset := own_setB HI.out.1 (i := p + i) (.int .u8 (bI x i))
        have hps : ((putL bs p i x).map encX).set (p + i) (.int .u8 (bI x i)) = (putL bs p (i + 1) x).map encX := by
          show _ = ((putL bs p i x).set (p + i) (bI x i)).map encX
          rw [List.map_set]
        rw [hps] at hset
        exact Lib.hid ⟨hset, HI.out.2.setCell (p := ⟨gb, p + i, none⟩) (fun (e : gb < w.heap.size) => by have := HG.out; omega) _⟩
    · obtain rfl : i = n := by omega
      go_wp2_with fail
      go_ret2
      refine ⟨_, rfl, ?_, HI.out.2⟩
      rw [putL_len, ← HG.out]
      exact HI.out.1
end Go.Proofs.Ytnagpianaghjeaa.Sl
namespace Go.Proofs.Ytnagpianaghjeaa.Sl
open Go Go.RowKit Go.Proofs

theorem add_zero {w : World} {L : Nat → Prop} {v : Value} {bs : List Int} (h : BRow w L v bs) : Calls Try.prog 132 #[.int .u32 0, v] w (SameV w (.int .u32 (crcL bs))) := add_any h 0#32
set_option maxRecDepth 100000 in
set_option maxHeartbeats 2000000 in
theorem sum_one {w : World} {L : Nat → Prop} {v : Value} {bs : List Int} (h : BRow w L v bs) {k : Nat} (hc : w.cell? ⟨k, 0, none⟩ = some v) : Calls Try.prog 120 #[.slice (some ⟨k, 0, none⟩) 1 1] w (SameV w (.int .u32 (crcL bs))) := by
  have HA := Lib.hid (add_zero h)
  obtain ⟨⟨A, c, rfl, -, -⟩, -, -⟩ := h
  rw [List.length_map] at hc HA
  generalize crcL bs = z at HA ⊢
  go_enter Try.func120, Try.ntmps120
  go_wp2_with fail
  go_loopg [3, 8] 1 (fun gg s3 s8 wr => wr = w ∧ ((gg = 1 ∧ s8 = .int .i64 0 ∧ s3 = .int .u32 0) ∨ (gg = 0 ∧ s8 = .int .i64 1 ∧ s3 = .int .u32 z)))
  case atStart => exact ⟨rfl, .inl ⟨rfl, rfl, rfl⟩⟩
  case round =>
    obtain ⟨rfl, ⟨rfl, rfl, rfl⟩ | ⟨rfl, rfl, rfl⟩⟩ := hrel
    · go_wp2_with (first
        | (go_at_call 132
           refine HA.out.mono ?_
           rintro e w1 ⟨rfl, rfl⟩)
        | fail)
      go_roundg 0
      case measure => omega
      case rel => exact ⟨rfl, .inr ⟨rfl, rfl, rfl⟩⟩
    · go_wp2_with fail
      go_ret
      exact ⟨rfl, rfl⟩
end Go.Proofs.Ytnagpianaghjeaa.Sl
namespace Go.Proofs.Ytnagpianaghjeaa.Sl

structure Geo where
  sector : Int
  log : Int
  words : Int
  deriving DecidableEq
structure Blk where
  epoch : Int
  geom : Geo
  space : Int
  words : Int
  log : Int
  deriving DecidableEq
/-- A space's sectors; all sectors. -/
def oneG (g : Geo) : Int := (g.words * 8 + g.sector - 1) / g.sector + (g.words + 31) / 32
def secsG (g : Geo) : Int := 2 + g.log + 2 * oneG g
def GoodG (g : Geo) : Prop := (64 ≤ g.sector ∧ g.sector ≤ 1024 ∧ g.sector % 8 = 0) ∧ (8 ≤ g.log ∧ g.log ≤ 1024 ∧ 64 ≤ g.words ∧ g.words ≤ 8192) ∧ secsG g ≤ 16384
instance (g : Geo) : Decidable (GoodG g) := by unfold GoodG; infer_instance
def GoodB (b : Blk) : Prop := GoodG b.geom ∧ 0 ≤ b.space ∧ b.space ≤ 1 ∧ 0 ≤ b.words ∧ b.words ≤ b.geom.words
instance (b : Blk) : Decidable (GoodB b) := by unfold GoodB; infer_instance
/-- What Go's own types hold. -/
def WfB (b : Blk) : Prop := 0 ≤ b.epoch ∧ b.epoch < 256 ^ 8 ∧ 0 ≤ b.log ∧ b.log < 256 ^ 8
def fieldsL (b : Blk) : List (Nat × Nat × Int) := [(4, 4, 1), (8, 8, b.epoch), (16, 4, b.geom.sector), (20, 4, b.geom.log), (24, 4, b.geom.words), (28, 4, b.space), (32, 4, b.words), (36, 8, b.log)]
def magicL (n : Nat) : List Int := [76, 79, 65, 77] ++ List.replicate (n - 4) 0
def headL (b : Blk) : List Int := (fieldsL b).foldl (fun l f => putL l f.1 f.2.1 f.2.2) (magicL (b.geom.sector - 4).toNat)
def sealL (crc : List Int → Int) (l : List Int) : List Int := putL (l ++ List.replicate 4 0) l.length 4 (crc l)
def encS (crc : List Int → Int) (b : Blk) : List Int := sealL crc (headL b)
def readS (s : List Int) : Blk := ⟨getL s 8 8, ⟨getL s 16 4, getL s 20 4, getL s 24 4⟩, getL s 28 4, getL s 32 4, getL s 36 8⟩
/-- What Decode answers. -/
def decS (crc : List Int → Int) (s : List Int) : Option Blk := if 64 ≤ s.length ∧ GoodB (readS s) ∧ encS crc (readS s) = s then some (readS s) else none
theorem magicL_len {n : Nat} (h : 4 ≤ n) : (magicL n).length = n := by unfold magicL; rw [List.length_append, List.length_replicate]; show 4 + _ = _; omega
theorem headL_len {b : Blk} (h : 64 ≤ b.geom.sector) : (headL b).length = (b.geom.sector - 4).toNat := by
  unfold headL fieldsL
  simp only [List.foldl_cons, List.foldl_nil, putL_len]
  exact magicL_len (by omega)
theorem sealL_len (crc : List Int → Int) (l : List Int) : (sealL crc l).length = l.length + 4 := by unfold sealL; rw [putL_len, List.length_append, List.length_replicate]
theorem encS_len (crc : List Int → Int) {b : Blk} (h : 64 ≤ b.geom.sector) : ((encS crc b).length : Int) = b.geom.sector := by
  unfold encS
  rw [sealL_len, headL_len h]
  omega
theorem sealL_get (crc : List Int → Int) {l : List Int} {p n : Nat} (h : p + n ≤ l.length) : getL (sealL crc l) p n = getL l p n := by
  unfold sealL
  rw [getL_putOther (by omega), getL_append h]
theorem readS_enc (crc : List Int → Int) {b : Blk} (h : GoodB b) (hw : WfB b) : readS (encS crc b) = b := by
  obtain ⟨⟨⟨h1, h2, h3⟩, ⟨h4, h5, h6, h7⟩, h8⟩, h9, h10, h11, h12⟩ := h
  obtain ⟨w1, w2, w3, w4⟩ := hw
  have hl := headL_len h1
  have hm : (magicL (b.geom.sector - 4).toNat).length = (b.geom.sector - 4).toNat := magicL_len (by omega)
  have get : ∀ p n, p + n ≤ 60 → getL (encS crc b) p n = getL (headL b) p n := fun p n hp => sealL_get crc (by omega)
  have e8 : (256 : Int) ^ 4 = 4294967296 := by decide
  unfold readS
  rw [get 8 8 (by omega), get 16 4 (by omega), get 20 4 (by omega), get 24 4 (by omega), get 28 4 (by omega), get 32 4 (by omega), get 36 8 (by omega)]
  have f : ∀ (l : List Int), l.length = (b.geom.sector - 4).toNat → 60 ≤ l.length := fun l e => by omega
  have a1 : getL (headL b) 8 8 = b.epoch := by
    unfold headL fieldsL
    simp only [List.foldl_cons, List.foldl_nil]
    rw [getL_putOther (by omega), getL_putOther (by omega), getL_putOther (by omega), getL_putOther (by omega), getL_putOther (by omega), getL_putOther (by omega)]
    exact getL_put (by simp only [putL_len]; omega) w1 w2
  have a2 : getL (headL b) 16 4 = b.geom.sector := by
    unfold headL fieldsL
    simp only [List.foldl_cons, List.foldl_nil]
    rw [getL_putOther (by omega), getL_putOther (by omega), getL_putOther (by omega), getL_putOther (by omega), getL_putOther (by omega)]
    exact getL_put (by simp only [putL_len]; omega) (by omega) (by rw [e8]; omega)
  have a3 : getL (headL b) 20 4 = b.geom.log := by
    unfold headL fieldsL
    simp only [List.foldl_cons, List.foldl_nil]
    rw [getL_putOther (by omega), getL_putOther (by omega), getL_putOther (by omega), getL_putOther (by omega)]
    exact getL_put (by simp only [putL_len]; omega) (by omega) (by rw [e8]; omega)
  have a4 : getL (headL b) 24 4 = b.geom.words := by
    unfold headL fieldsL
    simp only [List.foldl_cons, List.foldl_nil]
    rw [getL_putOther (by omega), getL_putOther (by omega), getL_putOther (by omega)]
    exact getL_put (by simp only [putL_len]; omega) (by omega) (by rw [e8]; omega)
  have a5 : getL (headL b) 28 4 = b.space := by
    unfold headL fieldsL
    simp only [List.foldl_cons, List.foldl_nil]
    rw [getL_putOther (by omega), getL_putOther (by omega)]
    exact getL_put (by simp only [putL_len]; omega) (by omega) (by rw [e8]; omega)
  have a6 : getL (headL b) 32 4 = b.words := by
    unfold headL fieldsL
    simp only [List.foldl_cons, List.foldl_nil]
    rw [getL_putOther (by omega)]
    exact getL_put (by simp only [putL_len]; omega) (by omega) (by rw [e8]; omega)
  have a7 : getL (headL b) 36 8 = b.log := by
    unfold headL fieldsL
    simp only [List.foldl_cons, List.foldl_nil]
    exact getL_put (by simp only [putL_len]; omega) w3 w4
  rw [a1, a2, a3, a4, a5, a6, a7]
/-- A block comes back. -/
theorem dec_enc (crc : List Int → Int) {b : Blk} (h : GoodB b) (hw : WfB b) : decS crc (encS crc b) = some b := by
  unfold decS
  rw [readS_enc crc h hw, if_pos]
  refine ⟨?_, h, rfl⟩
  have := encS_len crc h.1.1.1
  have := h.1.1.1
  omega
/-- What is read is right, and is these bytes. -/
theorem dec_some {crc : List Int → Int} {s : List Int} {b : Blk} (h : decS crc s = some b) : GoodB b ∧ encS crc b = s ∧ b = readS s := by
  unfold decS at h
  by_cases hc : 64 ≤ s.length ∧ GoodB (readS s) ∧ encS crc (readS s) = s
  · rw [if_pos hc] at h
    injection h with h
    subst h
    exact ⟨hc.2.1, hc.2.2, rfl⟩
  · rw [if_neg hc] at h; cases h
/-- The document's own count of a space's sectors is the program's. -/
theorem per_eq (w p : Int) : (w * 8 + p * 8 - 1) / (p * 8) = (w + p - 1) / p := by
  have h1 : w * 8 + p * 8 - 1 = (w + p - 1) * 8 + 7 := by omega
  rw [h1, Int.mul_comm p 8, ← Int.ediv_ediv_of_nonneg (by decide)]
  congr 1
  omega
/-- A number's bytes in a row. -/
def lowL (n : Nat) (v : Int) : List Int := (List.range n).map (bI v)
theorem lowL_len (n : Nat) (v : Int) : (lowL n v).length = n := by unfold lowL; rw [List.length_map, List.length_range]
theorem putL_zero (a : List Int) (m : Nat) (v : Int) {n : Nat} (h : n ≤ m) : putL (a ++ List.replicate m 0) a.length n v = a ++ lowL n v ++ List.replicate (m - n) 0 := by
  induction n with
  | zero => unfold putL lowL; simp
  | succ n ih =>
    unfold putL
    rw [ih (by omega)]
    have e : m - n = (m - (n + 1)) + 1 := by omega
    rw [e, List.replicate_succ, List.set_append_right _ _ (by rw [List.length_append, lowL_len]; omega), List.length_append, lowL_len, Nat.sub_self, List.set_cons_zero]
    have e2 : lowL (n + 1) v = lowL n v ++ [bI v n] := by unfold lowL; rw [List.range_succ, List.map_append]; rfl
    rw [e2]
    simp
theorem putL_zero' {p : Nat} (a : List Int) (m : Nat) (v : Int) {n : Nat} (hp : a.length = p) (h : n ≤ m) : putL (a ++ List.replicate m 0) p n v = a ++ lowL n v ++ List.replicate (m - n) 0 := by
  subst hp
  exact putL_zero a m v h
/-- The bytes ahead of the sum, one behind the other. -/
theorem headL_row {b : Blk} (h : 64 ≤ b.geom.sector) : headL b = [76, 79, 65, 77] ++ lowL 4 1 ++ lowL 8 b.epoch ++ lowL 4 b.geom.sector ++ lowL 4 b.geom.log ++ lowL 4 b.geom.words ++ lowL 4 b.space ++ lowL 4 b.words ++ lowL 8 b.log ++ List.replicate ((b.geom.sector - 4).toNat - 44) 0 := by
  obtain ⟨m, hm⟩ : ∃ m, (b.geom.sector - 4).toNat = m + 44 := ⟨(b.geom.sector - 4).toNat - 44, by omega⟩
  unfold headL fieldsL magicL
  simp only [List.foldl_cons, List.foldl_nil]
  rw [hm]
  rw [putL_zero' (p := 4) [76, 79, 65, 77] (m + 44 - 4) 1 (n := 4) rfl (by omega)]
  rw [putL_zero' (p := 8) _ _ b.epoch (n := 8) (by simp [lowL_len]) (by omega)]
  rw [putL_zero' (p := 16) _ _ b.geom.sector (n := 4) (by simp [lowL_len]) (by omega)]
  rw [putL_zero' (p := 20) _ _ b.geom.log (n := 4) (by simp [lowL_len]) (by omega)]
  rw [putL_zero' (p := 24) _ _ b.geom.words (n := 4) (by simp [lowL_len]) (by omega)]
  rw [putL_zero' (p := 28) _ _ b.space (n := 4) (by simp [lowL_len]) (by omega)]
  rw [putL_zero' (p := 32) _ _ b.words (n := 4) (by simp [lowL_len]) (by omega)]
  rw [putL_zero' (p := 36) _ _ b.log (n := 8) (by simp [lowL_len]) (by omega)]
  have e : m + 44 - 4 - 4 - 8 - 4 - 4 - 4 - 4 - 4 - 8 = m + 44 - 44 := by omega
  rw [e]
/-- The sum laid behind. -/
theorem sealL_row (crc : List Int → Int) (l : List Int) : sealL crc l = l ++ lowL 4 (crc l) := by
  unfold sealL
  rw [putL_zero l 4 (crc l) (Nat.le_refl _)]
  simp
end Go.Proofs.Ytnagpianaghjeaa.Sl
namespace Go.Proofs.Ytnagpianaghjeaa.Sl
open Go Go.RowKit Go.Proofs

theorem BRow.moves {S L : Nat → Prop} {w w' : World} {v : Value} {bs : List Int} (h : BRow w L v bs) (hm : Moves S w w') (hs : ∀ i, L i → i < w.heap.size → ¬ S i) : BRow w' L v bs := ⟨h.1.moves hm hs, h.2⟩
theorem BRow.below {L : Nat → Prop} {w w' : World} {v : Value} {bs : List Int} (h : BRow w L v bs) (hm : Below w.heap.size w w') : BRow w' L v bs := h.moves (S := fun _ => False) (Moves.of_below hm) (fun _ _ _ e => e)
theorem BRow.mono {L L' : Nat → Prop} {w : World} {v : Value} {bs : List Int} (h : BRow w L v bs) (hl : ∀ i, L i → i < w.heap.size → L' i) : BRow w L' v bs := ⟨h.1.mono hl, h.2⟩
/-- A whole block of bytes as a row. -/
theorem BRow.of_block {w : World} {g n : Nat} {bs : List Int} (hn : bs.length = n) (hg : w.heap[g]? = some (.cells (bs.map encX).toArray 5 (0, 0))) (hb : ∀ x ∈ bs, 0 ≤ x ∧ x < 256) (hl : bs.length ≤ 1000000) : BRow w (fun k => k = g) (.slice (some ⟨g, 0, none⟩) n n) bs := by
  subst hn
  refine ⟨⟨some ⟨g, 0, none⟩, bs.length, by rw [List.length_map], by rw [List.length_map]; exact Nat.le_refl _, fun _ => ⟨g, 0, rfl, rfl, (Array.getElem?_eq_some_iff.1 hg).1, fun j u hu => ?_⟩⟩, hb, hl⟩
  simp only [World.cell?, hg, Nat.zero_add, Option.isSome_none, Bool.false_eq_true, if_false]
  rw [List.getElem?_toArray]
  exact hu
theorem own_weakS {w : World} {base base' : Nat} {e : TypeId} {size n : Nat} {v : Value} {xs : List Value} (hb : base' ≤ base) (h : w.ownsRow base e size v n xs) : w.ownsRow base' e size v n xs := by
  refine ⟨h.1, ?_⟩
  rcases h.2 with hn | ⟨g, cap, cur, rfl, hb', r⟩
  · exact .inl hn
  · exact .inr ⟨g, cap, cur, rfl, Nat.le_trans hb hb', r⟩
theorem NewB.row {w w' : World} {v : Value} {bs : List Int} (h : NewB w v bs w') (hb : ∀ x ∈ bs, 0 ≤ x ∧ x < 256) (hl : bs.length ≤ 1000000) : BRow w' (fun k => w.heap.size ≤ k) v bs := ⟨Row.of_owns h.1, hb, hl⟩
theorem NewB.after {w0 w w' : World} {v : Value} {bs : List Int} (h : NewB w v bs w') (h0 : Moves (fun _ => False) w0 w) : NewB w0 v bs w' := ⟨own_weakS h0.size h.1, h0.trans h.2⟩
theorem crcL_u32 (l : List Int) : 0 ≤ crcL l ∧ crcL l < 4294967296 := by
  unfold crcL
  have := (~~~ (crcAll (~~~ 0#32) l)).isLt
  omega
def OneB (w : World) (bs : List Int) (e : Ending) (w' : World) : Prop := ∃ v', e = .returned v' ∧ NewB w v' bs w'
theorem made_zero (n : Nat) : madeCells #[.int .u8 0] n = ((List.replicate n (0 : Int)).map encX).toArray := by
  have h := toList_madeCells_one (.int .u8 0) n
  rw [List.map_replicate]
  rw [← h]
theorem splice_map (bs : List Int) (m : Nat) : splice ((List.replicate (bs.length + m) (0 : Int)).map encX) 0 (bs.map encX) = (bs ++ List.replicate m 0).map encX := by
  unfold splice
  rw [List.length_map, Nat.zero_add, List.take_zero, List.nil_append, List.map_append, ← List.map_drop, List.drop_replicate, Nat.add_sub_cancel_left]
set_option maxRecDepth 100000 in
set_option maxHeartbeats 2000000 in
theorem seal_any {w : World} {L : Nat → Prop} {v : Value} {bs : List Int} (h : BRow w L v bs) (h0 : 0 < bs.length) (hl : bs.length ≤ 900000) : Calls Try.prog 98 #[v] w (OneB w (sealL crcL bs)) := by
  have HR := Lib.hid h
  obtain ⟨⟨A, c, rfl, hc, hx'⟩, hb, hlen⟩ := h
  rw [List.length_map] at hc hx' HR ⊢
  obtain ⟨g, o, rfl, -, hgl, hcell⟩ := hx' (by omega)
  obtain ⟨i5, hi5, hp0, hp1, hp2⟩ := info_parts infoX
  have hmk := fun W => run_make_row (P := Try.prog) 55 5 i5 _ Try.underlying55 hi5 hp0 hp1 rfl .i64 .i64 (bs.length + 4) (by rw [hp2]; omega) (by omega) W
  rw [show (((bs.length + 4 : Nat)) : Int) = (bs.length : Int) + 4 from rfl, made_zero] at hmk
  have hsrc : ∀ j v, (bs.map encX)[j]? = some v → (w.alloc (.cells ((List.replicate (bs.length + 4) (0 : Int)).map encX).toArray 5)).cell? ((⟨g, o, none⟩ : Addr).add j) = some v := fun j v hv => by
    have e : (⟨g, o, none⟩ : Addr).add j = ⟨g, o + j, none⟩ := by
      unfold Addr.add
      by_cases hj : j = 0
      · subst hj; simp
      · simp [hj]
    rw [e]
    exact (World.cell?_alloc_lt w _ ⟨g, o + j, none⟩ hgl).trans (hcell j v hv)
  have hone : ∀ v ∈ bs.map encX, v.oneCell' = true := fun v hv => by obtain ⟨y, -, rfl⟩ := List.mem_map.1 hv; rfl
  have b3 : (bs.length : Int) ≤ 900000 := by omega
  have HB := Lib.hid hb
  have HC := Lib.hid hcell
  have hz := crcL_u32 bs
  obtain ⟨hz0, hz1⟩ := hz
  clear hx' hcell hb
  generalize hzz : crcL bs = z at hz0 hz1
  have HZ := Lib.hid hzz
  clear hzz
  generalize hX : (List.replicate (bs.length + 4) (0 : Int)).map encX = X at hmk hsrc
  have HX := Lib.hid hX
  have hXl : X.length = bs.length + 4 := by rw [← hX, List.length_map, List.length_replicate]
  have HXL := Lib.hid hXl
  clear hX hXl
  go_enter Try.func98, Try.ntmps98
  have HSum : Hid (∀ W, Below w.heap.size w W → Calls Try.prog 120 #[.slice (some ⟨W.heap.size, 0, none⟩) 1 1] (W.alloc (.cells #[.slice (some ⟨g, o, none⟩) bs.length c] 55)) (SameV (W.alloc (.cells #[.slice (some ⟨g, o, none⟩) bs.length c] 55)) (.int .u32 z))) := Lib.hid fun W hW => by
    have := sum_one (w := W.alloc (.cells #[.slice (some ⟨g, o, none⟩) bs.length c] 55)) (k := W.heap.size) (HR.out.below (hW.alloc hW.size _)) (cell_of_one (heap_alloc_new W _))
    rwa [HZ.out] at this
  have HPut : Hid (∀ W, w.heap.size ≤ W.heap.size → W.heap[w.heap.size]? = some (.cells (splice X 0 (bs.map encX)).toArray 5 (0, 0)) → Calls Try.prog 75 #[.slice (some ⟨w.heap.size, 0, none⟩) (bs.length + 4) (bs.length + 4), .int .i64 bs.length, .int .i64 4, .int .u64 z] W (PutPost W (sealL crcL bs))) := Lib.hid fun W _ hg => by
    rw [← HX.out, splice_map] at hg
    have hz0 : ∀ x ∈ bs ++ List.replicate 4 (0 : Int), 0 ≤ x ∧ x < 256 := fun x hx => by
      rcases List.mem_append.1 hx with hx | hx
      · exact HB.out x hx
      · rw [(List.mem_replicate.1 hx).2]; exact ⟨by decide, by decide⟩
    have hr := BRow.of_block (n := bs.length + 4) (by rw [List.length_append, List.length_replicate]) hg hz0 (by rw [List.length_append, List.length_replicate]; omega)
    have := put_ok hr (p := bs.length) (n := 4) (by decide) (by decide) (by rw [List.length_append, List.length_replicate]; omega) z
    unfold sealL
    rw [HZ.out]
    exact this
  clear HR
  go_wp2_with (first
    | (with_reducible refine wpList_copy_splice rfl (.tmp 8) (.tmp 9) 55 55 rfl 5 Try.underlying55 sizeX (some ⟨w.heap.size, 0, none⟩) (some ⟨g, o, none⟩) (bs.length + 4) (bs.length + 4) bs.length c rfl rfl w.heap.size 0 X 5 (heap_alloc_new w _) (bs.map encX) ?_ (fun _ => ⟨rfl, ⟨g, o, none⟩, rfl, hsrc⟩) ?_ hone w.heap.size w ((Below.refl _ _).alloc (Nat.le_refl _) _) (Nat.le_refl _) ?_
       focus (rw [List.length_map]; exact (Nat.min_eq_left (Nat.le_add_right _ _)).symm)
       focus (rw [List.length_map, HXL.out]; omega)
       intro w2 HG2 hB2)
    | (go_at_call 120
       refine (HSum.out _ hB2).mono ?_
       rintro e w1 ⟨rfl, rfl⟩)
    | (go_at_call 75
       refine (HPut.out _ (by have := lt_of_block HG2.out; simp; omega) ((Below.heap_alloc _ _ _ (lt_of_block HG2.out)).trans HG2.out)).mono ?_
       rintro e w1 ⟨v', rfl, hnew⟩)
    | fail)
  go_ret
  exact ⟨v', rfl, hnew.after ((Moves.of_below hB2).alloc _)⟩
end Go.Proofs.Ytnagpianaghjeaa.Sl
