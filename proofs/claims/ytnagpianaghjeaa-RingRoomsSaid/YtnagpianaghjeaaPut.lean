/-
  bits.Put.
-/
import Derived.Test.YtnagpianaghjeaaBits
import Derived.Test.YtnagpianaghjeaaAppend
import Derived.Laws.CopyOwn
import Derived.Deep.OwnRows
import Derived.Deep.DeepMust
import Derived.WalkSpells
import Derived.OneCell
import Derived.Deep.WholeRow
namespace Go.Proofs.Ytnagpianaghjeaa.Sl
open Go Go.RowKit Go.Proofs

abbrev encX (x : Int) : Value := .int .u8 x
theorem infoX : (Try.prog.info? 5).map (fun i => (i.zero, i.size, i.bytes)) = some (some (.int .u8 0), 1, 1) := by kernel_rfl
theorem sizeX : (Try.prog.info? 5).map (·.size) = some 1 := by kernel_rfl
/-- A new row of bytes. -/
def NewB (w : World) (v' : Value) (bs : List Int) (w' : World) : Prop := w'.ownsRow w.heap.size 5 1 v' bs.length (bs.map encX) ∧ Moves (fun _ => False) w w'
def PutPost (w : World) (bs : List Int) (e : Ending) (w' : World) : Prop := ∃ v', e = .returned (.tuple #[v', .int .i64 0]) ∧ NewB w v' bs w'
theorem own_setB {w : World} {base g n c i : Nat} {e : TypeId} {xs : List Value} (h : w.ownsRow base e 1 (.slice (some ⟨g, 0, none⟩) n c) n xs) (u : Value) : (w.setCell ⟨g, i, none⟩ u).ownsRow base e 1 (.slice (some ⟨g, 0, none⟩) n c) n (xs.set i u) := by
  refine ⟨by simpa using h.1, ?_⟩
  rcases h.2 with ⟨hv, _⟩ | ⟨g', cap, cur, hv, hb, hg, hn, hm, hs, ht⟩
  · cases hv
  · cases hv
    refine .inr ⟨g, c, cur.setIfInBounds i u, rfl, hb, ?_, hn, hm, by simpa using hs, ?_⟩
    · simp [World.setCell, Array.getElem?_modify, hg]
    · rw [← ht]
      simp [List.take_set]

theorem div_byte (v : Int) (i : Nat) : v / 2 ^ (8 * i) % 256 = bI v i := by
  unfold bI
  rw [Int.pow_mul]
  rfl
set_option maxRecDepth 100000 in
set_option maxHeartbeats 2000000 in
theorem put_ok {w : World} {L : Nat → Prop} {v : Value} {bs : List Int} (h : BRow w L v bs) {p n : Nat} (h1 : 1 ≤ n) (h8 : n ≤ 8) (hl : p + n ≤ bs.length) (x : Int) : Calls Try.prog 75 #[v, .int .i64 p, .int .i64 n, .int .u64 x] w (PutPost w (putL bs p n x)) := by
  obtain ⟨⟨A, c, rfl, hc, hx'⟩, hb, hlen⟩ := h
  rw [List.length_map] at hc hx' ⊢
  obtain ⟨g, o, rfl, -, hgl, hcell⟩ := hx' (by omega)
  obtain ⟨i5, hi5, hp0, hp1, hp2⟩ := info_parts infoX
  have hmk := fun W => run_make_row (P := Try.prog) 55 5 i5 _ Try.underlying55 hi5 hp0 hp1 rfl .i64 .i64 bs.length (by rw [hp2]; omega) (by omega) W
  have HW := Lib.hid (fun W => within_ok h1 h8 hl hlen W)
  have hsrc : ∀ j v, (bs.map encX)[j]? = some v → (w.alloc (.cells (madeCells #[.int .u8 0] bs.length) 5)).cell? ((⟨g, o, none⟩ : Addr).add j) = some v := fun j v hv => by
    have e : (⟨g, o, none⟩ : Addr).add j = ⟨g, o + j, none⟩ := by
      unfold Addr.add
      by_cases hj : j = 0
      · subst hj; simp
      · simp [hj]
    rw [e]
    exact (World.cell?_alloc_lt w _ ⟨g, o + j, none⟩ hgl).trans (hcell j v hv)
  have hone : ∀ v ∈ bs.map encX, v.oneCell' = true := fun v hv => by obtain ⟨y, -, rfl⟩ := List.mem_map.1 hv; rfl
  have b3 : (bs.length : Int) ≤ 1000000 := by omega
  clear hx' hcell hb
  go_enter Try.func75, Try.ntmps75
  go_wp2_with (first
    | (go_at_call 113
       refine (HW.out _).mono ?_
       rintro e w1 ⟨rfl, rfl⟩)
    | (refine wpList_copy_own rfl (.tmp 21) (.tmp 22) 55 55 rfl 5 Try.underlying55 sizeX w.heap.size 0 bs.length bs.length ⟨g, o, none⟩ bs.length c rfl rfl _ _ (heap_alloc_new w _) (bs.map encX) (by rw [List.length_map]; exact (Nat.min_self _).symm) hsrc (by rw [List.length_map, size_madeCells]; simp) hone ?_
       go_frame)
    | fail)
  rw [World.setRow_alloc_new]
  have ew : (List.take 0 (madeCells #[Value.int .u8 0] bs.length).toList ++ (bs.map encX ++ List.drop (0 + (bs.map encX).length) (madeCells #[Value.int .u8 0] bs.length).toList)).toArray = (bs.map encX).toArray := by
    rw [List.drop_eq_nil_of_le (by rw [Array.length_toList, size_madeCells, List.length_map]; simp)]
    simp
  rw [ew]
  have hown : (w.alloc (.cells (bs.map encX).toArray 5)).ownsRow w.heap.size 5 1 (.slice (some ⟨w.heap.size, 0, none⟩) bs.length bs.length) bs.length (bs.map encX) :=
    ⟨by simp, .inr ⟨w.heap.size, bs.length, (bs.map encX).toArray, rfl, Nat.le_refl _, heap_alloc_new w _, Nat.le_refl _, by unfold maxLen; omega, by simp, by simp [List.take_of_length_le]⟩⟩
  have hmv := (Moves.refl (fun _ => False) w).alloc (.cells (bs.map encX).toArray 5)
  have H0 := Lib.hid (And.intro hown hmv)
  clear hown hmv ew hsrc hone hmk HW
  generalize w.alloc (.cells (bs.map encX).toArray 5) = W at H0 ⊢
  obtain ⟨gb, hgb⟩ : ∃ gb, gb = w.heap.size := ⟨_, rfl⟩
  rw [← hgb] at H0 ⊢
  have HG := Lib.hid hgb
  clear hgb
  go_loopg [25] n (fun gg s25 wr => ∃ i : Nat, i ≤ n ∧ gg = n - i ∧ s25 = .int .i64 i ∧ Hid (wr.ownsRow gb 5 1 (.slice (some ⟨gb, 0, none⟩) bs.length bs.length) bs.length ((putL bs p i x).map encX) ∧ Moves (fun _ => False) w wr))
  case atStart => exact ⟨0, Nat.zero_le _, rfl, rfl, H0⟩
  case round =>
    obtain ⟨i, hi, hg, rfl, HI⟩ := hrel
    have b0 : (0 : Int) ≤ (i : Int) := by omega
    have b7 : (i : Int) ≤ 8 := by omega
    have b8 : (0 : Int) ≤ (p : Int) := by omega
    by_cases hlt : i < n
    · have b1 : (i : Int) < (n : Int) := by omega
      have b2 : (p : Int) + (i : Int) < (bs.length : Int) := by omega
      obtain ⟨old, q4, f4⟩ : ∃ old, wr.cell? ⟨gb, p + i, none⟩ = some old ∧ wr.frozen? ⟨gb, p + i, none⟩ = false := by
        obtain ⟨A4', c', e4, -, -, -, -, hx4⟩ := own_form HI.out.1
        cases e4
        obtain ⟨g4', e, -, -, hc4⟩ := hx4 (by omega)
        cases e
        rcases HI.out.1.2 with ⟨e, -⟩ | ⟨g5, cap, cur, e, -, hcur, -⟩
        · cases e
        · cases e
          exact ⟨_, hc4 (p + i) _ (List.getElem?_eq_getElem (by rw [List.length_map, putL_len]; omega)), by simp [World.frozen?, hcur]⟩
      go_wp2_with fail
      go_roundg (n - (i + 1))
      case measure => omega
      case rel =>
        refine ⟨i + 1, by omega, rfl, by go_num, ?_⟩
        rw [div_byte]
        have hset := own_setB HI.out.1 (i := p + i) (.int .u8 (bI x i))
        have hps : ((putL bs p i x).map encX).set (p + i) (.int .u8 (bI x i)) = (putL bs p (i + 1) x).map encX := by
          show _ = ((putL bs p i x).set (p + i) (bI x i)).map encX
          rw [List.map_set]
        rw [hps] at hset
        exact Lib.hid ⟨hset, HI.out.2.setCell (p := ⟨gb, p + i, none⟩) (fun (e : gb < w.heap.size) => by have := HG.out; omega) _⟩
    · obtain rfl : i = n := by omega
      go_wp2_with fail
      go_ret2
      refine ⟨_, rfl, ?_, HI.out.2⟩
      rw [putL_len, ← HG.out]
      exact HI.out.1
end Go.Proofs.Ytnagpianaghjeaa.Sl
