/-
  The next record's number; the room.
  A head written.
  Open: a log found, or none.
  Format: a log without records.
  A record in sectors; what a disk comes to that such sectors are written to.
  A record appended: there is room.
  Records let go.
  The records, told.
  The law's own log: two records, one is let go.
  loamlaw9.known.
-/
import Derived.Test.YtnagpianaghjeaaBdRingLasts22
import Derived.Deep.RegionHeld3
import Derived.Test.YtnagpianaghjeaaBdRingLasts24
import Derived.Test.YtnagpianaghjeaaBdRingLasts23
import Derived.Deep.RegionLaw
import Derived.Deep.CutRange
import Derived.Laws.CopyOwn
import Derived.Test.YtnagpianaghjeaaBdRingLasts15
import Derived.Deep.RegionWith
import Derived.Test.YtnagpianaghjeaaBdRingLasts17
import Derived.Lib.SlBytesConst
namespace Go.Proofs.Ytnagpianaghjeaa.Rg
open Go Go.RowKit Go.Proofs Go.Proofs.Ytnagpianaghjeaa.Sl
open Pl (DS IsDisk DOwn DPost DMv DKeep Clear DiskAt All2)

set_option maxHeartbeats 2000000 in
theorem next_any {w : World} {r d s n z : Nat} {h : Hd} {A : Option Addr} {m c : Nat} (hb : RingB w r d s n z h (.slice A m c)) (hm : m ≤ 1000000) : Calls Try.prog 34 #[.pointer (some ⟨r, 0, none⟩)] w (MovV w (.int .u64 (IntKind.u64.wrap (h.first + m)))) := by
  obtain ⟨-, -, -, -, -, c5, -, -, -, c9⟩ := hb.cells
  clear hb
  obtain ⟨h1, h2, h3, h4, h5⟩ := h
  have b0 : (0 : Int) ≤ (m : Int) := by omega
  have b1 : (m : Int) ≤ 1000000 := by omega
  have wm : IntKind.u64.wrap (m : Int) = (m : Int) := IntWalk.u64_in _ (by omega)
  go_enter Try.func34, Try.ntmps34
  go_wp2_with fail
  go_quiet (fail)
  go_wp2
  go_ret
  exact ⟨rfl, (Moves.refl _ _).drewN _⟩
def roomN (n z u : Int) : Int := max (min ((n - 2 - u) * z - 4) 4096) (-1)
theorem prod_in {fr z : Nat} (hf : fr ≤ 16384) (hz : z ≤ 100000) : ∃ pr : Int, (fr : Int) * (z : Int) = pr ∧ 0 ≤ pr ∧ pr ≤ 1638400000 := by
  have h : fr * z ≤ 16384 * 100000 := Nat.mul_le_mul hf hz
  exact ⟨((fr * z : Nat) : Int), (Int.natCast_mul _ _).symm, by omega, by omega⟩
set_option maxRecDepth 100000 in
set_option maxHeartbeats 4000000 in
theorem room_any {w : World} {r d s n z u : Nat} {gen first count start : Int} {lv : Value} (hb : RingB w r d s n z ⟨gen, first, count, start, u⟩ lv) (hn : 8 ≤ n ∧ n ≤ 16384) (hz : z ≤ 100000) (hu : u ≤ n - 2) : Calls Try.prog 35 #[.pointer (some ⟨r, 0, none⟩)] w (MovV w (.int .i64 (roomN n z u))) := by
  have HRG := Lib.hid (fun W (hW : Moves (fun _ => False) w W) => area_any (hb.moves0 hW) hn)
  obtain ⟨-, -, -, c3, -, -, -, -, c8, -⟩ := hb.cells
  clear hb
  obtain ⟨fr, hfr, hfl⟩ : ∃ x : Nat, ((n - 2 : Nat) : Int) - (u : Int) = x ∧ x ≤ 16384 := ⟨n - 2 - u, by omega, by omega⟩
  have hR : roomN n z u = max (min ((fr : Int) * (z : Int) - 4) 4096) (-1) := by
    unfold roomN
    rw [← hfr, show ((n - 2 : Nat) : Int) = (n : Int) - 2 by omega]
  obtain ⟨pr, hpr, hp0, hp1⟩ := prod_in hfl hz
  rw [hpr] at hR
  rw [hR]
  clear hR
  have w1 : IntKind.i64.wrap (((n - 2 : Nat) : Int) - (u : Int)) = (fr : Int) := by rw [hfr]; exact IntWalk.i64_in _ (by omega)
  have wu : IntKind.i64.wrap (u : Int) = (u : Int) := IntWalk.i64_in _ (by omega)
  have HW2 : Hid (wrap64 ((fr : Int) * (z : Int)) = pr ∧ wrap64 (pr - 4) = pr - 4) := Lib.hid ⟨by rw [hpr]; exact w64 (by omega) (by omega), w64 (by omega) (by omega)⟩
  have HNN : Hid (∀ w', KpS w w' → KpS w w' ∧ w'.cell? ⟨r, 8, none⟩ = some (.int .u64 u) ∧ w'.cell? ⟨r, 3, none⟩ = some (.int .i64 z)) := Lib.hid (fun w' hk => ⟨hk, hk.cell c8, hk.cell c3⟩)
  have hK0 := HNN.out _ (KpS.refl w)
  have hK1 := HNN.out w.drew (KpS.of (Moves.refl (fun _ => False) w).drew)
  clear c3 c8 hpr hfr hn hz hu hp0 hp1 hfl
  go_enter Try.func35, Try.ntmps35
  go_wp2_with fail
  go_region_held3 (fun w' => KpS w w' ∧ w'.cell? ⟨r, 8, none⟩ = some (.int .u64 u) ∧ w'.cell? ⟨r, 3, none⟩ = some (.int .i64 z))
    (first | with_reducible exact hK0 | with_reducible exact hK1 | assumption)
    (first
      | (go_at_call 76
         have hm : Moves (fun _ => False) w w.drew := KpS.moves hK1.1
         refine (HRG.out _ hm).mono ?_
         rintro e w6 ⟨rfl, rfl⟩)
      | fail)
  all_goals
    have HM := Lib.hid (KpS.moves hK1.1)
    obtain ⟨-, c8, c3⟩ := hK1
    clear hK0 w1 wu c8
    obtain ⟨w2, w3⟩ := HW2.out
    go_wp2_with fail
    go_ret
    exact ⟨rfl, HM.out⟩
end Go.Proofs.Ytnagpianaghjeaa.Rg
namespace Go.Proofs.Ytnagpianaghjeaa.Rg
open Go Go.RowKit Go.Proofs Go.Proofs.Ytnagpianaghjeaa.Sl
open Pl (DS IsDisk DOwn DPost DMv DKeep Clear DiskAt All2)

def numsL (h : Hd) : List Int := [1196312914, h.gen, h.first, h.count, h.start, h.used]
/-- A head's sector: so many of its numbers laid. -/
def headN (z : Nat) (h : Hd) : Nat → List Int
  | 0 => List.replicate z 0
  | i + 1 => putL (headN z h i) (8 * i) 8 ((numsL h).getD i 0)
def headB (z : Nat) (h : Hd) : List Int := headN z h 6
theorem headN_len (z : Nat) (h : Hd) (i : Nat) : (headN z h i).length = z := by
  induction i with
  | zero => exact List.length_replicate
  | succ i ih => unfold headN; rw [putL_len, ih]
theorem headN_byte (z : Nat) (h : Hd) (i : Nat) : ∀ x ∈ headN z h i, 0 ≤ x ∧ x < 256 := by
  induction i with
  | zero =>
    intro x hx
    rw [(List.mem_replicate.1 hx).2]
    exact ⟨by decide, by decide⟩
  | succ i ih => unfold headN; exact putL_byte ih _ _ _
def PutR (w : World) (base d r s n z : Nat) (D : DS) (h : Hd) (lv : Value) (vals : List Value) (L : List (List Int)) (e : Ending) (w' : World) : Prop := e = .returned (.int .i64 0) ∧ RingAt w' base d r s n z D h lv vals L ∧ RMv w r d lv w' lv
theorem num_cell {W : World} {k : Nat} {h : Hd} (hb : W.heap[k]? = some (.cells #[.int .u64 1196312914, .int .u64 h.gen, .int .u64 h.first, .int .u64 h.count, .int .u64 h.start, .int .u64 h.used] 30 (0, 0))) {i : Nat} (hi : i < 6) : W.cell? ⟨k, i, none⟩ = some (.int .u64 ((numsL h).getD i 0)) := by
  have h6 : i = 0 ∨ i = 1 ∨ i = 2 ∨ i = 3 ∨ i = 4 ∨ i = 5 := by omega
  rcases h6 with rfl | rfl | rfl | rfl | rfl | rfl <;> simp [World.cell?, hb, numsL]
theorem i64_64 (x : Int) : IntKind.i64.wrap x = wrap64 x := by
  rw [IntKind.wrap_i64]
  first | rfl | (unfold wrap64; omega)
theorem and_one64 {e : Int} (h0 : 0 ≤ e) (h1 : e < 18446744073709551616) : wrap64 (bits .and .u64 e 1) = e % 2 := and_one h0 h1
set_option maxRecDepth 100000 in
set_option maxHeartbeats 8000000 in
theorem rput_ok {w : World} {base d r s n z : Nat} {K : List (List Int)} {l : Int} {k : List Bool} {ws : Int} {h : Hd} {lv : Value} {vals : List Value} {L : List (List Int)} (H : RingAt w base d r s n z (calmS z K false l k ws) h lv vals L) (hz : 64 ≤ z ∧ z ≤ 100000) (hs : s + n ≤ K.length) (hn : 8 ≤ n) (hm : K.length ≤ 16384) (hwr : 0 ≤ ws ∧ ws ≤ 1000000000) (h' : Hd) {g : Int} (hg : IntKind.u64.wrap (h.gen + 1) = g) :
    Calls Try.prog 73 #[.pointer (some ⟨r, 0, none⟩), hdV h'] w (PutR w base d r s n z (calmS z (K.set (s + (g % 2).toNat) (headB z ⟨g, h'.first, h'.count, h'.start, h'.used⟩)) false l k (ws + 1)) ⟨g, h'.first, h'.count, h'.start, h'.used⟩ lv vals L) := by
  have hg0 : 0 ≤ g ∧ g < 18446744073709551616 := by
    rw [← hg]
    simp [IntKind.wrap, IntKind.bits, IntKind.signed]
    omega
  obtain ⟨h1, h2, h3, h4, h5⟩ := h'
  dsimp only
  have HNB := Lib.hid (fun W => numbers_any ⟨g, h2, h3, h4, h5⟩ W)
  have HR := Lib.hid H
  obtain ⟨c0, c1, -, c3, c4, -⟩ := H.rb.cells
  have hrl := lt_of_block H.rb
  obtain ⟨i5, hi5, hp0, hp1, hp2⟩ := info_parts Pl.infoB
  have hmk := fun W => run_make_row (P := Try.prog) 55 5 i5 _ Try.underlying55 hi5 hp0 hp1 rfl .i64 .i64 z (by rw [hp2]; omega) (by omega) W
  have e3 := (World.cell?_alloc_lt w (.cells #[.int .u64 g, .int .u64 h2, .int .u64 h3, .int .u64 h4, .int .u64 h5] 118) ⟨r, 3, none⟩ hrl).trans c3
  have e4 := (World.cell?_alloc_lt w (.cells #[.int .u64 h1, .int .u64 h2, .int .u64 h3, .int .u64 h4, .int .u64 h5] 118) ⟨r, 4, none⟩ hrl).trans c4
  have HZ := Lib.hid hz
  have HG0 := Lib.hid hg0
  have b0 : (64 : Int) ≤ (z : Int) := by omega
  have b1 : (z : Int) ≤ 100000 := by omega
  have HP : Hid (s + (g % 2).toNat < K.length ∧ (((s + (g % 2).toNat : Nat) : Int) = (s : Int) + g % 2) ∧ (s : Int) ≤ 16384 ∧ s ≤ 16384) := Lib.hid (by refine ⟨?_, ?_, ?_, ?_⟩ <;> omega)
  have HWR := Lib.hid hwr
  obtain ⟨B, hB⟩ : ∃ B, headB z ⟨g, h2, h3, h4, h5⟩ = B := ⟨_, rfl⟩
  rw [hB]
  have hB6 : headN z ⟨g, h2, h3, h4, h5⟩ 6 = B := hB
  have HB6 := Lib.hid hB6
  have HBL : Hid (B.length = z) := Lib.hid (by rw [← hB6, headN_len])
  generalize hq : PutR w base d r s n z (calmS z (K.set (s + (g % 2).toNat) B) false l k (ws + 1)) ⟨g, h2, h3, h4, h5⟩ lv vals L = Q
  have HQE := Lib.hid hq
  clear hq hB hB6 H hz hg0 hs hn hm hwr
  have M0 := Lib.hid (((Moves.refl (fun _ => False) w).alloc (.cells #[.int .u64 g, .int .u64 h2, .int .u64 h3, .int .u64 h4, .int .u64 h5] 118)).alloc (.cells (madeCells #[.int .u8 0] z) 5))
  have B0 : Hid (((w.alloc (.cells #[.int .u64 g, .int .u64 h2, .int .u64 h3, .int .u64 h4, .int .u64 h5] 118)).alloc (.cells (madeCells #[.int .u8 0] z) 5)).heap[w.heap.size]? = some (.cells #[.int .u64 g, .int .u64 h2, .int .u64 h3, .int .u64 h4, .int .u64 h5] 118 (0, 0))) := Lib.hid ((Below.heap_alloc _ _ _ (by simp)).trans (alloc_at rfl))
  have B1 : Hid (((w.alloc (.cells #[.int .u64 g, .int .u64 h2, .int .u64 h3, .int .u64 h4, .int .u64 h5] 118)).alloc (.cells (madeCells #[.int .u8 0] z) 5)).heap[w.heap.size + 1]? = some (.cells (madeCells #[.int .u8 0] z) 5 (0, 0))) := Lib.hid (alloc_at (by simp))
  go_enter Try.func73, Try.ntmps73
  go_wp2_with fail
  generalize (w.alloc (.cells #[.int .u64 g, .int .u64 h2, .int .u64 h3, .int .u64 h4, .int .u64 h5] 118)).alloc (.cells (madeCells #[.int .u8 0] z) 5) = W0 at M0 B0 B1 ⊢
  obtain ⟨gh, hgh⟩ : ∃ x, x = w.heap.size := ⟨_, rfl⟩
  rw [← hgh] at B0 B1 ⊢
  have HGH : Hid (w.heap.size ≤ gh) := Lib.hid (by omega)
  clear hgh e3 e4 c0 c1 c3 c4 hmk
  refine (HNB.out W0).mono ?_
  rintro e w1 ⟨kn, rfl, hkn, hbn, hm1⟩
  have HBN := Lib.hid hbn
  have HM1 := Lib.hid hm1
  have HV0 : Hid (BRow w1 (fun q => w.heap.size ≤ q) (.slice (some ⟨gh + 1, 0, none⟩) z z) (headN z ⟨g, h2, h3, h4, h5⟩ 0)) := Lib.hid (by
    have hb := (hm1.block _ (lt_of_block B1.out) (fun e => e)).trans B1.out
    have hl : (headN z ⟨g, h2, h3, h4, h5⟩ 0).length = z := headN_len _ _ _
    refine ⟨⟨some ⟨gh + 1, 0, none⟩, z, by rw [List.length_map, hl], by rw [List.length_map, hl]; exact Nat.le_refl _, fun _ => ⟨gh + 1, 0, rfl, by have := HGH.out; omega, lt_of_block hb, fun q u hu => ?_⟩⟩, headN_byte _ _ _, by rw [hl]; have := HZ.out; omega⟩
    have e : (headN z ⟨g, h2, h3, h4, h5⟩ 0).map (fun x => Value.int .u8 x) = (madeCells #[.int .u8 0] z).toList := by rw [Pl.madeB]; rfl
    rw [e] at hu
    simp only [World.cell?, hb, Nat.zero_add, Option.isSome_none, Bool.false_eq_true, if_false]
    rw [← Array.getElem?_toList]
    exact hu)
  clear hkn hbn hm1
  go_wp2_with fail
  go_loopg [5, 25] 6 (fun gg s5 s25 wr' => ∃ (i : Nat) (v : Value), i ≤ 6 ∧ gg = 6 - i ∧ v = s5 ∧ s25 = .int .i64 i ∧ Hid (BRow wr' (fun q => w.heap.size ≤ q) v (headN z ⟨g, h2, h3, h4, h5⟩ i) ∧ Moves (fun _ => False) w1 wr'))
  case atStart => exact ⟨0, _, Nat.zero_le _, rfl, rfl, rfl, Lib.hid ⟨HV0.out, Moves.refl _ _⟩⟩
  case round =>
    obtain ⟨i, v, hi, hgg, rfl, rfl, HI⟩ := hrel
    have d0 : (0 : Int) ≤ (i : Int) := by omega
    by_cases hi6 : i < 6
    · have d1 : (i : Int) < 6 := by omega
      have hc := num_cell (h := ⟨g, h2, h3, h4, h5⟩) ((HI.out.2.block _ (lt_of_block HBN.out) (fun e => e)).trans HBN.out) hi6
      have hgl : 8 * i + 8 ≤ (headN z ⟨g, h2, h3, h4, h5⟩ i).length := by rw [headN_len]; have := HZ.out; omega
      have hp := put_ok HI.out.1 (p := 8 * i) (n := 8) (by omega) (by omega) hgl ((numsL ⟨g, h2, h3, h4, h5⟩).getD i 0)
      have e8 : ((8 * i : Nat) : Int) = 8 * (i : Int) := by omega
      rw [e8] at hp
      have HPP := Lib.hid hp
      have H6 := Lib.hid hi6
      have HGG := Lib.hid hgg
      clear hp e8 hgl hi6 hgg
      go_wp2_with fail
      refine HPP.out.mono ?_
      rintro e w5 ⟨v5, rfl, hnew⟩
      have HF : Hid (BRow w5 (fun q => w.heap.size ≤ q) v5 (headN z ⟨g, h2, h3, h4, h5⟩ (i + 1)) ∧ Moves (fun _ => False) w1 w5) := Lib.hid (by
        have h1 := hnew.row (headN_byte z ⟨g, h2, h3, h4, h5⟩ (i + 1)) (by show (headN z ⟨g, h2, h3, h4, h5⟩ (i + 1)).length ≤ _; rw [headN_len]; have := HZ.out; omega)
        obtain ⟨⟨A, c, hv, hc9, hx⟩, q1, q2⟩ := h1
        refine ⟨⟨⟨A, c, hv, hc9, fun h0 => ?_⟩, q1, q2⟩, HI.out.2.trans hnew.2⟩
        obtain ⟨g9, o9, hA, hg9, h3', h4'⟩ := hx h0
        exact ⟨g9, o9, hA, by have e1 := HI.out.2.size; have e2 := HM1.out.size; have e3 := M0.out.size; omega, h3', h4'⟩)
      clear hnew hc
      go_wp2_with fail
      go_roundg (6 - (i + 1))
      case measure => have := H6.out; have := HGG.out; omega
      case rel => exact ⟨i + 1, v5, by have := H6.out; omega, rfl, rfl, by go_num, HF⟩
    · have d1 : ¬ (i : Int) < 6 := by omega
      obtain rfl : i = 6 := by omega
      have HW := Lib.hid ((M0.out.trans HM1.out).trans HI.out.2)
      have HRW := Lib.hid (HR.out.moves0 HW.out)
      have hbh := (HI.out.2.block _ (by have := lt_of_block B0.out; have := HM1.out.size; omega) (fun e => e)).trans ((HM1.out.block _ (lt_of_block B0.out) (fun e => e)).trans B0.out)
      have HBH := Lib.hid hbh
      obtain ⟨y0, y1, y2, y3, y4⟩ := cells5 hbh
      obtain ⟨c0, c1, -, c3, c4, -⟩ := HRW.out.rb.cells
      have han : wrap64 (bits .and .u64 g 1) = g % 2 := and_one HG0.out.1 HG0.out.2
      have hrow := HI.out.1
      rw [HB6.out] at hrow
      have HROW := Lib.hid hrow
      clear hrow
      clear hbh d0 d1
      have HWT : Hid (∀ W, Moves (fun _ => False) wr W → Calls Try.prog 59 #[.pointer (some ⟨d, 0, none⟩), .int .i64 ((s : Int) + g % 2), v] W (DPost W base d (Pl.putS (calmS z K false l k ws) ((s + (g % 2).toNat : Nat) : Int) B) (.int .i64 0))) := Lib.hid (fun W hW => by
        have h9 := Pl.write_ok (HRW.out.dk.moves0 hW) rfl rfl (i := ((s + (g % 2).toNat : Nat) : Int)) (by unfold Pl.inS calmS; have := HP.out.1; simp; omega) (HROW.out.1.moves hW (fun _ _ _ e => e)) HBL.out (by show 0 < z; have := HZ.out; omega) (by show z ≤ 1000000; have := HZ.out; omega) (by show 0 < 1000000; decide) HWR.out
        rw [HP.out.2.1] at h9
        rw [HP.out.2.1]
        exact h9)
      have han2 : IntKind.i64.wrap (bits .and .u64 g 1) = g % 2 := (i64_64 _).trans han
      have hsg : IntKind.i64.wrap ((s : Int) + g % 2) = (s : Int) + g % 2 := IntWalk.i64_in _ (by have := HP.out.2.2.1; omega)
      have HKK : Hid (∀ W, DMv wr d W → RingAt W base d r s n z (calmS z K false l k ws) h lv vals L → W.cell? ⟨r, 0, none⟩ = some (.pointer (some ⟨d, 0, none⟩)) ∧ W.cell? ⟨r, 1, none⟩ = some (.int .i64 s) ∧ W.cell? ⟨gh, 0, none⟩ = some (.int .u64 g)) := Lib.hid (fun W hW hR => ⟨hR.rb.cells.1, hR.rb.cells.2.1, (hW.mv.cell (p := ⟨gh, 0, none⟩) (lt_of_block HBH.out) (HRW.out.dk.apart HBH.out (by decide) (by decide))).trans y0⟩)
      have hK0 : wr.cell? ⟨r, 0, none⟩ = some (.pointer (some ⟨d, 0, none⟩)) ∧ wr.cell? ⟨r, 1, none⟩ = some (.int .i64 s) ∧ wr.cell? ⟨gh, 0, none⟩ = some (.int .u64 g) := ⟨c0, c1, y0⟩
      have hK1 : wr.drew.cell? ⟨r, 0, none⟩ = some (.pointer (some ⟨d, 0, none⟩)) ∧ wr.drew.cell? ⟨r, 1, none⟩ = some (.int .i64 s) ∧ wr.drew.cell? ⟨gh, 0, none⟩ = some (.int .u64 g) := ⟨c0, c1, y0⟩
      have HMD := Lib.hid (Moves.refl (fun _ => False) wr).drew
      go_wp2_with fail
      go_region_held3 (fun w' => w'.cell? ⟨r, 0, none⟩ = some (.pointer (some ⟨d, 0, none⟩)) ∧ w'.cell? ⟨r, 1, none⟩ = some (.int .i64 s) ∧ w'.cell? ⟨gh, 0, none⟩ = some (.int .u64 g))
        (first | with_reducible exact hS' | with_reducible exact hK0 | with_reducible exact hK1 | assumption)
        (first
          | (go_at_call 59
             refine (HWT.out _ HMD.out).mono ?_
             rintro e w7 ⟨rfl, hd7, hv7, hv7'⟩
             have HR7 := Lib.hid ((HRW.out.moves0 HMD.out).disk hd7 ⟨hv7, hv7'⟩)
             have HV7 := Lib.hid ((rmv_of0 HRW.out HMD.out).trans (rmv_disk (r := r) (lv := lv) ⟨hv7, hv7'⟩))
             have HBH7 := Lib.hid ((hv7.block _ (lt_of_block HBH.out) ((HRW.out.moves0 HMD.out).dk.apart HBH.out (by decide) (by decide))).trans HBH.out)
             have hS' : w7.cell? ⟨r, 0, none⟩ = some (.pointer (some ⟨d, 0, none⟩)) ∧ w7.cell? ⟨r, 1, none⟩ = some (.int .i64 s) ∧ w7.cell? ⟨gh, 0, none⟩ = some (.int .u64 g) := ⟨HR7.out.rb.cells.1, HR7.out.rb.cells.2.1, (cells5 HBH7.out).1⟩
             clear hd7 hv7 hv7')
          | fail)
      all_goals
        obtain ⟨g0, g1, g2⟩ := hS'
        clear hK0 hK1 c0 c1 c3 c4 y0 y1 y2 y3 y4 han han2 hsg
        have HSY : Hid (Calls Try.prog 58 #[.pointer (some ⟨d, 0, none⟩)] w7 (DPost w7 base d (calmS z (K.set (s + (g % 2).toNat) B) false l k (ws + 1)) (.int .i64 0))) := Lib.hid (by
          have h := Pl.sync_on HR7.out.dk rfl
          rw [calm_put_settle, Int.toNat_natCast] at h
          exact h)
        go_wp2_with fail
        refine HSY.out.mono ?_
        rintro e w8 ⟨rfl, hd8, hv8, hv8'⟩
        have HR8 := Lib.hid (HR7.out.disk hd8 ⟨hv8, hv8'⟩)
        have HV8 := Lib.hid (HV7.out.trans (rmv_disk (r := r) (lv := lv) ⟨hv8, hv8'⟩))
        have hb8 := (hv8.block _ (lt_of_block HBH7.out) (HR7.out.dk.apart HBH7.out (by decide) (by decide))).trans HBH7.out
        obtain ⟨y0, y1, y2, y3, y4⟩ := cells5 hb8
        have hfr := HR8.out.rb.fr
        have f4 := hfr 4
        have f5 := hfr 5
        have f6 := hfr 6
        have f7 := hfr 7
        have f8 := hfr 8
        obtain ⟨-, -, -, -, c4, c5, c6, c7, c8, -⟩ := HR8.out.rb.cells
        clear hd8 hv8 hv8' hb8 hfr g0 g1 g2
        go_wp2
        rw [← HQE.out]
        exact ⟨rfl, HR8.out.head ⟨g, h2, h3, h4, h5⟩, ((rmv_of0 HR.out HW.out).trans HV8.out).trans (rmv_r HR8.out (put5_moves w8 r ⟨g, h2, h3, h4, h5⟩))⟩
end Go.Proofs.Ytnagpianaghjeaa.Rg
namespace Go.Proofs.Ytnagpianaghjeaa.Rg
open Go Go.RowKit Go.Proofs Go.Proofs.Ytnagpianaghjeaa.Sl
open Pl (DS IsDisk DOwn DPost DMv DKeep Clear DiskAt All2)

/-- What Open answers at a place that may be. -/
def OpenPost (w : World) (base d s n z : Nat) (D : DS) (o : Option (Hd × List (List Int))) (e : Ending) (w' : World) : Prop :=
  match o with
  | none => e = .returned (.tuple #[.pointer none, .int .i64 2]) ∧ Moves (fun _ => False) w w'
  | some (h, L) => ∃ r lv vals, e = .returned (.tuple #[.pointer (some ⟨r, 0, none⟩), .int .i64 0]) ∧ w.heap.size ≤ r ∧ RingAt w' base d r s n z D h lv vals L ∧ (∀ k, lv.ownBlock = some k → w.heap.size ≤ k) ∧ Moves (fun _ => False) w w'
theorem newest_some {a : Nat} {s0 s1 : List Int} {h : Hd} (b0 : ∀ x ∈ s0, 0 ≤ x ∧ x < 256) (b1 : ∀ x ∈ s1, 0 ≤ x ∧ x < 256) (e : newestH a s0 s1 = some h) : WfH h ∧ h.start < a ∧ h.used ≤ a ∧ h.count ≤ h.used := by
  unfold newestH at e
  by_cases c1 : okS a 1 s1 ∧ (¬ okS a 0 s0 ∨ newerH (hdS s1) (hdS s0))
  · rw [if_pos c1] at e
    cases e
    exact ⟨hdS_wf b1, c1.1.2.2.2.1, c1.1.2.2.2.2.1, c1.1.2.2.2.2.2⟩
  · rw [if_neg c1] at e
    by_cases c0 : okS a 0 s0
    · rw [if_pos c0] at e
      cases e
      exact ⟨hdS_wf b0, c0.2.2.2.1, c0.2.2.2.2.1, c0.2.2.2.2.2⟩
    · rw [if_neg c0] at e
      cases e
theorem RingAt.of {w : World} {base d r s n z : Nat} {D : DS} {h : Hd} (hb : RingB w r d s n z h (.slice none 0 0)) (hD : IsDisk w base d D) (hr : base ≤ r) : RingAt w base d r s n z D h (.slice none 0 0) [] [] :=
  ⟨hb, hD, hr, World.ownsRow_nil _ _ _ _, (fun k e => by cases e), All2.nil _⟩
set_option maxRecDepth 100000 in
set_option maxHeartbeats 4000000 in
theorem ropen_ok {w : World} {base d s n z : Nat} {K : List (List Int)} {a : Bool} {l : Int} {k : List Bool} {wr : Int} (hD : IsDisk w base d (calmS z K a l k wr)) (hn : 8 ≤ n) (hz : 64 ≤ z ∧ z ≤ 100000) (hs : s + n ≤ K.length) (hm : K.length ≤ 16384)
    (hK : ∀ i, i < K.length → (K.getD i []).length = z ∧ ∀ x ∈ K.getD i [], 0 ≤ x ∧ x < 256) {o : Option (Hd × List (List Int))} (ho : openN K s n z = o) :
    Calls Try.prog 37 #[.pointer (some ⟨d, 0, none⟩), .int .i64 s, .int .i64 n] w (OpenPost w base d s n z (calmS z K a l k wr) o) := by
  have hdl := hD.lt
  have hbd := hD.low d (.inl rfl)
  have HON := Lib.hid (ron_ok hD rfl (s := s) (n := n) (m := K.length) (z := z) rfl rfl hn hs hm)
  have h0 := hK s (by omega)
  have h1 := hK (s + 1) (by omega)
  have HNW : Hid (∀ W r, RingB W r d s n z hd0 (.slice none 0 0) → Moves (fun _ => False) w W → Calls Try.prog 72 #[.pointer (some ⟨r, 0, none⟩)] W (NewestPost W base d r s n z (.slice none 0 0) (calmS z K a l k wr) hd0 (newestH (n - 2) (K.getD s []) (K.getD (s + 1) [])))) := Lib.hid (fun W r hb hW => newest_any (hD.moves0 hW) hb ⟨hn, by omega⟩ ⟨hz.1, by omega⟩ hs (by omega) rfl rfl h0.2 h1.2 h0.1 h1.1)
  have HSM : Hid (∀ h, newestH (n - 2) (K.getD s []) (K.getD (s + 1) []) = some h → WfH h ∧ h.start < ((n - 2 : Nat) : Int) ∧ h.used ≤ ((n - 2 : Nat) : Int) ∧ h.count ≤ h.used) := Lib.hid (fun h e => newest_some h0.2 h1.2 e)
  have HLD : Hid (∀ W r gen first (c t u : Nat), RingAt W base d r s n z (calmS z K a l k wr) ⟨gen, first, c, t, u⟩ (.slice none 0 0) [] [] → t < n - 2 → u ≤ n - 2 → c ≤ u → Calls Try.prog 80 #[.pointer (some ⟨r, 0, none⟩)] W (LoadPost W base d r s n z (calmS z K a l k wr) ⟨gen, first, c, t, u⟩ (loadN (secF K s (n - 2) t) z u c 0 []))) := Lib.hid (fun W r gen first c t u hR ht hu hc => load_any hR ⟨hn, by omega⟩ hz hs (by omega) ht hu hc (fun q hq => hK _ (by omega)) rfl)
  have HB : Hid (base ≤ w.heap.size) := Lib.hid (by omega)
  unfold openN at ho
  generalize newestH (n - 2) (K.getD s []) (K.getD (s + 1) []) = nw at HNW HSM ho
  generalize calmS z K a l k wr = D at HON HNW HLD ⊢
  have HO := Lib.hid ho
  clear hD hn hz hs hm hK ho h0 h1 hdl hbd
  have HQ : Hid (∀ e w', OpenPost w base d s n z D o e w' → OpenPost w base d s n z D o e w') := Lib.hid fun _ _ q => q
  generalize hQ : OpenPost w base d s n z D o = Q
  have HQE := Lib.hid hQ
  clear hQ
  go_enter Try.func37, Try.ntmps37
  go_wp2_with fail
  refine HON.out.mono ?_
  rintro e w1 ⟨r, rfl, hr, hb1, hm1⟩
  have HM1 := Lib.hid hm1
  have HRR := Lib.hid hr
  go_wp2_with fail
  refine (HNW.out w1 r hb1 hm1).mono ?_
  rintro e w2 ⟨rfl, hst⟩
  clear hb1 hm1 hr
  have HST := Lib.hid hst
  clear hst
  have HM2 : Hid (Moves (fun _ => False) w w2) := Lib.hid (HM1.out.andThen HST.out.2.2 (fun i e hi => by have := HRR.out; omega))
  cases nw with
  | none =>
    go_wp2
    rw [← HQE.out]
    obtain rfl : o = none := HO.out.symm
    exact ⟨rfl, HM2.out⟩
  | some h =>
    obtain ⟨hwf, k1, k2, k3⟩ := HSM.out h rfl
    obtain ⟨gen, first, count, start, used⟩ := h
    obtain ⟨-, -, w3, w4, w5⟩ := hwf
    dsimp only at k1 k2 k3 w3 w4 w5
    obtain ⟨c, rfl⟩ : ∃ c : Nat, count = c := ⟨count.toNat, by omega⟩
    obtain ⟨t, rfl⟩ : ∃ t : Nat, start = t := ⟨start.toNat, by omega⟩
    obtain ⟨u, rfl⟩ : ∃ u : Nat, used = u := ⟨used.toNat, by omega⟩
    have hRA : RingAt w2 base d r s n z D ⟨gen, first, c, t, u⟩ (.slice none 0 0) [] [] := RingAt.of HST.out.1 HST.out.2.1 (Nat.le_trans HB.out HRR.out)
    have HLL := Lib.hid (HLD.out w2 r gen first c t u hRA (by omega) (by omega) (by omega))
    have ho := HO.out
    dsimp only at ho
    rw [Int.toNat_natCast, Int.toNat_natCast, Int.toNat_natCast] at ho
    generalize loadN (secF K s (n - 2) t) z u c 0 [] = ol at HLL ho
    have HOL := Lib.hid ho
    clear ho hRA k1 k2 k3 w3 w4 w5
    go_wp2_with fail
    refine HLL.out.mono ?_
    rintro e w6 ⟨rfl, hm6, hd6, hL6⟩
    have HM6 : Hid (Moves (fun _ => False) w w6) := Lib.hid (HM2.out.andThen hm6 (fun i e hi => by have := HRR.out; omega))
    have HM26 := Lib.hid hm6
    cases ol with
    | none =>
      go_wp2
      rw [← HQE.out]
      obtain rfl : o = none := HOL.out.symm
      exact ⟨rfl, HM6.out⟩
    | some L =>
      obtain ⟨lv, vals, hR, -, how⟩ := hL6 L rfl
      have HR := Lib.hid hR
      have HOW := Lib.hid how
      clear hR how hL6 hd6
      go_wp2
      rw [← HQE.out]
      obtain rfl : o = some (⟨gen, first, c, t, u⟩, L) := HOL.out.symm
      exact ⟨r, lv, vals, rfl, HRR.out, HR.out, fun k e => Nat.le_trans HM2.out.size (HOW.out k e), HM6.out⟩
set_option maxRecDepth 100000 in
set_option maxHeartbeats 2000000 in
theorem ropen_bad {w : World} {base d : Nat} {S : DS} (hD : IsDisk w base d S) {s n : Int} (hb : s < 0 ∨ n < 8 ∨ (S.kept.length : Int) < n ∨ (S.kept.length : Int) - n < s) (hm : S.kept.length ≤ 16384) : Calls Try.prog 37 #[.pointer (some ⟨d, 0, none⟩), .int .i64 s, .int .i64 n] w (MovV w (.tuple #[.pointer none, .int .i64 1])) := by
  have HON := Lib.hid (ron_bad hD hb hm)
  clear hD hb hm
  go_enter Try.func37, Try.ntmps37
  go_wp2_with fail
  refine HON.out.mono ?_
  rintro e w1 ⟨rfl, hm1⟩
  go_wp2
  go_ret2
  exact ⟨rfl, hm1⟩
end Go.Proofs.Ytnagpianaghjeaa.Rg
namespace Go.Proofs.Ytnagpianaghjeaa.Rg
open Go Go.RowKit Go.Proofs Go.Proofs.Ytnagpianaghjeaa.Sl
open Pl (DS IsDisk DOwn DPost DMv DKeep Clear DiskAt All2)

/-- What a call on a log made since has turned of what was there: the disk's blocks. -/
theorem dmv_new {w w2 w3 : World} {r d : Nat} {lv lv' : Value} (hd : d < w.heap.size) (h2 : Moves (fun _ => False) w w2) (h3 : RMv w2 r d lv w3 lv') (hr : w.heap.size ≤ r) (hl : ∀ k, lv.ownBlock = some k → w.heap.size ≤ k) : DMv w d w3 := by
  have e : w2.heap[d]? = w.heap[d]? := h2.block d hd (fun e => e)
  refine ⟨(h2.none (DOwn w d)).andThen h3.mv (fun i hi hlt => ?_), fun k hk => ?_⟩
  · rcases hi with q | q | q
    · omega
    · have := hl i q; omega
    · exact (down_same e i).1 q
  · rcases h3.kp k (.inr (.inr hk)) with q | q
    · rcases q with q | q | q
      · exact .inr (by omega)
      · exact .inr (hl k q)
      · exact .inl ((down_same e k).1 q)
    · have := h2.size; exact .inr (by omega)
def FormatPost (w : World) (base d s n z : Nat) (D : DS) (h : Hd) (e : Ending) (w' : World) : Prop := ∃ r, e = .returned (.tuple #[.pointer (some ⟨r, 0, none⟩), .int .i64 0]) ∧ w.heap.size ≤ r ∧ RingAt w' base d r s n z D h (.slice none 0 0) [] [] ∧ DMv w d w'
set_option maxRecDepth 100000 in
set_option maxHeartbeats 4000000 in
theorem rformat_ok {w : World} {base d s n z : Nat} {K : List (List Int)} {l : Int} {k : List Bool} {ws : Int} (hD : IsDisk w base d (calmS z K false l k ws)) (hn : 8 ≤ n) (hz : 64 ≤ z ∧ z ≤ 100000) (hs : s + n ≤ K.length) (hm : K.length ≤ 16384) (hws : 0 ≤ ws ∧ ws ≤ 1000000000)
    (hK : ∀ i, i < K.length → (K.getD i []).length = z ∧ ∀ x ∈ K.getD i [], 0 ≤ x ∧ x < 256) {o : Option Hd} (ho : newestH (n - 2) (K.getD s []) (K.getD (s + 1) []) = o) {g : Int} (hg : IntKind.u64.wrap ((o.getD hd0).gen + 1) = g) :
    Calls Try.prog 29 #[.pointer (some ⟨d, 0, none⟩), .int .i64 s, .int .i64 n] w (FormatPost w base d s n z (calmS z (K.set (s + (g % 2).toNat) (headB z ⟨g, 1, 0, 0, 0⟩)) false l k (ws + 1)) ⟨g, 1, 0, 0, 0⟩) := by
  have hdl := hD.lt
  have hbd := hD.low d (.inl rfl)
  have HON := Lib.hid (ron_ok hD rfl (s := s) (n := n) (m := K.length) (z := z) rfl rfl hn hs hm)
  have h0 := hK s (by omega)
  have h1 := hK (s + 1) (by omega)
  have HNW : Hid (∀ W r, RingB W r d s n z hd0 (.slice none 0 0) → Moves (fun _ => False) w W → Calls Try.prog 72 #[.pointer (some ⟨r, 0, none⟩)] W (NewestPost W base d r s n z (.slice none 0 0) (calmS z K false l k ws) hd0 o)) := Lib.hid (fun W r hb hW => by
    have := newest_any (hD.moves0 hW) hb ⟨hn, by omega⟩ ⟨hz.1, by omega⟩ hs (by omega) rfl rfl h0.2 h1.2 h0.1 h1.1
    rw [ho] at this
    exact this)
  have HPT : Hid (∀ W r, RingAt W base d r s n z (calmS z K false l k ws) (o.getD hd0) (.slice none 0 0) [] [] → Calls Try.prog 73 #[.pointer (some ⟨r, 0, none⟩), .agg #[.int .u64 0, .int .u64 1, .int .u64 0, .int .u64 0, .int .u64 0]] W (PutR W base d r s n z (calmS z (K.set (s + (g % 2).toNat) (headB z ⟨g, 1, 0, 0, 0⟩)) false l k (ws + 1)) ⟨g, 1, 0, 0, 0⟩ (.slice none 0 0) [] [])) := Lib.hid (fun W r hR => rput_ok hR hz hs hn hm hws ⟨0, 1, 0, 0, 0⟩ hg)
  have HB : Hid (base ≤ w.heap.size ∧ d < w.heap.size) := Lib.hid (by omega)
  generalize calmS z (K.set (s + (g % 2).toNat) (headB z ⟨g, 1, 0, 0, 0⟩)) false l k (ws + 1) = D' at HPT ⊢
  generalize calmS z K false l k ws = D at HON HNW HPT
  clear hD hn hz hs hm hK ho h0 h1 hdl hbd hws hg
  generalize hQ : FormatPost w base d s n z D' ⟨g, 1, 0, 0, 0⟩ = Q
  have HQE := Lib.hid hQ
  clear hQ
  go_enter Try.func29, Try.ntmps29
  go_wp2_with fail
  refine HON.out.mono ?_
  rintro e w1 ⟨r, rfl, hr, hb1, hm1⟩
  have HM1 := Lib.hid hm1
  have HRR := Lib.hid hr
  go_wp2_with fail
  refine (HNW.out w1 r hb1 hm1).mono ?_
  rintro e w2 ⟨rfl, hst⟩
  clear hb1 hm1 hr
  have HST := Lib.hid hst
  clear hst
  have HM2 : Hid (Moves (fun _ => False) w w2) := Lib.hid (HM1.out.andThen HST.out.2.2 (fun i e hi => by have := HRR.out; omega))
  have hRA : RingAt w2 base d r s n z D (o.getD hd0) (.slice none 0 0) [] [] := RingAt.of HST.out.1 HST.out.2.1 (Nat.le_trans HB.out.1 HRR.out)
  have HPP := Lib.hid (HPT.out w2 r hRA)
  clear hRA
  go_wp2_with fail
  refine HPP.out.mono ?_
  rintro e w3 ⟨rfl, hR3, hv3⟩
  have HR3 := Lib.hid hR3
  have HV3 := Lib.hid hv3
  clear hR3 hv3
  go_wp2
  rw [← HQE.out]
  exact ⟨r, rfl, HRR.out, HR3.out, dmv_new HB.out.2 HM2.out HV3.out HRR.out (fun k e => by cases e)⟩
end Go.Proofs.Ytnagpianaghjeaa.Rg
namespace Go.Proofs.Ytnagpianaghjeaa.Rg
open Go Go.RowKit Go.Proofs Go.Proofs.Ytnagpianaghjeaa.Sl
open Pl (DS IsDisk DOwn DPost DMv DKeep Clear DiskAt All2 putN putN_succ sF putS settleS)

/-- A record's sectors, one behind the other. -/
def recB (z : Nat) (bs : List Int) : List Int := putL (List.replicate 4 0 ++ bs ++ List.replicate (needN z bs.length * z - 4 - bs.length) 0) 0 4 bs.length
theorem recB_len {z : Nat} (hz : 1 ≤ z) (bs : List Int) : (recB z bs).length = needN z bs.length * z := by
  have h := needN_room (x := bs.length) hz
  unfold recB
  rw [putL_len, List.length_append, List.length_append, List.length_replicate, List.length_replicate]
  omega
theorem recB_byte (z : Nat) {bs : List Int} (hb : ∀ x ∈ bs, 0 ≤ x ∧ x < 256) : ∀ x ∈ recB z bs, 0 ≤ x ∧ x < 256 := by
  unfold recB
  refine putL_byte (fun x hx => ?_) _ _ _
  rcases List.mem_append.1 hx with h | h
  · rcases List.mem_append.1 h with h | h
    · rw [(List.mem_replicate.1 h).2]; exact ⟨by decide, by decide⟩
    · exact hb x h
  · rw [(List.mem_replicate.1 h).2]; exact ⟨by decide, by decide⟩
def chunkN (z : Nat) (x : List Int) (i : Nat) : List Int := (x.drop (i * z)).take z
def idxN (s a p i : Nat) : Nat := s + 2 + (p + i) % a
/-- So many sectors written, from a place of the area on. -/
def writeN (K : List (List Int)) (s a p z : Nat) (x : List Int) : Nat → List (List Int)
  | 0 => K
  | i + 1 => (writeN K s a p z x i).set (idxN s a p i) (chunkN z x i)
/-- They wait. -/
def pendD (D : DS) (s a p z : Nat) (x : List Int) : Nat → DS
  | 0 => D
  | i + 1 => putS (pendD D s a p z x i) ((idxN s a p i : Nat) : Int) (chunkN z x i)
theorem writeN_len (K : List (List Int)) (s a p z : Nat) (x : List Int) (i : Nat) : (writeN K s a p z x i).length = K.length := by
  induction i with
  | zero => rfl
  | succ i ih => unfold writeN; rw [List.length_set, ih]
theorem sF_app (ss : List Int) (x : Int) {i : Nat} (h : i < ss.length) : sF (ss ++ [x]) i = sF ss i := Pl.sF_append _ _ h
theorem putN_snoc (K : List (List Int)) (ss : List Int) (ds : List (List Int)) (x : Int) (b : List Int) (hl : ds.length = ss.length) {n : Nat} (hn : n ≤ ss.length) : putN K (ss ++ [x]) (ds ++ [b]) (fun _ => true) n = putN K ss ds (fun _ => true) n := by
  induction n with
  | zero => rfl
  | succ n ih =>
    rw [putN_succ, putN_succ, ih (by omega), sF_app ss x (by omega)]
    have e : (ds ++ [b]).getD n [] = ds.getD n [] := by
      rw [List.getD_eq_getElem?_getD, List.getD_eq_getElem?_getD, List.getElem?_append_left (by omega)]
    rw [e]
theorem putN_last (K : List (List Int)) (ss : List Int) (ds : List (List Int)) (x : Int) (b : List Int) (hl : ds.length = ss.length) : putN K (ss ++ [x]) (ds ++ [b]) (fun _ => true) (ss.length + 1) = (putN K ss ds (fun _ => true) ss.length).set x.toNat b := by
  rw [putN_succ, putN_snoc K ss ds x b hl (Nat.le_refl _)]
  have e1 : sF (ss ++ [x]) ss.length = x := Pl.sF_last ss x
  have e2 : (ds ++ [b]).getD ss.length [] = b := by rw [← hl, List.getD_eq_getElem?_getD, List.getElem?_append_right (Nat.le_refl _), Nat.sub_self]; rfl
  rw [e1, e2]
  rfl
structure PendAt (z : Nat) (K : List (List Int)) (l : Int) (k : List Bool) (ws : Int) (i : Nat) (K' : List (List Int)) (D : DS) : Prop where
  size : D.size = z
  kept : D.kept = K
  off : D.off = false
  armed : D.armed = false
  left : D.left = l
  keep : D.keep = k
  writes : D.writes = ws + i
  secs : D.secs.length = i
  data : D.data.length = i
  put : putN K D.secs D.data (fun _ => true) i = K'
theorem pend_at {z : Nat} {K : List (List Int)} {l : Int} {k : List Bool} {ws : Int} {s a p : Nat} {x : List Int} (i : Nat) : PendAt z K l k ws i (writeN K s a p z x i) (pendD (calmS z K false l k ws) s a p z x i) := by
  induction i with
  | zero => exact ⟨rfl, rfl, rfl, rfl, rfl, rfl, by show ws = ws + ((0 : Nat) : Int); omega, rfl, rfl, rfl⟩
  | succ i ih =>
    refine ⟨ih.size, ih.kept, ih.off, ih.armed, ih.left, ih.keep, ?_, ?_, ?_, ?_⟩
    · show (pendD (calmS z K false l k ws) s a p z x i).writes + 1 = _
      rw [ih.writes]; omega
    · show ((pendD (calmS z K false l k ws) s a p z x i).secs ++ [_]).length = _
      rw [List.length_append, ih.secs]; rfl
    · show ((pendD (calmS z K false l k ws) s a p z x i).data ++ [_]).length = _
      rw [List.length_append, ih.data]; rfl
    · show putN K ((pendD (calmS z K false l k ws) s a p z x i).secs ++ [((idxN s a p i : Nat) : Int)]) ((pendD (calmS z K false l k ws) s a p z x i).data ++ [chunkN z x i]) (fun _ => true) (i + 1) = _
      have h := putN_last K (pendD (calmS z K false l k ws) s a p z x i).secs (pendD (calmS z K false l k ws) s a p z x i).data ((idxN s a p i : Nat) : Int) (chunkN z x i) (by rw [ih.data, ih.secs])
      rw [ih.secs] at h
      rw [h, ih.put, Int.toNat_natCast]
      rfl
theorem settle_of {z : Nat} {K K' : List (List Int)} {l : Int} {k : List Bool} {ws : Int} {i : Nat} {D : DS} (h : PendAt z K l k ws i K' D) : settleS D (fun _ => true) = calmS z K' false l k (ws + i) := by
  obtain ⟨h1, h2, h3, h4, h5, h6, h7, h8, h9, h10⟩ := h
  unfold settleS calmS
  rw [h8, h2, h10, h1, h3, h4, h5, h6, h7]
end Go.Proofs.Ytnagpianaghjeaa.Rg
namespace Go.Proofs.Ytnagpianaghjeaa.Rg
open Go Go.RowKit Go.Proofs Go.Proofs.Ytnagpianaghjeaa.Sl
open Pl (DS IsDisk DOwn DPost DMv DKeep Clear DiskAt All2 infoBS)

/-- A row of zeros into which bytes are copied behind the fourth. -/
theorem splice_rec {N : Nat} {bs : List Int} (h : 4 + bs.length ≤ N) : splice ((List.replicate N (0 : Int)).map encX) 4 (bs.map encX) = (List.replicate 4 0 ++ bs ++ List.replicate (N - 4 - bs.length) 0).map encX := by
  unfold splice
  rw [List.length_map, ← List.map_take, ← List.map_drop, ← List.map_append, ← List.map_append, List.take_replicate, List.drop_replicate, Nat.min_eq_left (by omega), List.append_assoc, show N - (4 + bs.length) = N - 4 - bs.length by omega]
theorem brow_of_cells {w : World} {g N : Nat} {bs : List Int} {P : Nat → Prop} (hl : bs.length = N) (hg : w.heap[g]? = some (.cells (bs.map encX).toArray 5 (0, 0))) (hb : ∀ x ∈ bs, 0 ≤ x ∧ x < 256) (h6 : N ≤ 1000000) (hP : P g) : BRow w P (.slice (some ⟨g, 0, none⟩) N N) bs := by
  refine ⟨⟨some ⟨g, 0, none⟩, N, by rw [List.length_map, hl], by rw [List.length_map, hl]; exact Nat.le_refl _, fun _ => ⟨g, 0, rfl, hP, lt_of_block hg, fun j u hu => ?_⟩⟩, hb, by omega⟩
  simp only [World.cell?, hg, Nat.zero_add, Option.isSome_none, Bool.false_eq_true, if_false]
  rw [List.getElem?_toArray]
  exact hu
theorem rec_bytes {bs : List Int} (hb : ∀ x ∈ bs, 0 ≤ x ∧ x < 256) (m : Nat) : ∀ x ∈ List.replicate 4 (0 : Int) ++ bs ++ List.replicate m 0, 0 ≤ x ∧ x < 256 := fun x hx => by
  rcases List.mem_append.1 hx with h | h
  · rcases List.mem_append.1 h with h | h
    · rw [(List.mem_replicate.1 h).2]; exact ⟨by decide, by decide⟩
    · exact hb x h
  · rw [(List.mem_replicate.1 h).2]; exact ⟨by decide, by decide⟩
theorem sub_row2 {w : World} {gb ob cb a z : Nat} {bs : List Int} (hcell : ∀ q u, (bs.map fun y => Value.int .u8 y)[q]? = some u → w.cell? ⟨gb, ob + q, none⟩ = some u) (hlt : gb < w.heap.size) (hx : a + z ≤ bs.length) (hcb : bs.length ≤ cb) {P : Nat → Prop} (hP : P gb) :
    Row w P (.slice (some ⟨gb, ob + a, none⟩) z (cb - a)) (((bs.drop a).take z).map fun y => Value.int .u8 y) ∧ ((bs.drop a).take z).length = z := by
  have hl : ((bs.drop a).take z).length = z := by rw [List.length_take, List.length_drop]; omega
  refine ⟨⟨some ⟨gb, ob + a, none⟩, cb - a, by rw [List.length_map, hl], by rw [List.length_map, hl]; omega, fun _ => ⟨gb, ob + a, rfl, hP, hlt, fun q u hu => ?_⟩⟩, hl⟩
  have hq : q < z := by have := (List.getElem?_eq_some_iff.1 hu).1; rw [List.length_map, hl] at this; exact this
  have e : ob + a + q = ob + (a + q) := by omega
  rw [e]
  refine hcell (a + q) u ?_
  rw [List.getElem?_map] at hu ⊢
  rw [List.getElem?_take_of_lt hq, List.getElem?_drop] at hu
  exact hu
theorem mul_step {i kn z N : Nat} (h : i < kn) (hN : kn * z = N) : i * z + z ≤ N := by
  have h1 : (i + 1) * z ≤ kn * z := Nat.mul_le_mul_right z h
  rw [Nat.succ_mul] at h1
  omega
theorem u64n {x : Nat} (h : x ≤ 1000000) : IntKind.u64.wrap (x : Int) = (x : Int) := IntWalk.u64_in _ (by omega)
theorem i64n {x : Nat} (h : x ≤ 10000000) : IntKind.i64.wrap (x : Int) = (x : Int) := IntWalk.i64_in _ (by omega)
def AppPost (w : World) (base d r s n z : Nat) (D : DS) (h : Hd) (lv : Value) (L : List (List Int)) (num : Int) (e : Ending) (w' : World) : Prop := e = .returned (.tuple #[.int .u64 num, .int .i64 0]) ∧ ∃ lv' vals', RingAt w' base d r s n z D h lv' vals' L ∧ RMv w r d lv w' lv'
set_option maxRecDepth 100000 in
set_option maxHeartbeats 8000000 in
theorem rappend_ok {w : World} {base d r s n z t u kn : Nat} {K : List (List Int)} {l : Int} {k : List Bool} {ws gen first count g c2 num : Int} {lv v : Value} {vals : List Value} {L : List (List Int)} {bs : List Int} (H : RingAt w base d r s n z (calmS z K false l k ws) ⟨gen, first, count, t, u⟩ lv vals L) (hv : BRow w (fun q => ¬ ROwn w r d lv q) v bs) (hlen : bs.length ≤ 4096) (hroom : (bs.length : Int) ≤ roomN n z u) (hkn : needN z bs.length = kn) (hun : u + kn ≤ n - 2) (ht : t < n - 2)
    (hz : 64 ≤ z ∧ z ≤ 100000) (hs : s + n ≤ K.length) (hn : 8 ≤ n) (hm : K.length ≤ 16384) (hws : 0 ≤ ws ∧ ws ≤ 100000000) (hL : L.length ≤ 100000) (hg : IntKind.u64.wrap (gen + 1) = g) (hc : IntKind.u64.wrap (count + 1) = c2) (hnum : IntKind.u64.wrap (IntKind.u64.wrap (first + (L.length + 1 : Nat)) - 1) = num) {K1 : List (List Int)} (hK1 : writeN K s (n - 2) (t + u) z (recB z bs) kn = K1) :
    Calls Try.prog 32 #[.pointer (some ⟨r, 0, none⟩), v] w (AppPost w base d r s n z (calmS z (K1.set (s + (g % 2).toNat) (headB z ⟨g, first, c2, t, (u + kn : Nat)⟩)) false l k (ws + kn + 1)) ⟨g, first, c2, t, (u + kn : Nat)⟩ lv (L ++ [bs]) num) := by
  have HGG := Lib.hid hg
  have HCC := Lib.hid hc
  have HNUM := Lib.hid hnum
  clear hg hc hnum
  have hnl := needN_le hz.1 hlen
  rw [hkn] at hnl
  have hkp : 1 ≤ kn := by rw [← hkn]; exact needN_pos (by omega)
  have hkr : bs.length + 4 ≤ kn * z := by rw [← hkn]; exact needN_room (by omega)
  have HROOM := Lib.hid (room_any H.rb ⟨hn, by omega⟩ hz.2 (by omega))
  have HOFF := Lib.hid (fun W (hW : Moves (fun _ => False) w W) => Pl.off_any (H.dk.moves0 hW))
  have HND := Lib.hid (fun W (hW : Moves (fun _ => False) w W) => need_any (H.rb.moves0 hW) ⟨by omega, by omega⟩ (x := bs.length) (by omega))
  rw [hkn] at HND
  have HKN := Lib.hid hkn
  have HR := Lib.hid H
  have HV := Lib.hid hv
  obtain ⟨hvr, hby, hbl⟩ := hv
  have HBY := Lib.hid hby
  obtain ⟨A, cv, rfl, hcv, hxv⟩ := hvr
  rw [List.length_map] at hcv hxv HV ⊢
  have HXV := Lib.hid hxv
  have HZ := Lib.hid hz
  have HNL : Hid (kn ≤ 66 ∧ kn * z ≤ bs.length + 4 + z ∧ 1 ≤ kn ∧ bs.length + 4 ≤ kn * z ∧ bs.length ≤ 4096 ∧ kn * z ≤ 1000000 ∧ 64 ≤ kn * z) := Lib.hid (by
    have h1 : 1 * z ≤ kn * z := Nat.mul_le_mul_right z hkp
    refine ⟨hnl.1, hnl.2, hkp, hkr, hlen, ?_, ?_⟩ <;> omega)
  have HAR : Hid (u + kn ≤ n - 2 ∧ t < n - 2 ∧ 8 ≤ n ∧ n ≤ 16384 ∧ s + n ≤ K.length ∧ K.length ≤ 16384) := Lib.hid (by omega)
  have HWS := Lib.hid hws
  have HLL := Lib.hid hL
  have HK1 := Lib.hid hK1
  have hRN : ¬ roomN n z u < (bs.length : Int) := by omega
  generalize roomN n z u = rm at HROOM hRN
  have b0 : (bs.length : Int) ≤ 4096 := by omega
  have b1 : (0 : Int) ≤ (bs.length : Int) := by omega
  generalize hN : kn * z = N at HNL
  have HNE := Lib.hid hN
  obtain ⟨i5, hi5, hp0, hp1, hp2⟩ := info_parts Pl.infoB
  have hN6 : N ≤ 1000000 := HNL.out.2.2.2.2.2.1
  have hmk := fun W => run_make_row (P := Try.prog) 55 5 i5 _ Try.underlying55 hi5 hp0 hp1 rfl .i64 .i64 N (by rw [hp2]; omega) (by omega) W
  have HWKZ : Hid (wrap64 ((kn : Int) * (z : Int)) = (N : Int)) := Lib.hid (by rw [← hN, Int.natCast_mul]; exact w64 (by have h2 : ((kn * z : Nat) : Int) = (kn : Int) * z := Int.natCast_mul _ _; omega) (by have h2 : ((kn * z : Nat) : Int) = (kn : Int) * z := Int.natCast_mul _ _; omega))
  have HC : Hid (∀ W, Moves (fun _ => False) w W → W.cell? ⟨r, 0, none⟩ = some (.pointer (some ⟨d, 0, none⟩)) ∧ W.cell? ⟨r, 3, none⟩ = some (.int .i64 z)) := Lib.hid (fun W hW => ⟨(H.rb.moves0 hW).cells.1, (H.rb.moves0 hW).cells.2.2.2.1⟩)
  have c0 := H.rb.cells.1
  have n4 : ¬ N = 4 := by have := HNL.out.2.2.2.2.2.2; omega
  have n4b : (4 : Int) ≤ (N : Int) := by have := HNL.out.2.2.2.2.2.2; omega
  generalize hQ : AppPost w base d r s n z (calmS z (K1.set (s + (g % 2).toNat) (headB z ⟨g, first, c2, t, (u + kn : Nat)⟩)) false l k (ws + kn + 1)) ⟨g, first, c2, t, (u + kn : Nat)⟩ lv (L ++ [bs]) num = Q
  have HQE := Lib.hid hQ
  clear hQ H hlen hroom hkn hun ht hz hs hn hm hws hL hK1 hby hbl hcv hxv hnl hkp hkr hN hN6
  go_enter Try.func32, Try.ntmps32
  go_wp2_with fail
  refine HROOM.out.mono ?_
  rintro e w1 ⟨rfl, hm1⟩
  obtain ⟨g0, g3⟩ := HC.out _ hm1
  have HM1 := Lib.hid hm1
  clear hm1 c0
  go_wp2_with fail
  refine (HOFF.out w1 HM1.out).mono ?_
  rintro e w1 ⟨rfl, rfl⟩
  go_wp2_with fail
  refine (HND.out _ HM1.out).mono ?_
  rintro e w2 ⟨rfl, hm2⟩
  have HM2 := Lib.hid (HM1.out.trans hm2)
  clear g0 g3 hm2
  obtain ⟨g0, g3⟩ := HC.out _ HM2.out
  have wkz := HWKZ.out
  obtain ⟨gx, hgx⟩ : ∃ x, x = w2.heap.size := ⟨_, rfl⟩
  have HGX := Lib.hid hgx
  clear hgx
  go_wp2_with (first
    | (refine wpList_copy_splice rfl (.tmp 42) (.tmp 43) 55 55 rfl 5 Try.underlying55 sizeX (some ⟨w2.heap.size, 4, none⟩) A (N - 4) (N - 4) bs.length cv rfl rfl w2.heap.size 4 ((List.replicate N (0 : Int)).map encX) 5 (by rw [← made_zero]; exact heap_alloc_new w2 _) (bs.map encX) ?_ ?_ ?_ ?_ w.heap.size w (((HM2.out.alloc _)).below (Nat.le_refl _) (fun _ _ e => e)) (by have := HM2.out.size; omega) ?_
       focus (rw [List.length_map]; exact (Nat.min_eq_left (by have := HNL.out; omega)).symm)
       focus
         intro hp
         obtain ⟨gs, os, hA, -, hgl, hcell⟩ := HXV.out (by rw [List.length_map] at hp; exact hp)
         refine ⟨rfl, _, hA, fun j u hu => ?_⟩
         have e1 : (⟨gs, os, none⟩ : Addr).add j = ⟨gs, os + j, none⟩ := by unfold Addr.add; split <;> simp_all
         rw [e1]
         exact ((HM2.out.alloc _).cell (p := ⟨gs, os + j, none⟩) hgl (fun e => e)).trans (hcell j u hu)
       focus (rw [List.length_map, List.length_map, List.length_replicate]; have := HNL.out; omega)
       focus (intro u hu; obtain ⟨y, _, rfl⟩ := List.mem_map.1 hu; rfl)
       intro w4 HG4 hB4
       have HB4 := Lib.hid hB4
       clear hB4)
    | fail)
  have HM4 : Hid (Moves (fun _ => False) w w4) := Lib.hid (Moves.of_below HB4.out)
  have HX4 : Hid (BRow w4 (fun q => w.heap.size ≤ q) (.slice (some ⟨w2.heap.size, 0, none⟩) N N) (List.replicate 4 0 ++ bs ++ List.replicate (N - 4 - bs.length) 0)) := Lib.hid (by
    have h := HG4.out
    have hq := HNL.out
    rw [splice_rec (by omega)] at h
    exact brow_of_cells (by rw [List.length_append, List.length_append, List.length_replicate, List.length_replicate]; omega) h (rec_bytes HBY.out _) (by omega) HM2.out.size)
  have HPT : Hid (Calls Try.prog 75 #[.slice (some ⟨w2.heap.size, 0, none⟩) N N, .int .i64 0, .int .i64 4, .int .u64 bs.length] w4 (PutPost w4 (recB z bs))) := Lib.hid (by
    have hq := HNL.out
    have h := put_ok HX4.out (p := 0) (n := 4) (by omega) (by omega) (by rw [List.length_append, List.length_append, List.length_replicate, List.length_replicate]; omega) (bs.length : Int)
    unfold recB
    rw [HKN.out, HNE.out]
    exact h)
  clear wkz g0 g3 hmk
  refine HPT.out.mono ?_
  rintro e w5 ⟨v5, rfl, hnew⟩
  have HM5 : Hid (Moves (fun _ => False) w w5) := Lib.hid (HM4.out.trans hnew.2)
  have HRL : Hid ((recB z bs).length = N ∧ ∀ x ∈ recB z bs, 0 ≤ x ∧ x < 256) := Lib.hid ⟨by rw [recB_len (by have := HZ.out; omega), HKN.out, HNE.out], recB_byte z HBY.out⟩
  have HX5 : Hid (BRow w5 (fun q => ¬ ROwn w5 r d lv q) v5 (recB z bs)) := Lib.hid (by
    have h := hnew.row HRL.out.2 (by show (recB z bs).length ≤ _; rw [HRL.out.1]; have := HNL.out; omega)
    obtain ⟨⟨A9, c9, hv9, hc9, hx9⟩, q1, q2⟩ := h
    refine ⟨⟨A9, c9, hv9, hc9, fun h0 => ?_⟩, q1, q2⟩
    obtain ⟨g9, o9, hA9, hg9, h3, h4⟩ := hx9 h0
    exact ⟨g9, o9, hA9, fun e => by have e1 := HR.out.lt (rown0 HR.out HM5.out e); have e2 := HM4.out.size; omega, h3, h4⟩)
  have HI0 : Hid (RingAt w5 base d r s n z (calmS z K false l k ws) ⟨gen, first, count, t, u⟩ lv vals L ∧ RMv w r d lv w5 lv) := Lib.hid ⟨HR.out.moves0 HM5.out, rmv_of0 HR.out HM5.out⟩
  clear hnew HX4 HPT HG4 HGX HB4 HM4
  obtain ⟨X, hX⟩ : ∃ X, recB z bs = X := ⟨_, rfl⟩
  rw [hX] at HRL HX5 HK1
  clear hX
  obtain ⟨A5, c5, rfl, -, -⟩ := HX5.out.1
  rw [List.length_map, HRL.out.1] at HX5 ⊢
  go_wp2_with fail
  go_loopg [54] kn (fun gg s54 wr => ∃ i : Nat, i ≤ kn ∧ gg = kn - i ∧ s54 = .int .i64 i ∧ Hid (RingAt wr base d r s n z (pendD (calmS z K false l k ws) s (n - 2) (t + u) z X i) ⟨gen, first, count, t, u⟩ lv vals L ∧ RMv w r d lv wr lv ∧ BRow wr (fun q => ¬ ROwn wr r d lv q) (.slice A5 N c5) X))
  case atStart => exact ⟨0, Nat.zero_le _, rfl, rfl, Lib.hid ⟨HI0.out.1, HI0.out.2, HX5.out⟩⟩
  case round =>
    obtain ⟨wr0, rfl⟩ : ∃ x, x = wr := ⟨wr, rfl⟩
    obtain ⟨i, hi, hgg, rfl, HI⟩ := hrel
    have d0 : (0 : Int) ≤ (i : Int) := by omega
    by_cases hik : i < kn
    · have d1 : (i : Int) < (kn : Int) := by omega
      have HIK : Hid (i < kn ∧ gk = kn - i) := Lib.hid ⟨hik, hgg⟩
      have d9 : (kn : Int) ≤ 66 := by have := HNL.out; omega
      have HPD := Lib.hid (pend_at (z := z) (K := K) (l := l) (k := k) (ws := ws) (s := s) (a := n - 2) (p := t + u) (x := X) i)
      have hA5 := HI.out.2.2.1
      obtain ⟨A6, c6, hv6, hc5, hx6⟩ := hA5
      rw [List.length_map, HRL.out.1] at hv6 hc5 hx6
      cases hv6
      obtain ⟨g5, o5, rfl, hg5, hgl5, hcell5⟩ := hx6 (by have := HNL.out; omega)
      obtain ⟨q, hq⟩ : ∃ q, (t + u + i) % (n - 2) = q := ⟨_, rfl⟩
      have HQQ := Lib.hid hq
      have hql : q < n - 2 := by rw [← hq]; exact Nat.mod_lt _ (by have := HAR.out; omega)
      obtain ⟨a0, ha0⟩ : ∃ a0, i * z = a0 := ⟨_, rfl⟩
      have hab : a0 + z ≤ N := by rw [← ha0]; exact mul_step hik HNE.out
      have HAB : Hid (a0 + z ≤ N ∧ N ≤ c5 ∧ q < n - 2 ∧ i * z = a0) := Lib.hid ⟨hab, hc5, hql, ha0⟩
      have HROW6 := Lib.hid (fun W (hW : Moves (fun _ => False) wr0 W) => (sub_row2 (w := W) (gb := g5) (ob := o5) (cb := c5) (a := a0) (z := z) (bs := X) (fun q' u' hu' => (hW.cell (p := ⟨g5, o5 + q', none⟩) hgl5 (fun e => e)).trans (hcell5 q' u' hu')) (by have := hW.size; omega) (by rw [HRL.out.1]; exact hab) (by rw [HRL.out.1]; exact hc5) (P := fun _ => True) trivial))
      have hidx : idxN s (n - 2) (t + u) i = s + 2 + q := by unfold idxN; rw [hq]
      have hchk : chunkN z X i = (X.drop a0).take z := by unfold chunkN; rw [ha0]
      have HWT : Hid (∀ W, Moves (fun _ => False) wr0 W → Calls Try.prog 59 #[.pointer (some ⟨d, 0, none⟩), .int .i64 ((s : Int) + 2 + (q : Int)), .slice (some ⟨g5, o5 + a0, none⟩) z (c5 - a0)] W (DPost W base d (pendD (calmS z K false l k ws) s (n - 2) (t + u) z X (i + 1)) (.int .i64 0))) := Lib.hid (fun W hW => by
        have hp := HPD.out
        have hr := HROW6.out W hW
        have har := HAR.out
        have hz2 := HZ.out
        have hw2 := HWS.out
        have hn2 := HNL.out
        have h9 := Pl.write_ok (HI.out.1.dk.moves0 hW) hp.off hp.armed (i := ((s + 2 + q : Nat) : Int)) (by unfold Pl.inS; rw [hp.kept]; simp; omega) hr.1 (by rw [hp.size]; exact hr.2) (by rw [hp.size]; omega) (by rw [hp.size]; omega) (by rw [hp.secs]; omega) (by rw [hp.writes]; omega)
        rw [← hchk, ← hidx] at h9
        have e : (((idxN s (n - 2) (t + u) i : Nat) : Int)) = (s : Int) + 2 + (q : Int) := by rw [hidx]; omega
        have h10 : Calls Try.prog 59 #[.pointer (some ⟨d, 0, none⟩), .int .i64 ((idxN s (n - 2) (t + u) i : Nat) : Int), .slice (some ⟨g5, o5 + a0, none⟩) z (c5 - a0)] W (DPost W base d (pendD (calmS z K false l k ws) s (n - 2) (t + u) z X (i + 1)) (.int .i64 0)) := h9
        rw [e] at h10
        exact h10)
      have HAREA := Lib.hid (fun W (hW : Moves (fun _ => False) wr0 W) => area_any (HI.out.1.rb.moves0 hW) ⟨HAR.out.2.2.1, HAR.out.2.2.2.1⟩)
      clear hx6 hcell5 hgl5 hg5 hq hql hab hc5 hidx hchk ha0 hik hgg hi
      have HNN : Hid (∀ w', KpS wr0 w' → KpS wr0 w' ∧ w'.cell? ⟨r, 7, none⟩ = some (.int .u64 t) ∧ w'.cell? ⟨r, 8, none⟩ = some (.int .u64 u)) := Lib.hid (fun w' hk => ⟨hk, hk.cell HI.out.1.rb.cells.2.2.2.2.2.2.2.1, hk.cell HI.out.1.rb.cells.2.2.2.2.2.2.2.2.1⟩)
      have hK0 := HNN.out _ (KpS.refl wr0)
      have hK1 := HNN.out wr0.drew (KpS.of (Moves.refl (fun _ => False) wr0).drew)
      have m0 : ¬ ((n - 2 : Nat) : Int) = 0 := by have := HAR.out; omega
      have m1 : (((n - 2 : Nat) : Int) == 0) = false := by simpa using m0
      have w1 : IntKind.u64.wrap ((n - 2 : Nat) : Int) = ((n - 2 : Nat) : Int) := u64n (by have := HAR.out; omega)
      have w2 : IntKind.u64.wrap ((t : Int) + (u : Int)) = (t : Int) + (u : Int) := by rw [← Int.natCast_add]; exact u64n (by have := HAR.out; omega)
      have w3 : IntKind.u64.wrap (i : Int) = (i : Int) := u64n (by have := HIK.out; have := HNL.out; omega)
      have w4' : IntKind.u64.wrap ((t : Int) + (u : Int) + (i : Int)) = (t : Int) + (u : Int) + (i : Int) := by rw [← Int.natCast_add, ← Int.natCast_add]; exact u64n (by have h1 := HIK.out; have h2 := HNL.out; have h3 := HAR.out; omega)
      have w5' : Int.tmod ((t : Int) + (u : Int) + (i : Int)) ((n - 2 : Nat) : Int) = (q : Int) := by rw [← HQQ.out, ← Int.natCast_add, ← Int.natCast_add]; exact (Int.ofNat_tmod _ _).symm
      have w6 : IntKind.u64.wrap (q : Int) = (q : Int) := u64n (by have h1 := HAB.out; have h3 := HAR.out; omega)
      generalize ((n - 2 : Nat) : Int) = mi at HAREA m0 m1 w1 w5'
      go_wp2_with fail
      go_cut [9] from 57 to 105 (fun s9 wc => s9 = .int .u64 q ∧ Hid (Moves (fun _ => False) wr0 wc))
      case first =>
        go_region_held3 (fun w' => KpS wr0 w' ∧ w'.cell? ⟨r, 7, none⟩ = some (.int .u64 t) ∧ w'.cell? ⟨r, 8, none⟩ = some (.int .u64 u))
          (first | with_reducible exact hK0 | with_reducible exact hK1 | assumption)
          (first
            | (go_at_call 76
               have hm : Moves (fun _ => False) wr0 wr0.drew := KpS.moves hK1.1
               refine (HAREA.out _ hm).mono ?_
               rintro e w7 ⟨rfl, rfl⟩)
            | fail)
        all_goals
          go_wp2_with fail
          go_meet
          case rel => exact ⟨rfl, Lib.hid (KpS.moves hK1.1)⟩
      case rest =>
        obtain ⟨rfl, HMC⟩ := hcut
        clear hK0 hK1 m0 m1 w1 w2 w3 w4' w5' w6 HNN HAREA
        have HRC := Lib.hid (HI.out.1.moves0 HMC.out)
        obtain ⟨g0, g1, -, g3, -⟩ := HRC.out.rb.cells
        obtain ⟨b9, hb9⟩ : ∃ b9, a0 + z = b9 := ⟨_, rfl⟩
        have v1' : IntKind.i64.wrap ((s : Int) + 2) = (s : Int) + 2 := IntWalk.i64_in _ (by have := HAR.out; omega)
        have v2 : IntKind.i64.wrap (q : Int) = (q : Int) := i64n (by have h1 := HAB.out; have h3 := HAR.out; omega)
        have v3 : IntKind.i64.wrap ((s : Int) + 2 + (q : Int)) = (s : Int) + 2 + (q : Int) := IntWalk.i64_in _ (by have h1 := HAB.out; have := HAR.out; omega)
        have v4 : IntKind.i64.wrap ((i : Int) + 1) = (i : Int) + 1 := IntWalk.i64_in _ (by have h1 := HIK.out; have h2 := HNL.out; omega)
        have v5' : IntKind.i64.wrap ((i : Int) * (z : Int)) = (a0 : Int) := by rw [← Int.natCast_mul, HAB.out.2.2.2]; exact i64n (by have h1 := HAB.out; have h2 := HNL.out; omega)
        have v6 : IntKind.i64.wrap (((i : Int) + 1) * (z : Int)) = (b9 : Int) := by
          have e : ((i : Int) + 1) * (z : Int) = ((b9 : Nat) : Int) := by rw [← hb9, ← HAB.out.2.2.2, Int.add_mul, Int.natCast_add, Int.natCast_mul, Int.one_mul]
          rw [e]
          exact i64n (by have h1 := HAB.out; have h2 := HNL.out; omega)
        have x0 : (0 : Int) ≤ (a0 : Int) := by omega
        have x1 : (a0 : Int) ≤ (b9 : Int) := by omega
        have x2 : (b9 : Int) ≤ (c5 : Int) := by have h1 := HAB.out; omega
        have x3 : ¬ c5 = a0 := by have h1 := HAB.out; have h2 := HZ.out; omega
        have x4 : b9 - a0 = z := by omega
        clear hb9
        have hK0 : wc.cell? ⟨r, 0, none⟩ = some (.pointer (some ⟨d, 0, none⟩)) ∧ wc.cell? ⟨r, 1, none⟩ = some (.int .i64 s) ∧ wc.cell? ⟨r, 3, none⟩ = some (.int .i64 z) := ⟨g0, g1, g3⟩
        have hK1 : wc.drew.cell? ⟨r, 0, none⟩ = some (.pointer (some ⟨d, 0, none⟩)) ∧ wc.drew.cell? ⟨r, 1, none⟩ = some (.int .i64 s) ∧ wc.drew.cell? ⟨r, 3, none⟩ = some (.int .i64 z) := ⟨g0, g1, g3⟩
        have HMD := Lib.hid (HMC.out.trans (Moves.refl (fun _ => False) wc).drew)
        go_wp2_with fail
        go_region_held3 (fun w' => w'.cell? ⟨r, 0, none⟩ = some (.pointer (some ⟨d, 0, none⟩)) ∧ w'.cell? ⟨r, 1, none⟩ = some (.int .i64 s) ∧ w'.cell? ⟨r, 3, none⟩ = some (.int .i64 z))
          (first | with_reducible exact hS' | with_reducible exact hK0 | with_reducible exact hK1 | assumption)
          (first
            | (go_at_call 59
               refine (HWT.out _ HMD.out).mono ?_
               rintro e w7 ⟨rfl, hd7, hv7, hv7'⟩
               have HR7 := Lib.hid ((HI.out.1.moves0 HMD.out).disk hd7 ⟨hv7, hv7'⟩)
               have HV7 := Lib.hid ((rmv_of0 HI.out.1 HMD.out).trans (rmv_disk (r := r) (lv := lv) ⟨hv7, hv7'⟩))
               have hS' : w7.cell? ⟨r, 0, none⟩ = some (.pointer (some ⟨d, 0, none⟩)) ∧ w7.cell? ⟨r, 1, none⟩ = some (.int .i64 s) ∧ w7.cell? ⟨r, 3, none⟩ = some (.int .i64 z) := ⟨HR7.out.rb.cells.1, HR7.out.rb.cells.2.1, HR7.out.rb.cells.2.2.2.1⟩
               clear hd7 hv7 hv7')
            | fail)
        all_goals
          clear hK0 hK1 hS' v1' v2 v3 v4 v5' v6 x0 x1 x2 x3 x4 g0 g1 g3
          go_wp2_with fail
          go_roundg (kn - (i + 1))
          case measure => have := HIK.out; omega
          case rel => exact ⟨i + 1, by have := HIK.out; omega, rfl, by go_num, Lib.hid ⟨HR7.out, HI.out.2.1.trans HV7.out, HV7.out.row HI.out.2.2⟩⟩
    · have d1 : ¬ (i : Int) < (kn : Int) := by omega
      obtain rfl : i = kn := by omega
      have HPD := pend_at (z := z) (K := K) (l := l) (k := k) (ws := ws) (s := s) (a := n - 2) (p := t + u) (x := X) i
      rw [HK1.out] at HPD
      have HSY : Hid (Calls Try.prog 58 #[.pointer (some ⟨d, 0, none⟩)] wr0 (DPost wr0 base d (calmS z K1 false l k (ws + i)) (.int .i64 0))) := Lib.hid (by
        have h := Pl.sync_on HI.out.1.dk HPD.off
        rw [settle_of HPD] at h
        exact h)
      clear HPD hi hgg hik
      have g0 := HI.out.1.rb.cells.1
      have HK1L : Hid (K1.length = K.length) := Lib.hid (by rw [← HK1.out, writeN_len])
      go_wp2_with fail
      refine HSY.out.mono ?_
      rintro e w6 ⟨rfl, hd6, hv6, hv6'⟩
      have HR6 := Lib.hid (HI.out.1.disk hd6 ⟨hv6, hv6'⟩)
      have HV6 := Lib.hid (HI.out.2.1.trans (rmv_disk (r := r) (lv := lv) ⟨hv6, hv6'⟩))
      clear hd6 hv6 hv6' g0
      obtain ⟨-, -, -, -, y0, y1, y2, y3, y4, -⟩ := HR6.out.rb.cells
      have wc2 := HCC.out
      have wuk : IntKind.u64.wrap ((u : Int) + (i : Int)) = ((u + i : Nat) : Int) := by rw [← Int.natCast_add]; exact u64n (by have h2 := HNL.out; have h3 := HAR.out; omega)
      have wi : IntKind.u64.wrap (i : Int) = (i : Int) := u64n (by have h2 := HNL.out; omega)
      go_wp2_with fail
      clear wc2 wuk wi y0 y1 y2 y3 y4
      have HM8 := Lib.hid ((Moves.refl (fun _ => False) w6).alloc (.cells #[.int .u64 gen, .int .u64 first, .int .u64 c2, .int .u64 t, .int .u64 ((u : Int) + (i : Int))] 118))
      have HPU := Lib.hid (rput_ok (HR6.out.moves0 HM8.out) HZ.out (by rw [HK1L.out]; have := HAR.out; omega) (by have := HAR.out; omega) (by rw [HK1L.out]; have := HAR.out; omega) (by have := HWS.out; have := HNL.out; omega) ⟨gen, first, c2, t, (u : Int) + (i : Int)⟩ HGG.out)
      refine HPU.out.mono ?_
      rintro e w9 ⟨rfl, hR9, hv9⟩
      have HR9 := Lib.hid hR9
      have HV9 := Lib.hid ((HV6.out.trans (rmv_of0 HR6.out HM8.out)).trans hv9)
      clear hR9 hv9
      obtain ⟨Al, cl, rfl, -, -, -, -, -⟩ := own_form HR9.out.own
      have HVR := Lib.hid (HV9.out.row HV.out)
      have hcl := Pl.cloneB (w := w9.drew) ((HVR.out.1.moves (Moves.refl (fun _ => False) w9).drew (fun _ _ _ e => e))) (by intro u hu; obtain ⟨y, _, rfl⟩ := List.mem_map.1 hu; rfl) (by rw [List.length_map]; have := HNL.out; omega)
      have HCL : Hid (Calls Try.prog 69 #[.slice A bs.length cv] w9.drew (Pl.CloneB w9.drew (bs.map fun x => .int .u8 x))) := Lib.hid hcl
      clear hcl
      obtain ⟨i4, hi4, p0, p1, p2⟩ := info_parts infoBS
      have p3 : (Value.slice none 0 0).cells.size = 1 := rfl
      have p4 : (0 : Nat) < 1 := by decide
      have HRL9 := Lib.hid (lt_of_block HR9.out.rb)
      have HNR := Lib.hid HR9.out.nr
      have e9 := HR9.out.rb.cells.2.2.2.2.2.2.2.2.2
      have f9 := HR9.out.rb.fr 9
      have HVL : Hid (vals.length ≤ 100000) := Lib.hid (by have h1 := HR9.out.len; have h2 := HLL.out; omega)
      have h63 : Hid (vals.length + 1 ≤ maxLen ∧ (vals.length + 1) * 24 ≤ 140737488355328) := Lib.hid (by have h1 := HVL.out; unfold maxLen; omega)
      go_wp2_with fail
      go_region_law (first
        | (refine step_append_src _ rfl (.tmp 139) (.tmp 142) 71 rfl base 55 i4 _ 1 24 Try.underlying71 hi4 p0 p1 p2 p3 p4 (.slice Al vals.length cl) vals.length vals rfl (HK10.out.alloc _) (some ⟨w10.heap.size, 0, none⟩) 1 1 [.slice A10 bs.length c10] rfl (by rfl) (fun _ => ⟨_, rfl, World.news_of_block (cs := #[.slice A10 bs.length c10]) (t := 55) (fr := (0, 0)) (heap_alloc_new _ _)⟩) (by simp [Value.oneCell']) h63.out.1 h63.out.2 (hbs.out _) ?_
           intro v1 w12 hn12 hg12 hl12
           have hb12 := hg12.block r (by simp; have := HL10.out; omega) (fun e => HNR.out e.symm)
           have e12 : w12.cell? ⟨r, 9, none⟩ = some (.slice Al vals.length cl) := (World.cell?_of_block hb12).trans e10a
           have f12 : w12.frozen? ⟨r, 9, none⟩ = false := (World.frozen?_of_block hb12).trans f10a
           obtain ⟨A1, c1, rfl, -, -, -, -, -⟩ := own_form hn12)
        | (go_simp
           go_at_call 69
           refine HCL.out.mono ?_
           rintro e w10 ⟨v10, rfl, hown10, hm10⟩
           rw [List.length_map] at hown10
           have HO10 := Lib.hid hown10
           obtain ⟨A10, c10, rfl, -, -, -, -, -⟩ := own_form hown10
           have HM10 := Lib.hid ((Moves.refl (fun _ => False) w9).drew.trans hm10)
           have HM10d := Lib.hid hm10
           have HK10 := Lib.hid (own_moves HR9.out.own HM10.out (fun _ _ e => e))
           have HL10 : Hid (r < w10.heap.size) := Lib.hid (by have := HRL9.out; have := HM10.out.size; omega)
           have hbs : Hid (∀ o, base ≤ (w10.alloc o).heap.size) := Lib.hid (fun o => by have h1 := HR9.out.hr; have h2 := HL10.out; simp; omega)
           have e10 := (HM10.out.cell (p := ⟨r, 9, none⟩) HRL9.out (fun e => e)).trans e9
           have f10 := (HM10.out.frozen (p := ⟨r, 9, none⟩) HRL9.out (fun e => e)).trans f9
           have e10a := (World.cell?_alloc_lt w10 (.cells #[.slice A10 bs.length c10] 55) ⟨r, 9, none⟩ HL10.out).trans e10
           have f10a : (w10.alloc (.cells #[.slice A10 bs.length c10] 55)).frozen? ⟨r, 9, none⟩ = false := (World.frozen?_of_block (Below.heap_alloc _ _ _ HL10.out)).trans f10
           clear hown10 hm10)
        | fail)
      all_goals
        have hmD : Moves (fun _ => False) w9 (w10.alloc (.cells #[.slice A10 bs.length c10] 55)) := HM10.out.alloc _
        have hRD := HR9.out.moves0 hmD
        have hrow10 : Row w10 (fun q => w9.drew.heap.size ≤ q) (.slice A10 bs.length c10) (bs.map fun x => .int .u8 x) := Row.of_owns HO10.out
        have hrec : BRow (w10.alloc (.cells #[.slice A10 bs.length c10] 55)) (fun q => ¬ ROwn (w10.alloc (.cells #[.slice A10 bs.length c10] 55)) r d (.slice Al vals.length cl) q) (.slice A10 bs.length c10) bs := by
          refine ⟨?_, HBY.out, by have := HNL.out; omega⟩
          have h9 := hrow10.moves ((Moves.refl (fun _ => False) w10).alloc (.cells #[.slice A10 bs.length c10] 55)) (fun _ _ _ e => e)
          obtain ⟨A9, c9, hv9, hc9, hx9⟩ := h9
          refine ⟨A9, c9, hv9, hc9, fun h0 => ?_⟩
          obtain ⟨g9, o9, hA9, hg9, h3, h4⟩ := hx9 h0
          exact ⟨g9, o9, hA9, fun e => by have e1 := HR9.out.lt (rown0 HR9.out hmD e); have e2 : w9.heap.size ≤ g9 := hg9; omega, h3, h4⟩
        have hp := hRD.push hrec rfl hn12 hg12 (hl12.imp id (fun e => ⟨_, e, Nat.le_refl _⟩))
        have HP1 := Lib.hid hp.1
        have HP2 := Lib.hid (((HV9.out.trans (rmv_of0 HR9.out hmD)).trans hp.2.1))
        clear hmD hRD hrow10 hrec hp hn12 hg12 hl12 hb12 e12 f12 e10 f10 e10a f10a e9 f9
        have HNX : Hid (Calls Try.prog 34 #[.pointer (some ⟨r, 0, none⟩)] (w12.setCell ⟨r, 9, none⟩ (.slice A1 (vals.length + 1) c1)) (MovV (w12.setCell ⟨r, 9, none⟩ (.slice A1 (vals.length + 1) c1)) (.int .u64 (IntKind.u64.wrap (first + (L.length + 1 : Nat)))))) := Lib.hid (by
          have h := next_any HP1.out.rb (by have := HVL.out; omega)
          rw [HR9.out.len] at h
          rw [HR9.out.len]
          exact h)
        have HNU := HNUM
        generalize IntKind.u64.wrap (first + ((L.length + 1 : Nat) : Int)) = Y at HNX HNU
        go_wp2_with fail
        refine HNX.out.mono ?_
        rintro e w13 ⟨rfl, hm13⟩
        have HM13 := Lib.hid hm13
        clear hm13
        go_wp2
        rw [← HQE.out, Int.natCast_add]
        exact ⟨by rw [← HNU.out]; rfl, _, _, HP1.out.moves0 HM13.out, HP2.out.trans (rmv_of0 HP1.out HM13.out)⟩
end Go.Proofs.Ytnagpianaghjeaa.Rg
namespace Go.Proofs.Ytnagpianaghjeaa.Rg
open Go Go.RowKit Go.Proofs Go.Proofs.Ytnagpianaghjeaa.Sl
open Pl (DS IsDisk DOwn DPost DMv DKeep Clear DiskAt All2)

/-- How many sectors the first records take. -/
def sumN (z : Nat) (L : List (List Int)) : Nat → Nat
  | 0 => 0
  | j + 1 => sumN z L j + needN z (L.getD j []).length
theorem i64nT {x : Nat} (h : x ≤ 10000000) : IntKind.i64.wrap (x : Int) = (x : Int) := IntWalk.i64_in _ (by omega)
theorem u64nT {x : Nat} (h : x ≤ 1000000) : IntKind.u64.wrap (x : Int) = (x : Int) := IntWalk.u64_in _ (by omega)
theorem set134 {w : World} {g : Nat} {a b c d e x y v : Value} {t : TypeId} (h : w.heap[g]? = some (.cells #[a, b, c, d, e] t (0, 0))) : (((w.setCell ⟨g, 1, none⟩ x).setCell ⟨g, 2, none⟩ y).setCell ⟨g, 4, none⟩ v).heap[g]? = some (.cells #[a, x, y, d, v] t (0, 0)) := by
  simp [World.setCell, Array.getElem?_modify, h]
theorem set3 {w : World} {g : Nat} {a b c d e x : Value} {t : TypeId} (h : w.heap[g]? = some (.cells #[a, b, c, d, e] t (0, 0))) : (w.setCell ⟨g, 3, none⟩ x).heap[g]? = some (.cells #[a, b, c, x, e] t (0, 0)) := by
  simp [World.setCell, Array.getElem?_modify, h]
set_option maxRecDepth 100000 in
set_option maxHeartbeats 4000000 in
/-- None of them goes. -/
theorem rtrunc_none {w : World} {base d r s n z : Nat} {K : List (List Int)} {l : Int} {k : List Bool} {ws : Int} {h : Hd} {lv : Value} {vals : List Value} {L : List (List Int)} {up : Int} (H : RingAt w base d r s n z (calmS z K false l k ws) h lv vals L) (hL : L.length ≤ 100000) (hup : up < h.first) (hf : h.first + L.length < 18446744073709551616) (hf0 : 0 ≤ h.first) :
    Calls Try.prog 33 #[.pointer (some ⟨r, 0, none⟩), .int .u64 up] w (MovV w (.int .i64 0)) := by
  have hvl := H.len
  have HOFF := Lib.hid (fun W (hW : Moves (fun _ => False) w W) => Pl.off_any (H.dk.moves0 hW))
  have HC := Lib.hid (fun W (hW : Moves (fun _ => False) w W) => And.intro (H.rb.moves0 hW).cells.1 (H.rb.moves0 hW).cells.2.2.2.2.2.1)
  obtain ⟨Al, cl, rfl, -, -, -, -, -⟩ := own_form H.own
  have HNX := Lib.hid (next_any H.rb (by omega))
  have e : IntKind.u64.wrap (h.first + (vals.length : Int)) = h.first + L.length := by rw [hvl]; exact IntWalk.u64_in _ (by omega)
  rw [e] at HNX
  have hup2 : ¬ h.first + (L.length : Int) ≤ up := by omega
  generalize h.first + (L.length : Int) = nx at HNX hup2
  generalize h.first = f0 at HC hup
  clear H hL hvl e hf hf0
  go_enter Try.func33, Try.ntmps33
  go_wp2_with fail
  refine HNX.out.mono ?_
  rintro e w1 ⟨rfl, hm1⟩
  obtain ⟨c0, c5⟩ := HC.out _ hm1
  have HM1 := Lib.hid hm1
  clear hm1
  go_wp2_with fail
  refine (HOFF.out w1 HM1.out).mono ?_
  rintro e w2 ⟨rfl, rfl⟩
  go_wp2
  go_ret
  exact ⟨rfl, HM1.out⟩
def TruncPost (w : World) (base d r s n z : Nat) (D : DS) (h : Hd) (lv : Value) (L : List (List Int)) (e : Ending) (w' : World) : Prop := e = .returned (.int .i64 0) ∧ ∃ lv' vals', RingAt w' base d r s n z D h lv' vals' L ∧ RMv w r d lv w' lv'
theorem All2.drop {α β : Type} {R : α → β → Prop} {l : List α} {l' : List β} (h : All2 R l l') (m : Nat) : All2 R (l.drop m) (l'.drop m) := by
  refine ⟨by rw [List.length_drop, List.length_drop, h.1], fun i hi hi' => ?_⟩
  rw [List.length_drop] at hi hi'
  rw [List.getElem_drop, List.getElem_drop]
  exact h.2 (m + i) (by omega) (by omega)
/-- The records' row is another one, just made. -/
theorem RingAt.swap {w w5 : World} {base d r s n z : Nat} {D : DS} {h : Hd} {lv lv' : Value} {vals vals' : List Value} {L L' : List (List Int)} (H : RingAt w base d r s n z D h lv vals L) (hm : Moves (fun _ => False) w w5) (hown : w5.ownsRow w.heap.size 55 1 lv' vals'.length vals') (hr : All2 (fun v bs => BRow w (fun g => ¬ ROwn w r d lv g) v bs) vals' L') :
    RingAt (w5.setCell ⟨r, 9, none⟩ lv') base d r s n z D h lv' vals' L' ∧ RMv w r d lv (w5.setCell ⟨r, 9, none⟩ lv') lv' := by
  have m2 : Moves (fun k => k = r) w5 (w5.setCell ⟨r, 9, none⟩ lv') := (Moves.refl (fun k => k = r) w5).setCell (p := ⟨r, 9, none⟩) (fun _ => rfl) _
  have mm : Moves (fun k => k = r) w (w5.setCell ⟨r, 9, none⟩ lv') := (hm.none _).trans m2
  have hdl : d < w.heap.size := H.lt (.inr (.inr (.inl rfl)))
  have hdn : ¬ d = r := fun e => by subst e; exact H.rd (.inl rfl)
  have hd : (w5.setCell ⟨r, 9, none⟩ lv').heap[d]? = w.heap[d]? := mm.block d hdl hdn
  have hlow : ∀ k, lv'.ownBlock = some k → w.heap.size ≤ k := fun k e => (hown.lt k e).1
  have hrl := lt_of_block H.rb
  have hM : RMv w r d lv (w5.setCell ⟨r, 9, none⟩ lv') lv' := ⟨mm.mono (fun k e => .inl e), fun k hk => by
    rcases hk with e | e | e
    · exact .inl (.inl e)
    · exact .inr (hlow k e)
    · exact .inl (.inr (.inr ((down_same hd k).1 e)))⟩
  have hr5 : w5.heap[r]? = w.heap[r]? := hm.block r hrl (fun e => e)
  have hrb : RingB (w5.setCell ⟨r, 9, none⟩ lv') r d s n z h lv' := by
    have h0 := H.rb
    unfold RingB at h0 ⊢
    simp [World.setCell, Array.getElem?_modify, hr5, h0]
  have hbw : base ≤ w.heap.size := by have := H.hr; omega
  refine ⟨⟨hrb, asideS H.dk mm (fun g hg _ => ?_), H.hr, ?_, fun k e q => ?_, recs_turn hM hr⟩, hM⟩
  · subst hg; exact ⟨H.rd, _, _, _, H.rb, by decide, by decide⟩
  · exact own_moves (own_weakS hbw hown) m2 (fun k e q => by subst q; have := hlow _ e; omega)
  · have h1 := down_lt H.dk ((down_same hd k).1 q)
    have h2 := hlow k e
    omega
set_option maxRecDepth 100000 in
set_option maxHeartbeats 8000000 in
theorem rtrunc_ok {w : World} {base d r s n z f0 cc t u m : Nat} {K : List (List Int)} {l : Int} {k : List Bool} {ws gen g : Int} {lv : Value} {vals : List Value} {L : List (List Int)} {up : Int} (H : RingAt w base d r s n z (calmS z K false l k ws) ⟨gen, f0, cc, t, u⟩ lv vals L) (hL : L.length ≤ 100000) (hf : f0 + L.length ≤ 1000000) (hm1 : 1 ≤ m) (hmL : m ≤ L.length) (hmc : m ≤ cc) (hcc : cc ≤ 100000) (hup : up + 1 = (f0 + m : Nat)) (hsu : ∀ j, j ≤ m → sumN z L j ≤ u) (hun : u ≤ n - 2) (ht : t < n - 2) (hlen : ∀ j, j < L.length → (L.getD j []).length ≤ 4096)
    (hz : 64 ≤ z ∧ z ≤ 100000) (hs : s + n ≤ K.length) (hn : 8 ≤ n) (hm : K.length ≤ 16384) (hws : 0 ≤ ws ∧ ws ≤ 100000000) (hg : IntKind.u64.wrap (gen + 1) = g) :
    Calls Try.prog 33 #[.pointer (some ⟨r, 0, none⟩), .int .u64 up] w (TruncPost w base d r s n z (calmS z (K.set (s + (g % 2).toNat) (headB z ⟨g, (f0 : Int) + m, (cc : Int) - m, ((t + sumN z L m) % (n - 2) : Nat), (u : Int) - sumN z L m⟩)) false l k (ws + 1)) ⟨g, (f0 : Int) + m, (cc : Int) - m, ((t + sumN z L m) % (n - 2) : Nat), (u : Int) - sumN z L m⟩ lv (L.drop m)) := by
  have HGG := Lib.hid hg
  clear hg
  have hvl := H.len
  have HR := Lib.hid H
  have HOFF := Lib.hid (fun W (hW : Moves (fun _ => False) w W) => Pl.off_any (H.dk.moves0 hW))
  obtain ⟨Al, cl, rfl, hcl1, -, -, -, hxl⟩ := own_form H.own
  obtain ⟨gl, rfl, -, hgl, hcell⟩ := hxl (by omega)
  have HX := Lib.hid hcell
  have HNX := Lib.hid (next_any H.rb (by omega))
  have e : IntKind.u64.wrap ((f0 : Int) + (vals.length : Int)) = (f0 : Int) + (vals.length : Int) := by rw [← Int.natCast_add]; exact u64nT (by omega)
  rw [e] at HNX
  clear e
  have HCN : Hid (1 ≤ m ∧ m ≤ L.length ∧ m ≤ cc ∧ cc ≤ 100000 ∧ up + 1 = (f0 : Int) + m ∧ u ≤ n - 2 ∧ t < n - 2 ∧ 8 ≤ n ∧ n ≤ 16384 ∧ s + n ≤ K.length ∧ K.length ≤ 16384 ∧ f0 + L.length ≤ 1000000 ∧ vals.length = L.length ∧ vals.length ≤ cl ∧ gl < w.heap.size) := Lib.hid (by omega)
  have HSU := Lib.hid hsu
  have HLE := Lib.hid hlen
  have HZ := Lib.hid hz
  have HWS := Lib.hid hws
  have u1 : ¬ (f0 : Int) + (vals.length : Int) ≤ up := by omega
  have u2 : ¬ up < (f0 : Int) := by omega
  obtain ⟨c0, -, -, -, -, c5, -⟩ := H.rb.cells
  generalize hQ : TruncPost w base d r s n z (calmS z (K.set (s + (g % 2).toNat) (headB z ⟨g, (f0 : Int) + m, (cc : Int) - m, ((t + sumN z L m) % (n - 2) : Nat), (u : Int) - sumN z L m⟩)) false l k (ws + 1)) ⟨g, (f0 : Int) + m, (cc : Int) - m, ((t + sumN z L m) % (n - 2) : Nat), (u : Int) - sumN z L m⟩ (.slice (some ⟨gl, 0, none⟩) vals.length cl) (L.drop m) = Q
  have HQE := Lib.hid hQ
  clear hQ H hL hf hm1 hmL hmc hcc hup hsu hun ht hlen hz hs hn hm hws hvl hcl1 hxl hgl hcell c0 c5
  go_enter Try.func33, Try.ntmps33
  go_wp2_with fail
  refine HNX.out.mono ?_
  rintro e w1 ⟨rfl, hm1⟩
  have HM1 := Lib.hid hm1
  clear hm1
  have g0 := (HR.out.rb.moves0 HM1.out).cells.1
  go_wp2_with fail
  refine (HOFF.out w1 HM1.out).mono ?_
  rintro e w2 ⟨rfl, rfl⟩
  obtain ⟨-, -, -, -, y0, y1, y2, y3, y4, -⟩ := (HR.out.rb.moves0 HM1.out).cells
  have M2 := Lib.hid (HM1.out.alloc (.cells #[.int .u64 gen, .int .u64 f0, .int .u64 cc, .int .u64 t, .int .u64 u] 118))
  have B2 := Lib.hid (heap_alloc_new w1 (.cells #[.int .u64 gen, .int .u64 f0, .int .u64 cc, .int .u64 t, .int .u64 u] 118))
  have HGH : Hid (w.heap.size ≤ w1.heap.size) := Lib.hid HM1.out.size
  go_wp2_with fail
  clear g0 y0 y1 y2 y3 y4 u1 u2
  generalize w1.alloc (.cells #[.int .u64 gen, .int .u64 f0, .int .u64 cc, .int .u64 t, .int .u64 u] 118) = W2 at M2 B2 ⊢
  generalize w1.heap.size = gh at B2 HGH ⊢
  go_loopg [6] m (fun gg s6 wr => ∃ j : Nat, j ≤ m ∧ gg = m - j ∧ s6 = .int .i64 j ∧ Hid (Moves (fun _ => False) w wr ∧ wr.heap[gh]? = some (.cells #[.int .u64 gen, .int .u64 ((f0 : Int) + j), .int .u64 ((cc : Int) - j), .int .u64 ((t + sumN z L j) % (n - 2) : Nat), .int .u64 ((u : Int) - sumN z L j)] 118 (0, 0))))
  case atStart =>
    refine ⟨0, Nat.zero_le _, rfl, rfl, Lib.hid ⟨M2.out, ?_⟩⟩
    have h := B2.out
    have e1 : (t + sumN z L 0) % (n - 2) = t := Nat.mod_eq_of_lt (by show t + 0 < _; have := HCN.out; omega)
    rw [e1]
    show W2.heap[gh]? = some (.cells #[.int .u64 gen, .int .u64 ((f0 : Int) + ((0 : Nat) : Int)), .int .u64 ((cc : Int) - ((0 : Nat) : Int)), .int .u64 t, .int .u64 ((u : Int) - ((0 : Nat) : Int))] 118 (0, 0))
    simpa using h
  case round =>
    obtain ⟨wr0, rfl⟩ : ∃ x, x = wr := ⟨wr, rfl⟩
    obtain ⟨j, hj, hgg, rfl, HI⟩ := hrel
    have d0 : (0 : Int) ≤ (j : Int) := by omega
    have hsj := HSU.out j hj
    by_cases hjm : j < m
    · have HJM : Hid (j < m ∧ gk = m - j) := Lib.hid ⟨hjm, hgg⟩
      have hcn := HCN.out
      have hjv : j < vals.length := by omega
      have hjL : j < L.length := by omega
      obtain ⟨sg, hsg⟩ : ∃ sg, sumN z L j = sg := ⟨_, rfl⟩
      have hsj1 := HSU.out (j + 1) hjm
      obtain ⟨kj, hkj⟩ : ∃ kj, needN z (L.getD j []).length = kj := ⟨_, rfl⟩
      have hs2 : sumN z L (j + 1) = sg + kj := by show sumN z L j + needN z (L.getD j []).length = _; rw [hsg, hkj]
      rw [hs2] at hsj1
      obtain ⟨tj, htj⟩ : ∃ tj, (t + sg) % (n - 2) = tj := ⟨_, rfl⟩
      have htl : tj < n - 2 := by rw [← htj]; exact Nat.mod_lt _ (by omega)
      obtain ⟨tk, htk⟩ : ∃ tk, (tj + kj) % (n - 2) = tk := ⟨_, rfl⟩
      have ht2 : (t + (sg + kj)) % (n - 2) = tk := by rw [← htk, ← htj, Nat.mod_add_mod, Nat.add_assoc]
      have hlen := HLE.out j hjL
      have hrow := HR.out.recs.2 j hjv hjL
      have hcv := (HI.out.1.cell (p := ⟨gl, j, none⟩) hcn.2.2.2.2.2.2.2.2.2.2.2.2.2.2 (fun e => e)).trans (HX.out j vals[j] (List.getElem?_eq_getElem hjv))
      have hgd : L.getD j [] = L[j] := by rw [List.getD_eq_getElem?_getD, List.getElem?_eq_getElem hjL]; rfl
      rw [hgd] at hlen hkj
      obtain ⟨⟨Aj, cj, hvj, -, -⟩, -, -⟩ := hrow
      rw [List.length_map] at hvj
      rw [hvj] at hcv
      have HNE : Hid (∀ W, Moves (fun _ => False) w W → Calls Try.prog 74 #[.pointer (some ⟨r, 0, none⟩), .int .i64 (L[j]).length] W (MovV W (.int .i64 kj))) := Lib.hid (fun W hW => by rw [← hkj]; exact need_any (HR.out.rb.moves0 hW) ⟨by have := HZ.out; omega, by have := HZ.out; omega⟩ (by omega))
      generalize (L[j]).length = lj at hcv HNE hlen
      have HBB : Hid (wr0.heap[gh]? = some (.cells #[.int .u64 gen, .int .u64 ((f0 : Int) + j), .int .u64 ((cc : Int) - j), .int .u64 tj, .int .u64 ((u : Int) - sg)] 118 (0, 0))) := Lib.hid (by have h := HI.out.2; rw [hsg, htj] at h; exact h)
      have HKJ : Hid (sg + kj ≤ u ∧ tj < n - 2) := Lib.hid ⟨hsj1, htl⟩
      have HSS : Hid (sumN z L (j + 1) = sg + kj ∧ (t + (sg + kj)) % (n - 2) = tk ∧ (tj + kj) % (n - 2) = tk) := Lib.hid ⟨hs2, ht2, htk⟩
      have d1 : (f0 : Int) + (j : Int) ≤ up := by omega
      have d2 : (j : Int) < (vals.length : Int) := by omega
      have d5 : (j : Int) ≤ 1000000 := by omega
      have d3 : (lj : Int) ≤ 4096 := by omega
      have d4 : (0 : Int) ≤ (lj : Int) := by omega
      have e9 := (HR.out.rb.moves0 HI.out.1).cells.2.2.2.2.2.2.2.2.2
      obtain ⟨y0, y1, y2, y3, y4⟩ := cells5 HBB.out
      clear hjm hgg hjv hjL hsj hsg hsj1 hs2 htj htl htk ht2 hkj hlen hcn hgd hvj hj
      go_wp2_with fail
      refine (HNE.out _ HI.out.1).mono ?_
      rintro e w5 ⟨rfl, hm5⟩
      have HM5 := Lib.hid (HI.out.1.trans hm5)
      have hb5 := (hm5.block _ (lt_of_block HBB.out) (fun e => e)).trans HBB.out
      have HB5 := Lib.hid hb5
      clear y0 y1 y2 y3 y4 hm5 e9 hcv
      obtain ⟨y0, y1, y2, y3, y4⟩ := cells5 hb5
      obtain ⟨z0, z1, z2, z3, z4⟩ := froz5 hb5
      clear hb5
      have a0 : IntKind.u64.wrap (kj : Int) = (kj : Int) := u64nT (by have h1 := HKJ.out; have h2 := HCN.out; omega)
      have a1 : IntKind.u64.wrap ((f0 : Int) + (j : Int) + 1) = (f0 : Int) + (j : Int) + 1 := IntWalk.u64_in _ (by have h1 := HJM.out; have h2 := HCN.out; omega)
      have a2 : IntKind.u64.wrap ((cc : Int) - (j : Int) - 1) = (cc : Int) - (j : Int) - 1 := IntWalk.u64_in _ (by have h1 := HJM.out; have h2 := HCN.out; omega)
      have a3 : IntKind.u64.wrap ((u : Int) - (sg : Int) - (kj : Int)) = (u : Int) - (sg : Int) - (kj : Int) := IntWalk.u64_in _ (by have h1 := HKJ.out; have h2 := HCN.out; omega)
      go_upto_region 12 with fail
      have hmS : Moves (fun k => k = gh) w5 (((w5.setCell ⟨gh, 1, none⟩ (.int .u64 ((f0 : Int) + (j : Int) + 1))).setCell ⟨gh, 2, none⟩ (.int .u64 ((cc : Int) - (j : Int) - 1))).setCell ⟨gh, 4, none⟩ (.int .u64 ((u : Int) - (sg : Int) - (kj : Int)))) := (((Moves.refl (fun k => k = gh) w5).setCell (p := ⟨gh, 1, none⟩) (fun _ => rfl) _).setCell (p := ⟨gh, 2, none⟩) (fun _ => rfl) _).setCell (p := ⟨gh, 4, none⟩) (fun _ => rfl) _
      have HM6 : Hid (Moves (fun _ => False) w (((w5.setCell ⟨gh, 1, none⟩ (.int .u64 ((f0 : Int) + (j : Int) + 1))).setCell ⟨gh, 2, none⟩ (.int .u64 ((cc : Int) - (j : Int) - 1))).setCell ⟨gh, 4, none⟩ (.int .u64 ((u : Int) - (sg : Int) - (kj : Int))))) := Lib.hid (HM5.out.andThen hmS (fun i e hi => by have := HGH.out; omega))
      have HB6 := Lib.hid (set134 (x := .int .u64 ((f0 : Int) + (j : Int) + 1)) (y := .int .u64 ((cc : Int) - (j : Int) - 1)) (v := .int .u64 ((u : Int) - (sg : Int) - (kj : Int))) HB5.out)
      clear hmS y0 y1 y2 y3 y4 z0 z1 z2 z3 z4 a0 a1 a2 a3
      generalize ((w5.setCell ⟨gh, 1, none⟩ (.int .u64 ((f0 : Int) + (j : Int) + 1))).setCell ⟨gh, 2, none⟩ (.int .u64 ((cc : Int) - (j : Int) - 1))).setCell ⟨gh, 4, none⟩ (.int .u64 ((u : Int) - (sg : Int) - (kj : Int))) = W6 at HM6 HB6 ⊢
      obtain ⟨-, -, -, y3, -⟩ := cells5 HB6.out
      obtain ⟨-, -, -, z3, -⟩ := froz5 HB6.out
      have HAREA := Lib.hid (area_any (HR.out.rb.moves0 (HM6.out.trans (Moves.refl (fun _ => False) W6).drew)) ⟨HCN.out.2.2.2.2.2.2.2.1, HCN.out.2.2.2.2.2.2.2.2.1⟩)
      have m0 : ¬ ((n - 2 : Nat) : Int) = 0 := by have := HCN.out; omega
      have m1 : (((n - 2 : Nat) : Int) == 0) = false := by simpa using m0
      have w1' : IntKind.u64.wrap ((n - 2 : Nat) : Int) = ((n - 2 : Nat) : Int) := u64nT (by have := HCN.out; omega)
      have w2' : IntKind.u64.wrap ((tj : Int) + (kj : Int)) = (tj : Int) + (kj : Int) := by rw [← Int.natCast_add]; exact u64nT (by have h1 := HKJ.out; have h2 := HCN.out; omega)
      have w3' : Int.tmod ((tj : Int) + (kj : Int)) ((n - 2 : Nat) : Int) = (tk : Int) := by rw [← HSS.out.2.2, ← Int.natCast_add]; exact (Int.ofNat_tmod _ _).symm
      generalize ((n - 2 : Nat) : Int) = mi at HAREA m0 m1 w1' w3'
      go_region_with (first
        | (go_at_call 76
           refine HAREA.out.mono ?_
           rintro e w7 ⟨rfl, rfl⟩)
        | fail)
      all_goals
        clear m0 m1 w1' w2' w3' y3 z3
        go_wp2_with fail
        go_roundg (m - (j + 1))
        case measure => have := HJM.out; omega
        case rel =>
          refine ⟨j + 1, by have := HJM.out; omega, rfl, by go_num, Lib.hid ⟨?_, ?_⟩⟩
          · exact (Moves.setCell (p := ⟨gh, 3, none⟩) HM6.out (fun h => absurd h (by have := HGH.out; show ¬ gh < _; omega)) _).drew
          · have q1 : (f0 : Int) + ((j + 1 : Nat) : Int) = (f0 : Int) + (j : Int) + 1 := by omega
            have q2 : (cc : Int) - ((j + 1 : Nat) : Int) = (cc : Int) - (j : Int) - 1 := by omega
            have q4 : (u : Int) - ((sg + kj : Nat) : Int) = (u : Int) - (sg : Int) - (kj : Int) := by omega
            rw [HSS.out.1, HSS.out.2.1, q1, q2, q4]
            exact set3 HB6.out
    · obtain rfl : j = m := by omega
      have d1 : ¬ (f0 : Int) + (j : Int) ≤ up := by have := HCN.out; omega
      have HPU := Lib.hid (rput_ok (HR.out.moves0 HI.out.1) HZ.out HCN.out.2.2.2.2.2.2.2.2.2.1 HCN.out.2.2.2.2.2.2.2.1 HCN.out.2.2.2.2.2.2.2.2.2.2.1 (by have := HWS.out; omega) ⟨gen, (f0 : Int) + j, (cc : Int) - j, ((t + sumN z L j) % (n - 2) : Nat), (u : Int) - sumN z L j⟩ HGG.out)
      obtain ⟨y0, y1, y2, y3, y4⟩ := cells5 HI.out.2
      generalize (((t + sumN z L j) % (n - 2) : Nat) : Int) = tj at HPU HQE y3
      generalize (u : Int) - ((sumN z L j : Nat) : Int) = uj at HPU HQE y4
      clear hsj
      have HMV := Lib.hid HI.out.1
      clear HI
      go_wp2_with fail
      refine HPU.out.mono ?_
      rintro e w9 ⟨rfl, hR9, hv9⟩
      have HR9 := Lib.hid hR9
      have HV9 := Lib.hid ((rmv_of0 HR.out HMV.out).trans hv9)
      clear hR9 hv9 y0 y1 y2 y3 y4
      have hjv : j ≤ vals.length := by have := HCN.out; omega
      have hcl : vals.length ≤ cl := by have := HCN.out; omega
      have d2 : (j : Int) ≤ (vals.length : Int) := by omega
      have d3 : (vals.length : Int) ≤ (cl : Int) := by omega
      have e9 := HR9.out.rb.cells.2.2.2.2.2.2.2.2.2
      obtain ⟨pa, hpa⟩ : ∃ pa : Option Addr, (if cl = j then (some ⟨gl, 0, none⟩ : Option Addr) else some ⟨gl, j, none⟩) = pa := ⟨_, rfl⟩
      have hrow : Row w9 (fun _ => True) (.slice pa (vals.length - j) (cl - j)) (vals.drop j) := by
        refine ⟨pa, cl - j, by rw [List.length_drop], by rw [List.length_drop]; omega, fun h0 => ?_⟩
        rw [List.length_drop] at h0
        obtain ⟨A9, c9, hv9, -, -, -, -, hx9⟩ := own_form HR9.out.own
        cases hv9
        obtain ⟨g9, hg9, -, hlt9, hcell9⟩ := hx9 (by omega)
        cases hg9
        rw [← hpa, if_neg (by omega)]
        refine ⟨gl, j, rfl, trivial, hlt9, fun q u hu => hcell9 (j + q) u ?_⟩
        rw [List.getElem?_drop] at hu
        exact hu
      have hone : ∀ u ∈ vals.drop j, u.oneCell' = true := fun u hu => by
        obtain ⟨q, hq, rfl⟩ := List.mem_iff_getElem.1 (List.mem_of_mem_drop hu)
        have h := HR9.out.recs.2 q hq (by have := HR9.out.len; omega)
        obtain ⟨⟨A9, c9, hv9, -⟩, -⟩ := h
        rw [hv9]
        rfl
      have HCL := Lib.hid (Pl.cloneS hrow hone (by rw [List.length_drop]; have := HCN.out; omega))
      clear hrow hone
      go_wp2_with fail
      refine HCL.out.mono ?_
      rintro e w10 ⟨v10, rfl, hown10, hm10⟩
      obtain ⟨A10, c10, rfl, -, -, -, -, -⟩ := own_form hown10
      have HSW := Lib.hid (HR9.out.swap hm10 hown10 (Rg.All2.drop HR9.out.recs j))
      rw [List.length_drop] at HSW
      have f10 := (hm10.frozen (p := ⟨r, 9, none⟩) (lt_of_block HR9.out.rb) (fun e => e)).trans (HR9.out.rb.fr 9)
      have e10 := (hm10.cell (p := ⟨r, 9, none⟩) (lt_of_block HR9.out.rb) (fun e => e)).trans e9
      clear hown10 hm10 e9 hpa
      go_wp2
      rw [← HQE.out]
      exact ⟨rfl, _, _, HSW.out.1, HV9.out.trans HSW.out.2⟩
end Go.Proofs.Ytnagpianaghjeaa.Rg
namespace Go.Proofs.Ytnagpianaghjeaa.Rg
open Go Go.RowKit Go.Proofs Go.Proofs.Ytnagpianaghjeaa.Sl
open Pl (DS IsDisk DOwn DPost DMv DKeep Clear DiskAt All2 infoS CloneB)

/-- A new row of bytes. -/
def RB (w0 w : World) (v : Value) (bs : List Int) : Prop := BRow w (fun k => w0.heap.size ≤ k ∧ ∃ cs, w.heap[k]? = some (.cells cs 5 (0, 0))) v bs
/-- One for each record. -/
def RowsB (w0 w : World) (vals : List Value) (L : List (List Int)) : Prop := All2 (RB w0 w) vals L
theorem RB.moves {w0 w w' : World} {v : Value} {bs : List Int} (h : RB w0 w v bs) {S : Nat → Prop} (hm : Moves S w w') (hs : ∀ k cs, w.heap[k]? = some (.cells cs 5 (0, 0)) → ¬ S k) : RB w0 w' v bs := by
  obtain ⟨⟨A, c, hv, hc, hx⟩, h1, h2⟩ := h
  refine ⟨⟨A, c, hv, hc, fun h0 => ?_⟩, h1, h2⟩
  obtain ⟨g, o, hA, ⟨hg, cs, hcs⟩, hlt, hcell⟩ := hx h0
  have hn := hs g cs hcs
  have hsz := hm.size
  exact ⟨g, o, hA, ⟨hg, cs, (hm.block g hlt hn).trans hcs⟩, by omega, fun j u hu => (hm.cell (p := ⟨g, o + j, none⟩) hlt hn).trans (hcell j u hu)⟩
theorem RowsB.moves {w0 w w' : World} {vals : List Value} {L : List (List Int)} (h : RowsB w0 w vals L) {S : Nat → Prop} (hm : Moves S w w') (hs : ∀ k cs, w.heap[k]? = some (.cells cs 5 (0, 0)) → ¬ S k) : RowsB w0 w' vals L :=
  All2.mono h fun _ _ q => q.moves hm hs
/-- A row of one's own, cut to its length. -/
theorem RB.of_own {w0 w1 w : World} {A : Option Addr} {c : Nat} {bs : List Int} (h : w.ownsRow w1.heap.size 5 1 (.slice A bs.length c) bs.length (bs.map encX)) (h0 : w0.heap.size ≤ w1.heap.size) (hb : ∀ x ∈ bs, 0 ≤ x ∧ x < 256) (hl : bs.length ≤ 1000000) : RB w0 w (.slice A bs.length bs.length) bs := by
  obtain ⟨A', c', hv, -, -, -, -, hx⟩ := own_form h
  cases hv
  refine ⟨⟨A, bs.length, by rw [List.length_map], by rw [List.length_map]; exact Nat.le_refl _, fun hp => ?_⟩, hb, hl⟩
  rw [List.length_map] at hp
  obtain ⟨g, rfl, hg, hlt, hcell⟩ := hx hp
  obtain ⟨cur, hc⟩ := own_block h (g := g) rfl
  exact ⟨g, 0, rfl, ⟨by omega, cur, hc⟩, hlt, fun j u hu => by rw [Nat.zero_add]; exact hcell j u hu⟩
def RecsPost (w : World) (h : Hd) (L : List (List Int)) (e : Ending) (w' : World) : Prop := ∃ lv vals, e = .returned (.tuple #[.int .u64 h.first, lv]) ∧ w'.ownsRow w.heap.size 55 1 lv vals.length vals ∧ RowsB w w' vals L ∧ Moves (fun _ => False) w w'
set_option maxRecDepth 100000 in
set_option maxHeartbeats 4000000 in
theorem recs_any {w : World} {base r d s n z : Nat} {D : DS} {h : Hd} {lv : Value} {vals : List Value} {L : List (List Int)} (H : RingAt w base d r s n z D h lv vals L) (hL : L.length ≤ 1000000) : Calls Try.prog 38 #[.pointer (some ⟨r, 0, none⟩)] w (RecsPost w h L) := by
  obtain ⟨-, -, -, -, -, c5, -, -, -, c9⟩ := H.rb.cells
  have hrl := lt_of_block H.rb
  have hvl := H.len
  have HREC := Lib.hid H.recs
  obtain ⟨Al, cl, rfl, -, -, -, -, hxl⟩ := own_form H.own
  have HX := Lib.hid hxl
  have HVL := Lib.hid hvl
  have HL := Lib.hid hL
  have HC5 : Hid (∀ W, Moves (fun _ => False) w W → W.cell? ⟨r, 5, none⟩ = some (.int .u64 h.first)) := Lib.hid (fun W hW => (hW.cell (p := ⟨r, 5, none⟩) hrl (fun e => e)).trans c5)
  obtain ⟨i4, hi4, p0, p1, p2⟩ := info_parts infoS
  have p3 : (Value.slice none 0 0).cells.size = 1 := rfl
  have p4 : (0 : Nat) < 1 := by decide
  generalize hm : vals.length = m at *
  have HM := Lib.hid hm
  have HQ : Hid (∀ lv vals' w', w'.ownsRow w.heap.size 55 1 lv vals'.length vals' → RowsB w w' vals' L → Moves (fun _ => False) w w' → RecsPost w h L (.returned (.tuple #[.int .u64 h.first, lv])) w') := Lib.hid fun lv vals' w' h1 h2 h3 => ⟨lv, vals', rfl, h1, h2, h3⟩
  generalize RecsPost w h L = Q at HQ ⊢
  have hm6 : m ≤ 1000000 := by omega
  have b0 : (m : Int) ≤ 1000000 := by omega
  clear H hxl hvl hL hm hm6 hrl
  obtain ⟨h1, h2, h3, h4, h5⟩ := h
  dsimp only at c5 HC5 HQ
  go_enter Try.func38, Try.ntmps38
  go_wp2_with fail
  clear c5 c9
  go_loopg [3, 11] m (fun gg s3 s11 wr => ∃ (j : Nat) (lv' : Value) (vals' : List Value), j ≤ m ∧ gg = m - j ∧ s11 = .int .i64 j ∧ lv' = s3 ∧ Hid (wr.ownsRow w.heap.size 55 1 lv' j vals' ∧ vals'.length = j ∧ RowsB w wr vals' (L.take j) ∧ Moves (fun _ => False) w wr))
  case atStart => exact ⟨0, _, [], Nat.zero_le _, rfl, rfl, rfl, Lib.hid ⟨World.ownsRow_nil _ _ _ _, rfl, All2.nil _, Moves.refl _ _⟩⟩
  case round =>
    obtain ⟨wr0, rfl⟩ : ∃ x, x = wr := ⟨wr, rfl⟩
    obtain ⟨j, lv', vals', hj, hgg, rfl, rfl, HI⟩ := hrel
    have d0 : (0 : Int) ≤ (j : Int) := by omega
    by_cases hjm : j < m
    · have d1 : (j : Int) < (m : Int) := by omega
      obtain ⟨gl, rfl, -, hgl, hcl⟩ := HX.out (by omega)
      have hjl : j < vals.length := by rw [HM.out]; exact hjm
      have hjL : j < L.length := by rw [← HVL.out]; exact hjm
      have hcv := (HI.out.2.2.2.cell (p := ⟨gl, j, none⟩) hgl (fun e => e)).trans (hcl j vals[j] (List.getElem?_eq_getElem hjl))
      have hrow := HREC.out.2 j hjl hjL
      have HT : Hid (L.take (j + 1) = L.take j ++ [L[j]]) := Lib.hid (by rw [List.take_add_one, List.getElem?_eq_getElem hjL]; rfl)
      generalize vals[j] = vj at hcv hrow
      generalize L[j] = bj at hrow HT
      have hrowr := hrow.moves HI.out.2.2.2 (fun _ _ _ e => e)
      obtain ⟨hrr, hby, hbl⟩ := hrowr
      have HBY := Lib.hid hby
      have HBL := Lib.hid hbl
      have HCL := Lib.hid (Pl.cloneB hrr (by intro u hu; obtain ⟨y, _, rfl⟩ := List.mem_map.1 hu; rfl) (by rw [List.length_map]; exact hbl))
      obtain ⟨Aj, cj, rfl, -, -⟩ := hrr
      rw [List.length_map] at HCL
      have HJM := Lib.hid hjm
      have HJ := Lib.hid hgg
      clear hrow hby hbl hgl hcl hjm hgg
      go_wp2_with fail
      refine HCL.out.mono ?_
      rintro e w5 ⟨v5, rfl, hown5, hm5⟩
      have hown5' := hown5
      rw [List.length_map] at hown5'
      obtain ⟨A5, c5, rfl, hc5, hcm5, hA5, -, -⟩ := own_form hown5'
      have HCP := Lib.hid (Pl.clipB w5 A5 bj.length c5 hc5 hcm5 hA5)
      have HO5 := Lib.hid hown5'
      have HM5 := Lib.hid hm5
      clear hown5 hown5' hc5 hcm5 hA5 hm5
      go_wp2_with fail
      refine HCP.out.mono ?_
      rintro e w6 ⟨rfl, rfl⟩
      have HOV : Hid (∀ o, ((w5.alloc o).ownsRow w.heap.size 55 1 lv' j vals')) := Lib.hid (fun o => own_moves (own_moves HI.out.1 HM5.out (fun _ _ e => e)) ((Moves.refl (fun _ => False) w5).alloc o) (fun _ _ e => e))
      have h63 : Hid (j + 1 ≤ maxLen ∧ (j + 1) * 24 ≤ 140737488355328) := Lib.hid (by have h1 := HJM.out; have h2 := HVL.out; have h3 := HL.out; unfold maxLen; omega)
      have hbs : Hid (∀ o, w.heap.size ≤ (w5.alloc o).heap.size) := Lib.hid (fun o => by have h1 := HI.out.2.2.2.size; have h2 := HM5.out.size; simp; omega)
      go_wp2_with (first
        | (refine wpList_append_src _ rfl (.tmp 15) (.tmp 19) 71 rfl w.heap.size 55 i4 _ 1 24 Try.underlying71 hi4 p0 p1 p2 p3 p4 lv' j vals' rfl (HOV.out _) (some ⟨w5.heap.size, 0, none⟩) 1 1 [.slice A5 bj.length bj.length] rfl (by rfl) (fun _ => ⟨_, rfl, World.news_of_block (cs := #[.slice A5 bj.length bj.length]) (t := 55) (fr := (0, 0)) (heap_alloc_new _ _)⟩) (by simp [Value.oneCell']) h63.out.1 h63.out.2 (hbs.out _) ?_
           intro v1 w8 hn8 hg8 hl8
           have HN8 := Lib.hid hn8
           have HG8 := Lib.hid hg8
           clear hn8 hg8 hl8)
        | fail)
      have hA : Moves (fun _ => False) w5 (w5.alloc (.cells #[.slice A5 bj.length bj.length] 55)) := (Moves.refl (fun _ => False) w5).alloc _
      have hG : Moves (fun k => lv'.ownBlock = some k) (w5.alloc (.cells #[.slice A5 bj.length bj.length] 55)) w8 := Moves.of_grown HG8.out (fun k e => e)
      have hty : ∀ k cs, (w5.alloc (.cells #[.slice A5 bj.length bj.length] 55)).heap[k]? = some (.cells cs 5 (0, 0)) → ¬ (lv'.ownBlock = some k) := fun k cs hk e => by
        obtain ⟨cur, hc⟩ := own_block (HOV.out (.cells #[.slice A5 bj.length bj.length] 55)) e
        rw [hk] at hc
        cases hc
      have h0 := HI.out
      have r1 := RowsB.moves (RowsB.moves (RowsB.moves h0.2.2.1 HM5.out (fun _ _ _ e => e)) hA (fun _ _ _ e => e)) hG hty
      have r2 := ((RB.of_own (w0 := w) HO5.out h0.2.2.2.size HBY.out HBL.out).moves hA (fun _ _ _ e => e)).moves hG hty
      have m8 : Moves (fun _ => False) w w8 := ((h0.2.2.2.trans HM5.out).trans hA).andThen hG (fun k e hk => by have := (h0.1.lt k e).1; omega)
      have HF : Hid (w8.ownsRow w.heap.size 55 1 v1 (j + 1) (vals' ++ [.slice A5 bj.length bj.length]) ∧ (vals' ++ [Value.slice A5 bj.length bj.length]).length = j + 1 ∧ RowsB w w8 (vals' ++ [.slice A5 bj.length bj.length]) (L.take (j + 1)) ∧ Moves (fun _ => False) w w8) := Lib.hid ⟨HN8.out, by rw [List.length_append, h0.2.1]; rfl, by rw [HT.out]; exact All2.append r1 r2, m8⟩
      clear hA hG hty h0 r1 r2 m8
      go_roundg (m - (j + 1))
      case measure => have := HJM.out; have := HJ.out; omega
      case rel => exact ⟨j + 1, v1, _, HJM.out, rfl, by go_num, rfl, HF⟩
    · have d1 : ¬ (j : Int) < (m : Int) := by omega
      obtain rfl : j = m := by omega
      have c5 := HC5.out _ HI.out.2.2.2
      go_wp2
      have h9 := HI.out
      rw [List.take_of_length_le (by rw [← HVL.out]; exact Nat.le_refl _)] at h9
      have h10 := h9.1
      rw [← h9.2.1] at h10
      exact HQ.out _ vals' _ h10 h9.2.2.1 h9.2.2.2
end Go.Proofs.Ytnagpianaghjeaa.Rg
namespace Go.Proofs.Ytnagpianaghjeaa.Rg
open Go Go.RowKit Go.Proofs Go.Proofs.Ytnagpianaghjeaa.Sl
open Pl (DS IsDisk DOwn DPost DMv DKeep Clear DiskAt All2)

def kz : List (List Int) := List.replicate 12 (List.replicate 64 0)
def k1 : List (List Int) := kz.set 3 (headB 64 ⟨1, 1, 0, 0, 0⟩)
def one3 : List Int := [111, 110, 101]
def two3 : List Int := [116, 119, 111]
def k2 : List (List Int) := (writeN k1 2 6 0 64 (recB 64 one3) 1).set 2 (headB 64 ⟨2, 1, 1, 0, 1⟩)
def k3 : List (List Int) := (writeN k2 2 6 1 64 (recB 64 two3) 1).set 3 (headB 64 ⟨3, 1, 2, 0, 2⟩)
def k4 : List (List Int) := k3.set 2 (headB 64 ⟨4, 2, 1, 1, 1⟩)
theorem kz_secs : ∀ i, i < kz.length → (kz.getD i []).length = 64 ∧ ∀ x ∈ kz.getD i [], 0 ≤ x ∧ x < 256 := by decide +kernel
theorem k4_secs : ∀ i, i < k4.length → (k4.getD i []).length = 64 ∧ ∀ x ∈ k4.getD i [], 0 ≤ x ∧ x < 256 := by decide +kernel
theorem kz_new : newestH 6 (kz.getD 2 []) (kz.getD 3 []) = none := by decide +kernel
theorem k4_open : openN k4 2 8 64 = some (⟨4, 2, 1, 1, 1⟩, [two3]) := by decide +kernel
theorem k_lens : k1.length = 12 ∧ k2.length = 12 ∧ k3.length = 12 ∧ k4.length = 12 := by decide +kernel
theorem one_row : needN 64 one3.length = 1 ∧ needN 64 two3.length = 1 := by decide +kernel
theorem kn_format {w : World} {base d : Nat} (hD : IsDisk w base d (calmS 64 kz false 0 [] 0)) : Calls Try.prog 29 #[.pointer (some ⟨d, 0, none⟩), .int .i64 2, .int .i64 8] w (FormatPost w base d 2 8 64 (calmS 64 k1 false 0 [] 1) ⟨1, 1, 0, 0, 0⟩) :=
  rformat_ok (s := 2) (n := 8) hD (by decide) (by decide) (by decide +kernel) (by decide +kernel) (by decide) kz_secs kz_new (g := 1) (by decide +kernel)
theorem kn_one {w : World} {base d r : Nat} {lv v : Value} {vals : List Value} (H : RingAt w base d r 2 8 64 (calmS 64 k1 false 0 [] 1) ⟨1, 1, 0, 0, 0⟩ lv vals []) (hv : BRow w (fun q => ¬ ROwn w r d lv q) v one3) : Calls Try.prog 32 #[.pointer (some ⟨r, 0, none⟩), v] w (AppPost w base d r 2 8 64 (calmS 64 k2 false 0 [] 3) ⟨2, 1, 1, 0, 1⟩ lv [one3] 1) :=
  rappend_ok (t := 0) (u := 0) (kn := 1) (g := 2) (c2 := 1) (num := 1) H hv (by decide) (by decide +kernel) one_row.1 (by decide) (by decide) (by decide) (by decide +kernel) (by decide) (by decide +kernel) (by decide) (by decide) (by decide +kernel) (by decide +kernel) (by decide +kernel) rfl
theorem kn_two {w : World} {base d r : Nat} {lv v : Value} {vals : List Value} (H : RingAt w base d r 2 8 64 (calmS 64 k2 false 0 [] 3) ⟨2, 1, 1, 0, 1⟩ lv vals [one3]) (hv : BRow w (fun q => ¬ ROwn w r d lv q) v two3) : Calls Try.prog 32 #[.pointer (some ⟨r, 0, none⟩), v] w (AppPost w base d r 2 8 64 (calmS 64 k3 false 0 [] 5) ⟨3, 1, 2, 0, 2⟩ lv [one3, two3] 2) :=
  rappend_ok (t := 0) (u := 1) (kn := 1) (g := 3) (c2 := 2) (num := 2) H hv (by decide) (by decide +kernel) one_row.2 (by decide) (by decide) (by decide) (by decide +kernel) (by decide) (by decide +kernel) (by decide) (by decide) (by decide +kernel) (by decide +kernel) (by decide +kernel) rfl
theorem kn_trunc {w : World} {base d r : Nat} {lv : Value} {vals : List Value} (H : RingAt w base d r 2 8 64 (calmS 64 k3 false 0 [] 5) ⟨3, 1, 2, 0, 2⟩ lv vals [one3, two3]) : Calls Try.prog 33 #[.pointer (some ⟨r, 0, none⟩), .int .u64 1] w (TruncPost w base d r 2 8 64 (calmS 64 k4 false 0 [] 6) ⟨4, 2, 1, 1, 1⟩ lv [two3]) := by
  have h := rtrunc_ok (f0 := 1) (cc := 2) (t := 0) (u := 2) (m := 1) (g := 4) (up := 1) H (by decide) (by decide) (by decide) (by decide) (by decide) (by decide) (by decide) (by decide +kernel) (by decide) (by decide) (by decide +kernel) (by decide) (by decide +kernel) (by decide) (by decide +kernel) (by decide) (by decide +kernel)
  have e1 : (⟨4, ((1 : Nat) : Int) + ((1 : Nat) : Int), ((2 : Nat) : Int) - ((1 : Nat) : Int), (((0 + sumN 64 [one3, two3] 1) % (8 - 2) : Nat) : Int), ((2 : Nat) : Int) - ((sumN 64 [one3, two3] 1 : Nat) : Int)⟩ : Hd) = ⟨4, 2, 1, 1, 1⟩ := by decide +kernel
  have e2 : 2 + ((4 : Int) % 2).toNat = 2 := by decide
  rw [e1, e2] at h
  exact h
theorem kn_open {w : World} {base d : Nat} (hD : IsDisk w base d (calmS 64 k4 false 0 [] 6)) : Calls Try.prog 37 #[.pointer (some ⟨d, 0, none⟩), .int .i64 2, .int .i64 8] w (OpenPost w base d 2 8 64 (calmS 64 k4 false 0 [] 6) (some (⟨4, 2, 1, 1, 1⟩, [two3]))) :=
  ropen_ok (s := 2) (n := 8) hD (by decide) (by decide) (by decide +kernel) (by decide +kernel) k4_secs k4_open
theorem kn_bad {w : World} {base d : Nat} (hD : IsDisk w base d (calmS 64 k4 false 0 [] 6)) : Calls Try.prog 37 #[.pointer (some ⟨d, 0, none⟩), .int .i64 3, .int .i64 30] w (MovV w (.tuple #[.pointer none, .int .i64 1])) :=
  ropen_bad hD (.inr (.inr (.inl (by decide +kernel)))) (by decide +kernel)
theorem brow_of_cellsF {w : World} {g N : Nat} {bs : List Int} {P : Nat → Prop} {fr : Nat × Nat} (hl : bs.length = N) (hg : w.heap[g]? = some (.cells (bs.map encX).toArray 5 fr)) (hb : ∀ x ∈ bs, 0 ≤ x ∧ x < 256) (h6 : N ≤ 1000000) (hP : P g) : BRow w P (.slice (some ⟨g, 0, none⟩) N N) bs := by
  refine ⟨⟨some ⟨g, 0, none⟩, N, by rw [List.length_map, hl], by rw [List.length_map, hl]; exact Nat.le_refl _, fun _ => ⟨g, 0, rfl, hP, lt_of_block hg, fun j u hu => ?_⟩⟩, hb, by omega⟩
  simp only [World.cell?, hg, Nat.zero_add, Option.isSome_none, Bool.false_eq_true, if_false]
  rw [List.getElem?_toArray]
  exact hu
/-- Three bytes just made: a row that is none of the log's own. -/
theorem row3 {w : World} {base d r s n z : Nat} {D : DS} {h : Hd} {lv : Value} {vals : List Value} {L : List (List Int)} (H : RingAt w base d r s n z D h lv vals L) {bs : List Int} (hl : bs.length = 3) (hb : ∀ x ∈ bs, 0 ≤ x ∧ x < 256) {W : World} (hm : Moves (fun _ => False) w W) {g : Nat} {fr : Nat × Nat} (hg : W.heap[g]? = some (.cells (bs.map encX).toArray 5 fr)) (hn : w.heap.size ≤ g) : BRow W (fun q => ¬ ROwn W r d lv q) (.slice (some ⟨g, 0, none⟩) 3 3) bs :=
  brow_of_cellsF hl hg hb (by decide) (fun e => by have := H.lt (rown0 H hm e); omega)
end Go.Proofs.Ytnagpianaghjeaa.Rg
namespace Go.Proofs.Ytnagpianaghjeaa.Rg
open Go Go.RowKit Go.Proofs Go.Proofs.Ytnagpianaghjeaa.Sl
open Pl (DS IsDisk DOwn DPost DMv DKeep Clear DiskAt All2)

def TrueQ (w : World) (e : Ending) (w' : World) : Prop := e = .returned (.bool true) ∧ Moves (fun _ => False) w w'
theorem rmv_new {w W w' : World} {base r d s n z : Nat} {D : DS} {h : Hd} {lv lv' : Value} {vals : List Value} {L : List (List Int)} (H : RingAt W base d r s n z D h lv vals L) (h0 : Moves (fun _ => False) w W) (hb : w.heap.size ≤ base) (hm : RMv W r d lv w' lv') : Moves (fun _ => False) w w' :=
  h0.andThen hm.mv (fun i hi hlt => by have := H.low hi; omega)
theorem two_str : strOfNums two3 = ByteArray.mk #[116, 119, 111] := by decide +kernel
set_option maxRecDepth 100000 in
set_option maxHeartbeats 4000000 in
theorem rknown_any (w : World) : Calls Try.prog 27 #[] w (TrueQ w) := by
  have HNEW := Lib.hid (Pl.new_ok (n := 12) (z := 64) (by decide) (by decide) w)
  go_enter Try.func27, Try.ntmps27
  go_wp2_with fail
  refine HNEW.out.mono ?_
  rintro e w1 ⟨d, rfl, hd1, hm1⟩
  have hd1 : IsDisk w1 w.heap.size d (calmS 64 kz false 0 [] 0) := hd1
  have HF := Lib.hid (kn_format hd1)
  have HM1 := Lib.hid hm1
  have HD1 := Lib.hid hd1
  clear hd1 hm1
  go_wp2_with fail
  refine HF.out.mono ?_
  rintro e w2 ⟨r, rfl, hr, hR2, hv2⟩
  have HM2 := Lib.hid (under HD1.out HM1.out (Nat.le_refl _) hv2)
  have HM2a := Lib.hid ((Moves.refl (fun _ => False) w2).alloc (.cells #[.int .u8 111, .int .u8 110, .int .u8 101] 5 (3, 4)))
  have HR2 := Lib.hid (hR2.moves0 HM2a.out)
  have HA := Lib.hid (kn_one HR2.out (row3 hR2 (bs := one3) rfl (by decide) HM2a.out (heap_alloc_new w2 _) (Nat.le_refl _)))
  clear hR2 hv2 hr
  have kx := Lib.run_convert_bytes_const (P := Try.prog) w2 55 5 #[.int .u8 111, .int .u8 110, .int .u8 101] 3 3 Try.underlying55 Try.underlying5
  go_wp2_with fail
  clear kx
  refine HA.out.mono ?_
  rintro e w3 ⟨rfl, lv3, vals3, hR3, hv3⟩
  have HM3 := Lib.hid (rmv_new HR2.out (HM2.out.trans HM2a.out) (Nat.le_refl _) hv3)
  have HM3a := Lib.hid ((Moves.refl (fun _ => False) w3).alloc (.cells #[.int .u8 116, .int .u8 119, .int .u8 111] 5 (3, 4)))
  have HR3 := Lib.hid (hR3.moves0 HM3a.out)
  have HB := Lib.hid (kn_two HR3.out (row3 hR3 (bs := two3) rfl (by decide) HM3a.out (heap_alloc_new w3 _) (Nat.le_refl _)))
  clear hR3 hv3
  have kx := Lib.run_convert_bytes_const (P := Try.prog) w3 55 5 #[.int .u8 116, .int .u8 119, .int .u8 111] 3 3 Try.underlying55 Try.underlying5
  go_wp2_with fail
  clear kx
  refine HB.out.mono ?_
  rintro e w4 ⟨rfl, lv4, vals4, hR4, hv4⟩
  have HM4 := Lib.hid (rmv_new HR3.out (HM3.out.trans HM3a.out) (Nat.le_refl _) hv4)
  have HR4 := Lib.hid hR4
  have HT := Lib.hid (kn_trunc hR4)
  clear hR4 hv4
  go_wp2_with fail
  refine HT.out.mono ?_
  rintro e w5 ⟨rfl, lv5, vals5, hR5, hv5⟩
  have HM5 := Lib.hid (rmv_new HR4.out HM4.out (Nat.le_refl _) hv5)
  have HO := Lib.hid (kn_open hR5.dk)
  clear hR5 hv5
  go_wp2_with fail
  refine HO.out.mono ?_
  rintro e w6 ⟨r2, lv6, vals6, rfl, hr2, hR6, how6, hm6⟩
  have HM6 := Lib.hid (HM5.out.trans hm6)
  have HR6 := Lib.hid hR6
  have HRC := Lib.hid (recs_any hR6 (by decide))
  clear hR6 how6 hm6 hr2
  go_wp2_with fail
  refine HRC.out.mono ?_
  rintro e w7 ⟨lv7, vals7, rfl, hown7, hrows7, hm7⟩
  have hl7 : vals7.length = 1 := hrows7.1
  obtain ⟨v7, rfl⟩ : ∃ v, vals7 = [v] := by
    match vals7, hl7 with
    | [v], _ => exact ⟨v, rfl⟩
  have hrow7 : RB w6 w7 v7 two3 := hrows7.2 0 (by simp) (by simp)
  have hv8' := hrow7.1
  obtain ⟨A8, n8, hv8, -, -⟩ := hv8'
  have hv8 : v7 = .slice A8 3 n8 := hv8
  subst hv8
  obtain ⟨A7, c7, rfl, -, -, -, -, hx7⟩ := own_form hown7
  obtain ⟨g7, rfl, -, hgl7, hcell7⟩ := hx7 (by simp)
  have hc7 := hcell7 0 (.slice A8 3 n8) rfl
  have HM7 := Lib.hid (HM6.out.trans hm7)
  have HR7 := Lib.hid (HR6.out.moves0 hm7)
  have HBD := Lib.hid (kn_bad HR7.out.dk)
  have HROW7 := Lib.hid hrow7
  clear hown7 hrows7 hm7 hl7 hx7 hcell7 hrow7
  go_wp2_with fail
  refine HBD.out.mono ?_
  rintro e w8 ⟨rfl, hm8⟩
  have HM8 := Lib.hid (HM7.out.trans hm8)
  have HR8 := Lib.hid (HR7.out.moves0 hm8)
  have c8 := (hm8.cell (p := ⟨g7, 0, none⟩) hgl7 (fun e => e)).trans hc7
  have hcv : (convert 55 9 (.slice A8 3 n8)).run Try.prog w8 = .ok (.string (ByteArray.mk #[116, 119, 111])) w8 := by
    have h := conv_rowS (HROW7.out.moves hm8 (fun _ _ _ e => e)).1
    rw [two_str] at h
    exact h
  obtain ⟨Al, cl, rfl, -, -, -, -, -⟩ := own_form HR8.out.own
  have hvl : vals6.length = 1 := HR8.out.len
  have HNX : Hid (Calls Try.prog 34 #[.pointer (some ⟨r2, 0, none⟩)] w8 (MovV w8 (.int .u64 3))) := Lib.hid (by
    have h := next_any HR8.out.rb (by omega)
    rw [hvl] at h
    exact h)
  clear hm8 hc7 hgl7 hvl
  go_wp2_with (first
    | (go_at_call 34
       refine HNX.out.mono ?_
       rintro e w9 ⟨rfl, hm9⟩)
    | fail)
  go_ret
  exact ⟨rfl, HM8.out.trans hm9⟩
end Go.Proofs.Ytnagpianaghjeaa.Rg
