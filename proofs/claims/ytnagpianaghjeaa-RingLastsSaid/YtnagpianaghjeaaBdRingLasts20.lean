/-
  A head read from its slot.
-/
import Derived.Test.YtnagpianaghjeaaBdRingLasts16
import Derived.Test.YtnagpianaghjeaaBdRingLasts19
import Derived.BigRegion
import Derived.Deep.RegionHeld3
import Derived.Deep.RegionWith
import Derived.Deep.CutRange
namespace Go.Proofs.Ytnagpianaghjeaa.Rg
open Go Go.RowKit Go.Proofs Go.Proofs.Ytnagpianaghjeaa.Sl
open Pl (DS IsDisk DOwn DPost DMv DKeep)

theorem cell_one {w : World} {g : Nat} {v : Value} {t : TypeId} (h : w.heap[g]? = some (.cells #[v] t (0, 0))) : w.cell? ⟨g, 0, none⟩ = some v := by simp [World.cell?, h]
theorem set_one {w : World} {g : Nat} {v : Value} {t : TypeId} (h : w.heap[g]? = some (.cells #[v] t (0, 0))) (u : Value) : (w.setCell ⟨g, 0, none⟩ u).heap[g]? = some (.cells #[u] t (0, 0)) := by simp [World.setCell, Array.getElem?_modify, h]
theorem new_ne {w : World} {o : Obj} {g : Nat} (h : (w.alloc o).drew.heap.size ≤ g) : g ≠ w.heap.size := fun e => by
  have : (w.alloc o).drew.heap.size = w.heap.size + 1 := by simp [World.drew]
  omega
theorem set5 {w : World} {g : Nat} {z0 z1 z2 z3 z4 a0 a1 a2 a3 a4 : Value} {t : TypeId} (h : w.heap[g]? = some (.cells #[z0, z1, z2, z3, z4] t (0, 0))) : (((((w.setCell ⟨g, 0, none⟩ a0).setCell ⟨g, 1, none⟩ a1).setCell ⟨g, 2, none⟩ a2).setCell ⟨g, 3, none⟩ a3).setCell ⟨g, 4, none⟩ a4).heap[g]? = some (.cells #[a0, a1, a2, a3, a4] t (0, 0)) := by
  simp [World.setCell, Array.getElem?_modify, h]
theorem cells5 {w : World} {g : Nat} {a b c d e : Value} {t : TypeId} (h : w.heap[g]? = some (.cells #[a, b, c, d, e] t (0, 0))) : w.cell? ⟨g, 0, none⟩ = some a ∧ w.cell? ⟨g, 1, none⟩ = some b ∧ w.cell? ⟨g, 2, none⟩ = some c ∧ w.cell? ⟨g, 3, none⟩ = some d ∧ w.cell? ⟨g, 4, none⟩ = some e := by
  refine ⟨?_, ?_, ?_, ?_, ?_⟩ <;> simp [World.cell?, h]
theorem froz5 {w : World} {g : Nat} {a b c d e : Value} {t : TypeId} (h : w.heap[g]? = some (.cells #[a, b, c, d, e] t (0, 0))) : w.frozen? ⟨g, 0, none⟩ = false ∧ w.frozen? ⟨g, 1, none⟩ = false ∧ w.frozen? ⟨g, 2, none⟩ = false ∧ w.frozen? ⟨g, 3, none⟩ = false ∧ w.frozen? ⟨g, 4, none⟩ = false := by
  refine ⟨?_, ?_, ?_, ?_, ?_⟩ <;> simp [World.frozen?, h]
set_option maxHeartbeats 1000000 in
theorem rget_any {w : World} {L : Nat → Prop} {v : Value} {bs : List Int} (h : BRow w L v bs) {g : Nat} (hc : w.cell? ⟨g, 0, none⟩ = some v) (i : Nat) (hi : i ≤ 5) (hl : 48 ≤ bs.length) : Calls Try.prog 127 #[.int .i64 i, .pointer (some ⟨g, 0, none⟩)] w (SameV w (.int .u64 (getL bs (8 * i) 8))) := by
  have HG := Lib.hid (get_ok h (p := 8 * i) (n := 8) (by omega) (by omega) (by omega))
  obtain ⟨⟨A, c, rfl, -⟩, -⟩ := h
  rw [List.length_map] at hc HG
  generalize getL bs (8 * i) 8 = x at HG ⊢
  have e : ((8 * i : Nat) : Int) = 8 * (i : Int) := by omega
  rw [e] at HG
  have b0 : (0 : Int) ≤ (i : Int) := by omega
  have b1 : (i : Int) ≤ 5 := by omega
  clear e hl hi
  go_enter Try.func127, Try.ntmps127
  go_wp2_with (first | (go_at_call 103; refine HG.out.mono ?_; rintro e w1 ⟨rfl, rfl⟩) | fail)
  go_ret
  exact ⟨rfl, rfl⟩
/-- A disk on which nothing waits: any sector of it. -/
theorem sec_read {w : World} {base d z : Nat} {K : List (List Int)} {a : Bool} {l : Int} {k : List Bool} {wr : Int} (hD : IsDisk w base d (calmS z K a l k wr)) (hz : 1 ≤ z ∧ z ≤ 1000000) {i : Nat} (hi : i < K.length) {s : List Int} (hs : K.getD i [] = s) (hb : ∀ x ∈ s, 0 ≤ x ∧ x < 256) (hl : s.length = z) :
    Calls Try.prog 62 #[.pointer (some ⟨d, 0, none⟩), .int .i64 i] w (fun e w' => ∃ g, e = .returned (.tuple #[.slice (some ⟨g, 0, none⟩) z z, .int .i64 0]) ∧ w.heap.size ≤ g ∧ BRow w' (fun k => k = g) (.slice (some ⟨g, 0, none⟩) z z) s ∧ Moves (fun _ => False) w w') := by
  have h := Pl.read_ok hD rfl (i := i) (by unfold Pl.inS calmS; simp; omega) (by show 0 < z; omega) (by show z ≤ 1000000; omega) (bs := s) hs
  refine h.mono fun e w' hr => ?_
  obtain ⟨g, h1, h2, h3, h4⟩ := read_row hr hb (by omega)
  rw [hl] at h1 h3
  exact ⟨g, h1, h2, h3, h4⟩
set_option maxRecDepth 100000 in
set_option maxHeartbeats 8000000 in
theorem rread_any {w : World} {base d r s n z : Nat} {h : Hd} {lv : Value} {K : List (List Int)} {a : Bool} {l : Int} {k : List Bool} {wr : Int} (hD : IsDisk w base d (calmS z K a l k wr)) (hb : RingB w r d s n z h lv) (hn : 8 ≤ n ∧ n ≤ 16384) (hz : 64 ≤ z ∧ z ≤ 1000000) (hs : s + n ≤ K.length) (hs2 : s ≤ 16384) {i : Nat} (hi : i < 2) {S : List Int} (hS : K.getD (s + i) [] = S) (hSb : ∀ x ∈ S, 0 ≤ x ∧ x < 256) (hSl : S.length = z) :
    Calls Try.prog 110 #[.pointer (some ⟨r, 0, none⟩), .int .i64 i] w (MovV w (.tuple #[hdV (hdS S), .bool (decide (okS (n - 2) i S))])) := by
  have HRD := Lib.hid (fun W (hW : Moves (fun _ => False) w W) => sec_read (hD.moves0 hW) (by omega) (i := s + i) (by omega) hS hSb hSl)
  rw [Int.natCast_add] at HRD
  have HRG := Lib.hid (fun W (hW : Moves (fun _ => False) w W) => area_any (hb.moves0 hW) hn)
  obtain ⟨c0, c1, -⟩ := hb.cells
  have hrl := lt_of_block hb
  have hg := hdS_wf hSb
  have hmg := getL_nonneg hSb 0 8
  have G0 : Hid (∀ W g gv, BRow W (fun k => k = gv) (.slice (some ⟨gv, 0, none⟩) z z) S → W.cell? ⟨g, 0, none⟩ = some (.slice (some ⟨gv, 0, none⟩) z z) → Calls Try.prog 127 #[.int .i64 0, .pointer (some ⟨g, 0, none⟩)] W (SameV W (.int .u64 (getL S 0 8)))) := Lib.hid (fun W g gv hrow hc => rget_any hrow hc 0 (by omega) (by omega))
  have G1 : Hid (∀ W g gv, BRow W (fun k => k = gv) (.slice (some ⟨gv, 0, none⟩) z z) S → W.cell? ⟨g, 0, none⟩ = some (.slice (some ⟨gv, 0, none⟩) z z) → Calls Try.prog 127 #[.int .i64 1, .pointer (some ⟨g, 0, none⟩)] W (SameV W (.int .u64 (getL S 8 8)))) := Lib.hid (fun W g gv hrow hc => rget_any hrow hc 1 (by omega) (by omega))
  have G2 : Hid (∀ W g gv, BRow W (fun k => k = gv) (.slice (some ⟨gv, 0, none⟩) z z) S → W.cell? ⟨g, 0, none⟩ = some (.slice (some ⟨gv, 0, none⟩) z z) → Calls Try.prog 127 #[.int .i64 2, .pointer (some ⟨g, 0, none⟩)] W (SameV W (.int .u64 (getL S 16 8)))) := Lib.hid (fun W g gv hrow hc => rget_any hrow hc 2 (by omega) (by omega))
  have G3 : Hid (∀ W g gv, BRow W (fun k => k = gv) (.slice (some ⟨gv, 0, none⟩) z z) S → W.cell? ⟨g, 0, none⟩ = some (.slice (some ⟨gv, 0, none⟩) z z) → Calls Try.prog 127 #[.int .i64 3, .pointer (some ⟨g, 0, none⟩)] W (SameV W (.int .u64 (getL S 24 8)))) := Lib.hid (fun W g gv hrow hc => rget_any hrow hc 3 (by omega) (by omega))
  have G4 : Hid (∀ W g gv, BRow W (fun k => k = gv) (.slice (some ⟨gv, 0, none⟩) z z) S → W.cell? ⟨g, 0, none⟩ = some (.slice (some ⟨gv, 0, none⟩) z z) → Calls Try.prog 127 #[.int .i64 4, .pointer (some ⟨g, 0, none⟩)] W (SameV W (.int .u64 (getL S 32 8)))) := Lib.hid (fun W g gv hrow hc => rget_any hrow hc 4 (by omega) (by omega))
  have G5 : Hid (∀ W g gv, BRow W (fun k => k = gv) (.slice (some ⟨gv, 0, none⟩) z z) S → W.cell? ⟨g, 0, none⟩ = some (.slice (some ⟨gv, 0, none⟩) z z) → Calls Try.prog 127 #[.int .i64 5, .pointer (some ⟨g, 0, none⟩)] W (SameV W (.int .u64 (getL S 40 8)))) := Lib.hid (fun W g gv hrow hc => rget_any hrow hc 5 (by omega) (by omega))
  have hok : decide (okS (n - 2) i S) = decide (getL S 0 8 = 1196312914 ∧ getL S 8 8 % 2 = i ∧ 0 < getL S 16 8 ∧ getL S 32 8 < ((n - 2 : Nat) : Int) ∧ getL S 40 8 ≤ ((n - 2 : Nat) : Int) ∧ getL S 24 8 ≤ getL S 40 8) := rfl
  rw [hok]
  unfold hdS
  unfold hdS at hg
  generalize getL S 0 8 = x0 at G0 hmg ⊢
  generalize getL S 8 8 = x1 at G1 hg ⊢
  generalize getL S 16 8 = x2 at G2 hg ⊢
  generalize getL S 24 8 = x3 at G3 hg ⊢
  generalize getL S 32 8 = x4 at G4 hg ⊢
  generalize getL S 40 8 = x5 at G5 hg ⊢
  have hm16 : n - 2 ≤ 16384 := by omega
  generalize n - 2 = m at HRG hm16 ⊢
  obtain ⟨bb, hbb⟩ : ∃ bb, decide (x0 = 1196312914 ∧ x1 % 2 = i ∧ 0 < x2 ∧ x4 < (m : Int) ∧ x5 ≤ (m : Int) ∧ x3 ≤ x5) = bb := ⟨_, rfl⟩
  rw [hbb]
  have HBB := Lib.hid hbb
  have HQ : Hid (∀ e w', e = .returned (.tuple #[.agg #[.int .u64 x1, .int .u64 x2, .int .u64 x3, .int .u64 x4, .int .u64 x5], .bool bb]) → Moves (fun _ => False) w w' → MovV w (.tuple #[hdV ⟨x1, x2, x3, x4, x5⟩, .bool bb]) e w') := Lib.hid fun e w' h1 h2 => ⟨h1, h2⟩
  generalize MovV w (.tuple #[hdV ⟨x1, x2, x3, x4, x5⟩, .bool bb]) = Q at HQ ⊢
  have hand : wrap64 (bits .and .u64 x1 1) = x1 % 2 := and_one hg.1.1 hg.1.2
  have HAND := Lib.hid hand
  clear hok hD hb hSb hSl hS hs hbb hmg hg hand hn hz
  have b0 : (0 : Int) ≤ (i : Int) := by omega
  have b1 : (i : Int) ≤ 1 := by omega
  have b2 : (0 : Int) ≤ (s : Int) := by omega
  have b3 : (s : Int) ≤ 16384 := by omega
  have b4 : (m : Int) ≤ 16384 := by omega
  have b5 : (0 : Int) ≤ (m : Int) := by omega
  have wm : IntKind.u64.wrap (m : Int) = (m : Int) := IntWalk.u64_in _ (by omega)
  have wsi : IntKind.i64.wrap ((s : Int) + (i : Int)) = (s : Int) + (i : Int) := IntWalk.i64_in _ (by omega)
  have M0 := Lib.hid ((Moves.refl (fun _ => False) w).alloc (.cells #[.int .u64 0, .int .u64 0, .int .u64 0, .int .u64 0, .int .u64 0] 118))
  have B0 := Lib.hid (heap_alloc_new w (.cells #[.int .u64 0, .int .u64 0, .int .u64 0, .int .u64 0, .int .u64 0] 118))
  have HC : Hid (∀ W, Moves (fun _ => False) w W → W.cell? ⟨r, 0, none⟩ = some (.pointer (some ⟨d, 0, none⟩)) ∧ W.cell? ⟨r, 1, none⟩ = some (.int .i64 s)) := Lib.hid (fun W hW => ⟨(hW.cell (p := ⟨r, 0, none⟩) hrl (fun e => e)).trans c0, (hW.cell (p := ⟨r, 1, none⟩) hrl (fun e => e)).trans c1⟩)
  clear c0 c1
  go_enter Try.func110, Try.ntmps110
  go_upto_region 1 with fail
  generalize w.alloc (.cells #[.int .u64 0, .int .u64 0, .int .u64 0, .int .u64 0, .int .u64 0] 118) = W0 at M0 B0 ⊢
  have HGH : Hid (w.heap.size ≤ w.heap.size) := Lib.hid (Nat.le_refl _)
  obtain ⟨gh, hgh⟩ : ∃ x, x = w.heap.size := ⟨_, rfl⟩
  rw [← hgh] at B0 ⊢
  have HGH : Hid (w.heap.size ≤ gh) := Lib.hid (by omega)
  clear hgh
  have hs0 := lt_of_block B0.out
  have HNN : Hid (∀ w', KpS W0 w' → KpS W0 w' ∧ w'.cell? ⟨r, 0, none⟩ = some (.pointer (some ⟨d, 0, none⟩)) ∧ w'.cell? ⟨r, 1, none⟩ = some (.int .i64 s)) := Lib.hid (fun w' hk => ⟨hk, HC.out _ (M0.out.trans (KpS.moves hk))⟩)
  obtain ⟨gx0, hgx0⟩ : ∃ x, W0.heap.size = x := ⟨_, rfl⟩
  have HGX := Lib.hid hgx0
  clear hgx0
  have hK0 := HNN.out W0.drew (KpS.of (Moves.refl (fun _ => False) W0).drew)
  have hK1 := HNN.out (W0.alloc (.cells #[.slice none 0 0] 55)).drew (KpS.of ((Moves.refl (fun _ => False) W0).alloc _).drew)
  have HX : Hid (((W0.alloc (.cells #[.slice none 0 0] 55)).drew).heap[W0.heap.size]? = some (.cells #[.slice none 0 0] 55 (0, 0))) := Lib.hid (heap_alloc_new W0 _)
  go_cut [6, 7] from 12 (fun s6 s7 wc => ∃ gv gx, s6 = .pointer (some ⟨gx, 0, none⟩) ∧ s7 = .int .i64 0 ∧ Hid (wc.heap[gx]? = some (.cells #[.slice (some ⟨gv, 0, none⟩) z z] 55 (0, 0)) ∧ BRow wc (fun k => k = gv) (.slice (some ⟨gv, 0, none⟩) z z) S ∧ Moves (fun _ => False) W0 wc))
  case first =>
    go_region_held3 (fun w' => KpS W0 w' ∧ w'.cell? ⟨r, 0, none⟩ = some (.pointer (some ⟨d, 0, none⟩)) ∧ w'.cell? ⟨r, 1, none⟩ = some (.int .i64 s))
      (first | with_reducible exact hS' | with_reducible exact hK0 | with_reducible exact hK1 | with_reducible exact hS2 _ | with_reducible exact hS3 _ | assumption)
      (first
        | (go_at_call 62
           with_reducible refine (HRD.out W0.drew M0.out.drew).mono ?_
           rintro e w6 ⟨gv, rfl, hgv, hrow, hm6⟩
           have hS' := HNN.out w6 (KpS.of ((Moves.refl (fun _ => False) W0).drew.trans hm6))
           have hS3 := fun o => HNN.out (w6.alloc o) (KpS.of (((Moves.refl (fun _ => False) W0).drew.trans hm6).alloc o)))
        | (go_at_call 62
           with_reducible refine (HRD.out (W0.alloc (.cells #[.slice none 0 0] 55)).drew (M0.out.alloc _).drew).mono ?_
           rintro e w6 ⟨gv, rfl, hgv, hrow, hm6⟩
           have hS' := HNN.out w6 (KpS.of (((Moves.refl (fun _ => False) W0).alloc _).drew.trans hm6))
           have hS2 := fun v => HNN.out (w6.setCell ⟨W0.heap.size, 0, none⟩ v) (KpS.of (Moves.setCell (p := ⟨W0.heap.size, 0, none⟩) (((Moves.refl (fun _ => False) W0).alloc _).drew.trans hm6) (fun h => absurd h (Nat.lt_irrefl _)) v))
           have hx6 := (hm6.block _ (lt_of_block HX.out) (fun e => e)).trans HX.out
           have hx1 := cell_one hx6
           have hx2 : w6.frozen? ⟨W0.heap.size, 0, none⟩ = false := by simp [World.frozen?, hx6])
        | fail)
    all_goals
      go_wp2_with fail
      first
      | (go_meet
         case rel => exact ⟨gv, _, rfl, rfl, Lib.hid ⟨heap_alloc_new w6 _, hrow.moves ((Moves.refl (fun _ => False) w6).alloc _) (fun _ _ _ e => e), ((Moves.refl (fun _ => False) W0).drew.trans hm6).alloc _⟩⟩)
      | (go_meet
         case rel => exact ⟨gv, _, rfl, rfl, Lib.hid ⟨set_one hx6 _, hrow.moves (Moves.setCell (p := ⟨W0.heap.size, 0, none⟩) (Moves.refl (fun k => k = W0.heap.size) w6) (fun _ => rfl) _) (fun k hk _ e => new_ne hgv (hk.symm.trans e)), Moves.setCell (p := ⟨W0.heap.size, 0, none⟩) (((Moves.refl (fun _ => False) W0).alloc _).drew.trans hm6) (fun h => absurd h (Nat.lt_irrefl _)) _⟩⟩)
  case rest =>
    obtain ⟨gv, gx, rfl, rfl, HI⟩ := hcut
    have HXC := Lib.hid (cell_one HI.out.1)
    have MW := Lib.hid (M0.out.trans HI.out.2.2)
    have HROW := Lib.hid HI.out.2.1
    have B1 := Lib.hid ((HI.out.2.2.block _ (lt_of_block B0.out) (fun e => e)).trans B0.out)
    clear HRD HC HNN hK0 hK1 HX HI M0 B0 hs0 wsi
    go_wp2_with fail
    refine (G1.out wc gx gv HROW.out HXC.out).mono ?_
    rintro e w11 ⟨rfl, rfl⟩
    go_wp2_with fail
    refine (G2.out wc gx gv HROW.out HXC.out).mono ?_
    rintro e w12 ⟨rfl, rfl⟩
    go_wp2_with fail
    refine (G3.out wc gx gv HROW.out HXC.out).mono ?_
    rintro e w13 ⟨rfl, rfl⟩
    go_wp2_with fail
    refine (G4.out wc gx gv HROW.out HXC.out).mono ?_
    rintro e w14 ⟨rfl, rfl⟩
    go_wp2_with fail
    refine (G5.out wc gx gv HROW.out HXC.out).mono ?_
    rintro e w15 ⟨rfl, rfl⟩
    have MA := Lib.hid ((Moves.refl (fun _ => False) wc).alloc (.cells #[.int .u64 x1, .int .u64 x2, .int .u64 x3, .int .u64 x4, .int .u64 x5] 118))
    have BA := Lib.hid (heap_alloc_new wc (.cells #[.int .u64 x1, .int .u64 x2, .int .u64 x3, .int .u64 x4, .int .u64 x5] 118))
    have HNE : Hid (gh < wc.heap.size) := Lib.hid (lt_of_block B1.out)
    go_wp2_with fail
    generalize wc.alloc (.cells #[.int .u64 x1, .int .u64 x2, .int .u64 x3, .int .u64 x4, .int .u64 x5] 118) = W2 at MA BA ⊢
    generalize wc.heap.size = ga at BA HNE ⊢
    have MW2 := Lib.hid (MW.out.trans MA.out)
    have BG := Lib.hid ((MA.out.block _ (lt_of_block B1.out) (fun e => e)).trans B1.out)
    have HR2 := Lib.hid (HROW.out.moves MA.out (fun _ _ _ e => e))
    have HX2 := Lib.hid ((MA.out.cell (p := ⟨gx, 0, none⟩) (World.block_lt_of_cell? wc _ HXC.out) (fun e => e)).trans HXC.out)
    refine (HRG.out W2 MW2.out).mono ?_
    rintro e w21 ⟨rfl, rfl⟩
    go_wp2_with fail
    refine (G0.out W2 gx gv HR2.out HX2.out).mono ?_
    rintro e w22 ⟨rfl, rfl⟩
    clear G0 G1 G2 G3 G4 G5 HRG HR2 HX2 HROW HXC MW MA B1
    have y := BA.out
    obtain ⟨y0, y1, y2, y3, y4⟩ := cells5 y
    obtain ⟨v0, v1, v2, v3, v4⟩ := cells5 BG.out
    obtain ⟨f0, f1, f2, f3, f4⟩ := froz5 BG.out
    clear y
    have hne : gh < ga := HNE.out
    by_cases m0 : x0 = 1196312914
    · have q0 : (x0 == 1196312914) = true := by simpa using m0
      by_cases m1 : x1 % 2 = (i : Int)
      · have hand : wrap64 (bits .and .u64 x1 1) = (i : Int) := HAND.out.trans m1
        by_cases m2 : 0 < x2
        · skip
          by_cases m3 : x4 < (m : Int)
          · skip
            by_cases m4 : x5 ≤ (m : Int)
            · skip
              by_cases m5 : x3 ≤ x5
              · skip
                obtain rfl : bb = true := by have h := HBB.out; rw [← h]; exact decide_eq_true ⟨m0, m1, m2, m3, m4, m5⟩
                go_wp2_with fail
                go_region
                go_wp2
                have e5 := set5 (a0 := .int .u64 x1) (a1 := .int .u64 x2) (a2 := .int .u64 x3) (a3 := .int .u64 x4) (a4 := .int .u64 x5) BG.out
                have hm : Moves (fun _ => False) w (((((W2.setCell ⟨gh, 0, none⟩ (.int .u64 x1)).setCell ⟨gh, 1, none⟩ (.int .u64 x2)).setCell ⟨gh, 2, none⟩ (.int .u64 x3)).setCell ⟨gh, 3, none⟩ (.int .u64 x4)).setCell ⟨gh, 4, none⟩ (.int .u64 x5)) := by
                  repeat (refine Moves.setCell ?_ (fun (e : gh < w.heap.size) => absurd e (by have := HGH.out; omega)) _)
                  exact MW2.out
                generalize ((((W2.setCell ⟨gh, 0, none⟩ (.int .u64 x1)).setCell ⟨gh, 1, none⟩ (.int .u64 x2)).setCell ⟨gh, 2, none⟩ (.int .u64 x3)).setCell ⟨gh, 3, none⟩ (.int .u64 x4)).setCell ⟨gh, 4, none⟩ (.int .u64 x5) = Y at e5 hm ⊢
                obtain ⟨n0, n1, n2, n3, n4⟩ := cells5 e5
                exact bodyPost_ret (v := .tuple #[.agg #[.int .u64 x1, .int .u64 x2, .int .u64 x3, .int .u64 x4, .int .u64 x5], .bool true]) (by simp [results, Try.results110, go_sem, n0, n1, n2, n3, n4]) rfl (HQ.out _ _ rfl hm.drew)
              · have hd : decide (x3 ≤ x5) = false := decide_eq_false m5
                obtain rfl : bb = false := by have h := HBB.out; rw [← h]; exact decide_eq_false (fun h => m5 h.2.2.2.2.2)
                go_wp2_with fail
                go_region
                go_wp2
                have e5 := set5 (a0 := .int .u64 x1) (a1 := .int .u64 x2) (a2 := .int .u64 x3) (a3 := .int .u64 x4) (a4 := .int .u64 x5) BG.out
                have hm : Moves (fun _ => False) w (((((W2.setCell ⟨gh, 0, none⟩ (.int .u64 x1)).setCell ⟨gh, 1, none⟩ (.int .u64 x2)).setCell ⟨gh, 2, none⟩ (.int .u64 x3)).setCell ⟨gh, 3, none⟩ (.int .u64 x4)).setCell ⟨gh, 4, none⟩ (.int .u64 x5)) := by
                  repeat (refine Moves.setCell ?_ (fun (e : gh < w.heap.size) => absurd e (by have := HGH.out; omega)) _)
                  exact MW2.out
                generalize ((((W2.setCell ⟨gh, 0, none⟩ (.int .u64 x1)).setCell ⟨gh, 1, none⟩ (.int .u64 x2)).setCell ⟨gh, 2, none⟩ (.int .u64 x3)).setCell ⟨gh, 3, none⟩ (.int .u64 x4)).setCell ⟨gh, 4, none⟩ (.int .u64 x5) = Y at e5 hm ⊢
                obtain ⟨n0, n1, n2, n3, n4⟩ := cells5 e5
                exact bodyPost_ret (v := .tuple #[.agg #[.int .u64 x1, .int .u64 x2, .int .u64 x3, .int .u64 x4, .int .u64 x5], .bool false]) (by simp [results, Try.results110, go_sem, n0, n1, n2, n3, n4]) rfl (HQ.out _ _ rfl hm.drew)
            · have hd : decide (x5 ≤ (m : Int)) = false := decide_eq_false m4
              obtain rfl : bb = false := by have h := HBB.out; rw [← h]; exact decide_eq_false (fun h => m4 h.2.2.2.2.1)
              go_wp2_with fail
              go_region
              go_wp2
              have e5 := set5 (a0 := .int .u64 x1) (a1 := .int .u64 x2) (a2 := .int .u64 x3) (a3 := .int .u64 x4) (a4 := .int .u64 x5) BG.out
              have hm : Moves (fun _ => False) w (((((W2.setCell ⟨gh, 0, none⟩ (.int .u64 x1)).setCell ⟨gh, 1, none⟩ (.int .u64 x2)).setCell ⟨gh, 2, none⟩ (.int .u64 x3)).setCell ⟨gh, 3, none⟩ (.int .u64 x4)).setCell ⟨gh, 4, none⟩ (.int .u64 x5)) := by
                repeat (refine Moves.setCell ?_ (fun (e : gh < w.heap.size) => absurd e (by have := HGH.out; omega)) _)
                exact MW2.out
              generalize ((((W2.setCell ⟨gh, 0, none⟩ (.int .u64 x1)).setCell ⟨gh, 1, none⟩ (.int .u64 x2)).setCell ⟨gh, 2, none⟩ (.int .u64 x3)).setCell ⟨gh, 3, none⟩ (.int .u64 x4)).setCell ⟨gh, 4, none⟩ (.int .u64 x5) = Y at e5 hm ⊢
              obtain ⟨n0, n1, n2, n3, n4⟩ := cells5 e5
              exact bodyPost_ret (v := .tuple #[.agg #[.int .u64 x1, .int .u64 x2, .int .u64 x3, .int .u64 x4, .int .u64 x5], .bool false]) (by simp [results, Try.results110, go_sem, n0, n1, n2, n3, n4]) rfl (HQ.out _ _ rfl hm.drew)
          · have hd : decide (x4 < (m : Int)) = false := decide_eq_false m3
            obtain rfl : bb = false := by have h := HBB.out; rw [← h]; exact decide_eq_false (fun h => m3 h.2.2.2.1)
            go_wp2_with fail
            go_region
            go_wp2
            have e5 := set5 (a0 := .int .u64 x1) (a1 := .int .u64 x2) (a2 := .int .u64 x3) (a3 := .int .u64 x4) (a4 := .int .u64 x5) BG.out
            have hm : Moves (fun _ => False) w (((((W2.setCell ⟨gh, 0, none⟩ (.int .u64 x1)).setCell ⟨gh, 1, none⟩ (.int .u64 x2)).setCell ⟨gh, 2, none⟩ (.int .u64 x3)).setCell ⟨gh, 3, none⟩ (.int .u64 x4)).setCell ⟨gh, 4, none⟩ (.int .u64 x5)) := by
              repeat (refine Moves.setCell ?_ (fun (e : gh < w.heap.size) => absurd e (by have := HGH.out; omega)) _)
              exact MW2.out
            generalize ((((W2.setCell ⟨gh, 0, none⟩ (.int .u64 x1)).setCell ⟨gh, 1, none⟩ (.int .u64 x2)).setCell ⟨gh, 2, none⟩ (.int .u64 x3)).setCell ⟨gh, 3, none⟩ (.int .u64 x4)).setCell ⟨gh, 4, none⟩ (.int .u64 x5) = Y at e5 hm ⊢
            obtain ⟨n0, n1, n2, n3, n4⟩ := cells5 e5
            exact bodyPost_ret (v := .tuple #[.agg #[.int .u64 x1, .int .u64 x2, .int .u64 x3, .int .u64 x4, .int .u64 x5], .bool false]) (by simp [results, Try.results110, go_sem, n0, n1, n2, n3, n4]) rfl (HQ.out _ _ rfl hm.drew)
        · have hd : decide (0 < x2) = false := decide_eq_false m2
          obtain rfl : bb = false := by have h := HBB.out; rw [← h]; exact decide_eq_false (fun h => m2 h.2.2.1)
          go_wp2_with fail
          go_region
          go_wp2
          have e5 := set5 (a0 := .int .u64 x1) (a1 := .int .u64 x2) (a2 := .int .u64 x3) (a3 := .int .u64 x4) (a4 := .int .u64 x5) BG.out
          have hm : Moves (fun _ => False) w (((((W2.setCell ⟨gh, 0, none⟩ (.int .u64 x1)).setCell ⟨gh, 1, none⟩ (.int .u64 x2)).setCell ⟨gh, 2, none⟩ (.int .u64 x3)).setCell ⟨gh, 3, none⟩ (.int .u64 x4)).setCell ⟨gh, 4, none⟩ (.int .u64 x5)) := by
            repeat (refine Moves.setCell ?_ (fun (e : gh < w.heap.size) => absurd e (by have := HGH.out; omega)) _)
            exact MW2.out
          generalize ((((W2.setCell ⟨gh, 0, none⟩ (.int .u64 x1)).setCell ⟨gh, 1, none⟩ (.int .u64 x2)).setCell ⟨gh, 2, none⟩ (.int .u64 x3)).setCell ⟨gh, 3, none⟩ (.int .u64 x4)).setCell ⟨gh, 4, none⟩ (.int .u64 x5) = Y at e5 hm ⊢
          obtain ⟨n0, n1, n2, n3, n4⟩ := cells5 e5
          exact bodyPost_ret (v := .tuple #[.agg #[.int .u64 x1, .int .u64 x2, .int .u64 x3, .int .u64 x4, .int .u64 x5], .bool false]) (by simp [results, Try.results110, go_sem, n0, n1, n2, n3, n4]) rfl (HQ.out _ _ rfl hm.drew)
      · have hand : wrap64 (bits .and .u64 x1 1) = x1 % 2 := HAND.out
        have q1 : (x1 % 2 == (i : Int)) = false := by simpa using m1
        obtain rfl : bb = false := by have h := HBB.out; rw [← h]; exact decide_eq_false (fun h => m1 h.2.1)
        go_wp2_with fail
        go_region
        go_wp2
        have e5 := set5 (a0 := .int .u64 x1) (a1 := .int .u64 x2) (a2 := .int .u64 x3) (a3 := .int .u64 x4) (a4 := .int .u64 x5) BG.out
        have hm : Moves (fun _ => False) w (((((W2.setCell ⟨gh, 0, none⟩ (.int .u64 x1)).setCell ⟨gh, 1, none⟩ (.int .u64 x2)).setCell ⟨gh, 2, none⟩ (.int .u64 x3)).setCell ⟨gh, 3, none⟩ (.int .u64 x4)).setCell ⟨gh, 4, none⟩ (.int .u64 x5)) := by
          repeat (refine Moves.setCell ?_ (fun (e : gh < w.heap.size) => absurd e (by have := HGH.out; omega)) _)
          exact MW2.out
        generalize ((((W2.setCell ⟨gh, 0, none⟩ (.int .u64 x1)).setCell ⟨gh, 1, none⟩ (.int .u64 x2)).setCell ⟨gh, 2, none⟩ (.int .u64 x3)).setCell ⟨gh, 3, none⟩ (.int .u64 x4)).setCell ⟨gh, 4, none⟩ (.int .u64 x5) = Y at e5 hm ⊢
        obtain ⟨n0, n1, n2, n3, n4⟩ := cells5 e5
        exact bodyPost_ret (v := .tuple #[.agg #[.int .u64 x1, .int .u64 x2, .int .u64 x3, .int .u64 x4, .int .u64 x5], .bool false]) (by simp [results, Try.results110, go_sem, n0, n1, n2, n3, n4]) rfl (HQ.out _ _ rfl hm.drew)
    · have q0 : (x0 == 1196312914) = false := by simpa using m0
      obtain rfl : bb = false := by have h := HBB.out; rw [← h]; exact decide_eq_false (fun h => m0 h.1)
      go_wp2_with fail
      go_region
      go_wp2
      have e5 := set5 (a0 := .int .u64 x1) (a1 := .int .u64 x2) (a2 := .int .u64 x3) (a3 := .int .u64 x4) (a4 := .int .u64 x5) BG.out
      have hm : Moves (fun _ => False) w (((((W2.setCell ⟨gh, 0, none⟩ (.int .u64 x1)).setCell ⟨gh, 1, none⟩ (.int .u64 x2)).setCell ⟨gh, 2, none⟩ (.int .u64 x3)).setCell ⟨gh, 3, none⟩ (.int .u64 x4)).setCell ⟨gh, 4, none⟩ (.int .u64 x5)) := by
        repeat (refine Moves.setCell ?_ (fun (e : gh < w.heap.size) => absurd e (by have := HGH.out; omega)) _)
        exact MW2.out
      generalize ((((W2.setCell ⟨gh, 0, none⟩ (.int .u64 x1)).setCell ⟨gh, 1, none⟩ (.int .u64 x2)).setCell ⟨gh, 2, none⟩ (.int .u64 x3)).setCell ⟨gh, 3, none⟩ (.int .u64 x4)).setCell ⟨gh, 4, none⟩ (.int .u64 x5) = Y at e5 hm ⊢
      obtain ⟨n0, n1, n2, n3, n4⟩ := cells5 e5
      exact bodyPost_ret (v := .tuple #[.agg #[.int .u64 x1, .int .u64 x2, .int .u64 x3, .int .u64 x4, .int .u64 x5], .bool false]) (by simp [results, Try.results110, go_sem, n0, n1, n2, n3, n4]) rfl (HQ.out _ _ rfl hm.drew)
end Go.Proofs.Ytnagpianaghjeaa.Rg
