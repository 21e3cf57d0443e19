/-
  The walk of SlotsShapes.
-/
import Derived.Test.YtnagpianaghjeaaSlotsKnown
import Derived.Test.YtnagpianaghjeaaOpen
import Derived.Lib.SmallJoins
import Derived.BigQuiet
import Derived.Deep.QuietTactic
import Derived.Deep.RegionHeld3
namespace Go.Proofs.Ytnagpianaghjeaa.Sl
open Go Go.RowKit Go.Proofs
open Pl (DS IsDisk DOwn DPost DMv DKeep)

def Wg (g : Geo) : Prop := (Lit.int .i64 g.sector).wf = true ∧ (Lit.int .i64 g.log).wf = true ∧ (Lit.int .i64 g.words).wf = true
open Go.ChangeShapes Go.WideShapes Go.Deep Go.Joins in
set_option maxRecDepth 100000 in
theorem open_geom {H : Type} {enc : TypeId × Value → H} {W : World} {r : Reach} {b0 : Nat} {v : Value} {d : DataW H} {p : List MemPlace} (hv : Value.okWide Try.prog W r b0 25 v) (h : DataW.Trod enc Try.prog W 0 (fun _ => true) true 25 v d p) :
    ∃ g : Geo, v = geoV g ∧ Wg g := by
  obtain ⟨u0, u1, u2, y0, y1, y2, n, rfl, -, -, h0, h1, h2⟩ := open_agg3 Try.underlying25 (by kernel_rfl) (by kernel_rfl) hv h
  obtain ⟨n0, e0, rfl, w0⟩ := DataW.trod_int Try.underlying3 h0
  obtain ⟨n1, e1, rfl, w1⟩ := DataW.trod_int Try.underlying3 h1
  obtain ⟨n2, e2, rfl, w2⟩ := DataW.trod_int Try.underlying3 h2
  simp at e0 e1 e2
  subst e0 e1 e2
  exact ⟨⟨n0, n1, n2⟩, rfl, w0, w1, w2⟩
/-- What a block with nothing in it is, of a shape. -/
abbrev shV (h : Geo) : Value := .agg #[.int .u64 0, .int .i64 h.sector, .int .i64 h.log, .int .i64 h.words, .int .i64 0, .int .i64 0, .int .u64 0]
theorem good_sh {h : Geo} (hg : GoodG h) : GoodB ⟨0, h, 0, 0, 0⟩ := ⟨hg, Int.le_refl 0, by show (0 : Int) ≤ 1; decide, Int.le_refl 0, by have := hg.2.1.2.2.1; show 0 ≤ h.words; omega⟩
theorem wf_sh (h : Geo) : WfB ⟨0, h, 0, 0, 0⟩ := ⟨Int.le_refl 0, by show (0 : Int) < 256 ^ 8; decide, Int.le_refl 0, by show (0 : Int) < 256 ^ 8; decide⟩
def newG (g : Geo) : DS := Pl.newS (secsN g) (sizeN g)
theorem fits_new {g : Geo} (h : Geo) (hg : FreshG g) : fitsB (newG g) h = true ↔ h.sector = g.sector ∧ secsG h ≤ secsG g := by
  rw [fits_iff]
  have h1 : ((newG g).size : Int) = g.sector := by show ((g.sector.toNat : Nat) : Int) = _; have := hg.1.1.1; omega
  have h2 : ((newG g).kept.length : Int) = secsG g := by
    show (((List.replicate (secsN g) (List.replicate (sizeN g) 0)).length : Nat) : Int) = _
    rw [List.length_replicate]
    have := hg.1.secs
    unfold secsN
    omega
  rw [h1, h2]
theorem write_sh {w : World} {base d : Nat} {g h : Geo} (hD : IsDisk w base d (newG g)) (hg : FreshG g) (hh : FreshG h) {b : Bool} (hb : fitsB (newG g) h = b) :
    Calls Try.prog 14 #[.pointer (some ⟨d, 0, none⟩), shV h] w (fun e w' => e = .returned (.int .i64 (if b then 0 else 1)) ∧ Moves (fun k => base ≤ k) w w' ∧ (b = false → IsDisk w' base d (newG g))) := by
  cases b with
  | false => exact (write_nofit hD (b := ⟨0, h, 0, 0, 0⟩) (good_sh hh.1) hb).mono fun e w' q => ⟨q.1, q.2.none _, fun _ => hD.moves0 q.2⟩
  | true =>
    have hK : 2 ≤ (List.replicate (secsN g) (List.replicate (sizeN g) (0 : Int))).length := by
      rw [List.length_replicate]
      have := hg.1.secs
      unfold secsN
      omega
    unfold newG at hD hb
    rw [new_calm] at hD hb
    exact (put_turn (b := ⟨0, h, 0, 0, 0⟩) hD (good_sh hh.1) (wf_sh h) hb hK ⟨by omega, by omega⟩).mono fun e w' q => ⟨q.1, q.2.2.mv.mono (fun k hk => hD.low k hk), fun e => by cases e⟩
set_option maxRecDepth 100000 in
set_option maxHeartbeats 4000000 in
theorem shapes_nil {w : World} {g h : Geo} (hb : ¬ (FreshG g ∧ FreshG h)) : Calls Try.prog 4 #[geoV g, geoV h] w (TrueP w) := by
  have HKN := Lib.hid (fun W => known_any W)
  have HB := Lib.hid hb
  clear hb
  by_cases hg : FreshG g
  · have HF := Lib.hid (fun W => fresh_ok hg W)
    have HH := Lib.hid (fun W => fresh_bad (fun e => HB.out ⟨hg, e⟩) W)
    clear hg HB
    obtain ⟨s, l, n⟩ := g
    obtain ⟨s', l', n'⟩ := h
    have M0 := Lib.hid (((Moves.refl (fun _ => False) w).alloc (.cells #[.int .i64 s, .int .i64 l, .int .i64 n] 25)).alloc (.cells #[.int .i64 s', .int .i64 l', .int .i64 n'] 25))
    have b0 : ((w.alloc (.cells #[.int .i64 s, .int .i64 l, .int .i64 n] 25)).alloc (.cells #[.int .i64 s', .int .i64 l', .int .i64 n'] 25)).heap[w.heap.size]? = some (.cells #[.int .i64 s, .int .i64 l, .int .i64 n] 25 (0, 0)) := (Below.heap_alloc _ _ _ (by simp)).trans (alloc_at rfl)
    have b1 : ((w.alloc (.cells #[.int .i64 s, .int .i64 l, .int .i64 n] 25)).alloc (.cells #[.int .i64 s', .int .i64 l', .int .i64 n'] 25)).heap[w.heap.size + 1]? = some (.cells #[.int .i64 s', .int .i64 l', .int .i64 n'] 25 (0, 0)) := alloc_at (by simp)
    have B0 := Lib.hid b0
    have B1 := Lib.hid b1
    clear b0 b1
    go_enter Try.func4, Try.ntmps4
    go_wp2_with fail
    generalize (w.alloc (.cells #[.int .i64 s, .int .i64 l, .int .i64 n] 25)).alloc (.cells #[.int .i64 s', .int .i64 l', .int .i64 n'] 25) = W0 at M0 B0 B1 ⊢
    generalize w.heap.size = gb at B0 B1 ⊢
    refine (HKN.out _).mono ?_
    rintro e w0 ⟨rfl, hm0⟩
    obtain ⟨c0, c1, c2⟩ := cells3 ((hm0.block _ (lt_of_block B0.out) (fun e => e)).trans B0.out)
    go_wp2_with fail
    refine (HF.out _).mono ?_
    rintro e w1 ⟨d, rfl, hd1, hm1⟩
    have hm01 := hm0.trans hm1
    obtain ⟨d0, d1, d2⟩ := cells3 ((hm01.block _ (lt_of_block B1.out) (fun e => e)).trans B1.out)
    go_wp2_with fail
    refine (HH.out _).mono ?_
    rintro e w2 ⟨rfl, hm2⟩
    go_wp2
    go_ret
    exact ⟨rfl, M0.out.trans (hm01.trans hm2)⟩
  · have HF := Lib.hid (fun W => fresh_bad hg W)
    clear hg HB
    obtain ⟨s, l, n⟩ := g
    obtain ⟨s', l', n'⟩ := h
    have M0 := Lib.hid (((Moves.refl (fun _ => False) w).alloc (.cells #[.int .i64 s, .int .i64 l, .int .i64 n] 25)).alloc (.cells #[.int .i64 s', .int .i64 l', .int .i64 n'] 25))
    have b0 : ((w.alloc (.cells #[.int .i64 s, .int .i64 l, .int .i64 n] 25)).alloc (.cells #[.int .i64 s', .int .i64 l', .int .i64 n'] 25)).heap[w.heap.size]? = some (.cells #[.int .i64 s, .int .i64 l, .int .i64 n] 25 (0, 0)) := (Below.heap_alloc _ _ _ (by simp)).trans (alloc_at rfl)
    have B0 := Lib.hid b0
    clear b0
    go_enter Try.func4, Try.ntmps4
    go_wp2_with fail
    generalize (w.alloc (.cells #[.int .i64 s, .int .i64 l, .int .i64 n] 25)).alloc (.cells #[.int .i64 s', .int .i64 l', .int .i64 n'] 25) = W0 at M0 B0 ⊢
    generalize w.heap.size = gb at B0 ⊢
    refine (HKN.out _).mono ?_
    rintro e w0 ⟨rfl, hm0⟩
    obtain ⟨c0, c1, c2⟩ := cells3 ((hm0.block _ (lt_of_block B0.out) (fun e => e)).trans B0.out)
    go_wp2_with fail
    refine (HF.out _).mono ?_
    rintro e w1 ⟨rfl, hm1⟩
    go_wp2
    go_ret
    exact ⟨rfl, M0.out.trans (hm0.trans hm1)⟩
set_option maxRecDepth 100000 in
set_option maxHeartbeats 4000000 in
theorem shapes_go {w : World} {g h : Geo} (hg : FreshG g) (hh : FreshG h) : Calls Try.prog 4 #[geoV g, geoV h] w (TrueP w) := by
  have HKN := Lib.hid (fun W => known_any W)
  have HF := Lib.hid (fun W => fresh_ok hg W)
  have HH := Lib.hid (fun W => fresh_ok hh W)
  have HSG := Lib.hid (fun W => sectors_ok hg.1.near W)
  have HSH := Lib.hid (fun W => sectors_ok hh.1.near W)
  have HW := Lib.hid (fun W base d (hD : IsDisk W base d (newG g)) b (hb : fitsB (newG g) h = b) => write_sh hD hg hh hb)
  have hfit := fits_new h hg
  clear hg hh
  obtain ⟨b, hb⟩ : ∃ b, fitsB (newG g) h = b := ⟨_, rfl⟩
  have HBB := Lib.hid hb
  rw [hb] at hfit
  have HFIT := Lib.hid hfit
  clear hb hfit
  obtain ⟨s, l, n⟩ := g
  obtain ⟨s', l', n'⟩ := h
  dsimp only at HFIT
  have M0 := Lib.hid (((Moves.refl (fun _ => False) w).alloc (.cells #[.int .i64 s, .int .i64 l, .int .i64 n] 25)).alloc (.cells #[.int .i64 s', .int .i64 l', .int .i64 n'] 25))
  have b0 : ((w.alloc (.cells #[.int .i64 s, .int .i64 l, .int .i64 n] 25)).alloc (.cells #[.int .i64 s', .int .i64 l', .int .i64 n'] 25)).heap[w.heap.size]? = some (.cells #[.int .i64 s, .int .i64 l, .int .i64 n] 25 (0, 0)) := (Below.heap_alloc _ _ _ (by simp)).trans (alloc_at rfl)
  have b1 : ((w.alloc (.cells #[.int .i64 s, .int .i64 l, .int .i64 n] 25)).alloc (.cells #[.int .i64 s', .int .i64 l', .int .i64 n'] 25)).heap[w.heap.size + 1]? = some (.cells #[.int .i64 s', .int .i64 l', .int .i64 n'] 25 (0, 0)) := alloc_at (by simp)
  have B0 := Lib.hid b0
  have B1 := Lib.hid b1
  clear b0 b1
  go_enter Try.func4, Try.ntmps4
  go_wp2_with fail
  generalize (w.alloc (.cells #[.int .i64 s, .int .i64 l, .int .i64 n] 25)).alloc (.cells #[.int .i64 s', .int .i64 l', .int .i64 n'] 25) = W0 at M0 B0 B1 ⊢
  generalize w.heap.size = gb at B0 B1 ⊢
  refine (HKN.out _).mono ?_
  rintro e w0 ⟨rfl, hm0⟩
  obtain ⟨c0, c1, c2⟩ := cells3 ((hm0.block _ (lt_of_block B0.out) (fun e => e)).trans B0.out)
  go_wp2_with fail
  refine (HF.out _).mono ?_
  rintro e w1 ⟨d, rfl, hd1, hm1⟩
  have hm01 := hm0.trans hm1
  obtain ⟨d0, d1, d2⟩ := cells3 ((hm01.block _ (lt_of_block B1.out) (fun e => e)).trans B1.out)
  go_wp2_with fail
  refine (HH.out _).mono ?_
  rintro e w2 ⟨d', rfl, hd2, hm2⟩
  clear hd2
  have hd12 := hd1.moves0 hm2
  have hm02 := hm01.trans hm2
  have hz0 : W0.heap.size ≤ w0.heap.size := hm0.size
  clear c0 c1 c2 d0 d1 d2 hd1
  obtain ⟨d0, d1, d2⟩ := cells3 ((hm02.block _ (lt_of_block B1.out) (fun e => e)).trans B1.out)
  go_wp2_with fail
  refine (HW.out _ _ _ hd12 _ HBB.out).mono ?_
  rintro e w3 ⟨rfl, hm3, hd3⟩
  have hm03 : Moves (fun _ => False) W0 w3 := hm02.andThen hm3 (fun i (hi : w0.heap.size ≤ i) hlt => by omega)
  clear d0 d1 d2
  have HM3 := Lib.hid hm03
  obtain ⟨c0, c1, c2⟩ := cells3 ((hm03.block _ (lt_of_block B0.out) (fun e => e)).trans B0.out)
  obtain ⟨d0, d1, d2⟩ := cells3 ((hm03.block _ (lt_of_block B1.out) (fun e => e)).trans B1.out)
  have HD3 := Lib.hid hd3
  clear hm0 hm1 hm2 hm3 hm01 hm02 hm03 hd12 hd3 hz0
  by_cases e1 : s' = s
  · have q1 : (s' == s) = true := by simpa using e1
    have HN : Hid (∀ w', KpS w3 w' → KpS w3 w' ∧ w'.cell? ⟨gb, 0, none⟩ = some (.int .i64 s) ∧ w'.cell? ⟨gb, 1, none⟩ = some (.int .i64 l) ∧ w'.cell? ⟨gb, 2, none⟩ = some (.int .i64 n) ∧ w'.cell? ⟨gb + 1, 0, none⟩ = some (.int .i64 s') ∧ w'.cell? ⟨gb + 1, 1, none⟩ = some (.int .i64 l') ∧ w'.cell? ⟨gb + 1, 2, none⟩ = some (.int .i64 n')) := Lib.hid fun w' hk => ⟨hk, hk.cell c0, hk.cell c1, hk.cell c2, hk.cell d0, hk.cell d1, hk.cell d2⟩
    have hK0 := KpS.refl w3
    have HWR : Hid (b = false → ∀ W, Moves (fun _ => False) w3 W → Calls Try.prog 19 #[.pointer (some ⟨d, 0, none⟩)] W (SameV W (.int .i64 0))) := Lib.hid (fun hb W hW => (Pl.writes_any ((HD3.out hb).moves0 hW)).mono fun _ _ q => ⟨q.1, q.2⟩)
    have hle : b = true ↔ secsG ⟨s', l', n'⟩ ≤ secsG ⟨s, l, n⟩ := ⟨fun hb => (HFIT.out.1 hb).2, fun hl => HFIT.out.2 ⟨e1, hl⟩⟩
    clear HD3 HFIT e1 HW HBB HF HH
    generalize secsG ⟨s, l, n⟩ = x at HSG hle
    generalize secsG ⟨s', l', n'⟩ = y at HSH hle
    cases b with
    | true =>
      have hyx : y ≤ x := hle.1 rfl
      have hyd : decide (y ≤ x) = true := decide_eq_true hyx
      clear hle HWR
      go_wp2_with fail
      go_region_held3 (fun w' => KpS w3 w' ∧ w'.cell? ⟨gb, 0, none⟩ = some (.int .i64 s) ∧ w'.cell? ⟨gb, 1, none⟩ = some (.int .i64 l) ∧ w'.cell? ⟨gb, 2, none⟩ = some (.int .i64 n) ∧ w'.cell? ⟨gb + 1, 0, none⟩ = some (.int .i64 s') ∧ w'.cell? ⟨gb + 1, 1, none⟩ = some (.int .i64 l') ∧ w'.cell? ⟨gb + 1, 2, none⟩ = some (.int .i64 n')) (first | exact hS' | exact HN.out _ hK0 | assumption | go_keep)
        (first
          | (go_at_call 18; (with_reducible refine (HSG.out _).mono ?_); rintro e w' ⟨rfl, hl⟩; have hS' := HN.out _ (KpS.of ((KpS.moves (And.left (by assumption))).trans hl)))
          | (go_at_call 18; (with_reducible refine (HSH.out _).mono ?_); rintro e w' ⟨rfl, hl⟩; have hS' := HN.out _ (KpS.of ((KpS.moves (And.left (by assumption))).trans hl)))
          | fail)
      all_goals
        go_wp2
        go_ret
        exact ⟨rfl, M0.out.trans (HM3.out.trans (KpS.moves (And.left hS')))⟩
    | false =>
      have hyx : ¬ y ≤ x := fun e => by have := hle.2 e; cases this
      have hyd : decide (y ≤ x) = false := decide_eq_false hyx
      have HWR2 := Lib.hid (HWR.out rfl)
      clear hle HWR
      go_wp2_with fail
      go_region_held3 (fun w' => KpS w3 w' ∧ w'.cell? ⟨gb, 0, none⟩ = some (.int .i64 s) ∧ w'.cell? ⟨gb, 1, none⟩ = some (.int .i64 l) ∧ w'.cell? ⟨gb, 2, none⟩ = some (.int .i64 n) ∧ w'.cell? ⟨gb + 1, 0, none⟩ = some (.int .i64 s') ∧ w'.cell? ⟨gb + 1, 1, none⟩ = some (.int .i64 l') ∧ w'.cell? ⟨gb + 1, 2, none⟩ = some (.int .i64 n')) (first | exact hS' | exact HN.out _ hK0 | assumption | go_keep)
        (first
          | (go_at_call 18; (with_reducible refine (HSG.out _).mono ?_); rintro e w' ⟨rfl, hl⟩; have hS' := HN.out _ (KpS.of ((KpS.moves (And.left (by assumption))).trans hl)))
          | (go_at_call 18; (with_reducible refine (HSH.out _).mono ?_); rintro e w' ⟨rfl, hl⟩; have hS' := HN.out _ (KpS.of ((KpS.moves (And.left (by assumption))).trans hl)))
          | fail)
      all_goals
        go_wp2_with (first | (go_at_call 19; refine (HWR2.out _ (by exact KpS.moves (And.left hS'))).mono ?_; rintro e w5 ⟨rfl, rfl⟩) | fail)
        go_ret
        exact ⟨rfl, M0.out.trans (HM3.out.trans (KpS.moves (And.left hS')))⟩
  · have hbf : b = false := by
      cases b with
      | false => rfl
      | true => exact absurd (HFIT.out.1 rfl).1 e1
    subst hbf
    have q1 : (s' == s) = false := by simpa using e1
    have HWR : Hid (∀ W, Moves (fun _ => False) w3 W → Calls Try.prog 19 #[.pointer (some ⟨d, 0, none⟩)] W (SameV W (.int .i64 0))) := Lib.hid (fun W hW => (Pl.writes_any ((HD3.out rfl).moves0 hW)).mono fun _ _ q => ⟨q.1, q.2⟩)
    clear HD3 HFIT e1
    go_wp2_with fail
    go_quiet (fail)
    go_wp2_with fail
    refine (HWR.out _ ((Moves.refl _ _).drewN _)).mono ?_
    rintro e w4 ⟨rfl, rfl⟩
    go_wp2
    go_ret
    exact ⟨rfl, M0.out.trans (HM3.out.drewN _)⟩
theorem slots_shapes_any (w : World) {v u : Value} {g h : Geo} (hv : v = geoV g ∧ Wg g) (hu : u = geoV h ∧ Wg h) : Calls Try.prog 4 #[v, u] w (TrueP w) := by
  obtain ⟨rfl, -⟩ := hv
  obtain ⟨rfl, -⟩ := hu
  by_cases hb : FreshG g ∧ FreshG h
  · exact shapes_go hb.1 hb.2
  · exact shapes_nil hb
end Go.Proofs.Ytnagpianaghjeaa.Sl
