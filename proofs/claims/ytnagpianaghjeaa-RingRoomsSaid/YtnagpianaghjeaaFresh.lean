/-
  loamlaw7.fresh.
-/
import Derived.Test.YtnagpianaghjeaaRef4
import Derived.Test.YtnagpianaghjeaaSlotsWrite
namespace Go.Proofs.Ytnagpianaghjeaa.Sl
open Go Go.RowKit Go.Proofs
open Pl (DS IsDisk DOwn DPost DMv DKeep)

theorem IsDisk.weak {w : World} {base base' d : Nat} {S : DS} (h : IsDisk w base d S) (hb : base' ≤ base) : IsDisk w base' d S := by
  obtain ⟨kv, kvs, m, D, pvs, kpv, h⟩ := h
  have hs : ∀ a b, Pl.Sec w base a b → Pl.Sec w base' a b := fun a b ⟨g, o, c, cs, hv, hc, hm, hbb, r⟩ => ⟨g, o, c, cs, hv, hc, hm, Nat.le_trans hb hbb, r⟩
  exact ⟨kv, kvs, m, D, pvs, kpv, h.blk, Nat.le_trans hb h.hd, own_weakS hb h.kept, h.secs.mono hs, Nat.le_trans hb h.hm, h.map, h.pend, h.data.mono hs, h.len, own_weakS hb h.keep, h.wf, h.wfd, h.wfs, h.few⟩
def FreshG (g : Geo) : Prop := GoodG g ∧ g.words ≤ 600 ∧ g.sector ≤ 256
instance (g : Geo) : Decidable (FreshG g) := by unfold FreshG; infer_instance
def secsN (g : Geo) : Nat := (secsG g).toNat
def sizeN (g : Geo) : Nat := g.sector.toNat
theorem GoodG.secs {g : Geo} (h : GoodG g) : 10 ≤ secsG g ∧ secsG g ≤ 16384 := by
  have h1 := oneG_le h.near
  have h2 := h.2.1.1
  have h3 := h.2.2
  unfold secsG at h3 ⊢
  omega
def FreshPost (w : World) (g : Geo) (e : Ending) (w' : World) : Prop := ∃ d, e = .returned (.pointer (some ⟨d, 0, none⟩)) ∧ IsDisk w' w.heap.size d (Pl.newS (secsN g) (sizeN g)) ∧ Moves (fun _ => False) w w'
set_option maxRecDepth 100000 in
set_option maxHeartbeats 4000000 in
theorem fresh_bad {g : Geo} (h : ¬ FreshG g) (w : World) : Calls Try.prog 13 #[geoV g] w (MovV w (.pointer none)) := by
  have HB := Lib.hid h
  clear h
  have HO := Lib.hid (fun W => of4_any g W)
  by_cases hf : FewG g
  · have HF := Lib.hid (fun W => few_ok hf W)
    by_cases hg : GoodG g
    · have HC := Lib.hid (fun W => rcheck_ok hg W)
      have hmx : 600 < g.words ∨ 256 < g.sector := by
        by_cases q : g.words ≤ 600
        · by_cases q2 : g.sector ≤ 256
          · exact absurd ⟨hg, q, q2⟩ HB.out
          · exact .inr (Int.not_le.1 q2)
        · exact .inl (Int.not_le.1 q)
      clear hf hg
      obtain ⟨s, l, n⟩ := g
      dsimp only at hmx
      have hb0 := heap_alloc_new w (.cells #[.int .i64 s, .int .i64 l, .int .i64 n] 25)
      have hm0 := (Moves.refl (fun _ => False) w).alloc (.cells #[.int .i64 s, .int .i64 l, .int .i64 n] 25)
      by_cases q : n ≤ 600
      · have q2 : 256 < s := by omega
        clear hmx
        go_enter Try.func13, Try.ntmps13
        go_wp2_with fail
        generalize w.alloc (.cells #[.int .i64 s, .int .i64 l, .int .i64 n] 25) = W0 at hb0 hm0 ⊢
        refine (HF.out _).mono ?_
        rintro e w1 ⟨rfl, hm1⟩
        obtain ⟨c0, c1, c2⟩ := cells3 ((hm1.block _ (lt_of_block hb0) (fun e => e)).trans hb0)
        go_wp2_with fail
        refine (HO.out _).mono ?_
        rintro e w2 ⟨rfl, hm2⟩
        have hm02 := hm1.trans hm2
        obtain ⟨c0, c1, c2⟩ := cells3 ((hm02.block _ (lt_of_block hb0) (fun e => e)).trans hb0)
        go_wp2_with fail
        refine (HC.out _).mono ?_
        rintro e w3 ⟨rfl, hm3⟩
        have hm03 := hm02.trans hm3
        obtain ⟨c0, c1, c2⟩ := cells3 ((hm03.block _ (lt_of_block hb0) (fun e => e)).trans hb0)
        go_wp2
        go_ret
        exact ⟨rfl, hm0.trans hm03⟩
      · clear hmx
        go_enter Try.func13, Try.ntmps13
        go_wp2_with fail
        generalize w.alloc (.cells #[.int .i64 s, .int .i64 l, .int .i64 n] 25) = W0 at hb0 hm0 ⊢
        refine (HF.out _).mono ?_
        rintro e w1 ⟨rfl, hm1⟩
        obtain ⟨c0, c1, c2⟩ := cells3 ((hm1.block _ (lt_of_block hb0) (fun e => e)).trans hb0)
        go_wp2_with fail
        refine (HO.out _).mono ?_
        rintro e w2 ⟨rfl, hm2⟩
        have hm02 := hm1.trans hm2
        go_wp2_with fail
        refine (HC.out _).mono ?_
        rintro e w3 ⟨rfl, hm3⟩
        have hm03 := hm02.trans hm3
        obtain ⟨c0, c1, c2⟩ := cells3 ((hm03.block _ (lt_of_block hb0) (fun e => e)).trans hb0)
        go_wp2
        go_ret
        exact ⟨rfl, hm0.trans hm03⟩
    · have HC := Lib.hid (fun W => rcheck_bad hf hg W)
      clear hf hg
      obtain ⟨s, l, n⟩ := g
      have hb0 := heap_alloc_new w (.cells #[.int .i64 s, .int .i64 l, .int .i64 n] 25)
      have hm0 := (Moves.refl (fun _ => False) w).alloc (.cells #[.int .i64 s, .int .i64 l, .int .i64 n] 25)
      go_enter Try.func13, Try.ntmps13
      go_wp2_with fail
      generalize w.alloc (.cells #[.int .i64 s, .int .i64 l, .int .i64 n] 25) = W0 at hb0 hm0 ⊢
      refine (HF.out _).mono ?_
      rintro e w1 ⟨rfl, hm1⟩
      obtain ⟨c0, c1, c2⟩ := cells3 ((hm1.block _ (lt_of_block hb0) (fun e => e)).trans hb0)
      go_wp2_with fail
      refine (HO.out _).mono ?_
      rintro e w2 ⟨rfl, hm2⟩
      have hm02 := hm1.trans hm2
      go_wp2_with fail
      refine (HC.out _).mono ?_
      rintro e w3 ⟨rfl, hm3⟩
      go_wp2
      go_ret
      exact ⟨rfl, hm0.trans (hm02.trans hm3)⟩
  · have HF := Lib.hid (fun W => few_bad hf W)
    clear hf
    obtain ⟨s, l, n⟩ := g
    have hm0 := (Moves.refl (fun _ => False) w).alloc (.cells #[.int .i64 s, .int .i64 l, .int .i64 n] 25)
    go_enter Try.func13, Try.ntmps13
    go_wp2_with fail
    generalize w.alloc (.cells #[.int .i64 s, .int .i64 l, .int .i64 n] 25) = W0 at hm0 ⊢
    refine (HF.out _).mono ?_
    rintro e w1 ⟨rfl, hm1⟩
    go_wp2
    go_ret
    exact ⟨rfl, hm0.trans hm1⟩
set_option maxRecDepth 100000 in
set_option maxHeartbeats 4000000 in
theorem fresh_ok {g : Geo} (h : FreshG g) (w : World) : Calls Try.prog 13 #[geoV g] w (FreshPost w g) := by
  have HO := Lib.hid (fun W => of4_any g W)
  have HF := Lib.hid (fun W => few_ok h.1.few W)
  have HC := Lib.hid (fun W => rcheck_ok h.1 W)
  have HS := Lib.hid (fun W => rsectors_ok h.1.near h.1.1.2.2 W)
  have hsec := h.1.secs
  have HNEW : Hid (∀ W, Calls Try.prog 28 #[.int .i64 (secsG g), .int .i64 g.sector] W (Pl.NewPost W (secsN g) (sizeN g))) := Lib.hid fun W => by
    have h1 : secsG g = ((secsN g : Nat) : Int) := by unfold secsN; omega
    have h2 : g.sector = ((sizeN g : Nat) : Int) := by unfold sizeN; have := h.1.1.1; omega
    rw [h1, h2]
    exact Pl.new_ok ⟨by omega, by omega⟩ ⟨by have := h.1.1.1; omega, by have := h.1.1.2.1; omega⟩ W
  have HQ : Hid (∀ d w', IsDisk w' w.heap.size d (Pl.newS (secsN g) (sizeN g)) → Moves (fun _ => False) w w' → FreshPost w g (.returned (.pointer (some ⟨d, 0, none⟩))) w') := Lib.hid fun d w' h1 h2 => ⟨d, rfl, h1, h2⟩
  obtain ⟨-, hx, hy⟩ := h
  generalize hfp : FreshPost w g = Q at HQ ⊢
  clear hfp hsec
  generalize secsN g = N at HNEW HQ
  generalize sizeN g = Z at HNEW HQ
  obtain ⟨s, l, n⟩ := g
  dsimp only at hx hy HNEW HS
  generalize secsG ⟨s, l, n⟩ = q at HNEW HS
  have hb0 := heap_alloc_new w (.cells #[.int .i64 s, .int .i64 l, .int .i64 n] 25)
  have hm0 := (Moves.refl (fun _ => False) w).alloc (.cells #[.int .i64 s, .int .i64 l, .int .i64 n] 25)
  go_enter Try.func13, Try.ntmps13
  go_wp2_with fail
  generalize w.alloc (.cells #[.int .i64 s, .int .i64 l, .int .i64 n] 25) = W0 at hb0 hm0 ⊢
  refine (HF.out _).mono ?_
  rintro e w1 ⟨rfl, hm1⟩
  obtain ⟨c0, c1, c2⟩ := cells3 ((hm1.block _ (lt_of_block hb0) (fun e => e)).trans hb0)
  go_wp2_with fail
  refine (HO.out _).mono ?_
  rintro e w2 ⟨rfl, hm2⟩
  have hm02 := hm1.trans hm2
  clear c0 c1 c2
  obtain ⟨c0, c1, c2⟩ := cells3 ((hm02.block _ (lt_of_block hb0) (fun e => e)).trans hb0)
  go_wp2_with fail
  refine (HC.out _).mono ?_
  rintro e w3 ⟨rfl, hm3⟩
  have hm03 := hm02.trans hm3
  clear c0 c1 c2
  have hb3 := (hm03.block _ (lt_of_block hb0) (fun e => e)).trans hb0
  obtain ⟨c0, c1, c2⟩ := cells3 hb3
  go_wp2_with fail
  have HM := Lib.hid (hm0.trans hm03)
  have hsz := HM.out.size
  generalize hgb : w.heap.size = gb at hb3 c0 c1 c2 ⊢
  have HGB := Lib.hid hgb
  have HN : Hid (∀ w', KpS w3 w' → KpS w3 w' ∧ w'.cell? ⟨gb, 0, none⟩ = some (.int .i64 s) ∧ w'.cell? ⟨gb, 1, none⟩ = some (.int .i64 l) ∧ w'.cell? ⟨gb, 2, none⟩ = some (.int .i64 n)) := Lib.hid fun w' hk => ⟨hk, hk.cell c0, hk.cell c1, hk.cell c2⟩
  have hK0 := KpS.refl w3
  clear hgb hb0 hb3 hm0 hm1 hm2 hm3 hm02 hm03
  go_region_held3 (fun w' => KpS w3 w' ∧ w'.cell? ⟨gb, 0, none⟩ = some (.int .i64 s) ∧ w'.cell? ⟨gb, 1, none⟩ = some (.int .i64 l) ∧ w'.cell? ⟨gb, 2, none⟩ = some (.int .i64 n)) (first | exact hS' | exact HN.out _ hK0 | assumption | go_keep)
    (first
      | (go_at_call 54; refine (HO.out _).mono ?_; rintro e w' ⟨rfl, hl⟩; have hS' := HN.out _ (KpS.of ((KpS.moves (And.left (by assumption))).trans hl)))
      | (go_at_call 55; refine (HS.out _).mono ?_; rintro e w' ⟨rfl, hl⟩; have hS' := HN.out _ (KpS.of ((KpS.moves (And.left (by assumption))).trans hl)))
      | (go_at_call 28; refine (HNEW.out _).mono ?_; rintro e w' ⟨d, rfl, hd, hl⟩; have hd' := IsDisk.weak hd (Nat.le_trans hsz (KpS.moves (And.left (by assumption))).size); have hS' := HN.out _ (KpS.of ((KpS.moves (And.left (by assumption))).trans hl)))
      | fail)
  go_wp2
  exact HQ.out d w' hd' (HM.out.trans (KpS.moves (And.left hS')))
end Go.Proofs.Ytnagpianaghjeaa.Sl
