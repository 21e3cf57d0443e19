/-
  loamlaw7.fresh.
  Blocks laid into slots: what a disk on which nothing waits comes to; what its slots count as.
-/
import Derived.Test.YtnagpianaghjeaaBdRingLasts18
import Derived.Test.YtnagpianaghjeaaBdRingLasts17
namespace Go.Proofs.Ytnagpianaghjeaa.Sl
open Go Go.RowKit Go.Proofs
open Pl (DS IsDisk DOwn DPost DMv DKeep)

theorem IsDisk.weak {w : World} {base base' d : Nat} {S : DS} (h : IsDisk w base d S) (hb : base' ≤ base) : IsDisk w base' d S := by
  obtain ⟨kv, kvs, m, D, pvs, kpv, h⟩ := h
  have hs : ∀ a b, Pl.Sec w base a b → Pl.Sec w base' a b := fun a b ⟨g, o, c, cs, hv, hc, hm, hbb, r⟩ => ⟨g, o, c, cs, hv, hc, hm, Nat.le_trans hb hbb, r⟩
  exact ⟨kv, kvs, m, D, pvs, kpv, h.blk, Nat.le_trans hb h.hd, own_weakS hb h.kept, h.secs.mono hs, Nat.le_trans hb h.hm, h.map, h.pend, h.data.mono hs, h.len, own_weakS hb h.keep, h.wf, h.wfd, h.wfs, h.few⟩
def FreshG (g : Geo) : Prop := GoodG g ∧ g.words ≤ 600 ∧ g.sector ≤ 256
instance (g : Geo) : Decidable (FreshG g) := by unfold FreshG; infer_instance
def secsN (g : Geo) : Nat := (secsG g).toNat
def sizeN (g : Geo) : Nat := g.sector.toNat
theorem GoodG.secs {g : Geo} (h : GoodG g) : 10 ≤ secsG g ∧ secsG g ≤ 16384 := by
  have h1 := oneG_le h.near
  have h2 := h.2.1.1
  have h3 := h.2.2
  unfold secsG at h3 ⊢
  omega
def FreshPost (w : World) (g : Geo) (e : Ending) (w' : World) : Prop := ∃ d, e = .returned (.pointer (some ⟨d, 0, none⟩)) ∧ IsDisk w' w.heap.size d (Pl.newS (secsN g) (sizeN g)) ∧ Moves (fun _ => False) w w'
set_option maxRecDepth 100000 in
set_option maxHeartbeats 4000000 in
theorem fresh_bad {g : Geo} (h : ¬ FreshG g) (w : World) : Calls Try.prog 13 #[geoV g] w (MovV w (.pointer none)) := by
  have HB := Lib.hid h
  clear h
  have HO := Lib.hid (fun W => of4_any g W)
  by_cases hf : FewG g
  · have HF := Lib.hid (fun W => few_ok hf W)
    by_cases hg : GoodG g
    · have HC := Lib.hid (fun W => rcheck_ok hg W)
      have hmx : 600 < g.words ∨ 256 < g.sector := by
        by_cases q : g.words ≤ 600
        · by_cases q2 : g.sector ≤ 256
          · exact absurd ⟨hg, q, q2⟩ HB.out
          · exact .inr (Int.not_le.1 q2)
        · exact .inl (Int.not_le.1 q)
      clear hf hg
      obtain ⟨s, l, n⟩ := g
      dsimp only at hmx
      have hb0 := heap_alloc_new w (.cells #[.int .i64 s, .int .i64 l, .int .i64 n] 25)
      have hm0 := (Moves.refl (fun _ => False) w).alloc (.cells #[.int .i64 s, .int .i64 l, .int .i64 n] 25)
      by_cases q : n ≤ 600
      · have q2 : 256 < s := by omega
        clear hmx
        go_enter Try.func13, Try.ntmps13
        go_wp2_with fail
        generalize w.alloc (.cells #[.int .i64 s, .int .i64 l, .int .i64 n] 25) = W0 at hb0 hm0 ⊢
        refine (HF.out _).mono ?_
        rintro e w1 ⟨rfl, hm1⟩
        obtain ⟨c0, c1, c2⟩ := cells3 ((hm1.block _ (lt_of_block hb0) (fun e => e)).trans hb0)
        go_wp2_with fail
        refine (HO.out _).mono ?_
        rintro e w2 ⟨rfl, hm2⟩
        have hm02 := hm1.trans hm2
        obtain ⟨c0, c1, c2⟩ := cells3 ((hm02.block _ (lt_of_block hb0) (fun e => e)).trans hb0)
        go_wp2_with fail
        refine (HC.out _).mono ?_
        rintro e w3 ⟨rfl, hm3⟩
        have hm03 := hm02.trans hm3
        obtain ⟨c0, c1, c2⟩ := cells3 ((hm03.block _ (lt_of_block hb0) (fun e => e)).trans hb0)
        go_wp2
        go_ret
        exact ⟨rfl, hm0.trans hm03⟩
      · clear hmx
        go_enter Try.func13, Try.ntmps13
        go_wp2_with fail
        generalize w.alloc (.cells #[.int .i64 s, .int .i64 l, .int .i64 n] 25) = W0 at hb0 hm0 ⊢
        refine (HF.out _).mono ?_
        rintro e w1 ⟨rfl, hm1⟩
        obtain ⟨c0, c1, c2⟩ := cells3 ((hm1.block _ (lt_of_block hb0) (fun e => e)).trans hb0)
        go_wp2_with fail
        refine (HO.out _).mono ?_
        rintro e w2 ⟨rfl, hm2⟩
        have hm02 := hm1.trans hm2
        go_wp2_with fail
        refine (HC.out _).mono ?_
        rintro e w3 ⟨rfl, hm3⟩
        have hm03 := hm02.trans hm3
        obtain ⟨c0, c1, c2⟩ := cells3 ((hm03.block _ (lt_of_block hb0) (fun e => e)).trans hb0)
        go_wp2
        go_ret
        exact ⟨rfl, hm0.trans hm03⟩
    · have HC := Lib.hid (fun W => rcheck_bad hf hg W)
      clear hf hg
      obtain ⟨s, l, n⟩ := g
      have hb0 := heap_alloc_new w (.cells #[.int .i64 s, .int .i64 l, .int .i64 n] 25)
      have hm0 := (Moves.refl (fun _ => False) w).alloc (.cells #[.int .i64 s, .int .i64 l, .int .i64 n] 25)
      go_enter Try.func13, Try.ntmps13
      go_wp2_with fail
      generalize w.alloc (.cells #[.int .i64 s, .int .i64 l, .int .i64 n] 25) = W0 at hb0 hm0 ⊢
      refine (HF.out _).mono ?_
      rintro e w1 ⟨rfl, hm1⟩
      obtain ⟨c0, c1, c2⟩ := cells3 ((hm1.block _ (lt_of_block hb0) (fun e => e)).trans hb0)
      go_wp2_with fail
      refine (HO.out _).mono ?_
      rintro e w2 ⟨rfl, hm2⟩
      have hm02 := hm1.trans hm2
      go_wp2_with fail
      refine (HC.out _).mono ?_
      rintro e w3 ⟨rfl, hm3⟩
      go_wp2
      go_ret
      exact ⟨rfl, hm0.trans (hm02.trans hm3)⟩
  · have HF := Lib.hid (fun W => few_bad hf W)
    clear hf
    obtain ⟨s, l, n⟩ := g
    have hm0 := (Moves.refl (fun _ => False) w).alloc (.cells #[.int .i64 s, .int .i64 l, .int .i64 n] 25)
    go_enter Try.func13, Try.ntmps13
    go_wp2_with fail
    generalize w.alloc (.cells #[.int .i64 s, .int .i64 l, .int .i64 n] 25) = W0 at hm0 ⊢
    refine (HF.out _).mono ?_
    rintro e w1 ⟨rfl, hm1⟩
    go_wp2
    go_ret
    exact ⟨rfl, hm0.trans hm1⟩
set_option maxRecDepth 100000 in
set_option maxHeartbeats 4000000 in
theorem fresh_ok {g : Geo} (h : FreshG g) (w : World) : Calls Try.prog 13 #[geoV g] w (FreshPost w g) := by
  have HO := Lib.hid (fun W => of4_any g W)
  have HF := Lib.hid (fun W => few_ok h.1.few W)
  have HC := Lib.hid (fun W => rcheck_ok h.1 W)
  have HS := Lib.hid (fun W => rsectors_ok h.1.near h.1.1.2.2 W)
  have hsec := h.1.secs
  have HNEW : Hid (∀ W, Calls Try.prog 28 #[.int .i64 (secsG g), .int .i64 g.sector] W (Pl.NewPost W (secsN g) (sizeN g))) := Lib.hid fun W => by
    have h1 : secsG g = ((secsN g : Nat) : Int) := by unfold secsN; omega
    have h2 : g.sector = ((sizeN g : Nat) : Int) := by unfold sizeN; have := h.1.1.1; omega
    rw [h1, h2]
    exact Pl.new_ok ⟨by omega, by omega⟩ ⟨by have := h.1.1.1; omega, by have := h.1.1.2.1; omega⟩ W
  have HQ : Hid (∀ d w', IsDisk w' w.heap.size d (Pl.newS (secsN g) (sizeN g)) → Moves (fun _ => False) w w' → FreshPost w g (.returned (.pointer (some ⟨d, 0, none⟩))) w') := Lib.hid fun d w' h1 h2 => ⟨d, rfl, h1, h2⟩
  obtain ⟨-, hx, hy⟩ := h
  generalize hfp : FreshPost w g = Q at HQ ⊢
  clear hfp hsec
  generalize secsN g = N at HNEW HQ
  generalize sizeN g = Z at HNEW HQ
  obtain ⟨s, l, n⟩ := g
  dsimp only at hx hy HNEW HS
  generalize secsG ⟨s, l, n⟩ = q at HNEW HS
  have hb0 := heap_alloc_new w (.cells #[.int .i64 s, .int .i64 l, .int .i64 n] 25)
  have hm0 := (Moves.refl (fun _ => False) w).alloc (.cells #[.int .i64 s, .int .i64 l, .int .i64 n] 25)
  go_enter Try.func13, Try.ntmps13
  go_wp2_with fail
  generalize w.alloc (.cells #[.int .i64 s, .int .i64 l, .int .i64 n] 25) = W0 at hb0 hm0 ⊢
  refine (HF.out _).mono ?_
  rintro e w1 ⟨rfl, hm1⟩
  obtain ⟨c0, c1, c2⟩ := cells3 ((hm1.block _ (lt_of_block hb0) (fun e => e)).trans hb0)
  go_wp2_with fail
  refine (HO.out _).mono ?_
  rintro e w2 ⟨rfl, hm2⟩
  have hm02 := hm1.trans hm2
  clear c0 c1 c2
  obtain ⟨c0, c1, c2⟩ := cells3 ((hm02.block _ (lt_of_block hb0) (fun e => e)).trans hb0)
  go_wp2_with fail
  refine (HC.out _).mono ?_
  rintro e w3 ⟨rfl, hm3⟩
  have hm03 := hm02.trans hm3
  clear c0 c1 c2
  have hb3 := (hm03.block _ (lt_of_block hb0) (fun e => e)).trans hb0
  obtain ⟨c0, c1, c2⟩ := cells3 hb3
  go_wp2_with fail
  have HM := Lib.hid (hm0.trans hm03)
  have hsz := HM.out.size
  generalize hgb : w.heap.size = gb at hb3 c0 c1 c2 ⊢
  have HGB := Lib.hid hgb
  have HN : Hid (∀ w', KpS w3 w' → KpS w3 w' ∧ w'.cell? ⟨gb, 0, none⟩ = some (.int .i64 s) ∧ w'.cell? ⟨gb, 1, none⟩ = some (.int .i64 l) ∧ w'.cell? ⟨gb, 2, none⟩ = some (.int .i64 n)) := Lib.hid fun w' hk => ⟨hk, hk.cell c0, hk.cell c1, hk.cell c2⟩
  have hK0 := KpS.refl w3
  clear hgb hb0 hb3 hm0 hm1 hm2 hm3 hm02 hm03
  go_region_held3 (fun w' => KpS w3 w' ∧ w'.cell? ⟨gb, 0, none⟩ = some (.int .i64 s) ∧ w'.cell? ⟨gb, 1, none⟩ = some (.int .i64 l) ∧ w'.cell? ⟨gb, 2, none⟩ = some (.int .i64 n)) (first | exact hS' | exact HN.out _ hK0 | assumption | go_keep)
    (first
      | (go_at_call 54; refine (HO.out _).mono ?_; rintro e w' ⟨rfl, hl⟩; have hS' := HN.out _ (KpS.of ((KpS.moves (And.left (by assumption))).trans hl)))
      | (go_at_call 55; refine (HS.out _).mono ?_; rintro e w' ⟨rfl, hl⟩; have hS' := HN.out _ (KpS.of ((KpS.moves (And.left (by assumption))).trans hl)))
      | (go_at_call 28; refine (HNEW.out _).mono ?_; rintro e w' ⟨d, rfl, hd, hl⟩; have hd' := IsDisk.weak hd (Nat.le_trans hsz (KpS.moves (And.left (by assumption))).size); have hS' := HN.out _ (KpS.of ((KpS.moves (And.left (by assumption))).trans hl)))
      | fail)
  go_wp2
  exact HQ.out d w' hd' (HM.out.trans (KpS.moves (And.left hS')))
end Go.Proofs.Ytnagpianaghjeaa.Sl
namespace Go.Proofs.Ytnagpianaghjeaa.Sl
open Go Go.RowKit Go.Proofs
open Pl (DS IsDisk DOwn DPost DMv DKeep)

theorem fits_iff {S : DS} {g : Geo} : fitsB S g = true ↔ g.sector = S.size ∧ secsG g ≤ S.kept.length := by
  unfold fitsB
  rw [Bool.and_eq_true, decide_eq_true_eq, decide_eq_true_eq]
theorem right_enc {S : DS} {b : Blk} (hg : GoodB b) (hw : WfB b) (hf : fitsB S b.geom = true) : rightS S (b.epoch % 2) (encS crcL b) = some b := by
  unfold rightS
  rw [dec_enc crcL hg hw]
  exact if_pos ⟨hf, rfl⟩
theorem right_other {S : DS} {b : Blk} (hg : GoodB b) (hw : WfB b) {i : Int} (hi : b.epoch % 2 ≠ i) : rightS S i (encS crcL b) = none := by
  unfold rightS
  rw [dec_enc crcL hg hw]
  exact if_neg (fun e => hi e.2)
theorem getL_zero (n p k : Nat) : getL (List.replicate n 0) p k = 0 := by
  induction k generalizing p with
  | zero => rfl
  | succ k ih =>
    unfold getL
    rw [ih, List.getD_eq_getElem?_getD, List.getElem?_replicate]
    by_cases h : p < n
    · rw [if_pos h]; rfl
    · rw [if_neg h]; rfl
theorem right_zero (S : DS) (i : Int) (n : Nat) : rightS S i (List.replicate n 0) = none := by
  have h : decS crcL (List.replicate n 0) = none := by
    unfold decS
    rw [if_neg]
    rintro ⟨-, hg, -⟩
    have := hg.1.1.1
    unfold readS at this
    dsimp only at this
    rw [getL_zero] at this
    omega
  unfold rightS
  rw [h]
/-- What is right of a slot depends on the disk's shape alone. -/
theorem right_shape {S S' : DS} (h1 : S.size = S'.size) (h2 : S.kept.length = S'.kept.length) (i : Int) (s : List Int) : rightS S i s = rightS S' i s := by
  have : ∀ g, fitsB S g = fitsB S' g := fun g => by unfold fitsB; rw [h1, h2]
  unfold rightS
  simp only [this]
theorem new_calm (n z : Nat) : Pl.newS n z = calmS z (List.replicate n (List.replicate z 0)) false 0 [] 0 := rfl
theorem rd_calm (z : Nat) (K : List (List Int)) (a : Bool) (l : Int) (k : List Bool) (w : Int) (i : Int) : Pl.rdN (calmS z K a l k w) i (calmS z K a l k w).secs.length = K.getD i.toNat [] := rfl
theorem under {w0 w w' : World} {base d : Nat} {S : DS} (h : IsDisk w base d S) (h0 : Moves (fun _ => False) w0 w) (hb : w0.heap.size ≤ base) (hm : DMv w d w') : Moves (fun _ => False) w0 w' :=
  h0.andThen hm.mv (fun i hi hlt => absurd (h.low i hi) (by omega))
def putK (K : List (List Int)) (b : Blk) : List (List Int) := K.set (b.epoch % 2).toNat (encS crcL b)
theorem putK_len (K : List (List Int)) (b : Blk) : (putK K b).length = K.length := by unfold putK; rw [List.length_set]
theorem slot_01 (e : Int) : e % 2 = 0 ∨ e % 2 = 1 := by omega
theorem in_slot {z : Nat} {K : List (List Int)} {a : Bool} {l : Int} {k : List Bool} {w : Int} (hK : 2 ≤ K.length) (e : Int) : Pl.inS (calmS z K a l k w) (e % 2) = true := by
  unfold Pl.inS calmS
  simp only [decide_eq_true_eq]
  omega
theorem put_turn {w : World} {base d z : Nat} {K : List (List Int)} {l : Int} {k : List Bool} {wr : Int} (h : IsDisk w base d (calmS z K false l k wr)) {b : Blk} (hg : GoodB b) (hw : WfB b) (hf : fitsB (calmS z K false l k wr) b.geom = true) (hK : 2 ≤ K.length) (hwr : 0 ≤ wr ∧ wr ≤ 1000000000) :
    Calls Try.prog 14 #[.pointer (some ⟨d, 0, none⟩), blkV b] w (WPost w base d (calmS z (putK K b) false l k (wr + 1)) (.int .i64 0)) := by
  have hz : b.geom.sector = z := (fits_iff.1 hf).1
  have hel := encS_len crcL hg.1.1.1
  have hn := hg.1.near.1
  exact write_done h hg hw hf rfl rfl (S1 := Pl.putS (calmS z K false l k wr) (b.epoch % 2) (encS crcL b)) (fun W L hD v hr hap => Pl.write_ok hD rfl rfl (in_slot hK _) hr (by show _ = z; omega) (by show 0 < z; omega) (by show z ≤ 1000000; omega) (by show 0 < 1000000; decide) hwr) rfl (calm_put_settle ..)
theorem put_armed {w : World} {base d z : Nat} {K : List (List Int)} {l : Int} {k : List Bool} {wr : Int} (h : IsDisk w base d (calmS z K true l k wr)) {b : Blk} (hg : GoodB b) (hw : WfB b) (hf : fitsB (calmS z K true l k wr) b.geom = true) (hK : 2 ≤ K.length) (hwr : 0 ≤ wr ∧ wr ≤ 1000000000) (hl : 2 ≤ l ∧ l ≤ 9223372036854775807) :
    Calls Try.prog 14 #[.pointer (some ⟨d, 0, none⟩), blkV b] w (WPost w base d (calmS z (putK K b) true (l - 1) k (wr + 1)) (.int .i64 0)) := by
  have hz : b.geom.sector = z := (fits_iff.1 hf).1
  have hel := encS_len crcL hg.1.1.1
  have hn := hg.1.near.1
  exact write_done h hg hw hf rfl rfl (S1 := Pl.putS (calmS z K true (l - 1) k wr) (b.epoch % 2) (encS crcL b)) (fun W L hD v hr hap => Pl.write_armed hD rfl rfl hl hap (in_slot hK _) hr (by show _ = z; omega) (by show 0 < z; omega) (by show z ≤ 1000000; omega) (by show 0 < 1000000; decide) hwr) rfl (calm_put_settle ..)
theorem put_gone {w : World} {base d z : Nat} {K : List (List Int)} {l : Int} {k : List Bool} {wr : Int} (h : IsDisk w base d (calmS z K true l k wr)) {b : Blk} (hg : GoodB b) (hw : WfB b) (hf : fitsB (calmS z K true l k wr) b.geom = true) (hK : 2 ≤ K.length) (hl : -1000000 ≤ l ∧ l ≤ 1) (hk : k.length ≤ 1000000) :
    Calls Try.prog 14 #[.pointer (some ⟨d, 0, none⟩), blkV b] w (WPost w base d ({ calmS z K false (l - 1) [] wr with off := true }) (.int .i64 7)) := by
  have hz : b.geom.sector = z := (fits_iff.1 hf).1
  have hel := encS_len crcL hg.1.1.1
  have hn := hg.1.near.1
  refine write_gone h hg hw hf rfl rfl (fun W L hD v hr hap => ?_)
  obtain ⟨A, c, hv, -⟩ := hr
  have hlen : ((encS crcL b).map encX).length = z := by rw [List.length_map]; omega
  have hv' : v = .slice A z c := by rw [hv, hlen]
  exact Pl.write_cut hD rfl rfl hl hk (in_slot hK _) hv'
end Go.Proofs.Ytnagpianaghjeaa.Sl
