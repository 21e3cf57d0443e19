/-
  The walk of KeysPacked: words in the order of keys, for numbers that are not below nought.
-/
import Derived.Test.YtmennobdgfgjaaaKeyKnown
import Derived.Test.YtmennobdgfgjaaaKeySort
import Derived.Test.YtmennobdgfgjaaaKeyOpen
namespace Go.Proofs.Ytmennobdgfgjaaa
open Go Go.RowKit Go.Maps Go.Sort Go.Proofs

theorem pack_word {p : Pr} (h1 : 0 ≤ p.1) (h2 : 0 ≤ p.2) (hs : shortK p = true) : packZ p = p.1 * 4294967296 + p.2 ∧ p.2 < 4294967296 := by
  unfold shortK at hs
  simp only [decide_eq_true_eq] at hs
  unfold packZ
  omega

set_option maxRecDepth 100000 in
set_option maxHeartbeats 2000000 in
theorem keys_packed (w : World) {va vb : Value} (ha : ∃ k : Pr, va = encK k ∧ wf2 k) (hb : ∃ k : Pr, vb = encK k ∧ wf2 k) : Calls Try.prog 10 #[va, vb] w (TruePost w) := by
  obtain ⟨⟨a1, a2⟩, rfl, wa1, wa2⟩ := ha
  obtain ⟨⟨b1, b2⟩, rfl, wb1, wb2⟩ := hb
  clear wa1 wa2 wb1 wb2
  by_cases ha1 : a1 < 0
  · go_enter Try.func10, Try.ntmps10
    go_wp2_with fail
    refine (key_known _).mono ?_
    rintro e w1 ⟨rfl, hm1⟩
    have hb0 : w1.heap[w.heap.size]? = some (.cells #[.int .i64 a1, .int .i64 a2] 49 (0, 0)) := (hm1.block w.heap.size (by simp; omega) (fun h => h)).trans (heap_alloc2_old w _ _)
    have hb1 : w1.heap[w.heap.size + 1]? = some (.cells #[.int .i64 b1, .int .i64 b2] 49 (0, 0)) := (hm1.block (w.heap.size + 1) (by simp) (fun h => h)).trans (heap_alloc2_new w _ _)
    have HM := Lib.hid ((((Moves.refl (fun _ => False) w).alloc _).alloc _).trans hm1)
    clear hm1
    obtain ⟨ka, hka⟩ : ∃ ka, w.heap.size = ka := ⟨_, rfl⟩
    simp only [hka] at hb0 hb1 ⊢
    generalize ka + 1 = kb at hb1 ⊢
    clear hka
    obtain ⟨ca0, ca1⟩ := KeyBlk.cells hb0
    obtain ⟨cb0, cb1⟩ := KeyBlk.cells hb1
    have hla := (Array.getElem?_eq_some_iff.1 hb0).1
    have hlb := (Array.getElem?_eq_some_iff.1 hb1).1
    clear hb0 hb1
    go_wp2
    go_ret
    exact ⟨rfl, HM.out⟩
  by_cases ha2 : a2 < 0
  · go_enter Try.func10, Try.ntmps10
    go_wp2_with fail
    refine (key_known _).mono ?_
    rintro e w1 ⟨rfl, hm1⟩
    have hb0 : w1.heap[w.heap.size]? = some (.cells #[.int .i64 a1, .int .i64 a2] 49 (0, 0)) := (hm1.block w.heap.size (by simp; omega) (fun h => h)).trans (heap_alloc2_old w _ _)
    have hb1 : w1.heap[w.heap.size + 1]? = some (.cells #[.int .i64 b1, .int .i64 b2] 49 (0, 0)) := (hm1.block (w.heap.size + 1) (by simp) (fun h => h)).trans (heap_alloc2_new w _ _)
    have HM := Lib.hid ((((Moves.refl (fun _ => False) w).alloc _).alloc _).trans hm1)
    clear hm1
    obtain ⟨ka, hka⟩ : ∃ ka, w.heap.size = ka := ⟨_, rfl⟩
    simp only [hka] at hb0 hb1 ⊢
    generalize ka + 1 = kb at hb1 ⊢
    clear hka
    obtain ⟨ca0, ca1⟩ := KeyBlk.cells hb0
    obtain ⟨cb0, cb1⟩ := KeyBlk.cells hb1
    have hla := (Array.getElem?_eq_some_iff.1 hb0).1
    have hlb := (Array.getElem?_eq_some_iff.1 hb1).1
    clear hb0 hb1
    go_wp2
    go_ret
    exact ⟨rfl, HM.out⟩
  by_cases hb1 : b1 < 0
  · go_enter Try.func10, Try.ntmps10
    go_wp2_with fail
    refine (key_known _).mono ?_
    rintro e w1 ⟨rfl, hm1⟩
    have hb0 : w1.heap[w.heap.size]? = some (.cells #[.int .i64 a1, .int .i64 a2] 49 (0, 0)) := (hm1.block w.heap.size (by simp; omega) (fun h => h)).trans (heap_alloc2_old w _ _)
    have hb1 : w1.heap[w.heap.size + 1]? = some (.cells #[.int .i64 b1, .int .i64 b2] 49 (0, 0)) := (hm1.block (w.heap.size + 1) (by simp) (fun h => h)).trans (heap_alloc2_new w _ _)
    have HM := Lib.hid ((((Moves.refl (fun _ => False) w).alloc _).alloc _).trans hm1)
    clear hm1
    obtain ⟨ka, hka⟩ : ∃ ka, w.heap.size = ka := ⟨_, rfl⟩
    simp only [hka] at hb0 hb1 ⊢
    generalize ka + 1 = kb at hb1 ⊢
    clear hka
    obtain ⟨ca0, ca1⟩ := KeyBlk.cells hb0
    obtain ⟨cb0, cb1⟩ := KeyBlk.cells hb1
    have hla := (Array.getElem?_eq_some_iff.1 hb0).1
    have hlb := (Array.getElem?_eq_some_iff.1 hb1).1
    clear hb0 hb1
    go_wp2
    go_ret
    exact ⟨rfl, HM.out⟩
  by_cases hb2 : b2 < 0
  · go_enter Try.func10, Try.ntmps10
    go_wp2_with fail
    refine (key_known _).mono ?_
    rintro e w1 ⟨rfl, hm1⟩
    have hb0 : w1.heap[w.heap.size]? = some (.cells #[.int .i64 a1, .int .i64 a2] 49 (0, 0)) := (hm1.block w.heap.size (by simp; omega) (fun h => h)).trans (heap_alloc2_old w _ _)
    have hb1 : w1.heap[w.heap.size + 1]? = some (.cells #[.int .i64 b1, .int .i64 b2] 49 (0, 0)) := (hm1.block (w.heap.size + 1) (by simp) (fun h => h)).trans (heap_alloc2_new w _ _)
    have HM := Lib.hid ((((Moves.refl (fun _ => False) w).alloc _).alloc _).trans hm1)
    clear hm1
    obtain ⟨ka, hka⟩ : ∃ ka, w.heap.size = ka := ⟨_, rfl⟩
    simp only [hka] at hb0 hb1 ⊢
    generalize ka + 1 = kb at hb1 ⊢
    clear hka
    obtain ⟨ca0, ca1⟩ := KeyBlk.cells hb0
    obtain ⟨cb0, cb1⟩ := KeyBlk.cells hb1
    have hla := (Array.getElem?_eq_some_iff.1 hb0).1
    have hlb := (Array.getElem?_eq_some_iff.1 hb1).1
    clear hb0 hb1
    go_wp2
    go_ret
    exact ⟨rfl, HM.out⟩
  cases hsa : shortK (a1, a2) with
  | false =>
    go_enter Try.func10, Try.ntmps10
    go_wp2_with fail
    refine (key_known _).mono ?_
    rintro e w1 ⟨rfl, hm1⟩
    have hb0 : w1.heap[w.heap.size]? = some (.cells #[.int .i64 a1, .int .i64 a2] 49 (0, 0)) := (hm1.block w.heap.size (by simp; omega) (fun h => h)).trans (heap_alloc2_old w _ _)
    have hb1 : w1.heap[w.heap.size + 1]? = some (.cells #[.int .i64 b1, .int .i64 b2] 49 (0, 0)) := (hm1.block (w.heap.size + 1) (by simp) (fun h => h)).trans (heap_alloc2_new w _ _)
    have HM := Lib.hid ((((Moves.refl (fun _ => False) w).alloc _).alloc _).trans hm1)
    clear hm1
    obtain ⟨ka, hka⟩ : ∃ ka, w.heap.size = ka := ⟨_, rfl⟩
    simp only [hka] at hb0 hb1 ⊢
    generalize ka + 1 = kb at hb1 ⊢
    clear hka
    obtain ⟨ca0, ca1⟩ := KeyBlk.cells hb0
    obtain ⟨cb0, cb1⟩ := KeyBlk.cells hb1
    have hla := (Array.getElem?_eq_some_iff.1 hb0).1
    have hlb := (Array.getElem?_eq_some_iff.1 hb1).1
    clear hb0 hb1
    go_wp2_with fail
    refine (short_any hsa _).mono ?_
    rintro e w2 ⟨rfl, hm2⟩
    go_wp2
    go_ret
    exact ⟨rfl, HM.out.trans hm2⟩
  | true =>
  cases hsb : shortK (b1, b2) with
  | false =>
    go_enter Try.func10, Try.ntmps10
    go_wp2_with fail
    refine (key_known _).mono ?_
    rintro e w1 ⟨rfl, hm1⟩
    have hb0 : w1.heap[w.heap.size]? = some (.cells #[.int .i64 a1, .int .i64 a2] 49 (0, 0)) := (hm1.block w.heap.size (by simp; omega) (fun h => h)).trans (heap_alloc2_old w _ _)
    have hb1 : w1.heap[w.heap.size + 1]? = some (.cells #[.int .i64 b1, .int .i64 b2] 49 (0, 0)) := (hm1.block (w.heap.size + 1) (by simp) (fun h => h)).trans (heap_alloc2_new w _ _)
    have HM := Lib.hid ((((Moves.refl (fun _ => False) w).alloc _).alloc _).trans hm1)
    clear hm1
    obtain ⟨ka, hka⟩ : ∃ ka, w.heap.size = ka := ⟨_, rfl⟩
    simp only [hka] at hb0 hb1 ⊢
    generalize ka + 1 = kb at hb1 ⊢
    clear hka
    obtain ⟨ca0, ca1⟩ := KeyBlk.cells hb0
    obtain ⟨cb0, cb1⟩ := KeyBlk.cells hb1
    have hla := (Array.getElem?_eq_some_iff.1 hb0).1
    have hlb := (Array.getElem?_eq_some_iff.1 hb1).1
    clear hb0 hb1
    go_wp2_with fail
    refine (short_any hsa _).mono ?_
    rintro e w2 ⟨rfl, hm2⟩
    have cb0' := (hm2.cell (p := ⟨kb, 0, none⟩) hlb (fun h => h)).trans cb0
    have cb1' := (hm2.cell (p := ⟨kb, 1, none⟩) hlb (fun h => h)).trans cb1
    have HM2 := Lib.hid (HM.out.trans hm2)
    clear hm2
    go_wp2_with fail
    refine (short_any hsb _).mono ?_
    rintro e w3 ⟨rfl, hm3⟩
    go_wp2
    go_ret
    exact ⟨rfl, HM2.out.trans hm3⟩
  | true =>
  obtain ⟨ea, la⟩ := pack_word (p := (a1, a2)) (by omega) (by omega) hsa
  obtain ⟨eb, lb⟩ := pack_word (p := (b1, b2)) (by omega) (by omega) hsb
  simp only at ea eb la lb
  have hcmp : (cmpK (a1, a2) (b1, b2) = -1 ∧ packZ (a1, a2) < packZ (b1, b2)) ∨ (cmpK (a1, a2) (b1, b2) = 0 ∧ packZ (a1, a2) = packZ (b1, b2)) ∨ (cmpK (a1, a2) (b1, b2) = 1 ∧ packZ (b1, b2) < packZ (a1, a2)) := by
    rw [ea, eb]
    unfold cmpK cmpI
    simp only
    repeat' split
    all_goals omega
  have PA := fun W => pack_any (p := (a1, a2)) rfl W
  have PB := fun W => pack_any (p := (b1, b2)) rfl W
  have CM := fun W => compare_any (p := (a1, a2)) (q := (b1, b2)) rfl W
  generalize packZ (a1, a2) = pa at hcmp PA
  generalize packZ (b1, b2) = pb at hcmp PB
  generalize cmpK (a1, a2) (b1, b2) = cc at hcmp CM
  clear ea eb la lb
  rcases hcmp with ⟨rfl, hlt⟩ | ⟨rfl, rfl⟩ | ⟨rfl, hlt⟩
  · have e1 : (pa == pb) = false := by simp; omega
    have e2 : decide (pa < pb) = true := by simpa using hlt
    clear hlt
    go_enter Try.func10, Try.ntmps10
    go_wp2_with fail
    refine (key_known _).mono ?_
    rintro e w1 ⟨rfl, hm1⟩
    have hb0 : w1.heap[w.heap.size]? = some (.cells #[.int .i64 a1, .int .i64 a2] 49 (0, 0)) := (hm1.block w.heap.size (by simp; omega) (fun h => h)).trans (heap_alloc2_old w _ _)
    have hb1 : w1.heap[w.heap.size + 1]? = some (.cells #[.int .i64 b1, .int .i64 b2] 49 (0, 0)) := (hm1.block (w.heap.size + 1) (by simp) (fun h => h)).trans (heap_alloc2_new w _ _)
    have HM := Lib.hid ((((Moves.refl (fun _ => False) w).alloc _).alloc _).trans hm1)
    clear hm1
    obtain ⟨ka, hka⟩ : ∃ ka, w.heap.size = ka := ⟨_, rfl⟩
    simp only [hka] at hb0 hb1 ⊢
    generalize ka + 1 = kb at hb1 ⊢
    clear hka
    obtain ⟨ca0, ca1⟩ := KeyBlk.cells hb0
    obtain ⟨cb0, cb1⟩ := KeyBlk.cells hb1
    have hla := (Array.getElem?_eq_some_iff.1 hb0).1
    have hlb := (Array.getElem?_eq_some_iff.1 hb1).1
    clear hb0 hb1
    go_wp2_with fail
    refine (short_any hsa _).mono ?_
    rintro e w2 ⟨rfl, hm2⟩
    have cb0' := (hm2.cell (p := ⟨kb, 0, none⟩) hlb (fun h => h)).trans cb0
    have cb1' := (hm2.cell (p := ⟨kb, 1, none⟩) hlb (fun h => h)).trans cb1
    go_wp2_with fail
    refine (short_any hsb _).mono ?_
    rintro e w3 ⟨rfl, hm3⟩
    have hm := hm2.trans hm3
    clear hm2 hm3 cb0' cb1'
    have HN : Hid (∀ w', Moves (fun _ => False) w1 w' → w'.cell? ⟨ka, 0, none⟩ = some (.int .i64 a1) ∧ w'.cell? ⟨ka, 1, none⟩ = some (.int .i64 a2) ∧ w'.cell? ⟨kb, 0, none⟩ = some (.int .i64 b1) ∧ w'.cell? ⟨kb, 1, none⟩ = some (.int .i64 b2)) := Lib.hid (fun w' h => ⟨(h.cell (p := ⟨ka, 0, none⟩) hla (fun h => h)).trans ca0, (h.cell (p := ⟨ka, 1, none⟩) hla (fun h => h)).trans ca1, (h.cell (p := ⟨kb, 0, none⟩) hlb (fun h => h)).trans cb0, (h.cell (p := ⟨kb, 1, none⟩) hlb (fun h => h)).trans cb1⟩)
    obtain ⟨ca0', ca1', cb0', cb1'⟩ := HN.out _ hm
    go_wp2_with fail
    refine (CM _).mono ?_
    rintro e w4 ⟨rfl, hl4⟩
    replace hm := hm.trans (hl4.moves _)
    clear ca0' ca1' cb0' cb1' hl4
    have hK0 := KP.of hm
    obtain ⟨ca0', ca1', cb0', cb1'⟩ := HN.out _ hm
    have HG : Hid (∀ wc w', Moves (fun _ => False) wc w' → KP w1 wc → KP w1 w' ∧ w'.cell? ⟨ka, 0, none⟩ = some (.int .i64 a1) ∧ w'.cell? ⟨ka, 1, none⟩ = some (.int .i64 a2) ∧ w'.cell? ⟨kb, 0, none⟩ = some (.int .i64 b1) ∧ w'.cell? ⟨kb, 1, none⟩ = some (.int .i64 b2)) := Lib.hid (fun wc w' h hk => ⟨KP.of (hk.moves.trans h), HN.out _ (hk.moves.trans h)⟩)
    clear hm ca0 ca1 cb0 cb1
    go_wp2_with fail
    go_region_held3 (fun w' => KP w1 w' ∧ w'.cell? ⟨ka, 0, none⟩ = some (.int .i64 a1) ∧ w'.cell? ⟨ka, 1, none⟩ = some (.int .i64 a2) ∧ w'.cell? ⟨kb, 0, none⟩ = some (.int .i64 b1) ∧ w'.cell? ⟨kb, 1, none⟩ = some (.int .i64 b2))
      (first | exact hS' | exact ⟨hK0, ca0', ca1', cb0', cb1'⟩ | assumption | go_keep)
      (first
        | (go_at_call_of 29 a1; refine (PA _).mono ?_; rintro e w' ⟨rfl, hm⟩; have hS' := HG.out _ _ hm (And.left (by assumption)))
        | (go_at_call_of 29 b1; refine (PB _).mono ?_; rintro e w' ⟨rfl, hm⟩; have hS' := HG.out _ _ hm (And.left (by assumption)))
        | fail)
    all_goals
      go_wp2
      go_ret
      exact ⟨rfl, HM.out.trans (KP.moves (And.left (by assumption)))⟩
  · have e2 : decide (pa < pa) = false := by simp
    go_enter Try.func10, Try.ntmps10
    go_wp2_with fail
    refine (key_known _).mono ?_
    rintro e w1 ⟨rfl, hm1⟩
    have hb0 : w1.heap[w.heap.size]? = some (.cells #[.int .i64 a1, .int .i64 a2] 49 (0, 0)) := (hm1.block w.heap.size (by simp; omega) (fun h => h)).trans (heap_alloc2_old w _ _)
    have hb1 : w1.heap[w.heap.size + 1]? = some (.cells #[.int .i64 b1, .int .i64 b2] 49 (0, 0)) := (hm1.block (w.heap.size + 1) (by simp) (fun h => h)).trans (heap_alloc2_new w _ _)
    have HM := Lib.hid ((((Moves.refl (fun _ => False) w).alloc _).alloc _).trans hm1)
    clear hm1
    obtain ⟨ka, hka⟩ : ∃ ka, w.heap.size = ka := ⟨_, rfl⟩
    simp only [hka] at hb0 hb1 ⊢
    generalize ka + 1 = kb at hb1 ⊢
    clear hka
    obtain ⟨ca0, ca1⟩ := KeyBlk.cells hb0
    obtain ⟨cb0, cb1⟩ := KeyBlk.cells hb1
    have hla := (Array.getElem?_eq_some_iff.1 hb0).1
    have hlb := (Array.getElem?_eq_some_iff.1 hb1).1
    clear hb0 hb1
    go_wp2_with fail
    refine (short_any hsa _).mono ?_
    rintro e w2 ⟨rfl, hm2⟩
    have cb0' := (hm2.cell (p := ⟨kb, 0, none⟩) hlb (fun h => h)).trans cb0
    have cb1' := (hm2.cell (p := ⟨kb, 1, none⟩) hlb (fun h => h)).trans cb1
    go_wp2_with fail
    refine (short_any hsb _).mono ?_
    rintro e w3 ⟨rfl, hm3⟩
    have hm := hm2.trans hm3
    clear hm2 hm3 cb0' cb1'
    have HN : Hid (∀ w', Moves (fun _ => False) w1 w' → w'.cell? ⟨ka, 0, none⟩ = some (.int .i64 a1) ∧ w'.cell? ⟨ka, 1, none⟩ = some (.int .i64 a2) ∧ w'.cell? ⟨kb, 0, none⟩ = some (.int .i64 b1) ∧ w'.cell? ⟨kb, 1, none⟩ = some (.int .i64 b2)) := Lib.hid (fun w' h => ⟨(h.cell (p := ⟨ka, 0, none⟩) hla (fun h => h)).trans ca0, (h.cell (p := ⟨ka, 1, none⟩) hla (fun h => h)).trans ca1, (h.cell (p := ⟨kb, 0, none⟩) hlb (fun h => h)).trans cb0, (h.cell (p := ⟨kb, 1, none⟩) hlb (fun h => h)).trans cb1⟩)
    obtain ⟨ca0', ca1', cb0', cb1'⟩ := HN.out _ hm
    go_wp2_with fail
    refine (CM _).mono ?_
    rintro e w4 ⟨rfl, hl4⟩
    replace hm := hm.trans (hl4.moves _)
    clear ca0' ca1' cb0' cb1' hl4
    have hK0 := KP.of hm
    obtain ⟨ca0', ca1', cb0', cb1'⟩ := HN.out _ hm
    have HG : Hid (∀ wc w', Moves (fun _ => False) wc w' → KP w1 wc → KP w1 w' ∧ w'.cell? ⟨ka, 0, none⟩ = some (.int .i64 a1) ∧ w'.cell? ⟨ka, 1, none⟩ = some (.int .i64 a2) ∧ w'.cell? ⟨kb, 0, none⟩ = some (.int .i64 b1) ∧ w'.cell? ⟨kb, 1, none⟩ = some (.int .i64 b2)) := Lib.hid (fun wc w' h hk => ⟨KP.of (hk.moves.trans h), HN.out _ (hk.moves.trans h)⟩)
    clear hm ca0 ca1 cb0 cb1
    go_wp2_with fail
    go_region_held3 (fun w' => KP w1 w' ∧ w'.cell? ⟨ka, 0, none⟩ = some (.int .i64 a1) ∧ w'.cell? ⟨ka, 1, none⟩ = some (.int .i64 a2) ∧ w'.cell? ⟨kb, 0, none⟩ = some (.int .i64 b1) ∧ w'.cell? ⟨kb, 1, none⟩ = some (.int .i64 b2))
      (first | exact hS' | exact ⟨hK0, ca0', ca1', cb0', cb1'⟩ | assumption | go_keep)
      (first
        | (go_at_call_of 29 a1; refine (PA _).mono ?_; rintro e w' ⟨rfl, hm⟩; have hS' := HG.out _ _ hm (And.left (by assumption)))
        | (go_at_call_of 29 b1; refine (PB _).mono ?_; rintro e w' ⟨rfl, hm⟩; have hS' := HG.out _ _ hm (And.left (by assumption)))
        | fail)
    all_goals
      go_wp2
      go_ret
      exact ⟨rfl, HM.out.trans (KP.moves (And.left (by assumption)))⟩
  · have e1 : (pa == pb) = false := by simp; omega
    have e2 : decide (pa < pb) = false := by simp; omega
    clear hlt
    go_enter Try.func10, Try.ntmps10
    go_wp2_with fail
    refine (key_known _).mono ?_
    rintro e w1 ⟨rfl, hm1⟩
    have hb0 : w1.heap[w.heap.size]? = some (.cells #[.int .i64 a1, .int .i64 a2] 49 (0, 0)) := (hm1.block w.heap.size (by simp; omega) (fun h => h)).trans (heap_alloc2_old w _ _)
    have hb1 : w1.heap[w.heap.size + 1]? = some (.cells #[.int .i64 b1, .int .i64 b2] 49 (0, 0)) := (hm1.block (w.heap.size + 1) (by simp) (fun h => h)).trans (heap_alloc2_new w _ _)
    have HM := Lib.hid ((((Moves.refl (fun _ => False) w).alloc _).alloc _).trans hm1)
    clear hm1
    obtain ⟨ka, hka⟩ : ∃ ka, w.heap.size = ka := ⟨_, rfl⟩
    simp only [hka] at hb0 hb1 ⊢
    generalize ka + 1 = kb at hb1 ⊢
    clear hka
    obtain ⟨ca0, ca1⟩ := KeyBlk.cells hb0
    obtain ⟨cb0, cb1⟩ := KeyBlk.cells hb1
    have hla := (Array.getElem?_eq_some_iff.1 hb0).1
    have hlb := (Array.getElem?_eq_some_iff.1 hb1).1
    clear hb0 hb1
    go_wp2_with fail
    refine (short_any hsa _).mono ?_
    rintro e w2 ⟨rfl, hm2⟩
    have cb0' := (hm2.cell (p := ⟨kb, 0, none⟩) hlb (fun h => h)).trans cb0
    have cb1' := (hm2.cell (p := ⟨kb, 1, none⟩) hlb (fun h => h)).trans cb1
    go_wp2_with fail
    refine (short_any hsb _).mono ?_
    rintro e w3 ⟨rfl, hm3⟩
    have hm := hm2.trans hm3
    clear hm2 hm3 cb0' cb1'
    have HN : Hid (∀ w', Moves (fun _ => False) w1 w' → w'.cell? ⟨ka, 0, none⟩ = some (.int .i64 a1) ∧ w'.cell? ⟨ka, 1, none⟩ = some (.int .i64 a2) ∧ w'.cell? ⟨kb, 0, none⟩ = some (.int .i64 b1) ∧ w'.cell? ⟨kb, 1, none⟩ = some (.int .i64 b2)) := Lib.hid (fun w' h => ⟨(h.cell (p := ⟨ka, 0, none⟩) hla (fun h => h)).trans ca0, (h.cell (p := ⟨ka, 1, none⟩) hla (fun h => h)).trans ca1, (h.cell (p := ⟨kb, 0, none⟩) hlb (fun h => h)).trans cb0, (h.cell (p := ⟨kb, 1, none⟩) hlb (fun h => h)).trans cb1⟩)
    obtain ⟨ca0', ca1', cb0', cb1'⟩ := HN.out _ hm
    go_wp2_with fail
    refine (CM _).mono ?_
    rintro e w4 ⟨rfl, hl4⟩
    replace hm := hm.trans (hl4.moves _)
    clear ca0' ca1' cb0' cb1' hl4
    have hK0 := KP.of hm
    obtain ⟨ca0', ca1', cb0', cb1'⟩ := HN.out _ hm
    have HG : Hid (∀ wc w', Moves (fun _ => False) wc w' → KP w1 wc → KP w1 w' ∧ w'.cell? ⟨ka, 0, none⟩ = some (.int .i64 a1) ∧ w'.cell? ⟨ka, 1, none⟩ = some (.int .i64 a2) ∧ w'.cell? ⟨kb, 0, none⟩ = some (.int .i64 b1) ∧ w'.cell? ⟨kb, 1, none⟩ = some (.int .i64 b2)) := Lib.hid (fun wc w' h hk => ⟨KP.of (hk.moves.trans h), HN.out _ (hk.moves.trans h)⟩)
    clear hm ca0 ca1 cb0 cb1
    go_wp2_with fail
    go_region_held3 (fun w' => KP w1 w' ∧ w'.cell? ⟨ka, 0, none⟩ = some (.int .i64 a1) ∧ w'.cell? ⟨ka, 1, none⟩ = some (.int .i64 a2) ∧ w'.cell? ⟨kb, 0, none⟩ = some (.int .i64 b1) ∧ w'.cell? ⟨kb, 1, none⟩ = some (.int .i64 b2))
      (first | exact hS' | exact ⟨hK0, ca0', ca1', cb0', cb1'⟩ | assumption | go_keep)
      (first
        | (go_at_call_of 29 a1; refine (PA _).mono ?_; rintro e w' ⟨rfl, hm⟩; have hS' := HG.out _ _ hm (And.left (by assumption)))
        | (go_at_call_of 29 b1; refine (PB _).mono ?_; rintro e w' ⟨rfl, hm⟩; have hS' := HG.out _ _ hm (And.left (by assumption)))
        | fail)
    all_goals
      go_wp2
      go_ret
      exact ⟨rfl, HM.out.trans (KP.moves (And.left (by assumption)))⟩
end Go.Proofs.Ytmennobdgfgjaaa

