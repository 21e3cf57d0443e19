/-
  The walk of KeysTwo: which of two keys is the lesser; as words they come back.
-/
import Derived.Test.YtmennobdgfgjaaaKeyKnown
import Derived.Test.YtmennobdgfgjaaaKeySort
import Derived.Test.YtmennobdgfgjaaaKeyOpen
import Derived.Test.YtmennobdgfgjaaaRegW
namespace Go.Proofs.Ytmennobdgfgjaaa
open Go Go.RowKit Go.Maps Go.Sort Go.Proofs

theorem back_short {p : Pr} (hs : shortK p = true) : unpackZ (packZ p) = p := by
  unfold shortK at hs
  simp only [decide_eq_true_eq] at hs
  unfold unpackZ packZ w32
  refine Prod.ext ?_ ?_ <;> simp only <;> omega
theorem pack_short {p q : Pr} (hp : shortK p = true) (hq : shortK q = true) : (packZ p == packZ q) = (cmpK p q == 0) := by
  have h1 := back_short hp
  have h2 := back_short hq
  by_cases h : p = q
  · subst h
    rw [(cmpK_zero p p).2 rfl, beq_self_eq_true]
    rfl
  · have e1 : packZ p ≠ packZ q := fun e => h (by rw [← h1, ← h2, e])
    have e2 : cmpK p q ≠ 0 := fun e => h ((cmpK_zero p q).1 e)
    rw [beq_eq_false_iff_ne.2 e1, beq_eq_false_iff_ne.2 e2]
theorem cmpK_swap (p q : Pr) : cmpK q p = 0 - cmpK p q := by
  unfold cmpK cmpI
  repeat' split
  all_goals omega
theorem cmpK_in (p q : Pr) : -1 ≤ cmpK p q ∧ cmpK p q ≤ 1 := by
  unfold cmpK cmpI
  repeat' split
  all_goals omega

set_option maxRecDepth 100000 in
set_option maxHeartbeats 4000000 in
theorem keys_two_tt (w : World) {a1 a2 b1 b2 pa pb cc : Int} (hsa : shortK (a1, a2) = true) (hsb : shortK (b1, b2) = true) (hpa : packZ (a1, a2) = pa) (hpb : packZ (b1, b2) = pb) (hcc : cmpK (a1, a2) (b1, b2) = cc) (hxa : unpackZ pa = (a1, a2)) (hyb : unpackZ pb = (b1, b2)) (heq : (pa == pb) = (cc == 0)) :
    Calls Try.prog 7 #[.agg #[.int .i64 a1, .int .i64 a2], .agg #[.int .i64 b1, .int .i64 b2]] w (TruePost w) := by
  have hci := cmpK_in (a1, a2) (b1, b2)
  rw [hcc] at hci
  have hwr : IntKind.i64.wrap (-cc) = -cc := IntWalk.i64_in _ (by omega)
  have hba : cmpK (b1, b2) (a1, a2) = 0 - cc := by rw [← hcc]; exact cmpK_swap _ _
  have PA := fun W => pack_any hpa W
  have PB := fun W => pack_any hpb W
  have UA := fun W => unpack_any hxa W
  have UB := fun W => unpack_any hyb W
  have CM := fun W => compare_any hcc W
  have CB := fun W => compare_any hba W
  have RC := fun W => refcmp_any hcc W
  have SA := fun W => short_any hsa W
  have SB := fun W => short_any hsb W
  clear hsa hsb hpa hpb hcc hxa hyb hba
  go_enter Try.func7, Try.ntmps7
  go_wp2_with fail
  refine (key_known _).mono ?_
  rintro e w1 ⟨rfl, hm1⟩
  have hb0 : w1.heap[w.heap.size]? = some (.cells #[.int .i64 a1, .int .i64 a2] 49 (0, 0)) := (hm1.block w.heap.size (by simp; omega) (fun h => h)).trans (heap_alloc2_old w _ _)
  have hb1 : w1.heap[w.heap.size + 1]? = some (.cells #[.int .i64 b1, .int .i64 b2] 49 (0, 0)) := (hm1.block (w.heap.size + 1) (by simp) (fun h => h)).trans (heap_alloc2_new w _ _)
  have HM := Lib.hid ((((Moves.refl (fun _ => False) w).alloc _).alloc _).trans hm1)
  clear hm1
  obtain ⟨ka, hka⟩ : ∃ ka, w.heap.size = ka := ⟨_, rfl⟩
  simp only [hka] at hb0 hb1 ⊢
  generalize ka + 1 = kb at hb1 ⊢
  clear hka
  obtain ⟨ca0, ca1⟩ := KeyBlk.cells hb0
  obtain ⟨cb0, cb1⟩ := KeyBlk.cells hb1
  have hla := (Array.getElem?_eq_some_iff.1 hb0).1
  have hlb := (Array.getElem?_eq_some_iff.1 hb1).1
  clear hb0 hb1
  go_wp2_with fail
  refine (CM _).mono ?_
  rintro e w2 ⟨rfl, hl2⟩
  have hm := hl2.moves (fun _ => False)
  clear hl2
  have HN : Hid (∀ w', Moves (fun _ => False) w1 w' → w'.cell? ⟨ka, 0, none⟩ = some (.int .i64 a1) ∧ w'.cell? ⟨ka, 1, none⟩ = some (.int .i64 a2) ∧ w'.cell? ⟨kb, 0, none⟩ = some (.int .i64 b1) ∧ w'.cell? ⟨kb, 1, none⟩ = some (.int .i64 b2)) := Lib.hid (fun w' h => ⟨(h.cell (p := ⟨ka, 0, none⟩) hla (fun h => h)).trans ca0, (h.cell (p := ⟨ka, 1, none⟩) hla (fun h => h)).trans ca1, (h.cell (p := ⟨kb, 0, none⟩) hlb (fun h => h)).trans cb0, (h.cell (p := ⟨kb, 1, none⟩) hlb (fun h => h)).trans cb1⟩)
  have hK0 := KP.of hm
  obtain ⟨ca0', ca1', cb0', cb1'⟩ := HN.out _ hm
  have HG : Hid (∀ wc w', Moves (fun _ => False) wc w' → KP w1 wc → KP w1 w' ∧ w'.cell? ⟨ka, 0, none⟩ = some (.int .i64 a1) ∧ w'.cell? ⟨ka, 1, none⟩ = some (.int .i64 a2) ∧ w'.cell? ⟨kb, 0, none⟩ = some (.int .i64 b1) ∧ w'.cell? ⟨kb, 1, none⟩ = some (.int .i64 b2)) := Lib.hid (fun wc w' h hk => ⟨KP.of (hk.moves.trans h), HN.out _ (hk.moves.trans h)⟩)
  clear hm ca0 ca1 cb0 cb1
  go_wp2_with fail
  go_region_held3 (fun w' => KP w1 w' ∧ w'.cell? ⟨ka, 0, none⟩ = some (.int .i64 a1) ∧ w'.cell? ⟨ka, 1, none⟩ = some (.int .i64 a2) ∧ w'.cell? ⟨kb, 0, none⟩ = some (.int .i64 b1) ∧ w'.cell? ⟨kb, 1, none⟩ = some (.int .i64 b2))
    (first | exact hS' | exact ⟨hK0, ca0', ca1', cb0', cb1'⟩ | assumption | go_keep)
    (first
      | (go_at_call_of 27 a1; refine (of_any (a1, a2) _).mono ?_; rintro e w' ⟨rfl, hm⟩; have hS' := HG.out _ _ hm (And.left (by assumption)))
      | (go_at_call_of 27 b1; refine (of_any (b1, b2) _).mono ?_; rintro e w' ⟨rfl, hm⟩; have hS' := HG.out _ _ hm (And.left (by assumption)))
      | (go_at_call 26; refine (RC _).mono ?_; rintro e w' ⟨rfl, hm⟩; have hS' := HG.out _ _ (hm.moves _) (And.left (by assumption)))
      | (go_at_call 25; refine (CB _).mono ?_; rintro e w' ⟨rfl, hm⟩; have hS' := HG.out _ _ (hm.moves _) (And.left (by assumption)))
      | fail)
  all_goals
    have HK3 := Lib.hid (KP.moves (W := w1) (And.left (by assumption)))
    obtain ⟨d0, d1, d2, d3⟩ := HN.out _ HK3.out
    go_wp2_with fail
    refine (PA _).mono ?_
    rintro e w4 ⟨rfl, hm4⟩
    go_wp2_with fail
    refine (UA _).mono ?_
    rintro e w5 ⟨rfl, hm5⟩
    have hmx := (HK3.out.trans (hm4.trans hm5)).alloc (.cells #[.int .i64 a1, .int .i64 a2] 49)
    obtain ⟨cx0, cx1⟩ := cell2 w5 (.int .i64 a1) (.int .i64 a2) 49
    have hkx : w5.heap.size < (w5.alloc (.cells #[.int .i64 a1, .int .i64 a2] 49)).heap.size := by simp
    clear d0 d1 d2 d3 hm4 hm5
    obtain ⟨d0, d1, d2, d3⟩ := HN.out _ hmx
    go_wp2_with fail
    generalize w5.heap.size = kx at cx0 cx1 hkx ⊢
    generalize w5.alloc (.cells #[.int .i64 a1, .int .i64 a2] 49) = wx at hmx cx0 cx1 hkx d0 d1 d2 d3 ⊢
    refine (PB _).mono ?_
    rintro e w6 ⟨rfl, hm6⟩
    go_wp2_with fail
    refine (UB _).mono ?_
    rintro e w7 ⟨rfl, hm7⟩
    have hmy := (hm6.trans hm7).alloc (.cells #[.int .i64 b1, .int .i64 b2] 49)
    obtain ⟨cy0, cy1⟩ := cell2 w7 (.int .i64 b1) (.int .i64 b2) 49
    have hky : w7.heap.size < (w7.alloc (.cells #[.int .i64 b1, .int .i64 b2] 49)).heap.size := by simp
    clear d0 d1 d2 d3 hm6 hm7
    obtain ⟨d0, d1, d2, d3⟩ := HN.out _ (hmx.trans hmy)
    have d4 := (hmy.cell (p := ⟨kx, 0, none⟩) hkx (fun h => h)).trans cx0
    have d5 := (hmy.cell (p := ⟨kx, 1, none⟩) hkx (fun h => h)).trans cx1
    have hkx' := Nat.lt_of_lt_of_le hkx hmy.size
    go_wp2_with fail
    generalize w7.heap.size = ky at cy0 cy1 hky ⊢
    generalize w7.alloc (.cells #[.int .i64 b1, .int .i64 b2] 49) = wy at hmy cy0 cy1 hky d0 d1 d2 d3 d4 d5 hkx' ⊢
    have HK8 := Lib.hid (hmx.trans hmy)
    have H8 : Hid (∀ wc w', Moves (fun _ => False) wc w' → KP wy wc → KP wy w' ∧ w'.cell? ⟨ka, 0, none⟩ = some (.int .i64 a1) ∧ w'.cell? ⟨ka, 1, none⟩ = some (.int .i64 a2) ∧ w'.cell? ⟨kb, 0, none⟩ = some (.int .i64 b1) ∧ w'.cell? ⟨kb, 1, none⟩ = some (.int .i64 b2) ∧ w'.cell? ⟨kx, 0, none⟩ = some (.int .i64 a1) ∧ w'.cell? ⟨kx, 1, none⟩ = some (.int .i64 a2) ∧ w'.cell? ⟨ky, 0, none⟩ = some (.int .i64 b1) ∧ w'.cell? ⟨ky, 1, none⟩ = some (.int .i64 b2)) := Lib.hid (fun wc w' h hk => by
      have h' := hk.moves.trans h
      have h1 := HN.out _ (HK8.out.trans h')
      exact ⟨KP.of h', h1.1, h1.2.1, h1.2.2.1, h1.2.2.2, (h'.cell (p := ⟨kx, 0, none⟩) hkx' (fun h => h)).trans d4, (h'.cell (p := ⟨kx, 1, none⟩) hkx' (fun h => h)).trans d5, (h'.cell (p := ⟨ky, 0, none⟩) hky (fun h => h)).trans cy0, (h'.cell (p := ⟨ky, 1, none⟩) hky (fun h => h)).trans cy1⟩)
    have hK8 : KP wy wy := KP.of (Moves.refl _ _)
    clear cx0 cx1 hkx hmx hmy
    reg_w (fun w' => KP wy w' ∧ w'.cell? ⟨ka, 0, none⟩ = some (.int .i64 a1) ∧ w'.cell? ⟨ka, 1, none⟩ = some (.int .i64 a2) ∧ w'.cell? ⟨kb, 0, none⟩ = some (.int .i64 b1) ∧ w'.cell? ⟨kb, 1, none⟩ = some (.int .i64 b2) ∧ w'.cell? ⟨kx, 0, none⟩ = some (.int .i64 a1) ∧ w'.cell? ⟨kx, 1, none⟩ = some (.int .i64 a2) ∧ w'.cell? ⟨ky, 0, none⟩ = some (.int .i64 b1) ∧ w'.cell? ⟨ky, 1, none⟩ = some (.int .i64 b2))
      (first | exact hS' | exact ⟨hK8, d0, d1, d2, d3, d4, d5, cy0, cy1⟩ | assumption | go_keep)
      (first
        | (go_at_call_of 30 a1; refine (SA _).mono ?_; rintro e w' ⟨rfl, hm⟩; have hS' := H8.out _ _ hm (And.left (by assumption)))
        | (go_at_call_of 30 b1; refine (SB _).mono ?_; rintro e w' ⟨rfl, hm⟩; have hS' := H8.out _ _ hm (And.left (by assumption)))
        | (go_at_call_of 29 a1; refine (PA _).mono ?_; rintro e w' ⟨rfl, hm⟩; have hS' := H8.out _ _ hm (And.left (by assumption)))
        | (go_at_call_of 29 b1; refine (PB _).mono ?_; rintro e w' ⟨rfl, hm⟩; have hS' := H8.out _ _ hm (And.left (by assumption)))
        | fail)
    all_goals
      go_wp2
      go_ret
      exact ⟨rfl, HM.out.trans (HK8.out.trans (KP.moves (And.left (by assumption))))⟩

set_option maxRecDepth 100000 in
set_option maxHeartbeats 4000000 in
theorem keys_two_tf (w : World) {a1 a2 b1 b2 pa pb cc : Int} {y1 y2 : Int} (hsa : shortK (a1, a2) = true) (hsb : shortK (b1, b2) = false) (hpa : packZ (a1, a2) = pa) (hpb : packZ (b1, b2) = pb) (hcc : cmpK (a1, a2) (b1, b2) = cc) (hxa : unpackZ pa = (a1, a2)) (hyb : unpackZ pb = (y1, y2)) :
    Calls Try.prog 7 #[.agg #[.int .i64 a1, .int .i64 a2], .agg #[.int .i64 b1, .int .i64 b2]] w (TruePost w) := by
  have hci := cmpK_in (a1, a2) (b1, b2)
  rw [hcc] at hci
  have hwr : IntKind.i64.wrap (-cc) = -cc := IntWalk.i64_in _ (by omega)
  have hba : cmpK (b1, b2) (a1, a2) = 0 - cc := by rw [← hcc]; exact cmpK_swap _ _
  have PA := fun W => pack_any hpa W
  have PB := fun W => pack_any hpb W
  have UA := fun W => unpack_any hxa W
  have UB := fun W => unpack_any hyb W
  have CM := fun W => compare_any hcc W
  have CB := fun W => compare_any hba W
  have RC := fun W => refcmp_any hcc W
  have SA := fun W => short_any hsa W
  have SB := fun W => short_any hsb W
  clear hsa hsb hpa hpb hcc hxa hyb hba
  go_enter Try.func7, Try.ntmps7
  go_wp2_with fail
  refine (key_known _).mono ?_
  rintro e w1 ⟨rfl, hm1⟩
  have hb0 : w1.heap[w.heap.size]? = some (.cells #[.int .i64 a1, .int .i64 a2] 49 (0, 0)) := (hm1.block w.heap.size (by simp; omega) (fun h => h)).trans (heap_alloc2_old w _ _)
  have hb1 : w1.heap[w.heap.size + 1]? = some (.cells #[.int .i64 b1, .int .i64 b2] 49 (0, 0)) := (hm1.block (w.heap.size + 1) (by simp) (fun h => h)).trans (heap_alloc2_new w _ _)
  have HM := Lib.hid ((((Moves.refl (fun _ => False) w).alloc _).alloc _).trans hm1)
  clear hm1
  obtain ⟨ka, hka⟩ : ∃ ka, w.heap.size = ka := ⟨_, rfl⟩
  simp only [hka] at hb0 hb1 ⊢
  generalize ka + 1 = kb at hb1 ⊢
  clear hka
  obtain ⟨ca0, ca1⟩ := KeyBlk.cells hb0
  obtain ⟨cb0, cb1⟩ := KeyBlk.cells hb1
  have hla := (Array.getElem?_eq_some_iff.1 hb0).1
  have hlb := (Array.getElem?_eq_some_iff.1 hb1).1
  clear hb0 hb1
  go_wp2_with fail
  refine (CM _).mono ?_
  rintro e w2 ⟨rfl, hl2⟩
  have hm := hl2.moves (fun _ => False)
  clear hl2
  have HN : Hid (∀ w', Moves (fun _ => False) w1 w' → w'.cell? ⟨ka, 0, none⟩ = some (.int .i64 a1) ∧ w'.cell? ⟨ka, 1, none⟩ = some (.int .i64 a2) ∧ w'.cell? ⟨kb, 0, none⟩ = some (.int .i64 b1) ∧ w'.cell? ⟨kb, 1, none⟩ = some (.int .i64 b2)) := Lib.hid (fun w' h => ⟨(h.cell (p := ⟨ka, 0, none⟩) hla (fun h => h)).trans ca0, (h.cell (p := ⟨ka, 1, none⟩) hla (fun h => h)).trans ca1, (h.cell (p := ⟨kb, 0, none⟩) hlb (fun h => h)).trans cb0, (h.cell (p := ⟨kb, 1, none⟩) hlb (fun h => h)).trans cb1⟩)
  have hK0 := KP.of hm
  obtain ⟨ca0', ca1', cb0', cb1'⟩ := HN.out _ hm
  have HG : Hid (∀ wc w', Moves (fun _ => False) wc w' → KP w1 wc → KP w1 w' ∧ w'.cell? ⟨ka, 0, none⟩ = some (.int .i64 a1) ∧ w'.cell? ⟨ka, 1, none⟩ = some (.int .i64 a2) ∧ w'.cell? ⟨kb, 0, none⟩ = some (.int .i64 b1) ∧ w'.cell? ⟨kb, 1, none⟩ = some (.int .i64 b2)) := Lib.hid (fun wc w' h hk => ⟨KP.of (hk.moves.trans h), HN.out _ (hk.moves.trans h)⟩)
  clear hm ca0 ca1 cb0 cb1
  go_wp2_with fail
  go_region_held3 (fun w' => KP w1 w' ∧ w'.cell? ⟨ka, 0, none⟩ = some (.int .i64 a1) ∧ w'.cell? ⟨ka, 1, none⟩ = some (.int .i64 a2) ∧ w'.cell? ⟨kb, 0, none⟩ = some (.int .i64 b1) ∧ w'.cell? ⟨kb, 1, none⟩ = some (.int .i64 b2))
    (first | exact hS' | exact ⟨hK0, ca0', ca1', cb0', cb1'⟩ | assumption | go_keep)
    (first
      | (go_at_call_of 27 a1; refine (of_any (a1, a2) _).mono ?_; rintro e w' ⟨rfl, hm⟩; have hS' := HG.out _ _ hm (And.left (by assumption)))
      | (go_at_call_of 27 b1; refine (of_any (b1, b2) _).mono ?_; rintro e w' ⟨rfl, hm⟩; have hS' := HG.out _ _ hm (And.left (by assumption)))
      | (go_at_call 26; refine (RC _).mono ?_; rintro e w' ⟨rfl, hm⟩; have hS' := HG.out _ _ (hm.moves _) (And.left (by assumption)))
      | (go_at_call 25; refine (CB _).mono ?_; rintro e w' ⟨rfl, hm⟩; have hS' := HG.out _ _ (hm.moves _) (And.left (by assumption)))
      | fail)
  all_goals
    have HK3 := Lib.hid (KP.moves (W := w1) (And.left (by assumption)))
    obtain ⟨d0, d1, d2, d3⟩ := HN.out _ HK3.out
    go_wp2_with fail
    refine (PA _).mono ?_
    rintro e w4 ⟨rfl, hm4⟩
    go_wp2_with fail
    refine (UA _).mono ?_
    rintro e w5 ⟨rfl, hm5⟩
    have hmx := (HK3.out.trans (hm4.trans hm5)).alloc (.cells #[.int .i64 a1, .int .i64 a2] 49)
    obtain ⟨cx0, cx1⟩ := cell2 w5 (.int .i64 a1) (.int .i64 a2) 49
    have hkx : w5.heap.size < (w5.alloc (.cells #[.int .i64 a1, .int .i64 a2] 49)).heap.size := by simp
    clear d0 d1 d2 d3 hm4 hm5
    obtain ⟨d0, d1, d2, d3⟩ := HN.out _ hmx
    go_wp2_with fail
    generalize w5.heap.size = kx at cx0 cx1 hkx ⊢
    generalize w5.alloc (.cells #[.int .i64 a1, .int .i64 a2] 49) = wx at hmx cx0 cx1 hkx d0 d1 d2 d3 ⊢
    refine (PB _).mono ?_
    rintro e w6 ⟨rfl, hm6⟩
    go_wp2_with fail
    refine (UB _).mono ?_
    rintro e w7 ⟨rfl, hm7⟩
    have hmy := (hm6.trans hm7).alloc (.cells #[.int .i64 y1, .int .i64 y2] 49)
    obtain ⟨cy0, cy1⟩ := cell2 w7 (.int .i64 y1) (.int .i64 y2) 49
    have hky : w7.heap.size < (w7.alloc (.cells #[.int .i64 y1, .int .i64 y2] 49)).heap.size := by simp
    clear d0 d1 d2 d3 hm6 hm7
    obtain ⟨d0, d1, d2, d3⟩ := HN.out _ (hmx.trans hmy)
    have d4 := (hmy.cell (p := ⟨kx, 0, none⟩) hkx (fun h => h)).trans cx0
    have d5 := (hmy.cell (p := ⟨kx, 1, none⟩) hkx (fun h => h)).trans cx1
    have hkx' := Nat.lt_of_lt_of_le hkx hmy.size
    go_wp2_with fail
    generalize w7.heap.size = ky at cy0 cy1 hky ⊢
    generalize w7.alloc (.cells #[.int .i64 y1, .int .i64 y2] 49) = wy at hmy cy0 cy1 hky d0 d1 d2 d3 d4 d5 hkx' ⊢
    have HK8 := Lib.hid (hmx.trans hmy)
    have H8 : Hid (∀ wc w', Moves (fun _ => False) wc w' → KP wy wc → KP wy w' ∧ w'.cell? ⟨ka, 0, none⟩ = some (.int .i64 a1) ∧ w'.cell? ⟨ka, 1, none⟩ = some (.int .i64 a2) ∧ w'.cell? ⟨kb, 0, none⟩ = some (.int .i64 b1) ∧ w'.cell? ⟨kb, 1, none⟩ = some (.int .i64 b2) ∧ w'.cell? ⟨kx, 0, none⟩ = some (.int .i64 a1) ∧ w'.cell? ⟨kx, 1, none⟩ = some (.int .i64 a2) ∧ w'.cell? ⟨ky, 0, none⟩ = some (.int .i64 y1) ∧ w'.cell? ⟨ky, 1, none⟩ = some (.int .i64 y2)) := Lib.hid (fun wc w' h hk => by
      have h' := hk.moves.trans h
      have h1 := HN.out _ (HK8.out.trans h')
      exact ⟨KP.of h', h1.1, h1.2.1, h1.2.2.1, h1.2.2.2, (h'.cell (p := ⟨kx, 0, none⟩) hkx' (fun h => h)).trans d4, (h'.cell (p := ⟨kx, 1, none⟩) hkx' (fun h => h)).trans d5, (h'.cell (p := ⟨ky, 0, none⟩) hky (fun h => h)).trans cy0, (h'.cell (p := ⟨ky, 1, none⟩) hky (fun h => h)).trans cy1⟩)
    have hK8 : KP wy wy := KP.of (Moves.refl _ _)
    clear cx0 cx1 hkx hmx hmy
    reg_w (fun w' => KP wy w' ∧ w'.cell? ⟨ka, 0, none⟩ = some (.int .i64 a1) ∧ w'.cell? ⟨ka, 1, none⟩ = some (.int .i64 a2) ∧ w'.cell? ⟨kb, 0, none⟩ = some (.int .i64 b1) ∧ w'.cell? ⟨kb, 1, none⟩ = some (.int .i64 b2) ∧ w'.cell? ⟨kx, 0, none⟩ = some (.int .i64 a1) ∧ w'.cell? ⟨kx, 1, none⟩ = some (.int .i64 a2) ∧ w'.cell? ⟨ky, 0, none⟩ = some (.int .i64 y1) ∧ w'.cell? ⟨ky, 1, none⟩ = some (.int .i64 y2))
      (first | exact hS' | exact ⟨hK8, d0, d1, d2, d3, d4, d5, cy0, cy1⟩ | assumption | go_keep)
      (first
        | (go_at_call_of 30 a1; refine (SA _).mono ?_; rintro e w' ⟨rfl, hm⟩; have hS' := H8.out _ _ hm (And.left (by assumption)))
        | (go_at_call_of 30 b1; refine (SB _).mono ?_; rintro e w' ⟨rfl, hm⟩; have hS' := H8.out _ _ hm (And.left (by assumption)))
        | (go_at_call_of 29 a1; refine (PA _).mono ?_; rintro e w' ⟨rfl, hm⟩; have hS' := H8.out _ _ hm (And.left (by assumption)))
        | (go_at_call_of 29 b1; refine (PB _).mono ?_; rintro e w' ⟨rfl, hm⟩; have hS' := H8.out _ _ hm (And.left (by assumption)))
        | fail)
    all_goals
      go_wp2
      go_ret
      exact ⟨rfl, HM.out.trans (HK8.out.trans (KP.moves (And.left (by assumption))))⟩

set_option maxRecDepth 100000 in
set_option maxHeartbeats 4000000 in
theorem keys_two_ft (w : World) {a1 a2 b1 b2 pa pb cc : Int} {x1 x2 : Int} (hsa : shortK (a1, a2) = false) (hsb : shortK (b1, b2) = true) (hpa : packZ (a1, a2) = pa) (hpb : packZ (b1, b2) = pb) (hcc : cmpK (a1, a2) (b1, b2) = cc) (hxa : unpackZ pa = (x1, x2)) (hyb : unpackZ pb = (b1, b2)) :
    Calls Try.prog 7 #[.agg #[.int .i64 a1, .int .i64 a2], .agg #[.int .i64 b1, .int .i64 b2]] w (TruePost w) := by
  have hci := cmpK_in (a1, a2) (b1, b2)
  rw [hcc] at hci
  have hwr : IntKind.i64.wrap (-cc) = -cc := IntWalk.i64_in _ (by omega)
  have hba : cmpK (b1, b2) (a1, a2) = 0 - cc := by rw [← hcc]; exact cmpK_swap _ _
  have PA := fun W => pack_any hpa W
  have PB := fun W => pack_any hpb W
  have UA := fun W => unpack_any hxa W
  have UB := fun W => unpack_any hyb W
  have CM := fun W => compare_any hcc W
  have CB := fun W => compare_any hba W
  have RC := fun W => refcmp_any hcc W
  have SA := fun W => short_any hsa W
  have SB := fun W => short_any hsb W
  clear hsa hsb hpa hpb hcc hxa hyb hba
  go_enter Try.func7, Try.ntmps7
  go_wp2_with fail
  refine (key_known _).mono ?_
  rintro e w1 ⟨rfl, hm1⟩
  have hb0 : w1.heap[w.heap.size]? = some (.cells #[.int .i64 a1, .int .i64 a2] 49 (0, 0)) := (hm1.block w.heap.size (by simp; omega) (fun h => h)).trans (heap_alloc2_old w _ _)
  have hb1 : w1.heap[w.heap.size + 1]? = some (.cells #[.int .i64 b1, .int .i64 b2] 49 (0, 0)) := (hm1.block (w.heap.size + 1) (by simp) (fun h => h)).trans (heap_alloc2_new w _ _)
  have HM := Lib.hid ((((Moves.refl (fun _ => False) w).alloc _).alloc _).trans hm1)
  clear hm1
  obtain ⟨ka, hka⟩ : ∃ ka, w.heap.size = ka := ⟨_, rfl⟩
  simp only [hka] at hb0 hb1 ⊢
  generalize ka + 1 = kb at hb1 ⊢
  clear hka
  obtain ⟨ca0, ca1⟩ := KeyBlk.cells hb0
  obtain ⟨cb0, cb1⟩ := KeyBlk.cells hb1
  have hla := (Array.getElem?_eq_some_iff.1 hb0).1
  have hlb := (Array.getElem?_eq_some_iff.1 hb1).1
  clear hb0 hb1
  go_wp2_with fail
  refine (CM _).mono ?_
  rintro e w2 ⟨rfl, hl2⟩
  have hm := hl2.moves (fun _ => False)
  clear hl2
  have HN : Hid (∀ w', Moves (fun _ => False) w1 w' → w'.cell? ⟨ka, 0, none⟩ = some (.int .i64 a1) ∧ w'.cell? ⟨ka, 1, none⟩ = some (.int .i64 a2) ∧ w'.cell? ⟨kb, 0, none⟩ = some (.int .i64 b1) ∧ w'.cell? ⟨kb, 1, none⟩ = some (.int .i64 b2)) := Lib.hid (fun w' h => ⟨(h.cell (p := ⟨ka, 0, none⟩) hla (fun h => h)).trans ca0, (h.cell (p := ⟨ka, 1, none⟩) hla (fun h => h)).trans ca1, (h.cell (p := ⟨kb, 0, none⟩) hlb (fun h => h)).trans cb0, (h.cell (p := ⟨kb, 1, none⟩) hlb (fun h => h)).trans cb1⟩)
  have hK0 := KP.of hm
  obtain ⟨ca0', ca1', cb0', cb1'⟩ := HN.out _ hm
  have HG : Hid (∀ wc w', Moves (fun _ => False) wc w' → KP w1 wc → KP w1 w' ∧ w'.cell? ⟨ka, 0, none⟩ = some (.int .i64 a1) ∧ w'.cell? ⟨ka, 1, none⟩ = some (.int .i64 a2) ∧ w'.cell? ⟨kb, 0, none⟩ = some (.int .i64 b1) ∧ w'.cell? ⟨kb, 1, none⟩ = some (.int .i64 b2)) := Lib.hid (fun wc w' h hk => ⟨KP.of (hk.moves.trans h), HN.out _ (hk.moves.trans h)⟩)
  clear hm ca0 ca1 cb0 cb1
  go_wp2_with fail
  go_region_held3 (fun w' => KP w1 w' ∧ w'.cell? ⟨ka, 0, none⟩ = some (.int .i64 a1) ∧ w'.cell? ⟨ka, 1, none⟩ = some (.int .i64 a2) ∧ w'.cell? ⟨kb, 0, none⟩ = some (.int .i64 b1) ∧ w'.cell? ⟨kb, 1, none⟩ = some (.int .i64 b2))
    (first | exact hS' | exact ⟨hK0, ca0', ca1', cb0', cb1'⟩ | assumption | go_keep)
    (first
      | (go_at_call_of 27 a1; refine (of_any (a1, a2) _).mono ?_; rintro e w' ⟨rfl, hm⟩; have hS' := HG.out _ _ hm (And.left (by assumption)))
      | (go_at_call_of 27 b1; refine (of_any (b1, b2) _).mono ?_; rintro e w' ⟨rfl, hm⟩; have hS' := HG.out _ _ hm (And.left (by assumption)))
      | (go_at_call 26; refine (RC _).mono ?_; rintro e w' ⟨rfl, hm⟩; have hS' := HG.out _ _ (hm.moves _) (And.left (by assumption)))
      | (go_at_call 25; refine (CB _).mono ?_; rintro e w' ⟨rfl, hm⟩; have hS' := HG.out _ _ (hm.moves _) (And.left (by assumption)))
      | fail)
  all_goals
    have HK3 := Lib.hid (KP.moves (W := w1) (And.left (by assumption)))
    obtain ⟨d0, d1, d2, d3⟩ := HN.out _ HK3.out
    go_wp2_with fail
    refine (PA _).mono ?_
    rintro e w4 ⟨rfl, hm4⟩
    go_wp2_with fail
    refine (UA _).mono ?_
    rintro e w5 ⟨rfl, hm5⟩
    have hmx := (HK3.out.trans (hm4.trans hm5)).alloc (.cells #[.int .i64 x1, .int .i64 x2] 49)
    obtain ⟨cx0, cx1⟩ := cell2 w5 (.int .i64 x1) (.int .i64 x2) 49
    have hkx : w5.heap.size < (w5.alloc (.cells #[.int .i64 x1, .int .i64 x2] 49)).heap.size := by simp
    clear d0 d1 d2 d3 hm4 hm5
    obtain ⟨d0, d1, d2, d3⟩ := HN.out _ hmx
    go_wp2_with fail
    generalize w5.heap.size = kx at cx0 cx1 hkx ⊢
    generalize w5.alloc (.cells #[.int .i64 x1, .int .i64 x2] 49) = wx at hmx cx0 cx1 hkx d0 d1 d2 d3 ⊢
    refine (PB _).mono ?_
    rintro e w6 ⟨rfl, hm6⟩
    go_wp2_with fail
    refine (UB _).mono ?_
    rintro e w7 ⟨rfl, hm7⟩
    have hmy := (hm6.trans hm7).alloc (.cells #[.int .i64 b1, .int .i64 b2] 49)
    obtain ⟨cy0, cy1⟩ := cell2 w7 (.int .i64 b1) (.int .i64 b2) 49
    have hky : w7.heap.size < (w7.alloc (.cells #[.int .i64 b1, .int .i64 b2] 49)).heap.size := by simp
    clear d0 d1 d2 d3 hm6 hm7
    obtain ⟨d0, d1, d2, d3⟩ := HN.out _ (hmx.trans hmy)
    have d4 := (hmy.cell (p := ⟨kx, 0, none⟩) hkx (fun h => h)).trans cx0
    have d5 := (hmy.cell (p := ⟨kx, 1, none⟩) hkx (fun h => h)).trans cx1
    have hkx' := Nat.lt_of_lt_of_le hkx hmy.size
    go_wp2_with fail
    generalize w7.heap.size = ky at cy0 cy1 hky ⊢
    generalize w7.alloc (.cells #[.int .i64 b1, .int .i64 b2] 49) = wy at hmy cy0 cy1 hky d0 d1 d2 d3 d4 d5 hkx' ⊢
    have HK8 := Lib.hid (hmx.trans hmy)
    have H8 : Hid (∀ wc w', Moves (fun _ => False) wc w' → KP wy wc → KP wy w' ∧ w'.cell? ⟨ka, 0, none⟩ = some (.int .i64 a1) ∧ w'.cell? ⟨ka, 1, none⟩ = some (.int .i64 a2) ∧ w'.cell? ⟨kb, 0, none⟩ = some (.int .i64 b1) ∧ w'.cell? ⟨kb, 1, none⟩ = some (.int .i64 b2) ∧ w'.cell? ⟨kx, 0, none⟩ = some (.int .i64 x1) ∧ w'.cell? ⟨kx, 1, none⟩ = some (.int .i64 x2) ∧ w'.cell? ⟨ky, 0, none⟩ = some (.int .i64 b1) ∧ w'.cell? ⟨ky, 1, none⟩ = some (.int .i64 b2)) := Lib.hid (fun wc w' h hk => by
      have h' := hk.moves.trans h
      have h1 := HN.out _ (HK8.out.trans h')
      exact ⟨KP.of h', h1.1, h1.2.1, h1.2.2.1, h1.2.2.2, (h'.cell (p := ⟨kx, 0, none⟩) hkx' (fun h => h)).trans d4, (h'.cell (p := ⟨kx, 1, none⟩) hkx' (fun h => h)).trans d5, (h'.cell (p := ⟨ky, 0, none⟩) hky (fun h => h)).trans cy0, (h'.cell (p := ⟨ky, 1, none⟩) hky (fun h => h)).trans cy1⟩)
    have hK8 : KP wy wy := KP.of (Moves.refl _ _)
    clear cx0 cx1 hkx hmx hmy
    reg_w (fun w' => KP wy w' ∧ w'.cell? ⟨ka, 0, none⟩ = some (.int .i64 a1) ∧ w'.cell? ⟨ka, 1, none⟩ = some (.int .i64 a2) ∧ w'.cell? ⟨kb, 0, none⟩ = some (.int .i64 b1) ∧ w'.cell? ⟨kb, 1, none⟩ = some (.int .i64 b2) ∧ w'.cell? ⟨kx, 0, none⟩ = some (.int .i64 x1) ∧ w'.cell? ⟨kx, 1, none⟩ = some (.int .i64 x2) ∧ w'.cell? ⟨ky, 0, none⟩ = some (.int .i64 b1) ∧ w'.cell? ⟨ky, 1, none⟩ = some (.int .i64 b2))
      (first | exact hS' | exact ⟨hK8, d0, d1, d2, d3, d4, d5, cy0, cy1⟩ | assumption | go_keep)
      (first
        | (go_at_call_of 30 a1; refine (SA _).mono ?_; rintro e w' ⟨rfl, hm⟩; have hS' := H8.out _ _ hm (And.left (by assumption)))
        | (go_at_call_of 30 b1; refine (SB _).mono ?_; rintro e w' ⟨rfl, hm⟩; have hS' := H8.out _ _ hm (And.left (by assumption)))
        | (go_at_call_of 29 a1; refine (PA _).mono ?_; rintro e w' ⟨rfl, hm⟩; have hS' := H8.out _ _ hm (And.left (by assumption)))
        | (go_at_call_of 29 b1; refine (PB _).mono ?_; rintro e w' ⟨rfl, hm⟩; have hS' := H8.out _ _ hm (And.left (by assumption)))
        | fail)
    all_goals
      go_wp2
      go_ret
      exact ⟨rfl, HM.out.trans (HK8.out.trans (KP.moves (And.left (by assumption))))⟩

set_option maxRecDepth 100000 in
set_option maxHeartbeats 4000000 in
theorem keys_two_ff (w : World) {a1 a2 b1 b2 pa pb cc : Int} {x1 x2 : Int} {y1 y2 : Int} (hsa : shortK (a1, a2) = false) (hsb : shortK (b1, b2) = false) (hpa : packZ (a1, a2) = pa) (hpb : packZ (b1, b2) = pb) (hcc : cmpK (a1, a2) (b1, b2) = cc) (hxa : unpackZ pa = (x1, x2)) (hyb : unpackZ pb = (y1, y2)) :
    Calls Try.prog 7 #[.agg #[.int .i64 a1, .int .i64 a2], .agg #[.int .i64 b1, .int .i64 b2]] w (TruePost w) := by
  have hci := cmpK_in (a1, a2) (b1, b2)
  rw [hcc] at hci
  have hwr : IntKind.i64.wrap (-cc) = -cc := IntWalk.i64_in _ (by omega)
  have hba : cmpK (b1, b2) (a1, a2) = 0 - cc := by rw [← hcc]; exact cmpK_swap _ _
  have PA := fun W => pack_any hpa W
  have PB := fun W => pack_any hpb W
  have UA := fun W => unpack_any hxa W
  have UB := fun W => unpack_any hyb W
  have CM := fun W => compare_any hcc W
  have CB := fun W => compare_any hba W
  have RC := fun W => refcmp_any hcc W
  have SA := fun W => short_any hsa W
  have SB := fun W => short_any hsb W
  clear hsa hsb hpa hpb hcc hxa hyb hba
  go_enter Try.func7, Try.ntmps7
  go_wp2_with fail
  refine (key_known _).mono ?_
  rintro e w1 ⟨rfl, hm1⟩
  have hb0 : w1.heap[w.heap.size]? = some (.cells #[.int .i64 a1, .int .i64 a2] 49 (0, 0)) := (hm1.block w.heap.size (by simp; omega) (fun h => h)).trans (heap_alloc2_old w _ _)
  have hb1 : w1.heap[w.heap.size + 1]? = some (.cells #[.int .i64 b1, .int .i64 b2] 49 (0, 0)) := (hm1.block (w.heap.size + 1) (by simp) (fun h => h)).trans (heap_alloc2_new w _ _)
  have HM := Lib.hid ((((Moves.refl (fun _ => False) w).alloc _).alloc _).trans hm1)
  clear hm1
  obtain ⟨ka, hka⟩ : ∃ ka, w.heap.size = ka := ⟨_, rfl⟩
  simp only [hka] at hb0 hb1 ⊢
  generalize ka + 1 = kb at hb1 ⊢
  clear hka
  obtain ⟨ca0, ca1⟩ := KeyBlk.cells hb0
  obtain ⟨cb0, cb1⟩ := KeyBlk.cells hb1
  have hla := (Array.getElem?_eq_some_iff.1 hb0).1
  have hlb := (Array.getElem?_eq_some_iff.1 hb1).1
  clear hb0 hb1
  go_wp2_with fail
  refine (CM _).mono ?_
  rintro e w2 ⟨rfl, hl2⟩
  have hm := hl2.moves (fun _ => False)
  clear hl2
  have HN : Hid (∀ w', Moves (fun _ => False) w1 w' → w'.cell? ⟨ka, 0, none⟩ = some (.int .i64 a1) ∧ w'.cell? ⟨ka, 1, none⟩ = some (.int .i64 a2) ∧ w'.cell? ⟨kb, 0, none⟩ = some (.int .i64 b1) ∧ w'.cell? ⟨kb, 1, none⟩ = some (.int .i64 b2)) := Lib.hid (fun w' h => ⟨(h.cell (p := ⟨ka, 0, none⟩) hla (fun h => h)).trans ca0, (h.cell (p := ⟨ka, 1, none⟩) hla (fun h => h)).trans ca1, (h.cell (p := ⟨kb, 0, none⟩) hlb (fun h => h)).trans cb0, (h.cell (p := ⟨kb, 1, none⟩) hlb (fun h => h)).trans cb1⟩)
  have hK0 := KP.of hm
  obtain ⟨ca0', ca1', cb0', cb1'⟩ := HN.out _ hm
  have HG : Hid (∀ wc w', Moves (fun _ => False) wc w' → KP w1 wc → KP w1 w' ∧ w'.cell? ⟨ka, 0, none⟩ = some (.int .i64 a1) ∧ w'.cell? ⟨ka, 1, none⟩ = some (.int .i64 a2) ∧ w'.cell? ⟨kb, 0, none⟩ = some (.int .i64 b1) ∧ w'.cell? ⟨kb, 1, none⟩ = some (.int .i64 b2)) := Lib.hid (fun wc w' h hk => ⟨KP.of (hk.moves.trans h), HN.out _ (hk.moves.trans h)⟩)
  clear hm ca0 ca1 cb0 cb1
  go_wp2_with fail
  go_region_held3 (fun w' => KP w1 w' ∧ w'.cell? ⟨ka, 0, none⟩ = some (.int .i64 a1) ∧ w'.cell? ⟨ka, 1, none⟩ = some (.int .i64 a2) ∧ w'.cell? ⟨kb, 0, none⟩ = some (.int .i64 b1) ∧ w'.cell? ⟨kb, 1, none⟩ = some (.int .i64 b2))
    (first | exact hS' | exact ⟨hK0, ca0', ca1', cb0', cb1'⟩ | assumption | go_keep)
    (first
      | (go_at_call_of 27 a1; refine (of_any (a1, a2) _).mono ?_; rintro e w' ⟨rfl, hm⟩; have hS' := HG.out _ _ hm (And.left (by assumption)))
      | (go_at_call_of 27 b1; refine (of_any (b1, b2) _).mono ?_; rintro e w' ⟨rfl, hm⟩; have hS' := HG.out _ _ hm (And.left (by assumption)))
      | (go_at_call 26; refine (RC _).mono ?_; rintro e w' ⟨rfl, hm⟩; have hS' := HG.out _ _ (hm.moves _) (And.left (by assumption)))
      | (go_at_call 25; refine (CB _).mono ?_; rintro e w' ⟨rfl, hm⟩; have hS' := HG.out _ _ (hm.moves _) (And.left (by assumption)))
      | fail)
  all_goals
    have HK3 := Lib.hid (KP.moves (W := w1) (And.left (by assumption)))
    obtain ⟨d0, d1, d2, d3⟩ := HN.out _ HK3.out
    go_wp2_with fail
    refine (PA _).mono ?_
    rintro e w4 ⟨rfl, hm4⟩
    go_wp2_with fail
    refine (UA _).mono ?_
    rintro e w5 ⟨rfl, hm5⟩
    have hmx := (HK3.out.trans (hm4.trans hm5)).alloc (.cells #[.int .i64 x1, .int .i64 x2] 49)
    obtain ⟨cx0, cx1⟩ := cell2 w5 (.int .i64 x1) (.int .i64 x2) 49
    have hkx : w5.heap.size < (w5.alloc (.cells #[.int .i64 x1, .int .i64 x2] 49)).heap.size := by simp
    clear d0 d1 d2 d3 hm4 hm5
    obtain ⟨d0, d1, d2, d3⟩ := HN.out _ hmx
    go_wp2_with fail
    generalize w5.heap.size = kx at cx0 cx1 hkx ⊢
    generalize w5.alloc (.cells #[.int .i64 x1, .int .i64 x2] 49) = wx at hmx cx0 cx1 hkx d0 d1 d2 d3 ⊢
    refine (PB _).mono ?_
    rintro e w6 ⟨rfl, hm6⟩
    go_wp2_with fail
    refine (UB _).mono ?_
    rintro e w7 ⟨rfl, hm7⟩
    have hmy := (hm6.trans hm7).alloc (.cells #[.int .i64 y1, .int .i64 y2] 49)
    obtain ⟨cy0, cy1⟩ := cell2 w7 (.int .i64 y1) (.int .i64 y2) 49
    have hky : w7.heap.size < (w7.alloc (.cells #[.int .i64 y1, .int .i64 y2] 49)).heap.size := by simp
    clear d0 d1 d2 d3 hm6 hm7
    obtain ⟨d0, d1, d2, d3⟩ := HN.out _ (hmx.trans hmy)
    have d4 := (hmy.cell (p := ⟨kx, 0, none⟩) hkx (fun h => h)).trans cx0
    have d5 := (hmy.cell (p := ⟨kx, 1, none⟩) hkx (fun h => h)).trans cx1
    have hkx' := Nat.lt_of_lt_of_le hkx hmy.size
    go_wp2_with fail
    generalize w7.heap.size = ky at cy0 cy1 hky ⊢
    generalize w7.alloc (.cells #[.int .i64 y1, .int .i64 y2] 49) = wy at hmy cy0 cy1 hky d0 d1 d2 d3 d4 d5 hkx' ⊢
    have HK8 := Lib.hid (hmx.trans hmy)
    have H8 : Hid (∀ wc w', Moves (fun _ => False) wc w' → KP wy wc → KP wy w' ∧ w'.cell? ⟨ka, 0, none⟩ = some (.int .i64 a1) ∧ w'.cell? ⟨ka, 1, none⟩ = some (.int .i64 a2) ∧ w'.cell? ⟨kb, 0, none⟩ = some (.int .i64 b1) ∧ w'.cell? ⟨kb, 1, none⟩ = some (.int .i64 b2) ∧ w'.cell? ⟨kx, 0, none⟩ = some (.int .i64 x1) ∧ w'.cell? ⟨kx, 1, none⟩ = some (.int .i64 x2) ∧ w'.cell? ⟨ky, 0, none⟩ = some (.int .i64 y1) ∧ w'.cell? ⟨ky, 1, none⟩ = some (.int .i64 y2)) := Lib.hid (fun wc w' h hk => by
      have h' := hk.moves.trans h
      have h1 := HN.out _ (HK8.out.trans h')
      exact ⟨KP.of h', h1.1, h1.2.1, h1.2.2.1, h1.2.2.2, (h'.cell (p := ⟨kx, 0, none⟩) hkx' (fun h => h)).trans d4, (h'.cell (p := ⟨kx, 1, none⟩) hkx' (fun h => h)).trans d5, (h'.cell (p := ⟨ky, 0, none⟩) hky (fun h => h)).trans cy0, (h'.cell (p := ⟨ky, 1, none⟩) hky (fun h => h)).trans cy1⟩)
    have hK8 : KP wy wy := KP.of (Moves.refl _ _)
    clear cx0 cx1 hkx hmx hmy
    reg_w (fun w' => KP wy w' ∧ w'.cell? ⟨ka, 0, none⟩ = some (.int .i64 a1) ∧ w'.cell? ⟨ka, 1, none⟩ = some (.int .i64 a2) ∧ w'.cell? ⟨kb, 0, none⟩ = some (.int .i64 b1) ∧ w'.cell? ⟨kb, 1, none⟩ = some (.int .i64 b2) ∧ w'.cell? ⟨kx, 0, none⟩ = some (.int .i64 x1) ∧ w'.cell? ⟨kx, 1, none⟩ = some (.int .i64 x2) ∧ w'.cell? ⟨ky, 0, none⟩ = some (.int .i64 y1) ∧ w'.cell? ⟨ky, 1, none⟩ = some (.int .i64 y2))
      (first | exact hS' | exact ⟨hK8, d0, d1, d2, d3, d4, d5, cy0, cy1⟩ | assumption | go_keep)
      (first
        | (go_at_call_of 30 a1; refine (SA _).mono ?_; rintro e w' ⟨rfl, hm⟩; have hS' := H8.out _ _ hm (And.left (by assumption)))
        | (go_at_call_of 30 b1; refine (SB _).mono ?_; rintro e w' ⟨rfl, hm⟩; have hS' := H8.out _ _ hm (And.left (by assumption)))
        | (go_at_call_of 29 a1; refine (PA _).mono ?_; rintro e w' ⟨rfl, hm⟩; have hS' := H8.out _ _ hm (And.left (by assumption)))
        | (go_at_call_of 29 b1; refine (PB _).mono ?_; rintro e w' ⟨rfl, hm⟩; have hS' := H8.out _ _ hm (And.left (by assumption)))
        | fail)
    all_goals
      go_wp2
      go_ret
      exact ⟨rfl, HM.out.trans (HK8.out.trans (KP.moves (And.left (by assumption))))⟩

theorem keys_two (w : World) {va vb : Value} (ha : ∃ k : Pr, va = encK k ∧ wf2 k) (hb : ∃ k : Pr, vb = encK k ∧ wf2 k) : Calls Try.prog 7 #[va, vb] w (TruePost w) := by
  obtain ⟨⟨a1, a2⟩, rfl, -, -⟩ := ha
  obtain ⟨⟨b1, b2⟩, rfl, -, -⟩ := hb
  cases hsa : shortK (a1, a2) with
  | true =>
    cases hsb : shortK (b1, b2) with
    | true => exact keys_two_tt w hsa hsb rfl rfl rfl (back_short hsa) (back_short hsb) (pack_short hsa hsb)
    | false => exact keys_two_tf w hsa hsb rfl rfl rfl (back_short hsa) rfl
  | false =>
    cases hsb : shortK (b1, b2) with
    | true => exact keys_two_ft w hsa hsb rfl rfl rfl rfl (back_short hsb)
    | false => exact keys_two_ff w hsa hsb rfl rfl rfl rfl rfl
end Go.Proofs.Ytmennobdgfgjaaa

