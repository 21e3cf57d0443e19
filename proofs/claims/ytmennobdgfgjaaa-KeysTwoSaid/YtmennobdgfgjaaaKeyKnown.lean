/-
  The statement's own two keys.
-/
import Derived.Test.YtmennobdgfgjaaaKeyRow
import Derived.Test.YtmennobdgfgjaaaKeySet3
import Derived.Test.YtmennobdgfgjaaaKeyWords
import Derived.Deep.DeepMust
namespace Go.Proofs.Ytmennobdgfgjaaa
open Go Go.RowKit Go.Maps Go.Sort Go.Proofs Go.Shelf

theorem KRow.made (w : World) (ks : List Pr) : KRow (w.alloc (.cells (cellsP ks).toArray 49)) (fun i => i = w.heap.size) (.slice (some ⟨w.heap.size, 0, none⟩) ks.length ks.length) ks := by
  refine ⟨_, _, rfl, Nat.le_refl _, fun h0 => ⟨_, _, rfl, rfl, by simp, fun j u hu => ?_⟩⟩
  have := heap_alloc_new w (.cells (cellsP ks).toArray 49)
  unfold World.cell?
  simp only [this]
  simpa using hu

theorem SetAt.apart {w : World} {base p g : Nat} {M : List Pr} {cs : Array Value} {t : TypeId} {fr : Nat × Nat} (h : SetAt w base p M) (hg : w.heap[g]? = some (.cells cs t fr)) (ht : t ≠ 62) : ¬ SetOwn w p g := by
  obtain ⟨mv, hb, hp, hx⟩ := h
  rintro (rfl | hk)
  · rw [hb] at hg
    cases hg
    exact ht rfl
  · rw [hb] at hk
    rcases hx with ⟨rfl, _⟩ | ⟨m, D, rfl, hbm, hown, _⟩
    · cases hk
    · cases hk
      obtain ⟨es, ck, hbm, _⟩ := hown
      rw [hbm] at hg
      cases hg
theorem KeyBlk.cells {w : World} {g : Nat} {a b : Value} {t : TypeId} (h : w.heap[g]? = some (.cells #[a, b] t (0, 0))) : w.cell? ⟨g, 0, none⟩ = some a ∧ w.cell? ⟨g, 1, none⟩ = some b := by
  unfold World.cell?
  simp only [h]
  exact ⟨rfl, rfl⟩

/-- As 'Moves (fun _ => False)', limb by limb: so that a draw does not hide it. -/
def KP (W w' : World) : Prop := w'.os = W.os ∧ w'.tape = W.tape ∧ w'.output = W.output ∧ W.heap.size ≤ w'.heap.size ∧ ∀ i, i < W.heap.size → w'.heap[i]? = W.heap[i]?
theorem KP.of {W w' : World} (h : Moves (fun _ => False) W w') : KP W w' := ⟨h.os, h.tape, h.output, h.size, fun i hi => h.block i hi (fun e => e)⟩
theorem KP.moves {W w' : World} (h : KP W w') : Moves (fun _ => False) W w' := ⟨h.1, h.2.1, h.2.2.1, h.2.2.2.1, fun i hi _ => h.2.2.2.2 i hi⟩

def TruePost (w : World) (e : Ending) (w' : World) : Prop := e = .returned (.bool true) ∧ Moves (fun _ => False) w w'

theorem sort2 : sortK [(1, 2), (0, 5)] = [(0, 5), (1, 2)] :=
  sortK_unique ((sortK_isPerm _).trans (List.Perm.swap _ _ _)) (sortK_pairwise _) (by decide)
theorem sort1 (p : Pr) : sortK [p] = [p] := by simp [sortK]

theorem pk12 : packZ (1, 2) = 4294967298 := by decide
theorem up12 : unpackZ 4294967298 = (1, 2) := by decide
theorem cm12 : cmpK (0, 5) (1, 2) = -1 := by decide

set_option maxRecDepth 100000 in
set_option maxHeartbeats 1000000 in
theorem key_known (w : World) : Calls Try.prog 24 #[] w (TruePost w) := by
  have hW := (((Moves.refl (fun _ => False) w).alloc (.cells #[.int .i64 0, .int .i64 5] 49)).alloc (.cells #[.int .i64 1, .int .i64 2] 49)).alloc (.cells #[.map none] 62)
  go_enter Try.func24, Try.ntmps24
  go_wp2_with fail
  have ha : (((w.alloc (.cells #[.int .i64 0, .int .i64 5] 49)).alloc (.cells #[.int .i64 1, .int .i64 2] 49)).alloc (.cells #[.map none] 62)).heap[w.heap.size]? = some (.cells #[.int .i64 0, .int .i64 5] 49 (0, 0)) := (Below.heap_alloc _ _ _ (by simp; omega)).trans ((Below.heap_alloc _ _ _ (by simp)).trans (heap_alloc_new w _))
  have hb : (((w.alloc (.cells #[.int .i64 0, .int .i64 5] 49)).alloc (.cells #[.int .i64 1, .int .i64 2] 49)).alloc (.cells #[.map none] 62)).heap[w.heap.size + 1]? = some (.cells #[.int .i64 1, .int .i64 2] 49 (0, 0)) := (Below.heap_alloc _ _ _ (by simp)).trans (heap_alloc2_new w _ _)
  have hp : (((w.alloc (.cells #[.int .i64 0, .int .i64 5] 49)).alloc (.cells #[.int .i64 1, .int .i64 2] 49)).alloc (.cells #[.map none] 62)).heap[w.heap.size + 1 + 1]? = some (.cells #[.map none] 62 (0, 0)) := by
    have := heap_alloc_new ((w.alloc (.cells #[.int .i64 0, .int .i64 5] 49)).alloc (.cells #[.int .i64 1, .int .i64 2] 49)) (.cells #[.map none] 62)
    simpa using this
  have hsz : w.heap.size + 1 + 1 + 1 = (((w.alloc (.cells #[.int .i64 0, .int .i64 5] 49)).alloc (.cells #[.int .i64 1, .int .i64 2] 49)).alloc (.cells #[.map none] 62)).heap.size := by simp
  rw [hsz]
  have hbp : w.heap.size ≤ w.heap.size + 1 + 1 := by omega
  clear hsz
  generalize w.heap.size + 1 + 1 = p at hp hbp ⊢
  generalize w.heap.size + 1 = kb at hb ⊢
  obtain ⟨ka, hka⟩ : ∃ ka, w.heap.size = ka := ⟨_, rfl⟩
  simp only [hka] at ha ⊢
  generalize ((w.alloc (.cells #[.int .i64 0, .int .i64 5] 49)).alloc (.cells #[.int .i64 1, .int .i64 2] 49)).alloc (.cells #[.map none] 62) = W at hW ha hb hp ⊢
  have hS : SetAt W w.heap.size p [] := ⟨_, hp, hbp, .inl ⟨rfl, rfl⟩⟩
  clear hp hbp hka
  -- Add
  have hW1 := (Moves.refl (fun _ => False) W).alloc (.cells (cellsP [(1, 2), (0, 5), (1, 2)]).toArray 49)
  have hS1 := hS.moves0 hW1
  have ha1 := (heap_alloc_old W (.cells (cellsP [(1, 2), (0, 5), (1, 2)]).toArray 49) ka (Array.getElem?_eq_some_iff.1 ha).1).trans ha
  have hb1 := (heap_alloc_old W (.cells (cellsP [(1, 2), (0, 5), (1, 2)]).toArray 49) kb (Array.getElem?_eq_some_iff.1 hb).1).trans hb
  refine (add_any (M' := [(1, 2), (0, 5)]) (n := 2) hS1 (KRow.made W [(1, 2), (0, 5), (1, 2)]) (by decide) (by decide) (by decide) (by decide)).mono ?_
  rintro e W2 ⟨rfl, hS2, hm2⟩
  have hM2 := hS1.under (hW.trans hW1) hm2
  have ha2 := (hm2.block ka (Array.getElem?_eq_some_iff.1 ha1).1 (hS1.apart ha1 (by decide))).trans ha1
  have hb2 := (hm2.block kb (Array.getElem?_eq_some_iff.1 hb1).1 (hS1.apart hb1 (by decide))).trans hb1
  clear ha hb hS ha1 hb1 hW1 hS1 hm2 hW
  obtain ⟨ca0, ca1⟩ := KeyBlk.cells ha2
  obtain ⟨cb0, cb1⟩ := KeyBlk.cells hb2
  go_wp2_with fail
  clear ca0 ca1 cb0 cb1
  -- Remove
  have hW3 := (Moves.refl (fun _ => False) W2).alloc (.cells (cellsP [(1, 2)]).toArray 49)
  have hS3 := hS2.moves0 hW3
  have ha3 := (heap_alloc_old W2 (.cells (cellsP [(1, 2)]).toArray 49) ka (Array.getElem?_eq_some_iff.1 ha2).1).trans ha2
  have hb3 := (heap_alloc_old W2 (.cells (cellsP [(1, 2)]).toArray 49) kb (Array.getElem?_eq_some_iff.1 hb2).1).trans hb2
  refine (remove_any (M' := [(0, 5)]) (n := 1) hS3 (KRow.made W2 [(1, 2)]) (by decide) (by decide) (by decide) (by decide)).mono ?_
  rintro e W4 ⟨rfl, hS4, hm4⟩
  have hM4 := hS3.under (hM2.trans hW3) hm4
  have ha4 := (hm4.block ka (Array.getElem?_eq_some_iff.1 ha3).1 (hS3.apart ha3 (by decide))).trans ha3
  have hb4 := (hm4.block kb (Array.getElem?_eq_some_iff.1 hb3).1 (hS3.apart hb3 (by decide))).trans hb3
  clear ha2 hb2 hS2 ha3 hb3 hW3 hS3 hm4 hM2
  obtain ⟨ca0, ca1⟩ := KeyBlk.cells ha4
  obtain ⟨cb0, cb1⟩ := KeyBlk.cells hb4
  go_wp2_with fail
  clear ca0 ca1 cb0 cb1
  -- Sorted
  have hW5 := (Moves.refl (fun _ => False) W4).alloc (.cells (cellsP [(1, 2), (0, 5)]).toArray 49)
  refine (sorted_any (KRow.made W4 [(1, 2), (0, 5)]) (by decide) sort2).mono ?_
  rintro e W6 ⟨v, rfl, hK6, hm6⟩
  have hm := hW5.trans hm6
  have hS6 := hS4.moves0 hm
  have hM6 := hM4.trans hm
  have ha6 := (hm.block ka (Array.getElem?_eq_some_iff.1 ha4).1 (fun h => h)).trans ha4
  have hb6 := (hm.block kb (Array.getElem?_eq_some_iff.1 hb4).1 (fun h => h)).trans hb4
  clear ha4 hb4 hS4 hW5 hm6 hm hM4
  obtain ⟨A, c, rfl, hc, hx⟩ := hK6
  obtain ⟨g, o, rfl, hg, hgl, hcell⟩ := hx (by decide)
  have cl0 := hcell 0 (.int .i64 0) rfl
  have cl1 := hcell 1 (.int .i64 5) rfl
  clear hx hcell hg
  obtain ⟨ca0, ca1⟩ := KeyBlk.cells ha6
  obtain ⟨cb0, cb1⟩ := KeyBlk.cells hb6
  have hka := (Array.getElem?_eq_some_iff.1 ha6).1
  have hkb := (Array.getElem?_eq_some_iff.1 hb6).1
  clear ha6 hb6
  have HN : Hid (∀ wc w', Moves (fun _ => False) wc w' → KP W6 wc → KP W6 w' ∧ w'.cell? ⟨ka, 0, none⟩ = some (.int .i64 0) ∧ w'.cell? ⟨ka, 1, none⟩ = some (.int .i64 5) ∧ w'.cell? ⟨kb, 0, none⟩ = some (.int .i64 1) ∧ w'.cell? ⟨kb, 1, none⟩ = some (.int .i64 2) ∧ w'.cell? ⟨g, o, none⟩ = some (.int .i64 0) ∧ w'.cell? ⟨g, o + 1, none⟩ = some (.int .i64 5)) := Lib.hid (fun wc w' hm hk => by
    have h := hk.moves.trans hm
    exact ⟨KP.of h, (h.cell (p := ⟨ka, 0, none⟩) hka (fun h => h)).trans ca0, (h.cell (p := ⟨ka, 1, none⟩) hka (fun h => h)).trans ca1, (h.cell (p := ⟨kb, 0, none⟩) hkb (fun h => h)).trans cb0, (h.cell (p := ⟨kb, 1, none⟩) hkb (fun h => h)).trans cb1, (h.cell (p := ⟨g, o, none⟩) hgl (fun h => h)).trans cl0, (h.cell (p := ⟨g, o + 1, none⟩) hgl (fun h => h)).trans cl1⟩)
  have hK0 : KP W6 W6 := KP.of (Moves.refl _ _)
  have HS := Lib.hid hS6
  have HM := Lib.hid hM6
  have cl0' : W6.cell? ⟨g, o, none⟩ = some (.int .i64 0) := cl0
  clear hS6 hM6 cl0
  have hc2 : (2 : Int) ≤ (c : Int) := by have : 2 ≤ c := hc; omega
  clear hc hka hkb hgl
  go_wp2_with fail
  go_region_held3 (fun w' => KP W6 w' ∧ w'.cell? ⟨ka, 0, none⟩ = some (.int .i64 0) ∧ w'.cell? ⟨ka, 1, none⟩ = some (.int .i64 5) ∧ w'.cell? ⟨kb, 0, none⟩ = some (.int .i64 1) ∧ w'.cell? ⟨kb, 1, none⟩ = some (.int .i64 2) ∧ w'.cell? ⟨g, o, none⟩ = some (.int .i64 0) ∧ w'.cell? ⟨g, o + 1, none⟩ = some (.int .i64 5))
    (first | exact hS' | exact ⟨hK0, ca0, ca1, cb0, cb1, cl0', cl1⟩ | assumption | go_keep)
    (first
      | (go_at_call 29; refine (pack_any pk12 _).mono ?_; rintro e w' ⟨rfl, hm⟩; have hS' := HN.out _ _ hm (And.left (by assumption)))
      | (go_at_call 28; refine (unpack_any up12 _).mono ?_; rintro e w' ⟨rfl, hm⟩; have hS' := HN.out _ _ hm (And.left (by assumption)))
      | (go_at_call 25; refine (compare_any cm12 _).mono ?_; rintro e w' ⟨rfl, hl⟩; have hS' := HN.out _ _ (hl.moves _) (And.left (by assumption)))
      | (go_at_call_of 37 (Value.int IntKind.i64 0); refine (has_any (M := [(0, 5)]) (k := (0, 5)) (b := true) (HS.out.moves0 (KP.moves (And.left (by assumption)))) (by decide) rfl).mono ?_; rintro e w' ⟨rfl, hm⟩; have hS' := HN.out _ _ hm (And.left (by assumption)))
      | (go_at_call_of 37 (Value.int IntKind.i64 1); refine (has_any (M := [(0, 5)]) (k := (1, 2)) (b := false) (HS.out.moves0 (KP.moves (And.left (by assumption)))) (by decide) rfl).mono ?_; rintro e w' ⟨rfl, hm⟩; have hS' := HN.out _ _ hm (And.left (by assumption)))
      | (go_at_call 33; refine (len_any (M := [(0, 5)]) (HS.out.moves0 (KP.moves (And.left (by assumption))))).mono ?_; rintro e w' ⟨rfl, rfl⟩)
      | (go_at_call 35; refine (row_any (M := [(0, 5)]) (HS.out.moves0 (KP.moves (And.left (by assumption)))) (by decide) (sort1 _)).mono ?_; rintro e w' ⟨v9, rfl, ⟨A9, c9, rfl, -, -⟩, hm⟩; have hS' := HN.out _ _ hm (And.left (by assumption)))
      | fail)
  go_wp2
  go_ret
  exact ⟨rfl, HM.out.trans (KP.moves (And.left (by assumption)))⟩
end Go.Proofs.Ytmennobdgfgjaaa
