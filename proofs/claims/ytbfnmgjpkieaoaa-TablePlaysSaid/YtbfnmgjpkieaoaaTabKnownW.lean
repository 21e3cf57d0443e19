/-
  The statements' own 'known': its walk.
-/
import Derived.Test.YtbfnmgjpkieaoaaTabKnown8
namespace Go.Proofs.Ytbfnmgjpkieaoaa.Tb
open Go Go.RowKit Go.Maps Go.Sort Go.Proofs Go.Shelf

set_option maxRecDepth 100000 in
set_option maxHeartbeats 4000000 in
theorem known_any {w : World} (hL : LenCell w) : Calls Try.prog 42 #[] w (ValPost w (.bool true)) := by
  obtain ⟨n, hn⟩ : ∃ n, n = nm sAB := ⟨_, rfl⟩
  have hF1 := Lib.hid (fun W => fix_any sAB W)
  rw [fixAB.1, fixAB.2, ← hn] at hF1
  have hF2 := Lib.hid (fun W => fix_any ⟨#[]⟩ W)
  rw [fixNil] at hF2
  generalize fixN ⟨#[]⟩ = n2 at hF2
  have hg : goodN n = true := by rw [hn]; exact good_nm goodAB
  have ht : txt n = sAB := by rw [hn]; exact txt_nm goodAB
  have h0 : (encM n)[0]? = some (.int .u8 97) ∧ (encM n)[2]? = some (.int .u8 0) := by rw [hn]; exact ⟨rfl, rfl⟩
  have hG := Lib.hid (And.intro hg (And.intro ht h0))
  have HL := Lib.hid hL
  clear hn hg ht h0 hL
  go_enter Try.func42, Try.ntmps42
  go_upto_region 2 with (first
    | (go_at_call 43
       refine (hF1.out _).mono ?_
       rintro e w1 ⟨rfl, hm1⟩)
    | (refine wpList_store_eq (o := ⟨none, .store _ _ _, _, _, _, _⟩) rfl 77 (.tmp 1) (.tmp 17) rfl _ _ rfl rfl _ (store_new32 _ _ rfl n) ?_
       go_frame)
    | fail)
  have hm1a := hm1.alloc (.cells (encM n).toArray 77)
  have hr1 := range_of (heap_alloc_new w1 (.cells (encM n).toArray 77))
  have hk1 : w1.heap.size < (w1.alloc (.cells (encM n).toArray 77)).heap.size := by simp
  have hk0 := hm1.size
  generalize w1.heap.size = k1 at hr1 hk1 hk0 ⊢
  generalize w1.alloc (.cells (encM n).toArray 77) = W1 at hm1a hr1 hk1 ⊢
  clear hm1
  have H1 := Lib.hid (And.intro hm1a (And.intro hr1 (And.intro hk1 hk0)))
  clear hm1a hr1 hk1 hk0
  go_upto_region 4 with (first
    | (go_at_call 43
       refine (hF2.out _).mono ?_
       rintro e w2 ⟨rfl, hm2⟩)
    | (refine wpList_store_eq (o := ⟨none, .store _ _ _, _, _, _, _⟩) rfl 77 (.tmp 3) (.tmp 21) rfl _ _ rfl rfl _ (store_new32 _ _ rfl n2) ?_
       go_frame)
    | fail)
  have hm2a := hm2.alloc (.cells (encM n2).toArray 77)
  have hr2 := rangeAt_moves H1.out.2.1 hm2a H1.out.2.2.1 (fun h => h)
  have hk2 : k1 < (w2.alloc (.cells (encM n2).toArray 77)).heap.size := Nat.lt_of_lt_of_le H1.out.2.2.1 hm2a.size
  have hW2 := H1.out.1.trans hm2a
  clear hm2 hm2a H1
  have hs3 := KSt.new (HL.out.moves0 hW2)
  have hsz : (w2.alloc (.cells (encM n2).toArray 77)).heap.size = w2.heap.size + 1 := by simp
  rw [hsz] at hs3 hk2
  have hbw : w.heap.size ≤ w2.heap.size + 1 := by rw [← hsz]; exact hW2.size
  clear hsz
  generalize w2.heap.size + 1 = b at hs3 hk2 hbw ⊢
  generalize w2.alloc (.cells (encM n2).toArray 77) = W2 at hs3 hr2 hW2 ⊢
  generalize W2.alloc (.cells #[.map none] 84) = W3 at hs3 ⊢
  have HW2 := Lib.hid (And.intro hW2 hbw)
  have HR : Hid (∀ W M, KSt W2 b b M W → W.rangeAt k1 0 (encM n)) := Lib.hid (fun W M h => h.rng hr2 hk2)
  have S3 := Lib.hid hs3
  clear hs3 hW2 hr2 hk2 hbw
  have c5 : (Lit.int .i64 5).wf = true := by decide
  have c6 : (Lit.int .i64 6).wf = true := by decide
  have HC := Lib.hid (And.intro c5 c6)
  clear c5 c6
  go_upto_region 5 with (first
    | (refine wpList_load_at (op := ⟨some 24, _, _, _, _, _⟩) rfl 77 (.tmp 1) rfl _ _ rfl (load_nm (HR.out _ _ S3.out)) ?_
       go_frame)
    | (go_at_call 46
       refine (bind_any S3.out.tab S3.out.len n HC.out.1 S3.out.big (by simp) (r := 0) (v := 0) (M' := [(n, 5)]) (by unfold bindE; rw [hG.out.1]; simp [hasN, getM]) (by unfold bindV bindE; rw [hG.out.1]; simp [hasN, getM, getZ]) (by unfold bindM bindE; rw [hG.out.1]; simp [hasN, getM, put_nil])).mono ?_
       rintro e w' ⟨rfl, ht, hm⟩)
    | fail)
  have S4 := Lib.hid (S3.out.next ht hm)
  clear ht hm S3
  go_upto_region 6 with (first
    | (refine wpList_load_at (op := ⟨some 29, _, _, _, _, _⟩) rfl 77 (.tmp 1) rfl _ _ rfl (load_nm (HR.out _ _ S4.out)) ?_
       go_frame)
    | (go_at_call 46
       refine (bind_any S4.out.tab S4.out.len n HC.out.2 S4.out.big (by simp) (r := 0) (v := 5) (M' := [(n, 6)]) (by unfold bindE; rw [hG.out.1]; simp [hasN, getM]) (by unfold bindV bindE; rw [hG.out.1]; simp [hasN, getM, getZ]) (by unfold bindM bindE; rw [hG.out.1]; simp [hasN, getM, put_one])).mono ?_
       rintro e w' ⟨rfl, ht, hm⟩)
    | fail)
  have S5 := Lib.hid (S4.out.next ht hm)
  clear ht hm S4
  go_upto_region 7 with (first
    | (refine wpList_load_at (op := ⟨some 34, _, _, _, _, _⟩) rfl 77 (.tmp 1) rfl _ _ rfl (load_nm (HR.out _ _ S5.out)) ?_
       go_frame)
    | (go_at_call 48
       refine (lookup_any S5.out.tab n (v := 6) (b := true) (by simp [getZ, getM]) (by simp [hasN, getM])).mono ?_
       rintro e w' ⟨rfl, hm⟩)
    | fail)
  have S6 := Lib.hid (S5.out.next0 hm)
  clear hm S5
  have HRo := Lib.hid (roots_any S6.out.tab S6.out.len (by simp))
  rw [roots_one, hG.out.2.1] at HRo
  go_upto_region 8 with (first
    | (go_at_call 53
       refine HRo.out.mono ?_
       rintro e w7 ⟨v, rfl, ⟨A, c, rfl, hc, hx⟩, hm⟩
       obtain ⟨g, o, rfl, hg1, hg2, hcells⟩ := hx (by simp))
    | fail)
  have S7 := Lib.hid (S6.out.next0 hm)
  have q0 : w7.cell? ⟨g, o, none⟩ = some (.string sAB) := hcells 0 _ rfl
  have q1 : w7.cell? ⟨g, o + 1, none⟩ = some (.int .i64 6) := hcells 1 _ rfl
  have HO : Hid (∀ k, TabOwn w7 b k → k < w'.heap.size) := Lib.hid (fun k hk => S6.out.tab.own_lt (hk.back hm S6.out.tab.lt))
  clear hm hx hcells hc S6 HRo
  have HU := Lib.hid (unbind_any S7.out.tab n (v := 6) (b := true) (by simp [getZ, getM]) (by simp [hasN, getM]))
  rw [del_one] at HU
  go_upto_region 9 with (first
    | (refine wpList_load_at (op := ⟨some 40, _, _, _, _, _⟩) rfl 77 (.tmp 1) rfl _ _ rfl (load_nm (HR.out _ _ S7.out)) ?_
       go_frame)
    | (go_at_call 51
       refine HU.out.mono ?_
       rintro e w8 ⟨rfl, ht8, hm8⟩)
    | fail)
  have r0 : w8.cell? ⟨g, o, none⟩ = some (.string sAB) := (hm8.cell (p := ⟨g, o, none⟩) hg2 (fun h => absurd (HO.out g h) (by omega))).trans q0
  have r1 : w8.cell? ⟨g, o + 1, none⟩ = some (.int .i64 6) := (hm8.cell (p := ⟨g, o + 1, none⟩) hg2 (fun h => absurd (HO.out g h) (by omega))).trans q1
  refine known9 (by kernel_rfl) hG.out.2.1 hG.out.2.2.1 hG.out.2.2.2 HR.out (S7.out.next ht8 hm8) (Nat.lt_of_lt_of_le hg2 hm8.size) r0 r1 ?_
  intro L w9 hs9
  go_wp2
  go_ret
  exact ⟨rfl, hs9.under HW2.out.1 HW2.out.2⟩
end Go.Proofs.Ytbfnmgjpkieaoaa.Tb
