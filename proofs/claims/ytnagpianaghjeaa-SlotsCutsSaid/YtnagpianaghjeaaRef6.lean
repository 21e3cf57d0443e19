/-
  loamref6.Encode. (Printed by gen_ref6.py.)
-/
import Derived.Test.YtnagpianaghjeaaAppB
import Derived.Test.YtnagpianaghjeaaEncodeBad
import Derived.Test.YtnagpianaghjeaaRef4
import Derived.Lib.SlBytesConst
namespace Go.Proofs.Ytnagpianaghjeaa.Sl
open Go Go.RowKit Go.Proofs

set_option maxRecDepth 100000 in
set_option maxHeartbeats 8000000 in
theorem renc_0 {b : Blk} (h : GoodB b) (hsp : b.space = 0) (w : World) : Calls Try.prog 66 #[blkV b] w (EncPost w b) := by
  have HC := Lib.hid (fun W => rcheck_ok h.1 W)
  have hn := h.1.near
  have hrow := headL_row hn.1.1
  have HQ : Hid (∀ v' w', NewB w v' (sealL crcL (headL b)) w' → EncPost w b (.returned (.tuple #[v', .int .i64 0])) w') := Lib.hid fun v' w' hb => ⟨v', rfl, hb⟩
  have HS := Lib.hid (fun (W : World) (L : Nat → Prop) (v : Value) (hr : BRow W L v (headL b)) => seal2_any hr (by rw [headL_len hn.1.1]; have := hn.1.2; omega))
  have HBY0 := putAll_byte b 8
  rw [putAll_end] at HBY0
  have HLE0 := headL_len hn.1.1
  generalize EncPost w b = Q at HQ ⊢
  obtain ⟨hg, s1, s2, w1, w2⟩ := h
  have hs64 : 64 ≤ b.geom.sector ∧ b.geom.sector ≤ 1024 := hn.1
  have hln : (0 ≤ b.geom.log ∧ b.geom.log ≤ 1024) ∧ 0 ≤ b.geom.words ∧ b.geom.words ≤ 8192 := hn.2
  clear hn hg
  obtain ⟨ep, ⟨s, l, n⟩, sp, wd, lg⟩ := b
  dsimp only at s1 s2 w1 w2 hs64 HC hrow hsp hln HLE0
  subst hsp
  obtain ⟨hs1, hs2⟩ := hs64
  obtain ⟨⟨hl0, hl1⟩, hg0, hg1⟩ := hln
  have hs0 : 0 ≤ s := by omega
  have HROW := Lib.hid hrow
  clear hrow
  generalize headL ⟨ep, ⟨s, l, n⟩, 0, wd, lg⟩ = HL at HROW HQ HS HBY0 HLE0
  have HBY := Lib.hid HBY0
  have HLE := Lib.hid HLE0
  clear HBY0 HLE0
  have HL8 : Hid (∀ x W, Calls Try.prog 106 #[.int .u64 x, .int .i64 8] W (OneB W (lowL 8 x))) := Lib.hid (fun x W => low_any (n := 8) (by decide) x W)
  have HL4 : Hid (∀ x W, Calls Try.prog 106 #[.int .u64 x, .int .i64 4] W (OneB W (lowL 4 x))) := Lib.hid (fun x W => low_any (n := 4) (by decide) x W)
  have kc := fun (w : World) (C : Array Value) (n c : Nat) => Lib.run_convert_bytes_const (P := Try.prog) w 55 5 C n c Try.underlying55 Try.underlying5
  have hm0 := (Moves.refl (fun _ => False) w).alloc (.cells (blkCells ⟨ep, ⟨s, l, n⟩, 0, wd, lg⟩) 49)
  have hb0 := heap_alloc_new w (.cells (blkCells ⟨ep, ⟨s, l, n⟩, 0, wd, lg⟩) 49)
  go_enter Try.func66, Try.ntmps66
  go_wp2_with fail
  generalize w.alloc (.cells (blkCells ⟨ep, ⟨s, l, n⟩, 0, wd, lg⟩) 49) = W0 at hm0 hb0 ⊢
  generalize hgbe : w.heap.size = gb at hb0 ⊢
  have HGB := Lib.hid hgbe
  clear hgbe
  refine (HC.out _).mono ?_
  rintro e wA ⟨rfl, hmA⟩
  have hbA := (hmA.block _ (lt_of_block hb0) (fun e => e)).trans hb0
  obtain ⟨c0, c1, c2, c3, c4, c5, c6⟩ := cells7 hbA
  have hgA := lt_of_block hbA
  have HMA := Lib.hid (hm0.trans hmA)
  have hbB : ((wA.alloc (.cells #[.int .u8 76, .int .u8 79, .int .u8 65, .int .u8 77] 5 (4, 5))).alloc (.cells #[.int .u8 1, .int .u8 0, .int .u8 0, .int .u8 0] 5)).heap[gb]? = some (.cells (blkCells ⟨ep, ⟨s, l, n⟩, 0, wd, lg⟩) 49 (0, 0)) := (Below.heap_alloc _ _ _ (by simp; omega)).trans ((Below.heap_alloc _ _ _ hgA).trans hbA)
  have HBB := Lib.hid hbB
  clear hm0 hb0 hmA hbA hbB
  go_wp2_with (first
    | (refine wpList_appFull (w0 := w) (bs := [76, 79, 65, 77]) (ys := [1, 0, 0, 0]) rfl (.tmp 33) (.tmp 34) rfl (by rfl) (by rfl) (BRow.of_const (n := 4) rfl ((Below.heap_alloc _ _ _ (by simp)).trans (alloc_at rfl)) ?_ (by decide)) (BRow.of_block (n := 4) rfl (alloc_at (by simp)) ?_ (by decide)) ((HMA.out.alloc _).alloc _) (by decide) (by decide) ?_
       focus (intro x hx; simp at hx; omega)
       focus (intro x hx; simp at hx; omega)
       intro v0 w0 h0
       generalize hP0 : ([76, 79, 65, 77] ++ [1, 0, 0, 0] : List Int) = P0 at h0
       have HE0 := Lib.hid hP0
       have HLN0 : Hid (P0.length = 8) := Lib.hid (by rw [← hP0]; rfl)
       clear hP0
       have H0 := Lib.hid h0
       have hb0 := h0.st _ _ _ _ HBB.out (by decide)
       clear h0 c0 c1 c2 c3 c4 c5 c6 HBB kc
       obtain ⟨c0, c1, c2, c3, c4, c5, c6⟩ := cells7 hb0
       have HB0 := Lib.hid hb0
       clear hb0)
    | fail)
  with_reducible refine (HL8.out ep _).mono ?_
  rintro e u0 ⟨x0, rfl, hn0⟩
  have HN0 := Lib.hid hn0
  clear hn0 c0 c1 c2 c3 c4 c5 c6
  go_wp2_with (first
    | (refine wpList_appB (w0 := w) (bs := P0) (ys := lowL 8 ep) rfl (.tmp 36) (.tmp 39) rfl (by rfl) (by rfl) (H0.out.ob.moves HN0.out.2) (HN0.out.row (lowL_byte _ _) (by rw [lowL_len]; decide)) (H0.out.mv.trans HN0.out.2) ?_ ?_
       focus (rw [HLN0.out, lowL_len]; decide)
       intro v1 w1 h1
       generalize hP : P0 ++ lowL 8 ep = P1 at h1
       have HE1 := Lib.hid hP
       have HLN1 : Hid (P1.length = 16) := Lib.hid (by rw [← hP, List.length_append, HLN0.out, lowL_len])
       clear hP
       have H1 := Lib.hid h1
       have hb1 := h1.st _ _ _ _ ((HN0.out.2.block _ (lt_of_block HB0.out) (fun e => e)).trans HB0.out) (by decide)
       obtain ⟨c0, c1, c2, c3, c4, c5, c6⟩ := cells7 hb1
       have HB1 := Lib.hid hb1
       clear h1 hb1)
    | fail)
  with_reducible refine (HL4.out s _).mono ?_
  rintro e u1 ⟨x1, rfl, hn1⟩
  have HN1 := Lib.hid hn1
  clear hn1 c0 c1 c2 c3 c4 c5 c6
  go_wp2_with (first
    | (refine wpList_appB (w0 := w) (bs := P1) (ys := lowL 4 s) rfl (.tmp 41) (.tmp 46) rfl (by rfl) (by rfl) (H1.out.ob.moves HN1.out.2) (HN1.out.row (lowL_byte _ _) (by rw [lowL_len]; decide)) (H1.out.mv.trans HN1.out.2) ?_ ?_
       focus (rw [HLN1.out, lowL_len]; decide)
       intro v2 w2 h2
       generalize hP : P1 ++ lowL 4 s = P2 at h2
       have HE2 := Lib.hid hP
       have HLN2 : Hid (P2.length = 20) := Lib.hid (by rw [← hP, List.length_append, HLN1.out, lowL_len])
       clear hP
       have H2 := Lib.hid h2
       have hb2 := h2.st _ _ _ _ ((HN1.out.2.block _ (lt_of_block HB1.out) (fun e => e)).trans HB1.out) (by decide)
       obtain ⟨c0, c1, c2, c3, c4, c5, c6⟩ := cells7 hb2
       have HB2 := Lib.hid hb2
       clear h2 hb2)
    | fail)
  with_reducible refine (HL4.out l _).mono ?_
  rintro e u2 ⟨x2, rfl, hn2⟩
  have HN2 := Lib.hid hn2
  clear hn2 c0 c1 c2 c3 c4 c5 c6
  go_wp2_with (first
    | (refine wpList_appB (w0 := w) (bs := P2) (ys := lowL 4 l) rfl (.tmp 48) (.tmp 53) rfl (by rfl) (by rfl) (H2.out.ob.moves HN2.out.2) (HN2.out.row (lowL_byte _ _) (by rw [lowL_len]; decide)) (H2.out.mv.trans HN2.out.2) ?_ ?_
       focus (rw [HLN2.out, lowL_len]; decide)
       intro v3 w3 h3
       generalize hP : P2 ++ lowL 4 l = P3 at h3
       have HE3 := Lib.hid hP
       have HLN3 : Hid (P3.length = 24) := Lib.hid (by rw [← hP, List.length_append, HLN2.out, lowL_len])
       clear hP
       have H3 := Lib.hid h3
       have hb3 := h3.st _ _ _ _ ((HN2.out.2.block _ (lt_of_block HB2.out) (fun e => e)).trans HB2.out) (by decide)
       obtain ⟨c0, c1, c2, c3, c4, c5, c6⟩ := cells7 hb3
       have HB3 := Lib.hid hb3
       clear h3 hb3)
    | fail)
  with_reducible refine (HL4.out n _).mono ?_
  rintro e u3 ⟨x3, rfl, hn3⟩
  have HN3 := Lib.hid hn3
  clear hn3 c0 c1 c2 c3 c4 c5 c6
  go_wp2_with (first
    | (refine wpList_appB (w0 := w) (bs := P3) (ys := lowL 4 n) rfl (.tmp 55) (.tmp 60) rfl (by rfl) (by rfl) (H3.out.ob.moves HN3.out.2) (HN3.out.row (lowL_byte _ _) (by rw [lowL_len]; decide)) (H3.out.mv.trans HN3.out.2) ?_ ?_
       focus (rw [HLN3.out, lowL_len]; decide)
       intro v4 w4 h4
       generalize hP : P3 ++ lowL 4 n = P4 at h4
       have HE4 := Lib.hid hP
       have HLN4 : Hid (P4.length = 28) := Lib.hid (by rw [← hP, List.length_append, HLN3.out, lowL_len])
       clear hP
       have H4 := Lib.hid h4
       have hb4 := h4.st _ _ _ _ ((HN3.out.2.block _ (lt_of_block HB3.out) (fun e => e)).trans HB3.out) (by decide)
       obtain ⟨c0, c1, c2, c3, c4, c5, c6⟩ := cells7 hb4
       have HB4 := Lib.hid hb4
       clear h4 hb4)
    | fail)
  with_reducible refine (HL4.out 0 _).mono ?_
  rintro e u4 ⟨x4, rfl, hn4⟩
  have HN4 := Lib.hid hn4
  clear hn4 c0 c1 c2 c3 c4 c5 c6
  go_wp2_with (first
    | (refine wpList_appB (w0 := w) (bs := P4) (ys := lowL 4 0) rfl (.tmp 62) (.tmp 66) rfl (by rfl) (by rfl) (H4.out.ob.moves HN4.out.2) (HN4.out.row (lowL_byte _ _) (by rw [lowL_len]; decide)) (H4.out.mv.trans HN4.out.2) ?_ ?_
       focus (rw [HLN4.out, lowL_len]; decide)
       intro v5 w5 h5
       generalize hP : P4 ++ lowL 4 0 = P5 at h5
       have HE5 := Lib.hid hP
       have HLN5 : Hid (P5.length = 32) := Lib.hid (by rw [← hP, List.length_append, HLN4.out, lowL_len])
       clear hP
       have H5 := Lib.hid h5
       have hb5 := h5.st _ _ _ _ ((HN4.out.2.block _ (lt_of_block HB4.out) (fun e => e)).trans HB4.out) (by decide)
       obtain ⟨c0, c1, c2, c3, c4, c5, c6⟩ := cells7 hb5
       have HB5 := Lib.hid hb5
       clear h5 hb5)
    | fail)
  with_reducible refine (HL4.out wd _).mono ?_
  rintro e u5 ⟨x5, rfl, hn5⟩
  have HN5 := Lib.hid hn5
  clear hn5 c0 c1 c2 c3 c4 c5 c6
  go_wp2_with (first
    | (refine wpList_appB (w0 := w) (bs := P5) (ys := lowL 4 wd) rfl (.tmp 68) (.tmp 72) rfl (by rfl) (by rfl) (H5.out.ob.moves HN5.out.2) (HN5.out.row (lowL_byte _ _) (by rw [lowL_len]; decide)) (H5.out.mv.trans HN5.out.2) ?_ ?_
       focus (rw [HLN5.out, lowL_len]; decide)
       intro v6 w6 h6
       generalize hP : P5 ++ lowL 4 wd = P6 at h6
       have HE6 := Lib.hid hP
       have HLN6 : Hid (P6.length = 36) := Lib.hid (by rw [← hP, List.length_append, HLN5.out, lowL_len])
       clear hP
       have H6 := Lib.hid h6
       have hb6 := h6.st _ _ _ _ ((HN5.out.2.block _ (lt_of_block HB5.out) (fun e => e)).trans HB5.out) (by decide)
       obtain ⟨c0, c1, c2, c3, c4, c5, c6⟩ := cells7 hb6
       have HB6 := Lib.hid hb6
       clear h6 hb6)
    | fail)
  with_reducible refine (HL8.out lg _).mono ?_
  rintro e u6 ⟨x6, rfl, hn6⟩
  have HN6 := Lib.hid hn6
  clear hn6 c0 c1 c2 c3 c4 c5 c6
  go_wp2_with (first
    | (refine wpList_appB (w0 := w) (bs := P6) (ys := lowL 8 lg) rfl (.tmp 74) (.tmp 77) rfl (by rfl) (by rfl) (H6.out.ob.moves HN6.out.2) (HN6.out.row (lowL_byte _ _) (by rw [lowL_len]; decide)) (H6.out.mv.trans HN6.out.2) ?_ ?_
       focus (rw [HLN6.out, lowL_len]; decide)
       intro v7 w7 h7
       generalize hP : P6 ++ lowL 8 lg = P7 at h7
       have HE7 := Lib.hid hP
       have HLN7 : Hid (P7.length = 44) := Lib.hid (by rw [← hP, List.length_append, HLN6.out, lowL_len])
       clear hP
       have H7 := Lib.hid h7
       have hb7 := h7.st _ _ _ _ ((HN6.out.2.block _ (lt_of_block HB6.out) (fun e => e)).trans HB6.out) (by decide)
       obtain ⟨c0, c1, c2, c3, c4, c5, c6⟩ := cells7 hb7
       have HB7 := Lib.hid hb7
       clear h7 hb7)
    | fail)
  clear c0 c1 c2 c3 c4 c5 c6
  have HBW : Hid (∀ W, Stay w7 W → W.cell? ⟨gb, 1, none⟩ = some (.int .i64 s) ∧ gb < W.heap.size) := Lib.hid fun W hW => ⟨(cells7 (hW _ _ _ _ HB7.out (by decide))).2.1, lt_of_block (hW _ _ _ _ HB7.out (by decide))⟩
  obtain ⟨m, hm⟩ : ∃ m : Nat, s - 4 = (m : Int) := ⟨(s - 4).toNat, by omega⟩
  have hm1 : 60 ≤ m ∧ m ≤ 1020 := by omega
  obtain ⟨hm1, hm2⟩ := hm1
  have HM := Lib.hid hm
  have HI0 : Hid (App w w7 w7 v7 P7) := Lib.hid ⟨H7.out.ob, H7.out.mv, fun g cs t fr h _ => h, Nat.le_refl _⟩
  have HROW2 : Hid (HL = P7 ++ List.replicate (m - 44) 0) := Lib.hid (by
    rw [HROW.out, ← HE7.out, ← HE6.out, ← HE5.out, ← HE4.out, ← HE3.out, ← HE2.out, ← HE1.out, ← HE0.out]
    have e1 : (s - 4).toNat = m := by omega
    have e2 : lowL 4 1 = [1, 0, 0, 0] := by decide
    rw [e1, e2])
  clear hm
  go_wp2_with fail
  go_loopg [4] (m - 44) (fun gg s4 wr => ∃ (j : Nat) (v : Value), j ≤ m - 44 ∧ gg = m - 44 - j ∧ v = s4 ∧ Hid (App w w7 wr v (P7 ++ List.replicate j 0)))
  case atStart => exact ⟨0, _, Nat.zero_le _, rfl, rfl, by rw [show List.replicate 0 (0 : Int) = [] from rfl, List.append_nil]; exact HI0⟩
  case round =>
    obtain ⟨j, v, hj, hgg, rfl, HI⟩ := hrel
    obtain ⟨x1, x2⟩ := HBW.out _ HI.out.st
    obtain ⟨A, c, hv⟩ := HI.out.ob.form
    have hlen : (P7 ++ List.replicate j (0 : Int)).length = 44 + j := by rw [List.length_append, HLN7.out, List.length_replicate]
    rw [hlen] at hv
    subst hv
    have HLEN := Lib.hid hlen
    clear hlen
    have hms : s - 4 = (m : Int) := HM.out
    by_cases hlt : j < m - 44
    · have d1 : ((44 : Int) + (j : Int) < s - 4) := by omega
      clear hms
      go_wp2_with (first
        | (refine wpList_appB (w0 := w) (bs := P7 ++ List.replicate j 0) (ys := [0]) rfl (.tmp 86) (.tmp 87) rfl (by rfl) (by rfl) (HI.out.ob.moves ((Moves.refl _ wr).alloc _)) (BRow.of_block (bs := [0]) rfl (OB.one 0) ?_ (by decide)) (HI.out.mv.alloc _) ?_ ?_
           focus (intro x hx; simp at hx; omega)
           focus (rw [HLEN.out]; show 44 + j + 1 ≤ _; omega)
           intro v' w' happ)
        | fail)
      go_roundg (m - 44 - (j + 1))
      case measure => omega
      case rel =>
        refine ⟨j + 1, v', by omega, rfl, rfl, ?_⟩
        have h1 := happ.ob
        rw [List.append_assoc] at h1
        have e : List.replicate j (0 : Int) ++ [0] = List.replicate (j + 1) 0 := by rw [List.replicate_succ']
        rw [e] at h1
        exact Lib.hid ⟨h1, happ.mv, (HI.out.st.trans (Stay.of ((Moves.refl _ wr).alloc _))).trans happ.st, Nat.le_trans HI.out.sz (Nat.le_trans (by simp) happ.sz)⟩
    · obtain rfl : j = m - 44 := by omega
      have d1 : ¬ ((44 : Int) + ((m - 44 : Nat) : Int) < s - 4) := by omega
      clear hms
      have HO := Lib.hid (HROW2.out ▸ HI.out.ob : OB w.heap.size wr _ HL)
      go_wp2_with (first
        | (go_at_call 107
           refine (HS.out _ _ _ (HO.out.row HBY.out (by rw [HLE.out]; omega))).mono ?_
           rintro e w9 ⟨v9, rfl, hn9⟩)
        | fail)
      exact HQ.out v9 w9 (hn9.after HI.out.mv)
set_option maxRecDepth 100000 in
set_option maxHeartbeats 8000000 in
theorem renc_1 {b : Blk} (h : GoodB b) (hsp : b.space = 1) (w : World) : Calls Try.prog 66 #[blkV b] w (EncPost w b) := by
  have HC := Lib.hid (fun W => rcheck_ok h.1 W)
  have hn := h.1.near
  have hrow := headL_row hn.1.1
  have HQ : Hid (∀ v' w', NewB w v' (sealL crcL (headL b)) w' → EncPost w b (.returned (.tuple #[v', .int .i64 0])) w') := Lib.hid fun v' w' hb => ⟨v', rfl, hb⟩
  have HS := Lib.hid (fun (W : World) (L : Nat → Prop) (v : Value) (hr : BRow W L v (headL b)) => seal2_any hr (by rw [headL_len hn.1.1]; have := hn.1.2; omega))
  have HBY0 := putAll_byte b 8
  rw [putAll_end] at HBY0
  have HLE0 := headL_len hn.1.1
  generalize EncPost w b = Q at HQ ⊢
  obtain ⟨hg, s1, s2, w1, w2⟩ := h
  have hs64 : 64 ≤ b.geom.sector ∧ b.geom.sector ≤ 1024 := hn.1
  have hln : (0 ≤ b.geom.log ∧ b.geom.log ≤ 1024) ∧ 0 ≤ b.geom.words ∧ b.geom.words ≤ 8192 := hn.2
  clear hn hg
  obtain ⟨ep, ⟨s, l, n⟩, sp, wd, lg⟩ := b
  dsimp only at s1 s2 w1 w2 hs64 HC hrow hsp hln HLE0
  subst hsp
  obtain ⟨hs1, hs2⟩ := hs64
  obtain ⟨⟨hl0, hl1⟩, hg0, hg1⟩ := hln
  have hs0 : 0 ≤ s := by omega
  have HROW := Lib.hid hrow
  clear hrow
  generalize headL ⟨ep, ⟨s, l, n⟩, 1, wd, lg⟩ = HL at HROW HQ HS HBY0 HLE0
  have HBY := Lib.hid HBY0
  have HLE := Lib.hid HLE0
  clear HBY0 HLE0
  have HL8 : Hid (∀ x W, Calls Try.prog 106 #[.int .u64 x, .int .i64 8] W (OneB W (lowL 8 x))) := Lib.hid (fun x W => low_any (n := 8) (by decide) x W)
  have HL4 : Hid (∀ x W, Calls Try.prog 106 #[.int .u64 x, .int .i64 4] W (OneB W (lowL 4 x))) := Lib.hid (fun x W => low_any (n := 4) (by decide) x W)
  have kc := fun (w : World) (C : Array Value) (n c : Nat) => Lib.run_convert_bytes_const (P := Try.prog) w 55 5 C n c Try.underlying55 Try.underlying5
  have hm0 := (Moves.refl (fun _ => False) w).alloc (.cells (blkCells ⟨ep, ⟨s, l, n⟩, 1, wd, lg⟩) 49)
  have hb0 := heap_alloc_new w (.cells (blkCells ⟨ep, ⟨s, l, n⟩, 1, wd, lg⟩) 49)
  go_enter Try.func66, Try.ntmps66
  go_wp2_with fail
  generalize w.alloc (.cells (blkCells ⟨ep, ⟨s, l, n⟩, 1, wd, lg⟩) 49) = W0 at hm0 hb0 ⊢
  generalize hgbe : w.heap.size = gb at hb0 ⊢
  have HGB := Lib.hid hgbe
  clear hgbe
  refine (HC.out _).mono ?_
  rintro e wA ⟨rfl, hmA⟩
  have hbA := (hmA.block _ (lt_of_block hb0) (fun e => e)).trans hb0
  obtain ⟨c0, c1, c2, c3, c4, c5, c6⟩ := cells7 hbA
  have hgA := lt_of_block hbA
  have HMA := Lib.hid (hm0.trans hmA)
  have hbB : ((wA.alloc (.cells #[.int .u8 76, .int .u8 79, .int .u8 65, .int .u8 77] 5 (4, 5))).alloc (.cells #[.int .u8 1, .int .u8 0, .int .u8 0, .int .u8 0] 5)).heap[gb]? = some (.cells (blkCells ⟨ep, ⟨s, l, n⟩, 1, wd, lg⟩) 49 (0, 0)) := (Below.heap_alloc _ _ _ (by simp; omega)).trans ((Below.heap_alloc _ _ _ hgA).trans hbA)
  have HBB := Lib.hid hbB
  clear hm0 hb0 hmA hbA hbB
  go_wp2_with (first
    | (refine wpList_appFull (w0 := w) (bs := [76, 79, 65, 77]) (ys := [1, 0, 0, 0]) rfl (.tmp 33) (.tmp 34) rfl (by rfl) (by rfl) (BRow.of_const (n := 4) rfl ((Below.heap_alloc _ _ _ (by simp)).trans (alloc_at rfl)) ?_ (by decide)) (BRow.of_block (n := 4) rfl (alloc_at (by simp)) ?_ (by decide)) ((HMA.out.alloc _).alloc _) (by decide) (by decide) ?_
       focus (intro x hx; simp at hx; omega)
       focus (intro x hx; simp at hx; omega)
       intro v0 w0 h0
       generalize hP0 : ([76, 79, 65, 77] ++ [1, 0, 0, 0] : List Int) = P0 at h0
       have HE0 := Lib.hid hP0
       have HLN0 : Hid (P0.length = 8) := Lib.hid (by rw [← hP0]; rfl)
       clear hP0
       have H0 := Lib.hid h0
       have hb0 := h0.st _ _ _ _ HBB.out (by decide)
       clear h0 c0 c1 c2 c3 c4 c5 c6 HBB kc
       obtain ⟨c0, c1, c2, c3, c4, c5, c6⟩ := cells7 hb0
       have HB0 := Lib.hid hb0
       clear hb0)
    | fail)
  with_reducible refine (HL8.out ep _).mono ?_
  rintro e u0 ⟨x0, rfl, hn0⟩
  have HN0 := Lib.hid hn0
  clear hn0 c0 c1 c2 c3 c4 c5 c6
  go_wp2_with (first
    | (refine wpList_appB (w0 := w) (bs := P0) (ys := lowL 8 ep) rfl (.tmp 36) (.tmp 39) rfl (by rfl) (by rfl) (H0.out.ob.moves HN0.out.2) (HN0.out.row (lowL_byte _ _) (by rw [lowL_len]; decide)) (H0.out.mv.trans HN0.out.2) ?_ ?_
       focus (rw [HLN0.out, lowL_len]; decide)
       intro v1 w1 h1
       generalize hP : P0 ++ lowL 8 ep = P1 at h1
       have HE1 := Lib.hid hP
       have HLN1 : Hid (P1.length = 16) := Lib.hid (by rw [← hP, List.length_append, HLN0.out, lowL_len])
       clear hP
       have H1 := Lib.hid h1
       have hb1 := h1.st _ _ _ _ ((HN0.out.2.block _ (lt_of_block HB0.out) (fun e => e)).trans HB0.out) (by decide)
       obtain ⟨c0, c1, c2, c3, c4, c5, c6⟩ := cells7 hb1
       have HB1 := Lib.hid hb1
       clear h1 hb1)
    | fail)
  with_reducible refine (HL4.out s _).mono ?_
  rintro e u1 ⟨x1, rfl, hn1⟩
  have HN1 := Lib.hid hn1
  clear hn1 c0 c1 c2 c3 c4 c5 c6
  go_wp2_with (first
    | (refine wpList_appB (w0 := w) (bs := P1) (ys := lowL 4 s) rfl (.tmp 41) (.tmp 46) rfl (by rfl) (by rfl) (H1.out.ob.moves HN1.out.2) (HN1.out.row (lowL_byte _ _) (by rw [lowL_len]; decide)) (H1.out.mv.trans HN1.out.2) ?_ ?_
       focus (rw [HLN1.out, lowL_len]; decide)
       intro v2 w2 h2
       generalize hP : P1 ++ lowL 4 s = P2 at h2
       have HE2 := Lib.hid hP
       have HLN2 : Hid (P2.length = 20) := Lib.hid (by rw [← hP, List.length_append, HLN1.out, lowL_len])
       clear hP
       have H2 := Lib.hid h2
       have hb2 := h2.st _ _ _ _ ((HN1.out.2.block _ (lt_of_block HB1.out) (fun e => e)).trans HB1.out) (by decide)
       obtain ⟨c0, c1, c2, c3, c4, c5, c6⟩ := cells7 hb2
       have HB2 := Lib.hid hb2
       clear h2 hb2)
    | fail)
  with_reducible refine (HL4.out l _).mono ?_
  rintro e u2 ⟨x2, rfl, hn2⟩
  have HN2 := Lib.hid hn2
  clear hn2 c0 c1 c2 c3 c4 c5 c6
  go_wp2_with (first
    | (refine wpList_appB (w0 := w) (bs := P2) (ys := lowL 4 l) rfl (.tmp 48) (.tmp 53) rfl (by rfl) (by rfl) (H2.out.ob.moves HN2.out.2) (HN2.out.row (lowL_byte _ _) (by rw [lowL_len]; decide)) (H2.out.mv.trans HN2.out.2) ?_ ?_
       focus (rw [HLN2.out, lowL_len]; decide)
       intro v3 w3 h3
       generalize hP : P2 ++ lowL 4 l = P3 at h3
       have HE3 := Lib.hid hP
       have HLN3 : Hid (P3.length = 24) := Lib.hid (by rw [← hP, List.length_append, HLN2.out, lowL_len])
       clear hP
       have H3 := Lib.hid h3
       have hb3 := h3.st _ _ _ _ ((HN2.out.2.block _ (lt_of_block HB2.out) (fun e => e)).trans HB2.out) (by decide)
       obtain ⟨c0, c1, c2, c3, c4, c5, c6⟩ := cells7 hb3
       have HB3 := Lib.hid hb3
       clear h3 hb3)
    | fail)
  with_reducible refine (HL4.out n _).mono ?_
  rintro e u3 ⟨x3, rfl, hn3⟩
  have HN3 := Lib.hid hn3
  clear hn3 c0 c1 c2 c3 c4 c5 c6
  go_wp2_with (first
    | (refine wpList_appB (w0 := w) (bs := P3) (ys := lowL 4 n) rfl (.tmp 55) (.tmp 60) rfl (by rfl) (by rfl) (H3.out.ob.moves HN3.out.2) (HN3.out.row (lowL_byte _ _) (by rw [lowL_len]; decide)) (H3.out.mv.trans HN3.out.2) ?_ ?_
       focus (rw [HLN3.out, lowL_len]; decide)
       intro v4 w4 h4
       generalize hP : P3 ++ lowL 4 n = P4 at h4
       have HE4 := Lib.hid hP
       have HLN4 : Hid (P4.length = 28) := Lib.hid (by rw [← hP, List.length_append, HLN3.out, lowL_len])
       clear hP
       have H4 := Lib.hid h4
       have hb4 := h4.st _ _ _ _ ((HN3.out.2.block _ (lt_of_block HB3.out) (fun e => e)).trans HB3.out) (by decide)
       obtain ⟨c0, c1, c2, c3, c4, c5, c6⟩ := cells7 hb4
       have HB4 := Lib.hid hb4
       clear h4 hb4)
    | fail)
  with_reducible refine (HL4.out 1 _).mono ?_
  rintro e u4 ⟨x4, rfl, hn4⟩
  have HN4 := Lib.hid hn4
  clear hn4 c0 c1 c2 c3 c4 c5 c6
  go_wp2_with (first
    | (refine wpList_appB (w0 := w) (bs := P4) (ys := lowL 4 1) rfl (.tmp 62) (.tmp 66) rfl (by rfl) (by rfl) (H4.out.ob.moves HN4.out.2) (HN4.out.row (lowL_byte _ _) (by rw [lowL_len]; decide)) (H4.out.mv.trans HN4.out.2) ?_ ?_
       focus (rw [HLN4.out, lowL_len]; decide)
       intro v5 w5 h5
       generalize hP : P4 ++ lowL 4 1 = P5 at h5
       have HE5 := Lib.hid hP
       have HLN5 : Hid (P5.length = 32) := Lib.hid (by rw [← hP, List.length_append, HLN4.out, lowL_len])
       clear hP
       have H5 := Lib.hid h5
       have hb5 := h5.st _ _ _ _ ((HN4.out.2.block _ (lt_of_block HB4.out) (fun e => e)).trans HB4.out) (by decide)
       obtain ⟨c0, c1, c2, c3, c4, c5, c6⟩ := cells7 hb5
       have HB5 := Lib.hid hb5
       clear h5 hb5)
    | fail)
  with_reducible refine (HL4.out wd _).mono ?_
  rintro e u5 ⟨x5, rfl, hn5⟩
  have HN5 := Lib.hid hn5
  clear hn5 c0 c1 c2 c3 c4 c5 c6
  go_wp2_with (first
    | (refine wpList_appB (w0 := w) (bs := P5) (ys := lowL 4 wd) rfl (.tmp 68) (.tmp 72) rfl (by rfl) (by rfl) (H5.out.ob.moves HN5.out.2) (HN5.out.row (lowL_byte _ _) (by rw [lowL_len]; decide)) (H5.out.mv.trans HN5.out.2) ?_ ?_
       focus (rw [HLN5.out, lowL_len]; decide)
       intro v6 w6 h6
       generalize hP : P5 ++ lowL 4 wd = P6 at h6
       have HE6 := Lib.hid hP
       have HLN6 : Hid (P6.length = 36) := Lib.hid (by rw [← hP, List.length_append, HLN5.out, lowL_len])
       clear hP
       have H6 := Lib.hid h6
       have hb6 := h6.st _ _ _ _ ((HN5.out.2.block _ (lt_of_block HB5.out) (fun e => e)).trans HB5.out) (by decide)
       obtain ⟨c0, c1, c2, c3, c4, c5, c6⟩ := cells7 hb6
       have HB6 := Lib.hid hb6
       clear h6 hb6)
    | fail)
  with_reducible refine (HL8.out lg _).mono ?_
  rintro e u6 ⟨x6, rfl, hn6⟩
  have HN6 := Lib.hid hn6
  clear hn6 c0 c1 c2 c3 c4 c5 c6
  go_wp2_with (first
    | (refine wpList_appB (w0 := w) (bs := P6) (ys := lowL 8 lg) rfl (.tmp 74) (.tmp 77) rfl (by rfl) (by rfl) (H6.out.ob.moves HN6.out.2) (HN6.out.row (lowL_byte _ _) (by rw [lowL_len]; decide)) (H6.out.mv.trans HN6.out.2) ?_ ?_
       focus (rw [HLN6.out, lowL_len]; decide)
       intro v7 w7 h7
       generalize hP : P6 ++ lowL 8 lg = P7 at h7
       have HE7 := Lib.hid hP
       have HLN7 : Hid (P7.length = 44) := Lib.hid (by rw [← hP, List.length_append, HLN6.out, lowL_len])
       clear hP
       have H7 := Lib.hid h7
       have hb7 := h7.st _ _ _ _ ((HN6.out.2.block _ (lt_of_block HB6.out) (fun e => e)).trans HB6.out) (by decide)
       obtain ⟨c0, c1, c2, c3, c4, c5, c6⟩ := cells7 hb7
       have HB7 := Lib.hid hb7
       clear h7 hb7)
    | fail)
  clear c0 c1 c2 c3 c4 c5 c6
  have HBW : Hid (∀ W, Stay w7 W → W.cell? ⟨gb, 1, none⟩ = some (.int .i64 s) ∧ gb < W.heap.size) := Lib.hid fun W hW => ⟨(cells7 (hW _ _ _ _ HB7.out (by decide))).2.1, lt_of_block (hW _ _ _ _ HB7.out (by decide))⟩
  obtain ⟨m, hm⟩ : ∃ m : Nat, s - 4 = (m : Int) := ⟨(s - 4).toNat, by omega⟩
  have hm1 : 60 ≤ m ∧ m ≤ 1020 := by omega
  obtain ⟨hm1, hm2⟩ := hm1
  have HM := Lib.hid hm
  have HI0 : Hid (App w w7 w7 v7 P7) := Lib.hid ⟨H7.out.ob, H7.out.mv, fun g cs t fr h _ => h, Nat.le_refl _⟩
  have HROW2 : Hid (HL = P7 ++ List.replicate (m - 44) 0) := Lib.hid (by
    rw [HROW.out, ← HE7.out, ← HE6.out, ← HE5.out, ← HE4.out, ← HE3.out, ← HE2.out, ← HE1.out, ← HE0.out]
    have e1 : (s - 4).toNat = m := by omega
    have e2 : lowL 4 1 = [1, 0, 0, 0] := by decide
    rw [e1, e2])
  clear hm
  go_wp2_with fail
  go_loopg [4] (m - 44) (fun gg s4 wr => ∃ (j : Nat) (v : Value), j ≤ m - 44 ∧ gg = m - 44 - j ∧ v = s4 ∧ Hid (App w w7 wr v (P7 ++ List.replicate j 0)))
  case atStart => exact ⟨0, _, Nat.zero_le _, rfl, rfl, by rw [show List.replicate 0 (0 : Int) = [] from rfl, List.append_nil]; exact HI0⟩
  case round =>
    obtain ⟨j, v, hj, hgg, rfl, HI⟩ := hrel
    obtain ⟨x1, x2⟩ := HBW.out _ HI.out.st
    obtain ⟨A, c, hv⟩ := HI.out.ob.form
    have hlen : (P7 ++ List.replicate j (0 : Int)).length = 44 + j := by rw [List.length_append, HLN7.out, List.length_replicate]
    rw [hlen] at hv
    subst hv
    have HLEN := Lib.hid hlen
    clear hlen
    have hms : s - 4 = (m : Int) := HM.out
    by_cases hlt : j < m - 44
    · have d1 : ((44 : Int) + (j : Int) < s - 4) := by omega
      clear hms
      go_wp2_with (first
        | (refine wpList_appB (w0 := w) (bs := P7 ++ List.replicate j 0) (ys := [0]) rfl (.tmp 86) (.tmp 87) rfl (by rfl) (by rfl) (HI.out.ob.moves ((Moves.refl _ wr).alloc _)) (BRow.of_block (bs := [0]) rfl (OB.one 0) ?_ (by decide)) (HI.out.mv.alloc _) ?_ ?_
           focus (intro x hx; simp at hx; omega)
           focus (rw [HLEN.out]; show 44 + j + 1 ≤ _; omega)
           intro v' w' happ)
        | fail)
      go_roundg (m - 44 - (j + 1))
      case measure => omega
      case rel =>
        refine ⟨j + 1, v', by omega, rfl, rfl, ?_⟩
        have h1 := happ.ob
        rw [List.append_assoc] at h1
        have e : List.replicate j (0 : Int) ++ [0] = List.replicate (j + 1) 0 := by rw [List.replicate_succ']
        rw [e] at h1
        exact Lib.hid ⟨h1, happ.mv, (HI.out.st.trans (Stay.of ((Moves.refl _ wr).alloc _))).trans happ.st, Nat.le_trans HI.out.sz (Nat.le_trans (by simp) happ.sz)⟩
    · obtain rfl : j = m - 44 := by omega
      have d1 : ¬ ((44 : Int) + ((m - 44 : Nat) : Int) < s - 4) := by omega
      clear hms
      have HO := Lib.hid (HROW2.out ▸ HI.out.ob : OB w.heap.size wr _ HL)
      go_wp2_with (first
        | (go_at_call 107
           refine (HS.out _ _ _ (HO.out.row HBY.out (by rw [HLE.out]; omega))).mono ?_
           rintro e w9 ⟨v9, rfl, hn9⟩)
        | fail)
      exact HQ.out v9 w9 (hn9.after HI.out.mv)
theorem renc_ok {b : Blk} (h : GoodB b) (w : World) : Calls Try.prog 66 #[blkV b] w (EncPost w b) := by
  rcases (by have := h.2.1; have := h.2.2.1; omega : b.space = 0 ∨ b.space = 1) with e | e
  · exact renc_0 h e w
  · exact renc_1 h e w
set_option maxRecDepth 100000 in
set_option maxHeartbeats 4000000 in
theorem renc_bad {b : Blk} (h : ¬ GoodB b) (w : World) : Calls Try.prog 66 #[blkV b] w (BadPost w) := by
  have HB := Lib.hid h
  have HC0 := Lib.hid (fun W (hg : ¬ GoodG b.geom) => rcheck_bad' hg W)
  have HC1 := Lib.hid (fun W (hg : GoodG b.geom) => rcheck_ok hg W)
  clear h
  obtain ⟨ep, ⟨s, l, n⟩, sp, wd, lg⟩ := b
  dsimp only at HC0 HC1
  have hm0 := (Moves.refl (fun _ => False) w).alloc (.cells (blkCells ⟨ep, ⟨s, l, n⟩, sp, wd, lg⟩) 49)
  have hb0 := heap_alloc_new w (.cells (blkCells ⟨ep, ⟨s, l, n⟩, sp, wd, lg⟩) 49)
  have hgb : w.heap.size < (w.alloc (.cells (blkCells ⟨ep, ⟨s, l, n⟩, sp, wd, lg⟩) 49)).heap.size := by simp
  have HB0 : Hid (∀ W, Moves (fun _ => False) (w.alloc (.cells (blkCells ⟨ep, ⟨s, l, n⟩, sp, wd, lg⟩) 49)) W → _) := Lib.hid fun W hW => cells7 ((hW.block w.heap.size hgb (fun e => e)).trans hb0)
  have HM0 := Lib.hid hm0
  clear hm0 hb0 hgb
  by_cases hg : GoodG ⟨s, l, n⟩
  · have HC := Lib.hid (fun W => HC1.out W hg)
    have HG := Lib.hid hg
    clear hg HC0 HC1
    by_cases e0 : sp = 0
    · subst e0
      by_cases h3 : 0 ≤ wd
      · have h4 : n < wd := by
          by_cases q : n < wd
          · exact q
          · exact absurd ⟨HG.out, by show (0 : Int) ≤ 0; decide, by show (0 : Int) ≤ 1; decide, h3, Int.not_lt.1 q⟩ HB.out
        go_enter Try.func66, Try.ntmps66
        go_wp2_with fail
        refine (HC.out _).mono ?_
        rintro e w1' ⟨rfl, hm1⟩
        obtain ⟨c0, c1, c2, c3, c4, c5, c6⟩ := HB0.out _ hm1
        go_wp2
        go_ret2
        exact ⟨rfl, HM0.out.trans hm1⟩
      · go_enter Try.func66, Try.ntmps66
        go_wp2_with fail
        refine (HC.out _).mono ?_
        rintro e w1' ⟨rfl, hm1⟩
        obtain ⟨c0, c1, c2, c3, c4, c5, c6⟩ := HB0.out _ hm1
        go_wp2
        go_ret2
        exact ⟨rfl, HM0.out.trans hm1⟩
    · have f0 : (sp != 0) = true := by simpa using e0
      by_cases e1 : sp = 1
      · subst e1
        by_cases h3 : 0 ≤ wd
        · have h4 : n < wd := by
            by_cases q : n < wd
            · exact q
            · exact absurd ⟨HG.out, by show (0 : Int) ≤ 1; decide, by show (1 : Int) ≤ 1; decide, h3, Int.not_lt.1 q⟩ HB.out
          go_enter Try.func66, Try.ntmps66
          go_wp2_with fail
          refine (HC.out _).mono ?_
          rintro e w1' ⟨rfl, hm1⟩
          obtain ⟨c0, c1, c2, c3, c4, c5, c6⟩ := HB0.out _ hm1
          go_wp2
          go_ret2
          exact ⟨rfl, HM0.out.trans hm1⟩
        · go_enter Try.func66, Try.ntmps66
          go_wp2_with fail
          refine (HC.out _).mono ?_
          rintro e w1' ⟨rfl, hm1⟩
          obtain ⟨c0, c1, c2, c3, c4, c5, c6⟩ := HB0.out _ hm1
          go_wp2
          go_ret2
          exact ⟨rfl, HM0.out.trans hm1⟩
      · have f1 : (sp != 1) = true := by simpa using e1
        clear e0 e1
        go_enter Try.func66, Try.ntmps66
        go_wp2_with fail
        refine (HC.out _).mono ?_
        rintro e w1' ⟨rfl, hm1⟩
        obtain ⟨c0, c1, c2, c3, c4, c5, c6⟩ := HB0.out _ hm1
        go_wp2
        go_ret2
        exact ⟨rfl, HM0.out.trans hm1⟩
  · have HC := Lib.hid (fun W => HC0.out W hg)
    clear hg HC0 HC1
    go_enter Try.func66, Try.ntmps66
    go_wp2_with fail
    refine (HC.out _).mono ?_
    rintro e w1' ⟨rfl, hm1⟩
    obtain ⟨c0, c1, c2, c3, c4, c5, c6⟩ := HB0.out _ hm1
    go_wp2
    go_ret2
    exact ⟨rfl, HM0.out.trans hm1⟩
end Go.Proofs.Ytnagpianaghjeaa.Sl
