/-
  slots.Write on a disk on which nothing waits. (Printed by gen_slotsw.py.)
-/
import Derived.Test.YtnagpianaghjeaaSlotsFits
namespace Go.Proofs.Ytnagpianaghjeaa.Sl
open Go Go.RowKit Go.Proofs
open Pl (DS IsDisk DOwn DPost DMv DKeep)

theorem NewB.form {w w' : World} {v : Value} {bs : List Int} (h : NewB w v bs w') (h0 : 0 < bs.length) : ∃ g c cur, v = .slice (some ⟨g, 0, none⟩) bs.length c ∧ w'.heap[g]? = some (.cells cur 5 (0, 0)) := by
  rcases h.1.2 with ⟨-, h1⟩ | ⟨g, cap, cur, hv, -, hg, -⟩
  · omega
  · exact ⟨g, cap, cur, hv, hg⟩
theorem BRow.at {w : World} {L : Nat → Prop} {g o n c : Nat} {bs : List Int} (h : BRow w L (.slice (some ⟨g, o, none⟩) n c) bs) : BRow w (fun k => k = g) (.slice (some ⟨g, o, none⟩) n c) bs := by
  obtain ⟨⟨A, c', hv, hc, hx⟩, hr⟩ := h
  refine ⟨⟨A, c', hv, hc, fun h0 => ?_⟩, hr⟩
  obtain ⟨g', o', hA, -, hlt, hcell⟩ := hx h0
  refine ⟨g', o', hA, ?_, hlt, hcell⟩
  rw [hA] at hv
  injection hv with hv
  injection hv with hv
  injection hv with hv
  exact hv.symm
/-- A block that is none of a disk's. -/
theorem apart' {w : World} {base d g : Nat} {S : DS} {cs : Array Value} {t : TypeId} {fr : Nat × Nat} (h : IsDisk w base d S) (hg : w.heap[g]? = some (.cells cs t fr)) (h1 : t ≠ 105) (h2 : t ≠ 55) : ¬ DOwn w d g := h.apart hg h1 h2
def WPost (w : World) (base d : Nat) (S : DS) (v : Value) (e : Ending) (w' : World) : Prop := e = .returned v ∧ IsDisk w' base d S ∧ DMv w d w'
set_option maxRecDepth 100000 in
set_option maxHeartbeats 4000000 in
theorem write_done {w : World} {base d : Nat} {S : DS} (h : IsDisk w base d S) {b : Blk} (hg : GoodB b) (hwf : WfB b) (hfit : fitsB S b.geom = true) (hoff : S.off = false) (hst : Pl.settleS S (fun _ => true) = S) {S1 : DS} (hW : ∀ W (L : Nat → Prop), IsDisk W base d S → ∀ {v : Value}, Row W L v ((encS crcL b).map encX) → (∀ k, L k → k < W.heap.size → k ≠ d) → Calls Try.prog 59 #[.pointer (some ⟨d, 0, none⟩), .int .i64 (b.epoch % 2), v] W (DPost W base d S1 (.int .i64 0))) {S2 : DS} (hoff1 : S1.off = false) (hst1 : Pl.settleS S1 (fun _ => true) = S2) : Calls Try.prog 14 #[.pointer (some ⟨d, 0, none⟩), blkV b] w (WPost w base d S2 (.int .i64 0)) := by
  have HD0 := Lib.hid h
  have HE := Lib.hid (fun W => encode_ok hg W)
  have HBYTE := Lib.hid (encS_byte crcL b)
  have hel := encS_len crcL hg.1.1.1
  have hnear := hg.1.near
  have HLEN : Hid (0 < (encS crcL b).length) := Lib.hid (by have := hnear.1.1; omega)
  have HLEN2 : Hid ((encS crcL b).length ≤ 1000000) := Lib.hid (by have := hnear.1.2; omega)
  have HF0 := Lib.hid (fun W (hW : Moves (fun _ => False) w W) => fits_any (h.moves0 hW) hnear)
  rw [hfit] at HF0
  have HSLOT0 := Lib.hid (fun W => slot_any b.epoch hwf.1 hwf.2.1 W)
  have HOFF := Lib.hid hoff
  have HST := Lib.hid hst
  have HW := Lib.hid hW
  clear h hfit hoff hst hnear hel hwf hg
  have HOFF1 := Lib.hid hoff1
  have HST1 := Lib.hid hst1
  clear hoff1 hst1 hW
  obtain ⟨ep, ⟨s, l, n⟩, sp, wd, lg⟩ := b
  dsimp only at HE HSLOT0 HF0
  have HF := HF0
  have HSLOT := HSLOT0
  clear HF0 HSLOT0
  have hm0 := (Moves.refl (fun _ => False) w).alloc (.cells (blkCells ⟨ep, ⟨s, l, n⟩, sp, wd, lg⟩) 32)
  have hb0 := heap_alloc_new w (.cells (blkCells ⟨ep, ⟨s, l, n⟩, sp, wd, lg⟩) 32)
  have hgl : w.heap.size < (w.alloc (.cells (blkCells ⟨ep, ⟨s, l, n⟩, sp, wd, lg⟩) 32)).heap.size := by simp
  have hdl : d < w.heap.size := HD0.out.lt
  go_enter Try.func14, Try.ntmps14
  go_wp2_with fail
  generalize w.alloc (.cells (blkCells ⟨ep, ⟨s, l, n⟩, sp, wd, lg⟩) 32) = W0 at hm0 hb0 hgl ⊢
  obtain ⟨gb, hgb⟩ : ∃ gb, gb = w.heap.size := ⟨_, rfl⟩
  rw [← hgb] at hb0 hgl ⊢
  clear hgb
  refine (HE.out W0).mono ?_
  rintro e w1 ⟨v', rfl, hnew⟩
  have hb1 := (hnew.2.block _ hgl (fun e => e)).trans hb0
  have hm1 := hm0.trans hnew.2
  obtain ⟨gv, cv, cur, rfl, hvb⟩ := hnew.form HLEN.out
  have hvr := (hnew.row HBYTE.out HLEN2.out).at
  obtain ⟨c0, c1, c2, c3, c4, c5, c6⟩ := cells7 hb1
  clear hb0 hgl hm0 hnew
  go_wp2_with fail
  refine (HF.out w1 hm1).mono ?_
  rintro e w2 ⟨rfl, hm2⟩
  have hb2 := (hm2.block _ (lt_of_block hb1) (fun e => e)).trans hb1
  have hvb2 := (hm2.block _ (lt_of_block hvb) (fun e => e)).trans hvb
  have hvr2 := hvr.moves hm2 (fun _ _ _ e => e)
  have hm02 := hm1.trans hm2
  clear c0 c1 c2 c3 c4 c5 c6 hm1 hm2 hb1 hvb hvr
  have hD2 := HD0.out.moves0 hm02
  have hv2 := DMv.of0 hm02 hdl
  go_wp2_with fail
  refine (Pl.sync_on hD2 HOFF.out).mono ?_
  rintro e w3 ⟨rfl, hd3, hm3, hk3⟩
  rw [HST.out] at hd3
  have hnd := apart' hD2 hb2 (by decide) (by decide)
  have hndv := apart' hD2 hvb2 (by decide) (by decide)
  have hb3 := (hm3.block _ (lt_of_block hb2) hnd).trans hb2
  have hvb3 := (hm3.block _ (lt_of_block hvb2) hndv).trans hvb2
  have hvr3 := hvr2.moves hm3 (fun i hi _ => by rw [hi]; exact hndv)
  obtain ⟨c0, c1, c2, c3, c4, c5, c6⟩ := cells7 hb3
  have hv3 := hv2.trans ⟨hm3, hk3⟩
  clear hb2 hvb2 hvr2 hnd hndv hm3 hk3 hm02 hb3 hv2 hD2
  go_wp2_with fail
  refine (HSLOT.out _).mono ?_
  rintro e w3' ⟨rfl, rfl⟩
  go_wp2_with fail
  have hap : ∀ k, k = gv → k < w3.heap.size → k ≠ d := fun k e _ e2 => (apart' hd3 hvb3 (by decide) (by decide)) (.inl (by rw [← e]; exact e2))
  refine (HW.out w3 _ hd3 hvr3.1 hap).mono ?_
  rintro e w4 ⟨rfl, hd4, hm4, hk4⟩
  have hv4 := hv3.trans ⟨hm4, hk4⟩
  clear c0 c1 c2 c3 c4 c5 c6 hvb3 hvr3 hap hm4 hk4 hv3 hd3
  go_wp2_with fail
  refine (Pl.sync_on hd4 HOFF1.out).mono ?_
  rintro e w5 ⟨rfl, hd5, hm5, hk5⟩
  rw [HST1.out] at hd5
  have hv5 := hv4.trans ⟨hm5, hk5⟩
  clear hd4 hm5 hk5 hv4
  go_wp2
  go_ret
  exact ⟨rfl, hd5, hv5⟩
set_option maxRecDepth 100000 in
set_option maxHeartbeats 4000000 in
theorem write_gone {w : World} {base d : Nat} {S : DS} (h : IsDisk w base d S) {b : Blk} (hg : GoodB b) (hwf : WfB b) (hfit : fitsB S b.geom = true) (hoff : S.off = false) (hst : Pl.settleS S (fun _ => true) = S) {S1 : DS} (hW : ∀ W (L : Nat → Prop), IsDisk W base d S → ∀ {v : Value}, Row W L v ((encS crcL b).map encX) → (∀ k, L k → k < W.heap.size → k ≠ d) → Calls Try.prog 59 #[.pointer (some ⟨d, 0, none⟩), .int .i64 (b.epoch % 2), v] W (DPost W base d S1 (.int .i64 7))) : Calls Try.prog 14 #[.pointer (some ⟨d, 0, none⟩), blkV b] w (WPost w base d S1 (.int .i64 7)) := by
  have HD0 := Lib.hid h
  have HE := Lib.hid (fun W => encode_ok hg W)
  have HBYTE := Lib.hid (encS_byte crcL b)
  have hel := encS_len crcL hg.1.1.1
  have hnear := hg.1.near
  have HLEN : Hid (0 < (encS crcL b).length) := Lib.hid (by have := hnear.1.1; omega)
  have HLEN2 : Hid ((encS crcL b).length ≤ 1000000) := Lib.hid (by have := hnear.1.2; omega)
  have HF0 := Lib.hid (fun W (hW : Moves (fun _ => False) w W) => fits_any (h.moves0 hW) hnear)
  rw [hfit] at HF0
  have HSLOT0 := Lib.hid (fun W => slot_any b.epoch hwf.1 hwf.2.1 W)
  have HOFF := Lib.hid hoff
  have HST := Lib.hid hst
  have HW := Lib.hid hW
  clear h hfit hoff hst hnear hel hwf hg
  clear hW
  obtain ⟨ep, ⟨s, l, n⟩, sp, wd, lg⟩ := b
  dsimp only at HE HSLOT0 HF0
  have HF := HF0
  have HSLOT := HSLOT0
  clear HF0 HSLOT0
  have hm0 := (Moves.refl (fun _ => False) w).alloc (.cells (blkCells ⟨ep, ⟨s, l, n⟩, sp, wd, lg⟩) 32)
  have hb0 := heap_alloc_new w (.cells (blkCells ⟨ep, ⟨s, l, n⟩, sp, wd, lg⟩) 32)
  have hgl : w.heap.size < (w.alloc (.cells (blkCells ⟨ep, ⟨s, l, n⟩, sp, wd, lg⟩) 32)).heap.size := by simp
  have hdl : d < w.heap.size := HD0.out.lt
  go_enter Try.func14, Try.ntmps14
  go_wp2_with fail
  generalize w.alloc (.cells (blkCells ⟨ep, ⟨s, l, n⟩, sp, wd, lg⟩) 32) = W0 at hm0 hb0 hgl ⊢
  obtain ⟨gb, hgb⟩ : ∃ gb, gb = w.heap.size := ⟨_, rfl⟩
  rw [← hgb] at hb0 hgl ⊢
  clear hgb
  refine (HE.out W0).mono ?_
  rintro e w1 ⟨v', rfl, hnew⟩
  have hb1 := (hnew.2.block _ hgl (fun e => e)).trans hb0
  have hm1 := hm0.trans hnew.2
  obtain ⟨gv, cv, cur, rfl, hvb⟩ := hnew.form HLEN.out
  have hvr := (hnew.row HBYTE.out HLEN2.out).at
  obtain ⟨c0, c1, c2, c3, c4, c5, c6⟩ := cells7 hb1
  clear hb0 hgl hm0 hnew
  go_wp2_with fail
  refine (HF.out w1 hm1).mono ?_
  rintro e w2 ⟨rfl, hm2⟩
  have hb2 := (hm2.block _ (lt_of_block hb1) (fun e => e)).trans hb1
  have hvb2 := (hm2.block _ (lt_of_block hvb) (fun e => e)).trans hvb
  have hvr2 := hvr.moves hm2 (fun _ _ _ e => e)
  have hm02 := hm1.trans hm2
  clear c0 c1 c2 c3 c4 c5 c6 hm1 hm2 hb1 hvb hvr
  have hD2 := HD0.out.moves0 hm02
  have hv2 := DMv.of0 hm02 hdl
  go_wp2_with fail
  refine (Pl.sync_on hD2 HOFF.out).mono ?_
  rintro e w3 ⟨rfl, hd3, hm3, hk3⟩
  rw [HST.out] at hd3
  have hnd := apart' hD2 hb2 (by decide) (by decide)
  have hndv := apart' hD2 hvb2 (by decide) (by decide)
  have hb3 := (hm3.block _ (lt_of_block hb2) hnd).trans hb2
  have hvb3 := (hm3.block _ (lt_of_block hvb2) hndv).trans hvb2
  have hvr3 := hvr2.moves hm3 (fun i hi _ => by rw [hi]; exact hndv)
  obtain ⟨c0, c1, c2, c3, c4, c5, c6⟩ := cells7 hb3
  have hv3 := hv2.trans ⟨hm3, hk3⟩
  clear hb2 hvb2 hvr2 hnd hndv hm3 hk3 hm02 hb3 hv2 hD2
  go_wp2_with fail
  refine (HSLOT.out _).mono ?_
  rintro e w3' ⟨rfl, rfl⟩
  go_wp2_with fail
  have hap : ∀ k, k = gv → k < w3.heap.size → k ≠ d := fun k e _ e2 => (apart' hd3 hvb3 (by decide) (by decide)) (.inl (by rw [← e]; exact e2))
  refine (HW.out w3 _ hd3 hvr3.1 hap).mono ?_
  rintro e w4 ⟨rfl, hd4, hm4, hk4⟩
  have hv4 := hv3.trans ⟨hm4, hk4⟩
  clear c0 c1 c2 c3 c4 c5 c6 hvb3 hvr3 hap hm4 hk4 hv3 hd3
  go_wp2
  go_ret
  exact ⟨rfl, hd4, hv4⟩
set_option maxRecDepth 100000 in
set_option maxHeartbeats 4000000 in
theorem write_nofit {w : World} {base d : Nat} {S : DS} (h : IsDisk w base d S) {b : Blk} (hg : GoodB b) (hfit : fitsB S b.geom = false) : Calls Try.prog 14 #[.pointer (some ⟨d, 0, none⟩), blkV b] w (MovV w (.int .i64 1)) := by
  have HD0 := Lib.hid h
  have HE := Lib.hid (fun W => encode_ok hg W)
  have HBYTE := Lib.hid (encS_byte crcL b)
  have hel := encS_len crcL hg.1.1.1
  have hnear := hg.1.near
  have HLEN : Hid (0 < (encS crcL b).length) := Lib.hid (by have := hnear.1.1; omega)
  have HLEN2 : Hid ((encS crcL b).length ≤ 1000000) := Lib.hid (by have := hnear.1.2; omega)
  have HF := Lib.hid (fun W (hW : Moves (fun _ => False) w W) => fits_any (h.moves0 hW) hnear)
  rw [hfit] at HF
  clear h hfit hnear hel hg
  obtain ⟨ep, ⟨s, l, n⟩, sp, wd, lg⟩ := b
  dsimp only at HE HF
  have hm0 := (Moves.refl (fun _ => False) w).alloc (.cells (blkCells ⟨ep, ⟨s, l, n⟩, sp, wd, lg⟩) 32)
  have hb0 := heap_alloc_new w (.cells (blkCells ⟨ep, ⟨s, l, n⟩, sp, wd, lg⟩) 32)
  have hgl : w.heap.size < (w.alloc (.cells (blkCells ⟨ep, ⟨s, l, n⟩, sp, wd, lg⟩) 32)).heap.size := by simp
  have hdl : d < w.heap.size := HD0.out.lt
  go_enter Try.func14, Try.ntmps14
  go_wp2_with fail
  generalize w.alloc (.cells (blkCells ⟨ep, ⟨s, l, n⟩, sp, wd, lg⟩) 32) = W0 at hm0 hb0 hgl ⊢
  obtain ⟨gb, hgb⟩ : ∃ gb, gb = w.heap.size := ⟨_, rfl⟩
  rw [← hgb] at hb0 hgl ⊢
  clear hgb
  refine (HE.out W0).mono ?_
  rintro e w1 ⟨v', rfl, hnew⟩
  have hb1 := (hnew.2.block _ hgl (fun e => e)).trans hb0
  have hm1 := hm0.trans hnew.2
  obtain ⟨gv, cv, cur, rfl, hvb⟩ := hnew.form HLEN.out
  have hvr := (hnew.row HBYTE.out HLEN2.out).at
  obtain ⟨c0, c1, c2, c3, c4, c5, c6⟩ := cells7 hb1
  clear hb0 hgl hm0 hnew
  go_wp2_with fail
  refine (HF.out w1 hm1).mono ?_
  rintro e w2 ⟨rfl, hm2⟩
  have hb2 := (hm2.block _ (lt_of_block hb1) (fun e => e)).trans hb1
  have hvb2 := (hm2.block _ (lt_of_block hvb) (fun e => e)).trans hvb
  have hvr2 := hvr.moves hm2 (fun _ _ _ e => e)
  have hm02 := hm1.trans hm2
  clear c0 c1 c2 c3 c4 c5 c6 hm1 hm2 hb1 hvb hvr
  go_wp2
  go_ret
  exact ⟨rfl, hm02⟩
set_option maxRecDepth 100000 in
set_option maxHeartbeats 4000000 in
theorem write_noform {w : World} {base d : Nat} {S : DS} (h : IsDisk w base d S) {b : Blk} (hg : ¬ GoodB b) : Calls Try.prog 14 #[.pointer (some ⟨d, 0, none⟩), blkV b] w (MovV w (.int .i64 1)) := by
  have HD0 := Lib.hid h
  have HE := Lib.hid (fun W => encode_bad hg W)
  clear h hg
  obtain ⟨ep, ⟨s, l, n⟩, sp, wd, lg⟩ := b
  have hm0 := (Moves.refl (fun _ => False) w).alloc (.cells (blkCells ⟨ep, ⟨s, l, n⟩, sp, wd, lg⟩) 32)
  have hb0 := heap_alloc_new w (.cells (blkCells ⟨ep, ⟨s, l, n⟩, sp, wd, lg⟩) 32)
  have hgl : w.heap.size < (w.alloc (.cells (blkCells ⟨ep, ⟨s, l, n⟩, sp, wd, lg⟩) 32)).heap.size := by simp
  have hdl : d < w.heap.size := HD0.out.lt
  go_enter Try.func14, Try.ntmps14
  go_wp2_with fail
  generalize w.alloc (.cells (blkCells ⟨ep, ⟨s, l, n⟩, sp, wd, lg⟩) 32) = W0 at hm0 hb0 hgl ⊢
  obtain ⟨gb, hgb⟩ : ∃ gb, gb = w.heap.size := ⟨_, rfl⟩
  rw [← hgb] at hb0 hgl ⊢
  clear hgb
  refine (HE.out W0).mono ?_
  rintro e w1 ⟨rfl, hm1⟩
  go_wp2
  go_ret
  exact ⟨rfl, hm0.trans hm1⟩
end Go.Proofs.Ytnagpianaghjeaa.Sl
