/-
  loamlaw7.known.
-/
import Derived.Test.YtnagpianaghjeaaSlotsTwo
namespace Go.Proofs.Ytnagpianaghjeaa.Sl
open Go Go.RowKit Go.Proofs
open Pl (DS IsDisk DOwn DPost DMv DKeep)

theorem known_end {w : World} {base d : Nat} {K : List (List Int)} {wr : Int} (hD : IsDisk w base d (dk K wr)) (h : Two K 5 3 (some 0)) :
    Calls Try.prog 15 #[.pointer (some ⟨d, 0, none⟩)] w (fun e' w' => e' = .returned (.tuple #[bkV 5 3, .int .i64 0]) ∧ Moves (fun _ => False) w w') ∧ Calls Try.prog 16 #[.pointer (some ⟨d, 0, none⟩)] w (fun e' w' => e' = .returned (.tuple #[.agg #[.int .u64 4, .int .i64 64, .int .i64 8, .int .i64 64, .int .i64 0, .int .i64 0, .int .u64 0, .int .u64 5, .int .i64 64, .int .i64 8, .int .i64 64, .int .i64 0, .int .i64 3, .int .u64 0], .agg #[.bool true, .bool true], .int .i64 0]) ∧ Moves (fun _ => False) w w') := by
  have hc := Two.calls hD h
  refine ⟨hc.1.mono fun _ _ q => ⟨q.1, q.2⟩, ?_⟩
  have e0 : pair0 5 3 (some 0) = some (bk 4 0) := if_neg (by decide)
  have e1 : pair1 5 3 (some 0) = some (bk 5 3) := if_neg (by decide)
  rw [e0, e1] at hc
  exact hc.2.mono fun _ _ q => ⟨q.1, q.2⟩
set_option maxRecDepth 100000 in
set_option maxHeartbeats 4000000 in
theorem known_any (w : World) : Calls Try.prog 12 #[] w (TrueP w) := by
  have HF := Lib.hid (fun W => fresh_ok fresh0 W)
  have hm0 := (Moves.refl (fun _ => False) w).alloc (.cells #[.int .i64 64, .int .i64 8, .int .i64 64] 25)
  have hb0 := heap_alloc_new w (.cells #[.int .i64 64, .int .i64 8, .int .i64 64] 25)
  go_enter Try.func12, Try.ntmps12
  go_wp2_with fail
  generalize w.alloc (.cells #[.int .i64 64, .int .i64 8, .int .i64 64] 25) = W0 at hm0 hb0 ⊢
  generalize w.heap.size = gb at hb0 ⊢
  refine (HF.out W0).mono ?_
  rintro e w1 ⟨d, rfl, hd1, hm1⟩
  rw [secs0, size0] at hd1
  have hd1 : IsDisk w1 W0.heap.size d (dk K0 0) := hd1
  have hgl := lt_of_block hb0
  have HB : Hid (∀ W, Moves (fun _ => False) W0 W → W.cell? ⟨gb, 0, none⟩ = some (.int .i64 64) ∧ W.cell? ⟨gb, 1, none⟩ = some (.int .i64 8) ∧ W.cell? ⟨gb, 2, none⟩ = some (.int .i64 64)) := Lib.hid fun W hW => cells3 ((hW.block _ hgl (fun e => e)).trans hb0)
  have HM0 := Lib.hid hm0
  clear hm0 hb0
  go_wp2_with fail
  refine (readK_none hd1 K0_len rfl rfl).mono ?_
  rintro e w2 ⟨rfl, hm2⟩
  have hm2' := hm2.alloc (.cells #[.int .u64 0, .int .i64 0, .int .i64 0, .int .i64 0, .int .i64 0, .int .i64 0, .int .u64 0] 32)
  have hd2 := hd1.moves0 hm2'
  have HM2 := Lib.hid (hm1.trans hm2')
  obtain ⟨c0, c1, c2⟩ := HB.out _ HM2.out
  clear hd1 hm1 hm2 hm2'
  go_wp2_with fail
  refine (putK0 hd2 K0_len (e := 4) (n := 0) (by omega) (by omega) (by omega) (by omega) ⟨by omega, by omega⟩).mono ?_
  rintro e w3 ⟨rfl, hd3, hv3⟩
  have HM3 := Lib.hid (under hd2 HM2.out (Nat.le_refl _) hv3)
  clear c0 c1 c2 hd2 HM2 hv3
  obtain ⟨c0, c1, c2⟩ := HB.out _ HM3.out
  have k1 : Two (putK K0 (bk 4 0)) 4 0 none := Two.first ⟨by omega, by omega⟩ ⟨by omega, by omega⟩
  generalize putK K0 (bk 4 0) = K1 at hd3 k1
  go_wp2_with fail
  refine (putK0 hd3 k1.len (e := 5) (n := 3) (by omega) (by omega) (by omega) (by omega) ⟨by omega, by omega⟩).mono ?_
  rintro e w4 ⟨rfl, hd4, hv4⟩
  have HM4 := Lib.hid (under hd3 HM3.out (Nat.le_refl _) hv4)
  have k2 : Two (putK K1 (bk 5 3)) 5 3 (some 0) := k1.next (by omega) ⟨by omega, by omega⟩
  generalize putK K1 (bk 5 3) = K2 at hd4 k2
  have HRd := Lib.hid (fun W (hW : Moves (fun _ => False) w4 W) => (known_end (hd4.moves0 hW) k2).1)
  have HBt := Lib.hid (fun W (hW : Moves (fun _ => False) w4 W) => (known_end (hd4.moves0 hW) k2).2)
  have HPd : Hid (∀ W, Moves (fun _ => False) w4 W → Calls Try.prog 51 #[.pointer (some ⟨d, 0, none⟩)] W (SameV W (.int .i64 0))) := Lib.hid (fun W hW => (Pl.pending_any (hd4.moves0 hW)).mono fun _ _ q => ⟨q.1, q.2⟩)
  clear c0 c1 c2 hd3 HM3 hv4 hd4 k1 k2
  go_wp2_with fail
  refine (HRd.out _ (Moves.refl _ _)).mono ?_
  rintro e w5 ⟨rfl, hm5⟩
  go_wp2_with fail
  have hm5' := hm5.alloc (.cells #[.int .u64 5, .int .i64 64, .int .i64 8, .int .i64 64, .int .i64 0, .int .i64 3, .int .u64 0] 32)
  have hb5 := heap_alloc_new w5 (.cells #[.int .u64 5, .int .i64 64, .int .i64 8, .int .i64 64, .int .i64 0, .int .i64 3, .int .u64 0] 32)
  generalize w5.alloc (.cells #[.int .u64 5, .int .i64 64, .int .i64 8, .int .i64 64, .int .i64 0, .int .i64 3, .int .u64 0] 32) = W5 at hm5' hb5 ⊢
  refine (HBt.out _ hm5').mono ?_
  rintro e w6 ⟨rfl, hm6⟩
  obtain ⟨y0, -, -, -, -, y5, -⟩ := cells7 ((hm6.block _ (lt_of_block hb5) (fun e => e)).trans hb5)
  have hz := lt_of_block ((hm6.block _ (lt_of_block hb5) (fun e => e)).trans hb5)
  have HM6 := Lib.hid (hm5'.trans hm6)
  have HM06 := Lib.hid (HM4.out.trans HM6.out)
  clear hm5' hm6 hb5
  go_wp2_with (first
    | (go_at_call 51
       refine (HPd.out _ ((HM6.out.alloc _).alloc _)).mono ?_
       rintro e w7 ⟨rfl, rfl⟩)
    | fail)
  go_ret
  exact ⟨rfl, HM0.out.trans ((HM06.out.alloc _).alloc _)⟩
end Go.Proofs.Ytnagpianaghjeaa.Sl
