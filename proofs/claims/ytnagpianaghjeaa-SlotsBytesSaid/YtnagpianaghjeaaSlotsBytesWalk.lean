/-
  Two blocks compared.
  SlotsBytes: two sectors at least.
-/
import Derived.Test.YtnagpianaghjeaaFields
import Derived.Laws.StructEq
import Derived.Test.YtnagpianaghjeaaSlotsBytesHead
import Derived.Test.YtnagpianaghjeaaOf6
import Derived.Deep.RegionHeld3
import Derived.BigQuiet
import Derived.Lib.SmallJoins
import Derived.Deep.QuietTactic
namespace Go.Proofs.Ytnagpianaghjeaa.Sl
open Go Go.RowKit Go.Proofs

set_option maxRecDepth 100000 in
set_option maxHeartbeats 1000000 in
theorem eql_blk (a b : Blk) (w : World) : (binOp .eql 49 (blkV a) (blkV b)).run Try.prog w = .ok (.bool (decide (a = b))) w := by
  rw [run_eql_struct]
  go_simp
  by_cases h : a = b
  · subst h
    simp
  · rw [decide_eq_false h]
    obtain ⟨a0, ⟨a1, a2, a3⟩, a4, a5, a6⟩ := a
    obtain ⟨b0, ⟨b1, b2, b3⟩, b4, b5, b6⟩ := b
    repeat' split
    all_goals first | rfl | (exfalso; apply h; simp_all)
end Go.Proofs.Ytnagpianaghjeaa.Sl
namespace Go.Proofs.Ytnagpianaghjeaa.Sl
open Go Go.RowKit Go.Proofs
open Pl (DS IsDisk)
theorem cellAt {w : World} {g : Nat} {cs : Array Value} {t : TypeId} (h : w.heap[g]? = some (.cells cs t (0, 0))) (j : Nat) {v : Value} (hj : cs[j]? = some v) : w.cell? ⟨g, j, none⟩ = some v := by
  simp only [World.cell?, h, Option.isSome_none, Bool.false_eq_true, if_false]
  exact hj
set_option maxRecDepth 100000 in
set_option maxHeartbeats 4000000 in
theorem bytes_go {w : World} {L L' : Nat → Prop} {v u : Value} {a b : List Int} {y k N : Nat} (ha : BRow w L v a) (hb : BRow w L' u b) (hal : a.length = y) (hbl : b.length = y) (hy : 64 ≤ y ∧ y ≤ 256) (hk : 1 ≤ k ∧ k ≤ 300) (hN : y * k = N) (h2 : ¬ k < 2) {r0 r1 : Option Blk} (hr0 : rightR y k 0 a = r0) (hr1 : rightR y k 1 b = r1) {p0 p1 p2 p3 p4 p5 p6 t0 t1 t2 t3 t4 t5 t6 x0 x1 x2 x3 x4 x5 x6 gv : Int} {o0 o1 : Bool} (hP : orZ r0 = ⟨p0, ⟨p1, p2, p3⟩, p4, p5, p6⟩) (hQ : orZ r1 = ⟨t0, ⟨t1, t2, t3⟩, t4, t5, t6⟩) (hX : orZ (pickB r0 r1) = ⟨x0, ⟨x1, x2, x3⟩, x4, x5, x6⟩) (ho0 : isB r0 = o0) (ho1 : isB r1 = o1) (hgv : (if (pickB r0 r1).isSome then (0 : Int) else 2) = gv)
    (s1 : o0 = true → (o1 = false ∨ t0 < p0) → (p0 = x0 ∧ p1 = x1 ∧ p2 = x2 ∧ p3 = x3 ∧ p4 = x4 ∧ p5 = x5 ∧ p6 = x6) ∧ gv = 0) (s2 : o1 = true → ¬ (o0 = true ∧ t0 < p0) → (t0 = x0 ∧ t1 = x1 ∧ t2 = x2 ∧ t3 = x3 ∧ t4 = x4 ∧ t5 = x5 ∧ t6 = x6) ∧ gv = 0) (s3 : o0 = false → o1 = false → gv = 2) : Calls Try.prog 6 #[v, u, .int .i64 y, .int .i64 k] w (TrueP w) := by
  have S1 := Lib.hid s1
  have S2 := Lib.hid s2
  have S3 := Lib.hid s3
  have HK2 := Lib.hid h2
  have HR0a := Lib.hid hr0
  have HR1a := Lib.hid hr1
  have HP := Lib.hid hP
  have HQ := Lib.hid hQ
  have HX := Lib.hid hX
  have HO0 := Lib.hid ho0
  have HO1 := Lib.hid ho1
  have HGV := Lib.hid hgv
  have HB0a := Lib.hid ha.2.1
  have HB1a := Lib.hid hb.2.1
  clear s1 s2 s3 h2 hr0 hr1 hP hQ hX ho0 ho1 hgv
  have HKN := Lib.hid (fun W => known_any W)
  obtain ⟨rA, bA, lA⟩ := ha
  obtain ⟨rB, bB, lB⟩ := hb
  have HA : Hid (BRow w L v a) := Lib.hid ⟨rA, bA, lA⟩
  have HB : Hid (BRow w L' u b) := Lib.hid ⟨rB, bB, lB⟩
  obtain ⟨A, ca, rfl, -, -⟩ := rA
  obtain ⟨B, cb, rfl, -, -⟩ := rB
  rw [List.length_map] at HA HB ⊢
  rw [List.length_map, hal, hbl]
  rw [hal] at HA
  rw [hbl] at HB
  have HAL := Lib.hid hal
  have HBL := Lib.hid hbl
  have HN := Lib.hid hN
  have hw : IntKind.i64.wrap ((y : Int) * (k : Int)) = (N : Int) := by rw [← hN, Int.natCast_mul]; exact IntWalk.i64_in _ (by have : y * k ≤ 256 * 300 := Nat.mul_le_mul hy.2 hk.2; have e : ((y * k : Nat) : Int) = (y : Int) * k := Int.natCast_mul _ _; omega)
  have hNy : y ≤ N := by have : y * 1 ≤ y * k := Nat.mul_le_mul_left y hk.1; omega
  have hNb : N ≤ 76800 := by have : y * k ≤ 256 * 300 := Nat.mul_le_mul hy.2 hk.2; omega
  have q1 : ¬ (y : Int) < 64 := by omega
  have q2 : ¬ 256 < (y : Int) := by omega
  have q3 : ¬ (k : Int) < 1 := by omega
  have q4 : ¬ 300 < (k : Int) := by omega
  have q5 : ((y : Int) != (y : Int)) = false := by simp
  have HHY := Lib.hid hy
  have HHK := Lib.hid hk
  clear hN hal hbl bA bB lA lB
  go_enter Try.func6, Try.ntmps6
  go_wp2_with fail
  refine (HKN.out _).mono ?_
  rintro e w0 ⟨rfl, hm0⟩
  have HM0 := Lib.hid hm0
  have HA0 := Lib.hid (HA.out.moves hm0 (fun _ _ _ e => e))
  have HB0 := Lib.hid (HB.out.moves hm0 (fun _ _ _ e => e))
  clear hm0
  go_wp2_with (first
    | (refine wpList_appB (w0 := w0) (bs := []) (ys := a) rfl (.tmp 49) (.tmp 50) rfl (by rfl) (by rfl) (own_of_block (bs := []) rfl (heap_alloc_new w0 _) (Nat.le_refl _) (by decide)) (HA0.out.moves ((Moves.refl (fun _ => False) w0).alloc _) (fun _ _ _ e => e)) ((Moves.refl _ w0).alloc _) ?_ ?_
       focus (show 0 + a.length ≤ _; rw [HAL.out]; omega)
       intro v1 w1 h1
       rw [List.nil_append] at h1
       have H1 := Lib.hid h1
       clear h1)
    | (refine wpList_appB (w0 := w0) (bs := a) (ys := b) rfl (.tmp 51) (.tmp 52) rfl (by rfl) (by rfl) H1.out.ob (HB0.out.moves H1.out.mv (fun _ _ _ e => e)) H1.out.mv ?_ ?_
       focus (rw [HAL.out, HBL.out]; omega)
       intro v2 w2 h2
       have H2 := Lib.hid h2
       clear h2)
    | (refine wpList_appZ (w0 := w0) (bs := a ++ b) (m := N) rfl (.tmp 54) (.tmp 57) rfl (by rfl) (by first | rfl | (show Value.int .i64 _ = _; rw [hw])) H2.out.ob H2.out.mv ?_ ?_ ?_ ?_
       focus omega
       focus (rw [List.length_append, HAL.out]; omega)
       focus (rw [List.length_append, HAL.out, HBL.out]; omega)
       intro v3 w3 h3
       have H3m := Lib.hid h3.mv
       obtain ⟨g, c, rfl, hc, hgl, hgc⟩ := all_form h3 HAL.out HBL.out (by omega)
       have HOF := Lib.hid (Pl.of_ok (w := w3) (g := g) (o := 0) (c := c) (k := k) (z := y) (N := N) (xs := allB a b N) (by rw [← HN.out, Nat.mul_comm]) allB_len HHK.out ⟨HHY.out.1, by omega⟩ (by omega) (by omega) hgl hgc)
       clear h3 hgl hgc)
    | fail)
  refine HOF.out.mono ?_
  rintro e w4 ⟨d, rfl, hd, hm4⟩
  have hd : IsDisk w4 w3.heap.size d (dkB a b y k N) := hd
  have HM4 := Lib.hid ((HM0.out.trans H3m.out).trans hm4)
  have hK2 : 2 ≤ (dkB a b y k N).kept.length := by rw [dkB_len]; have := HK2.out; omega
  have hT := dkB_two HAL.out HBL.out HN.out (by have := HK2.out; omega)
  have e0 : rightS (dkB a b y k N) 0 a = r0 := (right_same (z := y) (n := k) rfl (by rw [dkB_len]) 0 a).trans HR0a.out
  have e1 : rightS (dkB a b y k N) 1 b = r1 := (right_same (z := y) (n := k) rfl (by rw [dkB_len]) 1 b).trans HR1a.out
  have hz : 64 ≤ (dkB a b y k N).size ∧ (dkB a b y k N).size ≤ 1024 := ⟨HHY.out.1, by have := HHY.out.2; show y ≤ 1024; omega⟩
  have HBT : Hid (∀ W, Moves (fun _ => False) w4 W → Calls Try.prog 16 #[.pointer (some ⟨d, 0, none⟩)] W (fun e w' => e = .returned (.tuple #[.agg #[.int .u64 p0, .int .i64 p1, .int .i64 p2, .int .i64 p3, .int .i64 p4, .int .i64 p5, .int .u64 p6, .int .u64 t0, .int .i64 t1, .int .i64 t2, .int .i64 t3, .int .i64 t4, .int .i64 t5, .int .u64 t6], .agg #[.bool o0, .bool o1], .int .i64 0]) ∧ Moves (fun _ => False) W w')) := Lib.hid (fun W hW => by
    have h := both_ok (hd.moves0 hW) rfl hK2 hz hT.1 hT.2 HB0a.out HB1a.out HAL.out HBL.out
    rw [e0, e1] at h
    refine h.mono fun e w' q => ⟨q.1.trans ?_, q.2⟩
    rw [pairV, onV, HP.out, HQ.out, HO0.out, HO1.out])
  have HRD : Hid (∀ W, Moves (fun _ => False) w4 W → Calls Try.prog 15 #[.pointer (some ⟨d, 0, none⟩)] W (fun e w' => e = .returned (.tuple #[(.agg #[.int .u64 x0, .int .i64 x1, .int .i64 x2, .int .i64 x3, .int .i64 x4, .int .i64 x5, .int .u64 x6]), .int .i64 gv]) ∧ Moves (fun _ => False) W w')) := Lib.hid (fun W hW => by
    have h := read_any (hd.moves0 hW) rfl hK2 hz hT.1 hT.2 HB0a.out HB1a.out HAL.out HBL.out
    rw [e0, e1] at h
    refine h.mono fun e w' q => ⟨q.1.trans ?_, q.2⟩
    rw [HX.out, HGV.out])
  have HR0 : Hid (∀ W, Moves (fun _ => False) w W → Calls Try.prog 26 #[.slice A y ca, .int .i64 0, .int .i64 y, .int .i64 k] W (fun e w' => e = .returned (.tuple #[(.agg #[.int .u64 p0, .int .i64 p1, .int .i64 p2, .int .i64 p3, .int .i64 p4, .int .i64 p5, .int .u64 p6]), .bool o0]) ∧ Moves (fun _ => False) W w')) := Lib.hid (fun W hW => by
    have h := right_any (HA.out.moves hW (fun _ _ _ e => e)) (by rw [HAL.out]; exact HHY.out.1) 0 y k
    rw [HR0a.out] at h
    refine h.mono fun e w' q => ⟨q.1.trans ?_, q.2⟩
    rw [HP.out, HO0.out])
  have HR1 : Hid (∀ W, Moves (fun _ => False) w W → Calls Try.prog 26 #[.slice B y cb, .int .i64 1, .int .i64 y, .int .i64 k] W (fun e w' => e = .returned (.tuple #[(.agg #[.int .u64 t0, .int .i64 t1, .int .i64 t2, .int .i64 t3, .int .i64 t4, .int .i64 t5, .int .u64 t6]), .bool o1]) ∧ Moves (fun _ => False) W w')) := Lib.hid (fun W hW => by
    have h := right_any (HB.out.moves hW (fun _ _ _ e => e)) (by rw [HBL.out]; exact HHY.out.1) 1 y k
    rw [HR1a.out] at h
    refine h.mono fun e w' q => ⟨q.1.trans ?_, q.2⟩
    rw [HQ.out, HO1.out])
  have HOP : Hid (∀ W, Calls Try.prog 23 #[(.agg #[.int .u64 p0, .int .i64 p1, .int .i64 p2, .int .i64 p3, .int .i64 p4, .int .i64 p5, .int .u64 p6])] W (MovV W (.agg #[.int .u64 p0, .int .i64 p1, .int .i64 p2, .int .i64 p3, .int .i64 p4, .int .i64 p5, .int .u64 p6]))) := Lib.hid (fun W => of6_any ⟨p0, ⟨p1, p2, p3⟩, p4, p5, p6⟩ W)
  have HOQ : Hid (∀ W, Calls Try.prog 23 #[(.agg #[.int .u64 t0, .int .i64 t1, .int .i64 t2, .int .i64 t3, .int .i64 t4, .int .i64 t5, .int .u64 t6])] W (MovV W (.agg #[.int .u64 t0, .int .i64 t1, .int .i64 t2, .int .i64 t3, .int .i64 t4, .int .i64 t5, .int .u64 t6]))) := Lib.hid (fun W => of6_any ⟨t0, ⟨t1, t2, t3⟩, t4, t5, t6⟩ W)
  have q6 : ¬ (k : Int) < 2 := by have := HK2.out; omega
  clear hd hm4 hK2 hT e0 e1 hz
  go_wp2_with fail
  refine (HBT.out w4 (Moves.refl _ _)).mono ?_
  rintro e w5 ⟨rfl, hm5⟩
  have M5 := Lib.hid ((hm5.alloc (.cells #[.int .u64 p0, .int .i64 p1, .int .i64 p2, .int .i64 p3, .int .i64 p4, .int .i64 p5, .int .u64 p6, .int .u64 t0, .int .i64 t1, .int .i64 t2, .int .i64 t3, .int .i64 t4, .int .i64 t5, .int .u64 t6] 35)).alloc (.cells #[.bool o0, .bool o1] 36))
  have L5 : Hid (((w5.alloc (.cells #[.int .u64 p0, .int .i64 p1, .int .i64 p2, .int .i64 p3, .int .i64 p4, .int .i64 p5, .int .u64 p6, .int .u64 t0, .int .i64 t1, .int .i64 t2, .int .i64 t3, .int .i64 t4, .int .i64 t5, .int .u64 t6] 35)).alloc (.cells #[.bool o0, .bool o1] 36)).heap[w5.heap.size]? = some (.cells #[.int .u64 p0, .int .i64 p1, .int .i64 p2, .int .i64 p3, .int .i64 p4, .int .i64 p5, .int .u64 p6, .int .u64 t0, .int .i64 t1, .int .i64 t2, .int .i64 t3, .int .i64 t4, .int .i64 t5, .int .u64 t6] 35 (0, 0))) := Lib.hid ((Below.heap_alloc _ _ _ (by simp)).trans (alloc_at rfl))
  have O5 : Hid (((w5.alloc (.cells #[.int .u64 p0, .int .i64 p1, .int .i64 p2, .int .i64 p3, .int .i64 p4, .int .i64 p5, .int .u64 p6, .int .u64 t0, .int .i64 t1, .int .i64 t2, .int .i64 t3, .int .i64 t4, .int .i64 t5, .int .u64 t6] 35)).alloc (.cells #[.bool o0, .bool o1] 36)).heap[w5.heap.size + 1]? = some (.cells #[.bool o0, .bool o1] 36 (0, 0))) := Lib.hid (alloc_at (by simp))
  clear hm5
  go_wp2_with fail
  generalize (w5.alloc (.cells #[.int .u64 p0, .int .i64 p1, .int .i64 p2, .int .i64 p3, .int .i64 p4, .int .i64 p5, .int .u64 p6, .int .u64 t0, .int .i64 t1, .int .i64 t2, .int .i64 t3, .int .i64 t4, .int .i64 t5, .int .u64 t6] 35)).alloc (.cells #[.bool o0, .bool o1] 36) = W5 at M5 L5 O5 ⊢
  generalize w5.heap.size = gl at L5 O5 ⊢
  refine (HRD.out W5 M5.out).mono ?_
  rintro e w6 ⟨rfl, hm6⟩
  have M6 := Lib.hid ((M5.out.trans hm6).alloc (.cells #[.int .u64 x0, .int .i64 x1, .int .i64 x2, .int .i64 x3, .int .i64 x4, .int .i64 x5, .int .u64 x6] 32))
  have L6 := Lib.hid (((hm6.alloc (.cells #[.int .u64 x0, .int .i64 x1, .int .i64 x2, .int .i64 x3, .int .i64 x4, .int .i64 x5, .int .u64 x6] 32)).block _ (lt_of_block L5.out) (fun e => e)).trans L5.out)
  have O6 := Lib.hid (((hm6.alloc (.cells #[.int .u64 x0, .int .i64 x1, .int .i64 x2, .int .i64 x3, .int .i64 x4, .int .i64 x5, .int .u64 x6] 32)).block _ (lt_of_block O5.out) (fun e => e)).trans O5.out)
  have X6 := Lib.hid (heap_alloc_new w6 (.cells #[.int .u64 x0, .int .i64 x1, .int .i64 x2, .int .i64 x3, .int .i64 x4, .int .i64 x5, .int .u64 x6] 32))
  clear hm6
  go_wp2_with fail
  generalize w6.alloc (.cells #[.int .u64 x0, .int .i64 x1, .int .i64 x2, .int .i64 x3, .int .i64 x4, .int .i64 x5, .int .u64 x6] 32) = W6 at M6 L6 O6 X6 ⊢
  generalize w6.heap.size = gx at X6 ⊢
  refine (HR0.out W6 (HM4.out.trans M6.out)).mono ?_
  rintro e w7 ⟨rfl, hm7⟩
  have M7 := Lib.hid ((M6.out.trans hm7).alloc (.cells #[.int .u64 p0, .int .i64 p1, .int .i64 p2, .int .i64 p3, .int .i64 p4, .int .i64 p5, .int .u64 p6] 49))
  have L7 := Lib.hid (((hm7.alloc (.cells #[.int .u64 p0, .int .i64 p1, .int .i64 p2, .int .i64 p3, .int .i64 p4, .int .i64 p5, .int .u64 p6] 49)).block _ (lt_of_block L6.out) (fun e => e)).trans L6.out)
  have O7 := Lib.hid (((hm7.alloc (.cells #[.int .u64 p0, .int .i64 p1, .int .i64 p2, .int .i64 p3, .int .i64 p4, .int .i64 p5, .int .u64 p6] 49)).block _ (lt_of_block O6.out) (fun e => e)).trans O6.out)
  have X7 := Lib.hid (((hm7.alloc (.cells #[.int .u64 p0, .int .i64 p1, .int .i64 p2, .int .i64 p3, .int .i64 p4, .int .i64 p5, .int .u64 p6] 49)).block _ (lt_of_block X6.out) (fun e => e)).trans X6.out)
  have P7 := Lib.hid (heap_alloc_new w7 (.cells #[.int .u64 p0, .int .i64 p1, .int .i64 p2, .int .i64 p3, .int .i64 p4, .int .i64 p5, .int .u64 p6] 49))
  clear hm7
  go_wp2_with fail
  generalize w7.alloc (.cells #[.int .u64 p0, .int .i64 p1, .int .i64 p2, .int .i64 p3, .int .i64 p4, .int .i64 p5, .int .u64 p6] 49) = W7 at M7 L7 O7 X7 P7 ⊢
  generalize w7.heap.size = gp at P7 ⊢
  refine (HR1.out W7 (HM4.out.trans M7.out)).mono ?_
  rintro e w8 ⟨rfl, hm8⟩
  have M8 := Lib.hid ((M7.out.trans hm8).alloc (.cells #[.int .u64 t0, .int .i64 t1, .int .i64 t2, .int .i64 t3, .int .i64 t4, .int .i64 t5, .int .u64 t6] 49))
  have L8 := Lib.hid (((hm8.alloc (.cells #[.int .u64 t0, .int .i64 t1, .int .i64 t2, .int .i64 t3, .int .i64 t4, .int .i64 t5, .int .u64 t6] 49)).block _ (lt_of_block L7.out) (fun e => e)).trans L7.out)
  have O8 := Lib.hid (((hm8.alloc (.cells #[.int .u64 t0, .int .i64 t1, .int .i64 t2, .int .i64 t3, .int .i64 t4, .int .i64 t5, .int .u64 t6] 49)).block _ (lt_of_block O7.out) (fun e => e)).trans O7.out)
  have X8 := Lib.hid (((hm8.alloc (.cells #[.int .u64 t0, .int .i64 t1, .int .i64 t2, .int .i64 t3, .int .i64 t4, .int .i64 t5, .int .u64 t6] 49)).block _ (lt_of_block X7.out) (fun e => e)).trans X7.out)
  have P8 := Lib.hid (((hm8.alloc (.cells #[.int .u64 t0, .int .i64 t1, .int .i64 t2, .int .i64 t3, .int .i64 t4, .int .i64 t5, .int .u64 t6] 49)).block _ (lt_of_block P7.out) (fun e => e)).trans P7.out)
  have Q8 := Lib.hid (heap_alloc_new w8 (.cells #[.int .u64 t0, .int .i64 t1, .int .i64 t2, .int .i64 t3, .int .i64 t4, .int .i64 t5, .int .u64 t6] 49))
  clear hm8
  go_upto_region 16 with (fail)
  generalize w8.alloc (.cells #[.int .u64 t0, .int .i64 t1, .int .i64 t2, .int .i64 t3, .int .i64 t4, .int .i64 t5, .int .u64 t6] 49) = W8 at M8 L8 O8 X8 P8 Q8 ⊢
  generalize w8.heap.size = gq at Q8 ⊢
  have M := Lib.hid (HM4.out.trans M8.out)
  clear M5 M6 M7 M8 L5 L6 L7 O5 O6 O7 X6 X7 P7 HBT HRD HR0 HR1 HA HB HA0 HB0 HKN HOF H1 H2 H3m HM4 HM0 HAL HBL HN HP HQ HX HO0 HO1 HGV HR0a HR1a HB0a HB1a hw hNy hNb q1 q2 q3 q4 q5 q6
  cases o0 with
  | false =>
    cases o1 with
    | false =>
      obtain rfl : gv = 2 := S3.out rfl rfl
      have c0 : W8.cell? ⟨gl + 1, 0, none⟩ = some (.bool false) := cellAt O8.out 0 rfl
      have c1 : W8.cell? ⟨gl + 1, 1, none⟩ = some (.bool false) := cellAt O8.out 1 rfl
      go_wp2_with fail
      go_quiet (fail)
      go_wp2
      go_ret
      exact ⟨rfl, M.out.drewN _⟩
    | true =>
      obtain ⟨⟨rfl, rfl, rfl, rfl, rfl, rfl, rfl⟩, rfl⟩ := S2.out rfl (fun h => by cases h.1)
      have c0 : W8.cell? ⟨gl + 1, 0, none⟩ = some (.bool false) := cellAt O8.out 0 rfl
      have c1 : W8.cell? ⟨gl + 1, 1, none⟩ = some (.bool true) := cellAt O8.out 1 rfl
      have c2 : W8.cell? ⟨gl, 0, none⟩ = some (.int .u64 p0) := cellAt L8.out 0 rfl
      have c3 : W8.cell? ⟨gl, 1, none⟩ = some (.int .i64 p1) := cellAt L8.out 1 rfl
      have c4 : W8.cell? ⟨gl, 2, none⟩ = some (.int .i64 p2) := cellAt L8.out 2 rfl
      have c5 : W8.cell? ⟨gl, 3, none⟩ = some (.int .i64 p3) := cellAt L8.out 3 rfl
      have c6 : W8.cell? ⟨gl, 4, none⟩ = some (.int .i64 p4) := cellAt L8.out 4 rfl
      have c7 : W8.cell? ⟨gl, 5, none⟩ = some (.int .i64 p5) := cellAt L8.out 5 rfl
      have c8 : W8.cell? ⟨gl, 6, none⟩ = some (.int .u64 p6) := cellAt L8.out 6 rfl
      have c9 : W8.cell? ⟨gp, 0, none⟩ = some (.int .u64 p0) := cellAt P8.out 0 rfl
      have c10 : W8.cell? ⟨gp, 1, none⟩ = some (.int .i64 p1) := cellAt P8.out 1 rfl
      have c11 : W8.cell? ⟨gp, 2, none⟩ = some (.int .i64 p2) := cellAt P8.out 2 rfl
      have c12 : W8.cell? ⟨gp, 3, none⟩ = some (.int .i64 p3) := cellAt P8.out 3 rfl
      have c13 : W8.cell? ⟨gp, 4, none⟩ = some (.int .i64 p4) := cellAt P8.out 4 rfl
      have c14 : W8.cell? ⟨gp, 5, none⟩ = some (.int .i64 p5) := cellAt P8.out 5 rfl
      have c15 : W8.cell? ⟨gp, 6, none⟩ = some (.int .u64 p6) := cellAt P8.out 6 rfl
      have c16 : W8.cell? ⟨gl, 7, none⟩ = some (.int .u64 t0) := cellAt L8.out 7 rfl
      have c17 : W8.cell? ⟨gl, 8, none⟩ = some (.int .i64 t1) := cellAt L8.out 8 rfl
      have c18 : W8.cell? ⟨gl, 9, none⟩ = some (.int .i64 t2) := cellAt L8.out 9 rfl
      have c19 : W8.cell? ⟨gl, 10, none⟩ = some (.int .i64 t3) := cellAt L8.out 10 rfl
      have c20 : W8.cell? ⟨gl, 11, none⟩ = some (.int .i64 t4) := cellAt L8.out 11 rfl
      have c21 : W8.cell? ⟨gl, 12, none⟩ = some (.int .i64 t5) := cellAt L8.out 12 rfl
      have c22 : W8.cell? ⟨gl, 13, none⟩ = some (.int .u64 t6) := cellAt L8.out 13 rfl
      have c23 : W8.cell? ⟨gq, 0, none⟩ = some (.int .u64 t0) := cellAt Q8.out 0 rfl
      have c24 : W8.cell? ⟨gq, 1, none⟩ = some (.int .i64 t1) := cellAt Q8.out 1 rfl
      have c25 : W8.cell? ⟨gq, 2, none⟩ = some (.int .i64 t2) := cellAt Q8.out 2 rfl
      have c26 : W8.cell? ⟨gq, 3, none⟩ = some (.int .i64 t3) := cellAt Q8.out 3 rfl
      have c27 : W8.cell? ⟨gq, 4, none⟩ = some (.int .i64 t4) := cellAt Q8.out 4 rfl
      have c28 : W8.cell? ⟨gq, 5, none⟩ = some (.int .i64 t5) := cellAt Q8.out 5 rfl
      have c29 : W8.cell? ⟨gq, 6, none⟩ = some (.int .u64 t6) := cellAt Q8.out 6 rfl
      have c30 : W8.cell? ⟨gx, 0, none⟩ = some (.int .u64 t0) := cellAt X8.out 0 rfl
      have c31 : W8.cell? ⟨gx, 1, none⟩ = some (.int .i64 t1) := cellAt X8.out 1 rfl
      have c32 : W8.cell? ⟨gx, 2, none⟩ = some (.int .i64 t2) := cellAt X8.out 2 rfl
      have c33 : W8.cell? ⟨gx, 3, none⟩ = some (.int .i64 t3) := cellAt X8.out 3 rfl
      have c34 : W8.cell? ⟨gx, 4, none⟩ = some (.int .i64 t4) := cellAt X8.out 4 rfl
      have c35 : W8.cell? ⟨gx, 5, none⟩ = some (.int .i64 t5) := cellAt X8.out 5 rfl
      have c36 : W8.cell? ⟨gx, 6, none⟩ = some (.int .u64 t6) := cellAt X8.out 6 rfl
      have HNN : Hid (∀ w', KpS W8 w' → KpS W8 w' ∧ w'.cell? ⟨gl + 1, 0, none⟩ = some (.bool false) ∧ w'.cell? ⟨gl + 1, 1, none⟩ = some (.bool true) ∧ w'.cell? ⟨gl, 0, none⟩ = some (.int .u64 p0) ∧ w'.cell? ⟨gl, 1, none⟩ = some (.int .i64 p1) ∧ w'.cell? ⟨gl, 2, none⟩ = some (.int .i64 p2) ∧ w'.cell? ⟨gl, 3, none⟩ = some (.int .i64 p3) ∧ w'.cell? ⟨gl, 4, none⟩ = some (.int .i64 p4) ∧ w'.cell? ⟨gl, 5, none⟩ = some (.int .i64 p5) ∧ w'.cell? ⟨gl, 6, none⟩ = some (.int .u64 p6) ∧ w'.cell? ⟨gp, 0, none⟩ = some (.int .u64 p0) ∧ w'.cell? ⟨gp, 1, none⟩ = some (.int .i64 p1) ∧ w'.cell? ⟨gp, 2, none⟩ = some (.int .i64 p2) ∧ w'.cell? ⟨gp, 3, none⟩ = some (.int .i64 p3) ∧ w'.cell? ⟨gp, 4, none⟩ = some (.int .i64 p4) ∧ w'.cell? ⟨gp, 5, none⟩ = some (.int .i64 p5) ∧ w'.cell? ⟨gp, 6, none⟩ = some (.int .u64 p6) ∧ w'.cell? ⟨gl, 7, none⟩ = some (.int .u64 t0) ∧ w'.cell? ⟨gl, 8, none⟩ = some (.int .i64 t1) ∧ w'.cell? ⟨gl, 9, none⟩ = some (.int .i64 t2) ∧ w'.cell? ⟨gl, 10, none⟩ = some (.int .i64 t3) ∧ w'.cell? ⟨gl, 11, none⟩ = some (.int .i64 t4) ∧ w'.cell? ⟨gl, 12, none⟩ = some (.int .i64 t5) ∧ w'.cell? ⟨gl, 13, none⟩ = some (.int .u64 t6) ∧ w'.cell? ⟨gq, 0, none⟩ = some (.int .u64 t0) ∧ w'.cell? ⟨gq, 1, none⟩ = some (.int .i64 t1) ∧ w'.cell? ⟨gq, 2, none⟩ = some (.int .i64 t2) ∧ w'.cell? ⟨gq, 3, none⟩ = some (.int .i64 t3) ∧ w'.cell? ⟨gq, 4, none⟩ = some (.int .i64 t4) ∧ w'.cell? ⟨gq, 5, none⟩ = some (.int .i64 t5) ∧ w'.cell? ⟨gq, 6, none⟩ = some (.int .u64 t6) ∧ w'.cell? ⟨gx, 0, none⟩ = some (.int .u64 t0) ∧ w'.cell? ⟨gx, 1, none⟩ = some (.int .i64 t1) ∧ w'.cell? ⟨gx, 2, none⟩ = some (.int .i64 t2) ∧ w'.cell? ⟨gx, 3, none⟩ = some (.int .i64 t3) ∧ w'.cell? ⟨gx, 4, none⟩ = some (.int .i64 t4) ∧ w'.cell? ⟨gx, 5, none⟩ = some (.int .i64 t5) ∧ w'.cell? ⟨gx, 6, none⟩ = some (.int .u64 t6)) := Lib.hid fun w' hk => ⟨hk, hk.cell c0, hk.cell c1, hk.cell c2, hk.cell c3, hk.cell c4, hk.cell c5, hk.cell c6, hk.cell c7, hk.cell c8, hk.cell c9, hk.cell c10, hk.cell c11, hk.cell c12, hk.cell c13, hk.cell c14, hk.cell c15, hk.cell c16, hk.cell c17, hk.cell c18, hk.cell c19, hk.cell c20, hk.cell c21, hk.cell c22, hk.cell c23, hk.cell c24, hk.cell c25, hk.cell c26, hk.cell c27, hk.cell c28, hk.cell c29, hk.cell c30, hk.cell c31, hk.cell c32, hk.cell c33, hk.cell c34, hk.cell c35, hk.cell c36⟩
      have hK0 := HNN.out _ (KpS.refl W8)
      have hK1 := HNN.out W8.drew (KpS.of (Moves.refl (fun _ => False) W8).drew)
      clear c0 c1 c2 c3 c4 c5 c6 c7 c8 c9 c10 c11 c12 c13 c14 c15 c16 c17 c18 c19 c20 c21 c22 c23 c24 c25 c26 c27 c28 c29 c30 c31 c32 c33 c34 c35 c36
      go_wp2_with fail
      refine wp_region_held_drew (S := fun w' => KpS W8 w' ∧ w'.cell? ⟨gl + 1, 0, none⟩ = some (.bool false) ∧ w'.cell? ⟨gl + 1, 1, none⟩ = some (.bool true) ∧ w'.cell? ⟨gl, 0, none⟩ = some (.int .u64 p0) ∧ w'.cell? ⟨gl, 1, none⟩ = some (.int .i64 p1) ∧ w'.cell? ⟨gl, 2, none⟩ = some (.int .i64 p2) ∧ w'.cell? ⟨gl, 3, none⟩ = some (.int .i64 p3) ∧ w'.cell? ⟨gl, 4, none⟩ = some (.int .i64 p4) ∧ w'.cell? ⟨gl, 5, none⟩ = some (.int .i64 p5) ∧ w'.cell? ⟨gl, 6, none⟩ = some (.int .u64 p6) ∧ w'.cell? ⟨gp, 0, none⟩ = some (.int .u64 p0) ∧ w'.cell? ⟨gp, 1, none⟩ = some (.int .i64 p1) ∧ w'.cell? ⟨gp, 2, none⟩ = some (.int .i64 p2) ∧ w'.cell? ⟨gp, 3, none⟩ = some (.int .i64 p3) ∧ w'.cell? ⟨gp, 4, none⟩ = some (.int .i64 p4) ∧ w'.cell? ⟨gp, 5, none⟩ = some (.int .i64 p5) ∧ w'.cell? ⟨gp, 6, none⟩ = some (.int .u64 p6) ∧ w'.cell? ⟨gl, 7, none⟩ = some (.int .u64 t0) ∧ w'.cell? ⟨gl, 8, none⟩ = some (.int .i64 t1) ∧ w'.cell? ⟨gl, 9, none⟩ = some (.int .i64 t2) ∧ w'.cell? ⟨gl, 10, none⟩ = some (.int .i64 t3) ∧ w'.cell? ⟨gl, 11, none⟩ = some (.int .i64 t4) ∧ w'.cell? ⟨gl, 12, none⟩ = some (.int .i64 t5) ∧ w'.cell? ⟨gl, 13, none⟩ = some (.int .u64 t6) ∧ w'.cell? ⟨gq, 0, none⟩ = some (.int .u64 t0) ∧ w'.cell? ⟨gq, 1, none⟩ = some (.int .i64 t1) ∧ w'.cell? ⟨gq, 2, none⟩ = some (.int .i64 t2) ∧ w'.cell? ⟨gq, 3, none⟩ = some (.int .i64 t3) ∧ w'.cell? ⟨gq, 4, none⟩ = some (.int .i64 t4) ∧ w'.cell? ⟨gq, 5, none⟩ = some (.int .i64 t5) ∧ w'.cell? ⟨gq, 6, none⟩ = some (.int .u64 t6) ∧ w'.cell? ⟨gx, 0, none⟩ = some (.int .u64 t0) ∧ w'.cell? ⟨gx, 1, none⟩ = some (.int .i64 t1) ∧ w'.cell? ⟨gx, 2, none⟩ = some (.int .i64 t2) ∧ w'.cell? ⟨gx, 3, none⟩ = some (.int .i64 t3) ∧ w'.cell? ⟨gx, 4, none⟩ = some (.int .i64 t4) ∧ w'.cell? ⟨gx, 5, none⟩ = some (.int .i64 t5) ∧ w'.cell? ⟨gx, 6, none⟩ = some (.int .u64 t6)) (by kernel_rfl) ?_ (fun hHeld0 => ?_)
      · try dsimp only
        (first | with_reducible exact hS' | with_reducible exact hK0 | with_reducible exact hK1 | assumption)
      try simp only [List.size_toArray, List.length_cons, List.length_nil, Nat.reduceAdd]
      refine wpAnyH_take (i := 0) (oi := { dst := some 104, op := Op.move (Operand.tmp 14), type := 28, pos := "law.go:73", after := #[], guard := none }) (v := ?_) rfl (by kernel_rfl) (by kernel_rfl) (by kernel_rfl) (fun _ _ _ h => h) (Or.inl ⟨by rfl, ?_⟩) (by assumption) ?_
      rotate_left
      · intro w hSw
        try dsimp only at hSw
        go_simp
        try with_reducible rfl
      try simp only [Act.put, List.setIfInBounds_toArray, List.set_cons_zero, List.set_cons_succ]
      refine wpAnyH_take (i := 1) (oi := { dst := some 105, op := Op.binOp BinOp.neq 3 (Operand.tmp 104) (Operand.const (Value.int IntKind.i64 0)) 3, type := 4, pos := "law.go:73", after := #[{ on := 0, ground := Ground.data }], guard := none }) (v := ?_) rfl (by kernel_rfl) (by kernel_rfl) (by kernel_rfl) (fun _ _ _ h => h) (Or.inl ⟨by rfl, ?_⟩) (by assumption) ?_
      rotate_left
      · intro w hSw
        try dsimp only at hSw
        go_simp
        try with_reducible rfl
      try simp only [Act.put, List.setIfInBounds_toArray, List.set_cons_zero, List.set_cons_succ]
      refine wpAnyH_take (i := 2) (oi := { dst := some 106, op := Op.move (Operand.tmp 105), type := 4, pos := "law.go:73", after := #[{ on := 1, ground := Ground.data }], guard := none }) (v := ?_) rfl (by kernel_rfl) (by kernel_rfl) (by kernel_rfl) (fun _ _ _ h => h) (Or.inl ⟨by rfl, ?_⟩) (by assumption) ?_
      rotate_left
      · intro w hSw
        try dsimp only at hSw
        go_simp
        try with_reducible rfl
      try simp only [Act.put, List.setIfInBounds_toArray, List.set_cons_zero, List.set_cons_succ]
      refine wpAnyH_take (i := 3) (oi := { dst := some 107, op := Op.indexAddr 36 (Operand.tmp 13) (Operand.const (Value.int IntKind.i64 0)), type := 0, pos := "law.go:73", after := #[{ on := 2, ground := Ground.guard }], guard := some (2, false) }) (v := ?_) rfl (by kernel_rfl) (by kernel_rfl) (by kernel_rfl) (fun _ _ _ h => h) (Or.inl ⟨by rfl, ?_⟩) (by assumption) ?_
      rotate_left
      · intro w hSw
        try dsimp only at hSw
        go_simp
        try with_reducible rfl
      try simp only [Act.put, List.setIfInBounds_toArray, List.set_cons_zero, List.set_cons_succ]
      refine wpAnyH_take (i := 4) (oi := { dst := some 108, op := Op.load 4 (Operand.tmp 107), type := 4, pos := "law.go:73", after := #[{ on := 3, ground := Ground.data }, { on := 2, ground := Ground.guard }], guard := some (2, false) }) (v := ?_) rfl (by kernel_rfl) (by kernel_rfl) (by kernel_rfl) (fun _ _ _ h => h) (Or.inl ⟨by rfl, ?_⟩) (by assumption) ?_
      rotate_left
      · intro w hSw
        try dsimp only at hSw
        go_simp
        try with_reducible rfl
      try simp only [Act.put, List.setIfInBounds_toArray, List.set_cons_zero, List.set_cons_succ]
      refine wpAnyH_take (i := 5) (oi := { dst := some 109, op := Op.move (Operand.tmp 18), type := 4, pos := "law.go:73", after := #[{ on := 2, ground := Ground.guard }], guard := some (2, false) }) (v := ?_) rfl (by kernel_rfl) (by kernel_rfl) (by kernel_rfl) (fun _ _ _ h => h) (Or.inl ⟨by rfl, ?_⟩) (by assumption) ?_
      rotate_left
      · intro w hSw
        try dsimp only at hSw
        go_simp
        try with_reducible rfl
      try simp only [Act.put, List.setIfInBounds_toArray, List.set_cons_zero, List.set_cons_succ]
      refine wpAnyH_take (i := 6) (oi := { dst := some 110, op := Op.binOp BinOp.neq 4 (Operand.tmp 108) (Operand.tmp 109) 4, type := 4, pos := "law.go:73", after := #[{ on := 4, ground := Ground.data }, { on := 5, ground := Ground.data }, { on := 2, ground := Ground.guard }], guard := some (2, false) }) (v := ?_) rfl (by kernel_rfl) (by kernel_rfl) (by kernel_rfl) (fun _ _ _ h => h) (Or.inl ⟨by rfl, ?_⟩) (by assumption) ?_
      rotate_left
      · intro w hSw
        try dsimp only at hSw
        go_simp
        try with_reducible rfl
      try simp only [Act.put, List.setIfInBounds_toArray, List.set_cons_zero, List.set_cons_succ]
      refine wpAnyH_take (i := 7) (oi := { dst := some 111, op := Op.pick (Operand.tmp 106) (Operand.const (Value.bool true)) (Operand.tmp 110), type := 4, pos := "law.go:73", after := #[{ on := 2, ground := Ground.data }, { on := 6, ground := Ground.data }], guard := none }) (v := ?_) rfl (by kernel_rfl) (by kernel_rfl) (by kernel_rfl) (fun _ _ _ h => h) (Or.inl ⟨by rfl, ?_⟩) (by assumption) ?_
      rotate_left
      · intro w hSw
        try dsimp only at hSw
        go_simp
        try with_reducible rfl
      try simp only [Act.put, List.setIfInBounds_toArray, List.set_cons_zero, List.set_cons_succ]
      refine wpAnyH_take (i := 8) (oi := { dst := some 112, op := Op.move (Operand.tmp 111), type := 4, pos := "law.go:73", after := #[{ on := 7, ground := Ground.data }, { on := 2, ground := Ground.chain }], guard := none }) (v := ?_) rfl (by kernel_rfl) (by kernel_rfl) (by kernel_rfl) (fun _ _ _ h => h) (Or.inl ⟨by rfl, ?_⟩) (by assumption) ?_
      rotate_left
      · intro w hSw
        try dsimp only at hSw
        go_simp
        try with_reducible rfl
      try simp only [Act.put, List.setIfInBounds_toArray, List.set_cons_zero, List.set_cons_succ]
      refine wpAnyH_take (i := 9) (oi := { dst := some 113, op := Op.indexAddr 36 (Operand.tmp 13) (Operand.const (Value.int IntKind.i64 1)), type := 0, pos := "law.go:73", after := #[{ on := 8, ground := Ground.guard }], guard := some (8, false) }) (v := ?_) rfl (by kernel_rfl) (by kernel_rfl) (by kernel_rfl) (fun _ _ _ h => h) (Or.inl ⟨by rfl, ?_⟩) (by assumption) ?_
      rotate_left
      · intro w hSw
        try dsimp only at hSw
        go_simp
        try with_reducible rfl
      try simp only [Act.put, List.setIfInBounds_toArray, List.set_cons_zero, List.set_cons_succ]
      refine wpAnyH_take (i := 10) (oi := { dst := some 114, op := Op.load 4 (Operand.tmp 113), type := 4, pos := "law.go:73", after := #[{ on := 9, ground := Ground.data }, { on := 8, ground := Ground.guard }], guard := some (8, false) }) (v := ?_) rfl (by kernel_rfl) (by kernel_rfl) (by kernel_rfl) (fun _ _ _ h => h) (Or.inl ⟨by rfl, ?_⟩) (by assumption) ?_
      rotate_left
      · intro w hSw
        try dsimp only at hSw
        go_simp
        try with_reducible rfl
      try simp only [Act.put, List.setIfInBounds_toArray, List.set_cons_zero, List.set_cons_succ]
      refine wpAnyH_take (i := 11) (oi := { dst := some 115, op := Op.move (Operand.tmp 20), type := 4, pos := "law.go:73", after := #[{ on := 8, ground := Ground.guard }], guard := some (8, false) }) (v := ?_) rfl (by kernel_rfl) (by kernel_rfl) (by kernel_rfl) (fun _ _ _ h => h) (Or.inl ⟨by rfl, ?_⟩) (by assumption) ?_
      rotate_left
      · intro w hSw
        try dsimp only at hSw
        go_simp
        try with_reducible rfl
      try simp only [Act.put, List.setIfInBounds_toArray, List.set_cons_zero, List.set_cons_succ]
      refine wpAnyH_take (i := 12) (oi := { dst := some 116, op := Op.binOp BinOp.neq 4 (Operand.tmp 114) (Operand.tmp 115) 4, type := 4, pos := "law.go:73", after := #[{ on := 10, ground := Ground.data }, { on := 11, ground := Ground.data }, { on := 8, ground := Ground.guard }], guard := some (8, false) }) (v := ?_) rfl (by kernel_rfl) (by kernel_rfl) (by kernel_rfl) (fun _ _ _ h => h) (Or.inl ⟨by rfl, ?_⟩) (by assumption) ?_
      rotate_left
      · intro w hSw
        try dsimp only at hSw
        go_simp
        try with_reducible rfl
      try simp only [Act.put, List.setIfInBounds_toArray, List.set_cons_zero, List.set_cons_succ]
      refine wpAnyH_take (i := 13) (oi := { dst := some 117, op := Op.pick (Operand.tmp 112) (Operand.const (Value.bool true)) (Operand.tmp 116), type := 4, pos := "law.go:73", after := #[{ on := 8, ground := Ground.data }, { on := 12, ground := Ground.data }], guard := none }) (v := ?_) rfl (by kernel_rfl) (by kernel_rfl) (by kernel_rfl) (fun _ _ _ h => h) (Or.inl ⟨by rfl, ?_⟩) (by assumption) ?_
      rotate_left
      · intro w hSw
        try dsimp only at hSw
        go_simp
        try with_reducible rfl
      try simp only [Act.put, List.setIfInBounds_toArray, List.set_cons_zero, List.set_cons_succ]
      refine wpAnyH_take (i := 14) (oi := { dst := some 118, op := Op.move (Operand.tmp 117), type := 4, pos := "law.go:73", after := #[{ on := 13, ground := Ground.data }, { on := 8, ground := Ground.chain }], guard := none }) (v := ?_) rfl (by kernel_rfl) (by kernel_rfl) (by kernel_rfl) (fun _ _ _ h => h) (Or.inl ⟨by rfl, ?_⟩) (by assumption) ?_
      rotate_left
      · intro w hSw
        try dsimp only at hSw
        go_simp
        try with_reducible rfl
      try simp only [Act.put, List.setIfInBounds_toArray, List.set_cons_zero, List.set_cons_succ]
      refine wpAnyH_take (i := 15) (oi := { dst := some 119, op := Op.move (Operand.tmp 18), type := 4, pos := "law.go:73", after := #[{ on := 14, ground := Ground.guard }], guard := some (14, false) }) (v := ?_) rfl (by kernel_rfl) (by kernel_rfl) (by kernel_rfl) (fun _ _ _ h => h) (Or.inl ⟨by rfl, ?_⟩) (by assumption) ?_
      rotate_left
      · intro w hSw
        try dsimp only at hSw
        go_simp
        try with_reducible rfl
      try simp only [Act.put, List.setIfInBounds_toArray, List.set_cons_zero, List.set_cons_succ]
      refine wpAnyH_take (i := 16) (oi := { dst := some 120, op := Op.move (Operand.tmp 119), type := 4, pos := "law.go:73", after := #[{ on := 15, ground := Ground.data }, { on := 14, ground := Ground.chain }, { on := 14, ground := Ground.guard }], guard := some (14, false) }) (v := ?_) rfl (by kernel_rfl) (by kernel_rfl) (by kernel_rfl) (fun _ _ _ h => h) (Or.inl ⟨by rfl, ?_⟩) (by assumption) ?_
      rotate_left
      · intro w hSw
        try dsimp only at hSw
        go_simp
        try with_reducible rfl
      try simp only [Act.put, List.setIfInBounds_toArray, List.set_cons_zero, List.set_cons_succ]
      refine wpAnyH_take (i := 17) (oi := { dst := some 121, op := Op.indexAddr 35 (Operand.tmp 12) (Operand.const (Value.int IntKind.i64 0)), type := 0, pos := "law.go:73", after := #[{ on := 16, ground := Ground.guard }], guard := some (16, true) }) (v := undef) rfl (by kernel_rfl) (by kernel_rfl) (by kernel_rfl) (fun _ _ _ h => h) (Or.inr ⟨by kernel_rfl, rfl⟩) (by assumption) ?_
      try simp only [Act.put, List.setIfInBounds_toArray, List.set_cons_zero, List.set_cons_succ]
      refine wpAnyH_take (i := 18) (oi := { dst := some 122, op := Op.load 32 (Operand.tmp 121), type := 32, pos := "law.go:73", after := #[{ on := 17, ground := Ground.data }, { on := 16, ground := Ground.guard }], guard := some (16, true) }) (v := undef) rfl (by kernel_rfl) (by kernel_rfl) (by kernel_rfl) (fun _ _ _ h => h) (Or.inr ⟨by kernel_rfl, rfl⟩) (by assumption) ?_
      try simp only [Act.put, List.setIfInBounds_toArray, List.set_cons_zero, List.set_cons_succ]
      refine wpAnyH_take (i := 19) (oi := { dst := some 123, op := Op.call { callee := Callee.value (Operand.func 23), args := #[Operand.tmp 122], argTypes := #[32] }, type := 49, pos := "law.go:73", after := #[{ on := 18, ground := Ground.data }, { on := 16, ground := Ground.chain }, { on := 16, ground := Ground.guard }], guard := some (16, true) }) (v := undef) rfl (by kernel_rfl) (by kernel_rfl) (by kernel_rfl) (fun _ _ _ h => h) (Or.inr ⟨by kernel_rfl, rfl⟩) (by assumption) ?_
      try simp only [Act.put, List.setIfInBounds_toArray, List.set_cons_zero, List.set_cons_succ]
      refine wpAnyH_take (i := 20) (oi := { dst := some 124, op := Op.load 49 (Operand.tmp 17), type := 49, pos := "law.go:73", after := #[{ on := 16, ground := Ground.guard }], guard := some (16, true) }) (v := undef) rfl (by kernel_rfl) (by kernel_rfl) (by kernel_rfl) (fun _ _ _ h => h) (Or.inr ⟨by kernel_rfl, rfl⟩) (by assumption) ?_
      try simp only [Act.put, List.setIfInBounds_toArray, List.set_cons_zero, List.set_cons_succ]
      refine wpAnyH_take (i := 21) (oi := { dst := some 125, op := Op.binOp BinOp.neq 49 (Operand.tmp 123) (Operand.tmp 124) 49, type := 4, pos := "law.go:73", after := #[{ on := 19, ground := Ground.data }, { on := 20, ground := Ground.data }, { on := 16, ground := Ground.guard }], guard := some (16, true) }) (v := undef) rfl (by kernel_rfl) (by kernel_rfl) (by kernel_rfl) (fun _ _ _ h => h) (Or.inr ⟨by kernel_rfl, rfl⟩) (by assumption) ?_
      try simp only [Act.put, List.setIfInBounds_toArray, List.set_cons_zero, List.set_cons_succ]
      refine wpAnyH_take (i := 22) (oi := { dst := some 126, op := Op.pick (Operand.tmp 120) (Operand.tmp 125) (Operand.const (Value.bool false)), type := 4, pos := "law.go:73", after := #[{ on := 16, ground := Ground.data }, { on := 21, ground := Ground.data }, { on := 14, ground := Ground.guard }], guard := some (14, false) }) (v := ?_) rfl (by kernel_rfl) (by kernel_rfl) (by kernel_rfl) (fun _ _ _ h => h) (Or.inl ⟨by rfl, ?_⟩) (by assumption) ?_
      rotate_left
      · intro w hSw
        try dsimp only at hSw
        go_simp
        try with_reducible rfl
      try simp only [Act.put, List.setIfInBounds_toArray, List.set_cons_zero, List.set_cons_succ]
      refine wpAnyH_take (i := 23) (oi := { dst := some 127, op := Op.pick (Operand.tmp 118) (Operand.const (Value.bool true)) (Operand.tmp 126), type := 4, pos := "law.go:73", after := #[{ on := 14, ground := Ground.data }, { on := 22, ground := Ground.data }], guard := none }) (v := ?_) rfl (by kernel_rfl) (by kernel_rfl) (by kernel_rfl) (fun _ _ _ h => h) (Or.inl ⟨by rfl, ?_⟩) (by assumption) ?_
      rotate_left
      · intro w hSw
        try dsimp only at hSw
        go_simp
        try with_reducible rfl
      try simp only [Act.put, List.setIfInBounds_toArray, List.set_cons_zero, List.set_cons_succ]
      refine wpAnyH_take (i := 24) (oi := { dst := some 128, op := Op.move (Operand.tmp 127), type := 4, pos := "law.go:73", after := #[{ on := 23, ground := Ground.data }, { on := 19, ground := Ground.chain }], guard := none }) (v := ?_) rfl (by kernel_rfl) (by kernel_rfl) (by kernel_rfl) (fun _ _ _ h => h) (Or.inl ⟨by rfl, ?_⟩) (by assumption) ?_
      rotate_left
      · intro w hSw
        try dsimp only at hSw
        go_simp
        try with_reducible rfl
      try simp only [Act.put, List.setIfInBounds_toArray, List.set_cons_zero, List.set_cons_succ]
      refine wpAnyH_take (i := 25) (oi := { dst := some 129, op := Op.move (Operand.tmp 20), type := 4, pos := "law.go:73", after := #[{ on := 24, ground := Ground.guard }], guard := some (24, false) }) (v := ?_) rfl (by kernel_rfl) (by kernel_rfl) (by kernel_rfl) (fun _ _ _ h => h) (Or.inl ⟨by rfl, ?_⟩) (by assumption) ?_
      rotate_left
      · intro w hSw
        try dsimp only at hSw
        go_simp
        try with_reducible rfl
      try simp only [Act.put, List.setIfInBounds_toArray, List.set_cons_zero, List.set_cons_succ]
      refine wpAnyH_take (i := 26) (oi := { dst := some 130, op := Op.move (Operand.tmp 129), type := 4, pos := "law.go:73", after := #[{ on := 25, ground := Ground.data }, { on := 24, ground := Ground.chain }, { on := 24, ground := Ground.guard }], guard := some (24, false) }) (v := ?_) rfl (by kernel_rfl) (by kernel_rfl) (by kernel_rfl) (fun _ _ _ h => h) (Or.inl ⟨by rfl, ?_⟩) (by assumption) ?_
      rotate_left
      · intro w hSw
        try dsimp only at hSw
        go_simp
        try with_reducible rfl
      try simp only [Act.put, List.setIfInBounds_toArray, List.set_cons_zero, List.set_cons_succ]
      refine wpAnyH_take (i := 27) (oi := { dst := some 131, op := Op.indexAddr 35 (Operand.tmp 12) (Operand.const (Value.int IntKind.i64 1)), type := 0, pos := "law.go:73", after := #[{ on := 26, ground := Ground.guard }], guard := some (26, true) }) (v := ?_) rfl (by kernel_rfl) (by kernel_rfl) (by kernel_rfl) (fun _ _ _ h => h) (Or.inl ⟨by rfl, ?_⟩) (by assumption) ?_
      rotate_left
      · intro w hSw
        try dsimp only at hSw
        go_simp
        try with_reducible rfl
      try simp only [Act.put, List.setIfInBounds_toArray, List.set_cons_zero, List.set_cons_succ]
      refine wpAnyH_take (i := 28) (oi := { dst := some 132, op := Op.load 32 (Operand.tmp 131), type := 32, pos := "law.go:73", after := #[{ on := 27, ground := Ground.data }, { on := 26, ground := Ground.guard }], guard := some (26, true) }) (v := ?_) rfl (by kernel_rfl) (by kernel_rfl) (by kernel_rfl) (fun _ _ _ h => h) (Or.inl ⟨by rfl, ?_⟩) (by assumption) ?_
      rotate_left
      · intro w hSw
        try dsimp only at hSw
        go_simp
        try with_reducible rfl
      try simp only [Act.put, List.setIfInBounds_toArray, List.set_cons_zero, List.set_cons_succ]
      refine wpAnyH_take (i := 30) (oi := { dst := some 134, op := Op.load 49 (Operand.tmp 19), type := 49, pos := "law.go:73", after := #[{ on := 26, ground := Ground.guard }], guard := some (26, true) }) (v := ?_) rfl (by kernel_rfl) (by kernel_rfl) (by kernel_rfl) (fun _ _ _ h => h) (Or.inl ⟨by rfl, ?_⟩) (by assumption) ?_
      rotate_left
      · intro w hSw
        try dsimp only at hSw
        go_simp
        try with_reducible rfl
      try simp only [Act.put, List.setIfInBounds_toArray, List.set_cons_zero, List.set_cons_succ]
      refine wpAnyH_ready (rs := [29]) (by kernel_rfl) (by simp) ?_
      refine AllReadyH.cons (o := { dst := some 133, op := Op.call { callee := Callee.value (Operand.func 23), args := #[Operand.tmp 132], argTypes := #[32] }, type := 49, pos := "law.go:73", after := #[{ on := 28, ground := Ground.data }, { on := 26, ground := Ground.chain }, { on := 26, ground := Ground.guard }], guard := some (26, true) }) rfl (fun K hK => ?_) ?_
      · go_simp
        (first
          | (go_at_call 23; (with_reducible refine (HOQ.out _).mono ?_); rintro e w' ⟨rfl, hl⟩; have hS' := HNN.out _ (KpS.of ((KpS.moves (And.left (by assumption))).trans hl)))
          | fail)
        go_wp2_with fail
        refine hK.out _ _ ?_ (fun hHeld1 => ?_)
        · try dsimp only
          (first | with_reducible exact hS' | with_reducible exact hK0 | with_reducible exact hK1 | assumption)
        clear hK K hHeld0
        try simp only [Act.put, List.setIfInBounds_toArray, List.set_cons_zero, List.set_cons_succ]
        refine wpAnyH_take (i := 31) (oi := { dst := some 135, op := Op.binOp BinOp.neq 49 (Operand.tmp 133) (Operand.tmp 134) 49, type := 4, pos := "law.go:73", after := #[{ on := 29, ground := Ground.data }, { on := 30, ground := Ground.data }, { on := 26, ground := Ground.guard }], guard := some (26, true) }) (v := ?_) rfl (by kernel_rfl) (by kernel_rfl) (by kernel_rfl) (fun _ _ _ h => h) (Or.inl ⟨by rfl, ?_⟩) (by assumption) ?_
        rotate_left
        · intro w hSw
          try dsimp only at hSw
          go_simp
          try with_reducible rfl
        try simp only [Act.put, List.setIfInBounds_toArray, List.set_cons_zero, List.set_cons_succ]
        refine wpAnyH_take (i := 32) (oi := { dst := some 136, op := Op.pick (Operand.tmp 130) (Operand.tmp 135) (Operand.const (Value.bool false)), type := 4, pos := "law.go:73", after := #[{ on := 26, ground := Ground.data }, { on := 31, ground := Ground.data }, { on := 24, ground := Ground.guard }], guard := some (24, false) }) (v := ?_) rfl (by kernel_rfl) (by kernel_rfl) (by kernel_rfl) (fun _ _ _ h => h) (Or.inl ⟨by rfl, ?_⟩) (by assumption) ?_
        rotate_left
        · intro w hSw
          try dsimp only at hSw
          go_simp
          try with_reducible rfl
        try simp only [Act.put, List.setIfInBounds_toArray, List.set_cons_zero, List.set_cons_succ]
        refine wpAnyH_take (i := 33) (oi := { dst := some 137, op := Op.pick (Operand.tmp 128) (Operand.const (Value.bool true)) (Operand.tmp 136), type := 4, pos := "law.go:73", after := #[{ on := 24, ground := Ground.data }, { on := 32, ground := Ground.data }], guard := none }) (v := ?_) rfl (by kernel_rfl) (by kernel_rfl) (by kernel_rfl) (fun _ _ _ h => h) (Or.inl ⟨by rfl, ?_⟩) (by assumption) ?_
        rotate_left
        · intro w hSw
          try dsimp only at hSw
          go_simp
          try with_reducible rfl
        try simp only [Act.put, List.setIfInBounds_toArray, List.set_cons_zero, List.set_cons_succ]
        refine wpAnyH_done (by kernel_rfl) ?_ _
        have hT1 := HNN.out w'.drew (KpS.of ((KpS.moves (And.left hS')).trans (Moves.refl (fun _ => False) w').drew))
        go_wp2_with fail
        go_region_held3 (fun w' => KpS W8 w' ∧ w'.cell? ⟨gl + 1, 0, none⟩ = some (.bool false) ∧ w'.cell? ⟨gl + 1, 1, none⟩ = some (.bool true) ∧ w'.cell? ⟨gl, 0, none⟩ = some (.int .u64 p0) ∧ w'.cell? ⟨gl, 1, none⟩ = some (.int .i64 p1) ∧ w'.cell? ⟨gl, 2, none⟩ = some (.int .i64 p2) ∧ w'.cell? ⟨gl, 3, none⟩ = some (.int .i64 p3) ∧ w'.cell? ⟨gl, 4, none⟩ = some (.int .i64 p4) ∧ w'.cell? ⟨gl, 5, none⟩ = some (.int .i64 p5) ∧ w'.cell? ⟨gl, 6, none⟩ = some (.int .u64 p6) ∧ w'.cell? ⟨gp, 0, none⟩ = some (.int .u64 p0) ∧ w'.cell? ⟨gp, 1, none⟩ = some (.int .i64 p1) ∧ w'.cell? ⟨gp, 2, none⟩ = some (.int .i64 p2) ∧ w'.cell? ⟨gp, 3, none⟩ = some (.int .i64 p3) ∧ w'.cell? ⟨gp, 4, none⟩ = some (.int .i64 p4) ∧ w'.cell? ⟨gp, 5, none⟩ = some (.int .i64 p5) ∧ w'.cell? ⟨gp, 6, none⟩ = some (.int .u64 p6) ∧ w'.cell? ⟨gl, 7, none⟩ = some (.int .u64 t0) ∧ w'.cell? ⟨gl, 8, none⟩ = some (.int .i64 t1) ∧ w'.cell? ⟨gl, 9, none⟩ = some (.int .i64 t2) ∧ w'.cell? ⟨gl, 10, none⟩ = some (.int .i64 t3) ∧ w'.cell? ⟨gl, 11, none⟩ = some (.int .i64 t4) ∧ w'.cell? ⟨gl, 12, none⟩ = some (.int .i64 t5) ∧ w'.cell? ⟨gl, 13, none⟩ = some (.int .u64 t6) ∧ w'.cell? ⟨gq, 0, none⟩ = some (.int .u64 t0) ∧ w'.cell? ⟨gq, 1, none⟩ = some (.int .i64 t1) ∧ w'.cell? ⟨gq, 2, none⟩ = some (.int .i64 t2) ∧ w'.cell? ⟨gq, 3, none⟩ = some (.int .i64 t3) ∧ w'.cell? ⟨gq, 4, none⟩ = some (.int .i64 t4) ∧ w'.cell? ⟨gq, 5, none⟩ = some (.int .i64 t5) ∧ w'.cell? ⟨gq, 6, none⟩ = some (.int .u64 t6) ∧ w'.cell? ⟨gx, 0, none⟩ = some (.int .u64 t0) ∧ w'.cell? ⟨gx, 1, none⟩ = some (.int .i64 t1) ∧ w'.cell? ⟨gx, 2, none⟩ = some (.int .i64 t2) ∧ w'.cell? ⟨gx, 3, none⟩ = some (.int .i64 t3) ∧ w'.cell? ⟨gx, 4, none⟩ = some (.int .i64 t4) ∧ w'.cell? ⟨gx, 5, none⟩ = some (.int .i64 t5) ∧ w'.cell? ⟨gx, 6, none⟩ = some (.int .u64 t6)) (first | with_reducible exact hS2 | with_reducible exact hS' | with_reducible exact hT1 | assumption)
          (first
            | (go_at_call 23; (with_reducible refine (HOQ.out _).mono ?_); rintro e w2 ⟨rfl, hl⟩; have hS2 := HNN.out _ (KpS.of ((KpS.moves (And.left (by assumption))).trans hl)))
            | fail)
        all_goals
          go_wp2
          go_ret
          exact ⟨rfl, M.out.trans (KpS.moves (And.left hS2))⟩
      exact AllReadyH.nil
  | true =>
    cases o1 with
    | false =>
      obtain ⟨⟨rfl, rfl, rfl, rfl, rfl, rfl, rfl⟩, rfl⟩ := S1.out rfl (.inl rfl)
      have c0 : W8.cell? ⟨gl + 1, 0, none⟩ = some (.bool true) := cellAt O8.out 0 rfl
      have c1 : W8.cell? ⟨gl + 1, 1, none⟩ = some (.bool false) := cellAt O8.out 1 rfl
      have c2 : W8.cell? ⟨gl, 0, none⟩ = some (.int .u64 p0) := cellAt L8.out 0 rfl
      have c3 : W8.cell? ⟨gl, 1, none⟩ = some (.int .i64 p1) := cellAt L8.out 1 rfl
      have c4 : W8.cell? ⟨gl, 2, none⟩ = some (.int .i64 p2) := cellAt L8.out 2 rfl
      have c5 : W8.cell? ⟨gl, 3, none⟩ = some (.int .i64 p3) := cellAt L8.out 3 rfl
      have c6 : W8.cell? ⟨gl, 4, none⟩ = some (.int .i64 p4) := cellAt L8.out 4 rfl
      have c7 : W8.cell? ⟨gl, 5, none⟩ = some (.int .i64 p5) := cellAt L8.out 5 rfl
      have c8 : W8.cell? ⟨gl, 6, none⟩ = some (.int .u64 p6) := cellAt L8.out 6 rfl
      have c9 : W8.cell? ⟨gp, 0, none⟩ = some (.int .u64 p0) := cellAt P8.out 0 rfl
      have c10 : W8.cell? ⟨gp, 1, none⟩ = some (.int .i64 p1) := cellAt P8.out 1 rfl
      have c11 : W8.cell? ⟨gp, 2, none⟩ = some (.int .i64 p2) := cellAt P8.out 2 rfl
      have c12 : W8.cell? ⟨gp, 3, none⟩ = some (.int .i64 p3) := cellAt P8.out 3 rfl
      have c13 : W8.cell? ⟨gp, 4, none⟩ = some (.int .i64 p4) := cellAt P8.out 4 rfl
      have c14 : W8.cell? ⟨gp, 5, none⟩ = some (.int .i64 p5) := cellAt P8.out 5 rfl
      have c15 : W8.cell? ⟨gp, 6, none⟩ = some (.int .u64 p6) := cellAt P8.out 6 rfl
      have c16 : W8.cell? ⟨gl, 7, none⟩ = some (.int .u64 t0) := cellAt L8.out 7 rfl
      have c17 : W8.cell? ⟨gl, 8, none⟩ = some (.int .i64 t1) := cellAt L8.out 8 rfl
      have c18 : W8.cell? ⟨gl, 9, none⟩ = some (.int .i64 t2) := cellAt L8.out 9 rfl
      have c19 : W8.cell? ⟨gl, 10, none⟩ = some (.int .i64 t3) := cellAt L8.out 10 rfl
      have c20 : W8.cell? ⟨gl, 11, none⟩ = some (.int .i64 t4) := cellAt L8.out 11 rfl
      have c21 : W8.cell? ⟨gl, 12, none⟩ = some (.int .i64 t5) := cellAt L8.out 12 rfl
      have c22 : W8.cell? ⟨gl, 13, none⟩ = some (.int .u64 t6) := cellAt L8.out 13 rfl
      have c23 : W8.cell? ⟨gq, 0, none⟩ = some (.int .u64 t0) := cellAt Q8.out 0 rfl
      have c24 : W8.cell? ⟨gq, 1, none⟩ = some (.int .i64 t1) := cellAt Q8.out 1 rfl
      have c25 : W8.cell? ⟨gq, 2, none⟩ = some (.int .i64 t2) := cellAt Q8.out 2 rfl
      have c26 : W8.cell? ⟨gq, 3, none⟩ = some (.int .i64 t3) := cellAt Q8.out 3 rfl
      have c27 : W8.cell? ⟨gq, 4, none⟩ = some (.int .i64 t4) := cellAt Q8.out 4 rfl
      have c28 : W8.cell? ⟨gq, 5, none⟩ = some (.int .i64 t5) := cellAt Q8.out 5 rfl
      have c29 : W8.cell? ⟨gq, 6, none⟩ = some (.int .u64 t6) := cellAt Q8.out 6 rfl
      have c30 : W8.cell? ⟨gx, 0, none⟩ = some (.int .u64 p0) := cellAt X8.out 0 rfl
      have c31 : W8.cell? ⟨gx, 1, none⟩ = some (.int .i64 p1) := cellAt X8.out 1 rfl
      have c32 : W8.cell? ⟨gx, 2, none⟩ = some (.int .i64 p2) := cellAt X8.out 2 rfl
      have c33 : W8.cell? ⟨gx, 3, none⟩ = some (.int .i64 p3) := cellAt X8.out 3 rfl
      have c34 : W8.cell? ⟨gx, 4, none⟩ = some (.int .i64 p4) := cellAt X8.out 4 rfl
      have c35 : W8.cell? ⟨gx, 5, none⟩ = some (.int .i64 p5) := cellAt X8.out 5 rfl
      have c36 : W8.cell? ⟨gx, 6, none⟩ = some (.int .u64 p6) := cellAt X8.out 6 rfl
      have HNN : Hid (∀ w', KpS W8 w' → KpS W8 w' ∧ w'.cell? ⟨gl + 1, 0, none⟩ = some (.bool true) ∧ w'.cell? ⟨gl + 1, 1, none⟩ = some (.bool false) ∧ w'.cell? ⟨gl, 0, none⟩ = some (.int .u64 p0) ∧ w'.cell? ⟨gl, 1, none⟩ = some (.int .i64 p1) ∧ w'.cell? ⟨gl, 2, none⟩ = some (.int .i64 p2) ∧ w'.cell? ⟨gl, 3, none⟩ = some (.int .i64 p3) ∧ w'.cell? ⟨gl, 4, none⟩ = some (.int .i64 p4) ∧ w'.cell? ⟨gl, 5, none⟩ = some (.int .i64 p5) ∧ w'.cell? ⟨gl, 6, none⟩ = some (.int .u64 p6) ∧ w'.cell? ⟨gp, 0, none⟩ = some (.int .u64 p0) ∧ w'.cell? ⟨gp, 1, none⟩ = some (.int .i64 p1) ∧ w'.cell? ⟨gp, 2, none⟩ = some (.int .i64 p2) ∧ w'.cell? ⟨gp, 3, none⟩ = some (.int .i64 p3) ∧ w'.cell? ⟨gp, 4, none⟩ = some (.int .i64 p4) ∧ w'.cell? ⟨gp, 5, none⟩ = some (.int .i64 p5) ∧ w'.cell? ⟨gp, 6, none⟩ = some (.int .u64 p6) ∧ w'.cell? ⟨gl, 7, none⟩ = some (.int .u64 t0) ∧ w'.cell? ⟨gl, 8, none⟩ = some (.int .i64 t1) ∧ w'.cell? ⟨gl, 9, none⟩ = some (.int .i64 t2) ∧ w'.cell? ⟨gl, 10, none⟩ = some (.int .i64 t3) ∧ w'.cell? ⟨gl, 11, none⟩ = some (.int .i64 t4) ∧ w'.cell? ⟨gl, 12, none⟩ = some (.int .i64 t5) ∧ w'.cell? ⟨gl, 13, none⟩ = some (.int .u64 t6) ∧ w'.cell? ⟨gq, 0, none⟩ = some (.int .u64 t0) ∧ w'.cell? ⟨gq, 1, none⟩ = some (.int .i64 t1) ∧ w'.cell? ⟨gq, 2, none⟩ = some (.int .i64 t2) ∧ w'.cell? ⟨gq, 3, none⟩ = some (.int .i64 t3) ∧ w'.cell? ⟨gq, 4, none⟩ = some (.int .i64 t4) ∧ w'.cell? ⟨gq, 5, none⟩ = some (.int .i64 t5) ∧ w'.cell? ⟨gq, 6, none⟩ = some (.int .u64 t6) ∧ w'.cell? ⟨gx, 0, none⟩ = some (.int .u64 p0) ∧ w'.cell? ⟨gx, 1, none⟩ = some (.int .i64 p1) ∧ w'.cell? ⟨gx, 2, none⟩ = some (.int .i64 p2) ∧ w'.cell? ⟨gx, 3, none⟩ = some (.int .i64 p3) ∧ w'.cell? ⟨gx, 4, none⟩ = some (.int .i64 p4) ∧ w'.cell? ⟨gx, 5, none⟩ = some (.int .i64 p5) ∧ w'.cell? ⟨gx, 6, none⟩ = some (.int .u64 p6)) := Lib.hid fun w' hk => ⟨hk, hk.cell c0, hk.cell c1, hk.cell c2, hk.cell c3, hk.cell c4, hk.cell c5, hk.cell c6, hk.cell c7, hk.cell c8, hk.cell c9, hk.cell c10, hk.cell c11, hk.cell c12, hk.cell c13, hk.cell c14, hk.cell c15, hk.cell c16, hk.cell c17, hk.cell c18, hk.cell c19, hk.cell c20, hk.cell c21, hk.cell c22, hk.cell c23, hk.cell c24, hk.cell c25, hk.cell c26, hk.cell c27, hk.cell c28, hk.cell c29, hk.cell c30, hk.cell c31, hk.cell c32, hk.cell c33, hk.cell c34, hk.cell c35, hk.cell c36⟩
      have hK0 := HNN.out _ (KpS.refl W8)
      have hK1 := HNN.out W8.drew (KpS.of (Moves.refl (fun _ => False) W8).drew)
      clear c0 c1 c2 c3 c4 c5 c6 c7 c8 c9 c10 c11 c12 c13 c14 c15 c16 c17 c18 c19 c20 c21 c22 c23 c24 c25 c26 c27 c28 c29 c30 c31 c32 c33 c34 c35 c36
      go_wp2_with fail
      refine wp_region_held_drew (S := fun w' => KpS W8 w' ∧ w'.cell? ⟨gl + 1, 0, none⟩ = some (.bool true) ∧ w'.cell? ⟨gl + 1, 1, none⟩ = some (.bool false) ∧ w'.cell? ⟨gl, 0, none⟩ = some (.int .u64 p0) ∧ w'.cell? ⟨gl, 1, none⟩ = some (.int .i64 p1) ∧ w'.cell? ⟨gl, 2, none⟩ = some (.int .i64 p2) ∧ w'.cell? ⟨gl, 3, none⟩ = some (.int .i64 p3) ∧ w'.cell? ⟨gl, 4, none⟩ = some (.int .i64 p4) ∧ w'.cell? ⟨gl, 5, none⟩ = some (.int .i64 p5) ∧ w'.cell? ⟨gl, 6, none⟩ = some (.int .u64 p6) ∧ w'.cell? ⟨gp, 0, none⟩ = some (.int .u64 p0) ∧ w'.cell? ⟨gp, 1, none⟩ = some (.int .i64 p1) ∧ w'.cell? ⟨gp, 2, none⟩ = some (.int .i64 p2) ∧ w'.cell? ⟨gp, 3, none⟩ = some (.int .i64 p3) ∧ w'.cell? ⟨gp, 4, none⟩ = some (.int .i64 p4) ∧ w'.cell? ⟨gp, 5, none⟩ = some (.int .i64 p5) ∧ w'.cell? ⟨gp, 6, none⟩ = some (.int .u64 p6) ∧ w'.cell? ⟨gl, 7, none⟩ = some (.int .u64 t0) ∧ w'.cell? ⟨gl, 8, none⟩ = some (.int .i64 t1) ∧ w'.cell? ⟨gl, 9, none⟩ = some (.int .i64 t2) ∧ w'.cell? ⟨gl, 10, none⟩ = some (.int .i64 t3) ∧ w'.cell? ⟨gl, 11, none⟩ = some (.int .i64 t4) ∧ w'.cell? ⟨gl, 12, none⟩ = some (.int .i64 t5) ∧ w'.cell? ⟨gl, 13, none⟩ = some (.int .u64 t6) ∧ w'.cell? ⟨gq, 0, none⟩ = some (.int .u64 t0) ∧ w'.cell? ⟨gq, 1, none⟩ = some (.int .i64 t1) ∧ w'.cell? ⟨gq, 2, none⟩ = some (.int .i64 t2) ∧ w'.cell? ⟨gq, 3, none⟩ = some (.int .i64 t3) ∧ w'.cell? ⟨gq, 4, none⟩ = some (.int .i64 t4) ∧ w'.cell? ⟨gq, 5, none⟩ = some (.int .i64 t5) ∧ w'.cell? ⟨gq, 6, none⟩ = some (.int .u64 t6) ∧ w'.cell? ⟨gx, 0, none⟩ = some (.int .u64 p0) ∧ w'.cell? ⟨gx, 1, none⟩ = some (.int .i64 p1) ∧ w'.cell? ⟨gx, 2, none⟩ = some (.int .i64 p2) ∧ w'.cell? ⟨gx, 3, none⟩ = some (.int .i64 p3) ∧ w'.cell? ⟨gx, 4, none⟩ = some (.int .i64 p4) ∧ w'.cell? ⟨gx, 5, none⟩ = some (.int .i64 p5) ∧ w'.cell? ⟨gx, 6, none⟩ = some (.int .u64 p6)) (by kernel_rfl) ?_ (fun hHeld0 => ?_)
      · try dsimp only
        (first | with_reducible exact hS' | with_reducible exact hK0 | with_reducible exact hK1 | assumption)
      try simp only [List.size_toArray, List.length_cons, List.length_nil, Nat.reduceAdd]
      refine wpAnyH_take (i := 0) (oi := { dst := some 104, op := Op.move (Operand.tmp 14), type := 28, pos := "law.go:73", after := #[], guard := none }) (v := ?_) rfl (by kernel_rfl) (by kernel_rfl) (by kernel_rfl) (fun _ _ _ h => h) (Or.inl ⟨by rfl, ?_⟩) (by assumption) ?_
      rotate_left
      · intro w hSw
        try dsimp only at hSw
        go_simp
        try with_reducible rfl
      try simp only [Act.put, List.setIfInBounds_toArray, List.set_cons_zero, List.set_cons_succ]
      refine wpAnyH_take (i := 1) (oi := { dst := some 105, op := Op.binOp BinOp.neq 3 (Operand.tmp 104) (Operand.const (Value.int IntKind.i64 0)) 3, type := 4, pos := "law.go:73", after := #[{ on := 0, ground := Ground.data }], guard := none }) (v := ?_) rfl (by kernel_rfl) (by kernel_rfl) (by kernel_rfl) (fun _ _ _ h => h) (Or.inl ⟨by rfl, ?_⟩) (by assumption) ?_
      rotate_left
      · intro w hSw
        try dsimp only at hSw
        go_simp
        try with_reducible rfl
      try simp only [Act.put, List.setIfInBounds_toArray, List.set_cons_zero, List.set_cons_succ]
      refine wpAnyH_take (i := 2) (oi := { dst := some 106, op := Op.move (Operand.tmp 105), type := 4, pos := "law.go:73", after := #[{ on := 1, ground := Ground.data }], guard := none }) (v := ?_) rfl (by kernel_rfl) (by kernel_rfl) (by kernel_rfl) (fun _ _ _ h => h) (Or.inl ⟨by rfl, ?_⟩) (by assumption) ?_
      rotate_left
      · intro w hSw
        try dsimp only at hSw
        go_simp
        try with_reducible rfl
      try simp only [Act.put, List.setIfInBounds_toArray, List.set_cons_zero, List.set_cons_succ]
      refine wpAnyH_take (i := 3) (oi := { dst := some 107, op := Op.indexAddr 36 (Operand.tmp 13) (Operand.const (Value.int IntKind.i64 0)), type := 0, pos := "law.go:73", after := #[{ on := 2, ground := Ground.guard }], guard := some (2, false) }) (v := ?_) rfl (by kernel_rfl) (by kernel_rfl) (by kernel_rfl) (fun _ _ _ h => h) (Or.inl ⟨by rfl, ?_⟩) (by assumption) ?_
      rotate_left
      · intro w hSw
        try dsimp only at hSw
        go_simp
        try with_reducible rfl
      try simp only [Act.put, List.setIfInBounds_toArray, List.set_cons_zero, List.set_cons_succ]
      refine wpAnyH_take (i := 4) (oi := { dst := some 108, op := Op.load 4 (Operand.tmp 107), type := 4, pos := "law.go:73", after := #[{ on := 3, ground := Ground.data }, { on := 2, ground := Ground.guard }], guard := some (2, false) }) (v := ?_) rfl (by kernel_rfl) (by kernel_rfl) (by kernel_rfl) (fun _ _ _ h => h) (Or.inl ⟨by rfl, ?_⟩) (by assumption) ?_
      rotate_left
      · intro w hSw
        try dsimp only at hSw
        go_simp
        try with_reducible rfl
      try simp only [Act.put, List.setIfInBounds_toArray, List.set_cons_zero, List.set_cons_succ]
      refine wpAnyH_take (i := 5) (oi := { dst := some 109, op := Op.move (Operand.tmp 18), type := 4, pos := "law.go:73", after := #[{ on := 2, ground := Ground.guard }], guard := some (2, false) }) (v := ?_) rfl (by kernel_rfl) (by kernel_rfl) (by kernel_rfl) (fun _ _ _ h => h) (Or.inl ⟨by rfl, ?_⟩) (by assumption) ?_
      rotate_left
      · intro w hSw
        try dsimp only at hSw
        go_simp
        try with_reducible rfl
      try simp only [Act.put, List.setIfInBounds_toArray, List.set_cons_zero, List.set_cons_succ]
      refine wpAnyH_take (i := 6) (oi := { dst := some 110, op := Op.binOp BinOp.neq 4 (Operand.tmp 108) (Operand.tmp 109) 4, type := 4, pos := "law.go:73", after := #[{ on := 4, ground := Ground.data }, { on := 5, ground := Ground.data }, { on := 2, ground := Ground.guard }], guard := some (2, false) }) (v := ?_) rfl (by kernel_rfl) (by kernel_rfl) (by kernel_rfl) (fun _ _ _ h => h) (Or.inl ⟨by rfl, ?_⟩) (by assumption) ?_
      rotate_left
      · intro w hSw
        try dsimp only at hSw
        go_simp
        try with_reducible rfl
      try simp only [Act.put, List.setIfInBounds_toArray, List.set_cons_zero, List.set_cons_succ]
      refine wpAnyH_take (i := 7) (oi := { dst := some 111, op := Op.pick (Operand.tmp 106) (Operand.const (Value.bool true)) (Operand.tmp 110), type := 4, pos := "law.go:73", after := #[{ on := 2, ground := Ground.data }, { on := 6, ground := Ground.data }], guard := none }) (v := ?_) rfl (by kernel_rfl) (by kernel_rfl) (by kernel_rfl) (fun _ _ _ h => h) (Or.inl ⟨by rfl, ?_⟩) (by assumption) ?_
      rotate_left
      · intro w hSw
        try dsimp only at hSw
        go_simp
        try with_reducible rfl
      try simp only [Act.put, List.setIfInBounds_toArray, List.set_cons_zero, List.set_cons_succ]
      refine wpAnyH_take (i := 8) (oi := { dst := some 112, op := Op.move (Operand.tmp 111), type := 4, pos := "law.go:73", after := #[{ on := 7, ground := Ground.data }, { on := 2, ground := Ground.chain }], guard := none }) (v := ?_) rfl (by kernel_rfl) (by kernel_rfl) (by kernel_rfl) (fun _ _ _ h => h) (Or.inl ⟨by rfl, ?_⟩) (by assumption) ?_
      rotate_left
      · intro w hSw
        try dsimp only at hSw
        go_simp
        try with_reducible rfl
      try simp only [Act.put, List.setIfInBounds_toArray, List.set_cons_zero, List.set_cons_succ]
      refine wpAnyH_take (i := 9) (oi := { dst := some 113, op := Op.indexAddr 36 (Operand.tmp 13) (Operand.const (Value.int IntKind.i64 1)), type := 0, pos := "law.go:73", after := #[{ on := 8, ground := Ground.guard }], guard := some (8, false) }) (v := ?_) rfl (by kernel_rfl) (by kernel_rfl) (by kernel_rfl) (fun _ _ _ h => h) (Or.inl ⟨by rfl, ?_⟩) (by assumption) ?_
      rotate_left
      · intro w hSw
        try dsimp only at hSw
        go_simp
        try with_reducible rfl
      try simp only [Act.put, List.setIfInBounds_toArray, List.set_cons_zero, List.set_cons_succ]
      refine wpAnyH_take (i := 10) (oi := { dst := some 114, op := Op.load 4 (Operand.tmp 113), type := 4, pos := "law.go:73", after := #[{ on := 9, ground := Ground.data }, { on := 8, ground := Ground.guard }], guard := some (8, false) }) (v := ?_) rfl (by kernel_rfl) (by kernel_rfl) (by kernel_rfl) (fun _ _ _ h => h) (Or.inl ⟨by rfl, ?_⟩) (by assumption) ?_
      rotate_left
      · intro w hSw
        try dsimp only at hSw
        go_simp
        try with_reducible rfl
      try simp only [Act.put, List.setIfInBounds_toArray, List.set_cons_zero, List.set_cons_succ]
      refine wpAnyH_take (i := 11) (oi := { dst := some 115, op := Op.move (Operand.tmp 20), type := 4, pos := "law.go:73", after := #[{ on := 8, ground := Ground.guard }], guard := some (8, false) }) (v := ?_) rfl (by kernel_rfl) (by kernel_rfl) (by kernel_rfl) (fun _ _ _ h => h) (Or.inl ⟨by rfl, ?_⟩) (by assumption) ?_
      rotate_left
      · intro w hSw
        try dsimp only at hSw
        go_simp
        try with_reducible rfl
      try simp only [Act.put, List.setIfInBounds_toArray, List.set_cons_zero, List.set_cons_succ]
      refine wpAnyH_take (i := 12) (oi := { dst := some 116, op := Op.binOp BinOp.neq 4 (Operand.tmp 114) (Operand.tmp 115) 4, type := 4, pos := "law.go:73", after := #[{ on := 10, ground := Ground.data }, { on := 11, ground := Ground.data }, { on := 8, ground := Ground.guard }], guard := some (8, false) }) (v := ?_) rfl (by kernel_rfl) (by kernel_rfl) (by kernel_rfl) (fun _ _ _ h => h) (Or.inl ⟨by rfl, ?_⟩) (by assumption) ?_
      rotate_left
      · intro w hSw
        try dsimp only at hSw
        go_simp
        try with_reducible rfl
      try simp only [Act.put, List.setIfInBounds_toArray, List.set_cons_zero, List.set_cons_succ]
      refine wpAnyH_take (i := 13) (oi := { dst := some 117, op := Op.pick (Operand.tmp 112) (Operand.const (Value.bool true)) (Operand.tmp 116), type := 4, pos := "law.go:73", after := #[{ on := 8, ground := Ground.data }, { on := 12, ground := Ground.data }], guard := none }) (v := ?_) rfl (by kernel_rfl) (by kernel_rfl) (by kernel_rfl) (fun _ _ _ h => h) (Or.inl ⟨by rfl, ?_⟩) (by assumption) ?_
      rotate_left
      · intro w hSw
        try dsimp only at hSw
        go_simp
        try with_reducible rfl
      try simp only [Act.put, List.setIfInBounds_toArray, List.set_cons_zero, List.set_cons_succ]
      refine wpAnyH_take (i := 14) (oi := { dst := some 118, op := Op.move (Operand.tmp 117), type := 4, pos := "law.go:73", after := #[{ on := 13, ground := Ground.data }, { on := 8, ground := Ground.chain }], guard := none }) (v := ?_) rfl (by kernel_rfl) (by kernel_rfl) (by kernel_rfl) (fun _ _ _ h => h) (Or.inl ⟨by rfl, ?_⟩) (by assumption) ?_
      rotate_left
      · intro w hSw
        try dsimp only at hSw
        go_simp
        try with_reducible rfl
      try simp only [Act.put, List.setIfInBounds_toArray, List.set_cons_zero, List.set_cons_succ]
      refine wpAnyH_take (i := 15) (oi := { dst := some 119, op := Op.move (Operand.tmp 18), type := 4, pos := "law.go:73", after := #[{ on := 14, ground := Ground.guard }], guard := some (14, false) }) (v := ?_) rfl (by kernel_rfl) (by kernel_rfl) (by kernel_rfl) (fun _ _ _ h => h) (Or.inl ⟨by rfl, ?_⟩) (by assumption) ?_
      rotate_left
      · intro w hSw
        try dsimp only at hSw
        go_simp
        try with_reducible rfl
      try simp only [Act.put, List.setIfInBounds_toArray, List.set_cons_zero, List.set_cons_succ]
      refine wpAnyH_take (i := 16) (oi := { dst := some 120, op := Op.move (Operand.tmp 119), type := 4, pos := "law.go:73", after := #[{ on := 15, ground := Ground.data }, { on := 14, ground := Ground.chain }, { on := 14, ground := Ground.guard }], guard := some (14, false) }) (v := ?_) rfl (by kernel_rfl) (by kernel_rfl) (by kernel_rfl) (fun _ _ _ h => h) (Or.inl ⟨by rfl, ?_⟩) (by assumption) ?_
      rotate_left
      · intro w hSw
        try dsimp only at hSw
        go_simp
        try with_reducible rfl
      try simp only [Act.put, List.setIfInBounds_toArray, List.set_cons_zero, List.set_cons_succ]
      refine wpAnyH_take (i := 17) (oi := { dst := some 121, op := Op.indexAddr 35 (Operand.tmp 12) (Operand.const (Value.int IntKind.i64 0)), type := 0, pos := "law.go:73", after := #[{ on := 16, ground := Ground.guard }], guard := some (16, true) }) (v := ?_) rfl (by kernel_rfl) (by kernel_rfl) (by kernel_rfl) (fun _ _ _ h => h) (Or.inl ⟨by rfl, ?_⟩) (by assumption) ?_
      rotate_left
      · intro w hSw
        try dsimp only at hSw
        go_simp
        try with_reducible rfl
      try simp only [Act.put, List.setIfInBounds_toArray, List.set_cons_zero, List.set_cons_succ]
      refine wpAnyH_take (i := 18) (oi := { dst := some 122, op := Op.load 32 (Operand.tmp 121), type := 32, pos := "law.go:73", after := #[{ on := 17, ground := Ground.data }, { on := 16, ground := Ground.guard }], guard := some (16, true) }) (v := ?_) rfl (by kernel_rfl) (by kernel_rfl) (by kernel_rfl) (fun _ _ _ h => h) (Or.inl ⟨by rfl, ?_⟩) (by assumption) ?_
      rotate_left
      · intro w hSw
        try dsimp only at hSw
        go_simp
        try with_reducible rfl
      try simp only [Act.put, List.setIfInBounds_toArray, List.set_cons_zero, List.set_cons_succ]
      refine wpAnyH_take (i := 20) (oi := { dst := some 124, op := Op.load 49 (Operand.tmp 17), type := 49, pos := "law.go:73", after := #[{ on := 16, ground := Ground.guard }], guard := some (16, true) }) (v := ?_) rfl (by kernel_rfl) (by kernel_rfl) (by kernel_rfl) (fun _ _ _ h => h) (Or.inl ⟨by rfl, ?_⟩) (by assumption) ?_
      rotate_left
      · intro w hSw
        try dsimp only at hSw
        go_simp
        try with_reducible rfl
      try simp only [Act.put, List.setIfInBounds_toArray, List.set_cons_zero, List.set_cons_succ]
      refine wpAnyH_ready (rs := [19]) (by kernel_rfl) (by simp) ?_
      refine AllReadyH.cons (o := { dst := some 123, op := Op.call { callee := Callee.value (Operand.func 23), args := #[Operand.tmp 122], argTypes := #[32] }, type := 49, pos := "law.go:73", after := #[{ on := 18, ground := Ground.data }, { on := 16, ground := Ground.chain }, { on := 16, ground := Ground.guard }], guard := some (16, true) }) rfl (fun K hK => ?_) ?_
      · go_simp
        (first
          | (go_at_call 23; (with_reducible refine (HOP.out _).mono ?_); rintro e w' ⟨rfl, hl⟩; have hS' := HNN.out _ (KpS.of ((KpS.moves (And.left (by assumption))).trans hl)))
          | fail)
        go_wp2_with fail
        refine hK.out _ _ ?_ (fun hHeld1 => ?_)
        · try dsimp only
          (first | with_reducible exact hS' | with_reducible exact hK0 | with_reducible exact hK1 | assumption)
        clear hK K hHeld0
        try simp only [Act.put, List.setIfInBounds_toArray, List.set_cons_zero, List.set_cons_succ]
        refine wpAnyH_take (i := 21) (oi := { dst := some 125, op := Op.binOp BinOp.neq 49 (Operand.tmp 123) (Operand.tmp 124) 49, type := 4, pos := "law.go:73", after := #[{ on := 19, ground := Ground.data }, { on := 20, ground := Ground.data }, { on := 16, ground := Ground.guard }], guard := some (16, true) }) (v := ?_) rfl (by kernel_rfl) (by kernel_rfl) (by kernel_rfl) (fun _ _ _ h => h) (Or.inl ⟨by rfl, ?_⟩) (by assumption) ?_
        rotate_left
        · intro w hSw
          try dsimp only at hSw
          go_simp
          try with_reducible rfl
        try simp only [Act.put, List.setIfInBounds_toArray, List.set_cons_zero, List.set_cons_succ]
        refine wpAnyH_take (i := 22) (oi := { dst := some 126, op := Op.pick (Operand.tmp 120) (Operand.tmp 125) (Operand.const (Value.bool false)), type := 4, pos := "law.go:73", after := #[{ on := 16, ground := Ground.data }, { on := 21, ground := Ground.data }, { on := 14, ground := Ground.guard }], guard := some (14, false) }) (v := ?_) rfl (by kernel_rfl) (by kernel_rfl) (by kernel_rfl) (fun _ _ _ h => h) (Or.inl ⟨by rfl, ?_⟩) (by assumption) ?_
        rotate_left
        · intro w hSw
          try dsimp only at hSw
          go_simp
          try with_reducible rfl
        try simp only [Act.put, List.setIfInBounds_toArray, List.set_cons_zero, List.set_cons_succ]
        refine wpAnyH_take (i := 23) (oi := { dst := some 127, op := Op.pick (Operand.tmp 118) (Operand.const (Value.bool true)) (Operand.tmp 126), type := 4, pos := "law.go:73", after := #[{ on := 14, ground := Ground.data }, { on := 22, ground := Ground.data }], guard := none }) (v := ?_) rfl (by kernel_rfl) (by kernel_rfl) (by kernel_rfl) (fun _ _ _ h => h) (Or.inl ⟨by rfl, ?_⟩) (by assumption) ?_
        rotate_left
        · intro w hSw
          try dsimp only at hSw
          go_simp
          try with_reducible rfl
        try simp only [Act.put, List.setIfInBounds_toArray, List.set_cons_zero, List.set_cons_succ]
        refine wpAnyH_take (i := 24) (oi := { dst := some 128, op := Op.move (Operand.tmp 127), type := 4, pos := "law.go:73", after := #[{ on := 23, ground := Ground.data }, { on := 19, ground := Ground.chain }], guard := none }) (v := ?_) rfl (by kernel_rfl) (by kernel_rfl) (by kernel_rfl) (fun _ _ _ h => h) (Or.inl ⟨by rfl, ?_⟩) (by assumption) ?_
        rotate_left
        · intro w hSw
          try dsimp only at hSw
          go_simp
          try with_reducible rfl
        try simp only [Act.put, List.setIfInBounds_toArray, List.set_cons_zero, List.set_cons_succ]
        refine wpAnyH_take (i := 25) (oi := { dst := some 129, op := Op.move (Operand.tmp 20), type := 4, pos := "law.go:73", after := #[{ on := 24, ground := Ground.guard }], guard := some (24, false) }) (v := ?_) rfl (by kernel_rfl) (by kernel_rfl) (by kernel_rfl) (fun _ _ _ h => h) (Or.inl ⟨by rfl, ?_⟩) (by assumption) ?_
        rotate_left
        · intro w hSw
          try dsimp only at hSw
          go_simp
          try with_reducible rfl
        try simp only [Act.put, List.setIfInBounds_toArray, List.set_cons_zero, List.set_cons_succ]
        refine wpAnyH_take (i := 26) (oi := { dst := some 130, op := Op.move (Operand.tmp 129), type := 4, pos := "law.go:73", after := #[{ on := 25, ground := Ground.data }, { on := 24, ground := Ground.chain }, { on := 24, ground := Ground.guard }], guard := some (24, false) }) (v := ?_) rfl (by kernel_rfl) (by kernel_rfl) (by kernel_rfl) (fun _ _ _ h => h) (Or.inl ⟨by rfl, ?_⟩) (by assumption) ?_
        rotate_left
        · intro w hSw
          try dsimp only at hSw
          go_simp
          try with_reducible rfl
        try simp only [Act.put, List.setIfInBounds_toArray, List.set_cons_zero, List.set_cons_succ]
        refine wpAnyH_take (i := 27) (oi := { dst := some 131, op := Op.indexAddr 35 (Operand.tmp 12) (Operand.const (Value.int IntKind.i64 1)), type := 0, pos := "law.go:73", after := #[{ on := 26, ground := Ground.guard }], guard := some (26, true) }) (v := undef) rfl (by kernel_rfl) (by kernel_rfl) (by kernel_rfl) (fun _ _ _ h => h) (Or.inr ⟨by kernel_rfl, rfl⟩) (by assumption) ?_
        try simp only [Act.put, List.setIfInBounds_toArray, List.set_cons_zero, List.set_cons_succ]
        refine wpAnyH_take (i := 28) (oi := { dst := some 132, op := Op.load 32 (Operand.tmp 131), type := 32, pos := "law.go:73", after := #[{ on := 27, ground := Ground.data }, { on := 26, ground := Ground.guard }], guard := some (26, true) }) (v := undef) rfl (by kernel_rfl) (by kernel_rfl) (by kernel_rfl) (fun _ _ _ h => h) (Or.inr ⟨by kernel_rfl, rfl⟩) (by assumption) ?_
        try simp only [Act.put, List.setIfInBounds_toArray, List.set_cons_zero, List.set_cons_succ]
        refine wpAnyH_take (i := 29) (oi := { dst := some 133, op := Op.call { callee := Callee.value (Operand.func 23), args := #[Operand.tmp 132], argTypes := #[32] }, type := 49, pos := "law.go:73", after := #[{ on := 28, ground := Ground.data }, { on := 26, ground := Ground.chain }, { on := 26, ground := Ground.guard }], guard := some (26, true) }) (v := undef) rfl (by kernel_rfl) (by kernel_rfl) (by kernel_rfl) (fun _ _ _ h => h) (Or.inr ⟨by kernel_rfl, rfl⟩) (by assumption) ?_
        try simp only [Act.put, List.setIfInBounds_toArray, List.set_cons_zero, List.set_cons_succ]
        refine wpAnyH_take (i := 30) (oi := { dst := some 134, op := Op.load 49 (Operand.tmp 19), type := 49, pos := "law.go:73", after := #[{ on := 26, ground := Ground.guard }], guard := some (26, true) }) (v := undef) rfl (by kernel_rfl) (by kernel_rfl) (by kernel_rfl) (fun _ _ _ h => h) (Or.inr ⟨by kernel_rfl, rfl⟩) (by assumption) ?_
        try simp only [Act.put, List.setIfInBounds_toArray, List.set_cons_zero, List.set_cons_succ]
        refine wpAnyH_take (i := 31) (oi := { dst := some 135, op := Op.binOp BinOp.neq 49 (Operand.tmp 133) (Operand.tmp 134) 49, type := 4, pos := "law.go:73", after := #[{ on := 29, ground := Ground.data }, { on := 30, ground := Ground.data }, { on := 26, ground := Ground.guard }], guard := some (26, true) }) (v := undef) rfl (by kernel_rfl) (by kernel_rfl) (by kernel_rfl) (fun _ _ _ h => h) (Or.inr ⟨by kernel_rfl, rfl⟩) (by assumption) ?_
        try simp only [Act.put, List.setIfInBounds_toArray, List.set_cons_zero, List.set_cons_succ]
        refine wpAnyH_take (i := 32) (oi := { dst := some 136, op := Op.pick (Operand.tmp 130) (Operand.tmp 135) (Operand.const (Value.bool false)), type := 4, pos := "law.go:73", after := #[{ on := 26, ground := Ground.data }, { on := 31, ground := Ground.data }, { on := 24, ground := Ground.guard }], guard := some (24, false) }) (v := ?_) rfl (by kernel_rfl) (by kernel_rfl) (by kernel_rfl) (fun _ _ _ h => h) (Or.inl ⟨by rfl, ?_⟩) (by assumption) ?_
        rotate_left
        · intro w hSw
          try dsimp only at hSw
          go_simp
          try with_reducible rfl
        try simp only [Act.put, List.setIfInBounds_toArray, List.set_cons_zero, List.set_cons_succ]
        refine wpAnyH_take (i := 33) (oi := { dst := some 137, op := Op.pick (Operand.tmp 128) (Operand.const (Value.bool true)) (Operand.tmp 136), type := 4, pos := "law.go:73", after := #[{ on := 24, ground := Ground.data }, { on := 32, ground := Ground.data }], guard := none }) (v := ?_) rfl (by kernel_rfl) (by kernel_rfl) (by kernel_rfl) (fun _ _ _ h => h) (Or.inl ⟨by rfl, ?_⟩) (by assumption) ?_
        rotate_left
        · intro w hSw
          try dsimp only at hSw
          go_simp
          try with_reducible rfl
        try simp only [Act.put, List.setIfInBounds_toArray, List.set_cons_zero, List.set_cons_succ]
        refine wpAnyH_done (by kernel_rfl) ?_ _
        have hT1 := HNN.out w'.drew (KpS.of ((KpS.moves (And.left hS')).trans (Moves.refl (fun _ => False) w').drew))
        go_wp2_with fail
        go_region_held3 (fun w' => KpS W8 w' ∧ w'.cell? ⟨gl + 1, 0, none⟩ = some (.bool true) ∧ w'.cell? ⟨gl + 1, 1, none⟩ = some (.bool false) ∧ w'.cell? ⟨gl, 0, none⟩ = some (.int .u64 p0) ∧ w'.cell? ⟨gl, 1, none⟩ = some (.int .i64 p1) ∧ w'.cell? ⟨gl, 2, none⟩ = some (.int .i64 p2) ∧ w'.cell? ⟨gl, 3, none⟩ = some (.int .i64 p3) ∧ w'.cell? ⟨gl, 4, none⟩ = some (.int .i64 p4) ∧ w'.cell? ⟨gl, 5, none⟩ = some (.int .i64 p5) ∧ w'.cell? ⟨gl, 6, none⟩ = some (.int .u64 p6) ∧ w'.cell? ⟨gp, 0, none⟩ = some (.int .u64 p0) ∧ w'.cell? ⟨gp, 1, none⟩ = some (.int .i64 p1) ∧ w'.cell? ⟨gp, 2, none⟩ = some (.int .i64 p2) ∧ w'.cell? ⟨gp, 3, none⟩ = some (.int .i64 p3) ∧ w'.cell? ⟨gp, 4, none⟩ = some (.int .i64 p4) ∧ w'.cell? ⟨gp, 5, none⟩ = some (.int .i64 p5) ∧ w'.cell? ⟨gp, 6, none⟩ = some (.int .u64 p6) ∧ w'.cell? ⟨gl, 7, none⟩ = some (.int .u64 t0) ∧ w'.cell? ⟨gl, 8, none⟩ = some (.int .i64 t1) ∧ w'.cell? ⟨gl, 9, none⟩ = some (.int .i64 t2) ∧ w'.cell? ⟨gl, 10, none⟩ = some (.int .i64 t3) ∧ w'.cell? ⟨gl, 11, none⟩ = some (.int .i64 t4) ∧ w'.cell? ⟨gl, 12, none⟩ = some (.int .i64 t5) ∧ w'.cell? ⟨gl, 13, none⟩ = some (.int .u64 t6) ∧ w'.cell? ⟨gq, 0, none⟩ = some (.int .u64 t0) ∧ w'.cell? ⟨gq, 1, none⟩ = some (.int .i64 t1) ∧ w'.cell? ⟨gq, 2, none⟩ = some (.int .i64 t2) ∧ w'.cell? ⟨gq, 3, none⟩ = some (.int .i64 t3) ∧ w'.cell? ⟨gq, 4, none⟩ = some (.int .i64 t4) ∧ w'.cell? ⟨gq, 5, none⟩ = some (.int .i64 t5) ∧ w'.cell? ⟨gq, 6, none⟩ = some (.int .u64 t6) ∧ w'.cell? ⟨gx, 0, none⟩ = some (.int .u64 p0) ∧ w'.cell? ⟨gx, 1, none⟩ = some (.int .i64 p1) ∧ w'.cell? ⟨gx, 2, none⟩ = some (.int .i64 p2) ∧ w'.cell? ⟨gx, 3, none⟩ = some (.int .i64 p3) ∧ w'.cell? ⟨gx, 4, none⟩ = some (.int .i64 p4) ∧ w'.cell? ⟨gx, 5, none⟩ = some (.int .i64 p5) ∧ w'.cell? ⟨gx, 6, none⟩ = some (.int .u64 p6)) (first | with_reducible exact hS2 | with_reducible exact hS' | with_reducible exact hT1 | assumption)
          (first
            | (go_at_call 23; (with_reducible refine (HOP.out _).mono ?_); rintro e w2 ⟨rfl, hl⟩; have hS2 := HNN.out _ (KpS.of ((KpS.moves (And.left (by assumption))).trans hl)))
            | fail)
        all_goals
          go_wp2
          go_ret
          exact ⟨rfl, M.out.trans (KpS.moves (And.left hS2))⟩
      exact AllReadyH.nil
    | true =>
      by_cases he : t0 < p0
      ·
        obtain ⟨⟨rfl, rfl, rfl, rfl, rfl, rfl, rfl⟩, rfl⟩ := S1.out rfl (.inr he)
        have c0 : W8.cell? ⟨gl + 1, 0, none⟩ = some (.bool true) := cellAt O8.out 0 rfl
        have c1 : W8.cell? ⟨gl + 1, 1, none⟩ = some (.bool true) := cellAt O8.out 1 rfl
        have c2 : W8.cell? ⟨gl, 0, none⟩ = some (.int .u64 p0) := cellAt L8.out 0 rfl
        have c3 : W8.cell? ⟨gl, 1, none⟩ = some (.int .i64 p1) := cellAt L8.out 1 rfl
        have c4 : W8.cell? ⟨gl, 2, none⟩ = some (.int .i64 p2) := cellAt L8.out 2 rfl
        have c5 : W8.cell? ⟨gl, 3, none⟩ = some (.int .i64 p3) := cellAt L8.out 3 rfl
        have c6 : W8.cell? ⟨gl, 4, none⟩ = some (.int .i64 p4) := cellAt L8.out 4 rfl
        have c7 : W8.cell? ⟨gl, 5, none⟩ = some (.int .i64 p5) := cellAt L8.out 5 rfl
        have c8 : W8.cell? ⟨gl, 6, none⟩ = some (.int .u64 p6) := cellAt L8.out 6 rfl
        have c9 : W8.cell? ⟨gp, 0, none⟩ = some (.int .u64 p0) := cellAt P8.out 0 rfl
        have c10 : W8.cell? ⟨gp, 1, none⟩ = some (.int .i64 p1) := cellAt P8.out 1 rfl
        have c11 : W8.cell? ⟨gp, 2, none⟩ = some (.int .i64 p2) := cellAt P8.out 2 rfl
        have c12 : W8.cell? ⟨gp, 3, none⟩ = some (.int .i64 p3) := cellAt P8.out 3 rfl
        have c13 : W8.cell? ⟨gp, 4, none⟩ = some (.int .i64 p4) := cellAt P8.out 4 rfl
        have c14 : W8.cell? ⟨gp, 5, none⟩ = some (.int .i64 p5) := cellAt P8.out 5 rfl
        have c15 : W8.cell? ⟨gp, 6, none⟩ = some (.int .u64 p6) := cellAt P8.out 6 rfl
        have c16 : W8.cell? ⟨gl, 7, none⟩ = some (.int .u64 t0) := cellAt L8.out 7 rfl
        have c17 : W8.cell? ⟨gl, 8, none⟩ = some (.int .i64 t1) := cellAt L8.out 8 rfl
        have c18 : W8.cell? ⟨gl, 9, none⟩ = some (.int .i64 t2) := cellAt L8.out 9 rfl
        have c19 : W8.cell? ⟨gl, 10, none⟩ = some (.int .i64 t3) := cellAt L8.out 10 rfl
        have c20 : W8.cell? ⟨gl, 11, none⟩ = some (.int .i64 t4) := cellAt L8.out 11 rfl
        have c21 : W8.cell? ⟨gl, 12, none⟩ = some (.int .i64 t5) := cellAt L8.out 12 rfl
        have c22 : W8.cell? ⟨gl, 13, none⟩ = some (.int .u64 t6) := cellAt L8.out 13 rfl
        have c23 : W8.cell? ⟨gq, 0, none⟩ = some (.int .u64 t0) := cellAt Q8.out 0 rfl
        have c24 : W8.cell? ⟨gq, 1, none⟩ = some (.int .i64 t1) := cellAt Q8.out 1 rfl
        have c25 : W8.cell? ⟨gq, 2, none⟩ = some (.int .i64 t2) := cellAt Q8.out 2 rfl
        have c26 : W8.cell? ⟨gq, 3, none⟩ = some (.int .i64 t3) := cellAt Q8.out 3 rfl
        have c27 : W8.cell? ⟨gq, 4, none⟩ = some (.int .i64 t4) := cellAt Q8.out 4 rfl
        have c28 : W8.cell? ⟨gq, 5, none⟩ = some (.int .i64 t5) := cellAt Q8.out 5 rfl
        have c29 : W8.cell? ⟨gq, 6, none⟩ = some (.int .u64 t6) := cellAt Q8.out 6 rfl
        have c30 : W8.cell? ⟨gx, 0, none⟩ = some (.int .u64 p0) := cellAt X8.out 0 rfl
        have c31 : W8.cell? ⟨gx, 1, none⟩ = some (.int .i64 p1) := cellAt X8.out 1 rfl
        have c32 : W8.cell? ⟨gx, 2, none⟩ = some (.int .i64 p2) := cellAt X8.out 2 rfl
        have c33 : W8.cell? ⟨gx, 3, none⟩ = some (.int .i64 p3) := cellAt X8.out 3 rfl
        have c34 : W8.cell? ⟨gx, 4, none⟩ = some (.int .i64 p4) := cellAt X8.out 4 rfl
        have c35 : W8.cell? ⟨gx, 5, none⟩ = some (.int .i64 p5) := cellAt X8.out 5 rfl
        have c36 : W8.cell? ⟨gx, 6, none⟩ = some (.int .u64 p6) := cellAt X8.out 6 rfl
        have HNN : Hid (∀ w', KpS W8 w' → KpS W8 w' ∧ w'.cell? ⟨gl + 1, 0, none⟩ = some (.bool true) ∧ w'.cell? ⟨gl + 1, 1, none⟩ = some (.bool true) ∧ w'.cell? ⟨gl, 0, none⟩ = some (.int .u64 p0) ∧ w'.cell? ⟨gl, 1, none⟩ = some (.int .i64 p1) ∧ w'.cell? ⟨gl, 2, none⟩ = some (.int .i64 p2) ∧ w'.cell? ⟨gl, 3, none⟩ = some (.int .i64 p3) ∧ w'.cell? ⟨gl, 4, none⟩ = some (.int .i64 p4) ∧ w'.cell? ⟨gl, 5, none⟩ = some (.int .i64 p5) ∧ w'.cell? ⟨gl, 6, none⟩ = some (.int .u64 p6) ∧ w'.cell? ⟨gp, 0, none⟩ = some (.int .u64 p0) ∧ w'.cell? ⟨gp, 1, none⟩ = some (.int .i64 p1) ∧ w'.cell? ⟨gp, 2, none⟩ = some (.int .i64 p2) ∧ w'.cell? ⟨gp, 3, none⟩ = some (.int .i64 p3) ∧ w'.cell? ⟨gp, 4, none⟩ = some (.int .i64 p4) ∧ w'.cell? ⟨gp, 5, none⟩ = some (.int .i64 p5) ∧ w'.cell? ⟨gp, 6, none⟩ = some (.int .u64 p6) ∧ w'.cell? ⟨gl, 7, none⟩ = some (.int .u64 t0) ∧ w'.cell? ⟨gl, 8, none⟩ = some (.int .i64 t1) ∧ w'.cell? ⟨gl, 9, none⟩ = some (.int .i64 t2) ∧ w'.cell? ⟨gl, 10, none⟩ = some (.int .i64 t3) ∧ w'.cell? ⟨gl, 11, none⟩ = some (.int .i64 t4) ∧ w'.cell? ⟨gl, 12, none⟩ = some (.int .i64 t5) ∧ w'.cell? ⟨gl, 13, none⟩ = some (.int .u64 t6) ∧ w'.cell? ⟨gq, 0, none⟩ = some (.int .u64 t0) ∧ w'.cell? ⟨gq, 1, none⟩ = some (.int .i64 t1) ∧ w'.cell? ⟨gq, 2, none⟩ = some (.int .i64 t2) ∧ w'.cell? ⟨gq, 3, none⟩ = some (.int .i64 t3) ∧ w'.cell? ⟨gq, 4, none⟩ = some (.int .i64 t4) ∧ w'.cell? ⟨gq, 5, none⟩ = some (.int .i64 t5) ∧ w'.cell? ⟨gq, 6, none⟩ = some (.int .u64 t6) ∧ w'.cell? ⟨gx, 0, none⟩ = some (.int .u64 p0) ∧ w'.cell? ⟨gx, 1, none⟩ = some (.int .i64 p1) ∧ w'.cell? ⟨gx, 2, none⟩ = some (.int .i64 p2) ∧ w'.cell? ⟨gx, 3, none⟩ = some (.int .i64 p3) ∧ w'.cell? ⟨gx, 4, none⟩ = some (.int .i64 p4) ∧ w'.cell? ⟨gx, 5, none⟩ = some (.int .i64 p5) ∧ w'.cell? ⟨gx, 6, none⟩ = some (.int .u64 p6)) := Lib.hid fun w' hk => ⟨hk, hk.cell c0, hk.cell c1, hk.cell c2, hk.cell c3, hk.cell c4, hk.cell c5, hk.cell c6, hk.cell c7, hk.cell c8, hk.cell c9, hk.cell c10, hk.cell c11, hk.cell c12, hk.cell c13, hk.cell c14, hk.cell c15, hk.cell c16, hk.cell c17, hk.cell c18, hk.cell c19, hk.cell c20, hk.cell c21, hk.cell c22, hk.cell c23, hk.cell c24, hk.cell c25, hk.cell c26, hk.cell c27, hk.cell c28, hk.cell c29, hk.cell c30, hk.cell c31, hk.cell c32, hk.cell c33, hk.cell c34, hk.cell c35, hk.cell c36⟩
        have hK0 := HNN.out _ (KpS.refl W8)
        have hK1 := HNN.out W8.drew (KpS.of (Moves.refl (fun _ => False) W8).drew)
        clear c0 c1 c2 c3 c4 c5 c6 c7 c8 c9 c10 c11 c12 c13 c14 c15 c16 c17 c18 c19 c20 c21 c22 c23 c24 c25 c26 c27 c28 c29 c30 c31 c32 c33 c34 c35 c36
        go_wp2_with fail
        go_region_held3 (fun w' => KpS W8 w' ∧ w'.cell? ⟨gl + 1, 0, none⟩ = some (.bool true) ∧ w'.cell? ⟨gl + 1, 1, none⟩ = some (.bool true) ∧ w'.cell? ⟨gl, 0, none⟩ = some (.int .u64 p0) ∧ w'.cell? ⟨gl, 1, none⟩ = some (.int .i64 p1) ∧ w'.cell? ⟨gl, 2, none⟩ = some (.int .i64 p2) ∧ w'.cell? ⟨gl, 3, none⟩ = some (.int .i64 p3) ∧ w'.cell? ⟨gl, 4, none⟩ = some (.int .i64 p4) ∧ w'.cell? ⟨gl, 5, none⟩ = some (.int .i64 p5) ∧ w'.cell? ⟨gl, 6, none⟩ = some (.int .u64 p6) ∧ w'.cell? ⟨gp, 0, none⟩ = some (.int .u64 p0) ∧ w'.cell? ⟨gp, 1, none⟩ = some (.int .i64 p1) ∧ w'.cell? ⟨gp, 2, none⟩ = some (.int .i64 p2) ∧ w'.cell? ⟨gp, 3, none⟩ = some (.int .i64 p3) ∧ w'.cell? ⟨gp, 4, none⟩ = some (.int .i64 p4) ∧ w'.cell? ⟨gp, 5, none⟩ = some (.int .i64 p5) ∧ w'.cell? ⟨gp, 6, none⟩ = some (.int .u64 p6) ∧ w'.cell? ⟨gl, 7, none⟩ = some (.int .u64 t0) ∧ w'.cell? ⟨gl, 8, none⟩ = some (.int .i64 t1) ∧ w'.cell? ⟨gl, 9, none⟩ = some (.int .i64 t2) ∧ w'.cell? ⟨gl, 10, none⟩ = some (.int .i64 t3) ∧ w'.cell? ⟨gl, 11, none⟩ = some (.int .i64 t4) ∧ w'.cell? ⟨gl, 12, none⟩ = some (.int .i64 t5) ∧ w'.cell? ⟨gl, 13, none⟩ = some (.int .u64 t6) ∧ w'.cell? ⟨gq, 0, none⟩ = some (.int .u64 t0) ∧ w'.cell? ⟨gq, 1, none⟩ = some (.int .i64 t1) ∧ w'.cell? ⟨gq, 2, none⟩ = some (.int .i64 t2) ∧ w'.cell? ⟨gq, 3, none⟩ = some (.int .i64 t3) ∧ w'.cell? ⟨gq, 4, none⟩ = some (.int .i64 t4) ∧ w'.cell? ⟨gq, 5, none⟩ = some (.int .i64 t5) ∧ w'.cell? ⟨gq, 6, none⟩ = some (.int .u64 t6) ∧ w'.cell? ⟨gx, 0, none⟩ = some (.int .u64 p0) ∧ w'.cell? ⟨gx, 1, none⟩ = some (.int .i64 p1) ∧ w'.cell? ⟨gx, 2, none⟩ = some (.int .i64 p2) ∧ w'.cell? ⟨gx, 3, none⟩ = some (.int .i64 p3) ∧ w'.cell? ⟨gx, 4, none⟩ = some (.int .i64 p4) ∧ w'.cell? ⟨gx, 5, none⟩ = some (.int .i64 p5) ∧ w'.cell? ⟨gx, 6, none⟩ = some (.int .u64 p6)) (first | with_reducible exact hS' | with_reducible exact hK0 | with_reducible exact hK1 | assumption)
          (first
            | (go_at_call 23; (with_reducible refine (HOP.out _).mono ?_); rintro e w' ⟨rfl, hl⟩; have hS' := HNN.out _ (KpS.of ((KpS.moves (And.left (by assumption))).trans hl)))
            | (go_at_call 23; (with_reducible refine (HOQ.out _).mono ?_); rintro e w' ⟨rfl, hl⟩; have hS' := HNN.out _ (KpS.of ((KpS.moves (And.left (by assumption))).trans hl)))
            | fail)
        all_goals
          have hT1 := HNN.out w'.drew (KpS.of ((KpS.moves (And.left hS')).trans (Moves.refl (fun _ => False) w').drew))
          go_wp2_with fail
          go_region_held3 (fun w' => KpS W8 w' ∧ w'.cell? ⟨gl + 1, 0, none⟩ = some (.bool true) ∧ w'.cell? ⟨gl + 1, 1, none⟩ = some (.bool true) ∧ w'.cell? ⟨gl, 0, none⟩ = some (.int .u64 p0) ∧ w'.cell? ⟨gl, 1, none⟩ = some (.int .i64 p1) ∧ w'.cell? ⟨gl, 2, none⟩ = some (.int .i64 p2) ∧ w'.cell? ⟨gl, 3, none⟩ = some (.int .i64 p3) ∧ w'.cell? ⟨gl, 4, none⟩ = some (.int .i64 p4) ∧ w'.cell? ⟨gl, 5, none⟩ = some (.int .i64 p5) ∧ w'.cell? ⟨gl, 6, none⟩ = some (.int .u64 p6) ∧ w'.cell? ⟨gp, 0, none⟩ = some (.int .u64 p0) ∧ w'.cell? ⟨gp, 1, none⟩ = some (.int .i64 p1) ∧ w'.cell? ⟨gp, 2, none⟩ = some (.int .i64 p2) ∧ w'.cell? ⟨gp, 3, none⟩ = some (.int .i64 p3) ∧ w'.cell? ⟨gp, 4, none⟩ = some (.int .i64 p4) ∧ w'.cell? ⟨gp, 5, none⟩ = some (.int .i64 p5) ∧ w'.cell? ⟨gp, 6, none⟩ = some (.int .u64 p6) ∧ w'.cell? ⟨gl, 7, none⟩ = some (.int .u64 t0) ∧ w'.cell? ⟨gl, 8, none⟩ = some (.int .i64 t1) ∧ w'.cell? ⟨gl, 9, none⟩ = some (.int .i64 t2) ∧ w'.cell? ⟨gl, 10, none⟩ = some (.int .i64 t3) ∧ w'.cell? ⟨gl, 11, none⟩ = some (.int .i64 t4) ∧ w'.cell? ⟨gl, 12, none⟩ = some (.int .i64 t5) ∧ w'.cell? ⟨gl, 13, none⟩ = some (.int .u64 t6) ∧ w'.cell? ⟨gq, 0, none⟩ = some (.int .u64 t0) ∧ w'.cell? ⟨gq, 1, none⟩ = some (.int .i64 t1) ∧ w'.cell? ⟨gq, 2, none⟩ = some (.int .i64 t2) ∧ w'.cell? ⟨gq, 3, none⟩ = some (.int .i64 t3) ∧ w'.cell? ⟨gq, 4, none⟩ = some (.int .i64 t4) ∧ w'.cell? ⟨gq, 5, none⟩ = some (.int .i64 t5) ∧ w'.cell? ⟨gq, 6, none⟩ = some (.int .u64 t6) ∧ w'.cell? ⟨gx, 0, none⟩ = some (.int .u64 p0) ∧ w'.cell? ⟨gx, 1, none⟩ = some (.int .i64 p1) ∧ w'.cell? ⟨gx, 2, none⟩ = some (.int .i64 p2) ∧ w'.cell? ⟨gx, 3, none⟩ = some (.int .i64 p3) ∧ w'.cell? ⟨gx, 4, none⟩ = some (.int .i64 p4) ∧ w'.cell? ⟨gx, 5, none⟩ = some (.int .i64 p5) ∧ w'.cell? ⟨gx, 6, none⟩ = some (.int .u64 p6)) (first | with_reducible exact hS2 | with_reducible exact hS' | with_reducible exact hT1 | assumption)
            (first
              | (go_at_call 23; (with_reducible refine (HOP.out _).mono ?_); rintro e w2 ⟨rfl, hl⟩; have hS2 := HNN.out _ (KpS.of ((KpS.moves (And.left (by assumption))).trans hl)))
              | fail)
          all_goals
            go_wp2
            go_ret
            exact ⟨rfl, M.out.trans (KpS.moves (And.left hS2))⟩
      ·
        obtain ⟨⟨rfl, rfl, rfl, rfl, rfl, rfl, rfl⟩, rfl⟩ := S2.out rfl (fun h => he h.2)
        have c0 : W8.cell? ⟨gl + 1, 0, none⟩ = some (.bool true) := cellAt O8.out 0 rfl
        have c1 : W8.cell? ⟨gl + 1, 1, none⟩ = some (.bool true) := cellAt O8.out 1 rfl
        have c2 : W8.cell? ⟨gl, 0, none⟩ = some (.int .u64 p0) := cellAt L8.out 0 rfl
        have c3 : W8.cell? ⟨gl, 1, none⟩ = some (.int .i64 p1) := cellAt L8.out 1 rfl
        have c4 : W8.cell? ⟨gl, 2, none⟩ = some (.int .i64 p2) := cellAt L8.out 2 rfl
        have c5 : W8.cell? ⟨gl, 3, none⟩ = some (.int .i64 p3) := cellAt L8.out 3 rfl
        have c6 : W8.cell? ⟨gl, 4, none⟩ = some (.int .i64 p4) := cellAt L8.out 4 rfl
        have c7 : W8.cell? ⟨gl, 5, none⟩ = some (.int .i64 p5) := cellAt L8.out 5 rfl
        have c8 : W8.cell? ⟨gl, 6, none⟩ = some (.int .u64 p6) := cellAt L8.out 6 rfl
        have c9 : W8.cell? ⟨gp, 0, none⟩ = some (.int .u64 p0) := cellAt P8.out 0 rfl
        have c10 : W8.cell? ⟨gp, 1, none⟩ = some (.int .i64 p1) := cellAt P8.out 1 rfl
        have c11 : W8.cell? ⟨gp, 2, none⟩ = some (.int .i64 p2) := cellAt P8.out 2 rfl
        have c12 : W8.cell? ⟨gp, 3, none⟩ = some (.int .i64 p3) := cellAt P8.out 3 rfl
        have c13 : W8.cell? ⟨gp, 4, none⟩ = some (.int .i64 p4) := cellAt P8.out 4 rfl
        have c14 : W8.cell? ⟨gp, 5, none⟩ = some (.int .i64 p5) := cellAt P8.out 5 rfl
        have c15 : W8.cell? ⟨gp, 6, none⟩ = some (.int .u64 p6) := cellAt P8.out 6 rfl
        have c16 : W8.cell? ⟨gl, 7, none⟩ = some (.int .u64 t0) := cellAt L8.out 7 rfl
        have c17 : W8.cell? ⟨gl, 8, none⟩ = some (.int .i64 t1) := cellAt L8.out 8 rfl
        have c18 : W8.cell? ⟨gl, 9, none⟩ = some (.int .i64 t2) := cellAt L8.out 9 rfl
        have c19 : W8.cell? ⟨gl, 10, none⟩ = some (.int .i64 t3) := cellAt L8.out 10 rfl
        have c20 : W8.cell? ⟨gl, 11, none⟩ = some (.int .i64 t4) := cellAt L8.out 11 rfl
        have c21 : W8.cell? ⟨gl, 12, none⟩ = some (.int .i64 t5) := cellAt L8.out 12 rfl
        have c22 : W8.cell? ⟨gl, 13, none⟩ = some (.int .u64 t6) := cellAt L8.out 13 rfl
        have c23 : W8.cell? ⟨gq, 0, none⟩ = some (.int .u64 t0) := cellAt Q8.out 0 rfl
        have c24 : W8.cell? ⟨gq, 1, none⟩ = some (.int .i64 t1) := cellAt Q8.out 1 rfl
        have c25 : W8.cell? ⟨gq, 2, none⟩ = some (.int .i64 t2) := cellAt Q8.out 2 rfl
        have c26 : W8.cell? ⟨gq, 3, none⟩ = some (.int .i64 t3) := cellAt Q8.out 3 rfl
        have c27 : W8.cell? ⟨gq, 4, none⟩ = some (.int .i64 t4) := cellAt Q8.out 4 rfl
        have c28 : W8.cell? ⟨gq, 5, none⟩ = some (.int .i64 t5) := cellAt Q8.out 5 rfl
        have c29 : W8.cell? ⟨gq, 6, none⟩ = some (.int .u64 t6) := cellAt Q8.out 6 rfl
        have c30 : W8.cell? ⟨gx, 0, none⟩ = some (.int .u64 t0) := cellAt X8.out 0 rfl
        have c31 : W8.cell? ⟨gx, 1, none⟩ = some (.int .i64 t1) := cellAt X8.out 1 rfl
        have c32 : W8.cell? ⟨gx, 2, none⟩ = some (.int .i64 t2) := cellAt X8.out 2 rfl
        have c33 : W8.cell? ⟨gx, 3, none⟩ = some (.int .i64 t3) := cellAt X8.out 3 rfl
        have c34 : W8.cell? ⟨gx, 4, none⟩ = some (.int .i64 t4) := cellAt X8.out 4 rfl
        have c35 : W8.cell? ⟨gx, 5, none⟩ = some (.int .i64 t5) := cellAt X8.out 5 rfl
        have c36 : W8.cell? ⟨gx, 6, none⟩ = some (.int .u64 t6) := cellAt X8.out 6 rfl
        have HNN : Hid (∀ w', KpS W8 w' → KpS W8 w' ∧ w'.cell? ⟨gl + 1, 0, none⟩ = some (.bool true) ∧ w'.cell? ⟨gl + 1, 1, none⟩ = some (.bool true) ∧ w'.cell? ⟨gl, 0, none⟩ = some (.int .u64 p0) ∧ w'.cell? ⟨gl, 1, none⟩ = some (.int .i64 p1) ∧ w'.cell? ⟨gl, 2, none⟩ = some (.int .i64 p2) ∧ w'.cell? ⟨gl, 3, none⟩ = some (.int .i64 p3) ∧ w'.cell? ⟨gl, 4, none⟩ = some (.int .i64 p4) ∧ w'.cell? ⟨gl, 5, none⟩ = some (.int .i64 p5) ∧ w'.cell? ⟨gl, 6, none⟩ = some (.int .u64 p6) ∧ w'.cell? ⟨gp, 0, none⟩ = some (.int .u64 p0) ∧ w'.cell? ⟨gp, 1, none⟩ = some (.int .i64 p1) ∧ w'.cell? ⟨gp, 2, none⟩ = some (.int .i64 p2) ∧ w'.cell? ⟨gp, 3, none⟩ = some (.int .i64 p3) ∧ w'.cell? ⟨gp, 4, none⟩ = some (.int .i64 p4) ∧ w'.cell? ⟨gp, 5, none⟩ = some (.int .i64 p5) ∧ w'.cell? ⟨gp, 6, none⟩ = some (.int .u64 p6) ∧ w'.cell? ⟨gl, 7, none⟩ = some (.int .u64 t0) ∧ w'.cell? ⟨gl, 8, none⟩ = some (.int .i64 t1) ∧ w'.cell? ⟨gl, 9, none⟩ = some (.int .i64 t2) ∧ w'.cell? ⟨gl, 10, none⟩ = some (.int .i64 t3) ∧ w'.cell? ⟨gl, 11, none⟩ = some (.int .i64 t4) ∧ w'.cell? ⟨gl, 12, none⟩ = some (.int .i64 t5) ∧ w'.cell? ⟨gl, 13, none⟩ = some (.int .u64 t6) ∧ w'.cell? ⟨gq, 0, none⟩ = some (.int .u64 t0) ∧ w'.cell? ⟨gq, 1, none⟩ = some (.int .i64 t1) ∧ w'.cell? ⟨gq, 2, none⟩ = some (.int .i64 t2) ∧ w'.cell? ⟨gq, 3, none⟩ = some (.int .i64 t3) ∧ w'.cell? ⟨gq, 4, none⟩ = some (.int .i64 t4) ∧ w'.cell? ⟨gq, 5, none⟩ = some (.int .i64 t5) ∧ w'.cell? ⟨gq, 6, none⟩ = some (.int .u64 t6) ∧ w'.cell? ⟨gx, 0, none⟩ = some (.int .u64 t0) ∧ w'.cell? ⟨gx, 1, none⟩ = some (.int .i64 t1) ∧ w'.cell? ⟨gx, 2, none⟩ = some (.int .i64 t2) ∧ w'.cell? ⟨gx, 3, none⟩ = some (.int .i64 t3) ∧ w'.cell? ⟨gx, 4, none⟩ = some (.int .i64 t4) ∧ w'.cell? ⟨gx, 5, none⟩ = some (.int .i64 t5) ∧ w'.cell? ⟨gx, 6, none⟩ = some (.int .u64 t6)) := Lib.hid fun w' hk => ⟨hk, hk.cell c0, hk.cell c1, hk.cell c2, hk.cell c3, hk.cell c4, hk.cell c5, hk.cell c6, hk.cell c7, hk.cell c8, hk.cell c9, hk.cell c10, hk.cell c11, hk.cell c12, hk.cell c13, hk.cell c14, hk.cell c15, hk.cell c16, hk.cell c17, hk.cell c18, hk.cell c19, hk.cell c20, hk.cell c21, hk.cell c22, hk.cell c23, hk.cell c24, hk.cell c25, hk.cell c26, hk.cell c27, hk.cell c28, hk.cell c29, hk.cell c30, hk.cell c31, hk.cell c32, hk.cell c33, hk.cell c34, hk.cell c35, hk.cell c36⟩
        have hK0 := HNN.out _ (KpS.refl W8)
        have hK1 := HNN.out W8.drew (KpS.of (Moves.refl (fun _ => False) W8).drew)
        clear c0 c1 c2 c3 c4 c5 c6 c7 c8 c9 c10 c11 c12 c13 c14 c15 c16 c17 c18 c19 c20 c21 c22 c23 c24 c25 c26 c27 c28 c29 c30 c31 c32 c33 c34 c35 c36
        go_wp2_with fail
        go_region_held3 (fun w' => KpS W8 w' ∧ w'.cell? ⟨gl + 1, 0, none⟩ = some (.bool true) ∧ w'.cell? ⟨gl + 1, 1, none⟩ = some (.bool true) ∧ w'.cell? ⟨gl, 0, none⟩ = some (.int .u64 p0) ∧ w'.cell? ⟨gl, 1, none⟩ = some (.int .i64 p1) ∧ w'.cell? ⟨gl, 2, none⟩ = some (.int .i64 p2) ∧ w'.cell? ⟨gl, 3, none⟩ = some (.int .i64 p3) ∧ w'.cell? ⟨gl, 4, none⟩ = some (.int .i64 p4) ∧ w'.cell? ⟨gl, 5, none⟩ = some (.int .i64 p5) ∧ w'.cell? ⟨gl, 6, none⟩ = some (.int .u64 p6) ∧ w'.cell? ⟨gp, 0, none⟩ = some (.int .u64 p0) ∧ w'.cell? ⟨gp, 1, none⟩ = some (.int .i64 p1) ∧ w'.cell? ⟨gp, 2, none⟩ = some (.int .i64 p2) ∧ w'.cell? ⟨gp, 3, none⟩ = some (.int .i64 p3) ∧ w'.cell? ⟨gp, 4, none⟩ = some (.int .i64 p4) ∧ w'.cell? ⟨gp, 5, none⟩ = some (.int .i64 p5) ∧ w'.cell? ⟨gp, 6, none⟩ = some (.int .u64 p6) ∧ w'.cell? ⟨gl, 7, none⟩ = some (.int .u64 t0) ∧ w'.cell? ⟨gl, 8, none⟩ = some (.int .i64 t1) ∧ w'.cell? ⟨gl, 9, none⟩ = some (.int .i64 t2) ∧ w'.cell? ⟨gl, 10, none⟩ = some (.int .i64 t3) ∧ w'.cell? ⟨gl, 11, none⟩ = some (.int .i64 t4) ∧ w'.cell? ⟨gl, 12, none⟩ = some (.int .i64 t5) ∧ w'.cell? ⟨gl, 13, none⟩ = some (.int .u64 t6) ∧ w'.cell? ⟨gq, 0, none⟩ = some (.int .u64 t0) ∧ w'.cell? ⟨gq, 1, none⟩ = some (.int .i64 t1) ∧ w'.cell? ⟨gq, 2, none⟩ = some (.int .i64 t2) ∧ w'.cell? ⟨gq, 3, none⟩ = some (.int .i64 t3) ∧ w'.cell? ⟨gq, 4, none⟩ = some (.int .i64 t4) ∧ w'.cell? ⟨gq, 5, none⟩ = some (.int .i64 t5) ∧ w'.cell? ⟨gq, 6, none⟩ = some (.int .u64 t6) ∧ w'.cell? ⟨gx, 0, none⟩ = some (.int .u64 t0) ∧ w'.cell? ⟨gx, 1, none⟩ = some (.int .i64 t1) ∧ w'.cell? ⟨gx, 2, none⟩ = some (.int .i64 t2) ∧ w'.cell? ⟨gx, 3, none⟩ = some (.int .i64 t3) ∧ w'.cell? ⟨gx, 4, none⟩ = some (.int .i64 t4) ∧ w'.cell? ⟨gx, 5, none⟩ = some (.int .i64 t5) ∧ w'.cell? ⟨gx, 6, none⟩ = some (.int .u64 t6)) (first | with_reducible exact hS' | with_reducible exact hK0 | with_reducible exact hK1 | assumption)
          (first
            | (go_at_call 23; (with_reducible refine (HOP.out _).mono ?_); rintro e w' ⟨rfl, hl⟩; have hS' := HNN.out _ (KpS.of ((KpS.moves (And.left (by assumption))).trans hl)))
            | (go_at_call 23; (with_reducible refine (HOQ.out _).mono ?_); rintro e w' ⟨rfl, hl⟩; have hS' := HNN.out _ (KpS.of ((KpS.moves (And.left (by assumption))).trans hl)))
            | fail)
        all_goals
          have hT1 := HNN.out w'.drew (KpS.of ((KpS.moves (And.left hS')).trans (Moves.refl (fun _ => False) w').drew))
          go_wp2_with fail
          go_region_held3 (fun w' => KpS W8 w' ∧ w'.cell? ⟨gl + 1, 0, none⟩ = some (.bool true) ∧ w'.cell? ⟨gl + 1, 1, none⟩ = some (.bool true) ∧ w'.cell? ⟨gl, 0, none⟩ = some (.int .u64 p0) ∧ w'.cell? ⟨gl, 1, none⟩ = some (.int .i64 p1) ∧ w'.cell? ⟨gl, 2, none⟩ = some (.int .i64 p2) ∧ w'.cell? ⟨gl, 3, none⟩ = some (.int .i64 p3) ∧ w'.cell? ⟨gl, 4, none⟩ = some (.int .i64 p4) ∧ w'.cell? ⟨gl, 5, none⟩ = some (.int .i64 p5) ∧ w'.cell? ⟨gl, 6, none⟩ = some (.int .u64 p6) ∧ w'.cell? ⟨gp, 0, none⟩ = some (.int .u64 p0) ∧ w'.cell? ⟨gp, 1, none⟩ = some (.int .i64 p1) ∧ w'.cell? ⟨gp, 2, none⟩ = some (.int .i64 p2) ∧ w'.cell? ⟨gp, 3, none⟩ = some (.int .i64 p3) ∧ w'.cell? ⟨gp, 4, none⟩ = some (.int .i64 p4) ∧ w'.cell? ⟨gp, 5, none⟩ = some (.int .i64 p5) ∧ w'.cell? ⟨gp, 6, none⟩ = some (.int .u64 p6) ∧ w'.cell? ⟨gl, 7, none⟩ = some (.int .u64 t0) ∧ w'.cell? ⟨gl, 8, none⟩ = some (.int .i64 t1) ∧ w'.cell? ⟨gl, 9, none⟩ = some (.int .i64 t2) ∧ w'.cell? ⟨gl, 10, none⟩ = some (.int .i64 t3) ∧ w'.cell? ⟨gl, 11, none⟩ = some (.int .i64 t4) ∧ w'.cell? ⟨gl, 12, none⟩ = some (.int .i64 t5) ∧ w'.cell? ⟨gl, 13, none⟩ = some (.int .u64 t6) ∧ w'.cell? ⟨gq, 0, none⟩ = some (.int .u64 t0) ∧ w'.cell? ⟨gq, 1, none⟩ = some (.int .i64 t1) ∧ w'.cell? ⟨gq, 2, none⟩ = some (.int .i64 t2) ∧ w'.cell? ⟨gq, 3, none⟩ = some (.int .i64 t3) ∧ w'.cell? ⟨gq, 4, none⟩ = some (.int .i64 t4) ∧ w'.cell? ⟨gq, 5, none⟩ = some (.int .i64 t5) ∧ w'.cell? ⟨gq, 6, none⟩ = some (.int .u64 t6) ∧ w'.cell? ⟨gx, 0, none⟩ = some (.int .u64 t0) ∧ w'.cell? ⟨gx, 1, none⟩ = some (.int .i64 t1) ∧ w'.cell? ⟨gx, 2, none⟩ = some (.int .i64 t2) ∧ w'.cell? ⟨gx, 3, none⟩ = some (.int .i64 t3) ∧ w'.cell? ⟨gx, 4, none⟩ = some (.int .i64 t4) ∧ w'.cell? ⟨gx, 5, none⟩ = some (.int .i64 t5) ∧ w'.cell? ⟨gx, 6, none⟩ = some (.int .u64 t6)) (first | with_reducible exact hS2 | with_reducible exact hS' | with_reducible exact hT1 | assumption)
            (first
              | (go_at_call 23; (with_reducible refine (HOQ.out _).mono ?_); rintro e w2 ⟨rfl, hl⟩; have hS2 := HNN.out _ (KpS.of ((KpS.moves (And.left (by assumption))).trans hl)))
              | fail)
          all_goals
            go_wp2
            go_ret
            exact ⟨rfl, M.out.trans (KpS.moves (And.left hS2))⟩
end Go.Proofs.Ytnagpianaghjeaa.Sl
