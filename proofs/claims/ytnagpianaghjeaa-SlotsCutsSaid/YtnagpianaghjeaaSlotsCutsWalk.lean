/-
  The walk of SlotsCuts.
-/
import Derived.Test.YtnagpianaghjeaaSlotsCutsPlain
import Derived.Test.YtnagpianaghjeaaSlotsKnown
import Derived.Test.YtnagpianaghjeaaRight
import Derived.Test.YtnagpianaghjeaaOpen
import Derived.BigQuiet
import Derived.Deep.QuietTactic
import Derived.Deep.RegionHeld3
import Derived.Deep.RegionWith
import Derived.Deep.CutRange
namespace Go.Proofs.Ytnagpianaghjeaa.Sl
open Go Go.RowKit Go.Proofs
open Pl (DS IsDisk DOwn DPost DMv DKeep)

theorem wf_of {b : Blk} (h : WfA b) {g : Geo} : WfB ⟨b.epoch, g, b.space, b.words, b.log⟩ := by
  have q : ∀ x : Int, (Lit.int .u64 x).wf = true → 0 ≤ x ∧ x < 256 ^ 8 := fun x hx => by
    have : 0 ≤ x ∧ x ≤ 18446744073709551615 := by simpa [Lit.wf, IntKind.min, IntKind.max, IntKind.signed, IntKind.bits] using hx
    have e : (256 : Int) ^ 8 = 18446744073709551616 := by decide
    omega
  have h0 := q _ h.1
  have h6 := q _ h.2.2.2.2.2.2
  exact ⟨h0.1, h0.2, h6.1, h6.2⟩
set_option maxRecDepth 100000 in
set_option maxHeartbeats 4000000 in
theorem keeps3_any (w : World) (A : Option Addr) (n c : Nat) {b : Bool} (hb : decide (n ≤ 300) = b) : Calls Try.prog 20 #[.slice A n c] w (SameV w (.bool b)) := by
  subst hb
  by_cases h : n ≤ 300
  · rw [decide_eq_true h]
    have h1 : (n : Int) ≤ 300 := by omega
    go_enter Try.func20, Try.ntmps20
    go_wp2
    go_ret
    exact ⟨rfl, rfl⟩
  · rw [decide_eq_false h]
    have h1 : ¬ (n : Int) ≤ 300 := by omega
    go_enter Try.func20, Try.ntmps20
    go_wp2
    go_ret
    exact ⟨rfl, rfl⟩
set_option maxRecDepth 100000 in
set_option maxHeartbeats 4000000 in
theorem cuts_skip {w : World} {A B : Option Addr} {la lb ca cb : Nat} {n : Int} (h : la = 0 ∨ 10 < la ∨ n < 0 ∨ 30 < n ∨ 300 < lb) : Calls Try.prog 5 #[.slice A la ca, .int .i64 n, .slice B lb cb] w (TrueP w) := by
  have HKN := Lib.hid (fun W => known_any W)
  by_cases g1 : (la : Int) = 0
  · clear h
    have k1 : ((la : Int) == 0) = true := by simpa using g1
    go_enter Try.func5, Try.ntmps5
    go_wp2_with fail
    refine (HKN.out _).mono ?_
    rintro e w0 ⟨rfl, hm0⟩
    go_wp2
    go_ret
    exact ⟨rfl, hm0⟩
  by_cases g2 : 10 < (la : Int)
  · clear h
    have k1 : ((la : Int) == 0) = false := by simpa using g1
    go_enter Try.func5, Try.ntmps5
    go_wp2_with fail
    refine (HKN.out _).mono ?_
    rintro e w0 ⟨rfl, hm0⟩
    go_wp2
    go_ret
    exact ⟨rfl, hm0⟩
  by_cases g3 : n < 0
  · clear h
    have k1 : ((la : Int) == 0) = false := by simpa using g1
    go_enter Try.func5, Try.ntmps5
    go_wp2_with fail
    refine (HKN.out _).mono ?_
    rintro e w0 ⟨rfl, hm0⟩
    go_wp2
    go_ret
    exact ⟨rfl, hm0⟩
  by_cases g4 : 30 < n
  · clear h
    have k1 : ((la : Int) == 0) = false := by simpa using g1
    go_enter Try.func5, Try.ntmps5
    go_wp2_with fail
    refine (HKN.out _).mono ?_
    rintro e w0 ⟨rfl, hm0⟩
    go_wp2
    go_ret
    exact ⟨rfl, hm0⟩
  have h5 : ¬ lb ≤ 300 := by omega
  have k1 : ((la : Int) == 0) = false := by simpa using g1
  have HKP := Lib.hid (fun W => keeps3_any W B lb cb (decide_eq_false h5))
  clear h
  go_enter Try.func5, Try.ntmps5
  go_wp2_with fail
  refine (HKN.out _).mono ?_
  rintro e w0 ⟨rfl, hm0⟩
  go_wp2_with (first
    | (go_at_call 20
       refine (HKP.out _).mono ?_
       rintro e w1 ⟨rfl, rfl⟩)
    | fail)
  go_ret
  exact ⟨rfl, hm0⟩
set_option maxRecDepth 100000 in
set_option maxHeartbeats 4000000 in
theorem cuts_nil {w : World} {g o c N : Nat} {l : List Blk} (hN : l.length = N) (h1 : 1 ≤ N ∧ N ≤ 10) (hgl : g < w.heap.size) (hat : ∀ i (hi : i < l.length), BlkAt w l[i] ⟨g, o + i * 7, none⟩ ⟨g, o + i * 7 + 1, none⟩ ⟨g, o + i * 7 + 2, none⟩ ⟨g, o + i * 7 + 3, none⟩ ⟨g, o + i * 7 + 4, none⟩ ⟨g, o + i * 7 + 5, none⟩ ⟨g, o + i * 7 + 6, none⟩) {n : Int} (hn : 0 ≤ n ∧ n ≤ 30) {B : Option Addr} {cb M : Nat} {keep : List Bool} {L : Nat → Prop} (hk : Row w L (.slice B M cb) (keep.map .bool)) (hkM : keep.length = M) (hkl : M ≤ 300) {gs gl gw : Int} (h0 : 0 < l.length) (hG : l[0].geom = ⟨gs, gl, gw⟩) (hF : ¬ FreshG ⟨gs, gl, gw⟩) : Calls Try.prog 5 #[.slice (some ⟨g, o, none⟩) N c, .int .i64 n, .slice B M cb] w (TrueP w) := by
  have HF := Lib.hid (fun W => fresh_bad hF W)
  clear hF
  have HKN := Lib.hid (fun W => known_any W)
  have HKP := Lib.hid (fun W => keeps3_any W B M cb (decide_eq_true hkl))
  have k1 : ((N : Int) == 0) = false := by simp; omega
  have k2 : ¬ 10 < (N : Int) := by omega
  have k3 : ¬ n < 0 := by omega
  have k4 : ¬ 30 < n := by omega
  have k5 : (0 : Int) < (N : Int) := by omega
  have HAT0 : Hid (w.cell? ⟨g, o + 1, none⟩ = some (.int .i64 gs) ∧ w.cell? ⟨g, o + 2, none⟩ = some (.int .i64 gl) ∧ w.cell? ⟨g, o + 3, none⟩ = some (.int .i64 gw)) := Lib.hid (by
    have h := hat 0 h0
    have h1 := h.h1
    have h2 := h.h2
    have h3 := h.h3
    rw [hG] at h1 h2 h3
    simp only [Nat.zero_mul, Nat.add_zero] at h1 h2 h3
    exact ⟨h1, h2, h3⟩)
  have HN := Lib.hid hN
  have HAT := Lib.hid hat
  have HK := Lib.hid hk
  have HKM := Lib.hid hkM
  have HKL := Lib.hid hkl
  have HG := Lib.hid hG
  have H1 := Lib.hid h1
  have Hn := Lib.hid hn
  clear hG hk hkM hkl hat hN h1 hn
  go_enter Try.func5, Try.ntmps5
  go_wp2_with fail
  refine (HKN.out _).mono ?_
  rintro e w0 ⟨rfl, hm0⟩
  obtain ⟨c0, c1, c2⟩ := HAT0.out
  have x0 := (hm0.cell (p := ⟨g, o + 1, none⟩) hgl (fun e => e)).trans c0
  have x1 := (hm0.cell (p := ⟨g, o + 2, none⟩) hgl (fun e => e)).trans c1
  have x2 := (hm0.cell (p := ⟨g, o + 3, none⟩) hgl (fun e => e)).trans c2
  clear c0 c1 c2
  have M0 := Lib.hid (hm0.alloc (.cells #[.int .i64 gs, .int .i64 gl, .int .i64 gw] 25))
  have B0 := Lib.hid (heap_alloc_new w0 (.cells #[.int .i64 gs, .int .i64 gl, .int .i64 gw] 25))
  go_wp2_with (first
    | (go_at_call 20
       refine (HKP.out _).mono ?_
       rintro e w1 ⟨rfl, rfl⟩)
    | fail)
  generalize w0.alloc (.cells #[.int .i64 gs, .int .i64 gl, .int .i64 gw] 25) = W0 at M0 B0 ⊢
  generalize w0.heap.size = bg at B0 ⊢
  refine (HF.out _).mono ?_
  rintro e w1 ⟨rfl, hm1⟩
  go_wp2
  go_ret
  exact ⟨rfl, M0.out.trans hm1⟩
set_option maxRecDepth 100000 in
set_option maxHeartbeats 4000000 in
theorem cuts_go {w : World} {g o c N : Nat} {l : List Blk} (hN : l.length = N) (h1 : 1 ≤ N ∧ N ≤ 10) (hgl : g < w.heap.size) (hat : ∀ i (hi : i < l.length), BlkAt w l[i] ⟨g, o + i * 7, none⟩ ⟨g, o + i * 7 + 1, none⟩ ⟨g, o + i * 7 + 2, none⟩ ⟨g, o + i * 7 + 3, none⟩ ⟨g, o + i * 7 + 4, none⟩ ⟨g, o + i * 7 + 5, none⟩ ⟨g, o + i * 7 + 6, none⟩) {n : Int} (hn : 0 ≤ n ∧ n ≤ 30) {B : Option Addr} {cb M : Nat} {keep : List Bool} {L : Nat → Prop} (hk : Row w L (.slice B M cb) (keep.map .bool)) (hkM : keep.length = M) (hkl : M ≤ 300) {gs gl gw : Int} (h0 : 0 < l.length) (hG : l[0].geom = ⟨gs, gl, gw⟩) (hF : FreshG ⟨gs, gl, gw⟩) : Calls Try.prog 5 #[.slice (some ⟨g, o, none⟩) N c, .int .i64 n, .slice B M cb] w (TrueP w) := by
  have HF := Lib.hid (fun W => fresh_ok hF W)
  have HFG := Lib.hid hF
  clear hF
  have HKN := Lib.hid (fun W => known_any W)
  have HKP := Lib.hid (fun W => keeps3_any W B M cb (decide_eq_true hkl))
  have k1 : ((N : Int) == 0) = false := by simp; omega
  have k2 : ¬ 10 < (N : Int) := by omega
  have k3 : ¬ n < 0 := by omega
  have k4 : ¬ 30 < n := by omega
  have k5 : (0 : Int) < (N : Int) := by omega
  have HAT0 : Hid (w.cell? ⟨g, o + 1, none⟩ = some (.int .i64 gs) ∧ w.cell? ⟨g, o + 2, none⟩ = some (.int .i64 gl) ∧ w.cell? ⟨g, o + 3, none⟩ = some (.int .i64 gw)) := Lib.hid (by
    have h := hat 0 h0
    have h1 := h.h1
    have h2 := h.h2
    have h3 := h.h3
    rw [hG] at h1 h2 h3
    simp only [Nat.zero_mul, Nat.add_zero] at h1 h2 h3
    exact ⟨h1, h2, h3⟩)
  have HN := Lib.hid hN
  have HAT := Lib.hid hat
  have HK := Lib.hid hk
  have HKM := Lib.hid hkM
  have HKL := Lib.hid hkl
  have HG := Lib.hid hG
  have H1 := Lib.hid h1
  have Hn := Lib.hid hn
  clear hG hk hkM hkl hat hN h1 hn
  go_enter Try.func5, Try.ntmps5
  go_wp2_with fail
  refine (HKN.out _).mono ?_
  rintro e w0 ⟨rfl, hm0⟩
  obtain ⟨c0, c1, c2⟩ := HAT0.out
  have x0 := (hm0.cell (p := ⟨g, o + 1, none⟩) hgl (fun e => e)).trans c0
  have x1 := (hm0.cell (p := ⟨g, o + 2, none⟩) hgl (fun e => e)).trans c1
  have x2 := (hm0.cell (p := ⟨g, o + 3, none⟩) hgl (fun e => e)).trans c2
  clear c0 c1 c2
  have M0 := Lib.hid (hm0.alloc (.cells #[.int .i64 gs, .int .i64 gl, .int .i64 gw] 25))
  have B0 := Lib.hid (heap_alloc_new w0 (.cells #[.int .i64 gs, .int .i64 gl, .int .i64 gw] 25))
  go_wp2_with (first
    | (go_at_call 20
       refine (HKP.out _).mono ?_
       rintro e w1 ⟨rfl, rfl⟩)
    | fail)
  generalize w0.alloc (.cells #[.int .i64 gs, .int .i64 gl, .int .i64 gw] 25) = W0 at M0 B0 ⊢
  generalize w0.heap.size = bg at B0 ⊢
  refine (HF.out _).mono ?_
  rintro e w1 ⟨d, rfl, hd1, hm1⟩
  rw [new_calm] at hd1
  have hmA := (hm1.alloc (.cells #[.int .u64 0, .int .i64 0, .int .i64 0, .int .i64 0, .int .i64 0, .int .i64 0, .int .u64 0, .int .u64 0, .int .i64 0, .int .i64 0, .int .i64 0, .int .i64 0, .int .i64 0, .int .u64 0] 50)).alloc (.cells #[.bool false, .bool false] 36)
  have hA := ((Moves.refl (fun _ => False) w1).alloc (.cells #[.int .u64 0, .int .i64 0, .int .i64 0, .int .i64 0, .int .i64 0, .int .i64 0, .int .u64 0, .int .u64 0, .int .i64 0, .int .i64 0, .int .i64 0, .int .i64 0, .int .i64 0, .int .u64 0] 50)).alloc (.cells #[.bool false, .bool false] 36)
  have bA : ((w1.alloc (.cells #[.int .u64 0, .int .i64 0, .int .i64 0, .int .i64 0, .int .i64 0, .int .i64 0, .int .u64 0, .int .u64 0, .int .i64 0, .int .i64 0, .int .i64 0, .int .i64 0, .int .i64 0, .int .u64 0] 50)).alloc (.cells #[.bool false, .bool false] 36)).heap[w1.heap.size]? = some (.cells #[.int .u64 0, .int .i64 0, .int .i64 0, .int .i64 0, .int .i64 0, .int .i64 0, .int .u64 0, .int .u64 0, .int .i64 0, .int .i64 0, .int .i64 0, .int .i64 0, .int .i64 0, .int .u64 0] 50 (0, 0)) := (Below.heap_alloc _ _ _ (by simp)).trans (alloc_at rfl)
  have bB : ((w1.alloc (.cells #[.int .u64 0, .int .i64 0, .int .i64 0, .int .i64 0, .int .i64 0, .int .i64 0, .int .u64 0, .int .u64 0, .int .i64 0, .int .i64 0, .int .i64 0, .int .i64 0, .int .i64 0, .int .u64 0] 50)).alloc (.cells #[.bool false, .bool false] 36)).heap[w1.heap.size + 1]? = some (.cells #[.bool false, .bool false] 36 (0, 0)) := alloc_at (by simp)
  have HA := Lib.hid hA
  have HMA := Lib.hid hmA
  have HBA := Lib.hid bA
  have HBB := Lib.hid bB
  have hd1 := hd1.moves0 hA
  have HSZ : Hid (W0.heap.size ≤ w1.heap.size) := Lib.hid hm1.size
  clear hm1 hA hmA bA bB
  go_wp2_with fail
  generalize (w1.alloc (.cells #[.int .u64 0, .int .i64 0, .int .i64 0, .int .i64 0, .int .i64 0, .int .i64 0, .int .u64 0, .int .u64 0, .int .i64 0, .int .i64 0, .int .i64 0, .int .i64 0, .int .i64 0, .int .u64 0] 50)).alloc (.cells #[.bool false, .bool false] 36) = W2 at HA HMA HBA HBB hd1 ⊢
  generalize w1.heap.size = bn at HBA HBB HSZ ⊢
  refine (Pl.arm_any (n := n) (bs := keep) hd1 ((HK.out.moves (M0.out.trans HMA.out) (fun _ _ _ e => e))) (by rw [HKM.out]; have := HKL.out; omega)).mono ?_
  rintro e w3 ⟨rfl, hd3, hv3, hv3'⟩
  have hm3 : DMv W2 d w3 := ⟨hv3, hv3'⟩
  have HB3 : Hid (w3.heap[bg]? = some (.cells #[.int .i64 gs, .int .i64 gl, .int .i64 gw] 25 (0, 0)) ∧ w3.heap[bn]? = some (.cells #[.int .u64 0, .int .i64 0, .int .i64 0, .int .i64 0, .int .i64 0, .int .i64 0, .int .u64 0, .int .u64 0, .int .i64 0, .int .i64 0, .int .i64 0, .int .i64 0, .int .i64 0, .int .u64 0] 50 (0, 0)) ∧ w3.heap[bn + 1]? = some (.cells #[.bool false, .bool false] 36 (0, 0)) ∧ Moves (fun _ => False) w w3) := Lib.hid ⟨(hm3.mv.block _ (lt_of_block ((HMA.out.block _ (lt_of_block B0.out) (fun e => e)).trans B0.out)) (hd1.apart ((HMA.out.block _ (lt_of_block B0.out) (fun e => e)).trans B0.out) (by decide) (by decide))).trans ((HMA.out.block _ (lt_of_block B0.out) (fun e => e)).trans B0.out), (hm3.mv.block _ (lt_of_block HBA.out) (hd1.apart HBA.out (by decide) (by decide))).trans HBA.out, (hm3.mv.block _ (lt_of_block HBB.out) (hd1.apart HBB.out (by decide) (by decide))).trans HBB.out, under hd1 (M0.out.trans HMA.out) M0.out.size hm3⟩
  have hd3 : IsDisk w3 W0.heap.size d (cutD ⟨gs, gl, gw⟩ (List.replicate (secsN ⟨gs, gl, gw⟩) (List.replicate (sizeN ⟨gs, gl, gw⟩) 0)) keep false (max n 1) 0) := hd3
  have HT0 : Hid (∀ z, z = w3.heap.size → CutT w W0.heap.size d bg bn (bn + 1) z ⟨gs, gl, gw⟩ keep 0 false (w3.alloc (.cells #[.int .u64 0, .int .i64 0, .int .i64 0, .int .i64 0, .int .i64 0, .int .i64 0, .int .u64 0] 49))) := Lib.hid (fun z hz => by
    have hm := (Moves.refl (fun _ => False) w3).alloc (.cells #[.int .u64 0, .int .i64 0, .int .i64 0, .int .i64 0, .int .i64 0, .int .i64 0, .int .u64 0] 49)
    refine ⟨none, none, ⟨0, ⟨0, 0, 0⟩, 0, 0, 0⟩, _, max n 1, 0, Cuts.zero HFG.out, ⟨HB3.out.2.2.2.trans hm, (hm.block _ (lt_of_block HB3.out.1) (fun e => e)).trans HB3.out.1, (hm.block _ (lt_of_block HB3.out.2.1) (fun e => e)).trans HB3.out.2.1, (hm.block _ (lt_of_block HB3.out.2.2.1) (fun e => e)).trans HB3.out.2.2.1, alloc_at hz, ?_⟩, hd3.moves0 hm, fun _ => ?_, Int.le_refl 0, Int.le_refl 0, Int.le_refl 0⟩
    · have := M0.out.size; have := HSZ.out; have := HB3.out.2.2.2.size; omega
    · have := Hn.out; omega)
  have HLO : Hid (w.heap.size ≤ W0.heap.size) := Lib.hid M0.out.size
  clear M0 B0 HA HMA HBA HBB HSZ hd1 hd3 hv3 hv3' hm3 HB3 HF HKN HKP HK x0 x1 x2 k1 k2 k3 k4 k5 hm0
  generalize W0.heap.size = base at HT0 HLO
  go_wp2_with fail
  generalize w3.alloc (.cells #[.int .u64 0, .int .i64 0, .int .i64 0, .int .i64 0, .int .i64 0, .int .i64 0, .int .u64 0] 49) = W4 at HT0 ⊢
  have HT0 := Lib.hid (HT0.out _ rfl)
  generalize w3.heap.size = bt at HT0 ⊢
  generalize bn + 1 = bh at HT0 ⊢
  go_loopg [11, 13] N (fun gg s11 s13 wr => ∃ (i : Nat) (c : Bool), i ≤ N ∧ gg = N - i ∧ s11 = .bool c ∧ s13 = .int .i64 i ∧ Hid (CutT w base d bg bn bh bt ⟨gs, gl, gw⟩ keep i c wr))
  case atStart => exact ⟨0, false, Nat.zero_le _, rfl, rfl, rfl, HT0⟩
  case round =>
    obtain ⟨i, c, hi, hgg, rfl, rfl, HI⟩ := hrel
    have d0 : (0 : Int) ≤ (i : Int) := by omega
    go_upto_region 15 with fail
    go_cut [65] from 58 to 98 (fun s65 wc => s65 = .bool (decide (i < N) && !c) ∧ wc = wr)
    case first =>
      cases c with
      | true =>
        by_cases hlt : i < N
        · have d2 : (i : Int) < (N : Int) := by omega
          go_wp2_with fail
          go_meet
          case rel => exact ⟨by simp, rfl⟩
        · have d2 : ¬ (i : Int) < (N : Int) := by omega
          go_wp2_with fail
          go_meet
          case rel => exact ⟨by simp, rfl⟩
      | false =>
        by_cases hlt : i < N
        · have d2 : (i : Int) < (N : Int) := by omega
          go_wp2_with fail
          go_meet
          case rel => exact ⟨by simp [hlt], rfl⟩
        · have d2 : ¬ (i : Int) < (N : Int) := by omega
          go_wp2_with fail
          go_meet
          case rel => exact ⟨by simp [hlt], rfl⟩
    case rest =>
      obtain ⟨rfl, rfl⟩ := hcut
      cases hb : (decide (i < N) && !c) with
      | true =>
        obtain ⟨hlt, rfl⟩ : i < N ∧ c = false := by simpa using hb
        clear hb
        obtain ⟨r0, r1, tb, K, x, k, hC, hW, hD, hx, hk0, hk1, hte⟩ := HI.out
        have HTE := Lib.hid hte
        clear hte
        have hx := hx rfl
        clear HI
        have hi' : i < l.length := by rw [HN.out]; exact hlt
        have hcell := HAT.out i hi'
        generalize l[i] = b at hcell
        have d2 : (i : Int) < (N : Int) := by omega
        have c0 := (hW.mv.cell (p := ⟨g, o + i * 7, none⟩) hgl (fun e => e)).trans hcell.h0
        have c1 := (hW.mv.cell (p := ⟨g, o + i * 7 + 1, none⟩) hgl (fun e => e)).trans hcell.h1
        have c2 := (hW.mv.cell (p := ⟨g, o + i * 7 + 2, none⟩) hgl (fun e => e)).trans hcell.h2
        have c3 := (hW.mv.cell (p := ⟨g, o + i * 7 + 3, none⟩) hgl (fun e => e)).trans hcell.h3
        have c4 := (hW.mv.cell (p := ⟨g, o + i * 7 + 4, none⟩) hgl (fun e => e)).trans hcell.h4
        have c5 := (hW.mv.cell (p := ⟨g, o + i * 7 + 5, none⟩) hgl (fun e => e)).trans hcell.h5
        have c6 := (hW.mv.cell (p := ⟨g, o + i * 7 + 6, none⟩) hgl (fun e => e)).trans hcell.h6
        obtain ⟨g0, g1, g2⟩ := cells3 hW.hg
        obtain ⟨ep, ⟨z1, z2, z3⟩, sp, wd, lg⟩ := b
        dsimp only at c0 c1 c2 c3 c4 c5 c6 g0 g1 g2
        have gl0 := lt_of_block hW.hg
        have f0 := (World.cell?_alloc_lt wc (.cells #[.int .u64 ep, .int .i64 z1, .int .i64 z2, .int .i64 z3, .int .i64 sp, .int .i64 wd, .int .u64 lg] 32) ⟨bg, 0, none⟩ gl0).trans g0
        have f1 := (World.cell?_alloc_lt wc (.cells #[.int .u64 ep, .int .i64 z1, .int .i64 z2, .int .i64 z3, .int .i64 sp, .int .i64 wd, .int .u64 lg] 32) ⟨bg, 1, none⟩ gl0).trans g1
        have f2 := (World.cell?_alloc_lt wc (.cells #[.int .u64 ep, .int .i64 z1, .int .i64 z2, .int .i64 z3, .int .i64 sp, .int .i64 wd, .int .u64 lg] 32) ⟨bg, 2, none⟩ gl0).trans g2
        have hwf : WfB ⟨ep, ⟨gs, gl, gw⟩, sp, wd, lg⟩ := wf_of hcell.wf
        have hA := (Moves.refl (fun _ => False) wc).alloc (.cells #[.int .u64 ep, .int .i64 gs, .int .i64 gl, .int .i64 gw, .int .i64 sp, .int .i64 wd, .int .u64 lg] 32)
        have HBA := Lib.hid (heap_alloc_new wc (.cells #[.int .u64 ep, .int .i64 gs, .int .i64 gl, .int .i64 gw, .int .i64 sp, .int .i64 wd, .int .u64 lg] 32))
        have HWA := Lib.hid (hW.moves0 hA)
        have hDA := hD.moves0 hA
        have HDA := Lib.hid hDA
        have HC := Lib.hid hC
        have HSL := Lib.hid hlt
        have HX := Lib.hid hx
        have HK01 : Hid (0 ≤ k ∧ k ≤ i) := Lib.hid ⟨hk0, hk1⟩
        have HWF := Lib.hid hwf
        have hKl : K.length = secsN ⟨gs, gl, gw⟩ := hC.len
        have hK2 : 2 ≤ K.length := by rw [hKl]; exact secs_two HFG.out
        have hfit : fitsB (cutD ⟨gs, gl, gw⟩ K keep false x k) ⟨gs, gl, gw⟩ = true := fits_cuts HFG.out hKl _ _ _ _
        have hHI : (i : Int) ≤ 10 := by have := H1.out; omega
        have HE := Lib.hid (fun W => enc7_any ⟨ep, ⟨gs, gl, gw⟩, sp, wd, lg⟩ W)
        by_cases hgood : GoodB ⟨ep, ⟨gs, gl, gw⟩, sp, wd, lg⟩
        · rw [decide_eq_true hgood] at HE
          have HGB := Lib.hid hgood
          by_cases hx2 : 2 ≤ x
          · have HP := Lib.hid (put_armed hDA hgood hwf hfit hK2 ⟨hk0, by omega⟩ ⟨hx2, by omega⟩)
            have HX2 := Lib.hid hx2
            clear hx2
            clear hW hD hDA hC hx hcell hwf hA hKl hK2 hfit hgood hk0 hk1 hHI hi'
            go_wp2_with fail
            generalize wc.alloc (.cells #[.int .u64 ep, .int .i64 gs, .int .i64 gl, .int .i64 gw, .int .i64 sp, .int .i64 wd, .int .u64 lg] 32) = WA at HBA HWA HDA HP ⊢
            generalize wc.heap.size = gb at HBA ⊢
            clear c0 c1 c2 c3 c4 c5 c6 g0 g1 g2 f0 f1 f2 gl0
            refine HP.out.mono ?_
            rintro e w4 ⟨rfl, hd4, hv4⟩
            have hb4 := (hv4.mv.block _ (lt_of_block HBA.out) (HDA.out.apart HBA.out (by decide) (by decide))).trans HBA.out
            have hw4 := HWA.out.disk HDA.out HLO.out hv4
            clear hv4
            obtain ⟨y0, y1, y2, y3, y4, y5, y6⟩ := cells7 hb4
            have HB4 := Lib.hid hb4
            have HW4 := Lib.hid hw4
            have HD4 := Lib.hid hd4
            clear hb4 hw4 hd4
            go_wp2_with fail
            refine (HE.out _).mono ?_
            rintro e w5 ⟨rfl, hm5⟩
            have hb5 := (hm5.block _ (lt_of_block HB4.out) (fun e => e)).trans HB4.out
            have HB5 := Lib.hid hb5
            have HW5 := Lib.hid (HW4.out.moves0 hm5)
            have HD5 := Lib.hid (HD4.out.moves0 hm5)
            clear y0 y1 y2 y3 y4 y5 y6 hb5 hm5
            obtain ⟨y0, y1, y2, y3, y4, y5, y6⟩ := cells7 HB5.out
            go_wp2_with fail
            rcases slot_01 ep with he | he
            · have he2 : Int.tmod ep 2 = 0 := by have h1 := HWF.out.1; rw [Int.tmod_eq_emod_of_nonneg h1]; exact he
              have HHE := Lib.hid he
              have HNE : Hid (gb ≠ bn ∧ gb ≠ bh ∧ bh ≠ bn) := Lib.hid ⟨ne_ty HB5.out HW5.out.hn (by decide), ne_ty HB5.out HW5.out.hh (by decide), ne_ty HW5.out.hh HW5.out.hn (by decide)⟩
              obtain ⟨hne0, hne1, hne2⟩ := HNE.out
              have HFX : Hid (∀ W, Moves (fun _ => False) w5 W → W.cell? ⟨bn, 0, none⟩ = some (.int .u64 (orZ r0).epoch) ∧ W.cell? ⟨bn, 1, none⟩ = some (.int .i64 (orZ r0).geom.sector) ∧ W.cell? ⟨bn, 2, none⟩ = some (.int .i64 (orZ r0).geom.log) ∧ W.cell? ⟨bn, 3, none⟩ = some (.int .i64 (orZ r0).geom.words) ∧ W.cell? ⟨bn, 4, none⟩ = some (.int .i64 (orZ r0).space) ∧ W.cell? ⟨bn, 5, none⟩ = some (.int .i64 (orZ r0).words) ∧ W.cell? ⟨bn, 6, none⟩ = some (.int .u64 (orZ r0).log) ∧ W.frozen? ⟨bn, 0, none⟩ = false ∧ W.frozen? ⟨bn, 1, none⟩ = false ∧ W.frozen? ⟨bn, 2, none⟩ = false ∧ W.frozen? ⟨bn, 3, none⟩ = false ∧ W.frozen? ⟨bn, 4, none⟩ = false ∧ W.frozen? ⟨bn, 5, none⟩ = false ∧ W.frozen? ⟨bn, 6, none⟩ = false ∧ W.cell? ⟨gb, 0, none⟩ = some (.int .u64 ep) ∧ W.cell? ⟨gb, 1, none⟩ = some (.int .i64 gs) ∧ W.cell? ⟨gb, 2, none⟩ = some (.int .i64 gl) ∧ W.cell? ⟨gb, 3, none⟩ = some (.int .i64 gw) ∧ W.cell? ⟨gb, 4, none⟩ = some (.int .i64 sp) ∧ W.cell? ⟨gb, 5, none⟩ = some (.int .i64 wd) ∧ W.cell? ⟨gb, 6, none⟩ = some (.int .u64 lg) ∧ (((((((W.setCell ⟨bn, 0, none⟩ (.int .u64 ep)).setCell ⟨bn, 1, none⟩ (.int .i64 gs)).setCell ⟨bn, 2, none⟩ (.int .i64 gl)).setCell ⟨bn, 3, none⟩ (.int .i64 gw)).setCell ⟨bn, 4, none⟩ (.int .i64 sp)).setCell ⟨bn, 5, none⟩ (.int .i64 wd)).setCell ⟨bn, 6, none⟩ (.int .u64 lg)).cell? ⟨gb, 0, none⟩ = some (.int .u64 ep) ∧ (((((((W.setCell ⟨bn, 0, none⟩ (.int .u64 ep)).setCell ⟨bn, 1, none⟩ (.int .i64 gs)).setCell ⟨bn, 2, none⟩ (.int .i64 gl)).setCell ⟨bn, 3, none⟩ (.int .i64 gw)).setCell ⟨bn, 4, none⟩ (.int .i64 sp)).setCell ⟨bn, 5, none⟩ (.int .i64 wd)).setCell ⟨bn, 6, none⟩ (.int .u64 lg)).cell? ⟨bh, 0, none⟩ = some (.bool (isB r0)) ∧ (((((((W.setCell ⟨bn, 0, none⟩ (.int .u64 ep)).setCell ⟨bn, 1, none⟩ (.int .i64 gs)).setCell ⟨bn, 2, none⟩ (.int .i64 gl)).setCell ⟨bn, 3, none⟩ (.int .i64 gw)).setCell ⟨bn, 4, none⟩ (.int .i64 sp)).setCell ⟨bn, 5, none⟩ (.int .i64 wd)).setCell ⟨bn, 6, none⟩ (.int .u64 lg)).frozen? ⟨bh, 0, none⟩ = false) := Lib.hid (fun W hW => by
                have hb := (hW.block _ (lt_of_block HB5.out) (fun e => e)).trans HB5.out
                have hw := HW5.out.moves0 hW
                exact ⟨(cellF hw.hn 0 rfl).1, (cellF hw.hn 1 rfl).1, (cellF hw.hn 2 rfl).1, (cellF hw.hn 3 rfl).1, (cellF hw.hn 4 rfl).1, (cellF hw.hn 5 rfl).1, (cellF hw.hn 6 rfl).1, (cellF hw.hn 0 rfl).2, (cellF hw.hn 1 rfl).2, (cellF hw.hn 2 rfl).2, (cellF hw.hn 3 rfl).2, (cellF hw.hn 4 rfl).2, (cellF hw.hn 5 rfl).2, (cellF hw.hn 6 rfl).2, (cellF hb 0 rfl).1, (cellF hb 1 rfl).1, (cellF hb 2 rfl).1, (cellF hb 3 rfl).1, (cellF hb 4 rfl).1, (cellF hb 5 rfl).1, (cellF hb 6 rfl).1, ((put7_moves W bn 0 ⟨ep, ⟨gs, gl, gw⟩, sp, wd, lg⟩).cell (p := ⟨gb, 0, none⟩) (lt_of_block hb) (ne_ty hb hw.hn (by decide))).trans (cellF hb 0 rfl).1, ((put7_moves W bn 0 ⟨ep, ⟨gs, gl, gw⟩, sp, wd, lg⟩).cell (p := ⟨bh, 0, none⟩) (lt_of_block hw.hh) (ne_ty hw.hh hw.hn (by decide))).trans (cellF hw.hh 0 rfl).1, ((put7_moves W bn 0 ⟨ep, ⟨gs, gl, gw⟩, sp, wd, lg⟩).frozen (p := ⟨bh, 0, none⟩) (lt_of_block hw.hh) (ne_ty hw.hh hw.hn (by decide))).trans (cellF hw.hh 0 rfl).2⟩)
              have HO : Hid (∀ W, Calls Try.prog 23 #[.agg #[.int .u64 ep, .int .i64 gs, .int .i64 gl, .int .i64 gw, .int .i64 sp, .int .i64 wd, .int .u64 lg]] W (MovV W (.agg #[.int .u64 ep, .int .i64 gs, .int .i64 gl, .int .i64 gw, .int .i64 sp, .int .i64 wd, .int .u64 lg]))) := Lib.hid (fun W => of6_any ⟨ep, ⟨gs, gl, gw⟩, sp, wd, lg⟩ W)
              clear he
              go_region_with (first
                | (go_at_call 23
                   refine (HO.out _).mono ?_
                   rintro e w6 ⟨rfl, hm6⟩
                   have HM6 : Hid (Moves (fun _ => False) w5 w6) := Lib.hid (((Moves.refl (fun _ => False) w5).drew).trans hm6)
                   obtain ⟨z10, z11, z12, z13, z14, z15, z16, z17, z18, z19, z20, z21, z22, z23, z24, z25, z26, z27, z28, z29, z30, z31, z32, z33⟩ := HFX.out w6 HM6.out
                   clear hm6)
                | fail)
              all_goals
                go_wp2_with fail
                have HW6 := Lib.hid (HW5.out.moves0 HM6.out)
                have HD6 := Lib.hid (HD5.out.moves0 HM6.out)
                have hC' := HC.out.put HFG.out HGB.out HWF.out rfl
                dsimp only at hC'
                rw [if_pos HHE.out, if_pos HHE.out] at hC'
                have HCP := Lib.hid hC'
                clear hC'
                go_roundg (N - (i + 1))
                case measure => have := HSL.out; omega
                case rel =>
                  have hs := HSL.out
                  have hq := HX2.out
                  have hk := HK01.out
                  have hx3 := HX.out
                  exact ⟨i + 1, false, by omega, rfl, rfl, by go_num, Lib.hid ⟨_, _, _, _, x - 1, k + 1, HCP.out, HW6.out.put0 ⟨ep, ⟨gs, gl, gw⟩, sp, wd, lg⟩, HW6.out.diskN HD6.out 0 0 ⟨ep, ⟨gs, gl, gw⟩, sp, wd, lg⟩ (.bool true), fun _ => by omega, by omega, by omega, HTE.out⟩⟩
            · have he2 : Int.tmod ep 2 = 1 := by have h1 := HWF.out.1; rw [Int.tmod_eq_emod_of_nonneg h1]; exact he
              have HHE := Lib.hid he
              have HNE : Hid (gb ≠ bn ∧ gb ≠ bh ∧ bh ≠ bn) := Lib.hid ⟨ne_ty HB5.out HW5.out.hn (by decide), ne_ty HB5.out HW5.out.hh (by decide), ne_ty HW5.out.hh HW5.out.hn (by decide)⟩
              obtain ⟨hne0, hne1, hne2⟩ := HNE.out
              have HFX : Hid (∀ W, Moves (fun _ => False) w5 W → W.cell? ⟨bn, 7, none⟩ = some (.int .u64 (orZ r1).epoch) ∧ W.cell? ⟨bn, 8, none⟩ = some (.int .i64 (orZ r1).geom.sector) ∧ W.cell? ⟨bn, 9, none⟩ = some (.int .i64 (orZ r1).geom.log) ∧ W.cell? ⟨bn, 10, none⟩ = some (.int .i64 (orZ r1).geom.words) ∧ W.cell? ⟨bn, 11, none⟩ = some (.int .i64 (orZ r1).space) ∧ W.cell? ⟨bn, 12, none⟩ = some (.int .i64 (orZ r1).words) ∧ W.cell? ⟨bn, 13, none⟩ = some (.int .u64 (orZ r1).log) ∧ W.frozen? ⟨bn, 7, none⟩ = false ∧ W.frozen? ⟨bn, 8, none⟩ = false ∧ W.frozen? ⟨bn, 9, none⟩ = false ∧ W.frozen? ⟨bn, 10, none⟩ = false ∧ W.frozen? ⟨bn, 11, none⟩ = false ∧ W.frozen? ⟨bn, 12, none⟩ = false ∧ W.frozen? ⟨bn, 13, none⟩ = false ∧ W.cell? ⟨gb, 0, none⟩ = some (.int .u64 ep) ∧ W.cell? ⟨gb, 1, none⟩ = some (.int .i64 gs) ∧ W.cell? ⟨gb, 2, none⟩ = some (.int .i64 gl) ∧ W.cell? ⟨gb, 3, none⟩ = some (.int .i64 gw) ∧ W.cell? ⟨gb, 4, none⟩ = some (.int .i64 sp) ∧ W.cell? ⟨gb, 5, none⟩ = some (.int .i64 wd) ∧ W.cell? ⟨gb, 6, none⟩ = some (.int .u64 lg) ∧ (((((((W.setCell ⟨bn, 7, none⟩ (.int .u64 ep)).setCell ⟨bn, 8, none⟩ (.int .i64 gs)).setCell ⟨bn, 9, none⟩ (.int .i64 gl)).setCell ⟨bn, 10, none⟩ (.int .i64 gw)).setCell ⟨bn, 11, none⟩ (.int .i64 sp)).setCell ⟨bn, 12, none⟩ (.int .i64 wd)).setCell ⟨bn, 13, none⟩ (.int .u64 lg)).cell? ⟨gb, 0, none⟩ = some (.int .u64 ep) ∧ (((((((W.setCell ⟨bn, 7, none⟩ (.int .u64 ep)).setCell ⟨bn, 8, none⟩ (.int .i64 gs)).setCell ⟨bn, 9, none⟩ (.int .i64 gl)).setCell ⟨bn, 10, none⟩ (.int .i64 gw)).setCell ⟨bn, 11, none⟩ (.int .i64 sp)).setCell ⟨bn, 12, none⟩ (.int .i64 wd)).setCell ⟨bn, 13, none⟩ (.int .u64 lg)).cell? ⟨bh, 1, none⟩ = some (.bool (isB r1)) ∧ (((((((W.setCell ⟨bn, 7, none⟩ (.int .u64 ep)).setCell ⟨bn, 8, none⟩ (.int .i64 gs)).setCell ⟨bn, 9, none⟩ (.int .i64 gl)).setCell ⟨bn, 10, none⟩ (.int .i64 gw)).setCell ⟨bn, 11, none⟩ (.int .i64 sp)).setCell ⟨bn, 12, none⟩ (.int .i64 wd)).setCell ⟨bn, 13, none⟩ (.int .u64 lg)).frozen? ⟨bh, 1, none⟩ = false) := Lib.hid (fun W hW => by
                have hb := (hW.block _ (lt_of_block HB5.out) (fun e => e)).trans HB5.out
                have hw := HW5.out.moves0 hW
                exact ⟨(cellF hw.hn 7 rfl).1, (cellF hw.hn 8 rfl).1, (cellF hw.hn 9 rfl).1, (cellF hw.hn 10 rfl).1, (cellF hw.hn 11 rfl).1, (cellF hw.hn 12 rfl).1, (cellF hw.hn 13 rfl).1, (cellF hw.hn 7 rfl).2, (cellF hw.hn 8 rfl).2, (cellF hw.hn 9 rfl).2, (cellF hw.hn 10 rfl).2, (cellF hw.hn 11 rfl).2, (cellF hw.hn 12 rfl).2, (cellF hw.hn 13 rfl).2, (cellF hb 0 rfl).1, (cellF hb 1 rfl).1, (cellF hb 2 rfl).1, (cellF hb 3 rfl).1, (cellF hb 4 rfl).1, (cellF hb 5 rfl).1, (cellF hb 6 rfl).1, ((put7_moves W bn 7 ⟨ep, ⟨gs, gl, gw⟩, sp, wd, lg⟩).cell (p := ⟨gb, 0, none⟩) (lt_of_block hb) (ne_ty hb hw.hn (by decide))).trans (cellF hb 0 rfl).1, ((put7_moves W bn 7 ⟨ep, ⟨gs, gl, gw⟩, sp, wd, lg⟩).cell (p := ⟨bh, 1, none⟩) (lt_of_block hw.hh) (ne_ty hw.hh hw.hn (by decide))).trans (cellF hw.hh 1 rfl).1, ((put7_moves W bn 7 ⟨ep, ⟨gs, gl, gw⟩, sp, wd, lg⟩).frozen (p := ⟨bh, 1, none⟩) (lt_of_block hw.hh) (ne_ty hw.hh hw.hn (by decide))).trans (cellF hw.hh 1 rfl).2⟩)
              have HO : Hid (∀ W, Calls Try.prog 23 #[.agg #[.int .u64 ep, .int .i64 gs, .int .i64 gl, .int .i64 gw, .int .i64 sp, .int .i64 wd, .int .u64 lg]] W (MovV W (.agg #[.int .u64 ep, .int .i64 gs, .int .i64 gl, .int .i64 gw, .int .i64 sp, .int .i64 wd, .int .u64 lg]))) := Lib.hid (fun W => of6_any ⟨ep, ⟨gs, gl, gw⟩, sp, wd, lg⟩ W)
              clear he
              go_region_with (first
                | (go_at_call 23
                   refine (HO.out _).mono ?_
                   rintro e w6 ⟨rfl, hm6⟩
                   have HM6 : Hid (Moves (fun _ => False) w5 w6) := Lib.hid (((Moves.refl (fun _ => False) w5).drew).trans hm6)
                   obtain ⟨z10, z11, z12, z13, z14, z15, z16, z17, z18, z19, z20, z21, z22, z23, z24, z25, z26, z27, z28, z29, z30, z31, z32, z33⟩ := HFX.out w6 HM6.out
                   clear hm6)
                | fail)
              all_goals
                go_wp2_with fail
                have HW6 := Lib.hid (HW5.out.moves0 HM6.out)
                have HD6 := Lib.hid (HD5.out.moves0 HM6.out)
                have hC' := HC.out.put HFG.out HGB.out HWF.out rfl
                dsimp only at hC'
                rw [if_neg (by have := HHE.out; omega), if_neg (by have := HHE.out; omega)] at hC'
                have HCP := Lib.hid hC'
                clear hC'
                go_roundg (N - (i + 1))
                case measure => have := HSL.out; omega
                case rel =>
                  have hs := HSL.out
                  have hq := HX2.out
                  have hk := HK01.out
                  have hx3 := HX.out
                  exact ⟨i + 1, false, by omega, rfl, rfl, by go_num, Lib.hid ⟨_, _, _, _, x - 1, k + 1, HCP.out, HW6.out.put1 ⟨ep, ⟨gs, gl, gw⟩, sp, wd, lg⟩, HW6.out.diskN HD6.out 7 1 ⟨ep, ⟨gs, gl, gw⟩, sp, wd, lg⟩ (.bool true), fun _ => by omega, by omega, by omega, HTE.out⟩⟩
          · have HP := Lib.hid (put_gone hDA hgood hwf hfit hK2 (by omega) (by have := HKL.out; have := HKM.out; omega))
            clear hx2
            clear hW hD hDA hC hx hcell hwf hA hKl hK2 hfit hgood hk0 hk1 hHI hi'
            go_wp2_with fail
            generalize wc.alloc (.cells #[.int .u64 ep, .int .i64 gs, .int .i64 gl, .int .i64 gw, .int .i64 sp, .int .i64 wd, .int .u64 lg] 32) = WA at HBA HWA HDA HP ⊢
            generalize wc.heap.size = gb at HBA ⊢
            clear c0 c1 c2 c3 c4 c5 c6 g0 g1 g2 f0 f1 f2 gl0
            refine HP.out.mono ?_
            rintro e w4 ⟨rfl, hd4, hv4⟩
            have hb4 := (hv4.mv.block _ (lt_of_block HBA.out) (HDA.out.apart HBA.out (by decide) (by decide))).trans HBA.out
            have hw4 := HWA.out.disk HDA.out HLO.out hv4
            clear hv4
            obtain ⟨y0, y1, y2, y3, y4, y5, y6⟩ := cells7 hb4
            have HB4 := Lib.hid hb4
            have HW4 := Lib.hid hw4
            have HD4 := Lib.hid hd4
            clear hb4 hw4 hd4
            go_wp2_with fail
            refine (HE.out _).mono ?_
            rintro e w5 ⟨rfl, hm5⟩
            have hb5 := (hm5.block _ (lt_of_block HB4.out) (fun e => e)).trans HB4.out
            have HB5 := Lib.hid hb5
            have HW5 := Lib.hid (HW4.out.moves0 hm5)
            have HD5 := Lib.hid (HD4.out.moves0 hm5)
            clear y0 y1 y2 y3 y4 y5 y6 hb5 hm5
            obtain ⟨y0, y1, y2, y3, y4, y5, y6⟩ := cells7 HB5.out
            have HO : Hid (∀ W, Calls Try.prog 23 #[.agg #[.int .u64 ep, .int .i64 gs, .int .i64 gl, .int .i64 gw, .int .i64 sp, .int .i64 wd, .int .u64 lg]] W (MovV W (.agg #[.int .u64 ep, .int .i64 gs, .int .i64 gl, .int .i64 gw, .int .i64 sp, .int .i64 wd, .int .u64 lg]))) := Lib.hid (fun W => of6_any ⟨ep, ⟨gs, gl, gw⟩, sp, wd, lg⟩ W)
            go_wp2_with fail
            refine (HO.out _).mono ?_
            rintro e w6 ⟨rfl, hm6⟩
            have HW6 := Lib.hid (HW5.out.moves0 hm6)
            have HD6 := Lib.hid (HD5.out.moves0 hm6)
            clear hm6
            have n0 := cellF HW6.out.ht 0 rfl
            have n1 := cellF HW6.out.ht 1 rfl
            have n2 := cellF HW6.out.ht 2 rfl
            have n3 := cellF HW6.out.ht 3 rfl
            have n4 := cellF HW6.out.ht 4 rfl
            have n5 := cellF HW6.out.ht 5 rfl
            have n6 := cellF HW6.out.ht 6 rfl
            obtain ⟨n0a, n0b, n1a, n1b, n2a, n2b, n3a, n3b, n4a, n4b, n5a, n5b, n6a, n6b⟩ := (⟨n0.1, n0.2, n1.1, n1.2, n2.1, n2.2, n3.1, n3.2, n4.1, n4.2, n5.1, n5.2, n6.1, n6.2⟩ : w6.cell? ⟨bt, 0, none⟩ = some (.int .u64 tb.epoch) ∧ w6.frozen? ⟨bt, 0, none⟩ = false ∧ w6.cell? ⟨bt, 1, none⟩ = some (.int .i64 tb.geom.sector) ∧ w6.frozen? ⟨bt, 1, none⟩ = false ∧ w6.cell? ⟨bt, 2, none⟩ = some (.int .i64 tb.geom.log) ∧ w6.frozen? ⟨bt, 2, none⟩ = false ∧ w6.cell? ⟨bt, 3, none⟩ = some (.int .i64 tb.geom.words) ∧ w6.frozen? ⟨bt, 3, none⟩ = false ∧ w6.cell? ⟨bt, 4, none⟩ = some (.int .i64 tb.space) ∧ w6.frozen? ⟨bt, 4, none⟩ = false ∧ w6.cell? ⟨bt, 5, none⟩ = some (.int .i64 tb.words) ∧ w6.frozen? ⟨bt, 5, none⟩ = false ∧ w6.cell? ⟨bt, 6, none⟩ = some (.int .u64 tb.log) ∧ w6.frozen? ⟨bt, 6, none⟩ = false)
            clear n0 n1 n2 n3 n4 n5 n6
            go_wp2_with fail
            go_roundg (N - (i + 1))
            case measure => have := HSL.out; omega
            case rel =>
              have hs := HSL.out
              have hk := HK01.out
              exact ⟨i + 1, true, by omega, rfl, rfl, by go_num, Lib.hid ⟨r0, r1, _, K, x - 1, k, HC.out, HW6.out.torn ⟨ep, ⟨gs, gl, gw⟩, sp, wd, lg⟩, HW6.out.diskT HD6.out ⟨ep, ⟨gs, gl, gw⟩, sp, wd, lg⟩, fun h => (by cases h), by omega, by omega, HWF.out.1⟩⟩
        · rw [decide_eq_false hgood] at HE
          have HP := Lib.hid (write_noform hDA hgood)
          clear hW hD hDA hC hx hcell hwf hA hKl hK2 hfit hgood hk0 hk1 hHI hi'
          go_wp2_with fail
          generalize wc.alloc (.cells #[.int .u64 ep, .int .i64 gs, .int .i64 gl, .int .i64 gw, .int .i64 sp, .int .i64 wd, .int .u64 lg] 32) = WA at HBA HWA HDA HP ⊢
          generalize wc.heap.size = gb at HBA ⊢
          clear c0 c1 c2 c3 c4 c5 c6 g0 g1 g2 f0 f1 f2 gl0
          refine HP.out.mono ?_
          rintro e w4 ⟨rfl, hm4⟩
          have hb4 := (hm4.block _ (lt_of_block HBA.out) (fun e => e)).trans HBA.out
          have hw4 := HWA.out.moves0 hm4
          have hd4 := HDA.out.moves0 hm4
          clear hm4
          obtain ⟨y0, y1, y2, y3, y4, y5, y6⟩ := cells7 hb4
          have HB4 := Lib.hid hb4
          have HW4 := Lib.hid hw4
          have HD4 := Lib.hid hd4
          clear hb4 hw4 hd4
          go_wp2_with fail
          refine (HE.out _).mono ?_
          rintro e w5 ⟨rfl, hm5⟩
          have hb5 := (hm5.block _ (lt_of_block HB4.out) (fun e => e)).trans HB4.out
          have HB5 := Lib.hid hb5
          have HW5 := Lib.hid (HW4.out.moves0 hm5)
          have HD5 := Lib.hid (HD4.out.moves0 hm5)
          clear y0 y1 y2 y3 y4 y5 y6 hb5 hm5
          obtain ⟨y0, y1, y2, y3, y4, y5, y6⟩ := cells7 HB5.out
          go_wp2_with fail
          go_roundg (N - (i + 1))
          case measure => have := HSL.out; omega
          case rel =>
            have hs := HSL.out
            have hk := HK01.out
            exact ⟨i + 1, false, by omega, rfl, rfl, by go_num, Lib.hid ⟨r0, r1, tb, K, x, k, HC.out, HW5.out, HD5.out, fun _ => HX.out, by omega, by omega, HTE.out⟩⟩
      | false =>
        have HC : Hid (CutT w base d bg bn bh bt ⟨gs, gl, gw⟩ keep N c wc) := by
          obtain ⟨r0, r1, tb, K, x, k, h1, h2, h3, h4, h5, h6, h7⟩ := HI.out
          exact Lib.hid ⟨r0, r1, tb, K, x, k, h1, h2, h3, h4, h5, by omega, h7⟩
        clear HI hb
        obtain ⟨r0, r1, tb, K, x, k, hC, hW, hD, -, -, -, hte⟩ := HC.out
        have HTE := Lib.hid hte
        clear hte
        clear HC
        have hon : ∃ a' l' k', ({ cutD ⟨gs, gl, gw⟩ K keep c x k with off := false } : DS) = calmS (sizeN ⟨gs, gl, gw⟩) K a' l' k' k := by
          cases c with
          | true => exact ⟨false, x, [], rfl⟩
          | false => exact ⟨true, x, keep, rfl⟩
        obtain ⟨a', l', k', hon⟩ := hon
        have HON : Hid (Calls Try.prog 24 #[.pointer (some ⟨d, 0, none⟩)] wc (DPost wc base d (calmS (sizeN ⟨gs, gl, gw⟩) K a' l' k' k) (.tuple #[]))) := Lib.hid (by rw [← hon]; exact Pl.on_any hD)
        have HW0 := Lib.hid hW
        have HD0 := Lib.hid hD
        have HCC := Lib.hid hC
        clear hW hD hC hon
        go_wp2_with fail
        refine HON.out.mono ?_
        rintro e w5 ⟨rfl, hd5, hv5, hv5'⟩
        have HW5 := Lib.hid (HW0.out.disk HD0.out HLO.out ⟨hv5, hv5'⟩)
        have hB := HCC.out.both HFG.out hd5
        obtain ⟨o0, ho0⟩ : ∃ o, isB r0 = o := ⟨_, rfl⟩
        obtain ⟨o1, ho1⟩ : ∃ o, isB r1 = o := ⟨_, rfl⟩
        have hn5 := HW5.out.hn
        have hh5 := HW5.out.hh
        have ht5 := HW5.out.ht
        rw [ho0, ho1] at hh5
        obtain ⟨⟨p0, ⟨p1, p2, p3⟩, p4, p5, p6⟩, hp⟩ : ∃ b, orZ r0 = b := ⟨_, rfl⟩
        obtain ⟨⟨q0, ⟨q1, q2, q3⟩, q4, q5, q6⟩, hq⟩ : ∃ b, orZ r1 = b := ⟨_, rfl⟩
        obtain ⟨t0, ⟨t1, t2, t3⟩, t4, t5, t6⟩ := tb
        rw [hp, hq] at hn5
        have hB : Calls Try.prog 16 #[.pointer (some ⟨d, 0, none⟩)] w5 (fun e w' => e = .returned (.tuple #[.agg #[.int .u64 p0, .int .i64 p1, .int .i64 p2, .int .i64 p3, .int .i64 p4, .int .i64 p5, .int .u64 p6, .int .u64 q0, .int .i64 q1, .int .i64 q2, .int .i64 q3, .int .i64 q4, .int .i64 q5, .int .u64 q6], .agg #[.bool o0, .bool o1], .int .i64 0]) ∧ Moves (fun _ => False) w5 w') := by
          refine hB.mono fun e w' q => ⟨q.1.trans ?_, q.2⟩
          rw [pairV, onV, hp, hq, ho0, ho1]
        have HB := Lib.hid hB
        have HN5 : Hid (w5.heap[bn]? = some (.cells #[.int .u64 p0, .int .i64 p1, .int .i64 p2, .int .i64 p3, .int .i64 p4, .int .i64 p5, .int .u64 p6, .int .u64 q0, .int .i64 q1, .int .i64 q2, .int .i64 q3, .int .i64 q4, .int .i64 q5, .int .u64 q6] 50 (0, 0))) := Lib.hid hn5
        have HH5 : Hid (w5.heap[bh]? = some (.cells #[.bool o0, .bool o1] 36 (0, 0))) := Lib.hid hh5
        have HT5 : Hid (w5.heap[bt]? = some (.cells #[.int .u64 t0, .int .i64 t1, .int .i64 t2, .int .i64 t3, .int .i64 t4, .int .i64 t5, .int .u64 t6] 49 (0, 0))) := Lib.hid ht5
        have M5 := Lib.hid HW5.out.mv
        clear hB hn5 hh5 ht5 hd5 hv5 hv5' HON HW0 HD0 HCC HW5 ho0 ho1 hp hq
        go_wp2_with fail
        refine HB.out.mono ?_
        rintro e w6 ⟨rfl, hm6⟩
        have hmA := (hm6.alloc (.cells #[.int .u64 p0, .int .i64 p1, .int .i64 p2, .int .i64 p3, .int .i64 p4, .int .i64 p5, .int .u64 p6, .int .u64 q0, .int .i64 q1, .int .i64 q2, .int .i64 q3, .int .i64 q4, .int .i64 q5, .int .u64 q6] 35)).alloc (.cells #[.bool o0, .bool o1] 36)
        have bA : ((w6.alloc (.cells #[.int .u64 p0, .int .i64 p1, .int .i64 p2, .int .i64 p3, .int .i64 p4, .int .i64 p5, .int .u64 p6, .int .u64 q0, .int .i64 q1, .int .i64 q2, .int .i64 q3, .int .i64 q4, .int .i64 q5, .int .u64 q6] 35)).alloc (.cells #[.bool o0, .bool o1] 36)).heap[w6.heap.size]? = some (.cells #[.int .u64 p0, .int .i64 p1, .int .i64 p2, .int .i64 p3, .int .i64 p4, .int .i64 p5, .int .u64 p6, .int .u64 q0, .int .i64 q1, .int .i64 q2, .int .i64 q3, .int .i64 q4, .int .i64 q5, .int .u64 q6] 35 (0, 0)) := (Below.heap_alloc _ _ _ (by simp)).trans (alloc_at rfl)
        have bB : ((w6.alloc (.cells #[.int .u64 p0, .int .i64 p1, .int .i64 p2, .int .i64 p3, .int .i64 p4, .int .i64 p5, .int .u64 p6, .int .u64 q0, .int .i64 q1, .int .i64 q2, .int .i64 q3, .int .i64 q4, .int .i64 q5, .int .u64 q6] 35)).alloc (.cells #[.bool o0, .bool o1] 36)).heap[w6.heap.size + 1]? = some (.cells #[.bool o0, .bool o1] 36 (0, 0)) := alloc_at (by simp)
        have HMA := Lib.hid hmA
        have HBA := Lib.hid bA
        have HBB := Lib.hid bB
        clear hm6 hmA bA bB
        go_wp2_with fail
        generalize (w6.alloc (.cells #[.int .u64 p0, .int .i64 p1, .int .i64 p2, .int .i64 p3, .int .i64 p4, .int .i64 p5, .int .u64 p6, .int .u64 q0, .int .i64 q1, .int .i64 q2, .int .i64 q3, .int .i64 q4, .int .i64 q5, .int .u64 q6] 35)).alloc (.cells #[.bool o0, .bool o1] 36) = W7 at HMA HBA HBB ⊢
        generalize w6.heap.size = bp at HBA HBB ⊢
        have HM7 := Lib.hid (M5.out.trans HMA.out)
        have HBK : Hid (∀ W, KpS W7 W → W.heap[bn]? = some (.cells #[.int .u64 p0, .int .i64 p1, .int .i64 p2, .int .i64 p3, .int .i64 p4, .int .i64 p5, .int .u64 p6, .int .u64 q0, .int .i64 q1, .int .i64 q2, .int .i64 q3, .int .i64 q4, .int .i64 q5, .int .u64 q6] 50 (0, 0)) ∧ W.heap[bh]? = some (.cells #[.bool o0, .bool o1] 36 (0, 0)) ∧ W.heap[bt]? = some (.cells #[.int .u64 t0, .int .i64 t1, .int .i64 t2, .int .i64 t3, .int .i64 t4, .int .i64 t5, .int .u64 t6] 49 (0, 0)) ∧ W.heap[bp]? = some (.cells #[.int .u64 p0, .int .i64 p1, .int .i64 p2, .int .i64 p3, .int .i64 p4, .int .i64 p5, .int .u64 p6, .int .u64 q0, .int .i64 q1, .int .i64 q2, .int .i64 q3, .int .i64 q4, .int .i64 q5, .int .u64 q6] 35 (0, 0)) ∧ W.heap[bp + 1]? = some (.cells #[.bool o0, .bool o1] 36 (0, 0))) := Lib.hid (fun W hk => by
          have hW := KpS.moves hk
          have hW0 := HMA.out.trans hW
          exact ⟨(hW0.block _ (lt_of_block HN5.out) (fun e => e)).trans HN5.out, (hW0.block _ (lt_of_block HH5.out) (fun e => e)).trans HH5.out, (hW0.block _ (lt_of_block HT5.out) (fun e => e)).trans HT5.out, (hW.block _ (lt_of_block HBA.out) (fun e => e)).trans HBA.out, (hW.block _ (lt_of_block HBB.out) (fun e => e)).trans HBB.out⟩)
        have HK0 := Lib.hid (KpS.refl W7)
        clear HN5 HH5 HT5 HMA HBA HBB M5 HB
        generalize bp + 1 = bo at HBK ⊢
        go_loopg [20] 2 (fun gg s20 wr => ∃ j : Nat, j ≤ 2 ∧ gg = 2 - j ∧ s20 = .int .i64 j ∧ Hid (KpS W7 wr))
        case atStart => exact ⟨0, by omega, rfl, rfl, HK0⟩
        case round =>
          obtain ⟨j, hj, hg2, rfl, HI⟩ := hrel
          have hj3 : j = 2 ∨ j = 0 ∨ j = 1 := by omega
          rcases hj3 with rfl | rfl | rfl
          · go_wp2_with fail
            go_ret
            exact ⟨rfl, HM7.out.trans (KpS.moves HI.out)⟩
          · have HK := HI
            go_wp2_with fail
            go_cut [21] from 109 to 163 (fun s21 wc => s21 = .bool true ∧ Hid (KpS W7 wc))
            case first =>
              cases o0 with
              | false =>
                have HNN : Hid (∀ w', KpS W7 w' → KpS W7 w' ∧ w'.cell? ⟨bo, 0, none⟩ = some (.bool false) ∧ w'.cell? ⟨bh, 0, none⟩ = some (.bool false)) := Lib.hid fun w' hk => ⟨hk, (cellF ((HBK.out _ hk).2.2.2.2) 0 rfl).1, (cellF ((HBK.out _ hk).2.1) 0 rfl).1⟩
                obtain ⟨-, v0, v1⟩ := HNN.out wr HK.out
                go_quiet (fail)
                go_wp2_with fail
                go_meet
                case rel => exact ⟨rfl, Lib.hid (KpS.of ((KpS.moves HK.out).drewN _))⟩
              | true =>
                have HNN : Hid (∀ w', KpS W7 w' → KpS W7 w' ∧ w'.cell? ⟨bo, 0, none⟩ = some (.bool true) ∧ w'.cell? ⟨bh, 0, none⟩ = some (.bool true) ∧ w'.cell? ⟨bp, 0, none⟩ = some (.int .u64 p0) ∧ w'.cell? ⟨bp, 1, none⟩ = some (.int .i64 p1) ∧ w'.cell? ⟨bp, 2, none⟩ = some (.int .i64 p2) ∧ w'.cell? ⟨bp, 3, none⟩ = some (.int .i64 p3) ∧ w'.cell? ⟨bp, 4, none⟩ = some (.int .i64 p4) ∧ w'.cell? ⟨bp, 5, none⟩ = some (.int .i64 p5) ∧ w'.cell? ⟨bp, 6, none⟩ = some (.int .u64 p6) ∧ w'.cell? ⟨bn, 0, none⟩ = some (.int .u64 p0) ∧ w'.cell? ⟨bn, 1, none⟩ = some (.int .i64 p1) ∧ w'.cell? ⟨bn, 2, none⟩ = some (.int .i64 p2) ∧ w'.cell? ⟨bn, 3, none⟩ = some (.int .i64 p3) ∧ w'.cell? ⟨bn, 4, none⟩ = some (.int .i64 p4) ∧ w'.cell? ⟨bn, 5, none⟩ = some (.int .i64 p5) ∧ w'.cell? ⟨bn, 6, none⟩ = some (.int .u64 p6)) := Lib.hid fun w' hk => ⟨hk, (cellF ((HBK.out _ hk).2.2.2.2) 0 rfl).1, (cellF ((HBK.out _ hk).2.1) 0 rfl).1, (cellF ((HBK.out _ hk).2.2.2.1) 0 rfl).1, (cellF ((HBK.out _ hk).2.2.2.1) 1 rfl).1, (cellF ((HBK.out _ hk).2.2.2.1) 2 rfl).1, (cellF ((HBK.out _ hk).2.2.2.1) 3 rfl).1, (cellF ((HBK.out _ hk).2.2.2.1) 4 rfl).1, (cellF ((HBK.out _ hk).2.2.2.1) 5 rfl).1, (cellF ((HBK.out _ hk).2.2.2.1) 6 rfl).1, (cellF ((HBK.out _ hk).1) 0 rfl).1, (cellF ((HBK.out _ hk).1) 1 rfl).1, (cellF ((HBK.out _ hk).1) 2 rfl).1, (cellF ((HBK.out _ hk).1) 3 rfl).1, (cellF ((HBK.out _ hk).1) 4 rfl).1, (cellF ((HBK.out _ hk).1) 5 rfl).1, (cellF ((HBK.out _ hk).1) 6 rfl).1⟩
                have HO : Hid (∀ W, Calls Try.prog 23 #[(.agg #[.int .u64 p0, .int .i64 p1, .int .i64 p2, .int .i64 p3, .int .i64 p4, .int .i64 p5, .int .u64 p6])] W (MovV W (.agg #[.int .u64 p0, .int .i64 p1, .int .i64 p2, .int .i64 p3, .int .i64 p4, .int .i64 p5, .int .u64 p6]))) := Lib.hid (fun W => of6_any ⟨p0, ⟨p1, p2, p3⟩, p4, p5, p6⟩ W)
                have hK0 := HNN.out _ HK.out
                have hK1 := HNN.out wr.drew (KpS.of ((KpS.moves HK.out).trans (Moves.refl (fun _ => False) wr).drew))
                go_region_held3 (fun w' => KpS W7 w' ∧ w'.cell? ⟨bo, 0, none⟩ = some (.bool true) ∧ w'.cell? ⟨bh, 0, none⟩ = some (.bool true) ∧ w'.cell? ⟨bp, 0, none⟩ = some (.int .u64 p0) ∧ w'.cell? ⟨bp, 1, none⟩ = some (.int .i64 p1) ∧ w'.cell? ⟨bp, 2, none⟩ = some (.int .i64 p2) ∧ w'.cell? ⟨bp, 3, none⟩ = some (.int .i64 p3) ∧ w'.cell? ⟨bp, 4, none⟩ = some (.int .i64 p4) ∧ w'.cell? ⟨bp, 5, none⟩ = some (.int .i64 p5) ∧ w'.cell? ⟨bp, 6, none⟩ = some (.int .u64 p6) ∧ w'.cell? ⟨bn, 0, none⟩ = some (.int .u64 p0) ∧ w'.cell? ⟨bn, 1, none⟩ = some (.int .i64 p1) ∧ w'.cell? ⟨bn, 2, none⟩ = some (.int .i64 p2) ∧ w'.cell? ⟨bn, 3, none⟩ = some (.int .i64 p3) ∧ w'.cell? ⟨bn, 4, none⟩ = some (.int .i64 p4) ∧ w'.cell? ⟨bn, 5, none⟩ = some (.int .i64 p5) ∧ w'.cell? ⟨bn, 6, none⟩ = some (.int .u64 p6)) (first | with_reducible exact hS' | with_reducible exact hK0 | with_reducible exact hK1 | assumption)
                  (first
                    | (go_at_call 23; (with_reducible refine (HO.out _).mono ?_); rintro e w' ⟨rfl, hl⟩; have hS' := HNN.out _ (KpS.of ((KpS.moves (And.left (by assumption))).trans hl)))
                    | fail)
                all_goals
                  go_wp2_with fail
                  go_meet
                  case rel => exact ⟨rfl, Lib.hid (And.left hS')⟩
            case rest =>
              obtain ⟨rfl, HK2⟩ := hcut
              clear HK HI
              have HK := HK2
              go_upto_region 40 with fail
              go_cut [22] from 109 to 163 (fun s22 wc => ∃ b : Bool, s22 = .bool b ∧ Hid (KpS W7 wc))
              case first =>
                cases c with
                | false =>
                  go_quiet (fail)
                  go_wp2_with fail
                  go_meet
                  case rel => exact ⟨_, rfl, Lib.hid (KpS.of ((KpS.moves HK.out).drewN _))⟩
                | true =>
                  have e64 : (0 : Int) ≤ t0 := HTE.out
                  by_cases he : t0 % 2 = 0
                  · have he2 : Int.tmod t0 2 = 0 := by rw [Int.tmod_eq_emod_of_nonneg e64]; exact he
                    cases o0 with
                    | false =>
                      have HNN : Hid (∀ w', KpS W7 w' → KpS W7 w' ∧ w'.cell? ⟨bt, 0, none⟩ = some (.int .u64 t0) ∧ w'.cell? ⟨bo, 0, none⟩ = some (.bool false)) := Lib.hid fun w' hk => ⟨hk, (cellF ((HBK.out _ hk).2.2.1) 0 rfl).1, (cellF ((HBK.out _ hk).2.2.2.2) 0 rfl).1⟩
                      obtain ⟨-, v0, v1⟩ := HNN.out wc HK.out
                      go_quiet (fail)
                      go_wp2_with fail
                      go_meet
                      case rel => exact ⟨_, rfl, Lib.hid (KpS.of ((KpS.moves HK.out).drewN _))⟩
                    | true =>
                      obtain ⟨bb, hbb⟩ : ∃ bb, decide ((⟨p0, ⟨p1, p2, p3⟩, p4, p5, p6⟩ : Blk) = ⟨t0, ⟨t1, t2, t3⟩, t4, t5, t6⟩) = bb := ⟨_, rfl⟩
                      have heq : ∀ W, (binOp .eql 49 (.agg #[.int .u64 p0, .int .i64 p1, .int .i64 p2, .int .i64 p3, .int .i64 p4, .int .i64 p5, .int .u64 p6]) (.agg #[.int .u64 t0, .int .i64 t1, .int .i64 t2, .int .i64 t3, .int .i64 t4, .int .i64 t5, .int .u64 t6])).run Try.prog W = .ok (.bool bb) W := fun W => hbb ▸ eql_blk ⟨p0, ⟨p1, p2, p3⟩, p4, p5, p6⟩ ⟨t0, ⟨t1, t2, t3⟩, t4, t5, t6⟩ W
                      clear hbb
                      have HNN : Hid (∀ w', KpS W7 w' → KpS W7 w' ∧ w'.cell? ⟨bo, 0, none⟩ = some (.bool true) ∧ w'.cell? ⟨bt, 0, none⟩ = some (.int .u64 t0) ∧ w'.cell? ⟨bt, 1, none⟩ = some (.int .i64 t1) ∧ w'.cell? ⟨bt, 2, none⟩ = some (.int .i64 t2) ∧ w'.cell? ⟨bt, 3, none⟩ = some (.int .i64 t3) ∧ w'.cell? ⟨bt, 4, none⟩ = some (.int .i64 t4) ∧ w'.cell? ⟨bt, 5, none⟩ = some (.int .i64 t5) ∧ w'.cell? ⟨bt, 6, none⟩ = some (.int .u64 t6) ∧ w'.cell? ⟨bp, 0, none⟩ = some (.int .u64 p0) ∧ w'.cell? ⟨bp, 1, none⟩ = some (.int .i64 p1) ∧ w'.cell? ⟨bp, 2, none⟩ = some (.int .i64 p2) ∧ w'.cell? ⟨bp, 3, none⟩ = some (.int .i64 p3) ∧ w'.cell? ⟨bp, 4, none⟩ = some (.int .i64 p4) ∧ w'.cell? ⟨bp, 5, none⟩ = some (.int .i64 p5) ∧ w'.cell? ⟨bp, 6, none⟩ = some (.int .u64 p6)) := Lib.hid fun w' hk => ⟨hk, (cellF ((HBK.out _ hk).2.2.2.2) 0 rfl).1, (cellF ((HBK.out _ hk).2.2.1) 0 rfl).1, (cellF ((HBK.out _ hk).2.2.1) 1 rfl).1, (cellF ((HBK.out _ hk).2.2.1) 2 rfl).1, (cellF ((HBK.out _ hk).2.2.1) 3 rfl).1, (cellF ((HBK.out _ hk).2.2.1) 4 rfl).1, (cellF ((HBK.out _ hk).2.2.1) 5 rfl).1, (cellF ((HBK.out _ hk).2.2.1) 6 rfl).1, (cellF ((HBK.out _ hk).2.2.2.1) 0 rfl).1, (cellF ((HBK.out _ hk).2.2.2.1) 1 rfl).1, (cellF ((HBK.out _ hk).2.2.2.1) 2 rfl).1, (cellF ((HBK.out _ hk).2.2.2.1) 3 rfl).1, (cellF ((HBK.out _ hk).2.2.2.1) 4 rfl).1, (cellF ((HBK.out _ hk).2.2.2.1) 5 rfl).1, (cellF ((HBK.out _ hk).2.2.2.1) 6 rfl).1⟩
                      have HO : Hid (∀ W, Calls Try.prog 23 #[(.agg #[.int .u64 p0, .int .i64 p1, .int .i64 p2, .int .i64 p3, .int .i64 p4, .int .i64 p5, .int .u64 p6])] W (MovV W (.agg #[.int .u64 p0, .int .i64 p1, .int .i64 p2, .int .i64 p3, .int .i64 p4, .int .i64 p5, .int .u64 p6]))) := Lib.hid (fun W => of6_any ⟨p0, ⟨p1, p2, p3⟩, p4, p5, p6⟩ W)
                      have hK0 := HNN.out _ HK.out
                      have hK1 := HNN.out wc.drew (KpS.of ((KpS.moves HK.out).trans (Moves.refl (fun _ => False) wc).drew))
                      go_region_held3 (fun w' => KpS W7 w' ∧ w'.cell? ⟨bo, 0, none⟩ = some (.bool true) ∧ w'.cell? ⟨bt, 0, none⟩ = some (.int .u64 t0) ∧ w'.cell? ⟨bt, 1, none⟩ = some (.int .i64 t1) ∧ w'.cell? ⟨bt, 2, none⟩ = some (.int .i64 t2) ∧ w'.cell? ⟨bt, 3, none⟩ = some (.int .i64 t3) ∧ w'.cell? ⟨bt, 4, none⟩ = some (.int .i64 t4) ∧ w'.cell? ⟨bt, 5, none⟩ = some (.int .i64 t5) ∧ w'.cell? ⟨bt, 6, none⟩ = some (.int .u64 t6) ∧ w'.cell? ⟨bp, 0, none⟩ = some (.int .u64 p0) ∧ w'.cell? ⟨bp, 1, none⟩ = some (.int .i64 p1) ∧ w'.cell? ⟨bp, 2, none⟩ = some (.int .i64 p2) ∧ w'.cell? ⟨bp, 3, none⟩ = some (.int .i64 p3) ∧ w'.cell? ⟨bp, 4, none⟩ = some (.int .i64 p4) ∧ w'.cell? ⟨bp, 5, none⟩ = some (.int .i64 p5) ∧ w'.cell? ⟨bp, 6, none⟩ = some (.int .u64 p6)) (first | with_reducible exact hS' | with_reducible exact hK0 | with_reducible exact hK1 | assumption)
                        (first
                          | (go_at_call 23; (with_reducible refine (HO.out _).mono ?_); rintro e w' ⟨rfl, hl⟩; have hS' := HNN.out _ (KpS.of ((KpS.moves (And.left (by assumption))).trans hl)))
                          | fail)
                      all_goals
                        go_wp2_with fail
                        go_meet
                        case rel => exact ⟨_, rfl, Lib.hid (And.left hS')⟩
                  · have he2 : Int.tmod t0 2 = 1 := by rw [Int.tmod_eq_emod_of_nonneg e64]; omega
                    have HNN : Hid (∀ w', KpS W7 w' → KpS W7 w' ∧ w'.cell? ⟨bt, 0, none⟩ = some (.int .u64 t0)) := Lib.hid fun w' hk => ⟨hk, (cellF ((HBK.out _ hk).2.2.1) 0 rfl).1⟩
                    obtain ⟨-, v0⟩ := HNN.out wc HK.out
                    go_quiet (fail)
                    go_wp2_with fail
                    go_meet
                    case rel => exact ⟨_, rfl, Lib.hid (KpS.of ((KpS.moves HK.out).drewN _))⟩
              case rest =>
                obtain ⟨b, rfl, HK3⟩ := hcut
                go_wp2_with fail
                go_roundg 1
                case measure => omega
                case rel => exact ⟨1, by omega, rfl, by go_num, HK3⟩
          · have HK := HI
            go_wp2_with fail
            go_cut [21] from 109 to 163 (fun s21 wc => s21 = .bool true ∧ Hid (KpS W7 wc))
            case first =>
              cases o1 with
              | false =>
                have HNN : Hid (∀ w', KpS W7 w' → KpS W7 w' ∧ w'.cell? ⟨bo, 1, none⟩ = some (.bool false) ∧ w'.cell? ⟨bh, 1, none⟩ = some (.bool false)) := Lib.hid fun w' hk => ⟨hk, (cellF ((HBK.out _ hk).2.2.2.2) 1 rfl).1, (cellF ((HBK.out _ hk).2.1) 1 rfl).1⟩
                obtain ⟨-, v0, v1⟩ := HNN.out wr HK.out
                go_quiet (fail)
                go_wp2_with fail
                go_meet
                case rel => exact ⟨rfl, Lib.hid (KpS.of ((KpS.moves HK.out).drewN _))⟩
              | true =>
                have HNN : Hid (∀ w', KpS W7 w' → KpS W7 w' ∧ w'.cell? ⟨bo, 1, none⟩ = some (.bool true) ∧ w'.cell? ⟨bh, 1, none⟩ = some (.bool true) ∧ w'.cell? ⟨bp, 7, none⟩ = some (.int .u64 q0) ∧ w'.cell? ⟨bp, 8, none⟩ = some (.int .i64 q1) ∧ w'.cell? ⟨bp, 9, none⟩ = some (.int .i64 q2) ∧ w'.cell? ⟨bp, 10, none⟩ = some (.int .i64 q3) ∧ w'.cell? ⟨bp, 11, none⟩ = some (.int .i64 q4) ∧ w'.cell? ⟨bp, 12, none⟩ = some (.int .i64 q5) ∧ w'.cell? ⟨bp, 13, none⟩ = some (.int .u64 q6) ∧ w'.cell? ⟨bn, 7, none⟩ = some (.int .u64 q0) ∧ w'.cell? ⟨bn, 8, none⟩ = some (.int .i64 q1) ∧ w'.cell? ⟨bn, 9, none⟩ = some (.int .i64 q2) ∧ w'.cell? ⟨bn, 10, none⟩ = some (.int .i64 q3) ∧ w'.cell? ⟨bn, 11, none⟩ = some (.int .i64 q4) ∧ w'.cell? ⟨bn, 12, none⟩ = some (.int .i64 q5) ∧ w'.cell? ⟨bn, 13, none⟩ = some (.int .u64 q6)) := Lib.hid fun w' hk => ⟨hk, (cellF ((HBK.out _ hk).2.2.2.2) 1 rfl).1, (cellF ((HBK.out _ hk).2.1) 1 rfl).1, (cellF ((HBK.out _ hk).2.2.2.1) 7 rfl).1, (cellF ((HBK.out _ hk).2.2.2.1) 8 rfl).1, (cellF ((HBK.out _ hk).2.2.2.1) 9 rfl).1, (cellF ((HBK.out _ hk).2.2.2.1) 10 rfl).1, (cellF ((HBK.out _ hk).2.2.2.1) 11 rfl).1, (cellF ((HBK.out _ hk).2.2.2.1) 12 rfl).1, (cellF ((HBK.out _ hk).2.2.2.1) 13 rfl).1, (cellF ((HBK.out _ hk).1) 7 rfl).1, (cellF ((HBK.out _ hk).1) 8 rfl).1, (cellF ((HBK.out _ hk).1) 9 rfl).1, (cellF ((HBK.out _ hk).1) 10 rfl).1, (cellF ((HBK.out _ hk).1) 11 rfl).1, (cellF ((HBK.out _ hk).1) 12 rfl).1, (cellF ((HBK.out _ hk).1) 13 rfl).1⟩
                have HO : Hid (∀ W, Calls Try.prog 23 #[(.agg #[.int .u64 q0, .int .i64 q1, .int .i64 q2, .int .i64 q3, .int .i64 q4, .int .i64 q5, .int .u64 q6])] W (MovV W (.agg #[.int .u64 q0, .int .i64 q1, .int .i64 q2, .int .i64 q3, .int .i64 q4, .int .i64 q5, .int .u64 q6]))) := Lib.hid (fun W => of6_any ⟨q0, ⟨q1, q2, q3⟩, q4, q5, q6⟩ W)
                have hK0 := HNN.out _ HK.out
                have hK1 := HNN.out wr.drew (KpS.of ((KpS.moves HK.out).trans (Moves.refl (fun _ => False) wr).drew))
                go_region_held3 (fun w' => KpS W7 w' ∧ w'.cell? ⟨bo, 1, none⟩ = some (.bool true) ∧ w'.cell? ⟨bh, 1, none⟩ = some (.bool true) ∧ w'.cell? ⟨bp, 7, none⟩ = some (.int .u64 q0) ∧ w'.cell? ⟨bp, 8, none⟩ = some (.int .i64 q1) ∧ w'.cell? ⟨bp, 9, none⟩ = some (.int .i64 q2) ∧ w'.cell? ⟨bp, 10, none⟩ = some (.int .i64 q3) ∧ w'.cell? ⟨bp, 11, none⟩ = some (.int .i64 q4) ∧ w'.cell? ⟨bp, 12, none⟩ = some (.int .i64 q5) ∧ w'.cell? ⟨bp, 13, none⟩ = some (.int .u64 q6) ∧ w'.cell? ⟨bn, 7, none⟩ = some (.int .u64 q0) ∧ w'.cell? ⟨bn, 8, none⟩ = some (.int .i64 q1) ∧ w'.cell? ⟨bn, 9, none⟩ = some (.int .i64 q2) ∧ w'.cell? ⟨bn, 10, none⟩ = some (.int .i64 q3) ∧ w'.cell? ⟨bn, 11, none⟩ = some (.int .i64 q4) ∧ w'.cell? ⟨bn, 12, none⟩ = some (.int .i64 q5) ∧ w'.cell? ⟨bn, 13, none⟩ = some (.int .u64 q6)) (first | with_reducible exact hS' | with_reducible exact hK0 | with_reducible exact hK1 | assumption)
                  (first
                    | (go_at_call 23; (with_reducible refine (HO.out _).mono ?_); rintro e w' ⟨rfl, hl⟩; have hS' := HNN.out _ (KpS.of ((KpS.moves (And.left (by assumption))).trans hl)))
                    | fail)
                all_goals
                  go_wp2_with fail
                  go_meet
                  case rel => exact ⟨rfl, Lib.hid (And.left hS')⟩
            case rest =>
              obtain ⟨rfl, HK2⟩ := hcut
              clear HK HI
              have HK := HK2
              go_upto_region 40 with fail
              go_cut [22] from 109 to 163 (fun s22 wc => ∃ b : Bool, s22 = .bool b ∧ Hid (KpS W7 wc))
              case first =>
                cases c with
                | false =>
                  go_quiet (fail)
                  go_wp2_with fail
                  go_meet
                  case rel => exact ⟨_, rfl, Lib.hid (KpS.of ((KpS.moves HK.out).drewN _))⟩
                | true =>
                  have e64 : (0 : Int) ≤ t0 := HTE.out
                  by_cases he : t0 % 2 = 1
                  · have he2 : Int.tmod t0 2 = 1 := by rw [Int.tmod_eq_emod_of_nonneg e64]; exact he
                    cases o1 with
                    | false =>
                      have HNN : Hid (∀ w', KpS W7 w' → KpS W7 w' ∧ w'.cell? ⟨bt, 0, none⟩ = some (.int .u64 t0) ∧ w'.cell? ⟨bo, 1, none⟩ = some (.bool false)) := Lib.hid fun w' hk => ⟨hk, (cellF ((HBK.out _ hk).2.2.1) 0 rfl).1, (cellF ((HBK.out _ hk).2.2.2.2) 1 rfl).1⟩
                      obtain ⟨-, v0, v1⟩ := HNN.out wc HK.out
                      go_quiet (fail)
                      go_wp2_with fail
                      go_meet
                      case rel => exact ⟨_, rfl, Lib.hid (KpS.of ((KpS.moves HK.out).drewN _))⟩
                    | true =>
                      obtain ⟨bb, hbb⟩ : ∃ bb, decide ((⟨q0, ⟨q1, q2, q3⟩, q4, q5, q6⟩ : Blk) = ⟨t0, ⟨t1, t2, t3⟩, t4, t5, t6⟩) = bb := ⟨_, rfl⟩
                      have heq : ∀ W, (binOp .eql 49 (.agg #[.int .u64 q0, .int .i64 q1, .int .i64 q2, .int .i64 q3, .int .i64 q4, .int .i64 q5, .int .u64 q6]) (.agg #[.int .u64 t0, .int .i64 t1, .int .i64 t2, .int .i64 t3, .int .i64 t4, .int .i64 t5, .int .u64 t6])).run Try.prog W = .ok (.bool bb) W := fun W => hbb ▸ eql_blk ⟨q0, ⟨q1, q2, q3⟩, q4, q5, q6⟩ ⟨t0, ⟨t1, t2, t3⟩, t4, t5, t6⟩ W
                      clear hbb
                      have HNN : Hid (∀ w', KpS W7 w' → KpS W7 w' ∧ w'.cell? ⟨bo, 1, none⟩ = some (.bool true) ∧ w'.cell? ⟨bt, 0, none⟩ = some (.int .u64 t0) ∧ w'.cell? ⟨bt, 1, none⟩ = some (.int .i64 t1) ∧ w'.cell? ⟨bt, 2, none⟩ = some (.int .i64 t2) ∧ w'.cell? ⟨bt, 3, none⟩ = some (.int .i64 t3) ∧ w'.cell? ⟨bt, 4, none⟩ = some (.int .i64 t4) ∧ w'.cell? ⟨bt, 5, none⟩ = some (.int .i64 t5) ∧ w'.cell? ⟨bt, 6, none⟩ = some (.int .u64 t6) ∧ w'.cell? ⟨bp, 7, none⟩ = some (.int .u64 q0) ∧ w'.cell? ⟨bp, 8, none⟩ = some (.int .i64 q1) ∧ w'.cell? ⟨bp, 9, none⟩ = some (.int .i64 q2) ∧ w'.cell? ⟨bp, 10, none⟩ = some (.int .i64 q3) ∧ w'.cell? ⟨bp, 11, none⟩ = some (.int .i64 q4) ∧ w'.cell? ⟨bp, 12, none⟩ = some (.int .i64 q5) ∧ w'.cell? ⟨bp, 13, none⟩ = some (.int .u64 q6)) := Lib.hid fun w' hk => ⟨hk, (cellF ((HBK.out _ hk).2.2.2.2) 1 rfl).1, (cellF ((HBK.out _ hk).2.2.1) 0 rfl).1, (cellF ((HBK.out _ hk).2.2.1) 1 rfl).1, (cellF ((HBK.out _ hk).2.2.1) 2 rfl).1, (cellF ((HBK.out _ hk).2.2.1) 3 rfl).1, (cellF ((HBK.out _ hk).2.2.1) 4 rfl).1, (cellF ((HBK.out _ hk).2.2.1) 5 rfl).1, (cellF ((HBK.out _ hk).2.2.1) 6 rfl).1, (cellF ((HBK.out _ hk).2.2.2.1) 7 rfl).1, (cellF ((HBK.out _ hk).2.2.2.1) 8 rfl).1, (cellF ((HBK.out _ hk).2.2.2.1) 9 rfl).1, (cellF ((HBK.out _ hk).2.2.2.1) 10 rfl).1, (cellF ((HBK.out _ hk).2.2.2.1) 11 rfl).1, (cellF ((HBK.out _ hk).2.2.2.1) 12 rfl).1, (cellF ((HBK.out _ hk).2.2.2.1) 13 rfl).1⟩
                      have HO : Hid (∀ W, Calls Try.prog 23 #[(.agg #[.int .u64 q0, .int .i64 q1, .int .i64 q2, .int .i64 q3, .int .i64 q4, .int .i64 q5, .int .u64 q6])] W (MovV W (.agg #[.int .u64 q0, .int .i64 q1, .int .i64 q2, .int .i64 q3, .int .i64 q4, .int .i64 q5, .int .u64 q6]))) := Lib.hid (fun W => of6_any ⟨q0, ⟨q1, q2, q3⟩, q4, q5, q6⟩ W)
                      have hK0 := HNN.out _ HK.out
                      have hK1 := HNN.out wc.drew (KpS.of ((KpS.moves HK.out).trans (Moves.refl (fun _ => False) wc).drew))
                      go_region_held3 (fun w' => KpS W7 w' ∧ w'.cell? ⟨bo, 1, none⟩ = some (.bool true) ∧ w'.cell? ⟨bt, 0, none⟩ = some (.int .u64 t0) ∧ w'.cell? ⟨bt, 1, none⟩ = some (.int .i64 t1) ∧ w'.cell? ⟨bt, 2, none⟩ = some (.int .i64 t2) ∧ w'.cell? ⟨bt, 3, none⟩ = some (.int .i64 t3) ∧ w'.cell? ⟨bt, 4, none⟩ = some (.int .i64 t4) ∧ w'.cell? ⟨bt, 5, none⟩ = some (.int .i64 t5) ∧ w'.cell? ⟨bt, 6, none⟩ = some (.int .u64 t6) ∧ w'.cell? ⟨bp, 7, none⟩ = some (.int .u64 q0) ∧ w'.cell? ⟨bp, 8, none⟩ = some (.int .i64 q1) ∧ w'.cell? ⟨bp, 9, none⟩ = some (.int .i64 q2) ∧ w'.cell? ⟨bp, 10, none⟩ = some (.int .i64 q3) ∧ w'.cell? ⟨bp, 11, none⟩ = some (.int .i64 q4) ∧ w'.cell? ⟨bp, 12, none⟩ = some (.int .i64 q5) ∧ w'.cell? ⟨bp, 13, none⟩ = some (.int .u64 q6)) (first | with_reducible exact hS' | with_reducible exact hK0 | with_reducible exact hK1 | assumption)
                        (first
                          | (go_at_call 23; (with_reducible refine (HO.out _).mono ?_); rintro e w' ⟨rfl, hl⟩; have hS' := HNN.out _ (KpS.of ((KpS.moves (And.left (by assumption))).trans hl)))
                          | fail)
                      all_goals
                        go_wp2_with fail
                        go_meet
                        case rel => exact ⟨_, rfl, Lib.hid (And.left hS')⟩
                  · have he2 : Int.tmod t0 2 = 0 := by rw [Int.tmod_eq_emod_of_nonneg e64]; omega
                    have HNN : Hid (∀ w', KpS W7 w' → KpS W7 w' ∧ w'.cell? ⟨bt, 0, none⟩ = some (.int .u64 t0)) := Lib.hid fun w' hk => ⟨hk, (cellF ((HBK.out _ hk).2.2.1) 0 rfl).1⟩
                    obtain ⟨-, v0⟩ := HNN.out wc HK.out
                    go_quiet (fail)
                    go_wp2_with fail
                    go_meet
                    case rel => exact ⟨_, rfl, Lib.hid (KpS.of ((KpS.moves HK.out).drewN _))⟩
              case rest =>
                obtain ⟨b, rfl, HK3⟩ := hcut
                go_wp2_with fail
                go_roundg 0
                case measure => omega
                case rel => exact ⟨2, by omega, rfl, by go_num, HK3⟩
end Go.Proofs.Ytnagpianaghjeaa.Sl
