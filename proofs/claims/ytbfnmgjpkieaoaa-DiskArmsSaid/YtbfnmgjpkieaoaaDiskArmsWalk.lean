/-
  The walk of DiskArms: armed at a write, the power goes just there.
-/
import Derived.Test.YtbfnmgjpkieaoaaDiskKnown
namespace Go.Proofs.Ytbfnmgjpkieaoaa.Pl
open Go Go.RowKit Go.Maps Go.Sort Go.Proofs

/-- The disk before the i-th write, the power going at the W-th. -/
structure ArmsAt (S : DS) (W i : Nat) : Prop where
  size : S.size = 64
  kept : S.kept.length = 4
  keep : S.keep = []
  up : i < W → S.off = false ∧ S.armed = true ∧ S.left = (W : Int) - i ∧ S.secs.length = i ∧ S.writes = i
  down : W ≤ i → S.off = true ∧ S.secs.length = 0 ∧ S.writes = (W : Int) - 1

theorem arms_write {wr : World} {base d : Nat} {S : DS} {W i : Nat} (h : IsDisk wr base d S) (hS : ArmsAt S W i) (hW : 1 ≤ W ∧ W ≤ 30) (hi : i ≤ 100) {xb : Nat} (hx : wr.heap[xb]? = some (.cells (madeCells #[.int .u8 0] 64) 5 (0, 0))) (z : Int) (hz : 0 ≤ z ∧ z < 4) :
    ∃ (r : Int) (S' : DS), Calls Try.prog 17 #[.pointer (some ⟨d, 0, none⟩), .int .i64 z, .slice (some ⟨xb, 0, none⟩) 64 64] wr (DPost wr base d S' (.int .i64 r)) ∧ ArmsAt S' W (i + 1) ∧ ((r = 0 ∧ i + 1 < W) ∨ (r = 7 ∧ W ≤ i + 1)) := by
  have hr := front_row hx 0 (madeB 64)
  have hin : inS S z = true := by simp [inS, hS.kept]; omega
  have hap : ∀ k, (fun k => k = xb) k → k < wr.heap.size → k ≠ d := fun k hk _ e => by
    have hk : k = xb := hk
    rw [← hk, e] at hx
    obtain ⟨kv, kvs, m, D, pvs, kpv, hD⟩ := h
    rw [hD.blk] at hx
    injection hx with hx
    injection hx with _ ht
    exact absurd ht (by decide)
  by_cases h1 : i < W
  · obtain ⟨u1, u2, u3, u4, u5⟩ := hS.up h1
    by_cases h2 : i + 1 < W
    · refine ⟨0, _, write_armed h u1 u2 (by rw [u3]; omega) hap hin hr (by rw [front_len, hS.size]) (by rw [hS.size]; omega) (by rw [hS.size]; omega) (by omega) (by rw [u5]; omega), ⟨hS.size, hS.kept, hS.keep, fun _ => ⟨u1, u2, ?_, ?_, ?_⟩, fun hn => by omega⟩, .inl ⟨rfl, h2⟩⟩
      · show S.left - 1 = _
        rw [u3]; omega
      · simp [putS, pendS, u4]
      · show S.writes + 1 = _
        rw [u5]; omega
    · refine ⟨7, _, write_cut h u1 u2 (by rw [u3]; omega) (by rw [hS.keep]; simp) hin (A := some ⟨xb, 0, none⟩) (c := 64) (by rw [hS.size]), ⟨hS.size, ?_, rfl, fun hn => by omega, fun _ => ⟨rfl, rfl, ?_⟩⟩, .inr ⟨rfl, by omega⟩⟩
      · show (putN _ _ _ _ _).length = 4
        rw [putN_len]
        exact hS.kept
      · show S.writes = _
        rw [u5]; omega
  · obtain ⟨u1, u2, u3⟩ := hS.down (by omega)
    exact ⟨7, S, (write_off h u1 z _).mono fun e w' ⟨he, hw⟩ => by subst hw; exact ⟨he, h, Moves.refl _ _⟩, ⟨hS.size, hS.kept, hS.keep, fun hn => by omega, fun _ => ⟨u1, u2, u3⟩⟩, .inr ⟨rfl, by omega⟩⟩

set_option maxRecDepth 100000 in
set_option maxHeartbeats 4000000 in
theorem disk_arms (a0 a1 : Int) (w0 : (Lit.int .u8 a0).wf = true) (w1 : (Lit.int .u8 a1).wf = true) (w : World) : Calls Try.prog 3 #[.int .u8 a0, .int .u8 a1] w (TruePost w) := by
  have hx : 0 ≤ a0 ∧ a0 ≤ 255 := by simpa [Lit.wf, IntKind.min, IntKind.max, IntKind.signed, IntKind.bits] using w0
  have hy : 0 ≤ a1 ∧ a1 ≤ 255 := by simpa [Lit.wf, IntKind.min, IntKind.max, IntKind.signed, IntKind.bits] using w1
  clear w0 w1
  have hq : 0 ≤ a0 % 30 ∧ a0 % 30 ≤ 29 := by omega
  have hr : 0 ≤ a1 % 10 ∧ a1 % 10 ≤ 9 := by omega
  have HK := Lib.hid (known_any w)
  go_enter Try.func3, Try.ntmps3
  go_wp2_with fail
  refine HK.out.mono ?_
  rintro e w1 ⟨rfl, hm1⟩
  have HNEW := Lib.hid (new_ok (n := 4) (z := 64) (by omega) (by omega) w1)
  clear HK
  go_wp2_with fail
  refine HNEW.out.mono ?_
  rintro e w2 ⟨d, rfl, h2, hm2⟩
  generalize a0 % 30 = kz at hq
  obtain ⟨k, rfl⟩ : ∃ k : Nat, kz = k := ⟨kz.toNat, by omega⟩
  obtain ⟨m, hm10⟩ : ∃ m : Nat, a1 % 10 = m := ⟨(a1 % 10).toNat, by omega⟩
  rw [hm10] at hr
  have HARM := Lib.hid (arm_any h2 (n := (k : Int)) (v := .slice none 0 0) (bs := []) (L := fun _ => False) ⟨none, 0, rfl, Nat.le_refl _, fun h => absurd h (by simp)⟩ (by simp))
  have HA := Lib.hid (And.intro h2 (And.intro hm1 hm2))
  clear h2 hm1 hm2 HNEW
  go_wp2_with fail
  refine HARM.out.mono ?_
  rintro e w3 ⟨rfl, h3, hm3⟩
  obtain ⟨h2, hm1, hm2⟩ := HA.out
  have hM3 := h2.under hm2 hm3
  obtain ⟨W, hWk⟩ : ∃ W : Nat, (k < 1 ∧ W = 1) ∨ (1 ≤ k ∧ W = k) := by
    by_cases h : k < 1
    · exact ⟨1, .inl ⟨h, rfl⟩⟩
    · exact ⟨k, .inr ⟨by omega, rfl⟩⟩
  have hA3 : ArmsAt (armS (newS 4 64) k []) W 0 := ⟨rfl, by simp [armS, newS], rfl, fun _ => ⟨rfl, rfl, by simp only [armS]; omega, rfl, rfl⟩, fun h => by omega⟩
  have H3 := Lib.hid (And.intro h3 (And.intro hA3 (And.intro hM3 hm1)))
  have hw1 : IntKind.i64.wrap ((k : Int) + m) = (k : Int) + m := IntWalk.i64_in _ (by omega)
  have hw2 : IntKind.i64.wrap ((k : Int) + m + 1) = (k : Int) + m + 1 := IntWalk.i64_in _ (by omega)
  have hmk := mk64
  clear h3 hA3 hM3 hm1 hm2 hm3 h2 HA HARM
  go_wp2_with fail
  go_loopg [8, 9] (k + m + 1) (fun gg s8 s9 wr => ∃ (i : Nat) (S : DS), i ≤ k + m + 1 ∧ gg = k + m + 1 - i ∧ s9 = .int .i64 i ∧ s8 = .int .i64 (min i (W - 1) : Nat) ∧ IsDisk wr w1.heap.size d S ∧ ArmsAt S W i ∧ Moves (fun _ => False) w1 wr)
  case atStart => exact ⟨0, _, by omega, rfl, rfl, by simp, H3.out.1, H3.out.2.1, H3.out.2.2.1⟩
  case round =>
    obtain ⟨i, S, hi, hgi, rfl, rfl, hD, hS, hm⟩ := hrel
    by_cases hil : i < k + m + 1
    · have hil' : (i : Int) < (k : Int) + m + 1 := by omega
      have hil2 : (i : Int) ≤ (k : Int) + m := by omega
      have hma := (Moves.refl (fun _ => False) wr).alloc (.cells (madeCells #[.int .u8 0] 64) 5)
      have HWR := Lib.hid (arms_write (hD.moves0 hma) hS (by omega) (by omega) (heap_alloc_new wr (.cells (madeCells #[.int .u8 0] 64) 5)) ((i : Int) % 4) (by omega))
      have HM := Lib.hid (And.intro (hD.moves0 hma) (hm.trans hma))
      clear hD hS hm hma
      go_wp2_with fail
      obtain ⟨r, S', hc, hS', hr'⟩ := HWR.out
      refine hc.mono ?_
      rintro e w4 ⟨rfl, h4, hm4⟩
      have hM4 := HM.out.1.under HM.out.2 hm4
      have H4 := Lib.hid (And.intro h4 (And.intro hS' hM4))
      clear h4 hM4 hm4 hc hS' HWR HM
      have b0 : (0 : Int) ≤ (i : Int) := by omega
      rcases hr' with ⟨rfl, hlt⟩ | ⟨rfl, hge⟩
      · have HS8 : Hid (min i (W - 1) + 1 = min (i + 1) (W - 1)) := Lib.hid (by omega)
        rcases hWk with ⟨hk1, hWe⟩ | ⟨hk1, hWe⟩
        · omega
        · have e1 : ¬ (k : Int) < 1 := by omega
          have e2 : (i : Int) + 1 < (k : Int) := by omega
          have HWE := Lib.hid hWe
          clear hWe
          go_wp2_with fail
          go_roundg (k + m + 1 - (i + 1))
          case measure => omega
          case rel => exact ⟨i + 1, S', by omega, rfl, by go_num, congrArg (Value.int IntKind.i64) (by have := HWE.out; omega), H4.out.1, H4.out.2.1, H4.out.2.2⟩
      · have HS8 : Hid (min i (W - 1) = min (i + 1) (W - 1)) := Lib.hid (by omega)
        rcases hWk with ⟨hk1, hWe⟩ | ⟨hk1, hWe⟩
        · have e1 : (k : Int) < 1 := by omega
          have e2 : ¬ (i : Int) + 1 < 1 := by omega
          have HWE := Lib.hid hWe
          clear hWe
          go_wp2_with fail
          go_roundg (k + m + 1 - (i + 1))
          case measure => omega
          case rel => exact ⟨i + 1, S', by omega, rfl, by go_num, congrArg (Value.int IntKind.i64) (by have := HWE.out; omega), H4.out.1, H4.out.2.1, H4.out.2.2⟩
        · have e1 : ¬ (k : Int) < 1 := by omega
          have e2 : ¬ (i : Int) + 1 < (k : Int) := by omega
          have HWE := Lib.hid hWe
          clear hWe
          go_wp2_with fail
          go_roundg (k + m + 1 - (i + 1))
          case measure => omega
          case rel => exact ⟨i + 1, S', by omega, rfl, by go_num, congrArg (Value.int IntKind.i64) (by have := HWE.out; omega), H4.out.1, H4.out.2.1, H4.out.2.2⟩
    · obtain rfl : i = k + m + 1 := by omega
      obtain ⟨u1, u2, u3⟩ := hS.down (by omega)
      have HO := Lib.hid (off_any hD)
      have HW := Lib.hid (writes_any hD)
      have HP := Lib.hid (pending_any hD)
      rw [u1] at HO
      rw [u3] at HW
      rw [u2] at HP
      have hmin : ((min (k + m + 1) (W - 1) : Nat) : Int) = (W : Int) - 1 := by omega
      have HMM := Lib.hid (H3.out.2.2.2.trans hm)
      rw [hmin]
      have n1 : ¬ ((k + m + 1 : Nat) : Int) < (k : Int) + m + 1 := by omega
      clear hD hS hm u1 u2 u3 hmin
      go_wp2_with fail
      refine HO.out.mono ?_
      rintro e w5 ⟨rfl, rfl⟩
      go_wp2_with fail
      refine HW.out.mono ?_
      rintro e w5 ⟨rfl, rfl⟩
      go_wp2_with fail
      refine HP.out.mono ?_
      rintro e w5 ⟨rfl, rfl⟩
      go_wp2
      go_ret
      exact ⟨rfl, HMM.out⟩
end Go.Proofs.Ytbfnmgjpkieaoaa.Pl
