/-
  The walk of SlotsTurns.
-/
import Derived.Test.YtnagpianaghjeaaSlotsKnown
import Derived.BigQuiet
import Derived.Deep.QuietTactic
namespace Go.Proofs.Ytnagpianaghjeaa.Sl
open Go Go.RowKit Go.Proofs
open Pl (DS IsDisk DOwn DPost DMv DKeep)

/-- Behind so many blocks. -/
def TurnK (K : List (List Int)) (f : Int) (i : Nat) : Prop := match i with
  | 0 => K = K0
  | k + 1 => Two K (f + k) k (if k = 0 then none else some ((k : Int) - 1))
theorem TurnK.len {K : List (List Int)} {f : Int} {i : Nat} (h : TurnK K f i) : K.length = 30 := by
  cases i with
  | zero => have h : K = K0 := h; rw [h, K0_len]
  | succ k => exact Two.len h
theorem TurnK.next {K : List (List Int)} {f : Int} {i : Nat} (h : TurnK K f i) (hf : 0 ≤ f ∧ f < 4294967296) (hi : i ≤ 20) : TurnK (putK K (bk (f + i) i)) f (i + 1) := by
  cases i with
  | zero =>
    have h : K = K0 := h
    subst h
    exact Two.first ⟨by omega, by omega⟩ ⟨by omega, by omega⟩
  | succ k =>
    have h2 : Two K (f + k) k (if k = 0 then none else some ((k : Int) - 1)) := h
    have h3 := h2.next (m := ((k + 1 : Nat) : Int)) (by omega) ⟨by omega, by omega⟩
    have e1 : f + (k : Int) + 1 = f + ((k + 1 : Nat) : Int) := by omega
    have e2 : (k : Int) = ((k + 1 : Nat) : Int) - 1 := by omega
    rw [e1] at h3
    show Two _ (f + ((k + 1 : Nat) : Int)) ((k + 1 : Nat) : Int) (if k + 1 = 0 then none else some (((k + 1 : Nat) : Int) - 1))
    rw [if_neg (by omega), ← e2]
    exact h3
def ReadK (w : World) (E n : Int) (e : Ending) (w' : World) : Prop := e = .returned (.tuple #[bkV E n, .int .i64 0]) ∧ Moves (fun _ => False) w w'
abbrev c7 (E n : Int) : List Value := [.int .u64 E, .int .i64 64, .int .i64 8, .int .i64 64, .int .i64 0, .int .i64 n, .int .u64 0]
abbrev z7 : List Value := [.int .u64 0, .int .i64 0, .int .i64 0, .int .i64 0, .int .i64 0, .int .i64 0, .int .u64 0]
theorem both_p00 {w : World} {base d : Nat} {K : List (List Int)} {wr : Int} {E n : Int} (hD : IsDisk w base d (dk K wr)) (h : Two K E n none) (he : E % 2 = 0) : Calls Try.prog 16 #[.pointer (some ⟨d, 0, none⟩)] w (fun e' w' => e' = .returned (.tuple #[.agg #[.int .u64 (E), .int .i64 64, .int .i64 8, .int .i64 64, .int .i64 0, .int .i64 (n), .int .u64 0, .int .u64 0, .int .i64 0, .int .i64 0, .int .i64 0, .int .i64 0, .int .i64 0, .int .u64 0], .agg #[.bool true, .bool false], .int .i64 0]) ∧ Moves (fun _ => False) w w') := by
  have hc := (Two.calls hD h).2
  have e0 : pair0 E n none = some (bk E n) := if_pos he
  have e1 : pair1 E n none = none := if_pos he
  rw [e0, e1] at hc
  exact hc.mono fun _ _ q => ⟨q.1, q.2⟩
theorem both_p01 {w : World} {base d : Nat} {K : List (List Int)} {wr : Int} {E n k : Int} (hD : IsDisk w base d (dk K wr)) (h : Two K E n (some k)) (he : E % 2 = 0) : Calls Try.prog 16 #[.pointer (some ⟨d, 0, none⟩)] w (fun e' w' => e' = .returned (.tuple #[.agg #[.int .u64 (E), .int .i64 64, .int .i64 8, .int .i64 64, .int .i64 0, .int .i64 (n), .int .u64 0, .int .u64 (E - 1), .int .i64 64, .int .i64 8, .int .i64 64, .int .i64 0, .int .i64 (k), .int .u64 0], .agg #[.bool true, .bool true], .int .i64 0]) ∧ Moves (fun _ => False) w w') := by
  have hc := (Two.calls hD h).2
  have e0 : pair0 E n (some k) = some (bk E n) := if_pos he
  have e1 : pair1 E n (some k) = some (bk (E - 1) k) := if_pos he
  rw [e0, e1] at hc
  exact hc.mono fun _ _ q => ⟨q.1, q.2⟩
theorem both_p10 {w : World} {base d : Nat} {K : List (List Int)} {wr : Int} {E n : Int} (hD : IsDisk w base d (dk K wr)) (h : Two K E n none) (he : E % 2 = 1) : Calls Try.prog 16 #[.pointer (some ⟨d, 0, none⟩)] w (fun e' w' => e' = .returned (.tuple #[.agg #[.int .u64 0, .int .i64 0, .int .i64 0, .int .i64 0, .int .i64 0, .int .i64 0, .int .u64 0, .int .u64 (E), .int .i64 64, .int .i64 8, .int .i64 64, .int .i64 0, .int .i64 (n), .int .u64 0], .agg #[.bool false, .bool true], .int .i64 0]) ∧ Moves (fun _ => False) w w') := by
  have hc := (Two.calls hD h).2
  have e0 : pair0 E n none = none := if_neg (by omega)
  have e1 : pair1 E n none = some (bk E n) := if_neg (by omega)
  rw [e0, e1] at hc
  exact hc.mono fun _ _ q => ⟨q.1, q.2⟩
theorem both_p11 {w : World} {base d : Nat} {K : List (List Int)} {wr : Int} {E n k : Int} (hD : IsDisk w base d (dk K wr)) (h : Two K E n (some k)) (he : E % 2 = 1) : Calls Try.prog 16 #[.pointer (some ⟨d, 0, none⟩)] w (fun e' w' => e' = .returned (.tuple #[.agg #[.int .u64 (E - 1), .int .i64 64, .int .i64 8, .int .i64 64, .int .i64 0, .int .i64 (k), .int .u64 0, .int .u64 (E), .int .i64 64, .int .i64 8, .int .i64 64, .int .i64 0, .int .i64 (n), .int .u64 0], .agg #[.bool true, .bool true], .int .i64 0]) ∧ Moves (fun _ => False) w w') := by
  have hc := (Two.calls hD h).2
  have e0 : pair0 E n (some k) = some (bk (E - 1) k) := if_neg (by omega)
  have e1 : pair1 E n (some k) = some (bk E n) := if_neg (by omega)
  rw [e0, e1] at hc
  exact hc.mono fun _ _ q => ⟨q.1, q.2⟩
theorem read_p {w : World} {base d : Nat} {K : List (List Int)} {wr : Int} {E n : Int} {o : Option Int} (hD : IsDisk w base d (dk K wr)) (h : Two K E n o) : Calls Try.prog 15 #[.pointer (some ⟨d, 0, none⟩)] w (ReadK w E n) :=
  (Two.calls hD h).1.mono fun _ _ q => ⟨q.1, q.2⟩
set_option maxRecDepth 100000 in
set_option maxHeartbeats 4000000 in
theorem slots_turns (w : World) {n f : Int} (hn : 0 ≤ n ∧ n ≤ 255) (hf : 0 ≤ f ∧ f ≤ 4294967295) : Calls Try.prog 3 #[.int .u8 n, .int .u32 f] w (TrueP w) := by
  have HKN := Lib.hid (fun W => known_any W)
  have HF := Lib.hid (fun W => fresh_ok fresh0 W)
  obtain ⟨m, hm⟩ : ∃ m : Nat, n % 20 = m := ⟨(n % 20).toNat, by omega⟩
  have hm20 : (m : Int) < 20 := by omega
  obtain ⟨hn0, hn1⟩ := hn
  obtain ⟨hf0, hf1⟩ := hf
  go_enter Try.func3, Try.ntmps3
  go_wp2_with fail
  refine (HKN.out _).mono ?_
  rintro e w0 ⟨rfl, hm0⟩
  go_wp2_with fail
  have hmA := hm0.alloc (.cells #[.int .i64 64, .int .i64 8, .int .i64 64] 25)
  have hbA := heap_alloc_new w0 (.cells #[.int .i64 64, .int .i64 8, .int .i64 64] 25)
  generalize w0.alloc (.cells #[.int .i64 64, .int .i64 8, .int .i64 64] 25) = W0 at hmA hbA ⊢
  generalize w0.heap.size = gb at hbA ⊢
  refine (HF.out W0).mono ?_
  rintro e w1 ⟨d, rfl, hd1, hm1⟩
  rw [secs0, size0] at hd1
  have hd1 : IsDisk w1 W0.heap.size d (dk K0 0) := hd1
  have hgl := lt_of_block hbA
  have HB : Hid (∀ W, Moves (fun _ => False) W0 W → W.cell? ⟨gb, 0, none⟩ = some (.int .i64 64) ∧ W.cell? ⟨gb, 1, none⟩ = some (.int .i64 8) ∧ W.cell? ⟨gb, 2, none⟩ = some (.int .i64 64)) := Lib.hid fun W hW => cells3 ((hW.block _ hgl (fun e => e)).trans hbA)
  have HMA := Lib.hid hmA
  clear hmA hbA hm0
  have HI0 : Hid (∃ K, TurnK K f 0 ∧ IsDisk w1 W0.heap.size d (dk K ((0 : Nat) : Int)) ∧ Moves (fun _ => False) W0 w1) := Lib.hid ⟨K0, rfl, hd1, hm1⟩
  have HM := Lib.hid hm
  clear hd1 hm1
  clear hm
  go_wp2_with fail
  rw [HM.out]
  go_loopg [8] (m + 1) (fun gg s8 wr => ∃ i : Nat, i ≤ m + 1 ∧ gg = m + 1 - i ∧ s8 = .int .i64 i ∧ Hid (∃ K, TurnK K f i ∧ IsDisk wr W0.heap.size d (dk K (i : Int)) ∧ Moves (fun _ => False) W0 wr))
  case atStart => exact ⟨0, Nat.zero_le _, rfl, rfl, HI0⟩
  case round =>
    obtain ⟨i, hi, hgg, rfl, HI⟩ := hrel
    have d0 : (0 : Int) ≤ (i : Int) := by omega
    have d1 : (i : Int) ≤ 20 := by omega
    obtain ⟨K, hK, hD, hM⟩ := HI.out
    obtain ⟨x0, x1, x2⟩ := HB.out _ hM
    have HK := Lib.hid hK
    have HD := Lib.hid hD
    have HMW := Lib.hid hM
    clear hK hD hM HI
    by_cases hlt : i < m + 1
    · have d2 : (i : Int) < 1 + (m : Int) := by omega
      have HP := Lib.hid (putK0 HD.out HK.out.len (e := f + i) (n := i) (by omega) (by omega) (by omega) (by omega) ⟨by omega, by omega⟩)
      go_wp2_with (first
        | (go_at_call 14
           refine HP.out.mono ?_
           rintro e w4 ⟨rfl, hd4, hv4⟩)
        | fail)
      go_roundg (m + 1 - (i + 1))
      case measure => omega
      case rel =>
        refine ⟨i + 1, by omega, rfl, by go_num, Lib.hid ⟨putK K (bk (f + i) i), HK.out.next ⟨by omega, by omega⟩ (by omega), hd4, under HD.out HMW.out (Nat.le_refl _) hv4⟩⟩
    · obtain rfl : i = m + 1 := by omega
      have d2 : ¬ (((m + 1 : Nat) : Int) < 1 + (m : Int)) := by omega
      have h2 : Two K (f + m) m (if m = 0 then none else some ((m : Int) - 1)) := HK.out
      have H2 := Lib.hid h2
      have HRD := Lib.hid (read_p HD.out h2)
      have w1 : IntKind.i64.wrap (1 + (m : Int) - 2) = 1 + (m : Int) - 2 := IntWalk.i64_in _ (by omega)
      have w2 : IntKind.i64.wrap (1 + (m : Int)) = 1 + (m : Int) := IntWalk.i64_in _ (by omega)
      have q1 : ((m : Int) != 1 + (m : Int) - 1) = false := by simp; omega
      have q2 : (f + (m : Int) != f + (1 + (m : Int) - 1)) = false := by simp; omega
      clear h2 x0 x1 x2
      by_cases hz : m = 0
      · have HT : Hid (Two K (f + m) m none) := Lib.hid (by have := H2.out; rwa [if_pos hz] at this)
        have q3 : (1 + (m : Int) == 1) = true := by simp; omega
        clear H2 hz
        rcases (by omega : (f + (m : Int)) % 2 = 0 ∨ (f + (m : Int)) % 2 = 1) with he | he
        · have HBT := Lib.hid (fun W (hW : Moves (fun _ => False) wr W) => both_p00 (HD.out.moves0 hW) HT.out he)
          have HSL := Lib.hid (fun W => slot_any (f + (m : Int)) (by omega) (by omega) W)
          rw [he] at HSL
          clear he
          go_wp2_with fail
          refine HRD.out.mono ?_
          rintro e wa ⟨rfl, hma⟩
          go_wp2_with fail
          have hmb := hma.alloc (.cells #[.int .u64 (f + (m : Int)), .int .i64 64, .int .i64 8, .int .i64 64, .int .i64 0, .int .i64 (m), .int .u64 0] 32)
          have hbb := heap_alloc_new wa (.cells #[.int .u64 (f + (m : Int)), .int .i64 64, .int .i64 8, .int .i64 64, .int .i64 0, .int .i64 (m), .int .u64 0] 32)
          generalize wa.alloc (.cells #[.int .u64 (f + (m : Int)), .int .i64 64, .int .i64 8, .int .i64 64, .int .i64 0, .int .i64 (m), .int .u64 0] 32) = Wb at hmb hbb ⊢
          generalize wa.heap.size = g9 at hbb ⊢
          refine (HBT.out Wb hmb).mono ?_
          rintro e wc ⟨rfl, hmc⟩
          have hbc := (hmc.block _ (lt_of_block hbb) (fun e => e)).trans hbb
          obtain ⟨y0, y1, y2, y3, y4, y5, y6⟩ := cells7 hbc
          have hgc := lt_of_block hbc
          have HMC := Lib.hid (HMW.out.trans (hmb.trans hmc))
          clear hma hmb hmc hbb hbc
          go_wp2_with fail
          refine (HSL.out _).mono ?_
          rintro e wd ⟨rfl, rfl⟩
          go_wp2_with fail
          go_quiet (fail)
          go_wp2
          go_ret
          exact ⟨rfl, (HMA.out.trans ((HMC.out.alloc _).alloc _)).drewN _⟩
        · have HBT := Lib.hid (fun W (hW : Moves (fun _ => False) wr W) => both_p10 (HD.out.moves0 hW) HT.out he)
          have HSL := Lib.hid (fun W => slot_any (f + (m : Int)) (by omega) (by omega) W)
          rw [he] at HSL
          clear he
          go_wp2_with fail
          refine HRD.out.mono ?_
          rintro e wa ⟨rfl, hma⟩
          go_wp2_with fail
          have hmb := hma.alloc (.cells #[.int .u64 (f + (m : Int)), .int .i64 64, .int .i64 8, .int .i64 64, .int .i64 0, .int .i64 (m), .int .u64 0] 32)
          have hbb := heap_alloc_new wa (.cells #[.int .u64 (f + (m : Int)), .int .i64 64, .int .i64 8, .int .i64 64, .int .i64 0, .int .i64 (m), .int .u64 0] 32)
          generalize wa.alloc (.cells #[.int .u64 (f + (m : Int)), .int .i64 64, .int .i64 8, .int .i64 64, .int .i64 0, .int .i64 (m), .int .u64 0] 32) = Wb at hmb hbb ⊢
          generalize wa.heap.size = g9 at hbb ⊢
          refine (HBT.out Wb hmb).mono ?_
          rintro e wc ⟨rfl, hmc⟩
          have hbc := (hmc.block _ (lt_of_block hbb) (fun e => e)).trans hbb
          obtain ⟨y0, y1, y2, y3, y4, y5, y6⟩ := cells7 hbc
          have hgc := lt_of_block hbc
          have HMC := Lib.hid (HMW.out.trans (hmb.trans hmc))
          clear hma hmb hmc hbb hbc
          go_wp2_with fail
          refine (HSL.out _).mono ?_
          rintro e wd ⟨rfl, rfl⟩
          go_wp2_with fail
          go_quiet (fail)
          go_wp2
          go_ret
          exact ⟨rfl, (HMA.out.trans ((HMC.out.alloc _).alloc _)).drewN _⟩
      · have HT : Hid (Two K (f + m) m (some ((m : Int) - 1))) := Lib.hid (by have := H2.out; rwa [if_neg hz] at this)
        have q3 : (1 + (m : Int) == 1) = false := by simp; omega
        have q4 : ((m : Int) - 1 == 1 + (m : Int) - 2) = true := by simp; omega
        clear H2 hz
        rcases (by omega : (f + (m : Int)) % 2 = 0 ∨ (f + (m : Int)) % 2 = 1) with he | he
        · have HBT := Lib.hid (fun W (hW : Moves (fun _ => False) wr W) => both_p01 (HD.out.moves0 hW) HT.out he)
          have HSL := Lib.hid (fun W => slot_any (f + (m : Int)) (by omega) (by omega) W)
          rw [he] at HSL
          clear he
          go_wp2_with fail
          refine HRD.out.mono ?_
          rintro e wa ⟨rfl, hma⟩
          go_wp2_with fail
          have hmb := hma.alloc (.cells #[.int .u64 (f + (m : Int)), .int .i64 64, .int .i64 8, .int .i64 64, .int .i64 0, .int .i64 (m), .int .u64 0] 32)
          have hbb := heap_alloc_new wa (.cells #[.int .u64 (f + (m : Int)), .int .i64 64, .int .i64 8, .int .i64 64, .int .i64 0, .int .i64 (m), .int .u64 0] 32)
          generalize wa.alloc (.cells #[.int .u64 (f + (m : Int)), .int .i64 64, .int .i64 8, .int .i64 64, .int .i64 0, .int .i64 (m), .int .u64 0] 32) = Wb at hmb hbb ⊢
          generalize wa.heap.size = g9 at hbb ⊢
          refine (HBT.out Wb hmb).mono ?_
          rintro e wc ⟨rfl, hmc⟩
          have hbc := (hmc.block _ (lt_of_block hbb) (fun e => e)).trans hbb
          obtain ⟨y0, y1, y2, y3, y4, y5, y6⟩ := cells7 hbc
          have hgc := lt_of_block hbc
          have HMC := Lib.hid (HMW.out.trans (hmb.trans hmc))
          clear hma hmb hmc hbb hbc
          go_wp2_with fail
          refine (HSL.out _).mono ?_
          rintro e wd ⟨rfl, rfl⟩
          go_wp2_with fail
          go_quiet (fail)
          go_wp2
          go_ret
          exact ⟨rfl, (HMA.out.trans ((HMC.out.alloc _).alloc _)).drewN _⟩
        · have HBT := Lib.hid (fun W (hW : Moves (fun _ => False) wr W) => both_p11 (HD.out.moves0 hW) HT.out he)
          have HSL := Lib.hid (fun W => slot_any (f + (m : Int)) (by omega) (by omega) W)
          rw [he] at HSL
          clear he
          go_wp2_with fail
          refine HRD.out.mono ?_
          rintro e wa ⟨rfl, hma⟩
          go_wp2_with fail
          have hmb := hma.alloc (.cells #[.int .u64 (f + (m : Int)), .int .i64 64, .int .i64 8, .int .i64 64, .int .i64 0, .int .i64 (m), .int .u64 0] 32)
          have hbb := heap_alloc_new wa (.cells #[.int .u64 (f + (m : Int)), .int .i64 64, .int .i64 8, .int .i64 64, .int .i64 0, .int .i64 (m), .int .u64 0] 32)
          generalize wa.alloc (.cells #[.int .u64 (f + (m : Int)), .int .i64 64, .int .i64 8, .int .i64 64, .int .i64 0, .int .i64 (m), .int .u64 0] 32) = Wb at hmb hbb ⊢
          generalize wa.heap.size = g9 at hbb ⊢
          refine (HBT.out Wb hmb).mono ?_
          rintro e wc ⟨rfl, hmc⟩
          have hbc := (hmc.block _ (lt_of_block hbb) (fun e => e)).trans hbb
          obtain ⟨y0, y1, y2, y3, y4, y5, y6⟩ := cells7 hbc
          have hgc := lt_of_block hbc
          have HMC := Lib.hid (HMW.out.trans (hmb.trans hmc))
          clear hma hmb hmc hbb hbc
          go_wp2_with fail
          refine (HSL.out _).mono ?_
          rintro e wd ⟨rfl, rfl⟩
          go_wp2_with fail
          go_quiet (fail)
          go_wp2
          go_ret
          exact ⟨rfl, (HMA.out.trans ((HMC.out.alloc _).alloc _)).drewN _⟩
theorem slots_turns_any (w : World) {n f : Int} (h0 : (Lit.int .u8 n).wf = true) (h1 : (Lit.int .u32 f).wf = true) : Calls Try.prog 3 #[.int .u8 n, .int .u32 f] w (TrueP w) :=
  slots_turns w (by simpa [Lit.wf, IntKind.min, IntKind.max, IntKind.signed, IntKind.bits] using h0) (by simpa [Lit.wf, IntKind.min, IntKind.max, IntKind.signed, IntKind.bits] using h1)
end Go.Proofs.Ytnagpianaghjeaa.Sl
