/-
  The walk of RingRooms.
-/
import Derived.Test.YtnagpianaghjeaaRingKnown
import Derived.Deep.CutRange
namespace Go.Proofs.Ytnagpianaghjeaa.Rg
open Go Go.RowKit Go.Proofs Go.Proofs.Ytnagpianaghjeaa.Sl
open Pl (DS IsDisk DOwn DPost DMv DKeep Clear DiskAt All2)

set_option maxHeartbeats 2000000 in
theorem takes_any {x : Nat} (hx : x ≤ 200) (w : World) : Calls Try.prog 30 #[.int .i64 x, .int .i64 64] w (SameV w (.int .i64 ((x + 31) / 32 + 1 : Nat))) := by
  have b0 : (0 : Int) ≤ (x : Int) := by omega
  have b1 : (x : Int) ≤ 200 := by omega
  go_enter Try.func30, Try.ntmps30
  go_wp2
  go_ret
  exact ⟨congrArg (fun y => Ending.returned (.int .i64 y)) (by omega), rfl⟩
set_option maxHeartbeats 2000000 in
theorem want_any {n : Nat} (h0 : 8 ≤ n) (h1 : n ≤ 30) (w : World) : Calls Try.prog 31 #[.int .i64 n, .int .i64 64] w (SameV w (.int .i64 ((n - 4) * 32 : Nat))) := by
  have b0 : (8 : Int) ≤ (n : Int) := by omega
  have b1 : (n : Int) ≤ 30 := by omega
  have e : ((((n - 4) * 32 : Nat)) : Int) = ((n : Int) - 4) * 32 := by omega
  rw [e]
  clear e
  go_enter Try.func31, Try.ntmps31
  go_wp2
  go_ret
  exact ⟨rfl, rfl⟩
theorem zero_new (a : Nat) : newestH a (List.replicate 64 0) (List.replicate 64 0) = none := by
  have h : ∀ i, ¬ okS a i (List.replicate 64 0) := fun i h => absurd h.1 (by decide +kernel)
  unfold newestH
  rw [if_neg (fun e => h 1 e.1), if_neg (h 0)]
set_option maxRecDepth 100000 in
set_option maxHeartbeats 4000000 in
theorem rooms_skip {w : World} {n x R : Int} (h : n < 8 ∨ 30 < n ∨ x < 0 ∨ 200 < x ∨ R < 0 ∨ 30 < R) : Calls Try.prog 7 #[.int .i64 n, .int .i64 x, .int .i64 R] w (TrueQ w) := by
  have HKN := Lib.hid (fun W => rknown_any W)
  by_cases g1 : n < 8
  · clear h
    go_enter Try.func7, Try.ntmps7
    go_wp2_with fail
    refine (HKN.out _).mono ?_
    rintro e w0 ⟨rfl, hm0⟩
    go_wp2
    go_ret
    exact ⟨rfl, hm0⟩
  by_cases g2 : 30 < n
  · clear h
    go_enter Try.func7, Try.ntmps7
    go_wp2_with fail
    refine (HKN.out _).mono ?_
    rintro e w0 ⟨rfl, hm0⟩
    go_wp2
    go_ret
    exact ⟨rfl, hm0⟩
  by_cases g3 : x < 0
  · clear h
    go_enter Try.func7, Try.ntmps7
    go_wp2_with fail
    refine (HKN.out _).mono ?_
    rintro e w0 ⟨rfl, hm0⟩
    go_wp2
    go_ret
    exact ⟨rfl, hm0⟩
  by_cases g4 : 200 < x
  · clear h
    go_enter Try.func7, Try.ntmps7
    go_wp2_with fail
    refine (HKN.out _).mono ?_
    rintro e w0 ⟨rfl, hm0⟩
    go_wp2
    go_ret
    exact ⟨rfl, hm0⟩
  by_cases g5 : R < 0
  · clear h
    go_enter Try.func7, Try.ntmps7
    go_wp2_with fail
    refine (HKN.out _).mono ?_
    rintro e w0 ⟨rfl, hm0⟩
    go_wp2
    go_ret
    exact ⟨rfl, hm0⟩
  have g6 : 30 < R := by omega
  clear h
  go_enter Try.func7, Try.ntmps7
  go_wp2_with fail
  refine (HKN.out _).mono ?_
  rintro e w0 ⟨rfl, hm0⟩
  go_wp2
  go_ret
  exact ⟨rfl, hm0⟩
/-- The loop's state. -/
def RmT (w : World) (base d r n x : Nat) (vb : Value) (i : Nat) (W : World) : Prop :=
  ∃ (K : List (List Int)) (gen : Int) (f0 t : Nat) (lv : Value) (ws : Int), K.length = n ∧ 0 ≤ ws ∧ ws ≤ 10 * i + 1 ∧ 1 ≤ f0 ∧ f0 ≤ i + 1 ∧ t < n - 2 ∧ RingAt W base d r 0 n 64 (calmS 64 K false 0 [] ws) ⟨gen, f0, ((0 : Nat) : Int), t, ((0 : Nat) : Int)⟩ lv [] [] ∧ Moves (fun _ => False) w W ∧ BRow W (fun q => ¬ ROwn W r d lv q) vb (List.replicate x 0)
set_option maxRecDepth 100000 in
set_option maxHeartbeats 8000000 in
theorem rooms_go {w : World} {n x R : Nat} (hn : 8 ≤ n ∧ n ≤ 30) (hx : x ≤ 200) (hR : R ≤ 30) : Calls Try.prog 7 #[.int .i64 n, .int .i64 x, .int .i64 R] w (TrueQ w) := by
  have HKN := Lib.hid (fun W => rknown_any W)
  have HNEW := Lib.hid (fun W => Pl.new_ok (n := n) (z := 64) (by omega) (by decide) W)
  have HTK := Lib.hid (fun W => takes_any hx W)
  have HWN := Lib.hid (fun W => want_any hn.1 hn.2 W)
  have HH : Hid (8 ≤ n ∧ n ≤ 30 ∧ x ≤ 200 ∧ R ≤ 30) := Lib.hid (by omega)
  have b0 : (8 : Int) ≤ (n : Int) := by omega
  have b1 : (n : Int) ≤ 30 := by omega
  have b2 : (0 : Int) ≤ (x : Int) := by omega
  have b3 : (x : Int) ≤ 200 := by omega
  have b4 : (0 : Int) ≤ (R : Int) := by omega
  have b5 : (R : Int) ≤ 30 := by omega
  have t0 : (1 : Int) ≤ (((x + 31) / 32 + 1 : Nat) : Int) := by omega
  have t1 : (((x + 31) / 32 + 1 : Nat) : Int) ≤ 8 := by omega
  generalize (((x + 31) / 32 + 1 : Nat) : Int) = T at HTK t0 t1
  have t2 : ¬ T = 0 := by omega
  obtain ⟨wn, hwn⟩ : ∃ wn : Int, (((n - 4) * 32 : Nat) : Int) = wn := ⟨_, rfl⟩
  rw [hwn] at HWN
  have HWNB : Hid (wn = ((n : Int) - 4) * 32) := Lib.hid (by omega)
  clear hwn
  obtain ⟨i5, hi5, hp0, hp1, hp2⟩ := info_parts Pl.infoB
  have hmk := fun W => run_make_row (P := Try.prog) 55 5 i5 _ Try.underlying55 hi5 hp0 hp1 rfl .i64 .i64 x (by rw [hp2]; omega) (by omega) W
  clear hn hx hR
  go_enter Try.func7, Try.ntmps7
  go_wp2_with fail
  refine (HKN.out _).mono ?_
  rintro e w0 ⟨rfl, hm0⟩
  have HM0 := Lib.hid hm0
  clear hm0
  go_wp2_with fail
  refine (HNEW.out w0).mono ?_
  rintro e w1 ⟨d, rfl, hd1, hm1⟩
  rw [new_calm] at hd1
  have hK : ∀ i, i < (List.replicate n (List.replicate 64 (0 : Int))).length → ((List.replicate n (List.replicate 64 (0 : Int))).getD i []).length = 64 ∧ ∀ y ∈ (List.replicate n (List.replicate 64 (0 : Int))).getD i [], 0 ≤ y ∧ y < 256 := fun i hi => by
    rw [List.length_replicate] at hi
    have e : (List.replicate n (List.replicate 64 (0 : Int))).getD i [] = List.replicate 64 0 := by rw [List.getD_eq_getElem?_getD, List.getElem?_replicate, if_pos hi]; rfl
    rw [e]
    exact ⟨List.length_replicate, fun y hy => by rw [(List.mem_replicate.1 hy).2]; exact ⟨by decide, by decide⟩⟩
  have hnw : newestH (n - 2) ((List.replicate n (List.replicate 64 (0 : Int))).getD 0 []) ((List.replicate n (List.replicate 64 (0 : Int))).getD (0 + 1) []) = none := by
    have e : ∀ i, i < n → (List.replicate n (List.replicate 64 (0 : Int))).getD i [] = List.replicate 64 0 := fun i hi => by rw [List.getD_eq_getElem?_getD, List.getElem?_replicate, if_pos hi]; rfl
    rw [e 0 (by have := HH.out; omega), e (0 + 1) (by have := HH.out; omega)]
    exact zero_new _
  have hfm := rformat_ok (s := 0) (n := n) (z := 64) hd1 HH.out.1 (by decide) (by rw [List.length_replicate]; omega) (by rw [List.length_replicate]; have := HH.out; omega) (by decide) hK hnw (g := 1) (by decide +kernel)
  have HFM := Lib.hid hfm
  have HD1 := Lib.hid hd1
  have HM1 := Lib.hid (HM0.out.trans hm1)
  have HB0 := Lib.hid HM0.out.size
  clear hfm hK hnw hd1 hm1
  go_wp2_with fail
  refine HFM.out.mono ?_
  rintro e w2 ⟨r, rfl, hr, hR2, hv2⟩
  have HM2 := Lib.hid (under HD1.out HM1.out HB0.out hv2)
  have HA2 := Lib.hid ((Moves.refl (fun _ => False) w2).alloc (.cells (madeCells #[.int .u8 0] x) 5))
  have HI0 : Hid (∀ g, g = w2.heap.size → RmT w w0.heap.size d r n x (.slice (some ⟨g, 0, none⟩) x x) 0 (w2.alloc (.cells (madeCells #[.int .u8 0] x) 5))) := Lib.hid (fun g hg => by
    subst hg
    have hh := HH.out
    refine ⟨_, 1, 1, 0, _, 1, ?_, by decide, by decide, by decide, by decide, by omega, hR2.moves0 HA2.out, HM2.out.trans HA2.out, ?_⟩
    · rw [List.length_set, List.length_replicate]
    · refine brow_of_cellsF (fr := (0, 0)) List.length_replicate ?_ (fun y hy => by rw [(List.mem_replicate.1 hy).2]; exact ⟨by decide, by decide⟩) (by omega) (fun e => by have := hR2.lt (rown0 hR2 HA2.out e); omega)
      rw [← made_zero]
      exact heap_alloc_new w2 _)
  clear hR2 hv2 hr HD1 HM1 HFM HNEW HM0
  go_wp2_with fail
  refine (HTK.out _).mono ?_
  rintro e w3 ⟨rfl, rfl⟩
  clear hmk
  have HI1 := Lib.hid (HI0.out _ rfl)
  clear HI0
  go_wp2_with fail
  generalize w2.alloc (.cells (madeCells #[.int .u8 0] x) 5) = W3 at HI1 HA2 ⊢
  generalize w2.heap.size = gb at HI1 ⊢
  have HBW : Hid (w.heap.size ≤ w0.heap.size) := Lib.hid HB0.out
  generalize w0.heap.size = base at HI1 HBW
  go_loopg [13] R (fun gg s13 wr => ∃ i : Nat, i ≤ R ∧ gg = R - i ∧ s13 = .int .i64 i ∧ Hid (RmT w base d r n x (.slice (some ⟨gb, 0, none⟩) x x) i wr))
  case atStart => exact ⟨0, Nat.zero_le _, rfl, rfl, HI1⟩
  case round =>
    obtain ⟨wr0, rfl⟩ : ∃ y, y = wr := ⟨wr, rfl⟩
    obtain ⟨i, hi, hgg, rfl, HI⟩ := hrel
    have d0 : (0 : Int) ≤ (i : Int) := by omega
    by_cases hiR : i < R
    · have d1 : (i : Int) < (R : Int) := by omega
      have HIR : Hid (i < R ∧ gk = R - i) := Lib.hid ⟨hiR, hgg⟩
      clear hiR hgg hi
      go_upto_region 14 with fail
      go_cut [72] from 60 to 93 (fun s72 wc => s72 = .bool (decide ((x : Int) ≤ wn) && decide (0 < ((n : Int) - 4) / T)) ∧ wc = wr0)
      case first =>
        by_cases hw : (x : Int) ≤ wn
        · by_cases hf : 0 < ((n : Int) - 4) / T
          · have HDD : Hid ((decide ((x : Int) ≤ wn) && decide (0 < ((n : Int) - 4) / T)) = true) := Lib.hid (by rw [decide_eq_true hw, decide_eq_true hf]; rfl)
            go_wp2_with fail
            refine (HWN.out _).mono ?_
            rintro e w5 ⟨rfl, rfl⟩
            go_wp2_with fail
            go_meet
            case rel => exact ⟨by rw [HDD.out]; first | done | rfl | simp [hf] | simp_all | simpa using hf, rfl⟩
          · have HDD : Hid ((decide ((x : Int) ≤ wn) && decide (0 < ((n : Int) - 4) / T)) = false) := Lib.hid (by rw [decide_eq_true hw, decide_eq_false hf]; rfl)
            go_wp2_with fail
            refine (HWN.out _).mono ?_
            rintro e w5 ⟨rfl, rfl⟩
            go_wp2_with fail
            go_meet
            case rel => exact ⟨by rw [HDD.out]; first | done | rfl | simp [hf] | simp_all | simpa using hf, rfl⟩
        · have HDD : Hid ((decide ((x : Int) ≤ wn) && decide (0 < ((n : Int) - 4) / T)) = false) := Lib.hid (by rw [decide_eq_false hw]; rfl)
          go_wp2_with fail
          refine (HWN.out _).mono ?_
          rintro e w5 ⟨rfl, rfl⟩
          go_wp2_with fail
          go_meet
          case rel => exact ⟨by rw [HDD.out]; first | done | rfl | simp_all, rfl⟩
      case rest =>
        obtain ⟨rfl, rfl⟩ := hcut
        obtain ⟨K, gen, f0, t, lv, ws, hKl, hw0, hw1, hf1, hf2, ht, hR, hM, hb⟩ := HI.out
        have HN : Hid (K.length = n ∧ 0 ≤ ws ∧ ws ≤ 10 * i + 1 ∧ 1 ≤ f0 ∧ f0 ≤ i + 1 ∧ t < n - 2 ∧ i < R ∧ R ≤ 30) := Lib.hid ⟨hKl, hw0, hw1, hf1, hf2, ht, HIR.out.1, HH.out.2.2.2⟩
        have HR := Lib.hid hR
        have HM := Lib.hid hM
        have HB := Lib.hid hb
        have f1 : (1 : Int) ≤ (f0 : Int) := by omega
        have f2 : (f0 : Int) ≤ 31 := by have := HN.out; omega
        have i9 : (i : Int) ≤ 30 := by have := HN.out; omega
        clear hKl hw0 hw1 hf1 hf2 ht hR hM hb HI
        obtain ⟨rm, hrm⟩ : ∃ rm, roomN n (64 : Nat) ((0 : Nat) : Int) = rm := ⟨_, rfl⟩
        have HRM := Lib.hid hrm
        have r1 : ¬ rm < wn := by
          rw [← hrm]
          have h1 := HWNB.out
          have h2 := HH.out
          unfold roomN
          omega
        clear hrm
        cases hbv : (decide ((x : Int) ≤ wn) && decide (0 < ((n : Int) - 4) / T)) with
        | false =>
          clear hbv
          obtain ⟨Al, cl, rfl, -, -, -, -, -⟩ := own_form HR.out.own
          have HNX : Hid (Calls Try.prog 34 #[.pointer (some ⟨r, 0, none⟩)] wc (MovV wc (.int .u64 f0))) := Lib.hid (by
            have h := next_any HR.out.rb (by decide)
            have e : IntKind.u64.wrap ((f0 : Int) + ((([] : List Value).length : Nat) : Int)) = (f0 : Int) := by
              rw [show (f0 : Int) + ((([] : List Value).length : Nat) : Int) = (f0 : Int) from Int.add_zero _]
              exact u64nT (by omega)
            dsimp only at h
            rw [e] at h
            exact h)
          have HTR : Hid (∀ W, Moves (fun _ => False) wc W → Calls Try.prog 33 #[.pointer (some ⟨r, 0, none⟩), .int .u64 ((f0 : Int) - 1)] W (MovV W (.int .i64 0))) := Lib.hid (fun W hW => rtrunc_none (HR.out.moves0 hW) (by decide) (by show (f0 : Int) - 1 < (f0 : Int); omega) (by show (f0 : Int) + ((0 : Nat) : Int) < _; omega) (by show (0 : Int) ≤ (f0 : Int); omega))
          have HRO : Hid (∀ W, Moves (fun _ => False) wc W → Calls Try.prog 35 #[.pointer (some ⟨r, 0, none⟩)] W (MovV W (.int .i64 rm))) := Lib.hid (fun W hW => by
            have h := room_any (HR.out.rb.moves0 hW) ⟨HH.out.1, by have := HH.out; omega⟩ (by decide) (Nat.zero_le _)
            rw [HRM.out] at h
            exact h)
          go_wp2_with fail
          refine HNX.out.mono ?_
          rintro e w5 ⟨rfl, hm5⟩
          have HM5 := Lib.hid hm5
          clear hm5
          go_wp2_with fail
          refine (HTR.out _ HM5.out).mono ?_
          rintro e w6 ⟨rfl, hm6⟩
          have HM6 := Lib.hid (HM5.out.trans hm6)
          clear hm6
          go_wp2_with fail
          refine (HRO.out _ HM6.out).mono ?_
          rintro e w7 ⟨rfl, hm7⟩
          have HM7 := Lib.hid (HM6.out.trans hm7)
          clear hm7
          go_wp2_with fail
          refine (HWN.out _).mono ?_
          rintro e w8 ⟨rfl, rfl⟩
          go_wp2_with fail
          go_roundg (R - (i + 1))
          case measure => have := HIR.out; omega
          case rel =>
            have h := HN.out
            exact ⟨i + 1, by omega, rfl, by go_num, Lib.hid ⟨K, gen, f0, t, _, ws, h.1, h.2.1, by omega, h.2.2.2.1, by omega, h.2.2.2.2.2.1, HR.out.moves0 HM7.out, HM.out.trans HM7.out, (rmv_of0 HR.out HM7.out).row HB.out⟩⟩
        | true =>
          clear hbv
          obtain ⟨kn, hkn⟩ : ∃ kn, needN 64 (List.replicate x (0 : Int)).length = kn := ⟨_, rfl⟩
          have hkn4 : kn ≤ 4 := by
            rw [← hkn, List.length_replicate]
            unfold needN
            have := HH.out
            omega
          obtain ⟨g, hg⟩ : ∃ g, IntKind.u64.wrap (gen + 1) = g := ⟨_, rfl⟩
          obtain ⟨g2, hg2⟩ : ∃ g2, IntKind.u64.wrap (g + 1) = g2 := ⟨_, rfl⟩
          have HG := Lib.hid (And.intro hg hg2)
          clear hg hg2
          have HKN2 : Hid (kn ≤ 4 ∧ needN 64 (List.replicate x (0 : Int)).length = kn) := Lib.hid ⟨hkn4, hkn⟩
          clear hkn hkn4
          obtain ⟨K1, hK1⟩ : ∃ K1, writeN K 0 (n - 2) (t + 0) 64 (recB 64 (List.replicate x 0)) kn = K1 := ⟨_, rfl⟩
          have hK1l : K1.length = n := by rw [← hK1, writeN_len, HN.out.1]
          have HAP := Lib.hid (rappend_ok (u := 0) (c2 := 1) (num := IntKind.u64.wrap (IntKind.u64.wrap ((f0 : Int) + (([] : List (List Int)).length + 1 : Nat)) - 1)) HR.out HB.out (by rw [List.length_replicate]; have := HH.out; omega) (by rw [List.length_replicate]; unfold roomN; have := HH.out; omega) HKN2.out.2 (by have h1 := HKN2.out; have h2 := HH.out; omega) HN.out.2.2.2.2.2.1 (by decide) (by have h := HN.out; omega) HH.out.1 (by have h := HN.out; have h2 := HH.out; omega) (by have h := HN.out; omega) (by decide) HG.out.1 (by decide +kernel) rfl hK1)
          clear hK1
          go_wp2_with fail
          refine HAP.out.mono ?_
          rintro e w5 ⟨rfl, lv5, vals5, hR5, hv5⟩
          rw [List.nil_append] at hR5
          have hvl5 : vals5.length = 1 := hR5.len
          have HR5 := Lib.hid hR5
          have HV5 := Lib.hid hv5
          have HM5 := Lib.hid (rmv_new HR.out HM.out HBW.out hv5)
          obtain ⟨Al, cl, rfl, -, -, -, -, -⟩ := own_form hR5.own
          have HNX : Hid (Calls Try.prog 34 #[.pointer (some ⟨r, 0, none⟩)] w5 (MovV w5 (.int .u64 ((f0 : Int) + 1)))) := Lib.hid (by
            have h := next_any HR5.out.rb (by omega)
            have e : IntKind.u64.wrap ((f0 : Int) + ((vals5.length : Nat) : Int)) = (f0 : Int) + 1 := by
              rw [hvl5]
              exact IntWalk.u64_in _ (by omega)
            dsimp only at h
            rw [e] at h
            exact h)
          have hs1 : sumN 64 [List.replicate x (0 : Int)] 1 = kn := by
            show 0 + needN 64 (List.replicate x (0 : Int)).length = kn
            rw [HKN2.out.2, Nat.zero_add]
          have HTR : Hid (∀ W, Moves (fun _ => False) w5 W → Calls Try.prog 33 #[.pointer (some ⟨r, 0, none⟩), .int .u64 (f0 : Int)] W (TruncPost W base d r 0 n 64 (calmS 64 ((K1.set (0 + (g % 2).toNat) (headB 64 ⟨g, f0, 1, t, (0 + kn : Nat)⟩)).set (0 + (g2 % 2).toNat) (headB 64 ⟨g2, (f0 : Int) + ((1 : Nat) : Int), ((1 : Nat) : Int) - ((1 : Nat) : Int), ((t + sumN 64 [List.replicate x (0 : Int)] 1) % (n - 2) : Nat), ((0 + kn : Nat) : Int) - ((sumN 64 [List.replicate x (0 : Int)] 1 : Nat) : Int)⟩)) false 0 [] (ws + kn + 1 + 1)) ⟨g2, (f0 : Int) + ((1 : Nat) : Int), ((1 : Nat) : Int) - ((1 : Nat) : Int), ((t + sumN 64 [List.replicate x (0 : Int)] 1) % (n - 2) : Nat), ((0 + kn : Nat) : Int) - ((sumN 64 [List.replicate x (0 : Int)] 1 : Nat) : Int)⟩ (.slice Al vals5.length cl) ([List.replicate x (0 : Int)].drop 1))) := Lib.hid (fun W hW => by
            have h1 := HN.out
            have h2 := HH.out
            have h3 := HKN2.out
            exact rtrunc_ok (cc := 1) (m := 1) (up := (f0 : Int)) (HR5.out.moves0 hW) (by show 1 ≤ 100000; decide) (by show f0 + 1 ≤ 1000000; omega) (by decide) (Nat.le_refl 1) (by decide) (by decide) (by omega) (fun j hj => by
              have hj2 : j = 0 ∨ j = 1 := by omega
              rcases hj2 with rfl | rfl
              · exact Nat.zero_le _
              · rw [hs1]; omega) (by omega) (by omega) (fun j hj => by
              have hj2 : j = 0 := by have : j < 1 := hj; omega
              subst hj2
              show (List.replicate x (0 : Int)).length ≤ 4096
              rw [List.length_replicate]; omega) (by decide) (by rw [List.length_set, hK1l]; omega) h2.1 (by rw [List.length_set, hK1l]; omega) (by omega) HG.out.2)
          have HS1 := Lib.hid hs1
          have HK1L := Lib.hid hK1l
          clear hR5 hv5 hvl5 hs1 hK1l
          go_wp2_with fail
          refine HNX.out.mono ?_
          rintro e w6 ⟨rfl, hm6⟩
          have HM6 := Lib.hid hm6
          clear hm6
          go_wp2_with fail
          refine (HTR.out _ HM6.out).mono ?_
          rintro e w7 ⟨rfl, lv7, vals7, hR7, hv7⟩
          rw [HS1.out] at hR7
          have e1 : ((0 + kn : Nat) : Int) - ((kn : Nat) : Int) = ((0 : Nat) : Int) := by omega
          have e2 : (f0 : Int) + ((1 : Nat) : Int) = ((f0 + 1 : Nat) : Int) := by omega
          have e3 : ((1 : Nat) : Int) - ((1 : Nat) : Int) = ((0 : Nat) : Int) := by decide
          rw [e1, e2, e3] at hR7
          have HR7 := Lib.hid hR7
          have HV7 := Lib.hid ((HV5.out.trans (rmv_of0 HR5.out HM6.out)).trans hv7)
          have HM7 := Lib.hid (rmv_new (HR5.out.moves0 HM6.out) (HM5.out.trans HM6.out) HBW.out hv7)
          clear hR7 hv7 e1 e2 e3
          have HRO : Hid (∀ W, Moves (fun _ => False) w7 W → Calls Try.prog 35 #[.pointer (some ⟨r, 0, none⟩)] W (MovV W (.int .i64 rm))) := Lib.hid (fun W hW => by
            have h := room_any (HR7.out.rb.moves0 hW) ⟨HH.out.1, by have := HH.out; omega⟩ (by decide) (Nat.zero_le _)
            rw [HRM.out] at h
            exact h)
          go_wp2_with fail
          refine (HRO.out _ (Moves.refl _ _)).mono ?_
          rintro e w8 ⟨rfl, hm8⟩
          have HM8 := Lib.hid hm8
          clear hm8
          go_wp2_with fail
          refine (HWN.out _).mono ?_
          rintro e w9 ⟨rfl, rfl⟩
          go_wp2_with fail
          have hv0 : vals7 = [] := List.eq_nil_of_length_eq_zero HR7.out.len
          subst hv0
          go_roundg (R - (i + 1))
          case measure => have := HIR.out; omega
          case rel =>
            have h := HN.out
            have h3 := HKN2.out.1
            have h4 := HH.out
            exact ⟨i + 1, by omega, rfl, by go_num, Lib.hid ⟨_, g2, f0 + 1, _, _, ws + kn + 1 + 1, by rw [List.length_set, List.length_set, HK1L.out], by omega, by omega, by omega, by omega, Nat.mod_lt _ (by omega), HR7.out.moves0 HM8.out, HM7.out.trans HM8.out, (rmv_of0 HR7.out HM8.out).row (HV7.out.row HB.out)⟩⟩
    · have d1 : ¬ (i : Int) < (R : Int) := by omega
      obtain ⟨K, gen, f0, t, lv, ws, -, -, -, -, -, -, -, hM, -⟩ := HI.out
      go_wp2
      go_ret
      exact ⟨rfl, hM⟩
end Go.Proofs.Ytnagpianaghjeaa.Rg
