/-
  TableFull: the statement's walk.
-/
import Derived.Test.YtbfnmgjpkieaoaaTableFullPlain
import Derived.Laws.Concat
namespace Go.Proofs.Ytbfnmgjpkieaoaa.Tb
open Go Go.RowKit Go.Maps Go.Sort Go.Proofs Go.Shelf

theorem conv2 (w : World) (x y : Int) : (convert 29 9 (.slice (some ⟨w.heap.size, 0, none⟩) 2 2)).run Try.prog (w.alloc (.cells #[.int .u8 x, .int .u8 y] 5)) = .ok (.string (strOfNums [x, y])) (w.alloc (.cells #[.int .u8 x, .int .u8 y] 5)) := by
  have hcell : ∀ i, i < [x, y].length → (w.alloc (.cells #[.int .u8 x, .int .u8 y] 5)).cell? ⟨w.heap.size, 0 + i, none⟩ = some (.int .u8 ([x, y].getD i 0)) := fun i hi => by
    have hb := heap_alloc_new w (.cells #[.int .u8 x, .int .u8 y] 5)
    have : i = 0 ∨ i = 1 := by simp at hi; omega
    rcases this with rfl | rfl <;> (simp only [World.cell?, hb]; rfl)
  exact run_convert_bytes_arg _ _ 5 Try.underlying29 Try.underlying5 w.heap.size 0 2 2 [x, y] rfl hcell _ Try.underlying9
set_option maxRecDepth 100000 in
set_option maxHeartbeats 8000000 in
theorem tablefull {m : Int} (hm : (Lit.int .u8 m).wf = true) {w : World} (hL : LenCell w) : Calls Try.prog 11 #[.int .u8 m] w (ValPost w (.bool true)) := by
  obtain ⟨q, rfl, hq⟩ : ∃ q : Nat, m = (q : Int) ∧ q < 256 := by
    have hw : (decide (IntKind.u8.min ≤ m) && decide (m ≤ IntKind.u8.max)) = true := hm
    have e1 : IntKind.u8.min = 0 := rfl
    have e2 : IntKind.u8.max = 255 := rfl
    rw [e1, e2, Bool.and_eq_true, decide_eq_true_eq, decide_eq_true_eq] at hw
    exact ⟨m.toNat, by omega, by omega⟩
  have HK := Lib.hid (known_any hL)
  have HL := Lib.hid hL
  clear hL hm
  go_enter Try.func11, Try.ntmps11
  go_upto_region 4 with (first
    | (go_at_call 42
       refine HK.out.mono ?_
       rintro e w1 ⟨rfl, hm1⟩)
    | fail)
  have hs3 := KSt.new (HL.out.moves0 hm1)
  have hbw := hm1.size
  generalize w1.heap.size = b at hs3 hbw ⊢
  generalize w1.alloc (.cells #[.map none] 84) = W3 at hs3 ⊢
  have HW2 := Lib.hid (And.intro hm1 hbw)
  have S3 := Lib.hid hs3
  clear hs3 hm1 hbw HK
  go_wp2_with fail
  go_loopw [4] (fun u4 wr => ∃ i : Nat, i ≤ 64 + q % 8 ∧ u4 = .int .i64 i ∧ KSt w1 b b (mI (min i 64)) wr) (fun u4 _ => 64 + q % 8 - (zOf u4).toNat)
  case atStart => exact ⟨0, by omega, rfl, S3.out⟩
  case round =>
    obtain ⟨i, hi, rfl, hst⟩ := hrel
    have S := Lib.hid hst
    clear hst
    by_cases hlt : i < 64 + q % 8
    · have i0 : (0 : Int) ≤ (i : Int) := by omega
      have i1 : (i : Int) < 72 := by omega
      have il : (i : Int) < 64 + (q : Int) % 8 := by omega
      have hcv := conv2
      have hadd := fun (W : World) (x y : Int) => run_string_add_sum (P := Try.prog) W (⟨#[110]⟩ : ByteArray) (strOfNums [x, y]) (by rw [strOfNums_size]; simp [ByteArray.size])
      have HF := Lib.hid (fun W => fix_any (tI i) W)
      have hg := nI_good (i := i) (by omega)
      rw [(fix_good (tI_good (i := i) (by omega))).1, (fix_good (tI_good (i := i) (by omega))).2, show nm (tI i) = nI i from rfl] at HF
      have HP := Lib.hid (And.intro hg (And.intro (mI_put (i := i) (by omega)) (fun (h : 64 ≤ i) => mI_has h (by omega))))
      clear hg
      obtain ⟨n, hn⟩ : ∃ n, n = nI i := ⟨_, rfl⟩
      rw [← hn] at HF HP
      have HN := Lib.hid hn
      clear hn
      go_upto_region 8 with (first
        | (go_at_call 43
           rw [tI_sum (by omega)]
           refine (HF.out _).mono ?_
           rintro e w2 ⟨rfl, hm2⟩)
        | (refine wpList_store_eq (o := ⟨none, .store _ _ _, _, _, _, _⟩) rfl 77 (.tmp 5) (.tmp 36) rfl _ _ rfl rfl _ (store_new32 _ _ rfl n) ?_
           go_frame)
        | fail)
      have hm2a := (((Moves.refl (fun _ => False) wr).alloc (.cells #[.int .u8 (97 + (i : Int) / 10), .int .u8 (48 + (i : Int) % 10)] 5)).trans hm2).alloc (.cells (encM n).toArray 77)
      have S5 := Lib.hid (S.out.next0 hm2a)
      have hrW := Lib.hid (range_of (heap_alloc_new w2 (.cells (encM n).toArray 77)))
      clear hm2 hm2a hcv hadd HF
      generalize w2.heap.size = kb at hrW ⊢
      generalize w2.alloc (.cells (encM n).toArray 77) = W5 at S5 hrW ⊢
      have hwf : (Lit.int .i64 ((i : Int) + 1)).wf = true := by
        show (decide (IntKind.i64.min ≤ (i : Int) + 1) && decide ((i : Int) + 1 ≤ IntKind.i64.max)) = true
        have e1 : IntKind.i64.min = -9223372036854775808 := rfl
        have e2 : IntKind.i64.max = 9223372036854775807 := rfl
        rw [e1, e2, decide_eq_true (by omega), decide_eq_true (by omega)]
        rfl
      have HWF := Lib.hid hwf
      clear hwf
      by_cases h64 : i < 64
      · have e1 : min i 64 = i := by omega
        have e2 : min (i + 1) 64 = i + 1 := by omega
        rw [e1] at S5
        have b64 : (i : Int) < 64 := by omega
        have HE := Lib.hid e2
        have HB := Lib.hid (bind_ok S5.out.tab S5.out.len n HWF.out S5.out.big (by rw [mI_len]; omega) (by omega) HP.out.1 (.inr (by rw [mI_len]; exact h64)))
        clear e1 e2
        go_upto_region 11 with (first
          | (refine wpList_load_at (op := ⟨some 41, _, _, _, _, _⟩) rfl 77 (.tmp 5) rfl _ _ rfl (load_nm hrW.out) ?_
             go_frame)
          | (go_at_call 46
             refine HB.out.mono ?_
             rintro e w6 ⟨rfl, ht6, hm6⟩)
          | fail)
        have S6 := Lib.hid (S5.out.next ht6 hm6)
        rw [HP.out.2.1] at S6
        clear ht6 hm6 S5 HB
        have HI := Lib.hid (And.intro hlt h64)
        clear h64 hlt hi hq hrW HWF HP HN
        go_wp2
        go_roundw
        case rel => exact ⟨i + 1, by have := HI.out.1; omega, by go_num, by rw [HE.out]; exact S6.out⟩
        case measure => have := HI.out.1; simp [zOf]; omega
      · have e1 : min i 64 = 64 := by omega
        have e2 : min (i + 1) 64 = 64 := by omega
        rw [e1] at S5
        have b64 : ¬ (i : Int) < 64 := by omega
        have HE := Lib.hid e2
        have hbe : bindE (mI 64) n ((i : Int) + 1) = 6 := by
          unfold bindE
          have hno : hasN (mI 64) n = false := by rw [HN.out]; exact mI_has (by omega) (by omega)
          rw [if_neg (by omega), HP.out.1, if_neg (by decide), if_pos ⟨hno, by rw [mI_len]; omega⟩]
        have HB := Lib.hid (bind_any S5.out.tab S5.out.len n HWF.out S5.out.big (by rw [mI_len]; omega) (r := 6) (v := 0) (M' := mI 64) hbe (by unfold bindV; rw [hbe, if_neg (by decide)]) (by unfold bindM; rw [hbe, if_neg (by decide)]))
        clear e1 e2 hbe
        go_upto_region 11 with (first
          | (refine wpList_load_at (op := ⟨some 41, _, _, _, _, _⟩) rfl 77 (.tmp 5) rfl _ _ rfl (load_nm hrW.out) ?_
             go_frame)
          | (go_at_call 46
             refine HB.out.mono ?_
             rintro e w6 ⟨rfl, ht6, hm6⟩)
          | fail)
        have S6 := Lib.hid (S5.out.next ht6 hm6)
        clear ht6 hm6 S5 HB
        have HI := Lib.hid (And.intro hlt h64)
        clear h64 hlt hi hq hrW HWF HP HN
        go_wp2
        go_roundw
        case rel => exact ⟨i + 1, by have := HI.out.1; omega, by go_num, by rw [HE.out]; exact S6.out⟩
        case measure => have := HI.out.1; simp [zOf]; omega
    · obtain rfl : i = 64 + q % 8 := by omega
      have e1 : min (64 + q % 8) 64 = 64 := by omega
      rw [e1] at S
      have il : ¬ ((64 + q % 8 : Nat) : Int) < 64 + (q : Int) % 8 := by omega
      have HF := Lib.hid (fun W => fix_any (tI 0) W)
      rw [(fix_good (tI_good (i := 0) (by omega))).1, (fix_good (tI_good (i := 0) (by omega))).2, show nm (tI 0) = nI 0 from rfl] at HF
      change Hid (∀ W, Calls _ _ #[.string ⟨#[110, 97, 48]⟩] W _) at HF
      have HP := Lib.hid (And.intro (nI_good (i := 0) (by omega)) (And.intro (mI_zero 63) mI_full))
      generalize nI 0 = n at HF HP
      clear e1 hlt hi
      generalize 64 + q % 8 = i at il ⊢
      go_upto_region 14 with (first
        | (go_at_call 43
           refine (HF.out _).mono ?_
           rintro e w2 ⟨rfl, hm2⟩)
        | (refine wpList_store_eq (o := ⟨none, .store _ _ _, _, _, _, _⟩) rfl 77 (.tmp 9) (.tmp 62) rfl _ _ rfl rfl _ (store_new32 _ _ rfl n) ?_
           go_frame)
        | fail)
      have S5 := Lib.hid (S.out.next0 (hm2.alloc (.cells (encM n).toArray 77)))
      have hrW := Lib.hid (range_of (heap_alloc_new w2 (.cells (encM n).toArray 77)))
      clear hm2 HF
      generalize w2.heap.size = kb at hrW ⊢
      generalize w2.alloc (.cells (encM n).toArray 77) = W5 at S5 hrW ⊢
      have HB := Lib.hid (bind_ok S5.out.tab S5.out.len n (to := 99) (by decide) S5.out.big (by rw [mI_len]; omega) (by omega) HP.out.1 (.inl HP.out.2.1.2))
      rw [HP.out.2.1.1] at HB
      go_upto_region 15 with (first
        | (refine wpList_load_at (op := ⟨some 65, _, _, _, _, _⟩) rfl 77 (.tmp 9) rfl _ _ rfl (load_nm hrW.out) ?_
           go_frame)
        | (go_at_call 46
           refine HB.out.mono ?_
           rintro e w6 ⟨rfl, ht6, hm6⟩)
        | fail)
      have S6 := Lib.hid (S5.out.next ht6 hm6)
      have HLn := Lib.hid (len_any S6.out.tab)
      rw [HP.out.2.2] at HLn
      clear ht6 hm6 S5 HB
      go_wp2_with (first
        | (go_at_call 47
           refine HLn.out.mono ?_
           rintro e w7 ⟨rfl, rfl⟩)
        | fail)
      go_ret
      exact ⟨rfl, S6.out.under HW2.out.1 HW2.out.2⟩
end Go.Proofs.Ytbfnmgjpkieaoaa.Tb
