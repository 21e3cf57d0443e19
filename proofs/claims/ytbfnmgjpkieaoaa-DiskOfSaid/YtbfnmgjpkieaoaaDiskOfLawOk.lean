/-
  The walk of DiskOf: any bytes as a disk, or that they are none; read sector by sector they are those bytes.
-/
import Derived.Test.YtbfnmgjpkieaoaaDiskOfLaw
import Derived.Deep.RegionHeld3
import Derived.Deep.RegionHeldLaw
namespace Go.Proofs.Ytbfnmgjpkieaoaa.Pl
open Go Go.RowKit Go.Maps Go.Sort Go.Proofs

theorem str_append (a b : List Int) : strOfNums a ++ strOfNums b = strOfNums (a ++ b) := by
  apply ByteArray.ext
  simp [strOfNums]
theorem rd_none (z : Nat) (K : List (List Int)) {i : Nat} (h : i < K.length) : rdN (ofS z K) i (ofS z K).secs.length = K[i] := by
  simp [rdN, ofS, newS, List.getElem?_eq_getElem h]

set_option maxRecDepth 100000 in
set_option maxHeartbeats 8000000 in
theorem of_law_ok {w : World} {g o c k z N : Nat} {xs : List Int} (hN : N = k * z) (hl : xs.length = N) (hk : 1 ≤ k ∧ k ≤ 62) (hz : 64 ≤ z ∧ z ≤ 1024) (hN4 : N ≤ 4000) (hc : N ≤ c) (hg : g < w.heap.size) (hx : ∀ j u, (xs.map encB)[j]? = some u → w.cell? ⟨g, o + j, none⟩ = some u) :
    Calls Try.prog 9 #[.slice (some ⟨g, o, none⟩) N c, .int .i64 z] w (TruePost w) := by
  have HK := Lib.hid (known_any w)
  have hrow : Row w (fun j => j < w.heap.size) (.slice (some ⟨g, o, none⟩) N c) (xs.map encB) := ⟨_, c, by rw [List.length_map, hl], by rw [List.length_map, hl]; exact hc, fun _ => ⟨g, o, rfl, hg, hg, hx⟩⟩
  have HCV : Hid (∀ W, Moves (fun _ => False) w W → (convert 29 9 (.slice (some ⟨g, o, none⟩) N c)).run Try.prog W = .ok (.string (strOfNums xs)) W) := Lib.hid (fun W hW => by
    have h1 := hrow.moves hW (fun _ _ _ h => h)
    exact conv_row h1)
  have HOF := Lib.hid (fun W (hW : Moves (fun _ => False) w W) => of_ok (w := W) hN hl hk hz hN4 hc (Nat.lt_of_lt_of_le hg hW.size) (fun j u hu => (hW.cell (p := ⟨g, o + j, none⟩) hg (fun h => h)).trans (hx j u hu)))
  have hz0 : ¬ (z : Int) = 0 := by omega
  have e1 : ¬ (4000 : Int) < (N : Int) := by omega
  have e2 : (64 : Int) ≤ (z : Int) := by omega
  have e3 : (z : Int) ≤ 1024 := by omega
  have hN0 : 0 < N := by rw [hN]; exact Nat.mul_pos (by omega) (by omega)
  have e4 : (0 : Int) < (N : Int) := by omega
  have t1 : Int.tmod (N : Int) (z : Int) = 0 := by
    rw [Int.tmod_eq_emod_of_nonneg (by omega), hN]
    simp
  have t2 : Int.tdiv (N : Int) (z : Int) = (k : Int) := by
    rw [Int.tdiv_eq_ediv_of_nonneg (by omega), hN]
    rw [Int.natCast_mul]
    exact Int.mul_ediv_cancel _ (by omega)
  have HFL := Lib.hid (secs_flat (hl.trans hN))
  have HLN := Lib.hid (And.intro hl (And.intro hN (fun i (hi : i < k) => ch_len (hl.trans hN) hi)))
  clear hrow hN hl hx
  go_enter Try.func9, Try.ntmps9
  go_wp2_with fail
  refine HK.out.mono ?_
  rintro e w1 ⟨rfl, hM1⟩
  have HM1 := Lib.hid hM1
  clear hM1
  go_wp2_with fail
  refine (HOF.out w1 HM1.out).mono ?_
  rintro e w2 ⟨d, rfl, hD, hM2⟩
  have hD : IsDisk w2 w1.heap.size d (ofS z (secsOf xs z k)) := hD
  have HM2 := Lib.hid (HM1.out.trans hM2)
  have hkl : (ofS z (secsOf xs z k)).kept.length = k := secs_len xs z k
  have HSH := Lib.hid (shape_any hD)
  rw [hkl, show (ofS z (secsOf xs z k)).size = z from rfl] at HSH
  have HD := Lib.hid hD
  clear hM2 hD HOF HK hkl
  go_wp2_with fail
  refine HSH.out.mono ?_
  rintro e w3 ⟨rfl, hM3⟩
  have H3 := Lib.hid (And.intro (HD.out.moves0 hM3) (HM2.out.trans hM3))
  clear hM3 HSH
  go_wp2_with fail
  go_loopg [8, 11] k (fun gg s8 s11 wq => ∃ i : Nat, i ≤ k ∧ gg = k - i ∧ s11 = .int .i64 i ∧ s8 = .string (strOfNums (xs.take (i * z))) ∧ Hid (Moves (fun _ => False) w3 wq))
  case atStart => exact ⟨0, Nat.zero_le _, rfl, rfl, by simp [strOfNums], Lib.hid (Moves.refl _ _)⟩
  case round =>
    obtain ⟨i, hi, rfl, rfl, rfl, HI⟩ := hrel
    by_cases hik : i < k
    · have hikz : (i : Int) < (k : Int) := by omega
      have hil : i < (secsOf xs z k).length := by rw [secs_len]; exact hik
      have HRD := Lib.hid (read_ok (H3.out.1.moves0 HI.out) rfl (i := (i : Int)) (by unfold inS; rw [show (ofS z (secsOf xs z k)).kept.length = k from secs_len xs z k]; simp; omega) (by show 0 < z; omega) (by show z ≤ 1000000; omega) (rd_none z _ hil))
      rw [secs_get hil] at HRD
      have HF : Hid (strOfNums (xs.take (i * z)) ++ strOfNums (ch xs z i) = strOfNums (xs.take ((i + 1) * z))) := Lib.hid (by rw [str_append, Nat.succ_mul, List.take_add]; rfl)
      have hsum : (strOfNums (xs.take (i * z))).size + (strOfNums (ch xs z i)).size ≤ 9223372036854775807 := by
        have h1 := HLN.out.1
        rw [strOfNums_size, strOfNums_size, HLN.out.2.2 i hik, List.length_take]
        omega
      have hadd := fun W => run_string_add_sum (P := Try.prog) W _ _ hsum
      clear hsum hil
      generalize ch xs z i = cs at HRD HF hadd
      generalize strOfNums (xs.take (i * z)) = s1 at HF hadd ⊢
      go_wp2_with fail
      refine HRD.out.mono ?_
      rintro e w4 ⟨g4, rfl, hg4, hg4', hx4, hm4⟩
      have hcv := conv_row (w := w4) (L := fun _ => True) (v := .slice (some ⟨g4, 0, none⟩) cs.length cs.length) (bs := cs) ⟨_, cs.length, by rw [List.length_map], by rw [List.length_map]; exact Nat.le_refl _, fun _ => ⟨g4, 0, rfl, trivial, hg4', fun j u hu => by rw [Nat.zero_add]; exact hx4 j u hu⟩⟩
      have HI4 := Lib.hid (HI.out.trans hm4)
      clear hg4 hg4' hx4 hm4 HRD
      generalize strOfNums cs = s2 at hcv hadd HF
      go_wp2_with fail
      go_roundg (k - (i + 1))
      case measure => omega
      case rel => exact ⟨i + 1, by omega, rfl, by go_num, by rw [← HF.out], HI4⟩
    · obtain rfl : i = k := by omega
      have hikz : ¬ (i : Int) < (i : Int) := by omega
      have ht : xs.take (i * z) = xs := List.take_of_length_le (by have h1 := HLN.out.1; have h2 := HLN.out.2.1; omega)
      rw [ht]
      have HBY := Lib.hid (fun W (hW : Moves (fun _ => False) wr W) => bytes_any ((H3.out.1.moves0 HI.out).moves0 hW) (by show 1 ≤ z ∧ z ≤ 1024; omega) (by rw [show (ofS z (secsOf xs z i)).kept.length = i from secs_len xs z i]; omega) HFL.out)
      have HPE := Lib.hid (fun W (hW : Moves (fun _ => False) wr W) => (show Calls Try.prog 20 #[.pointer (some ⟨d, 0, none⟩)] W (SameP W (.int .i64 0)) from pending_any ((H3.out.1.moves0 HI.out).moves0 hW)))
      have HW := Lib.hid (H3.out.2.trans HI.out)
      have HCW : Hid (∀ W, Moves (fun _ => False) wr W → (convert 29 9 (.slice (some ⟨g, o, none⟩) N c)).run Try.prog W = .ok (.string (strOfNums xs)) W) := Lib.hid (fun W hW => HCV.out W (HW.out.trans hW))
      clear ht HI
      have hwk : IntKind.i64.wrap (i : Int) = (i : Int) := IntWalk.i64_in _ (by omega)
      generalize hs : strOfNums xs = s at HCW ⊢
      have HS := Lib.hid hs
      clear hs
      go_wp2_with fail
      go_region_held_law (fun W => (convert 29 9 (.slice (some ⟨g, o, none⟩) N c)).run Try.prog W = .ok (.string s) W)
        (first | (with_reducible exact HCW.out _ (Moves.refl _ wr).drew) | (with_reducible exact HCW.out _ HM6.out))
        (first
          | (go_at_call 40
             go_must (refine (HBY.out _ (Moves.refl _ wr).drew).mono ?_)
             rintro e w6 ⟨v6, rfl, hrow6, hm6⟩
             have hcv6 := conv_row hrow6
             rw [HS.out] at hcv6
             have HM6 : Hid (Moves (fun _ => False) wr w6) := Lib.hid ⟨hm6.os, hm6.tape, hm6.output, hm6.size, hm6.block⟩
             clear hrow6 hm6)
          | (go_at_call 20
             go_must (first | refine (HPE.out _ HM6.out).mono ?_ | refine (HPE.out _ (Moves.refl _ wr).drew).mono ?_)
             rintro e w7 ⟨rfl, rfl⟩)
          | fail)
      all_goals go_wp2
      all_goals go_ret
      all_goals exact ⟨rfl, HW.out.trans HM6.out⟩
end Go.Proofs.Ytbfnmgjpkieaoaa.Pl
