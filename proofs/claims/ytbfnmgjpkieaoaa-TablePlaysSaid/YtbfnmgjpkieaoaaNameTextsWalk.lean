/-
  NameTexts: the statement's walk.
-/
import Derived.Test.YtbfnmgjpkieaoaaTabTexts
namespace Go.Proofs.Ytbfnmgjpkieaoaa.Tb
open Go Go.RowKit Go.Maps Go.Sort Go.Proofs Go.Shelf

def zeroN : Nm := ⟨List.replicate 32 0, by simp⟩
theorem zeroN_cells : (encM zeroN).toArray = (cellsN (List.replicate 32 0)).toArray := by rw [← zero_ints, cellsN_ints]; rfl
theorem fix_bad {s : ByteArray} (h : ¬ GoodT s) : fixN s = zeroN ∧ fixE s = 4 := by unfold fixN fixE; rw [if_neg h, if_neg h]; exact ⟨rfl, rfl⟩
theorem fix_good {s : ByteArray} (h : GoodT s) : fixN s = nm s ∧ fixE s = 0 := by unfold fixN fixE; rw [if_pos h, if_pos h]; exact ⟨rfl, rfl⟩
theorem nm_cell_lt {s : ByteArray} (h : GoodT s) {k : Nat} (hk : k < s.size) : (encM (nm s))[k]? = some (.int .u8 (s[k].toNat : Int)) := by
  unfold encM nm
  simp only
  have hl : k < s.data.toList.length := hk
  rw [padL_short h.2.1, List.map_append, List.getElem?_append_left (by rw [List.length_map]; exact hk), List.getElem?_map, List.getElem?_eq_getElem hl]
  rfl
theorem nm_cell_ge {s : ByteArray} (h : GoodT s) {k : Nat} (hk : s.size ≤ k) (h32 : k < 32) : (encM (nm s))[k]? = some (.int .u8 0) := by
  unfold encM nm
  simp only
  have hl : s.data.toList.length ≤ k := hk
  rw [padL_short h.2.1, List.map_append, List.getElem?_append_right (by rw [List.length_map]; exact hl), List.getElem?_map, List.getElem?_replicate, if_pos (by rw [List.length_map]; omega)]
  rfl
set_option maxRecDepth 100000 in
set_option maxHeartbeats 4000000 in
theorem nametexts {s : ByteArray} (hs : s.size ≤ maxLen) {w : World} (hL : LenCell w) : Calls Try.prog 10 #[.string s] w (ValPost w (.bool true)) := by
  unfold maxLen at hs
  have HK := Lib.hid (known_any hL)
  have HL := Lib.hid hL
  clear hL
  by_cases h100 : 100 < s.size
  · have h1 : (100 : Int) < (s.size : Int) := by omega
    clear h100
    go_enter Try.func10, Try.ntmps10
    go_wp2_with (first
      | (go_at_call 42
         refine HK.out.mono ?_
         rintro e w1 ⟨rfl, hm1⟩)
      | fail)
    go_ret
    exact ⟨rfl, hm1⟩
  have h1 : ¬ (100 : Int) < (s.size : Int) := by omega
  by_cases hg : GoodT s
  · have HF := Lib.hid (fun W => fix_any s W)
    rw [(fix_good hg).1, (fix_good hg).2] at HF
    have HR := Lib.hid (fun (W : World) => goodref_any (w := W) s (by omega) (decide_eq_true hg))
    have HG := Lib.hid hg
    have HX : Hid (∀ k, k < 32 → (∀ h : k < s.size, (encM (nm s))[k]? = some (.int .u8 (s[k].toNat : Int))) ∧ (s.size ≤ k → (encM (nm s))[k]? = some (.int .u8 0))) := Lib.hid (fun k h32 => ⟨fun h => nm_cell_lt hg h, fun h => nm_cell_ge hg h h32⟩)
    have ht := txt_nm hg
    have HT := Lib.hid ht
    clear hg h100 ht
    generalize nm s = n at HF HX HT
    go_enter Try.func10, Try.ntmps10
    go_wp2_with (first
      | (go_at_call 42
         refine HK.out.mono ?_
         rintro e w1 ⟨rfl, hm1⟩)
      | (go_at_call 43
         refine (HF.out _).mono ?_
         rintro e w2 ⟨rfl, hm2⟩)
      | (refine wpList_store_eq (o := ⟨none, .store _ _ _, _, _, _, _⟩) rfl 77 (.tmp 3) (.tmp 14) rfl _ _ rfl rfl _ (store_new32 _ _ rfl n) ?_
         go_frame)
      | (go_at_call 44
         refine (HR.out _).mono ?_
         rintro e w3 ⟨rfl, rfl⟩)
      | fail)
    have hmW := (hm1.trans hm2).alloc (.cells (encM n).toArray 77)
    have hrW := range_of (heap_alloc_new w2 (.cells (encM n).toArray 77))
    have hLW := HL.out.moves0 hmW
    generalize w2.heap.size = kb at hrW ⊢
    generalize w2.alloc (.cells (encM n).toArray 77) = W at hmW hrW hLW ⊢
    have HW := Lib.hid (And.intro hmW (And.intro hrW hLW))
    have h32 : s.size ≤ 32 := HG.out.2.1
    clear hmW hrW hLW hm1 hm2 HF HR HK
    go_loopw [5] (fun t wr => ∃ k q : Nat, k ≤ 32 ∧ t = .int .i64 k ∧ wr = W.drewN q) (fun t _ => 32 - (zOf t).toNat)
    case atStart => exact ⟨0, 0, by omega, rfl, rfl⟩
    case round =>
      obtain ⟨k, q, hk, rfl, rfl⟩ := hrel
      have b0 : (0 : Int) ≤ (k : Int) := by omega
      by_cases hlt : k < 32
      · have b1 : (k : Int) < 32 := by omega
        by_cases hks : k < s.size
        · have b2 : (k : Int) < (s.size : Int) := by omega
          have hc : W.cell? ⟨kb, k, none⟩ = some (.int .u8 (s[k].toNat : Int)) := by
            have := HW.out.2.1 k _ ((HX.out k hlt).1 hks)
            rwa [Nat.zero_add] at this
          have c2 : decide (s.size ≤ k) = false := decide_eq_false (by omega)
          have c1 : ((s[k].toNat : Int) != (s[k].toNat : Int)) = false := by simp
          go_wp2_with fail
          go_quiet (fail)
          go_wp2
          go_roundw
          case rel => exact ⟨k + 1, q + nq, by omega, by go_num, by first | rfl | rw [World.drewN_drewN]⟩
          case measure => simp [zOf]; omega
        · have b2 : ¬ (k : Int) < (s.size : Int) := by omega
          have b3 : (k : Int) ≥ (s.size : Int) := by omega
          have hc : W.cell? ⟨kb, k, none⟩ = some (.int .u8 0) := by
            have := HW.out.2.1 k _ ((HX.out k hlt).2 (by omega))
            rwa [Nat.zero_add] at this
          go_wp2_with fail
          go_quiet (fail)
          go_wp2
          go_roundw
          case rel => exact ⟨k + 1, q + nq, by omega, by go_num, by first | rfl | rw [World.drewN_drewN]⟩
          case measure => simp [zOf]; omega
      · obtain rfl : k = 32 := by omega
        have HS := Lib.hid (string_nm n (HW.out.2.2.moves0 ((Moves.refl (fun _ => False) W).drewN q)))
        rw [HT.out] at HS
        have hr9 : (W.drewN q).rangeAt kb 0 (encM n) := fun j v hv => (World.cell?_drewN _ _ _).trans (HW.out.2.1 j v hv)
        have HR9 := Lib.hid hr9
        have hm9 := HW.out.1.drewN q
        clear hr9
        generalize W.drewN q = W9 at HS HR9 hm9 ⊢
        go_wp2_with (first
          | (refine wpList_load_at (op := ⟨some 58, _, _, _, _, _⟩) (by kernel_rfl) 77 (.tmp 3) rfl _ _ rfl (load_nm HR9.out) ?_
             go_frame)
          | (go_at_call 45
             refine HS.out.mono ?_
             rintro e w4 ⟨rfl, hm4⟩)
          | fail)
        go_ret
        exact ⟨rfl, hm9.trans hm4⟩
  · have HF := Lib.hid (fun W => fix_any s W)
    rw [(fix_bad hg).1, (fix_bad hg).2] at HF
    have HR := Lib.hid (fun (W : World) => goodref_any (w := W) s (by omega) (decide_eq_false hg))
    have HE := Lib.hid (fun W => eql_names zeroN zeroN W)
    rw [beq_self_eq_true] at HE
    clear hg h100
    go_enter Try.func10, Try.ntmps10
    go_wp2_with (first
      | (go_at_call 42
         refine HK.out.mono ?_
         rintro e w1 ⟨rfl, hm1⟩)
      | (go_at_call 43
         refine (HF.out _).mono ?_
         rintro e w2 ⟨rfl, hm2⟩)
      | (refine wpList_store_eq (o := ⟨none, .store _ _ _, _, _, _, _⟩) rfl 77 (.tmp 3) (.tmp 14) rfl _ _ rfl rfl _ (store_new32 _ _ rfl zeroN) ?_
         go_frame)
      | (go_at_call 44
         refine (HR.out _).mono ?_
         rintro e w3 ⟨rfl, rfl⟩)
      | (refine wpList_load_at (op := ⟨some 22, _, _, _, _, _⟩) (by kernel_rfl) 77 (.tmp 3) rfl _ _ rfl (load_new32 w2 zeroN) ?_
         go_frame)
      | (refine wpList_eql_midg (op := ⟨some 24, _, _, _, _, _⟩) (by kernel_rfl) 77 77 (.tmp 22) (.tmp 23) rfl (encM zeroN).toArray (encM zeroN).toArray rfl rfl (by kernel_rfl) true (HE.out _) ?_
         go_frame)
      | fail)
    go_ret
    exact ⟨rfl, (hm1.trans hm2).alloc _⟩
end Go.Proofs.Ytbfnmgjpkieaoaa.Tb
