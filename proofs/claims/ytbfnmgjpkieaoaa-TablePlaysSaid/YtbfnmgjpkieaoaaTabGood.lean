/-
  TablePlays: the statement's own 'good' and 'at'.
-/
import Derived.Test.YtbfnmgjpkieaoaaTableFullWalk
namespace Go.Proofs.Ytbfnmgjpkieaoaa.Tb
open Go Go.RowKit Go.Maps Go.Sort Go.Proofs Go.Shelf

def goodS (n : Nm) : ByteArray := if goodN n = true then txt n else ⟨#[]⟩
def GoodPost (w : World) (n : Nm) (e : Ending) (w' : World) : Prop := e = .returned (.tuple #[.string (goodS n), .bool (goodN n)]) ∧ Moves (fun _ => False) w w'
theorem encM_get (n : Nm) {k : Nat} (hk : k < 32) : (encM n)[k]? = some (.int .u8 ((n.1[k]'(by rw [n.2]; exact hk)).toNat : Int)) := by
  unfold encM
  rw [List.getElem?_map, List.getElem?_eq_getElem (by rw [n.2]; exact hk)]
  rfl
theorem cutN_at {l : List UInt8} {k : Nat} (hk : k < l.length) (h : ∀ j (hj : j < l.length), j < k → l[j] ≠ 0) (h0 : l[k] = 0) : (cutN l).length = k := by
  induction l generalizing k with
  | nil => simp at hk
  | cons a r ih =>
    unfold cutN
    cases k with
    | zero =>
      have h0' : a = 0 := h0
      subst h0'
      simp
    | succ k =>
      have ha : a ≠ 0 := h 0 (by simp) (by omega)
      have hk' : k < r.length := by simpa using hk
      rw [List.takeWhile_cons, if_pos (by simpa using ha), List.length_cons]
      have := ih hk' (fun j hj hjk => h (j + 1) (by simpa using hj) (by omega)) h0
      unfold cutN at this
      rw [this]
theorem cutN_all : ∀ {l : List UInt8}, (∀ j (hj : j < l.length), l[j] ≠ 0) → (cutN l).length = l.length
  | [], _ => rfl
  | a :: r, h => by
    unfold cutN
    have ha : a ≠ 0 := h 0 (by simp)
    rw [List.takeWhile_cons, if_pos (by simpa using ha), List.length_cons, List.length_cons]
    have := cutN_all (l := r) (fun j hj => h (j + 1) (by simpa using hj))
    unfold cutN at this
    rw [this]
theorem cutN_take : ∀ {l : List UInt8}, cutN l = l.take (cutN l).length
  | [] => rfl
  | a :: r => by
    have ih := cutN_take (l := r)
    unfold cutN at ih ⊢
    by_cases ha : a = 0
    · rw [List.takeWhile_cons, if_neg (by simpa using ha)]
      rfl
    · rw [List.takeWhile_cons, if_pos (by simpa using ha), List.length_cons, List.take_succ_cons, ← ih]
theorem pad_iff (n : Nm) : padL (cutN n.1) = n.1 ↔ ∀ j (hj : j < 32), (cutN n.1).length ≤ j → n.1[j]'(by rw [n.2]; exact hj) = 0 := by
  have hle := cutN_le n.1
  have h32 := n.2
  constructor
  · intro h j hj hcj
    have e : (padL (cutN n.1))[j]'(by rw [padL_len]; exact hj) = n.1[j]'(by rw [n.2]; exact hj) := by
      congr 1
    rw [← e]
    have e2 : padL (cutN n.1) = cutN n.1 ++ List.replicate (32 - (cutN n.1).length) 0 := padL_short (by omega)
    have e3 : (padL (cutN n.1))[j]? = some 0 := by
      rw [e2, List.getElem?_append_right hcj, List.getElem?_replicate, if_pos (by omega)]
    rw [List.getElem?_eq_getElem (by rw [padL_len]; exact hj)] at e3
    exact Option.some.inj e3
  · intro h
    rw [padL_short (by omega)]
    apply List.ext_getElem?
    intro j
    by_cases hc : j < (cutN n.1).length
    · rw [List.getElem?_append_left hc]
      conv => lhs; rw [cutN_take]
      rw [List.getElem?_take_of_lt hc]
    · rw [List.getElem?_append_right (by omega), List.getElem?_replicate]
      by_cases h3 : j < 32
      · rw [if_pos (by omega), List.getElem?_eq_getElem (by rw [n.2]; exact h3), h j h3 (by omega)]
      · rw [if_neg (by omega), List.getElem?_eq_none (by omega)]
theorem goodN_yes {n : Nm} (h0 : 1 ≤ (cutN n.1).length) (h : ∀ j (hj : j < 32), (cutN n.1).length ≤ j → n.1[j]'(by rw [n.2]; exact hj) = 0) : goodN n = true := by
  unfold goodN
  exact decide_eq_true ⟨h0, (pad_iff n).2 h⟩
theorem goodN_no {n : Nm} {j : Nat} (hj : j < 32) (hc : (cutN n.1).length ≤ j) (h : n.1[j]'(by rw [n.2]; exact hj) ≠ 0) : goodN n = false := by
  unfold goodN
  exact decide_eq_false (fun hh => h ((pad_iff n).1 hh.2 j hj hc))
theorem goodN_nil {n : Nm} (h : (cutN n.1).length = 0) : goodN n = false ∧ txt n = ⟨#[]⟩ := by
  refine ⟨?_, ?_⟩
  · unfold goodN
    exact decide_eq_false (fun hh => by have := hh.1; omega)
  · unfold txt
    rw [List.length_eq_zero_iff.1 h]
theorem take_conv {w : World} {b : Nat} {n : Nm} (hr : w.rangeAt b 0 (encM n)) {k : Nat} (hk : k ≤ 32) (hc : (cutN n.1).length = k) : (convert 29 9 (.slice (some ⟨b, 0, none⟩) k 32)).run Try.prog w = .ok (.string (txt n)) w := by
  have hcell : ∀ i, i < k → w.cell? ⟨b, 0 + i, none⟩ = some (.int .u8 (((ints n).take k).getD i 0)) := fun i hi' => by
    have hil : i < (ints n).length := by rw [ints_len]; omega
    have h1 := hr i (.int .u8 ((ints n).getD i 0)) (by
      rw [← cellsN_ints]
      unfold cellsN
      rw [List.getElem?_map, List.getElem?_eq_getElem hil, List.getD_eq_getElem?_getD, List.getElem?_eq_getElem hil]
      rfl)
    rw [h1, List.getD_eq_getElem?_getD, List.getD_eq_getElem?_getD, List.getElem?_take_of_lt hi']
  have hlen : ((ints n).take k).length = k := by rw [List.length_take, ints_len]; omega
  have h := run_convert_bytes_arg w _ 5 Try.underlying29 Try.underlying5 b 0 k 32 ((ints n).take k) hlen hcell _ Try.underlying9
  rw [h]
  have e : strOfNums ((ints n).take k) = txt n := by
    apply ByteArray.ext
    apply Array.ext'
    rw [strOfNums_data]
    show _ = cutN n.1
    rw [cutN_take, hc]
    unfold ints
    rw [← List.map_take, List.map_map]
    conv => rhs; rw [← List.map_id (n.1.take k)]
    refine List.map_congr_left fun x _ => ?_
    simp
  rw [e]
set_option maxRecDepth 100000 in
set_option maxHeartbeats 4000000 in
theorem good_any (n : Nm) (w : World) : Calls Try.prog 49 #[.agg (encM n).toArray] w (GoodPost w n) := by
  have hm0 := (Moves.refl (fun _ => False) w).alloc (.cells (encM n).toArray 77)
  have hr0 := range_of (heap_alloc_new w (.cells (encM n).toArray 77))
  have hk0 : w.heap.size < (w.alloc (.cells (encM n).toArray 77)).heap.size := by simp
  go_enter Try.func49, Try.ntmps49
  go_wp2_with fail
  generalize w.heap.size = kb at hr0 hk0 ⊢
  generalize w.alloc (.cells (encM n).toArray 77) = W at hm0 hr0 hk0 ⊢
  have HC : Hid (∀ k (hk : k < 32), W.cell? ⟨kb, k, none⟩ = some (.int .u8 ((n.1[k]'(by rw [n.2]; exact hk)).toNat : Int))) := Lib.hid (fun k hk => by
    have := hr0 k _ (encM_get n hk)
    rwa [Nat.zero_add] at this)
  have HR := Lib.hid hr0
  have HM := Lib.hid hm0
  clear hr0 hm0 hk0
  go_loop [4] (fun t => ∃ k : Nat, k ≤ 32 ∧ t = .int .i64 k ∧ ∀ j (hj : j < 32), j < k → n.1[j]'(by rw [n.2]; exact hj) ≠ 0) (fun t => 32 - (zOf t).toNat)
  case atStart => exact ⟨0, by omega, rfl, fun j _ h => by omega⟩
  case round =>
    obtain ⟨k, hk, rfl, hno⟩ := hrel
    have HN := Lib.hid hno
    clear hno
    have b0 : (0 : Int) ≤ (k : Int) := by omega
    have done : Hid ((cutN n.1).length = k → k ≤ 32 → True) := Lib.hid (fun _ _ => trivial)
    clear done
    by_cases hlt : k < 32
    · have b1 : (k : Int) < 32 := by omega
      have hc := HC.out k hlt
      by_cases h0 : n.1[k]'(by rw [n.2]; exact hlt) = 0
      · have hz : ((n.1[k]'(by rw [n.2]; exact hlt)).toNat : Int) = 0 := by rw [h0]; rfl
        rw [hz] at hc
        have HL := Lib.hid (cutN_at (l := n.1) (k := k) (by rw [n.2]; exact hlt) (fun j hj hjk => HN.out j (by omega) hjk) h0)
        clear h0 hz hlt
        -- WAY1
        have hcv := take_conv HR.out (k := k) (by omega) HL.out
        go_wp2_with fail
        go_loop [5] (fun t => ∃ i : Nat, k ≤ i ∧ i ≤ 32 ∧ t = .int .i64 i ∧ ∀ j (hj : j < 32), k ≤ j → j < i → n.1[j]'(by rw [n.2]; exact hj) = 0) (fun t => 32 - (zOf t).toNat)
        case atStart => exact ⟨k, by omega, by omega, rfl, fun j _ h1 h2 => by omega⟩
        case round =>
          obtain ⟨i, hi1, hi2, rfl, hz⟩ := hrel
          have HZ := Lib.hid hz
          clear hz
          have c0 : (0 : Int) ≤ (i : Int) := by omega
          by_cases hil : i < 32
          · have c1 : (i : Int) < 32 := by omega
            have hci := HC.out i hil
            by_cases hi0 : n.1[i]'(by rw [n.2]; exact hil) = 0
            · have hz : ((n.1[i]'(by rw [n.2]; exact hil)).toNat : Int) = 0 := by rw [hi0]; rfl
              rw [hz] at hci
              have HZ2 : Hid (∀ j (hj : j < 32), k ≤ j → j < i + 1 → n.1[j]'(by rw [n.2]; exact hj) = 0) := Lib.hid (fun j h h1 h2 => by
                by_cases e : j = i
                · subst e; exact hi0
                · exact HZ.out j h h1 (by omega))
              clear hz hi0
              go_wp2
              go_round
              case rel => exact ⟨i + 1, by omega, by omega, by go_num, HZ2.out⟩
              case measure => simp [zOf]; omega
            · have hb : (((n.1[i]'(by rw [n.2]; exact hil)).toNat : Int) != 0) = true := by
                rw [bne_iff_ne]
                intro e
                exact hi0 (UInt8.toNat_inj.1 (by simpa using e))
              have hg := Lib.hid (goodN_no hil (by rw [HL.out]; exact hi1) hi0)
              clear hi0
              go_wp2
              go_ret2
              unfold GoodPost goodS
              rw [hg.out]
              exact ⟨rfl, HM.out⟩
          · obtain rfl : i = 32 := by omega
            have HG : Hid ((k = 0 → goodN n = false ∧ txt n = ⟨#[]⟩) ∧ (1 ≤ k → goodN n = true)) := Lib.hid ⟨fun e => goodN_nil (by rw [HL.out, e]), fun e => goodN_yes (by rw [HL.out]; exact e) (fun j hj hc => HZ.out j hj (by rw [HL.out] at hc; exact hc) hj)⟩
            by_cases hk0 : k = 0
            · subst hk0
              obtain ⟨g1, g2⟩ := HG.out.1 rfl
              have G1 := Lib.hid (And.intro g1 g2)
              clear g1 g2
              go_wp2
              go_ret2
              unfold GoodPost goodS
              rw [G1.out.1, G1.out.2]
              exact ⟨rfl, HM.out⟩
            · have g1 := Lib.hid (HG.out.2 (by omega))
              have hkp : (0 : Int) < (k : Int) := by omega
              have hkq : (k : Int) ≤ 32 := by omega
              have hkd : decide (0 < k) = true := decide_eq_true (by omega)
              clear hk0
              go_wp2
              go_ret2
              unfold GoodPost goodS
              rw [g1.out]
              exact ⟨rfl, HM.out⟩
        -- END1
      · have hz : (((n.1[k]'(by rw [n.2]; exact hlt)).toNat : Int) != 0) = true := by
          rw [bne_iff_ne]
          intro e
          exact h0 (UInt8.toNat_inj.1 (by simpa using e))
        have HN2 : Hid (∀ j (hj : j < 32), j < k + 1 → n.1[j]'(by rw [n.2]; exact hj) ≠ 0) := Lib.hid (fun j h hj => by
          by_cases e : j = k
          · subst e; exact h0
          · exact HN.out j h (by omega))
        clear h0
        go_wp2
        go_round
        case rel => exact ⟨k + 1, by omega, by go_num, HN2.out⟩
        case measure => simp [zOf]; omega
    · obtain rfl : k = 32 := by omega
      have HL := Lib.hid ((cutN_all (l := n.1) (fun j hj => HN.out j (by have := n.2; omega) (by have := n.2; omega))).trans n.2)
      clear hlt hk
      -- WAY2
      have hcv := take_conv HR.out (k := 32) (by omega) HL.out
      go_wp2_with fail
      go_loop [5] (fun t => ∃ i : Nat, 32 ≤ i ∧ i ≤ 32 ∧ t = .int .i64 i ∧ ∀ j (hj : j < 32), 32 ≤ j → j < i → n.1[j]'(by rw [n.2]; exact hj) = 0) (fun t => 32 - (zOf t).toNat)
      case atStart => exact ⟨32, by omega, by omega, rfl, fun j _ h1 h2 => by omega⟩
      case round =>
        obtain ⟨i, hi1, hi2, rfl, hz⟩ := hrel
        have HZ := Lib.hid hz
        clear hz
        have c0 : (0 : Int) ≤ (i : Int) := by omega
        by_cases hil : i < 32
        · have c1 : (i : Int) < 32 := by omega
          have hci := HC.out i hil
          by_cases hi0 : n.1[i]'(by rw [n.2]; exact hil) = 0
          · have hz : ((n.1[i]'(by rw [n.2]; exact hil)).toNat : Int) = 0 := by rw [hi0]; rfl
            rw [hz] at hci
            have HZ2 : Hid (∀ j (hj : j < 32), 32 ≤ j → j < i + 1 → n.1[j]'(by rw [n.2]; exact hj) = 0) := Lib.hid (fun j h h1 h2 => by
              by_cases e : j = i
              · subst e; exact hi0
              · exact HZ.out j h h1 (by omega))
            clear hz hi0
            go_wp2
            go_round
            case rel => exact ⟨i + 1, by omega, by omega, by go_num, HZ2.out⟩
            case measure => simp [zOf]; omega
          · have hb : (((n.1[i]'(by rw [n.2]; exact hil)).toNat : Int) != 0) = true := by
              rw [bne_iff_ne]
              intro e
              exact hi0 (UInt8.toNat_inj.1 (by simpa using e))
            have hg := Lib.hid (goodN_no hil (by rw [HL.out]; exact hi1) hi0)
            clear hi0
            go_wp2
            go_ret2
            unfold GoodPost goodS
            rw [hg.out]
            exact ⟨rfl, HM.out⟩
        · obtain rfl : i = 32 := by omega
          have HG : Hid ((32 = 0 → goodN n = false ∧ txt n = ⟨#[]⟩) ∧ (1 ≤ 32 → goodN n = true)) := Lib.hid ⟨fun e => goodN_nil (by rw [HL.out, e]), fun e => goodN_yes (by rw [HL.out]; exact e) (fun j hj hc => HZ.out j hj (by rw [HL.out] at hc; exact hc) hj)⟩
          have g1 := Lib.hid (HG.out.2 (by omega))
          go_wp2
          go_ret2
          unfold GoodPost goodS
          rw [g1.out]
          exact ⟨rfl, HM.out⟩
      -- END2
end Go.Proofs.Ytbfnmgjpkieaoaa.Tb
