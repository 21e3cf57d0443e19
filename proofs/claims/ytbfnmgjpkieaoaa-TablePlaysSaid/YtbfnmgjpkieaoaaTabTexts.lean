/-
  NameTexts: the document's word on a name; the statement's walk.
-/
import Derived.Test.YtbfnmgjpkieaoaaTabKnownW
import Derived.Lib.Strings
namespace Go.Proofs.Ytbfnmgjpkieaoaa.Tb
open Go Go.RowKit Go.Maps Go.Sort Go.Proofs Go.Shelf

theorem ge_of_size {s : ByteArray} {k : Nat} (h : k < s.size) : s.data.toList[k]'h = s[k] := rfl
set_option maxHeartbeats 1000000 in
theorem goodref_any (s : ByteArray) {w : World} (hs : s.size ≤ 1000000) {b : Bool} (hb : decide (GoodT s) = b) : Calls Try.prog 44 #[.string s] w (SameP w (.bool b)) := by
  by_cases h1 : s.size < 1
  · have e : b = false := by rw [← hb]; exact decide_eq_false (fun h => by have := h.1; omega)
    subst e
    have h1' : (s.size : Int) < 1 := by omega
    clear hb
    go_enter Try.func44, Try.ntmps44
    go_wp2
    go_ret
    exact ⟨rfl, rfl⟩
  by_cases h2 : 32 < s.size
  · have e : b = false := by rw [← hb]; exact decide_eq_false (fun h => by have := h.2.1; omega)
    subst e
    have h1' : ¬ (s.size : Int) < 1 := by omega
    have h2' : (32 : Int) < (s.size : Int) := by omega
    clear hb
    go_enter Try.func44, Try.ntmps44
    go_wp2
    go_ret
    exact ⟨rfl, rfl⟩
  have h1' : ¬ (s.size : Int) < 1 := by omega
  have h2' : ¬ (32 : Int) < (s.size : Int) := by omega
  have HB := Lib.hid hb
  have H12 := Lib.hid (And.intro h1 h2)
  clear hb h1 h2
  go_enter Try.func44, Try.ntmps44
  go_wp2_with fail
  go_loop [3] (fun t => ∃ k : Nat, k ≤ s.size ∧ t = .int .i64 k ∧ ∀ j (h : j < s.size), j < k → s[j] ≠ 0) (fun t => s.size - (zOf t).toNat)
  case atStart => exact ⟨0, Nat.zero_le _, rfl, fun j _ h => by omega⟩
  case round =>
    obtain ⟨k, hk, rfl, hno⟩ := hrel
    have HN := Lib.hid hno
    clear hno
    by_cases hlt : k < s.size
    · by_cases h0 : s[k] = 0
      · have e : b = false := by
          rw [← HB.out]
          exact decide_eq_false (fun h => h.2.2 _ (List.getElem_mem (l := s.data.toList) (n := k) hlt) h0)
        subst e
        have h0' : ((s[k].toNat : Int) == 0) = true := by rw [h0]; rfl
        go_wp2
        go_ret
        exact ⟨rfl, rfl⟩
      · have h0' : ((s[k].toNat : Int) == 0) = false := by
          rw [beq_eq_false_iff_ne]
          intro e
          exact h0 (UInt8.toNat_inj.1 (by simpa using e))
        have HN2 : Hid (∀ j (h : j < s.size), j < k + 1 → s[j] ≠ 0) := Lib.hid (fun j h hj => by
          by_cases e : j = k
          · subst e; exact h0
          · exact HN.out j h (by omega))
        clear h0
        go_wp2
        go_round
        case rel => exact ⟨k + 1, by omega, by go_num, HN2.out⟩
        case measure => simp [zOf]; omega
    · obtain rfl : k = s.size := by omega
      have e : b = true := by
        rw [← HB.out]
        refine decide_eq_true ⟨by have := H12.out; omega, by have := H12.out; omega, fun x hx => ?_⟩
        obtain ⟨j, hj, rfl⟩ := List.mem_iff_getElem.1 hx
        exact HN.out j hj hj
      subst e
      go_wp2
      go_ret
      exact ⟨rfl, rfl⟩
end Go.Proofs.Ytbfnmgjpkieaoaa.Tb
