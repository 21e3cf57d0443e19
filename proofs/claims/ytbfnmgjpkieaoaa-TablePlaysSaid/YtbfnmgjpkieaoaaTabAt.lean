/-
  TablePlays: the statement's own 'at': a name's place in a row of roots.
-/
import Derived.Test.YtbfnmgjpkieaoaaTabGood
namespace Go.Proofs.Ytbfnmgjpkieaoaa.Tb
open Go Go.RowKit Go.Maps Go.Sort Go.Proofs Go.Shelf

/-- The place of a name in a row, or -1. -/
def AtR (l : List (ByteArray × Int)) (s : ByteArray) (r : Int) : Prop := (∃ (i : Nat) (h : i < l.length), r = i ∧ (l[i]).1 = s) ∨ (r = -1 ∧ ∀ p ∈ l, p.1 ≠ s)
def AtPost (w : World) (l : List (ByteArray × Int)) (s : ByteArray) (e : Ending) (w' : World) : Prop := ∃ r : Int, e = .returned (.int .i64 r) ∧ AtR l s r ∧ w = w'
set_option maxHeartbeats 2000000 in
theorem at_any {w : World} {L : Nat → Prop} {v : Value} {l : List (ByteArray × Int)} (h : RRow w L v l) (hlen : l.length ≤ 1000000) (s : ByteArray) : Calls Try.prog 50 #[v, .string s] w (AtPost w l s) := by
  obtain ⟨A, c, rfl, hc, hx⟩ := h
  go_enter Try.func50, Try.ntmps50
  go_wp2_with fail
  go_loop [5] (fun t => ∃ k : Nat, k ≤ l.length ∧ t = .int .i64 k ∧ ∀ j (h : j < l.length), j < k → (l[j]).1 ≠ s) (fun t => l.length - (zOf t).toNat)
  case atStart => exact ⟨0, Nat.zero_le _, rfl, fun j _ h => by omega⟩
  case round =>
    obtain ⟨k, hk, rfl, hno⟩ := hrel
    have HN := Lib.hid hno
    clear hno
    have b0 : (0 : Int) ≤ (k : Int) := by omega
    by_cases hlt : k < l.length
    · have b1 : (k : Int) < (l.length : Int) := by omega
      obtain ⟨g, o, rfl, -, hgl, hcell⟩ := hx (by omega)
      have hc0 := hcell _ _ (cellsR_get l k hlt).1
      by_cases he : (l[k]).1 = s
      · have hb : ((l[k]).1.toList == s.toList) = true := by rw [he]; exact beq_self_eq_true _
        have HE : Hid (AtR l s k) := Lib.hid (.inl ⟨k, hlt, rfl, he⟩)
        clear he hx hcell
        generalize (l[k]).1 = t at hb hc0
        go_wp2
        go_ret
        exact ⟨k, rfl, HE.out, rfl⟩
      · have hb := toList_ne he
        have HN2 : Hid (∀ j (h : j < l.length), j < k + 1 → (l[j]).1 ≠ s) := Lib.hid (fun j h hj => by
          by_cases e : j = k
          · subst e; exact he
          · exact HN.out j h (by omega))
        clear he hx hcell
        generalize (l[k]).1 = t at hb hc0
        go_wp2
        go_round
        case rel => exact ⟨k + 1, by omega, by go_num, HN2.out⟩
        case measure => simp [zOf]; omega
    · obtain rfl : k = l.length := by omega
      have HE : Hid (AtR l s (-1)) := Lib.hid (.inr ⟨rfl, fun p hp => by
        obtain ⟨j, hj, rfl⟩ := List.mem_iff_getElem.1 hp
        exact HN.out j hj hj⟩)
      clear hx
      go_wp2
      go_ret
      exact ⟨-1, rfl, HE.out, rfl⟩
end Go.Proofs.Ytbfnmgjpkieaoaa.Tb
