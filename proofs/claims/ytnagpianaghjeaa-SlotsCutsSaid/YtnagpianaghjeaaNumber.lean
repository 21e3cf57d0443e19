/-
  loamref1.Get, loamref6.number.
-/
import Derived.Test.YtnagpianaghjeaaRef6
namespace Go.Proofs.Ytnagpianaghjeaa.Sl
open Go Go.RowKit Go.Proofs

set_option maxRecDepth 100000 in
set_option maxHeartbeats 1000000 in
theorem in1_ok {p n s : Nat} (hl : p + n ≤ s) (hs : s ≤ 1000000) (w : World) : Calls Try.prog 136 #[.int .i64 p, .int .i64 n, .int .i64 s] w (SameV w (.bool true)) := by
  have b3 : (0 : Int) ≤ (p : Int) := by omega
  have b4 : (p : Int) ≤ (s : Int) := by omega
  have b5 : (n : Int) ≤ (s : Int) - (p : Int) := by omega
  have b6 : (s : Int) ≤ 1000000 := by omega
  go_enter Try.func136, Try.ntmps136
  go_wp2
  go_ret
  exact ⟨rfl, rfl⟩
set_option maxRecDepth 100000 in
set_option maxHeartbeats 2000000 in
theorem rget_ok {w : World} {L : Nat → Prop} {v : Value} {bs : List Int} (h : BRow w L v bs) {p n : Nat} (h1 : 1 ≤ n) (h8 : n ≤ 8) (hl : p + n ≤ bs.length) : Calls Try.prog 126 #[v, .int .i64 p, .int .i64 n] w (SameV w (.tuple #[.int .u64 (getL bs p n), .int .i64 0])) := by
  obtain ⟨⟨A, c, rfl, hc, hx⟩, hb, hlen⟩ := h
  rw [List.length_map] at hc hx ⊢
  obtain ⟨g, o, rfl, -, hgl, hcell⟩ := hx (by omega)
  have HC : Hid (∀ j (hj : j < bs.length), w.cell? ⟨g, o + j, none⟩ = some (.int .u8 (bs.getD j 0))) := Lib.hid (fun j hj => hcell j _ (by rw [List.getElem?_map, List.getD_eq_getElem?_getD, List.getElem?_eq_getElem hj]; rfl))
  have HW := Lib.hid (in1_ok hl hlen w)
  have HB := Lib.hid hb
  have n1 : (1 : Int) ≤ (n : Int) := by omega
  have n8 : (n : Int) ≤ 8 := by omega
  clear hx hcell hb
  go_enter Try.func126, Try.ntmps126
  go_wp2_with (first
    | (go_at_call 136
       refine HW.out.mono ?_
       rintro e w1 ⟨rfl, rfl⟩)
    | fail)
  go_loopg [8, 9] n (fun gg s8 s9 wr => ∃ i : Nat, i ≤ n ∧ gg = i ∧ s8 = .int .u64 (getL bs (p + i) (n - i)) ∧ s9 = .int .i64 ((i : Int) - 1) ∧ wr = w)
  case atStart => exact ⟨n, Nat.le_refl _, rfl, by rw [Nat.sub_self]; rfl, rfl, rfl⟩
  case round =>
    obtain ⟨i, hi, hg, rfl, rfl, rfl⟩ := hrel
    by_cases h0 : i = 0
    · subst h0
      go_wp2_with fail
      go_ret2
      exact ⟨rfl, rfl⟩
    · obtain ⟨k, rfl⟩ : ∃ k, i = k + 1 := ⟨i - 1, by omega⟩
      have e1 : (((k + 1 : Nat) : Int) - 1) = (k : Int) := by omega
      have q := HC.out (p + k) (by omega)
      have hx := getD_byte HB.out (p + k)
      have ha := getL_56 HB.out (p + (k + 1)) (n := n - (k + 1)) (by omega)
      have e2 : getL bs (p + k) (n - k) = bs.getD (p + k) 0 + 256 * getL bs (p + (k + 1)) (n - (k + 1)) := by
        rw [show n - k = (n - (k + 1)) + 1 by omega]
        rfl
      have hor := or_u64 ha.1 ha.2 hx.1 hx.2
      have HE := Lib.hid e2
      rw [e1]
      clear e1 e2
      generalize bs.getD (p + k) 0 = x at q hx hor HE
      generalize getL bs (p + (k + 1)) (n - (k + 1)) = a at ha hor HE ⊢
      have b0 : (0 : Int) ≤ (k : Int) := by omega
      have b1 : (k : Int) ≤ 8 := by omega
      have b2 : (p : Int) + (k : Int) < (bs.length : Int) := by omega
      have b3 : (bs.length : Int) ≤ 1000000 := by omega
      have b4 : (0 : Int) ≤ (p : Int) := by omega
      go_wp2_with fail
      go_roundg k
      case measure => omega
      case rel => exact ⟨k, by omega, rfl, by rw [HE.out]; go_num, by go_num, rfl⟩
set_option maxRecDepth 100000 in
set_option maxHeartbeats 2000000 in
theorem number_ok {w : World} {L : Nat → Prop} {v : Value} {bs : List Int} (h : BRow w L v bs) (p n : Nat) (h1 : 1 ≤ n) (h8 : n ≤ 8) (hl : p + n ≤ bs.length) : Calls Try.prog 109 #[v, .int .i64 p, .int .i64 n] w (SameV w (.int .u64 (getL bs p n))) := by
  have HG := Lib.hid (rget_ok h h1 h8 hl)
  obtain ⟨⟨A, c, rfl, -⟩, -⟩ := h
  rw [List.length_map] at HG ⊢
  generalize getL bs p n = x at HG ⊢
  go_enter Try.func109, Try.ntmps109
  go_wp2_with (first | (go_at_call 126; refine HG.out.mono ?_; rintro e w1 ⟨rfl, rfl⟩) | fail)
  go_ret
  exact ⟨rfl, rfl⟩
end Go.Proofs.Ytnagpianaghjeaa.Sl
