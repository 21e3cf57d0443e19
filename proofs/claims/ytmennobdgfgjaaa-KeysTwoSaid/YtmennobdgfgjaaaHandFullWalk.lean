/-
  The walk of HandFull: as many handles as may be open; one more is refused.
-/
import Derived.Test.YtmennobdgfgjaaaHandKnown
namespace Go.Proofs.Ytmennobdgfgjaaa
open Go Go.RowKit Go.Maps Go.Sort Go.Shelf Go.Proofs

def rowN (n : Nat) : List Pr := (List.range n).map fun (j : Nat) => ((j : Int) + 1, (j : Int) + 1)
theorem rowN_len (n : Nat) : (rowN n).length = n := by simp [rowN]
theorem rowN_succ (n : Nat) : rowN (n + 1) = rowN n ++ [((n : Int) + 1, (n : Int) + 1)] := by simp [rowN, List.range_succ]

def LawPost (w : World) (e : Ending) (w' : World) : Prop := e = .returned (.bool true) ∧ Moves (fun _ => False) w w'

section
variable {w : World} {p m : Nat} {R : List Pr} {last : Int}
theorem for_full {node : Int} (hT : Tab w p m R last) (hl : least R node = none) (hn : 1 ≤ node) (h256 : 256 ≤ R.length) :
    Calls Try.prog 15 #[.pointer (some ⟨p, 0, none⟩), .int .i64 node] w (fun e w' => e = .returned (.tuple #[.int .i64 0, .int .i64 6]) ∧ Moves (fun _ => False) w w') :=
  (for_any (a := 0) (b := 6) (Q := fun w1 w2 => w1 = w2) hT (fun _ w1 hT1 => (open_full hT1 hn h256).mono fun _ _ ⟨he, h⟩ => ⟨he, h⟩)).mono fun e w' h => by
    rcases h with ⟨y, hy, _⟩ | ⟨_, he, w1, hm, rfl⟩
    · rw [hl] at hy; cases hy
    · exact ⟨he, hm⟩
theorem open_eq {node last' : Int} {R' : List Pr} (hT : Tab w p m R last) (hn : 1 ≤ node) (hn' : iw node) (hl : R.length < 256) (h1 : last < 1000000) (hR : R ++ [(last + 1, node)] = R') (hla : last + 1 = last') :
    Calls Try.prog 14 #[.pointer (some ⟨p, 0, none⟩), .int .i64 node] w (fun e w' => e = .returned (.tuple #[.int .i64 last', .int .i64 0]) ∧ Tab w' p m R' last' ∧ Moves (Own2 p m) w w') :=
  (open_ok hT hn hn' hl h1).mono fun _ _ ⟨he, h', hm⟩ => ⟨by rw [he, hla], by rw [← hR, ← hla]; exact h', hm⟩
end

set_option maxRecDepth 100000 in
set_option maxHeartbeats 2000000 in
theorem hand_full (a0 : Int) (w0 : (Lit.int .u8 a0).wf = true) (w : World) : Calls Try.prog 3 #[.int .u8 a0] w (LawPost w) := by
  have hx : 0 ≤ a0 ∧ a0 ≤ 255 := by simpa [Lit.wf, IntKind.min, IntKind.max, IntKind.signed, IntKind.bits] using w0
  clear w0
  go_enter Try.func3, Try.ntmps3
  go_wp2_with fail
  refine (hand_known w).mono ?_
  rintro e w1 ⟨rfl, hM⟩
  go_wp2_with fail
  refine (new_ex w1).mono ?_
  rintro e w2 ⟨p, m, rfl, hT, hp, hm, hM2⟩
  have hp' : w.heap.size ≤ p := Nat.le_trans hM.size hp
  have hm' : w.heap.size ≤ m := Nat.le_trans hM.size hm
  replace hM := hM.trans hM2
  clear hM2 hp hm
  have hq : 0 ≤ a0 % 8 ∧ a0 % 8 ≤ 7 := by omega
  go_wp2_with fail
  go_loopw [4] (fun t wr => ∃ n : Nat, (n : Int) ≤ 256 + a0 % 8 ∧ t = .int .i64 ((n : Int) + 1) ∧ Tab wr p m (rowN (min n 256)) (min n 256 : Nat) ∧ Moves (fun _ => False) w wr) (fun t _ => 300 - (intOf t).toNat)
  case atStart => exact ⟨0, by omega, rfl, hT, hM⟩
  case round =>
    obtain ⟨n, hn, rfl, hTn, hMn⟩ := hrel
    clear hT hM
    by_cases h1 : n < 256
    · have hR : rowN (min n 256) ++ [(((min n 256 : Nat) : Int) + 1, (n : Int) + 1)] = rowN (min (n + 1) 256) := by
        rw [show min n 256 = n by omega, show min (n + 1) 256 = n + 1 by omega, rowN_succ]
      have hc := open_eq hTn (node := (n : Int) + 1) (last' := (n : Int) + 1) (by omega) (iw_of (by omega) (by omega)) (by rw [rowN_len]; omega) (by omega) hR (by omega)
      have Hc := Lib.hid hc
      clear hc hR
      go_wp2_with fail
      refine Hc.out.mono ?_
      rintro e w3 ⟨rfl, hT3, hm3⟩
      have hM3 := hMn.own hm3 hp' hm'
      have hk : ((min n 256 : Nat) : Int) + 1 = ((min (n + 1) 256 : Nat) : Int) := by omega
      have Hk := Lib.hid hk
      clear hk hm3 hTn hMn
      have hle : (n : Int) + 1 ≤ 256 := by omega
      go_wp2
      go_roundw
      case rel => exact ⟨n + 1, by omega, by go_num, by have := hT3; rwa [show ((n : Int) + 1) = ((min (n + 1) 256 : Nat) : Int) by omega] at this, hM3⟩
      case measure => simp [intOf]; omega
    · have hmin : min n 256 = 256 := by omega
      rw [hmin] at hTn
      clear hmin
      by_cases h2 : (n : Int) + 1 ≤ 256 + a0 % 8
      · have hc := open_full hTn (node := (n : Int) + 1) (by omega) (by rw [rowN_len]; omega)
        have Hc := Lib.hid hc
        clear hc
        go_wp2_with fail
        refine Hc.out.mono ?_
        rintro e w3 ⟨rfl, rfl⟩
        have hle : ¬ (n : Int) + 1 ≤ 256 := by omega
        go_wp2
        go_roundw
        case rel => exact ⟨n + 1, by omega, by go_num, by rw [show min (n + 1) 256 = 256 by omega]; exact hTn, hMn⟩
        case measure => simp [intOf]; omega
      · have hl7 : least (rowN 256) 7 = some 7 := by decide +kernel
        have hl9 : least (rowN 256) 999 = none := by decide +kernel
        have hb9 : hasK (rowN 256) 9 = true := by decide +kernel
        have hlen : ((rowN 256).filter (fun q => !(q.1 == 9))).length < 256 := by decide +kernel
        have H7 := Lib.hid hl7
        have H9 := Lib.hid hl9
        have Hb := Lib.hid hb9
        have Hl := Lib.hid hlen
        clear hl7 hl9 hb9 hlen
        go_wp2_with fail
        refine (for_found (x := 7) hTn H7.out).mono ?_
        rintro e w3 ⟨rfl, hm3⟩
        have hT3 := hTn.moves hm3 (fun h => h) (fun h => h)
        have hM3 := hMn.trans hm3
        clear hTn hMn hm3
        go_wp2_with fail
        refine (for_full hT3 H9.out (by omega) (by rw [rowN_len]; omega)).mono ?_
        rintro e w4 ⟨rfl, hm4⟩
        have hT4 := hT3.moves hm4 (fun h => h) (fun h => h)
        have hM4 := hM3.trans hm4
        clear hT3 hM3 hm4
        go_wp2_with fail
        refine (close_eq (b := true) hT4 (by decide) Hb.out rfl).mono ?_
        rintro e w5 ⟨rfl, hT5, hm5⟩
        have hM5 := hM4.own hm5 hp' hm'
        clear hT4 hM4 hm5
        go_wp2_with fail
        refine (open_eq (last' := 257) hT5 (by omega) (by decide) Hl.out (by omega) rfl rfl).mono ?_
        rintro e w6 ⟨rfl, hT6, hm6⟩
        have hM6 := hM5.own hm6 hp' hm'
        clear hT5 hM5 hm6 hT6
        go_wp2
        go_ret
        exact ⟨rfl, hM6⟩
end Go.Proofs.Ytmennobdgfgjaaa
