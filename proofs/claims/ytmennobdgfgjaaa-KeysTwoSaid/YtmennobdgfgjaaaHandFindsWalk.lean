/-
  The walk of HandFinds: the least open handle of a node is found, whichever were closed ahead.
-/
import Derived.Test.YtmennobdgfgjaaaHandFullWalk
namespace Go.Proofs.Ytmennobdgfgjaaa
open Go Go.RowKit Go.Maps Go.Sort Go.Shelf Go.Proofs

def hf (j : Nat) : Pr := ((j : Int) + 1, 7)
def idxK (zs : List Bool) (k : Nat) : List Nat := (List.range zs.length).filter fun j => decide (j < k) || !zs.getD j false
def rowK (zs : List Bool) (k : Nat) : List Pr := (idxK zs k).map hf
def row7 (n : Nat) : List Pr := (List.range n).map hf
def wantK (zs : List Bool) (k : Nat) : Int := match (List.range zs.length).find? fun j => decide (k ≤ j) && !zs.getD j false with | some j => (j : Int) + 1 | none => (zs.length : Int) + 1

theorem row7_len (n : Nat) : (row7 n).length = n := by simp [row7]
theorem row7_succ (n : Nat) : row7 (n + 1) = row7 n ++ [((n : Int) + 1, 7)] := by simp [row7, List.range_succ, hf]

theorem idxK_top (zs : List Bool) : idxK zs zs.length = List.range zs.length := by
  unfold idxK
  rw [List.filter_eq_self]
  intro j hj
  simp [List.mem_range.1 hj]
theorem rowK_top (zs : List Bool) : rowK zs zs.length = row7 zs.length := by unfold rowK row7; rw [idxK_top]

theorem rowK_closed {zs : List Bool} {j : Nat} (hj : zs.getD j false = true) : (rowK zs (j + 1)).filter (fun q => !(q.1 == (j : Int) + 1)) = rowK zs j := by
  unfold rowK idxK
  rw [List.filter_map, List.filter_filter]
  congr 1
  refine List.filter_congr fun i _ => ?_
  show ((!(((i : Int) + 1) == (j : Int) + 1)) && (decide (i < j + 1) || !zs.getD i false)) = _
  by_cases e : i = j
  · subst e
    simp only [beq_self_eq_true, Bool.not_true, Bool.false_and]
    rw [hj]
    simp
  · have e1 : (((i : Int) + 1) == (j : Int) + 1) = false := by simp; omega
    rw [e1]
    have e2 : decide (i < j + 1) = decide (i < j) := by simp; omega
    rw [e2]
    simp

theorem rowK_open {zs : List Bool} {j : Nat} (hj : zs.getD j false = false) : rowK zs (j + 1) = rowK zs j := by
  unfold rowK idxK
  congr 1
  refine List.filter_congr fun i _ => ?_
  by_cases e : i = j
  · subst e
    rw [hj]
    simp
  · have e2 : decide (i < j + 1) = decide (i < j) := by simp; omega
    rw [e2]

theorem rowK_has {zs : List Bool} {j : Nat} (hj : j < zs.length) : hasK (rowK zs (j + 1)) ((j : Int) + 1) = true := by
  unfold hasK rowK idxK
  rw [List.any_eq_true]
  exact ⟨hf j, List.mem_map.2 ⟨j, List.mem_filter.2 ⟨List.mem_range.2 hj, by simp⟩, rfl⟩, by simp [hf]⟩

theorem wantK_top (zs : List Bool) : wantK zs zs.length = (zs.length : Int) + 1 := by
  unfold wantK
  rw [List.find?_eq_none.2]
  intro j hj
  have := List.mem_range.1 hj
  simp
  omega

theorem wantK_closed {zs : List Bool} {j : Nat} (hj : zs.getD j false = true) : wantK zs (j + 1) = wantK zs j := by
  unfold wantK
  congr 2
  funext i
  by_cases e : i = j
  · subst e
    rw [hj]
    simp
  · have e2 : decide (j + 1 ≤ i) = decide (j ≤ i) := by simp; omega
    rw [e2]

theorem wantK_open {zs : List Bool} {j : Nat} (hl : j < zs.length) (hj : zs.getD j false = false) : wantK zs j = (j : Int) + 1 := by
  unfold wantK
  have : (List.range zs.length).find? (fun i => decide (j ≤ i) && !zs.getD i false) = some j := by
    rw [List.find?_eq_some_iff_getElem]
    refine ⟨by rw [hj]; simp, j, by simpa using hl, by simp, fun i hi => ?_⟩
    simp
    omega
  rw [this]

theorem head_least (zs : List Bool) : least (rowK zs 0) 7 = ((List.range zs.length).find? fun j => decide (0 ≤ j) && !zs.getD j false).map fun (j : Nat) => (j : Int) + 1 := by
  unfold least rowK idxK
  have h1 : ∀ l : List Nat, (l.map hf).find? (fun p => p.2 == 7) = l.head?.map hf := fun l => by
    cases l with
    | nil => rfl
    | cons a r => simp [hf]
  have e : (fun j => decide (j < 0) || !zs.getD j false) = (fun j => decide (0 ≤ j) && !zs.getD j false) := by funext j; simp
  rw [h1, List.head?_filter, e]
  cases (List.range zs.length).find? (fun j => decide (0 ≤ j) && !zs.getD j false) <;> rfl

theorem rowK_len (zs : List Bool) (k : Nat) : (rowK zs k).length ≤ zs.length := by
  unfold rowK idxK
  have := List.length_filter_le (fun j => decide (j < k) || !zs.getD j false) (List.range zs.length)
  simpa using this

section
variable {w : World} {p m : Nat} {R : List Pr} {last : Int}
theorem for_open {node last' : Int} (hT : Tab w p m R last) (hl : least R node = none) (hn : 1 ≤ node) (hn' : iw node) (h256 : R.length < 256) (h1 : last < 1000000) (hla : last + 1 = last') :
    Calls Try.prog 15 #[.pointer (some ⟨p, 0, none⟩), .int .i64 node] w (fun e w' => e = .returned (.tuple #[.int .i64 last', .int .i64 0]) ∧ Tab w' p m (R ++ [(last', node)]) last' ∧ Moves (Own2 p m) w w') :=
  (for_any (a := last') (b := 0) (Q := fun w1 w2 => Tab w2 p m (R ++ [(last', node)]) last' ∧ Moves (Own2 p m) w1 w2) hT (fun _ w1 hT1 => (open_eq hT1 hn hn' h256 h1 (by rw [hla]) hla).mono fun _ _ ⟨he, h⟩ => ⟨he, h⟩)).mono fun e w' h => by
    rcases h with ⟨y, hy, _⟩ | ⟨_, he, w1, hm, hT2, hm2⟩
    · rw [hl] at hy; cases hy
    · exact ⟨he, hT2, (hm.none _).trans hm2⟩
end

set_option maxRecDepth 100000 in
set_option maxHeartbeats 4000000 in
theorem hand_finds {v : Value} {zs : List Bool} (w : World) (hr : Row w (fun i => i < w.heap.size) v (zs.map Value.bool)) : Calls Try.prog 5 #[v] w (LawPost w) := by
  obtain ⟨A, cap, rfl, hcap, hcells⟩ := hr
  simp only [List.length_map] at hcells hcap ⊢
  by_cases h0 : zs.length = 0
  · have e0 : ((zs.length : Int) == 0) = true := by simpa using h0
    clear h0 hcells
    go_enter Try.func5, Try.ntmps5
    go_wp2_with fail
    refine (hand_known w).mono ?_
    rintro e w1 ⟨rfl, hM⟩
    go_wp2
    go_ret
    exact ⟨rfl, hM⟩
  by_cases h1 : 100 < zs.length
  · have e0 : ((zs.length : Int) == 0) = false := by simpa using h0
    have e1 : (100 : Int) < zs.length := by omega
    clear h0 hcells
    go_enter Try.func5, Try.ntmps5
    go_wp2_with fail
    refine (hand_known w).mono ?_
    rintro e w1 ⟨rfl, hM⟩
    go_wp2
    go_ret
    exact ⟨rfl, hM⟩
  have e0 : ((zs.length : Int) == 0) = false := by simpa using h0
  have e1 : ¬ (100 : Int) < zs.length := by omega
  have h100 : zs.length ≤ 100 := by omega
  clear h0 h1
  go_enter Try.func5, Try.ntmps5
  go_wp2_with fail
  refine (hand_known w).mono ?_
  rintro e w1 ⟨rfl, hM⟩
  go_wp2_with fail
  refine (new_ex w1).mono ?_
  rintro e w2 ⟨p, m, rfl, hT, hp, hm, hM2⟩
  have hp' : w.heap.size ≤ p := Nat.le_trans hM.size hp
  have hm' : w.heap.size ≤ m := Nat.le_trans hM.size hm
  replace hM := hM.trans hM2
  clear hM2 hp hm
  go_wp2_with fail
  go_loopw [4] (fun t wr => ∃ n : Nat, n ≤ zs.length ∧ t = .int .i64 n ∧ Tab wr p m (row7 n) n ∧ Moves (fun _ => False) w wr) (fun t _ => zs.length - (intOf t).toNat)
  case atStart => exact ⟨0, Nat.zero_le _, rfl, hT, hM⟩
  case round =>
    obtain ⟨n, hn, rfl, hTn, hMn⟩ := hrel
    clear hT hM
    by_cases hlt : n < zs.length
    · have hc := open_eq hTn (node := 7) (last' := ((n + 1 : Nat) : Int)) (by omega) (by decide) (by rw [row7_len]; omega) (by omega) (row7_succ n).symm (by omega)
      have Hc := Lib.hid hc
      clear hc
      go_wp2_with fail
      refine Hc.out.mono ?_
      rintro e w3 ⟨rfl, hT3, hm3⟩
      have hM3 := hMn.own hm3 hp' hm'
      clear hm3 hTn hMn
      go_wp2
      go_roundw
      case rel => exact ⟨n + 1, by omega, by go_num, hT3, hM3⟩
      case measure => simp [intOf]; omega
    · obtain rfl : n = zs.length := by omega
      rw [← rowK_top] at hTn
      go_wp2_with fail
      obtain ⟨wo, hwo⟩ : ∃ wo : World, wo = wr := ⟨_, rfl⟩
      rw [← hwo] at hTn hMn ⊢
      clear hwo wr
      go_loopw [5, 6] (fun q t wr => ∃ k : Nat, k ≤ zs.length ∧ t = .int .i64 ((k : Int) - 1) ∧ q = .int .i64 (wantK zs k) ∧ Tab wr p m (rowK zs k) zs.length ∧ Moves (fun _ => False) w wr) (fun _ t _ => (intOf t + 1).toNat)
      case atStart => exact ⟨zs.length, Nat.le_refl _, rfl, by rw [wantK_top], hTn, hMn⟩
      case round =>
        obtain ⟨k, hk, rfl, rfl, hTk, hMk⟩ := hrel
        clear hTn hMn
        cases k with
        | zero =>
          rw [show (((0 : Nat) : Int) - 1) = -1 from rfl]
          have hw0 : wantK zs 0 = match (List.range zs.length).find? (fun j => decide (0 ≤ j) && !zs.getD j false) with | some j => (j : Int) + 1 | none => (zs.length : Int) + 1 := rfl
          have hl0 := head_least zs
          cases hf0 : (List.range zs.length).find? (fun j => decide (0 ≤ j) && !zs.getD j false) with
          | some j =>
            rw [hf0] at hl0 hw0
            have hl1 : least (rowK zs 0) 7 = some ((j : Int) + 1) := hl0
            have hw1 : wantK zs 0 = (j : Int) + 1 := hw0
            rw [hw1]
            have hc := for_found (x := (j : Int) + 1) hTk hl1
            have Hc := Lib.hid hc
            clear hc hf0 hl0 hw0 hl1 hw1 hcells
            go_wp2_with fail
            refine Hc.out.mono ?_
            rintro e w4 ⟨rfl, hm4⟩
            have hM4 := hMk.trans hm4
            clear hm4 hMk hTk
            go_wp2
            go_ret
            exact ⟨rfl, hM4⟩
          | none =>
            rw [hf0] at hl0 hw0
            have hl1 : least (rowK zs 0) 7 = none := hl0
            have hw1 : wantK zs 0 = (zs.length : Int) + 1 := hw0
            rw [hw1]
            have hlen := rowK_len zs 0
            have hc := for_open (node := 7) (last' := (zs.length : Int) + 1) hTk hl1 (by omega) (by decide) (by omega) (by omega) rfl
            have Hc := Lib.hid hc
            clear hc hf0 hl0 hw0 hl1 hw1 hcells hlen
            go_wp2_with fail
            refine Hc.out.mono ?_
            rintro e w4 ⟨rfl, hT4, hm4⟩
            have hM4 := hMk.own hm4 hp' hm'
            clear hm4 hMk hTk hT4
            go_wp2
            go_ret
            exact ⟨rfl, hM4⟩
        | succ j =>
          rw [show (((j + 1 : Nat) : Int) - 1) = j by omega]
          obtain ⟨g, o, rfl, hg, hgl, hcell⟩ := hcells (by omega)
          have hv : wr.cell? ⟨g, o + j, none⟩ = some (.bool (zs.getD j false)) :=
            (hMk.cell (p := ⟨g, o + j, none⟩) hgl (fun h => h)).trans (hcell j _ (by rw [List.getElem?_map, List.getElem?_eq_getElem (by omega), List.getD_eq_getElem?_getD, List.getElem?_eq_getElem (by omega)]; rfl))
          clear hcell hcells
          cases hz : zs.getD j false with
          | true =>
            rw [hz] at hv
            have hc := close_eq (h := (j : Int) + 1) (b := true) (R' := rowK zs j) hTk (iw_of (by omega) (by omega)) (rowK_has (by omega)) (rowK_closed hz)
            have Hc := Lib.hid hc
            have hwk := wantK_closed hz
            rw [hwk]
            clear hc hz hwk
            go_wp2_with fail
            refine Hc.out.mono ?_
            rintro e w4 ⟨rfl, hT4, hm4⟩
            have hM4 := hMk.own hm4 hp' hm'
            clear hm4 hMk hTk
            go_wp2
            go_roundw
            case rel => exact ⟨j, by omega, rfl, rfl, hT4, hM4⟩
            case measure => simp [intOf]
          | false =>
            rw [hz] at hv
            have hwk := wantK_open (by omega) hz
            have Hw := Lib.hid hwk
            rw [rowK_open hz] at hTk
            clear hz hwk
            go_wp2
            go_roundw
            case rel => exact ⟨j, by omega, rfl, by rw [Hw.out], hTk, hMk⟩
            case measure => simp [intOf]
end Go.Proofs.Ytmennobdgfgjaaa
