/-
  The contract of Renumber: each handle is for its node's new number, or is closed where it has none.
-/
import Derived.Test.YtmennobdgfgjaaaHandCalls
import Derived.IntWalk
namespace Go.Proofs.Ytmennobdgfgjaaa
open Go Go.RowKit Go.Maps

def RenPost (w : World) (p m : Nat) (R : List Pr) (last : Int) (to : List Int) (e : Ending) (w' : World) : Prop :=
  e = .returned (.int .i64 ((R.length : Int) - (R.filterMap (ren to)).length)) ∧ Tab w' p m (R.filterMap (ren to)) last ∧ Moves (fun k => k = m) w w'

theorem ren_none_len {to : List Int} {x c : Int} (h : (to.length : Int) < c) : ren to (x, c) = none := by unfold ren; rw [if_neg (by simp; omega)]
theorem ren_none_val {to : List Int} {x : Int} {j : Nat} (h : to.getD j 0 < 1) : ren to (x, (j : Int) + 1) = none := by
  unfold ren
  rw [if_neg]
  rintro ⟨_, h2⟩
  simp at h2
  rw [List.getD_eq_getElem?_getD] at h
  omega
theorem ren_some {to : List Int} {x : Int} {j : Nat} (hj : j < to.length) (h : 1 ≤ to.getD j 0) : ren to (x, (j : Int) + 1) = some (x, to.getD j 0) := by
  unfold ren
  have : ((j : Int) + 1 - 1).toNat = j := by omega
  simp only [this]
  rw [if_pos ⟨by omega, h⟩]

set_option maxRecDepth 100000 in
set_option maxHeartbeats 2000000 in
theorem renumber_any {w : World} {p m : Nat} {R : List Pr} {last : Int} {to : List Int} {v : Value} {L : Nat → Prop} (hT : Tab w p m R last) (hr : Row w L v (to.map encZ)) (hL : ∀ i, L i → i ≠ m) (hto : ∀ x ∈ to, iw x) (hlen : to.length ≤ 9223372036854775807) :
    Calls Try.prog 17 #[.pointer (some ⟨p, 0, none⟩), v] w (RenPost w p m R last to) := by
  have c0 := hT.c0
  have hown := hT.map
  have hpm := hT.ne
  have hpl := hT.lt
  have hml := hown.lt
  have hR := hT.ok
  obtain ⟨A, cap, rfl, hcap, hcells⟩ := hr
  have hsz : Maps.size (dat R : DataW Unit) = R.length := size_dat R
  simp only [List.length_map] at hcells hcap ⊢
  go_enter Try.func17, Try.ntmps17
  have Hs := Lib.hid hsz
  clear hsz
  go_wp2_with (first
    | (at_len; refine wpList_len_own _ rfl _ 76 rfl 3 3 Try.underlying76 _ m R.length (dat R) rfl hown ?_)
    | (at_range; refine wpList_range_own _ rfl _ 76 rfl 3 3 law3 Try.underlying76 _ m R.length _ rfl hown ?_; intro w0 hrg0 hg0 hs0)
    | go_in)
  go_frame
  have hm0 : Moves (fun k => k = m) w w0 := Moves.of_grown hg0 (fun k e => by cases e)
  have Hs0 := Lib.hid hs0
  clear hs0 hg0 c0
  go_loopw [6, 7, 18] (fun _ _ _ wr => ∃ (left : Lit → Bool) (cnt : Nat), wr.ranges Try.prog 3 RI m w.heap.size R.length (dat (R.filterMap (renL to left))) left cnt ∧ Moves (fun k => k = m) w wr)
    (fun _ _ _ wr => wr.rangeLeft m w.heap.size)
  case atStart => exact ⟨_, _, by rw [renL_has0]; exact hrg0, hm0⟩
  case round =>
    obtain ⟨left, cnt, hrg, hmw⟩ := hrel
    clear hrg0 hm0
    go_wp2_with (first
      | (at_next; refine wpList_next_ranges_ii _ rfl _ rfl 3 3 .i64 .i64 law3 Try.underlying3 Try.underlying3 m w.heap.size R.length _ _ _ rfl hrg ?_ ?_)
      | go_in)
    · intro _ hl0
      have hown1 := hrg.owns
      rw [renL_end to hl0] at hown1
      have c0 : wr.cell? ⟨p, 0, none⟩ = some (.map (some m)) := (hmw.cell (p := ⟨p, 0, none⟩) hpl (fun e => hpm e.symm)).trans hT.c0
      have hle : (R.filterMap (ren to)).length ≤ R.length := List.length_filterMap_le _ _
      have h256 := hR.len
      have hsz1 : Maps.size (dat (R.filterMap (ren to)) : DataW Unit) = (R.filterMap (ren to)).length := size_dat _
      have Hs1 := Lib.hid hsz1
      have hb1 : Maps.size (dat (R.filterMap (ren to)) : DataW Unit) ≤ 256 := by omega
      have hb0 : Maps.size (dat R : DataW Unit) ≤ 256 := by have := Hs.out; omega
      clear hsz1 hle h256
      go_wp2_with (first
        | (at_len; refine wpList_len_own _ rfl _ 76 rfl 3 3 Try.underlying76 _ m R.length _ rfl hown1 ?_)
        | go_in)
      go_ret
      refine ⟨?_, Tab.tight (n := R.length) ((hmw.block p hpl (fun e => hpm e.symm)).trans hT.blk) hown1 (hR.ren (fun x hx => (iw_lo (hto x hx)).2)), hmw⟩
      rw [← Hs.out, ← Hs1.out]
      rfl
    · intro x c w1 cnt1 hwx hwc hlx hat hrg1 hlt hg1 hs1 hen
      have hmem : (x, c) ∈ R := renL_look hlx (look_of_at hat)
      have hnode := hR.node _ hmem
      have hm1 : Moves (fun k => k = m) w w1 := hmw.grown hg1 (fun k e hk => by cases e; omega)
      have c0 : w1.cell? ⟨p, 0, none⟩ = some (.map (some m)) := (hm1.cell (p := ⟨p, 0, none⟩) hpl (fun e => hpm e.symm)).trans hT.c0
      have hkey := keyOf_int_mk Try.underlying3 hwx
      clear hs1 hg1 hat
      obtain ⟨j, rfl⟩ : ∃ j : Nat, c = (j : Int) + 1 := ⟨(c - 1).toNat, by have := hnode.1; simp at this; omega⟩
      have hj1 : (j : Int) + 1 ≤ 9223372036854775807 := hnode.2
      clear hnode
      by_cases hlc : (to.length : Int) < (j : Int) + 1
      · have hno : ren to (x, (j : Int) + 1) = none := ren_none_len hlc
        go_wp2_with (first
          | (at_delete; refine wpList_delete_ranges _ rfl _ _ 76 3 rfl 3 law3 Try.underlying76 _ m w.heap.size R.length _ _ _ rfl hrg1 _ _ rfl hkey ?_; intro w2 cnt2 hrg2 hle hturn; go_frame)
          | go_in)
        rw [strike_twice, del_dat, renL_gone to left hR.rise hmem hno] at hrg2
        go_roundw
        case rel => exact ⟨_, cnt2, hrg2, hm1.turned hturn (fun _ => rfl)⟩
        case measure => rw [hrg2.left_eq, hrg.left_eq]; omega
      · have hjl : j < to.length := by omega
        obtain ⟨g, o, rfl, hLg, hgl, hcell⟩ := hcells (by omega)
        have hv1 : w1.cell? ⟨g, o + j, none⟩ = some (.int .i64 (to.getD j 0)) :=
          (hm1.cell (p := ⟨g, o + j, none⟩) hgl (hL g hLg)).trans (hcell j _ (by rw [List.getElem?_map, List.getElem?_eq_getElem hjl, List.getD_eq_getElem?_getD, List.getElem?_eq_getElem hjl]; rfl))
        have hd : iw (to.getD j 0) := by rw [List.getD_eq_getElem?_getD, List.getElem?_eq_getElem hjl]; exact hto _ (List.getElem_mem hjl)
        clear hcell hcells
        generalize hdv : to.getD j 0 = d at hv1 hd
        have Hd := Lib.hid hdv
        clear hdv
        by_cases hd1 : d < 1
        · have hno : ren to (x, (j : Int) + 1) = none := ren_none_val (by rw [Hd.out]; exact hd1)
          go_wp2_with (first
            | (at_delete; refine wpList_delete_ranges _ rfl _ _ 76 3 rfl 3 law3 Try.underlying76 _ m w.heap.size R.length _ _ _ rfl hrg1 _ _ rfl hkey ?_; intro w2 cnt2 hrg2 hle hturn; go_frame)
            | go_in)
          rw [strike_twice, del_dat, renL_gone to left hR.rise hmem hno] at hrg2
          go_roundw
          case rel => exact ⟨_, cnt2, hrg2, hm1.turned hturn (fun _ => rfl)⟩
          case measure => rw [hrg2.left_eq, hrg.left_eq]; omega
        · have hyes : ren to (x, (j : Int) + 1) = some (x, d) := by rw [← Hd.out]; exact ren_some hjl (by rw [Hd.out]; omega)
          have hd2 : decide (d < 1) = false := by simpa using hd1
          have Hy := Lib.hid hyes
          clear hd1 hyes
          go_wp2_with fail
          have hwr : IntKind.i64.wrap (j : Int) = j := IntWalk.i64_in _ (by omega)
          go_still_tail 10, (by kernel_rfl)
          change wpList _ _ _ _ _ w1.drew
          have hrg2 : w1.drew.ranges Try.prog 3 RI m w.heap.size R.length (dat (R.filterMap (renL to left))) (fun z => left z && !z.sameKey (.int .i64 x)) cnt1 := hrg1
          have hm2 : Moves (fun k => k = m) w w1.drew := hm1.drew
          have hin : Maps.has (dat (R.filterMap (renL to left)) : DataW Unit) (kI x) = true := by rw [has_dat]; exact renL_has hmem hlx
          refine wpList_store_ranges _ rfl _ _ _ 76 rfl 3 3 law3 Try.underlying76 _ m w.heap.size R.length _ _ _ rfl hrg2 _ _ _ rfl rfl hkey _ [] (plainElem_int Try.underlying3 hd) hin ?_
          intro w3 hrg3 hturn3
          have hm3 := hm2.turned hturn3 (fun _ => rfl)
          rw [show (Lit.int .i64 x) = kI x from rfl, show (Lit.int .i64 d) = kI d from rfl, put_there x d _ (hR.rise.filterMap (fun _ _ => renL_key)) (renL_has hmem hlx), renL_turned to left hR.rise hmem hlx Hy.out] at hrg3
          clear hrg1 hm1 hrg2 hm2 hturn3 hin hv1 hen hwr
          go_frame
          go_wp2
          go_roundw
          case rel => exact ⟨_, cnt1, hrg3, hm3⟩
          case measure => rw [hrg3.left_eq, hrg.left_eq]; omega
end Go.Proofs.Ytmennobdgfgjaaa
