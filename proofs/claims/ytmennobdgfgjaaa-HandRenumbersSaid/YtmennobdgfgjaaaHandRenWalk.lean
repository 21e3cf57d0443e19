/-
  The walk of HandRenumbers: renumbered twice, handles are for what both rows of numbers say one after the other.
-/
import Derived.Test.YtmennobdgfgjaaaHandFullWalk
import Derived.Test.YtmennobdgfgjaaaHandRenPlain
namespace Go.Proofs.Ytmennobdgfgjaaa
open Go Go.RowKit Go.Maps Go.Sort Go.Shelf Go.Proofs

theorem len_long {n : Nat} (h : 60 < n) : (60 : Int) < n := by omega

theorem u8_bd {zs : List Int} (h : ∀ z ∈ zs, (Lit.int .u8 z).wf = true) : ∀ z ∈ zs, 0 ≤ z ∧ z ≤ 255 := fun z hz => by
  simpa [Lit.wf, IntKind.min, IntKind.max, IntKind.signed, IntKind.bits] using h z hz

theorem mod20_wf {zs : List Int} (h : ∀ z ∈ zs, 0 ≤ z ∧ z ≤ 255) : ∀ x ∈ zs.map (· % 20), iw x := fun x hx => by
  obtain ⟨z, hz, rfl⟩ := List.mem_map.1 hx
  have := h z hz
  exact iw_of (by omega) (by omega)

/-- A cell of a row, in a later world. -/
theorem Row.at_ {S L : Nat → Prop} {w w' : World} {A : Option Addr} {n c : Nat} {xs : List Value} (h : Row w L (.slice A n c) xs) (hm : Moves S w w') (hs : ∀ i, L i → i < w.heap.size → ¬ S i) {j : Nat} {u : Value} (hu : xs[j]? = some u) :
    ∃ g o, A = some ⟨g, o, none⟩ ∧ w'.cell? ⟨g, o + j, none⟩ = some u := by
  obtain ⟨A', c', e, _, hx⟩ := h
  cases e
  obtain ⟨g, o, rfl, hg, hgl, hcell⟩ := hx (by have := (List.getElem?_eq_some_iff.1 hu).1; omega)
  exact ⟨g, o, rfl, (hm.cell (p := ⟨g, o + j, none⟩) hgl (hs g hg hgl)).trans (hcell j u hu)⟩

theorem get_map {α β : Type} {f : α → β} {zs : List α} {j : Nat} {d : α} (h : j < zs.length) : (zs.map f)[j]? = some (f (zs.getD j d)) := by
  rw [List.getElem?_map, List.getElem?_eq_getElem h, List.getD_eq_getElem?_getD, List.getElem?_eq_getElem h]
  rfl

def RenLawPost (w : World) (e : Ending) (w' : World) : Prop := e = .returned (.bool true) ∧ Moves (fun _ => False) w w'

set_option maxRecDepth 100000 in
set_option maxHeartbeats 8000000 in
theorem hand_renumbers {v0 v1 v2 : Value} {az bs cs : List Int} (w : World) (hr0 : Row w (fun i => i < w.heap.size) v0 (az.map (Value.int .u8))) (ha : ∀ z ∈ az, 0 ≤ z ∧ z ≤ 255)
    (hr1 : Row w (fun i => i < w.heap.size) v1 (bs.map (Value.int .u8))) (hb : ∀ z ∈ bs, 0 ≤ z ∧ z ≤ 255) (hr2 : Row w (fun i => i < w.heap.size) v2 (cs.map (Value.int .u8))) (hc : ∀ z ∈ cs, 0 ≤ z ∧ z ≤ 255) :
    Calls Try.prog 4 #[v0, v1, v2] w (RenLawPost w) := by
  have hR0 := hr0
  have hR1 := hr1
  have hR2 := hr2
  obtain ⟨A0, c0, rfl, hc0, _⟩ := hr0
  obtain ⟨A1, c1, rfl, hc1, _⟩ := hr1
  obtain ⟨A2, c2, rfl, hc2, _⟩ := hr2
  simp only [List.length_map] at hc0 hc1 hc2 hR0 hR1 hR2 ⊢
  by_cases g0 : 60 < az.length
  · have e0 : (60 : Int) < az.length := by omega
    clear hR0 hR1 hR2
    go_enter Try.func4, Try.ntmps4
    go_wp2_with fail
    refine (hand_known w).mono ?_
    rintro e w1 ⟨rfl, hM⟩
    go_wp2
    go_ret
    exact ⟨rfl, hM⟩
  by_cases g1 : 60 < bs.length
  · have e0 : ¬ (60 : Int) < az.length := by omega
    have e1 : (60 : Int) < bs.length := by omega
    clear hR0 hR1 hR2
    go_enter Try.func4, Try.ntmps4
    go_wp2_with fail
    refine (hand_known w).mono ?_
    rintro e w1 ⟨rfl, hM⟩
    go_wp2
    go_ret
    exact ⟨rfl, hM⟩
  by_cases g2 : 60 < cs.length
  · have e0 : ¬ (60 : Int) < az.length := by omega
    have e1 : ¬ (60 : Int) < bs.length := by omega
    have e2 : (60 : Int) < cs.length := by omega
    clear hR0 hR1 hR2
    go_enter Try.func4, Try.ntmps4
    go_wp2_with fail
    refine (hand_known w).mono ?_
    rintro e w1 ⟨rfl, hM⟩
    go_wp2
    go_ret
    exact ⟨rfl, hM⟩
  have e0 : ¬ (60 : Int) < az.length := by omega
  have e1 : ¬ (60 : Int) < bs.length := by omega
  have e2 : ¬ (60 : Int) < cs.length := by omega
  have l0 : az.length ≤ 60 := by omega
  have l1 : bs.length ≤ 60 := by omega
  have l2 : cs.length ≤ 60 := by omega
  clear g0 g1 g2
  obtain ⟨i0, hi, hz0, hz1, hz2⟩ := info_parts infoI
  obtain ⟨N, hN⟩ : ∃ N : List Int, N = az.map (fun z => 1 + z % 20) := ⟨_, rfl⟩
  have hNl : N.length = az.length := by rw [hN]; simp
  have hNv : ∀ i, i < az.length → N.getD i 0 = 1 + az.getD i 0 % 20 := fun i hi => by
    rw [hN, List.getD_eq_getElem?_getD, get_map (d := 0) hi]; rfl
  have hab : ∀ i, 0 ≤ az.getD i 0 ∧ az.getD i 0 ≤ 255 := fun i => by
    rw [List.getD_eq_getElem?_getD]
    by_cases h : i < az.length
    · rw [List.getElem?_eq_getElem h]; exact ha _ (List.getElem_mem h)
    · rw [List.getElem?_eq_none (by omega)]; simp
  have hbb : ∀ i, 0 ≤ bs.getD i 0 ∧ bs.getD i 0 ≤ 255 := fun i => by
    rw [List.getD_eq_getElem?_getD]
    by_cases h : i < bs.length
    · rw [List.getElem?_eq_getElem h]; exact hb _ (List.getElem_mem h)
    · rw [List.getElem?_eq_none (by omega)]; simp
  have hcb : ∀ i, 0 ≤ cs.getD i 0 ∧ cs.getD i 0 ≤ 255 := fun i => by
    rw [List.getD_eq_getElem?_getD]
    by_cases h : i < cs.length
    · rw [List.getElem?_eq_getElem h]; exact hc _ (List.getElem_mem h)
    · rw [List.getElem?_eq_none (by omega)]; simp
  have HNl := Lib.hid hNl
  have HNv := Lib.hid hNv
  have Hab := Lib.hid hab
  have Hbb := Lib.hid hbb
  have Hcb := Lib.hid hcb
  have Ha := Lib.hid ha
  have Hb := Lib.hid hb
  have Hc := Lib.hid hc
  clear hNl hNv hN hab hbb hcb ha hb hc
  go_enter Try.func4, Try.ntmps4
  go_wp2_with fail
  refine (hand_known w).mono ?_
  rintro e w1 ⟨rfl, hM⟩
  go_wp2_with fail
  refine (new_ex w1).mono ?_
  rintro e w2 ⟨p, m, rfl, hT, hp, hm, hM2⟩
  have hp' : w.heap.size ≤ p := Nat.le_trans hM.size hp
  have hm' : w.heap.size ≤ m := Nat.le_trans hM.size hm
  replace hM := hM.trans hM2
  clear hM2 hp hm
  go_wp2_with fail
  go_loopw [8, 9, 10] (fun t _ _ wr => ∃ n : Nat, n ≤ az.length ∧ t = .int .i64 n ∧ Tab wr p m (rowOf (N.take n)) n ∧ Moves (fun _ => False) w wr) (fun t _ _ _ => az.length - (intOf t).toNat)
  case atStart => exact ⟨0, Nat.zero_le _, rfl, hT, hM⟩
  case round =>
    obtain ⟨n, hn, rfl, hTn, hMn⟩ := hrel
    clear hT hM
    by_cases hlt : n < az.length
    · have hx := Hab.out n
      obtain ⟨g, o, rfl, hv⟩ := hR0.at_ hMn (fun _ _ _ h => h) (j := n) (u := .int .u8 (az.getD n 0)) (get_map hlt)
      have hsn := rowOf_snoc N n (by rw [HNl.out]; exact hlt)
      have hln : (rowOf (N.take n)).length < 256 := by rw [rowOf_len, List.length_take]; omega
      have hnv := HNv.out n hlt
      rw [hnv] at hsn
      have hc := open_eq hTn (node := 1 + az.getD n 0 % 20) (last' := ((n + 1 : Nat) : Int)) (by omega) (iw_of (by omega) (by omega)) hln (by omega) hsn.symm (by omega)
      have Hc := Lib.hid hc
      clear hc hsn hnv hln
      generalize az.getD n 0 = x at hx hv Hc
      go_wp2_with fail
      refine Hc.out.mono ?_
      rintro e w3 ⟨rfl, hT3, hm3⟩
      have hM3 := hMn.own hm3 hp' hm'
      clear hm3 hTn hMn
      go_wp2
      go_roundw
      case rel => exact ⟨n + 1, by omega, by go_num, hT3, hM3⟩
      case measure => simp [intOf]; omega
    · obtain rfl : n = az.length := by omega
      rw [show N.take az.length = N by rw [← HNl.out, List.take_length]] at hTn
      go_wp2_with fail
      obtain ⟨wo, hwo⟩ : ∃ wo : World, wo = wr := ⟨_, rfl⟩
      rw [← hwo] at hTn hMn ⊢
      clear hwo wr
      have hpo := hTn.lt
      have hmo := hTn.map.lt
      go_loopw [11, 13] (fun o t wr => ∃ k : Nat, k ≤ bs.length ∧ t = .int .i64 k ∧ wr.ownsRow wo.heap.size 3 1 o k (((bs.take k).map (· % 20)).map encZ) ∧ Below wo.heap.size wo wr) (fun _ t _ => bs.length - (intOf t).toNat)
      case atStart => exact ⟨0, Nat.zero_le _, rfl, World.ownsRow_nil _ _ _ _, Below.refl _ _⟩
      case round =>
        obtain ⟨k, hk, rfl, hrow, hbw⟩ := hrel
        have hmw : Moves (fun _ => False) w wr := hMn.trans (Moves.of_below hbw)
        by_cases hlt : k < bs.length
        · have hx := Hbb.out k
          obtain ⟨g, o, rfl, hv⟩ := hR1.at_ hmw (fun _ _ _ h => h) (j := k) (u := .int .u8 (bs.getD k 0)) (get_map hlt)
          have htk : ((bs.take (k + 1)).map (· % 20)).map encZ = ((bs.take k).map (· % 20)).map encZ ++ [encZ (bs.getD k 0 % 20)] := by
            rw [List.take_succ_eq_append_getElem hlt, List.map_append, List.map_append, List.getD_eq_getElem?_getD, List.getElem?_eq_getElem hlt]; rfl
          have Htk := Lib.hid htk
          clear htk
          generalize bs.getD k 0 = x at hx hv Htk
          go_wp2_with (first
            | (at_builtin; refine wpList_append_own _ rfl _ _ 31 rfl wo.heap.size 3 i0 (.int .i64 0) 1 8 Try.underlying31 hi hz0 hz1 hz2 rfl (by decide) _ _ _ rfl (hrow.alloc _) ⟨wr.heap.size, 0, none⟩ 1 1 [.int .i64 (x % 20)] rfl rfl (cell_one_new _ _ _) (by simp [Value.oneCell']) (by unfold maxLen; omega) (by omega) (by have := hbw.size; simp; omega) ?_; intro v' w3 hown' hgrow _)
            | go_in)
          go_roundw
          case rel =>
            refine ⟨k + 1, by omega, by go_num, ?_, ?_⟩
            · rw [Htk.out]; exact hown'
            · exact (hbw.alloc hbw.size _).grown hgrow (by have := hbw.size; simp; omega) (fun j hj => (hrow.lt j hj).1)
          case measure => simp [intOf]; omega
        · obtain rfl : k = bs.length := by omega
          rw [List.take_length] at hrow
          obtain ⟨AX, cX, rfl, hx1, hx2, hx3, hx4, hx5⟩ := shape_of hrow
          have hRX := hx5 cX hx1
          clear hx2 hx3 hx4 hx5 hrow
          go_wp2_with fail
          obtain ⟨wq, hwq⟩ : ∃ wq : World, wq = wr := ⟨_, rfl⟩
          rw [← hwq] at hRX hmw hbw ⊢
          clear hwq wr
          have hTq : Tab wq p m (rowOf N) az.length := hTn.moves (S := fun _ => False) (Moves.of_below hbw) (fun h => h) (fun h => h)
          clear hTn hMn
          go_loopw [12, 14] (fun o t wr => ∃ k : Nat, k ≤ cs.length ∧ t = .int .i64 k ∧ wr.ownsRow wq.heap.size 3 1 o k (((cs.take k).map (· % 20)).map encZ) ∧ Below wq.heap.size wq wr) (fun _ t _ => cs.length - (intOf t).toNat)
          case atStart => exact ⟨0, Nat.zero_le _, rfl, World.ownsRow_nil _ _ _ _, Below.refl _ _⟩
          case round =>
            obtain ⟨k, hk, rfl, hrow, hbq⟩ := hrel
            have hmr : Moves (fun _ => False) w wr := hmw.trans (Moves.of_below hbq)
            by_cases hlt : k < cs.length
            · have hx := Hcb.out k
              obtain ⟨g, o, rfl, hv⟩ := hR2.at_ hmr (fun _ _ _ h => h) (j := k) (u := .int .u8 (cs.getD k 0)) (get_map hlt)
              have htk : ((cs.take (k + 1)).map (· % 20)).map encZ = ((cs.take k).map (· % 20)).map encZ ++ [encZ (cs.getD k 0 % 20)] := by
                rw [List.take_succ_eq_append_getElem hlt, List.map_append, List.map_append, List.getD_eq_getElem?_getD, List.getElem?_eq_getElem hlt]; rfl
              have Htk := Lib.hid htk
              clear htk
              generalize cs.getD k 0 = x at hx hv Htk
              go_wp2_with (first
                | (at_builtin; refine wpList_append_own _ rfl _ _ 31 rfl wq.heap.size 3 i0 (.int .i64 0) 1 8 Try.underlying31 hi hz0 hz1 hz2 rfl (by decide) _ _ _ rfl (hrow.alloc _) ⟨wr.heap.size, 0, none⟩ 1 1 [.int .i64 (x % 20)] rfl rfl (cell_one_new _ _ _) (by simp [Value.oneCell']) (by unfold maxLen; omega) (by omega) (by have := hbq.size; simp; omega) ?_; intro v' w3 hown' hgrow _)
                | go_in)
              go_roundw
              case rel =>
                refine ⟨k + 1, by omega, by go_num, ?_, ?_⟩
                · rw [Htk.out]; exact hown'
                · exact (hbq.alloc hbq.size _).grown hgrow (by have := hbq.size; simp; omega) (fun j hj => (hrow.lt j hj).1)
              case measure => simp [intOf]; omega
            · obtain rfl : k = cs.length := by omega
              rw [List.take_length] at hrow
              obtain ⟨AY, cY, rfl, hy1, hy2, hy3, hy4, hy5⟩ := shape_of hrow
              have hRY := hy5 cY hy1
              clear hy2 hy3 hy4 hy5 hrow
              have hRXr : Row wr (fun i => wo.heap.size ≤ i) (.slice AX bs.length cX) ((bs.map (· % 20)).map encZ) := hRX.moves (S := fun _ => False) (Moves.of_below hbq) (fun _ _ _ h => h)
              have hTr : Tab wr p m (rowOf N) az.length := hTq.moves (S := fun _ => False) (Moves.of_below hbq) (fun h => h) (fun h => h)
              have hws : wo.heap.size ≤ wq.heap.size := hbw.size
              obtain ⟨X, hX⟩ : ∃ X : List Int, X = bs.map (· % 20) := ⟨_, rfl⟩
              obtain ⟨Y, hY⟩ : ∃ Y : List Int, Y = cs.map (· % 20) := ⟨_, rfl⟩
              have hXl : X.length = bs.length := by rw [hX]; simp
              have hYl : Y.length = cs.length := by rw [hY]; simp
              have hXw : ∀ x ∈ X, iw x := by rw [hX]; exact mod20_wf Hb.out
              have hYw : ∀ x ∈ Y, iw x := by rw [hY]; exact mod20_wf Hc.out
              have hXb : ∀ j, 0 ≤ X.getD j 0 ∧ X.getD j 0 ≤ 19 := by rw [hX]; exact getD_mod Hb.out
              have hYb : ∀ j, 0 ≤ Y.getD j 0 ∧ Y.getD j 0 ≤ 19 := by rw [hY]; exact getD_mod Hc.out
              rw [← hX] at hRXr
              rw [← hY] at hRY
              have hc1 := ren_eq hTr hRXr (R' := (rowOf N).filterMap (ren X)) (n := (az.length : Int) - ((rowOf N).filterMap (ren X)).length) (fun i e => by omega) hXw (by omega) rfl (by rw [rowOf_len, HNl.out])
              have HXl := Lib.hid hXl
              have HYl := Lib.hid hYl
              have HXb := Lib.hid hXb
              have HYb := Lib.hid hYb
              have HYw := Lib.hid hYw
              have Hc1 := Lib.hid hc1
              clear hRX hTq hTr hbq hbw hX hY hXl hYl hXw hYw hXb hYb hc1 Hb Hc Hbb Hcb
              have hlen1 : ((rowOf N).filterMap (ren X)).length ≤ 60 := by have := List.length_filterMap_le (ren X) (rowOf N); rw [rowOf_len, HNl.out] at this; omega
              have hlen2 : (row2 X Y N).length ≤ 60 := by rw [row2_len]; have := left2_le X Y N N.length; rw [HNl.out] at this; rw [HNl.out]; omega
              have hlenL : ∀ k, k ≤ az.length → left2 X Y N k ≤ 60 := fun k hk => by have := left2_le X Y N k; omega
              have HlL := Lib.hid hlenL
              clear hlenL
              generalize hl1 : ((rowOf N).filterMap (ren X)).length = L1 at hlen1 Hc1
              have Hl1 := Lib.hid hl1
              generalize hl2 : (row2 X Y N).length = L2 at hlen2
              have Hl2 := Lib.hid hl2
              clear hl1 hl2
              go_wp2_with fail
              refine Hc1.out.mono ?_
              rintro e w4 ⟨rfl, hT4, hm4⟩
              have hRX4 := hRXr.moves hm4 (fun i hi _ e => by omega)
              have hRY4 := hRY.moves hm4 (fun i hi _ e => by omega)
              have hM4 : Moves (fun _ => False) w w4 := hmr.andThen hm4 (fun i hi hlt => by omega)
              have hc2 := ren_eq hT4 hRY4 (R' := row2 X Y N) (n := (L1 : Int) - L2) (fun i e => by omega) HYw.out (by rw [HYl.out]; omega) (row2_eq X Y N) (by rw [Hl1.out, Hl2.out])
              have Hc2 := Lib.hid hc2
              clear hc2 hT4 hm4 hRXr hRY Hc1 hmr
              go_wp2_with fail
              refine Hc2.out.mono ?_
              rintro e w5 ⟨rfl, hT5, hm5⟩
              have hRX5 := hRX4.moves hm5 (fun i hi _ e => by omega)
              have hRY5 := hRY4.moves hm5 (fun i hi _ e => by omega)
              have hM5 : Moves (fun _ => False) w w5 := hM4.andThen hm5 (fun i hi hlt => by omega)
              clear hm5 hRX4 hRY4 Hc2 hM4 hmw
              go_wp2_with fail
              go_loopw [16, 17, 18, 19, 20, 21, 22] (fun q t _ _ _ _ _ wr => ∃ k : Nat, k ≤ az.length ∧ t = .int .i64 k ∧ q = .int .i64 (left2 X Y N k) ∧ w5 = wr) (fun _ t _ _ _ _ _ _ => az.length - (intOf t).toNat)
              case atStart => exact ⟨0, Nat.zero_le _, rfl, rfl, rfl⟩
              case round =>
                obtain ⟨k, hk, rfl, rfl, rfl⟩ := hrel
                by_cases hlt : k < az.length
                · have hx := Hab.out k
                  have hlb := HlL.out k hk
                  obtain ⟨g, o, rfl, hv⟩ := hR0.at_ hM5 (fun _ _ _ h => h) (j := k) (u := .int .u8 (az.getD k 0)) (get_map hlt)
                  have hlk := row2_look (X := X) (Y := Y) (N := N) (i := k) (by rw [HNl.out]; exact hlt)
                  have hls := left2_succ X Y N k
                  have hNk : N.getD k 0 = ((az.getD k 0 % 20).toNat : Int) + 1 := by rw [HNv.out k hlt]; omega
                  rw [hNk] at hlk hls
                  have hx20 : az.getD k 0 % 20 = ((az.getD k 0 % 20).toNat : Int) := by omega
                  have hj19 : (az.getD k 0 % 20).toNat ≤ 19 := by omega
                  generalize az.getD k 0 = x at hx hv hx20 hlk hls hj19
                  generalize (x % 20).toNat = j at hx20 hlk hls hj19
                  clear hNk
                  have Hlk := Lib.hid hlk
                  have Hls := Lib.hid hls
                  have Hx20 := Lib.hid hx20
                  clear hlk hls hx20
                  have hget : ∀ kk, fin2 X Y ((j : Int) + 1) = kk → 0 ≤ kk → Calls Try.prog 18 #[.pointer (some ⟨p, 0, none⟩), .int .i64 ((k : Int) + 1)] w5 (SamePost w5 (.tuple #[.int .i64 kk, .bool (decide (0 < kk))])) := fun kk e h0 => by
                    have h1 := Hlk.out
                    rw [e] at h1
                    refine get_eq hT5 (iw_of (by omega) (by omega)) ?_ ?_
                    · rw [h1]; split <;> simp; omega
                    · rw [← look_isSome, h1]; split <;> simp_all
                  have Hget := Lib.hid hget
                  clear hget
                  have hmid : mid X ((j : Int) + 1) = if (j : Int) + 1 ≤ X.length then X.getD j 0 else 0 := by unfold mid; rw [show ((j : Int) + 1 - 1).toNat = j by omega]
                  by_cases hA : (j : Int) + 1 ≤ bs.length
                  · have hm1 : mid X ((j : Int) + 1) = X.getD j 0 := by rw [hmid, if_pos (by rw [HXl.out]; exact hA)]
                    have hjl : j < bs.length := by omega
                    have hxb := HXb.out j
                    obtain ⟨gx, ox, hAX, hvx⟩ := hRX5.at_ (Moves.refl (fun _ => False) w5) (fun _ _ _ h => h) (j := j) (u := .int .i64 (X.getD j 0)) (get_map (by rw [HXl.out]; exact hjl))
                    obtain rfl := hAX
                    have hfd : fin2 X Y ((j : Int) + 1) = if 0 < X.getD j 0 ∧ X.getD j 0 ≤ Y.length then Y.getD (X.getD j 0 - 1).toNat 0 else 0 := by unfold fin2; rw [hm1]
                    generalize X.getD j 0 = xm at hxb hvx hfd
                    clear hmid hm1
                    rw [HYl.out] at hfd
                    have hx20 := Hx20.out
                    by_cases hC : 0 < xm
                    · obtain ⟨i, rfl⟩ : ∃ i : Nat, xm = (i : Int) + 1 := ⟨(xm - 1).toNat, by omega⟩
                      have hC1 : decide (0 < (i : Int) + 1) = true := by simp
                      by_cases hD : (i : Int) + 1 ≤ cs.length
                      · have hil : i < cs.length := by omega
                        have hyb := HYb.out i
                        obtain ⟨gy, oy, hAY, hvy⟩ := hRY5.at_ (Moves.refl (fun _ => False) w5) (fun _ _ _ h => h) (j := i) (u := .int .i64 (Y.getD i 0)) (get_map (by rw [HYl.out]; exact hil))
                        obtain rfl := hAY
                        have hfin : fin2 X Y ((j : Int) + 1) = Y.getD i 0 := by rw [hfd, if_pos ⟨hC, hD⟩, show ((i : Int) + 1 - 1).toNat = i by omega]
                        clear hfd hC
                        generalize Y.getD i 0 = kk at hyb hvy hfin
                        have Hg := Lib.hid (Hget.out (kk) hfin hyb.1)
                        have hls := Hls.out
                        rw [hfin] at hls
                        clear hfin
                        by_cases hpos : 0 < kk
                        · rw [if_pos hpos] at hls
                          have Hls2 := Lib.hid hls
                          clear hls
                          have hb1 : decide (0 < (kk)) = true := by simpa using hpos
                          have Hpos := Lib.hid hpos
                          clear hpos
                          go_wp2_with fail
                          refine Hg.out.mono ?_
                          rintro e w6 ⟨rfl, rfl⟩
                          go_wp2
                          go_roundw
                          case rel => exact ⟨k + 1, by omega, by go_num, by rw [Hls2.out]; go_num, trivial⟩
                          case measure => simp [intOf]; omega
                        · rw [if_neg hpos] at hls
                          have Hls2 := Lib.hid hls
                          clear hls
                          have hb1 : decide (0 < (kk)) = false := by simpa using hpos
                          have Hpos := Lib.hid hpos
                          clear hpos
                          go_wp2_with fail
                          refine Hg.out.mono ?_
                          rintro e w6 ⟨rfl, rfl⟩
                          go_wp2
                          go_roundw
                          case rel => exact ⟨k + 1, by omega, by go_num, by rw [Hls2.out]; go_num, trivial⟩
                          case measure => simp [intOf]; omega
                      · have hfin : fin2 X Y ((j : Int) + 1) = 0 := by rw [hfd, if_neg (by rintro ⟨_, h⟩; exact hD h)]
                        clear hfd hC
                        have Hg := Lib.hid (Hget.out (0) hfin (Int.le_refl _))
                        have hls := Hls.out
                        rw [hfin] at hls
                        rw [if_neg (by decide)] at hls
                        have Hls2 := Lib.hid hls
                        clear hls hfin
                        go_wp2_with fail
                        refine Hg.out.mono ?_
                        rintro e w6 ⟨rfl, rfl⟩
                        go_wp2
                        go_roundw
                        case rel => exact ⟨k + 1, by omega, by go_num, by rw [Hls2.out]; go_num, trivial⟩
                        case measure => simp [intOf]; omega
                    · have hfin : fin2 X Y ((j : Int) + 1) = 0 := by rw [hfd, if_neg (by rintro ⟨h, _⟩; exact hC h)]
                      have hC1 : decide (0 < xm) = false := by simpa using hC
                      clear hfd hC
                      have Hg := Lib.hid (Hget.out (0) hfin (Int.le_refl _))
                      have hls := Hls.out
                      rw [hfin] at hls
                      rw [if_neg (by decide)] at hls
                      have Hls2 := Lib.hid hls
                      clear hls hfin
                      go_wp2_with fail
                      refine Hg.out.mono ?_
                      rintro e w6 ⟨rfl, rfl⟩
                      go_wp2
                      go_roundw
                      case rel => exact ⟨k + 1, by omega, by go_num, by rw [Hls2.out]; go_num, trivial⟩
                      case measure => simp [intOf]; omega
                  · have hmid0 : mid X ((j : Int) + 1) = 0 := by rw [hmid, if_neg (by rw [HXl.out]; exact hA)]
                    have hfin : fin2 X Y ((j : Int) + 1) = 0 := by unfold fin2; rw [hmid0, if_neg (by rintro ⟨h, _⟩; exact absurd h (by decide))]
                    have hx20 := Hx20.out
                    clear hmid hmid0
                    have Hg := Lib.hid (Hget.out (0) hfin (Int.le_refl _))
                    have hls := Hls.out
                    rw [hfin] at hls
                    rw [if_neg (by decide)] at hls
                    have Hls2 := Lib.hid hls
                    clear hls hfin
                    go_wp2_with fail
                    refine Hg.out.mono ?_
                    rintro e w6 ⟨rfl, rfl⟩
                    go_wp2
                    go_roundw
                    case rel => exact ⟨k + 1, by omega, by go_num, by rw [Hls2.out]; go_num, trivial⟩
                    case measure => simp [intOf]; omega
                · obtain rfl : k = az.length := by omega
                  have hL2 : left2 X Y N az.length = L2 := by rw [← Hl2.out, row2_len, HNl.out]
                  rw [hL2]
                  clear hL2
                  have hc5 := live_len (n := L2) hT5 Hl2.out
                  have Hc5 := Lib.hid hc5
                  clear hc5 hRX5 hRY5 hT5
                  go_wp2_with fail
                  refine Hc5.out.mono ?_
                  rintro e w7 ⟨AL, cL, rfl, hm7⟩
                  have hM7 := hM5.trans hm7
                  clear hM5 hm7
                  go_wp2
                  go_ret
                  exact ⟨rfl, hM7⟩
end Go.Proofs.Ytmennobdgfgjaaa

