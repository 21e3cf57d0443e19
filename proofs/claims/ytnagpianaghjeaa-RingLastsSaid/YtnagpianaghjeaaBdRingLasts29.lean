/-
  The walk of RingLasts.
-/
import Derived.Test.YtnagpianaghjeaaBdRingLasts26
import Derived.Test.YtnagpianaghjeaaBdRingLasts28
namespace Go.Proofs.Ytnagpianaghjeaa.Rg
open Go Go.RowKit Go.Proofs Go.Proofs.Ytnagpianaghjeaa.Sl
open Pl (DS IsDisk DOwn DPost DMv DKeep Clear DiskAt All2)

set_option maxRecDepth 100000 in
set_option maxHeartbeats 4000000 in
theorem lasts_skip {w : World} {A B : Option Addr} {n m c b : Nat} (h : 20 < n ∨ 100 < m) : Calls Try.prog 8 #[.slice A n c, .slice B m b] w (TrueQ w) := by
  have HKN := Lib.hid (fun W => rknown_any W)
  by_cases g1 : 20 < n
  · have g2 : (20 : Int) < (n : Int) := by omega
    clear h g1
    go_enter Try.func8, Try.ntmps8
    go_wp2_with fail
    refine (HKN.out _).mono ?_
    rintro e w0 ⟨rfl, hm0⟩
    go_wp2
    go_ret
    exact ⟨rfl, hm0⟩
  · have g2 : ¬ (20 : Int) < (n : Int) := by omega
    have g3 : (100 : Int) < (m : Int) := by omega
    clear h g1
    go_enter Try.func8, Try.ntmps8
    go_wp2_with fail
    refine (HKN.out _).mono ?_
    rintro e w0 ⟨rfl, hm0⟩
    go_wp2
    go_ret
    exact ⟨rfl, hm0⟩
/-- The loop's state. -/
def LastT (w : World) (base d r b2 : Nat) (zss : List (List Int)) (i : Nat) (sv : Value) (W : World) : Prop :=
  ∃ (K : List (List Int)) (lv : Value) (vals : List Value) (ws : Int), LastS K (i + 1) i (zss.take i) ∧ 0 ≤ ws ∧ ws ≤ 10 * i + 1 ∧ RingAt W base d r 0 60 64 (calmS 64 K false 0 [] ws) ⟨(i + 1 : Nat), 1, i, 0, i⟩ lv vals (zss.take i) ∧ Moves (fun _ => False) w W ∧ W.ownsRow b2 9 1 sv i (strs (zss.take i)) ∧ (∀ k, sv.ownBlock = some k → ¬ ROwn W r d lv k)
/-- What was told, and the disk. -/
structure DkT (w : World) (base d : Nat) (D : DS) (sv : Value) (i : Nat) (L : List (List Int)) (W : World) : Prop where
  dk : IsDisk W base d D
  mv : Moves (fun _ => False) w W
  own : W.ownsRow base 9 1 sv i (strs L)
  nd : ∀ k, sv.ownBlock = some k → ¬ DOwn W d k
  bw : w.heap.size ≤ base
theorem DkT.moves0 {w W W' : World} {base d i : Nat} {D : DS} {sv : Value} {L : List (List Int)} (H : DkT w base d D sv i L W) (hm : Moves (fun _ => False) W W') : DkT w base d D sv i L W' :=
  ⟨H.dk.moves0 hm, H.mv.trans hm, own_moves H.own hm (fun _ _ e => e), fun k e q => H.nd k e ((down_same (hm.block d (down_lt H.dk (.inl rfl)) (fun e => e)) k).1 q), H.bw⟩
theorem DkT.disk {w W W' : World} {base d i : Nat} {D D' : DS} {sv : Value} {L : List (List Int)} (H : DkT w base d D sv i L W) (hD : IsDisk W' base d D') (hm : DMv W d W') : DkT w base d D' sv i L W' :=
  ⟨hD, under H.dk H.mv H.bw hm, own_moves H.own hm.mv (fun k e => H.nd k e), fun k e q => by
    rcases hm.kp k q with q | q
    · exact H.nd k e q
    · have := (H.own.lt k e).2; omega, H.bw⟩
theorem DkT.push {w W W8 : World} {base d i : Nat} {D : DS} {sv sv' : Value} {L : List (List Int)} {b : List Int} (H : DkT w base d D sv i L W) (hn : W8.ownsRow base 9 1 sv' (i + 1) (strs L ++ [.string (strOfNums b)])) (hg : W.grownBy W8 sv.ownBlock) (hl : sv'.ownBlock = sv.ownBlock ∨ sv'.ownBlock = some W.heap.size) : DkT w base d D sv' (i + 1) (L ++ [b]) W8 := by
  have m1 : Moves (fun k => sv.ownBlock = some k) W W8 := Moves.of_grown hg (fun k e => e)
  have hdl : d < W.heap.size := down_lt H.dk (.inl rfl)
  have hd : W8.heap[d]? = W.heap[d]? := m1.block d hdl (fun e => H.nd d e (.inl rfl))
  refine ⟨asideS H.dk m1 (fun g e _ => ?_), H.mv.andThen m1 (fun k e hk => by have h1 := (H.own.lt k e).1; have := H.bw; omega), ?_, fun k e q => ?_, H.bw⟩
  · obtain ⟨cur, hc⟩ := own_block H.own e
    exact ⟨H.nd g e, _, _, _, hc, by decide, by decide⟩
  · have : strs (L ++ [b]) = strs L ++ [.string (strOfNums b)] := by simp [strs]
    rw [this]
    exact hn
  · have q := (down_same hd k).1 q
    rcases hl with e1 | e1
    · rw [e1] at e; exact H.nd k e q
    · rw [e1] at e; cases e
      exact absurd (down_lt H.dk q) (Nat.lt_irrefl _)
theorem LastT.fin {w W W' : World} {base d r i : Nat} {K : List (List Int)} {sv lv : Value} {vals : List Value} {ws : Int} {zss : List (List Int)} (HT : DkT w base d (calmS 64 K false 0 [] ws) sv i (zss.take i) W) (hS : LastS K (i + 1) i (zss.take i)) (hw : 0 ≤ ws ∧ ws ≤ 10 * i + 1) (hr : W.heap.size ≤ r) (hlv : ∀ k, lv.ownBlock = some k → W.heap.size ≤ k) (hm : Moves (fun _ => False) W W') (hR : RingAt W' base d r 0 60 64 (calmS 64 K false 0 [] ws) ⟨(i + 1 : Nat), 1, i, 0, i⟩ lv vals (zss.take i)) : LastT w base d r base zss i sv W' := by
  refine ⟨K, lv, vals, ws, hS, hw.1, hw.2, hR, HT.mv.trans hm, own_moves HT.own hm (fun _ _ e => e), fun k e q => ?_⟩
  have hlt := (HT.own.lt k e).2
  rcases q with rfl | q | q
  · omega
  · have := hlv k q; omega
  · exact HT.nd k e ((down_same (hm.block d (down_lt HT.dk (.inl rfl)) (fun e => e)) k).1 q)
theorem strs_len (L : List (List Int)) : (strs L).length = L.length := List.length_map _
set_option maxRecDepth 100000 in
set_option maxHeartbeats 8000000 in
theorem lasts_go {w : World} {v u : Value} {zss : List (List Int)} {bs : List Bool} (hv : Rows2 .u8 w (fun q => q < w.heap.size) v zss) (hu : Row w (fun q => q < w.heap.size) u (bs.map .bool)) (hb : ∀ zs ∈ zss, ∀ z ∈ zs, 0 ≤ z ∧ z < 256) (hn : zss.length ≤ 20) (hm : bs.length ≤ 100) :
    Calls Try.prog 8 #[v, u] w (TrueQ w) := by
  have HKN := Lib.hid (fun W => rknown_any W)
  have HNEW := Lib.hid (fun W => Pl.new_ok (n := 60) (z := 64) (by omega) (by decide) W)
  have HV := Lib.hid hv
  have HU := Lib.hid hu
  have HBY := Lib.hid hb
  have HN : Hid (zss.length ≤ 20 ∧ bs.length ≤ 100) := Lib.hid ⟨hn, hm⟩
  obtain ⟨A, c, vs, rfl, hc, hvl, hcell, hrow⟩ := hv
  have HCELL := Lib.hid hcell
  have HROW := Lib.hid hrow
  have HVL := Lib.hid hvl
  obtain ⟨B, cb, rfl, hcb, -⟩ := hu
  rw [List.length_map] at HU hcb ⊢
  have b0 : ¬ (20 : Int) < (zss.length : Int) := by omega
  have b1 : ¬ (100 : Int) < (bs.length : Int) := by omega
  have b2 : (zss.length : Int) ≤ 20 := by omega
  have b3 : (zss.length : Int) ≤ (c : Int) := by omega
  obtain ⟨i4, hi4, p0, p1, p2⟩ := info_parts infoStr
  have p3 : (Value.slice none 0 0).cells.size = 1 := rfl
  have p4 : (0 : Nat) < 1 := by decide
  clear hb hn hm hc hvl hcell hrow hcb
  go_enter Try.func8, Try.ntmps8
  go_wp2_with fail
  refine (HKN.out _).mono ?_
  rintro e w0 ⟨rfl, hm0⟩
  have HM0 := Lib.hid hm0
  clear hm0
  go_wp2_with fail
  refine (HNEW.out w0).mono ?_
  rintro e w1 ⟨d, rfl, hd1, hm1⟩
  rw [new_calm] at hd1
  have hz : ∀ i, i < 60 → (List.replicate 60 (List.replicate 64 (0 : Int))).getD i [] = List.replicate 64 0 := fun i hi => by rw [List.getD_eq_getElem?_getD, List.getElem?_replicate, if_pos hi]; rfl
  have hK : ∀ i, i < (List.replicate 60 (List.replicate 64 (0 : Int))).length → ((List.replicate 60 (List.replicate 64 (0 : Int))).getD i []).length = 64 ∧ ∀ y ∈ (List.replicate 60 (List.replicate 64 (0 : Int))).getD i [], 0 ≤ y ∧ y < 256 := fun i hi => by
    rw [List.length_replicate] at hi
    rw [hz i hi]
    exact ⟨List.length_replicate, fun y hy => by rw [(List.mem_replicate.1 hy).2]; exact ⟨by decide, by decide⟩⟩
  have hnw : newestH (60 - 2) ((List.replicate 60 (List.replicate 64 (0 : Int))).getD 0 []) ((List.replicate 60 (List.replicate 64 (0 : Int))).getD (0 + 1) []) = none := by
    rw [hz 0 (by decide), hz (0 + 1) (by decide)]
    have h : ∀ i, ¬ okS (60 - 2) i (List.replicate 64 0) := fun i h => absurd h.1 (by decide +kernel)
    unfold newestH
    rw [if_neg (fun e => h 1 e.1), if_neg (h 0)]
  have hfm := rformat_ok (s := 0) (n := 60) (z := 64) hd1 (by decide) (by decide) (by rw [List.length_replicate]; decide) (by rw [List.length_replicate]; decide) (by decide) hK hnw (g := 1) (by decide +kernel)
  have HFM := Lib.hid hfm
  have HD1 := Lib.hid hd1
  have HM1 := Lib.hid (HM0.out.trans hm1)
  have HB0 := Lib.hid HM0.out.size
  clear hfm hK hnw hd1 hm1 hz
  go_wp2_with fail
  refine HFM.out.mono ?_
  rintro e w2 ⟨r0, rfl, hr, hR2, hv2⟩
  have HM2 := Lib.hid (under HD1.out HM1.out HB0.out hv2)
  have HI0 : Hid (LastT w w0.heap.size d r0 w0.heap.size zss 0 (.slice none 0 0) w2) := Lib.hid ⟨_, _, _, 1, last0, by decide, by decide, hR2, HM2.out, World.ownsRow_nil _ _ _ _, fun k e => by cases e⟩
  have HBW : Hid (w.heap.size ≤ w0.heap.size) := Lib.hid HB0.out
  generalize w0.heap.size = base at HI0 HBW
  clear hR2 hv2 hr HD1 HM1 HFM HNEW HM0
  go_wp2_with fail
  go_loopg [7, 9, 10] (zss.length) (fun gg s7 s9 s10 wr => ∃ (i r : Nat) (sv : Value), i ≤ zss.length ∧ gg = zss.length - i ∧ s7 = .pointer (some ⟨r, 0, none⟩) ∧ s9 = sv ∧ s10 = .int .i64 i ∧ Hid (LastT w base d r base zss i sv wr))
  case atStart => exact ⟨0, r0, _, Nat.zero_le _, rfl, rfl, rfl, rfl, HI0⟩
  case round =>
    obtain ⟨wr0, rfl⟩ : ∃ y, y = wr := ⟨wr, rfl⟩
    obtain ⟨i, r, sv, hi, rfl, rfl, rfl, rfl, HI⟩ := hrel
    have d0 : (0 : Int) ≤ (i : Int) := by omega
    by_cases hil : i < zss.length
    · have d1 : (i : Int) < (zss.length : Int) := by omega
      have d2 : (i : Int) ≤ 20 := by omega
      obtain ⟨K, lv, vals, ws, hS, hw0, hw1, hR, hM, hown, hnd⟩ := HI.out
      obtain ⟨g, o, rfl, -, hgl, hcell⟩ := HCELL.out (by omega)
      obtain ⟨ui, hui⟩ : ∃ ui, vs[i]? = some ui := ⟨_, List.getElem?_eq_getElem (by rw [HVL.out]; exact hil)⟩
      obtain ⟨bi, hbi⟩ : ∃ bi, zss[i]? = some bi := ⟨_, List.getElem?_eq_getElem hil⟩
      have hri : Row w (fun q => q < w.heap.size) ui (bi.map encX) := by
        have h1 := List.getElem?_eq_some_iff.1 hui
        have h2 := List.getElem?_eq_some_iff.1 hbi
        have h := HROW.out i hil (by rw [HVL.out]; exact hil)
        rw [h1.2, h2.2] at h
        exact h
      have HBB : Hid (∀ x ∈ bi, 0 ≤ x ∧ x < 256) := Lib.hid (HBY.out bi (List.mem_of_getElem? hbi))
      have e1 : wr0.cell? ⟨g, o + i, none⟩ = some ui := (hM.cell (p := ⟨g, o + i, none⟩) hgl (fun e => e)).trans (hcell i ui hui)
      have HE1 := Lib.hid (hcell i ui hui)
      have HS := Lib.hid hS
      have HW : Hid (0 ≤ ws ∧ ws ≤ 10 * i + 1 ∧ i < zss.length ∧ zss.length ≤ 20) := Lib.hid ⟨hw0, hw1, hil, HN.out.1⟩
      have HR := Lib.hid hR
      have HM := Lib.hid hM
      have HOWN := Lib.hid hown
      have HND := Lib.hid hnd
      have HBI := Lib.hid hri
      have HTK : Hid (zss.take (i + 1) = zss.take i ++ [bi]) := Lib.hid (by rw [List.take_add_one, hbi]; rfl)
      obtain ⟨Ai, ci, rfl, hci, -⟩ := hri
      rw [List.length_map] at e1 HBI hci HE1
      obtain ⟨As, cs, rfl, -, -, -, -, -⟩ := own_form hown
      clear hS hw0 hw1 hR hM hown hnd hci hcell hui hbi HI hil hi
      by_cases hb30 : bi.length ≤ 30
      · have q1 : ¬ (30 : Int) < (bi.length : Int) := by omega
        have HB30 := Lib.hid hb30
        have hrow0 : BRow wr0 (fun q => ¬ ROwn wr0 r d lv q) (.slice Ai bi.length ci) bi := (BRow.moves ⟨HBI.out, HBB.out, by omega⟩ HM.out (fun _ _ _ e => e)).mono (fun k hk _ e => by have := HR.out.low e; have := HBW.out; omega)
        have hlt : (zss.take i).length = i := by rw [List.length_take]; have := HW.out; omega
        have hiw := HW.out
        have hKl := HS.out.len
        obtain ⟨num, hnum⟩ : ∃ num, IntKind.u64.wrap (IntKind.u64.wrap ((1 : Int) + ((zss.take i).length + 1 : Nat)) - 1) = num := ⟨_, rfl⟩
        obtain ⟨K2, hK2⟩ : ∃ K2, (writeN K 0 58 (0 + i) 64 (recB 64 bi) 1).set (0 + (((i + 1 + 1 : Nat) : Int) % 2).toNat) (headB 64 ⟨((i + 1 + 1 : Nat) : Int), 1, ((i + 1 : Nat) : Int), ((0 : Nat) : Int), ((i + 1 : Nat) : Int)⟩) = K2 := ⟨_, rfl⟩
        have hS2 : LastS K2 (i + 1 + 1) (i + 1) (zss.take (i + 1)) := by
          rw [HTK.out, ← hK2]
          exact HS.out.push (bs := bi) (by omega) (by omega) HBB.out hb30
        have HAP : Hid (Calls Try.prog 32 #[.pointer (some ⟨r, 0, none⟩), .slice Ai bi.length ci] wr0 (AppPost wr0 base d r 0 60 64 (calmS 64 K2 false 0 [] (ws + ((1 : Nat) : Int) + 1)) ⟨((i + 1 + 1 : Nat) : Int), 1, ((i + 1 : Nat) : Int), ((0 : Nat) : Int), ((i + 1 : Nat) : Int)⟩ lv (zss.take i ++ [bi]) num)) := Lib.hid (by
          rw [← hK2]
          exact rappend_ok (t := 0) (u := i) (gen := ((i + 1 : Nat) : Int)) (first := 1) (count := (i : Int)) (g := ((i + 1 + 1 : Nat) : Int)) (c2 := ((i + 1 : Nat) : Int)) HR.out hrow0 (by omega) (by unfold roomN; omega) (need_one (by omega)) (by omega) (by decide) (by decide) (by omega) (by decide) (by omega) (by omega) (by omega) (by rw [show ((i + 1 : Nat) : Int) + 1 = ((i + 1 + 1 : Nat) : Int) from rfl]; exact u64nT (by omega)) (by rw [show (i : Int) + 1 = ((i + 1 : Nat) : Int) from rfl]; exact u64nT (by omega)) hnum rfl)
        have HS2 := Lib.hid hS2
        clear hrow0 hK2 hS2 hnum hKl
        go_wp2_with fail
        refine HAP.out.mono ?_
        rintro e w5 ⟨rfl, lv5, vals5, hR5, hv5⟩
        have HT5 : Hid (DkT w base d (calmS 64 K2 false 0 [] (ws + 1 + 1)) (.slice As i cs) i (zss.take i) w5) := Lib.hid ⟨hR5.dk, rmv_new HR.out HM.out HBW.out hv5, own_moves HOWN.out hv5.mv (fun k e => HND.out k e), fun k e q => (by
          rcases hv5.kp k (.inr (.inr q)) with q | q
          · exact HND.out k e q
          · have := (HOWN.out.lt k e).2; omega), HBW.out⟩
        have hcv := conv_rowS (HBI.out.moves HT5.out.mv (fun _ _ _ e => e))
        have e5 : w5.cell? ⟨g, o + i, none⟩ = some (.slice Ai bi.length ci) := (HT5.out.mv.cell (p := ⟨g, o + i, none⟩) hgl (fun e => e)).trans HE1.out
        have h63 : Hid (i + 1 ≤ maxLen ∧ (i + 1) * 16 ≤ 140737488355328) := Lib.hid (by unfold maxLen; omega)
        have HSZ : Hid (base ≤ (w5.alloc (.cells #[.string (strOfNums bi)] 9)).heap.size) := Lib.hid (by
          have := down_lt HT5.out.dk (.inl rfl)
          have := HT5.out.dk.low d (.inl rfl)
          simp; omega)
        clear hR5 hv5 hiw hlt
        go_wp2_with (first
          | (at_builtin; go_must (refine wpList_append_src _ rfl (.tmp 62) (.tmp 68) 72 rfl base 9 i4 _ 1 16 Try.underlying72 hi4 p0 p1 p2 p3 p4 (.slice As i cs) i (strs (zss.take i)) rfl ((HT5.out.moves0 ((Moves.refl (fun _ => False) w5).alloc _)).own) (some ⟨w5.heap.size, 0, none⟩) 1 1 [.string (strOfNums bi)] rfl (by rfl) (fun _ => ⟨_, rfl, World.news_of_block (cs := #[.string (strOfNums bi)]) (t := 9) (fr := (0, 0)) (heap_alloc_new _ _)⟩) (by simp [Value.oneCell']) h63.out.1 h63.out.2 HSZ.out ?_)
             intro v1 w8 hn8 hg8 hl8
             have hp := (HT5.out.moves0 ((Moves.refl (fun _ => False) w5).alloc (.cells #[.string (strOfNums bi)] 9))).push hn8 hg8 hl8
             rw [← HTK.out] at hp
             obtain ⟨A1, c1, rfl, -, -, -, -, hx1⟩ := own_form hp.own
             have HT8 := Lib.hid hp
             clear hp hn8 hg8 hl8)
          | fail)
        refine (Pl.cut_any HT8.out.dk (HU.out.moves HT8.out.mv (fun _ _ _ e => e)) (fun k hk _ e => by have := HT8.out.dk.low k e; have := HBW.out; omega) (by have := HN.out; omega)).mono ?_
        rintro e w9 ⟨rfl, hd9, hm9, hk9⟩
        have HT9 : Hid (DkT w base d { calmS 64 K2 false 0 [] (ws + 1 + 1) with off := true } (.slice A1 (i + 1) c1) (i + 1) (zss.take (i + 1)) w9) := Lib.hid (HT8.out.disk hd9 ⟨hm9, hk9⟩)
        clear hd9 hm9 hk9 hcv
        go_wp2_with fail
        refine (Pl.on_any HT9.out.dk).mono ?_
        rintro e w10 ⟨rfl, hd10, hm10, hk10⟩
        have HT10 : Hid (DkT w base d (calmS 64 K2 false 0 [] (ws + 1 + 1)) (.slice A1 (i + 1) c1) (i + 1) (zss.take (i + 1)) w10) := Lib.hid (HT9.out.disk hd10 ⟨hm10, hk10⟩)
        have HOP := Lib.hid (ropen_ok (s := 0) (n := 60) HT10.out.dk (by decide) (by decide) (by rw [HS2.out.len]; decide) (by rw [HS2.out.len]; decide) HS2.out.sec (open_last HS2.out (by have := HW.out; omega)))
        clear hd10 hm10 hk10
        go_wp2_with fail
        refine HOP.out.mono ?_
        rintro e w11 ⟨r2, lv2, vals2, rfl, hr2, hR2, hlv2, hm11⟩
        have HREC := Lib.hid (recs_any hR2 (by have := HS2.out.ll; have := HW.out; omega))
        have HFIN : Hid (∀ W, Moves (fun _ => False) w11 W → LastT w base d r2 base zss (i + 1) (.slice A1 (i + 1) c1) W) := Lib.hid (fun W hW => LastT.fin HT10.out HS2.out (by have := HW.out; omega) hr2 hlv2 (hm11.trans hW) (hR2.moves0 hW))
        have HM11 := Lib.hid (HT10.out.mv.trans hm11)
        have HOWN11 := Lib.hid (own_moves HT10.out.own hm11 (fun _ _ e => e))
        clear hR2 hm11 hr2 hlv2
        go_wp2_with fail
        refine HREC.out.mono ?_
        rintro e w12 ⟨lv12, vals12, rfl, hown12, hrow12, hm12⟩
        have hl12 : vals12.length = i + 1 := hrow12.1.trans HS2.out.ll
        rw [hl12] at hown12
        obtain ⟨A2, c2, rfl, -, -, -, -, hx2⟩ := own_form hown12
        obtain ⟨g2, rfl, -, hg2, hc2⟩ := hx2 (by omega)
        obtain ⟨_, _, hAf, -, -, -, -, hx1⟩ := own_form (own_moves HOWN11.out hm12 (fun _ _ e => e))
        injection hAf with e1 e2 e3
        subst e1 e3
        obtain ⟨g1, rfl, -, hg1, hc1⟩ := hx1 (by omega)
        have HC1 := Lib.hid hc1
        have HC2 := Lib.hid hc2
        have HR12 := Lib.hid hrow12
        have HL12 := Lib.hid hl12
        have HM12 := Lib.hid hm12
        have hie : ((i + 1 : Nat) : Int) = (i : Int) + 1 := rfl
        clear hown12 hrow12 hm12 hx1 hx2 hc1 hc2 hl12 HREC HOP HT5 HT8 HT9 HT10 HAP
        go_wp2_with fail
        go_loopg [17] (i + 1) (fun gg s17 wi => ∃ k : Nat, k ≤ i + 1 ∧ gg = i + 1 - k ∧ s17 = .int .i64 k ∧ Hid (Moves (fun _ => False) w12 wi))
        case atStart => exact ⟨0, Nat.zero_le _, rfl, rfl, Lib.hid (Moves.refl _ _)⟩
        case round =>
          obtain ⟨k, hk, rfl, rfl, HI⟩ := hrel
          have k0 : (0 : Int) ≤ (k : Int) := by omega
          by_cases hki : k < i + 1
          · have k1 : (k : Int) < ((i + 1 : Nat) : Int) := by omega
            obtain ⟨b, hb⟩ : ∃ b, (zss.take (i + 1))[k]? = some b := ⟨_, List.getElem?_eq_getElem (by have := HS2.out.ll; omega)⟩
            have hvk : k < vals12.length := by rw [HL12.out]; exact hki
            have hbk := (List.getElem?_eq_some_iff.1 hb).1
            have huk := List.getElem?_eq_getElem hvk
            have hrb := HR12.out.2 k hvk hbk
            rw [(List.getElem?_eq_some_iff.1 hb).2] at hrb
            generalize vals12[k] = uk at huk hrb
            have hcv := conv_rowS (RB.moves hrb (HI.out.trans (Moves.refl (fun _ => False) wr).drew) (fun _ _ _ e => e)).1
            have hsb : (strs (zss.take (i + 1)))[k]? = some (.string (strOfNums b)) := by simp only [strs, List.getElem?_map, hb, Option.map_some]
            have e1 : wr.cell? ⟨g2, k, none⟩ = some uk := (HI.out.cell (p := ⟨g2, k, none⟩) hg2 (fun e => e)).trans (HC2.out k uk huk)
            have e2 : wr.cell? ⟨g1, k, none⟩ = some (.string (strOfNums b)) := (HI.out.cell (p := ⟨g1, k, none⟩) hg1 (fun e => e)).trans (HC1.out k _ hsb)
            clear hvk hbk huk hrb hsb hb
            go_wp2_with fail
            go_region
            go_wp2_with fail
            go_roundg (i + 1 - (k + 1))
            case measure => omega
            case rel => exact ⟨k + 1, by omega, rfl, by go_num, Lib.hid (HI.out.trans (Moves.refl (fun _ => False) wr).drew)⟩
          · have k1 : ¬ (k : Int) < ((i + 1 : Nat) : Int) := by omega
            go_wp2_with fail
            go_roundg (zss.length - (i + 1))
            case measure => have := HW.out; omega
            case rel => exact ⟨i + 1, r2, _, by have := HW.out; omega, rfl, rfl, rfl, by go_num, Lib.hid (HFIN.out _ (HM12.out.trans HI.out))⟩
      · have q1 : (30 : Int) < (bi.length : Int) := by omega
        go_wp2_with fail
        go_ret
        exact ⟨rfl, HM.out⟩
    · have d1 : ¬ (i : Int) < (zss.length : Int) := by omega
      go_wp2_with fail
      go_ret
      obtain ⟨K, lv, vals, ws, hS, hw0, hw1, hR, hM, hown, hnd⟩ := HI.out
      exact ⟨rfl, hM⟩
end Go.Proofs.Ytnagpianaghjeaa.Rg
