/-
  The walk of KeysSort: keys in order, each as often as it is there; what was handed is not changed.
-/
import Derived.Test.YtmennobdgfgjaaaKeyLawRow
import Derived.Test.YtmennobdgfgjaaaKeyKnown
import Derived.Test.YtmennobdgfgjaaaKeyOpen
namespace Go.Proofs.Ytmennobdgfgjaaa
open Go Go.RowKit Go.Maps Go.Sort Go.Proofs

theorem own_krow {w : World} {base n : Nat} {e : TypeId} {v : Value} {ks : List Pr} (h : w.ownsRow base e 2 v n (cellsP ks)) (hn : ks.length = n) : KRow w (fun i => base ≤ i) v ks := by
  subst hn
  obtain ⟨A, c, hv, hc, hm, hA, -, hx⟩ := own_form h
  refine ⟨A, c, hv, hc, fun h0 => ?_⟩
  obtain ⟨g, hg, hb, hl, hcell⟩ := hx h0
  exact ⟨g, 0, hg, hb, hl, fun j u hu => by rw [Nat.zero_add]; exact hcell j u hu⟩

set_option maxRecDepth 100000 in
set_option maxHeartbeats 4000000 in
theorem keys_sort (w : World) {v : Value} {ks : List Pr} {L : Nat → Prop} (hr : KRow w L v ks) : Calls Try.prog 9 #[v] w (TruePost w) := by
  have HR := Lib.hid hr
  obtain ⟨A, c, rfl, hc, hx⟩ := hr
  by_cases h1 : 80 < ks.length
  · have e1 : (80 : Int) < ks.length := by omega
    clear hx
    go_enter Try.func9, Try.ntmps9
    go_wp2_with fail
    refine (key_known w).mono ?_
    rintro e w1 ⟨rfl, hM⟩
    go_wp2
    go_ret
    exact ⟨rfl, hM⟩
  have e1 : ¬ (80 : Int) < ks.length := by omega
  have h80 : ks.length ≤ 80 := by omega
  clear h1
  obtain ⟨i4, hi4, hq0, hq1, hq2⟩ := info_parts infoR
  have hq3 : (Value.agg #[.int .i64 0, .int .i64 0]).cells.size = 2 := rfl
  have hq4 : (0 : Nat) < 2 := by decide
  go_enter Try.func9, Try.ntmps9
  go_wp2_with fail
  refine (key_known w).mono ?_
  rintro e w1 ⟨rfl, hM1⟩
  have HX := Lib.hid hx
  clear hx
  go_wp2_with fail
  go_loopg [3, 4] ks.length (fun g s3 s4 wr => ∃ i : Nat, i ≤ ks.length ∧ g = ks.length - i ∧ s4 = .int .i64 i ∧ wr.ownsRow w.heap.size 52 2 s3 i (cellsP (ks.take i)) ∧ Moves (fun _ => False) w wr)
  case atStart => exact ⟨0, Nat.zero_le _, rfl, rfl, World.ownsRow_nil _ _ _ _, hM1⟩
  case round =>
    obtain ⟨i, hi, hg, rfl, hown, hm⟩ := hrel
    clear hM1
    by_cases hik : i < ks.length
    · obtain ⟨g, o, rfl, -, hgl, hcell⟩ := HX.out (by omega)
      have hv0 : wr.cell? ⟨g, o + i * 2, none⟩ = some (.int .i64 ks[i].1) := (hm.cell (p := ⟨g, o + i * 2, none⟩) hgl (fun h => h)).trans (hcell _ _ (cellsP_get hik).1)
      have hv1 : wr.cell? ⟨g, o + i * 2 + 1, none⟩ = some (.int .i64 ks[i].2) := (hm.cell (p := ⟨g, o + i * 2 + 1, none⟩) hgl (fun h => h)).trans (hcell _ _ (cellsP_get hik).2)
      have HT : Hid (cellsP (ks.take (i + 1)) = cellsP (ks.take i) ++ [.int .i64 ks[i].1, .int .i64 ks[i].2]) := Lib.hid (by rw [List.take_succ_eq_append_getElem hik, cellsP_append]; rfl)
      clear hcell
      generalize ks[i] = q at hv0 hv1 HT
      obtain ⟨q1, q2⟩ := q
      have OQ := fun W => of_any (q1, q2) W
      have b0 : (0 : Int) ≤ (i : Int) := by omega
      have b1 : (i : Int) < (ks.length : Int) := by omega
      go_wp2_with fail
      refine (OQ _).mono ?_
      rintro e w2 ⟨rfl, hm2⟩
      have hown2 := (own_moves hown hm2 (fun _ _ h => h)).alloc (.cells #[.int .i64 q1, .int .i64 q2] 52)
      have HM2 := Lib.hid ((hm.trans hm2).alloc (.cells #[.int .i64 q1, .int .i64 q2] 52))
      have hbase := HM2.out.size
      have hone : ∀ u ∈ [Value.int .i64 q1, Value.int .i64 q2], u.oneCell' = true := by simp [Value.oneCell']
      have h63 : i + 1 ≤ maxLen ∧ (i + 1) * 16 ≤ 140737488355328 := by unfold maxLen; omega
      have H63 := Lib.hid h63
      clear hv0 hv1 hm2 hown hm h63 OQ
      go_wp2_with (first
        | (at_builtin; go_must (refine wpList_append_src _ rfl (.tmp 19) (.tmp 25) 63 rfl w.heap.size 52 i4 _ 2 16 Try.underlying63 hi4 hq0 hq1 hq2 hq3 hq4 _ i (cellsP (ks.take i)) rfl hown2 (some ⟨w2.heap.size, 0, none⟩) 1 1 [.int .i64 q1, .int .i64 q2] rfl (by rfl) (fun _ => ⟨_, rfl, World.news_of_block (cs := #[.int .i64 q1, .int .i64 q2]) (t := 52) (fr := (0, 0)) (heap_alloc_new w2 _)⟩) hone H63.out.1 H63.out.2 hbase ?_)
           intro v1 w6 hn6 hg6 hl6)
        | fail)
      go_roundg (ks.length - (i + 1))
      case measure => omega
      case rel => exact ⟨i + 1, by omega, rfl, by go_num, by rw [HT.out]; exact hn6, HM2.out.grown hg6 (fun b hb hlt => by have := (hown2.lt b hb).1; omega)⟩
    · obtain rfl : i = ks.length := by omega
      rw [List.take_length] at hown
      have hkm := own_krow hown rfl
      obtain ⟨Am, cm, rfl, -, -, -, -, -⟩ := own_form hown
      have hrw := HR.out.moves (hm.alloc (.cells #[] 49)) (fun _ _ _ h => h)
      obtain ⟨A2, c2, hv2, hc2, hx2⟩ := hrw
      cases hv2
      have hsrc : Src (wr.alloc (.cells #[] 49)) A ks.length (cellsP ks) := fun h0 => by
        obtain ⟨g, o, h, _, hgl, hcell⟩ := hx2 h0
        refine ⟨_, h, fun j u hu => ?_⟩
        have e1 : (⟨g, o, none⟩ : Addr).add j = ⟨g, o + j, none⟩ := by unfold Addr.add; split <;> simp_all
        rw [e1]
        exact hcell j u hu
      have HKM := Lib.hid hkm
      have HM := Lib.hid hm
      obtain ⟨i5, hi5, hp0, hp1, hp2⟩ := info_parts infoK
      have h63 : 0 + ks.length ≤ maxLen ∧ (0 + ks.length) * 16 ≤ 140737488355328 := by unfold maxLen; omega
      have H63 := Lib.hid h63
      have hb5 : wr.heap.size ≤ (wr.alloc (.cells #[] 49)).heap.size := by simp
      clear hx2 hc2 hkm hm h63 hown hg
      go_wp2_with (first
        | (at_builtin; go_must (refine wpList_append_src _ rfl (.tmp 27) (.tmp 28) 64 rfl wr.heap.size 49 i5 _ 2 16 Try.underlying64 hi5 hp0 hp1 hp2 hq3 hq4 (.slice (some ⟨wr.heap.size, 0, none⟩) 0 0) 0 [] rfl (own_empty wr _ _ _ (Nat.le_refl _)) A ks.length c (cellsP ks) rfl (cellsP_len ks) hsrc (cellsP_one ks) H63.out.1 H63.out.2 hb5 ?_)
           intro v5 w5 hn5 hg5 hl5)
        | fail)
      simp only [Nat.zero_add, List.nil_append] at hn5
      have hm5 : Moves (fun _ => False) wr w5 := Moves.onto ((Moves.refl _ wr).alloc _) hg5 (low_sl _ _ _ (Nat.le_refl _))
      have hk5 := own_krow hn5 rfl
      obtain ⟨A5, c5, rfl, -, -, -, -, -⟩ := own_form hn5
      have HM5 := Lib.hid (HM.out.trans hm5)
      have HKM5 := Lib.hid (HKM.out.moves hm5 (fun _ _ _ h => h))
      have HK5 := Lib.hid hk5
      clear hsrc hn5 hg5 hl5 hb5 hm5 hk5 HKM HM
      have hS6 := sorted_any (HR.out.moves HM5.out (fun _ _ _ h => h)) (by omega) (rfl : sortK ks = sortK ks)
      have HS6 := Lib.hid hS6
      clear hS6
      refine HS6.out.mono ?_
      rintro e w7 ⟨v7, rfl, hk7, hm7⟩
      have hk5 := HK5.out.moves hm7 (fun _ _ _ h => h)
      obtain ⟨A7, c7, hv7, -⟩ := HK5.out
      cases hv7
      obtain ⟨A8, c8, hv8, hc8, hx8⟩ := hk5
      cases hv8
      have HM7 := Lib.hid (HM5.out.trans hm7)
      have HKM7 := Lib.hid (HKM5.out.moves hm7 (fun _ _ _ h => h))
      have HK7 := Lib.hid hk7
      have hrw := HR.out.moves HM7.out (fun _ _ _ h => h)
      obtain ⟨A2, c2, hv2, hc2, hx2⟩ := hrw
      cases hv2
      obtain ⟨A9, c9, rfl, -, -⟩ := hk7
      clear hm7 HKM5 HK5 HM5 HX HS6
      go_wp2_with fail
      go_loopg [7] ks.length (fun g s7 wr => ∃ i : Nat, i ≤ ks.length ∧ g = ks.length - i ∧ s7 = .int .i64 i ∧ Moves (fun _ => False) w7 wr)
      case atStart => exact ⟨0, Nat.zero_le _, rfl, rfl, Moves.refl _ _⟩
      case round =>
        obtain ⟨i, hi, hg, rfl, hm⟩ := hrel
        by_cases hik : i < ks.length
        · obtain ⟨g, o, rfl, -, hgl, hcell⟩ := hx2 (by omega)
          obtain ⟨g', o', rfl, -, hgl', hcell'⟩ := hx8 (by omega)
          have hv0 : wr.cell? ⟨g, o + i * 2, none⟩ = some (.int .i64 ks[i].1) := (hm.cell (p := ⟨g, o + i * 2, none⟩) hgl (fun h => h)).trans (hcell _ _ (cellsP_get hik).1)
          have hv1 : wr.cell? ⟨g, o + i * 2 + 1, none⟩ = some (.int .i64 ks[i].2) := (hm.cell (p := ⟨g, o + i * 2 + 1, none⟩) hgl (fun h => h)).trans (hcell _ _ (cellsP_get hik).2)
          have hv2 : wr.cell? ⟨g', o' + i * 2, none⟩ = some (.int .i64 ks[i].1) := (hm.cell (p := ⟨g', o' + i * 2, none⟩) hgl' (fun h => h)).trans (hcell' _ _ (cellsP_get hik).1)
          have hv3 : wr.cell? ⟨g', o' + i * 2 + 1, none⟩ = some (.int .i64 ks[i].2) := (hm.cell (p := ⟨g', o' + i * 2 + 1, none⟩) hgl' (fun h => h)).trans (hcell' _ _ (cellsP_get hik).2)
          clear hcell hcell' hx2 hx8
          generalize ks[i] = q at hv0 hv1 hv2 hv3
          obtain ⟨q1, q2⟩ := q
          have b0 : (0 : Int) ≤ (i : Int) := by omega
          have b1 : (i : Int) < (ks.length : Int) := by omega
          go_wp2_with fail
          go_quiet (fail)
          go_wp2
          go_roundg (ks.length - (i + 1))
          case measure => omega
          case rel => exact ⟨i + 1, by omega, rfl, by go_num, hm.drewN _⟩
        · obtain rfl : i = ks.length := by omega
          clear hx2 hx8
          have hS := refsorted_any (HKM7.out.moves hm (fun _ _ _ h => h)) (by omega) (rfl : sortK ks = sortK ks)
          have HS := Lib.hid hS
          have HM9 := Lib.hid (HM7.out.trans hm)
          have HK9 := Lib.hid (HK7.out.moves hm (fun _ _ _ h => h))
          clear hS hm hg
          go_wp2_with fail
          refine HS.out.mono ?_
          rintro e w9 ⟨v9, rfl, hown9, hm9⟩
          have hR := row_same (HK9.out.moves hm9 (fun _ _ _ h => h)) (own_krow hown9 rfl) (by rw [sortK_len]; omega)
          have HR9 := Lib.hid hR
          have HM10 := Lib.hid (HM9.out.trans hm9)
          clear hR hown9 hm9 HS
          go_wp2_with fail
          refine HR9.out.mono ?_
          rintro e w11 ⟨rfl, hm11⟩
          go_wp2
          go_ret
          exact ⟨rfl, HM10.out.trans hm11⟩
end Go.Proofs.Ytmennobdgfgjaaa
