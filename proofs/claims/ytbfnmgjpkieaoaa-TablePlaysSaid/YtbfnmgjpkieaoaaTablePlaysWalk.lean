/-
  The walk of TablePlays.
-/
import Derived.Test.YtbfnmgjpkieaoaaTPlaySw
import Derived.Test.YtbfnmgjpkieaoaaTabGood
import Derived.Deep.CutBlock
import Derived.Test.YtbfnmgjpkieaoaaTabAt
namespace Go.Proofs.Ytbfnmgjpkieaoaa.Tb
open Go Go.RowKit Go.Maps Go.Sort Go.Proofs Go.Shelf

theorem own_row {w : World} {base : Nat} {v : Value} {l : List (ByteArray × Int)} (h : w.ownsRow base 100 2 v l.length (cellsR l)) : RRow w (fun _ => True) v l := by
  obtain ⟨A, c, rfl, hc, -, -, -, hx⟩ := own_form h
  exact ⟨A, c, rfl, hc, fun h0 => by
    obtain ⟨g, hg, hb, hlt, hcell⟩ := hx h0
    exact ⟨g, 0, hg, trivial, hlt, fun j u hu => by rw [Nat.zero_add]; exact hcell j u hu⟩⟩
theorem row_cell1 {w : World} {base g n q : Nat} {R : List (ByteArray × Int)} (h : w.ownsRow base 100 2 (.slice (some ⟨g, 0, none⟩) n q) R.length (cellsR R)) {i : Nat} (hi : i < R.length) : w.cell? ⟨g, i * 2 + 1, none⟩ = some (.int .i64 (R[i]).2) := by
  obtain ⟨A, c, hv, _, _, _, _, hx⟩ := own_form h
  cases hv
  obtain ⟨g', hg, _, _, hcell⟩ := hx (by omega)
  cases hg
  exact hcell _ _ (cellsR_get R i hi).2
theorem sizeA (a : ActT) : (Try.prog.info? 95).map (·.size) = some (actC a).length := by
  rw [actC_len]
  kernel_rfl
set_option maxRecDepth 100000 in
set_option maxHeartbeats 16000000 in
theorem tableplays {w : World} {v : Value} {l : List ActT} (hA : Acts w v l) (hL : LenCell w) : Calls Try.prog 13 #[v] w (ValPost w (.bool true)) := by
  obtain ⟨A, c, rfl, hc, hx⟩ := hA
  have HK := Lib.hid (known_any hL)
  have HL := Lib.hid hL
  have HX := Lib.hid hx
  clear hL hx
  by_cases h120 : 120 < l.length
  · have h1 : (120 : Int) < (l.length : Int) := by omega
    clear h120
    go_enter Try.func13, Try.ntmps13
    go_wp2_with (first
      | (go_at_call 42
         refine HK.out.mono ?_
         rintro e w1 ⟨rfl, hm1⟩)
      | fail)
    go_ret
    exact ⟨rfl, hm1⟩
  have h1 : ¬ (120 : Int) < (l.length : Int) := by omega
  clear h120
  go_enter Try.func13, Try.ntmps13
  go_wp2_with (first
    | (go_at_call 42
       refine HK.out.mono ?_
       rintro e w1 ⟨rfl, hm1⟩)
    | fail)
  have HM1 := Lib.hid hm1
  have hst0 : KSt w1 w1.heap.size w1.heap.size [] (w1.alloc (.cells #[.map none] 84)) := KSt.new (HL.out.moves0 hm1)
  have HP0 : Hid (PlayT w1 (.pointer (some ⟨w1.heap.size, 0, none⟩)) (.slice none 0 0) (w1.alloc (.cells #[.map none] 84))) := Lib.hid ⟨_, [], rfl, hst0, World.ownsRow_nil _ _ _ _, GoodM.nil⟩
  clear hm1 hst0 HK
  generalize w1.heap.size = p0 at HP0 ⊢
  generalize w1.alloc (.cells #[.map none] 84) = w2 at HP0 ⊢
  go_loopg [3, 4, 5] l.length (fun g s3 s4 s5 wr => ∃ j : Nat, j ≤ l.length ∧ g = l.length - j ∧ s5 = .int .i64 j ∧ Hid (PlayT w1 s3 s4 wr))
  case atStart => exact ⟨0, Nat.zero_le _, rfl, rfl, HP0⟩
  case round =>
    obtain ⟨j, hj, hg, rfl, HP⟩ := hrel
    clear HP0
    by_cases hlt : j < l.length
    · have b0 : (0 : Int) ≤ (j : Int) := by omega
      have b1 : (j : Int) < (l.length : Int) := by omega
      obtain ⟨g, o, rfl, hgl, hcell⟩ := HX.out (by omega)
      obtain ⟨p, M, rfl, hst, hrow, hgood⟩ := HP.out
      obtain ⟨A4, q4, rfl, hc4, -, -, -, hx4⟩ := own_form hrow
      obtain ⟨a, ha⟩ : ∃ a, a = l[j] := ⟨_, rfl⟩
      have hmv := hst.under HM1.out (HM1.out.size)
      obtain ⟨hra, hwf⟩ := hcell j hlt
      rw [← ha] at hra hwf
      have hra2 : wr.rangeAt g (o + j * 34) (actC a) := fun k v hv => (hmv.cell (p := ⟨g, o + j * 34 + k, none⟩) hgl (fun h => h)).trans (hra k v hv)
      have HLA : Hid ((Instr.loadAt 95 (.pointer (some ⟨g, o + j * 34, none⟩))).run Try.prog wr = .ok (.agg (actC a).toArray) wr) := Lib.hid (run_loadAt_mid wr g _ 95 (actC a) _ hra2 Try.underlying95 rfl (sizeA a))
      have HSA : Hid (∀ c : Array Value, c.size = 34 → (Instr.storeAt 95 (.pointer (some ⟨wr.heap.size, 0, none⟩)) (.agg (actC a).toArray)).run Try.prog (wr.alloc (.cells c 95)) = .ok () (wr.alloc (.cells (actC a).toArray 95))) := Lib.hid (fun c hc => run_storeAt_new wr _ c _ (by rw [List.size_toArray]; exact sizeA a) (by rw [hc, List.size_toArray, actC_len]) (all_oneCell_toArray (actC_one a)))
      have HST := Lib.hid hst
      have HROW := Lib.hid hrow
      have HGOOD := Lib.hid hgood
      have HWF := Lib.hid hwf
      have HX4 : Hid (0 < M.length → ∃ g4, A4 = some ⟨g4, 0, none⟩) := Lib.hid (fun h => by obtain ⟨g4, e, -⟩ := hx4 h; exact ⟨g4, e⟩)
      have hfew : (M.length : Int) ≤ 64 := by have := hgood.few; omega
      clear hst hrow hgood hx4 hra hra2 hmv ha hcell hwf HP
      go_upto_region 11 with (first
        | (refine wpList_load_at (op := ⟨some 41, _, _, _, _, _⟩) rfl 95 (.tmp 40) rfl _ _ rfl HLA.out ?_
           go_frame)
        | (refine wpList_store_eq (o := ⟨none, .store _ _ _, _, _, _, _⟩) rfl 95 (.tmp 6) (.tmp 41) rfl _ _ rfl rfl _ (HSA.out _ rfl) ?_
           go_frame)
        | fail)
      have hst0 := HST.out.next0 ((Moves.refl _ wr).alloc (.cells (actC a).toArray 95))
      have hrow0 := HROW.out.alloc (.cells (actC a).toArray 95)
      have hblk0 := heap_alloc_new wr (.cells (actC a).toArray 95)
      clear HLA HSA HST HROW
      generalize wr.heap.size = ab at hblk0 ⊢
      generalize wr.alloc (.cells (actC a).toArray 95) = W0 at hst0 hrow0 hblk0 ⊢
      clear wr
      obtain ⟨op, n, tz⟩ := a
      have HST := Lib.hid hst0
      have HROW := Lib.hid hrow0
      have HBLK := Lib.hid hblk0
      have hnm : W0.rangeAt ab 1 (encM n) := fun j v hv => by
        have h := actC_nm ⟨op, n, tz⟩ hv
        simp only [World.cell?, hblk0, Option.isSome_none, Bool.false_eq_true, if_false]
        rw [← Array.getElem?_toList]
        exact h
      have HLD := Lib.hid (load_nmO hnm)
      have HAB : Hid (ab < W0.heap.size) := Lib.hid (Array.getElem?_eq_some_iff.1 hblk0).1
      have HC0 : Hid (W0.cell? ⟨ab, 0, none⟩ = some (.int .i64 op)) := Lib.hid (by
        have h := actC_op ⟨op, n, tz⟩
        simp only [World.cell?, hblk0, Option.isSome_none, Bool.false_eq_true, if_false]
        rw [← Array.getElem?_toList]
        exact h)
      have HGD := Lib.hid (good_any n W0)
      have HSG : Hid (goodN n = true → goodS n = txt n) := Lib.hid (fun h => by unfold goodS; rw [if_pos h])
      have HAT := Lib.hid (fun W (h : Moves (fun _ => False) W0 W) s => at_any (own_row (l := rowM M) (by rw [rowM_len]; exact own_moves hrow0 h (fun _ _ h => h))) (by rw [rowM_len]; have := HGOOD.out.few; omega) s)
      have HBAD : Hid (goodN n = false → hasN M n = false) := Lib.hid (fun h => bad_none HGOOD.out h)
      have HPL : Hid (goodN n = true → ∀ r, AtR (rowM M) (txt n) r → (∃ (i : Nat) (hi : i < M.length), r = i ∧ (M[i]).1 = n ∧ hasN M n = true) ∨ (r = -1 ∧ hasN M n = false)) := Lib.hid (fun h r hr => at_place HGOOD.out h hr)
      have hgn : ∃ gb, goodN n = gb := ⟨_, rfl⟩
      obtain ⟨gb, hgn⟩ := hgn
      have HGN := Lib.hid hgn
      unfold GoodPost at HGD
      rw [hgn] at HGD HSG HBAD HPL
      clear hst0 hrow0 hblk0 hnm hgn
      obtain ⟨sg, hsg⟩ : ∃ sg, goodS n = sg := ⟨_, rfl⟩
      rw [hsg] at HGD HSG
      clear hsg
      cases gb
      · go_upto_block 2 with (first
          | (refine wpList_load_at (op := ⟨some 44, _, _, _, _, _⟩) rfl 77 (.tmp 43) rfl _ _ rfl HLD.out ?_
             go_frame)
          | (go_at_call 49
             refine HGD.out.mono ?_
             rintro e W1 ⟨rfl, hg1⟩
             have hc0 := (hg1.cell (p := ⟨ab, 0, none⟩) HAB.out (fun h => h)).trans HC0.out
             have HG1 := Lib.hid hg1)
          | fail)
        have hS : SwT w1 W1 p ab M A4 q4 n op tz sg false (-1) 0 := ⟨HST.out.next0 HG1.out, own_moves HROW.out HG1.out (fun _ _ h => h), HGOOD.out, (HG1.out.block ab HAB.out (fun h => h)).trans HBLK.out, HGN.out, (fun h => by cases h), .inr ⟨rfl, rfl, HBAD.out (by trivial)⟩, HWF.out⟩
        clear hg1 hc0
        refine sw_all (by kernel_rfl) hS ?_
        intro u3 u4 u11 u12 u13 u14 u15 u16 u17 u18 u19 u20 u21 u61 u62 u63 u64 u65 u66 u67 u68 u69 u70 u71 u72 u73 u74 u75 u76 u77 u78 u79 u80 u81 u82 u83 u84 u85 u86 u87 u88 u89 u90 u91 u92 u93 u94 u95 u96 u97 u98 u99 u100 u101 u102 u103 u104 u105 u106 u107 u108 u109 u110 u111 u112 u113 u114 u115 u116 u117 u118 u119 u120 u121 u122 u123 u124 u125 u126 u127 u128 u129 u130 u131 u132 u133 u134 u135 u136 u137 u138 u139 u140 u141 u142 u143 u144 u145 u146 u147 u148 u149 u150 u151 u152 u153 u154 u155 u156 u157 u158 u159 u160 u161 u162 u163 u164 u165 u166 u167 u168 u169 u170 u171 u172 u173 u174 u175 u176 u177 u178 u179 u180 u181 u182 u183 u184 u185 u186 u187 u188 u189 u190 u191 u192 u193 u194 u195 u196 u197 u198 u199 u200 w6 hP
        clear hS
        obtain ⟨p', M', rfl, hst', hrow', hgood'⟩ := hP
        obtain ⟨R, hR⟩ : ∃ R, R = rootsM M' := ⟨_, rfl⟩
        have hRl : R.length = M'.length := by rw [hR]; unfold rootsM; rw [List.length_map, (sortN_isPerm _).length_eq, List.length_map]
        have HRT := Lib.hid (roots_any hst'.tab hst'.len (by have := hgood'.few; omega))
        rw [← hR] at HRT
        have HRI := Lib.hid (fun W (h : Moves (fun _ => False) w6 W) => rising_any (own_row (l := rowM M') (by rw [rowM_len]; exact own_moves hrow' h (fun _ _ h => h))) (by rw [rowM_len]; have := hgood'.few; omega))
        have HLN := Lib.hid (fun W (h : Moves (fun _ => False) w6 W) => len_any (hst'.tab.moves0 h))
        rw [← hRl] at HLN
        have HRS : Hid (∀ ks : List (ByteArray × Int), ks.Perm (rowM M') → ks.Pairwise (fun a b => ¬ gtR a b) → ks = R) := Lib.hid (fun ks h1 h2 => by rw [hR]; exact roots_sorted hgood' h1 h2)
        have HP6 : Hid (∀ W, Moves (fun _ => False) w6 W → PlayT w1 (.pointer (some ⟨p', 0, none⟩)) u4 W) := Lib.hid (fun W h => ⟨p', M', rfl, hst'.next0 h, own_moves hrow' h (fun _ _ h => h), hgood'⟩)
        have hfw : R.length ≤ 64 := by rw [hRl]; exact hgood'.few
        rw [← rowM_len M'] at hrow'
        obtain ⟨A6, q6, rfl, -, -, -, -, -⟩ := own_form hrow'
        have b1 : ((R.length : Int) != (R.length : Int)) = false := by simp
        clear hst' hrow' hgood' hR hRl
        go_upto_region 58 with (first
          | (go_at_call 53
             refine HRT.out.mono ?_
             rintro e w7 ⟨v1, rfl, hr7, hm7⟩
             obtain ⟨A1, k1, rfl, hk1, hx1⟩ := hr7
             have HM7 := Lib.hid hm7)
          | (go_at_call 54
             refine (HRI.out _ HM7.out).mono ?_
             rintro e w8 ⟨v2, ks, rfl, hp8, hs8, ho8, hm8⟩
             obtain rfl := (HRS.out ks hp8 hs8).symm
             obtain ⟨A2, k2, rfl, hk2, -, -, -, hx2⟩ := own_form ho8
             have HM8 := Lib.hid (HM7.out.trans hm8)
             have HM78 := Lib.hid hm8)
          | (go_at_call 47
             refine (HLN.out _ HM8.out).mono ?_
             rintro e w9 ⟨rfl, rfl⟩)
          | fail)
        have hm8 := HM8.out
        have HXX : Hid (∀ wq, Moves (fun _ => False) w8 wq → ∀ i (hi : i < R.length), (∃ g1 o1, A1 = some ⟨g1, o1, none⟩ ∧ wq.cell? ⟨g1, o1 + i * 2, none⟩ = some (.string (R[i]).1) ∧ wq.cell? ⟨g1, o1 + i * 2 + 1, none⟩ = some (.int .i64 (R[i]).2)) ∧ ∃ g2, A2 = some ⟨g2, 0, none⟩ ∧ wq.cell? ⟨g2, i * 2, none⟩ = some (.string (R[i]).1) ∧ wq.cell? ⟨g2, i * 2 + 1, none⟩ = some (.int .i64 (R[i]).2)) := Lib.hid (fun wq hq i hi => by
          obtain ⟨g1, o1, e1, -, hl1, hc1⟩ := hx1 (by omega)
          obtain ⟨g2, e2, -, hl2, hc2⟩ := hx2 (by omega)
          have hl1' := Nat.lt_of_lt_of_le hl1 HM78.out.size
          refine ⟨⟨g1, o1, e1, ?_, ?_⟩, g2, e2, ?_, ?_⟩
          · exact (hq.cell (p := ⟨g1, o1 + i * 2, none⟩) hl1' (fun h => h)).trans ((HM78.out.cell (p := ⟨g1, o1 + i * 2, none⟩) hl1 (fun h => h)).trans (hc1 _ _ (cellsR_get R i hi).1))
          · exact (hq.cell (p := ⟨g1, o1 + i * 2 + 1, none⟩) hl1' (fun h => h)).trans ((HM78.out.cell (p := ⟨g1, o1 + i * 2 + 1, none⟩) hl1 (fun h => h)).trans (hc1 _ _ (cellsR_get R i hi).2))
          · exact (hq.cell (p := ⟨g2, i * 2, none⟩) hl2 (fun h => h)).trans (hc2 _ _ (cellsR_get R i hi).1)
          · exact (hq.cell (p := ⟨g2, i * 2 + 1, none⟩) hl2 (fun h => h)).trans (hc2 _ _ (cellsR_get R i hi).2))
        clear hx1 hx2 ho8 hm8 hp8 hs8 HRT HRI HLN HRS
        go_wp2_with fail
        go_loopg [24] R.length (fun g s24 wq => ∃ i : Nat, i ≤ R.length ∧ g = R.length - i ∧ s24 = .int .i64 i ∧ Hid (Moves (fun _ => False) w8 wq))
        case atStart => exact ⟨0, Nat.zero_le _, rfl, rfl, Lib.hid (Moves.refl _ _)⟩
        case round =>
          obtain ⟨i, hi, hgi, rfl, HQ⟩ := hrel
          have i0 : (0 : Int) ≤ (i : Int) := by omega
          by_cases hiR : i < R.length
          · have i1 : (i : Int) < (R.length : Int) := by omega
            obtain ⟨⟨g1, o1, rfl, p0, p1⟩, g2, rfl, q0, q1⟩ := HXX.out wr HQ.out i hiR
            generalize R[i] = x at p0 p1 q0 q1
            obtain ⟨x1, x2⟩ := x
            dsimp only at p0 p1 q0 q1
            go_wp2_with fail
            go_quiet (fail)
            have HQ2 := Lib.hid (HQ.out.drewN nq)
            go_wp2_with fail
            go_roundg (R.length - (i + 1))
            case measure => omega
            case rel => exact ⟨i + 1, by omega, rfl, by go_num, HQ2⟩
          · obtain rfl : i = R.length := by omega
            have HPW := Lib.hid (HP6.out wr (HM8.out.trans HQ.out))
            go_wp2_with fail
            go_roundg (l.length - (j + 1))
            case measure => omega
            case rel => exact ⟨j + 1, by omega, rfl, by go_num, HPW⟩
      · go_upto_region 15 with (first
          | (refine wpList_load_at (op := ⟨some 44, _, _, _, _, _⟩) rfl 77 (.tmp 43) rfl _ _ rfl HLD.out ?_
             go_frame)
          | (go_at_call 49
             refine HGD.out.mono ?_
             rintro e W1 ⟨rfl, hg1⟩
             have hc0 := (hg1.cell (p := ⟨ab, 0, none⟩) HAB.out (fun h => h)).trans HC0.out
             have HG1 := Lib.hid hg1)
          | (go_at_call 50
             refine (HAT.out _ HG1.out _).mono ?_
             rintro e W2 ⟨r, rfl, hr, rfl⟩
             have HR := Lib.hid hr
             clear hr)
          | fail)
        have hpl := HPL.out (by trivial) r (by rw [← HSG.out (by trivial)]; exact HR.out)
        rcases hpl with ⟨i, hi, rfl, hn, hh⟩ | ⟨rfl, hh⟩
        · have i0 : (0 : Int) ≤ (i : Int) := by omega
          have i1 : (i : Int) < (M.length : Int) := by omega
          obtain ⟨g4, rfl⟩ := HX4.out (by omega)
          have hrw := own_moves HROW.out HG1.out (fun _ _ h => h)
          have HRW := Lib.hid hrw
          rw [← rowM_len M] at hrw
          have hv := row_cell1 (by rw [rowM_len] at hrw ⊢; exact hrw) (i := i) (by rw [rowM_len]; exact hi)
          have e1 : ((rowM M)[i]'(by rw [rowM_len]; exact hi)).2 = getZ M n := by
            rw [← hn, place_get hi HGOOD.out.nodup]
            exact congrArg Prod.snd (List.getElem_map ..)
          rw [e1] at hv
          have HPC : Hid (∃ (i' : Nat) (hi : i' < M.length), (i : Int) = i' ∧ (M[i']).1 = n ∧ hasN M n = true ∧ getZ M n = getZ M n) := Lib.hid ⟨i, hi, rfl, hn, hh, rfl⟩
          have HC4 := Lib.hid hc4
          clear e1 hrw hn hh
          generalize hzz : getZ M n = zz at hv
          have HZZ := Lib.hid hzz.symm
          clear hzz
          go_upto_block 2 with fail
          have hS : SwT w1 W1 p ab M (some ⟨g4, 0, none⟩) q4 n op tz sg true i zz := ⟨HST.out.next0 HG1.out, HRW.out, HGOOD.out, (HG1.out.block ab HAB.out (fun h => h)).trans HBLK.out, HGN.out, (fun _ => HSG.out (by trivial)), .inl ⟨rfl, by obtain ⟨i', h1, h2, h3, h4, -⟩ := HPC.out; exact ⟨i', h1, h2, h3, h4, HZZ.out⟩⟩, HWF.out⟩
          clear hg1 hc0 hv
          refine sw_all (by kernel_rfl) hS ?_
          intro u3 u4 u11 u12 u13 u14 u15 u16 u17 u18 u19 u20 u21 u61 u62 u63 u64 u65 u66 u67 u68 u69 u70 u71 u72 u73 u74 u75 u76 u77 u78 u79 u80 u81 u82 u83 u84 u85 u86 u87 u88 u89 u90 u91 u92 u93 u94 u95 u96 u97 u98 u99 u100 u101 u102 u103 u104 u105 u106 u107 u108 u109 u110 u111 u112 u113 u114 u115 u116 u117 u118 u119 u120 u121 u122 u123 u124 u125 u126 u127 u128 u129 u130 u131 u132 u133 u134 u135 u136 u137 u138 u139 u140 u141 u142 u143 u144 u145 u146 u147 u148 u149 u150 u151 u152 u153 u154 u155 u156 u157 u158 u159 u160 u161 u162 u163 u164 u165 u166 u167 u168 u169 u170 u171 u172 u173 u174 u175 u176 u177 u178 u179 u180 u181 u182 u183 u184 u185 u186 u187 u188 u189 u190 u191 u192 u193 u194 u195 u196 u197 u198 u199 u200 w6 hP
          clear hS
          obtain ⟨p', M', rfl, hst', hrow', hgood'⟩ := hP
          obtain ⟨R, hR⟩ : ∃ R, R = rootsM M' := ⟨_, rfl⟩
          have hRl : R.length = M'.length := by rw [hR]; unfold rootsM; rw [List.length_map, (sortN_isPerm _).length_eq, List.length_map]
          have HRT := Lib.hid (roots_any hst'.tab hst'.len (by have := hgood'.few; omega))
          rw [← hR] at HRT
          have HRI := Lib.hid (fun W (h : Moves (fun _ => False) w6 W) => rising_any (own_row (l := rowM M') (by rw [rowM_len]; exact own_moves hrow' h (fun _ _ h => h))) (by rw [rowM_len]; have := hgood'.few; omega))
          have HLN := Lib.hid (fun W (h : Moves (fun _ => False) w6 W) => len_any (hst'.tab.moves0 h))
          rw [← hRl] at HLN
          have HRS : Hid (∀ ks : List (ByteArray × Int), ks.Perm (rowM M') → ks.Pairwise (fun a b => ¬ gtR a b) → ks = R) := Lib.hid (fun ks h1 h2 => by rw [hR]; exact roots_sorted hgood' h1 h2)
          have HP6 : Hid (∀ W, Moves (fun _ => False) w6 W → PlayT w1 (.pointer (some ⟨p', 0, none⟩)) u4 W) := Lib.hid (fun W h => ⟨p', M', rfl, hst'.next0 h, own_moves hrow' h (fun _ _ h => h), hgood'⟩)
          have hfw : R.length ≤ 64 := by rw [hRl]; exact hgood'.few
          rw [← rowM_len M'] at hrow'
          obtain ⟨A6, q6, rfl, -, -, -, -, -⟩ := own_form hrow'
          have b1 : ((R.length : Int) != (R.length : Int)) = false := by simp
          clear hst' hrow' hgood' hR hRl
          go_upto_region 58 with (first
            | (go_at_call 53
               refine HRT.out.mono ?_
               rintro e w7 ⟨v1, rfl, hr7, hm7⟩
               obtain ⟨A1, k1, rfl, hk1, hx1⟩ := hr7
               have HM7 := Lib.hid hm7)
            | (go_at_call 54
               refine (HRI.out _ HM7.out).mono ?_
               rintro e w8 ⟨v2, ks, rfl, hp8, hs8, ho8, hm8⟩
               obtain rfl := (HRS.out ks hp8 hs8).symm
               obtain ⟨A2, k2, rfl, hk2, -, -, -, hx2⟩ := own_form ho8
               have HM8 := Lib.hid (HM7.out.trans hm8)
               have HM78 := Lib.hid hm8)
            | (go_at_call 47
               refine (HLN.out _ HM8.out).mono ?_
               rintro e w9 ⟨rfl, rfl⟩)
            | fail)
          have hm8 := HM8.out
          have HXX : Hid (∀ wq, Moves (fun _ => False) w8 wq → ∀ i (hi : i < R.length), (∃ g1 o1, A1 = some ⟨g1, o1, none⟩ ∧ wq.cell? ⟨g1, o1 + i * 2, none⟩ = some (.string (R[i]).1) ∧ wq.cell? ⟨g1, o1 + i * 2 + 1, none⟩ = some (.int .i64 (R[i]).2)) ∧ ∃ g2, A2 = some ⟨g2, 0, none⟩ ∧ wq.cell? ⟨g2, i * 2, none⟩ = some (.string (R[i]).1) ∧ wq.cell? ⟨g2, i * 2 + 1, none⟩ = some (.int .i64 (R[i]).2)) := Lib.hid (fun wq hq i hi => by
            obtain ⟨g1, o1, e1, -, hl1, hc1⟩ := hx1 (by omega)
            obtain ⟨g2, e2, -, hl2, hc2⟩ := hx2 (by omega)
            have hl1' := Nat.lt_of_lt_of_le hl1 HM78.out.size
            refine ⟨⟨g1, o1, e1, ?_, ?_⟩, g2, e2, ?_, ?_⟩
            · exact (hq.cell (p := ⟨g1, o1 + i * 2, none⟩) hl1' (fun h => h)).trans ((HM78.out.cell (p := ⟨g1, o1 + i * 2, none⟩) hl1 (fun h => h)).trans (hc1 _ _ (cellsR_get R i hi).1))
            · exact (hq.cell (p := ⟨g1, o1 + i * 2 + 1, none⟩) hl1' (fun h => h)).trans ((HM78.out.cell (p := ⟨g1, o1 + i * 2 + 1, none⟩) hl1 (fun h => h)).trans (hc1 _ _ (cellsR_get R i hi).2))
            · exact (hq.cell (p := ⟨g2, i * 2, none⟩) hl2 (fun h => h)).trans (hc2 _ _ (cellsR_get R i hi).1)
            · exact (hq.cell (p := ⟨g2, i * 2 + 1, none⟩) hl2 (fun h => h)).trans (hc2 _ _ (cellsR_get R i hi).2))
          clear hx1 hx2 ho8 hm8 hp8 hs8 HRT HRI HLN HRS
          go_wp2_with fail
          go_loopg [24] R.length (fun g s24 wq => ∃ i : Nat, i ≤ R.length ∧ g = R.length - i ∧ s24 = .int .i64 i ∧ Hid (Moves (fun _ => False) w8 wq))
          case atStart => exact ⟨0, Nat.zero_le _, rfl, rfl, Lib.hid (Moves.refl _ _)⟩
          case round =>
            obtain ⟨i, hi, hgi, rfl, HQ⟩ := hrel
            have i0 : (0 : Int) ≤ (i : Int) := by omega
            by_cases hiR : i < R.length
            · have i1 : (i : Int) < (R.length : Int) := by omega
              obtain ⟨⟨g1, o1, rfl, p0, p1⟩, g2, rfl, q0, q1⟩ := HXX.out wr HQ.out i hiR
              generalize R[i] = x at p0 p1 q0 q1
              obtain ⟨x1, x2⟩ := x
              dsimp only at p0 p1 q0 q1
              go_wp2_with fail
              go_quiet (fail)
              have HQ2 := Lib.hid (HQ.out.drewN nq)
              go_wp2_with fail
              go_roundg (R.length - (i + 1))
              case measure => omega
              case rel => exact ⟨i + 1, by omega, rfl, by go_num, HQ2⟩
            · obtain rfl : i = R.length := by omega
              have HPW := Lib.hid (HP6.out wr (HM8.out.trans HQ.out))
              go_wp2_with fail
              go_roundg (l.length - (j + 1))
              case measure => omega
              case rel => exact ⟨j + 1, by omega, rfl, by go_num, HPW⟩
        · go_upto_block 2 with fail
          have hS : SwT w1 W1 p ab M A4 q4 n op tz sg true (-1) 0 := ⟨HST.out.next0 HG1.out, own_moves HROW.out HG1.out (fun _ _ h => h), HGOOD.out, (HG1.out.block ab HAB.out (fun h => h)).trans HBLK.out, HGN.out, (fun _ => HSG.out (by trivial)), .inr ⟨rfl, rfl, hh⟩, HWF.out⟩
          clear hg1 hc0 hh
          refine sw_all (by kernel_rfl) hS ?_
          intro u3 u4 u11 u12 u13 u14 u15 u16 u17 u18 u19 u20 u21 u61 u62 u63 u64 u65 u66 u67 u68 u69 u70 u71 u72 u73 u74 u75 u76 u77 u78 u79 u80 u81 u82 u83 u84 u85 u86 u87 u88 u89 u90 u91 u92 u93 u94 u95 u96 u97 u98 u99 u100 u101 u102 u103 u104 u105 u106 u107 u108 u109 u110 u111 u112 u113 u114 u115 u116 u117 u118 u119 u120 u121 u122 u123 u124 u125 u126 u127 u128 u129 u130 u131 u132 u133 u134 u135 u136 u137 u138 u139 u140 u141 u142 u143 u144 u145 u146 u147 u148 u149 u150 u151 u152 u153 u154 u155 u156 u157 u158 u159 u160 u161 u162 u163 u164 u165 u166 u167 u168 u169 u170 u171 u172 u173 u174 u175 u176 u177 u178 u179 u180 u181 u182 u183 u184 u185 u186 u187 u188 u189 u190 u191 u192 u193 u194 u195 u196 u197 u198 u199 u200 w6 hP
          clear hS
          obtain ⟨p', M', rfl, hst', hrow', hgood'⟩ := hP
          obtain ⟨R, hR⟩ : ∃ R, R = rootsM M' := ⟨_, rfl⟩
          have hRl : R.length = M'.length := by rw [hR]; unfold rootsM; rw [List.length_map, (sortN_isPerm _).length_eq, List.length_map]
          have HRT := Lib.hid (roots_any hst'.tab hst'.len (by have := hgood'.few; omega))
          rw [← hR] at HRT
          have HRI := Lib.hid (fun W (h : Moves (fun _ => False) w6 W) => rising_any (own_row (l := rowM M') (by rw [rowM_len]; exact own_moves hrow' h (fun _ _ h => h))) (by rw [rowM_len]; have := hgood'.few; omega))
          have HLN := Lib.hid (fun W (h : Moves (fun _ => False) w6 W) => len_any (hst'.tab.moves0 h))
          rw [← hRl] at HLN
          have HRS : Hid (∀ ks : List (ByteArray × Int), ks.Perm (rowM M') → ks.Pairwise (fun a b => ¬ gtR a b) → ks = R) := Lib.hid (fun ks h1 h2 => by rw [hR]; exact roots_sorted hgood' h1 h2)
          have HP6 : Hid (∀ W, Moves (fun _ => False) w6 W → PlayT w1 (.pointer (some ⟨p', 0, none⟩)) u4 W) := Lib.hid (fun W h => ⟨p', M', rfl, hst'.next0 h, own_moves hrow' h (fun _ _ h => h), hgood'⟩)
          have hfw : R.length ≤ 64 := by rw [hRl]; exact hgood'.few
          rw [← rowM_len M'] at hrow'
          obtain ⟨A6, q6, rfl, -, -, -, -, -⟩ := own_form hrow'
          have b1 : ((R.length : Int) != (R.length : Int)) = false := by simp
          clear hst' hrow' hgood' hR hRl
          go_upto_region 58 with (first
            | (go_at_call 53
               refine HRT.out.mono ?_
               rintro e w7 ⟨v1, rfl, hr7, hm7⟩
               obtain ⟨A1, k1, rfl, hk1, hx1⟩ := hr7
               have HM7 := Lib.hid hm7)
            | (go_at_call 54
               refine (HRI.out _ HM7.out).mono ?_
               rintro e w8 ⟨v2, ks, rfl, hp8, hs8, ho8, hm8⟩
               obtain rfl := (HRS.out ks hp8 hs8).symm
               obtain ⟨A2, k2, rfl, hk2, -, -, -, hx2⟩ := own_form ho8
               have HM8 := Lib.hid (HM7.out.trans hm8)
               have HM78 := Lib.hid hm8)
            | (go_at_call 47
               refine (HLN.out _ HM8.out).mono ?_
               rintro e w9 ⟨rfl, rfl⟩)
            | fail)
          have hm8 := HM8.out
          have HXX : Hid (∀ wq, Moves (fun _ => False) w8 wq → ∀ i (hi : i < R.length), (∃ g1 o1, A1 = some ⟨g1, o1, none⟩ ∧ wq.cell? ⟨g1, o1 + i * 2, none⟩ = some (.string (R[i]).1) ∧ wq.cell? ⟨g1, o1 + i * 2 + 1, none⟩ = some (.int .i64 (R[i]).2)) ∧ ∃ g2, A2 = some ⟨g2, 0, none⟩ ∧ wq.cell? ⟨g2, i * 2, none⟩ = some (.string (R[i]).1) ∧ wq.cell? ⟨g2, i * 2 + 1, none⟩ = some (.int .i64 (R[i]).2)) := Lib.hid (fun wq hq i hi => by
            obtain ⟨g1, o1, e1, -, hl1, hc1⟩ := hx1 (by omega)
            obtain ⟨g2, e2, -, hl2, hc2⟩ := hx2 (by omega)
            have hl1' := Nat.lt_of_lt_of_le hl1 HM78.out.size
            refine ⟨⟨g1, o1, e1, ?_, ?_⟩, g2, e2, ?_, ?_⟩
            · exact (hq.cell (p := ⟨g1, o1 + i * 2, none⟩) hl1' (fun h => h)).trans ((HM78.out.cell (p := ⟨g1, o1 + i * 2, none⟩) hl1 (fun h => h)).trans (hc1 _ _ (cellsR_get R i hi).1))
            · exact (hq.cell (p := ⟨g1, o1 + i * 2 + 1, none⟩) hl1' (fun h => h)).trans ((HM78.out.cell (p := ⟨g1, o1 + i * 2 + 1, none⟩) hl1 (fun h => h)).trans (hc1 _ _ (cellsR_get R i hi).2))
            · exact (hq.cell (p := ⟨g2, i * 2, none⟩) hl2 (fun h => h)).trans (hc2 _ _ (cellsR_get R i hi).1)
            · exact (hq.cell (p := ⟨g2, i * 2 + 1, none⟩) hl2 (fun h => h)).trans (hc2 _ _ (cellsR_get R i hi).2))
          clear hx1 hx2 ho8 hm8 hp8 hs8 HRT HRI HLN HRS
          go_wp2_with fail
          go_loopg [24] R.length (fun g s24 wq => ∃ i : Nat, i ≤ R.length ∧ g = R.length - i ∧ s24 = .int .i64 i ∧ Hid (Moves (fun _ => False) w8 wq))
          case atStart => exact ⟨0, Nat.zero_le _, rfl, rfl, Lib.hid (Moves.refl _ _)⟩
          case round =>
            obtain ⟨i, hi, hgi, rfl, HQ⟩ := hrel
            have i0 : (0 : Int) ≤ (i : Int) := by omega
            by_cases hiR : i < R.length
            · have i1 : (i : Int) < (R.length : Int) := by omega
              obtain ⟨⟨g1, o1, rfl, p0, p1⟩, g2, rfl, q0, q1⟩ := HXX.out wr HQ.out i hiR
              generalize R[i] = x at p0 p1 q0 q1
              obtain ⟨x1, x2⟩ := x
              dsimp only at p0 p1 q0 q1
              go_wp2_with fail
              go_quiet (fail)
              have HQ2 := Lib.hid (HQ.out.drewN nq)
              go_wp2_with fail
              go_roundg (R.length - (i + 1))
              case measure => omega
              case rel => exact ⟨i + 1, by omega, rfl, by go_num, HQ2⟩
            · obtain rfl : i = R.length := by omega
              have HPW := Lib.hid (HP6.out wr (HM8.out.trans HQ.out))
              go_wp2_with fail
              go_roundg (l.length - (j + 1))
              case measure => omega
              case rel => exact ⟨j + 1, by omega, rfl, by go_num, HPW⟩
    · obtain rfl : j = l.length := by omega
      obtain ⟨p, M, rfl, hst, hrow, hgood⟩ := HP.out
      have hmv := hst.under HM1.out (HM1.out.size)
      clear hst hrow hgood HP
      go_wp2_with fail
      go_ret
      exact ⟨rfl, hmv⟩
end Go.Proofs.Ytbfnmgjpkieaoaa.Tb
