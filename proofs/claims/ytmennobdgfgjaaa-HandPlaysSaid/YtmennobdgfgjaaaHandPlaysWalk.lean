/-
  The walk of HandPlays: any handles opened, closed, renumbered, as a row of handles has them.
-/
import Derived.Test.YtmennobdgfgjaaaHandPlaysSw
import Derived.Deep.CutBlock
import Derived.Deep.LoopGhost
namespace Go.Proofs.Ytmennobdgfgjaaa
open Go Go.RowKit Go.Maps Go.Sort Go.Shelf Go.Proofs

set_option maxRecDepth 100000 in
set_option maxHeartbeats 8000000 in
theorem hand_plays {w : World} {v : Value} {l : List ActD} {x : Int} (hA : Acts w v l) (hx : iw x) : Calls Try.prog 6 #[v, .int .i64 x] w (LawPost w) := by
  obtain ⟨A, c, rfl, hc, hcells⟩ := hA
  have Hx := Lib.hid hx
  clear hx
  by_cases h1 : 100 < l.length
  · have e1 : (100 : Int) < l.length := by omega
    clear hcells
    go_enter Try.func6, Try.ntmps6
    go_wp2_with fail
    refine (hand_known w).mono ?_
    rintro e w1 ⟨rfl, hM⟩
    go_wp2
    go_ret
    exact ⟨rfl, hM⟩
  have e1 : ¬ (100 : Int) < l.length := by omega
  have h100 : l.length ≤ 100 := by omega
  clear h1
  go_enter Try.func6, Try.ntmps6
  go_wp2_with fail
  refine (hand_known w).mono ?_
  rintro e w1 ⟨rfl, hM⟩
  go_wp2_with fail
  refine (new_ex w1).mono ?_
  rintro e w2 ⟨p, m, rfl, hT, hp, hm, hM2⟩
  have hp' : w.heap.size ≤ p := Nat.le_trans hM.size hp
  have hm' : w.heap.size ≤ m := Nat.le_trans hM.size hm
  replace hM := hM.trans hM2
  clear hM2 hp hm
  go_wp2_with fail
  go_loopg [5, 6, 7, 8] l.length (fun g s5 s6 s7 s8 wr => ∃ k : Nat, k ≤ l.length ∧ g = l.length - k ∧ s8 = .int .i64 k ∧ PlayAt w k s5 s6 s7 wr)
  case atStart => exact ⟨0, Nat.zero_le _, rfl, rfl, p, m, [], 0, rfl, rfl, hT, World.ownsRow_nil _ _ _ _, by simp, by simp, hp', hm', hM⟩
  case round =>
    obtain ⟨k, hk, rfl, rfl, hP⟩ := hrel
    clear hT hM
    by_cases hlt : k < l.length
    · obtain ⟨g, o, rfl, hgl, hact⟩ := hcells (by omega)
      have hak := hact k hlt
      clear hact hcells
      generalize l[k] = a at hak
      obtain ⟨p, m, R, last, rfl, rfl, hT, hown, hRn, hln, hp, hm, hM⟩ := hP
      have hc0 : wr.cell? ⟨g, o + k * 3, none⟩ = some (.int .i64 a.op) := (hM.cell (p := ⟨g, o + k * 3, none⟩) hgl (fun h => h)).trans hak.op
      have hc1 : wr.cell? ⟨g, o + k * 3 + 1, none⟩ = some (.int .i64 a.n) := (hM.cell (p := ⟨g, o + k * 3 + 1, none⟩) hgl (fun h => h)).trans hak.n
      have hc2 : wr.cell? ⟨g, o + k * 3 + 2, none⟩ = some a.tv := (hM.cell (p := ⟨g, o + k * 3 + 2, none⟩) hgl (fun h => h)).trans hak.tv
      obtain ⟨AT, cT, htv, hcT, hcellT⟩ := hak.row
      rw [htv] at hc2
      simp only [List.length_map] at hcT hcellT hc2
      by_cases h60 : 60 < a.trow.length
      · have e60 : (60 : Int) < a.trow.length := by omega
        clear hcellT
        go_wp2
        go_ret
        exact ⟨rfl, hM.alloc _⟩
      · have e60 : ¬ (60 : Int) < a.trow.length := by omega
        go_upto_block 2 with fail
        have hTa : Tab (wr.alloc (.cells #[.int .i64 a.op, .int .i64 a.n, .slice AT a.trow.length cT] 42)) p m R last := hT.moves ((Moves.refl (fun _ => False) _).alloc _) (fun h => h) (fun h => h)
        have howna : (wr.alloc (.cells #[.int .i64 a.op, .int .i64 a.n, .slice AT a.trow.length cT] 42)).ownsRow w.heap.size 44 2 u6 R.length (cellsP R) := hown.alloc _
        have hMa : Moves (fun _ => False) w (wr.alloc (.cells #[.int .i64 a.op, .int .i64 a.n, .slice AT a.trow.length cT] 42)) := hM.alloc _
        have hba : (wr.alloc (.cells #[.int .i64 a.op, .int .i64 a.n, .slice AT a.trow.length cT] 42)).heap[wr.heap.size]? = some (.cells #[.int .i64 a.op, .int .i64 a.n, .slice AT a.trow.length cT] 42 (0, 0)) := heap_alloc_new _ _
        have hsb : w.heap.size ≤ wr.heap.size := hM.size
        generalize wr.heap.size = ab at hba hsb ⊢
        generalize wr.alloc (.cells #[.int .i64 a.op, .int .i64 a.n, .slice AT a.trow.length cT] 42) = wa at hTa howna hMa hba ⊢
        clear hT hown hM hc0 hc1 hc2
        obtain ⟨A6, c6, rfl, hc6, -, -, -, -⟩ := own_form howna
        have hrow := hak.row
        rw [htv, List.length_map] at hrow
        have hS : Sw w wa p m ab R last a.op a.n AT cT a.trow A6 c6 k := ⟨hTa, howna, hba, hMa, hsb, hp, hm, hRn, hln, by omega, hrow, hak.wn, hak.wto, by omega⟩
        clear hTa howna hba hMa hcellT hak hrow
        refine sw_all (by kernel_rfl) hS ?_
        intro u4 u5 u6 u7 u10 u11 u12 u13 u14 u15 u16 u17 u18 u19 u20 u21 u22 u51 u52 u53 u54 u55 u56 u57 u58 u59 u60 u61 u62 u63 u64 u65 u66 u67 u68 u69 u70 u71 u72 u73 u74 u75 u76 u77 u78 u79 u80 u81 u82 u83 u84 u85 u86 u87 u88 u89 u90 u91 u92 u93 u94 u95 u96 u97 u98 u99 u100 u101 u102 u103 u104 u105 u106 u107 u108 u109 u110 u111 u112 u113 u114 u115 u116 u117 u118 u119 u120 u121 u122 u123 u124 u125 u126 u127 u128 u129 u130 u131 u132 u133 u134 u135 u136 u137 u138 u139 u140 u141 u142 u143 u144 u145 u146 u147 u148 u149 u150 u151 u152 u153 u154 u155 u156 u157 u158 u159 u160 u161 u162 u163 u164 u165 u166 u167 u168 u169 u170 u171 u172 u173 u174 u175 u176 u177 u178 u179 u180 u181 u182 u183 u184 u185 u186 u187 u188 u189 u190 u191 u192 u193 u194 u195 u196 u197 u198 u199 u200 u201 u202 u203 u204 u205 u206 u207 u208 u209 u210 u211 u212 u213 u214 u215 u216 u217 u218 u219 u220 u221 u222 u223 u224 wc hcut
        clear hS hsb hp hm hRn hln
        obtain ⟨p', m', R', last', rfl, rfl, hT', hown', hRn', hln', hp2, hm2, hM'⟩ := hcut
        obtain ⟨i0, hi, hz0, hz1, hz2⟩ := info_parts infoI
        have hz3 : (Value.int .i64 0).cells.size = 1 := rfl
        have hz4 : (0 : Nat) < 1 := by decide
        go_wp2_with fail
        go_loopw [23, 24, 25] (fun s23 s24 t wy => ∃ j : Nat, j ≤ R'.length ∧ t = .int .i64 j ∧ wy.ownsRow wc.heap.size 3 1 s23 j (((R'.take j).map (·.1)).map encZ) ∧ wy.ownsRow wc.heap.size 3 1 s24 j (((R'.take j).map (·.2)).map encZ) ∧ Apart s23 s24 ∧ Below wc.heap.size wc wy) (fun _ _ t _ => R'.length - (intOf t).toNat)
        case atStart => exact ⟨0, Nat.zero_le _, rfl, World.ownsRow_nil _ _ _ _, World.ownsRow_nil _ _ _ _, .inl rfl, Below.refl _ _⟩
        case round =>
          obtain ⟨j, hj, rfl, hr1, hr2, hap, hbw⟩ := hrel
          have hown2 := own_moves hown' (Moves.of_below (S := fun _ => False) hbw) (fun _ _ h => h)
          obtain ⟨A6, c6, rfl, hc6, -, -, -, hcell6⟩ := own_form hown2
          by_cases hjl : j < R'.length
          · obtain ⟨g6, rfl, hg6, hgl6, hx6⟩ := hcell6 (by omega)
            have hv0 := hx6 _ _ (cellsP_get hjl).1
            have hv1 := hx6 _ _ (cellsP_get hjl).2
            clear hx6 hcell6
            have ht1 : ((R'.take (j + 1)).map (·.1)).map encZ = ((R'.take j).map (·.1)).map encZ ++ [encZ R'[j].1] := by rw [List.take_succ_eq_append_getElem hjl, List.map_append, List.map_append]; rfl
            have ht2 : ((R'.take (j + 1)).map (·.2)).map encZ = ((R'.take j).map (·.2)).map encZ ++ [encZ R'[j].2] := by rw [List.take_succ_eq_append_getElem hjl, List.map_append, List.map_append]; rfl
            have Ht1 := Lib.hid ht1
            have Ht2 := Lib.hid ht2
            clear ht1 ht2
            generalize R'[j].1 = y1 at hv0 Ht1
            generalize R'[j].2 = y2 at hv1 Ht2
            have hsz := hbw.size
            have hj32 : j + 1 ≤ maxLen := by unfold maxLen; omega
            have hj40 : (j + 1) * 8 ≤ 140737488355328 := by omega
            have hap6 : Apart u23 (.slice (some ⟨g6, 0, none⟩) R'.length c6) := apart_types hr1 hown2 (by decide)
            have hap6' : Apart u24 (.slice (some ⟨g6, 0, none⟩) R'.length c6) := apart_types hr2 hown2 (by decide)
            have HJ := Lib.hid (And.intro hj32 hj40)
            clear hj32 hj40
            go_wp2_with (first
              | (at_builtin; refine wpList_append_src _ rfl (.tmp 231) (.tmp 237) 31 rfl wc.heap.size 3 i0 (.int .i64 0) 1 8 Try.underlying31 hi hz0 hz1 hz2 hz3 hz4 u23 j _ rfl (hr1.alloc _) (some ⟨wr.heap.size, 0, none⟩) 1 1 [.int .i64 y1] rfl rfl (fun _ => ⟨_, rfl, cell_one_new _ _ _⟩) (by simp [Value.oneCell']) HJ.out.1 HJ.out.2 (by simp; omega) ?_
                 intro v1 w3 hn1 hg1 hl1
                 obtain ⟨hr2b, hap3⟩ := two_kept hr2 hap hg1 hl1
                 obtain ⟨hown3, -⟩ := two_kept hown2 hap6 hg1 hl1
                 have hb3 : Below wc.heap.size wc w3 := (hbw.alloc hbw.size _).grown hg1 (by simp; omega) (fun i hi => (hr1.lt i hi).1)
                 have hv3 : w3.cell? ⟨g6, j * 2 + 1, none⟩ = some (.int .i64 y2) := by
                   rw [hg1.cell_far ⟨g6, j * 2 + 1, none⟩ (by simp; omega) (by rcases hap6 with e | e | e; (rw [e]; simp); (simp [Value.ownBlock] at e); exact fun e' => e (by rw [← e']; rfl))]
                   exact (World.cell?_alloc_lt wr _ ⟨g6, j * 2 + 1, none⟩ hgl6).trans hv1
                 clear hg1 hl1)
              | (at_builtin; refine wpList_append_src _ rfl (.tmp 239) (.tmp 245) 31 rfl wc.heap.size 3 i0 (.int .i64 0) 1 8 Try.underlying31 hi hz0 hz1 hz2 hz3 hz4 u24 j _ rfl (hr2b.alloc _) (some ⟨w3.heap.size, 0, none⟩) 1 1 [.int .i64 y2] rfl rfl (fun _ => ⟨_, rfl, cell_one_new _ _ _⟩) (by simp [Value.oneCell']) HJ.out.1 HJ.out.2 (by have := hb3.size; simp; omega) ?_
                 intro v2 w4 hn2 hg2 hl2
                 obtain ⟨hn1b, hap4⟩ := two_kept hn1 hap3.symm hg2 hl2
                 have hb4 : Below wc.heap.size wc w4 := (hb3.alloc hb3.size _).grown hg2 (by have := hb3.size; simp; omega) (fun i hi => (hr2b.lt i hi).1)
                 clear hg2 hl2)
              | go_in)
            go_roundw
            case rel =>
              refine ⟨j + 1, by omega, by go_num, ?_, ?_, hap4.symm, hb4⟩
              · rw [Ht1.out]; exact hn1b
              · rw [Ht2.out]; exact hn2
            case measure => simp [intOf]; omega
          · obtain rfl : j = R'.length := by omega
            rw [List.take_length] at hr1 hr2
            have hm3 : Moves (fun _ => False) wc wr := Moves.of_below hbw
            have hT3 := hT'.moves hm3 (fun h => h) (fun h => h)
            have hM3 := hM'.trans hm3
            have hrw1 := Row.of_owns hr1
            have hrw2 := Row.of_owns hr2
            clear hT' hown' hM' hcell6 hbw hap hm3
            go_wp2_with fail
            refine (live_any hT3).mono ?_
            rintro e w5 ⟨vL, rfl, hL, hm5⟩
            have hT5 := hT3.moves hm5 (fun h => h) (fun h => h)
            have hM5 := hM3.trans hm5
            have hrw15 := hrw1.moves hm5 (fun _ _ _ h => h)
            have hrw25 := hrw2.moves hm5 (fun _ _ _ h => h)
            have ho5 := own_moves hown2 hm5 (fun _ _ h => h)
            clear hT3 hM3 hrw1 hrw2 hr1 hr2 hown2 hm5
            have hc := ints_any hL hrw15 (by simp; omega)
            have Hc := Lib.hid hc
            clear hc hL hrw15
            go_wp2_with fail
            refine Hc.out.mono ?_
            rintro e w6 ⟨rfl, hm6⟩
            have hT6 := hT5.moves hm6 (fun h => h) (fun h => h)
            have hM6 := hM5.trans hm6
            have hrw26 := hrw25.moves hm6 (fun _ _ _ h => h)
            have ho6 := own_moves ho5 hm6 (fun _ _ h => h)
            clear hT5 hM5 hrw25 ho5 hm6 Hc
            go_wp2_with fail
            refine (nodes_any hT6).mono ?_
            rintro e w7 ⟨vN, rfl, hN, hm7⟩
            have hT7 := hT6.moves hm7 (fun h => h) (fun h => h)
            have hM7 := hM6.trans hm7
            have hrw27 := hrw26.moves hm7 (fun _ _ _ h => h)
            have ho7 := own_moves ho6 hm7 (fun _ _ h => h)
            clear hT6 hM6 hrw26 ho6 hm7
            have hc := ints_any hN hrw27 (by simp; omega)
            have Hc := Lib.hid hc
            clear hc hN hrw27
            go_wp2_with fail
            refine Hc.out.mono ?_
            rintro e w8 ⟨rfl, hm8⟩
            have hT8 := hT7.moves hm8 (fun h => h) (fun h => h)
            have hM8 := hM7.trans hm8
            have ho8 := own_moves ho7 hm8 (fun _ _ h => h)
            clear hT7 hM7 ho7 hm8 Hc
            go_wp2
            go_roundg (l.length - (k + 1))
            case measure => omega
            case rel => exact ⟨k + 1, by omega, rfl, by go_num, p', m', R', last', rfl, rfl, hT8, ho8, by omega, by omega, hp2, hm2, hM8⟩
    · obtain rfl : k = l.length := by omega
      obtain ⟨p, m, R, last, rfl, rfl, hT, hown, hRn, hln, hp, hm, hM⟩ := hP
      clear hcells
      obtain ⟨A6, c6, rfl, hc6, -, -, -, hcell6⟩ := own_form hown
      by_cases hhit : ∃ (i : Nat) (h : i < R.length), R[i].1 = x
      · obtain ⟨i, hil, hin⟩ := hhit
        obtain ⟨g6, rfl, hg6, hgl6, hx6⟩ := hcell6 (by omega)
        have hv1 := hx6 _ _ (cellsP_get hil).2
        have GT := Lib.hid (get_eq (h := x) (c := R[i].2) (b := true) hT Hx.out (by rw [look_of_mem hT.ok.rise (k := x) (n := R[i].2) (by rw [← hin]; exact List.getElem_mem hil)]; rfl) (hasK_hit hil hin))
        have AT' := Lib.hid (at_any (h := x) (idxP_hit hil hin (fun j hj hji e => by have := rise_inj hT.ok.rise hj hil (e.trans hin.symm); omega)) hown (by omega))
        clear hcell6 hx6 hin hT hown
        generalize R[i].2 = y at hv1 GT
        have b0 : (0 : Int) ≤ (i : Int) := by omega
        have b1 : (i : Int) < (R.length : Int) := by omega
        go_wp2_with fail
        refine GT.out.mono ?_
        rintro e w1 ⟨rfl, rfl⟩
        go_wp2_with fail
        refine AT'.out.mono ?_
        rintro e w1 ⟨rfl, rfl⟩
        go_wp2
        go_ret
        exact ⟨rfl, hM⟩
      · have hmiss : ∀ i (hi : i < R.length), R[i].1 ≠ x := fun i hi e => hhit ⟨i, hi, e⟩
        have hk0 := hasK_miss hmiss
        have hl0 : (look R x).getD 0 = 0 := by
          have := look_isSome R x
          rw [hk0] at this
          cases hlk : look R x with
          | none => rfl
          | some y => rw [hlk] at this; cases this
        have GT := Lib.hid (get_eq (h := x) (c := 0) (b := false) hT Hx.out hl0 hk0)
        have AT' := Lib.hid (at_any (h := x) (idxP_miss hmiss) hown (by omega))
        clear hcell6 hmiss hhit hk0 hl0 hT hown
        go_wp2_with fail
        refine GT.out.mono ?_
        rintro e w1 ⟨rfl, rfl⟩
        go_wp2_with fail
        refine AT'.out.mono ?_
        rintro e w1 ⟨rfl, rfl⟩
        go_wp2
        go_ret
        exact ⟨rfl, hM⟩
end Go.Proofs.Ytmennobdgfgjaaa

