/-
  TablePlays' switch.
-/
import Derived.Test.YtbfnmgjpkieaoaaTPlayHead
namespace Go.Proofs.Ytbfnmgjpkieaoaa.Tb
open Go Go.RowKit Go.Maps Go.Sort Go.Proofs Go.Shelf
/-- A write on the row's own block. -/
theorem KSt.low {w0 w w' : World} {p n : Nat} {M : List (Nm × Int)} {v : Value} {xs : List Value} (h : KSt w0 w0.heap.size p M w) (hm : Moves (fun g => v.ownBlock = some g) w w') (ho : w.ownsRow w0.heap.size 100 2 v n xs) : KSt w0 w0.heap.size p M w' :=
  ⟨h.len.low (hm.mono fun g hg => (ho.lt g hg).1) h.lt, tab_keep h.tab ho hm, h.mv.trans (hm.mono fun g hg => (ho.lt g hg).1), h.lt, h.le⟩

set_option maxRecDepth 100000 in
set_option maxHeartbeats 8000000 in
theorem sw1 {code : Code} (hcode : blk 2 = code) {w0 wa : World} {p ab : Nat} {M : List (Nm × Int)} {A4 : Option Addr} {q4 : Nat} {n : Nm} {op to : Int} {s : ByteArray} {gb : Bool} {k was : Int} {Q : Exit → Act → World → Prop} {c0 c1 c2 c5 c11 c12 c13 c14 c15 c16 c17 c18 c19 c20 c21 c22 c23 c24 c25 c26 c27 c28 c29 c30 c31 c32 c33 c34 c35 c36 c37 c38 c39 c40 c41 c42 c43 c44 c45 c46 c47 c48 c49 c50 c51 c52 c53 c54 c55 c56 c57 c58 c59 c61 c62 c63 c64 c65 c66 c67 c68 c69 c70 c71 c72 c73 c74 c75 c76 c77 c78 c79 c80 c81 c82 c83 c84 c85 c86 c87 c88 c89 c90 c91 c92 c93 c94 c95 c96 c97 c98 c99 c100 c101 c102 c103 c104 c105 c106 c107 c108 c109 c110 c111 c112 c113 c114 c115 c116 c117 c118 c119 c120 c121 c122 c123 c124 c125 c126 c127 c128 c129 c130 c131 c132 c133 c134 c135 c136 c137 c138 c139 c140 c141 c142 c143 c144 c145 c146 c147 c148 c149 c150 c151 c152 c153 c154 c155 c156 c157 c158 c159 c160 c161 c162 c163 c164 c165 c166 c167 c168 c169 c170 c171 c172 c173 c174 c175 c176 c177 c178 c179 c180 c181 c182 c183 c184 c185 c186 c187 c188 c189 c190 c191 c192 c193 c194 c195 c196 c197 c198 c199 c200 c201 c202 c203 c204 c205 c206 c207 c208 c209 c210 c211 c212 c213 c214 c215 c216 c217 c218 c219 c220 c221 c222 c223 c224 c225 c226 c227 c228 c229 c230 c231 : Value}
    (S' : SwT w0 wa p ab M A4 q4 n op to s gb k was) (ho : op = 1)
    (hEnd : ∀ (u3 u4 u11 u12 u13 u14 u15 u16 u17 u18 u19 u20 u21 u61 u62 u63 u64 u65 u66 u67 u68 u69 u70 u71 u72 u73 u74 u75 u76 u77 u78 u79 u80 u81 u82 u83 u84 u85 u86 u87 u88 u89 u90 u91 u92 u93 u94 u95 u96 u97 u98 u99 u100 u101 u102 u103 u104 u105 u106 u107 u108 u109 u110 u111 u112 u113 u114 u115 u116 u117 u118 u119 u120 u121 u122 u123 u124 u125 u126 u127 u128 u129 u130 u131 u132 u133 u134 u135 u136 u137 u138 u139 u140 u141 u142 u143 u144 u145 u146 u147 u148 u149 u150 u151 u152 u153 u154 u155 u156 u157 u158 u159 u160 u161 u162 u163 u164 u165 u166 u167 u168 u169 u170 u171 u172 u173 u174 u175 u176 u177 u178 u179 u180 u181 u182 u183 u184 u185 u186 u187 u188 u189 u190 u191 u192 u193 u194 u195 u196 u197 u198 u199 u200 : Value) (w' : World), PlayT w0 u3 u4 w' → Q .normal ⟨List.toArray (c0 :: c1 :: c2 :: u3 :: u4 :: c5 :: .pointer (some ⟨ab, 0, none⟩) :: .string s :: .bool gb :: .int .i64 k :: .int .i64 was :: u11 :: u12 :: u13 :: u14 :: u15 :: u16 :: u17 :: u18 :: u19 :: u20 :: u21 :: c22 :: c23 :: c24 :: c25 :: c26 :: c27 :: c28 :: c29 :: c30 :: c31 :: c32 :: c33 :: c34 :: c35 :: c36 :: c37 :: c38 :: c39 :: c40 :: c41 :: c42 :: c43 :: c44 :: c45 :: c46 :: c47 :: c48 :: c49 :: c50 :: c51 :: c52 :: c53 :: c54 :: c55 :: c56 :: c57 :: c58 :: c59 :: .int .i64 op :: u61 :: u62 :: u63 :: u64 :: u65 :: u66 :: u67 :: u68 :: u69 :: u70 :: u71 :: u72 :: u73 :: u74 :: u75 :: u76 :: u77 :: u78 :: u79 :: u80 :: u81 :: u82 :: u83 :: u84 :: u85 :: u86 :: u87 :: u88 :: u89 :: u90 :: u91 :: u92 :: u93 :: u94 :: u95 :: u96 :: u97 :: u98 :: u99 :: u100 :: u101 :: u102 :: u103 :: u104 :: u105 :: u106 :: u107 :: u108 :: u109 :: u110 :: u111 :: u112 :: u113 :: u114 :: u115 :: u116 :: u117 :: u118 :: u119 :: u120 :: u121 :: u122 :: u123 :: u124 :: u125 :: u126 :: u127 :: u128 :: u129 :: u130 :: u131 :: u132 :: u133 :: u134 :: u135 :: u136 :: u137 :: u138 :: u139 :: u140 :: u141 :: u142 :: u143 :: u144 :: u145 :: u146 :: u147 :: u148 :: u149 :: u150 :: u151 :: u152 :: u153 :: u154 :: u155 :: u156 :: u157 :: u158 :: u159 :: u160 :: u161 :: u162 :: u163 :: u164 :: u165 :: u166 :: u167 :: u168 :: u169 :: u170 :: u171 :: u172 :: u173 :: u174 :: u175 :: u176 :: u177 :: u178 :: u179 :: u180 :: u181 :: u182 :: u183 :: u184 :: u185 :: u186 :: u187 :: u188 :: u189 :: u190 :: u191 :: u192 :: u193 :: u194 :: u195 :: u196 :: u197 :: u198 :: u199 :: u200 :: c201 :: c202 :: c203 :: c204 :: c205 :: c206 :: c207 :: c208 :: c209 :: c210 :: c211 :: c212 :: c213 :: c214 :: c215 :: c216 :: c217 :: c218 :: c219 :: c220 :: c221 :: c222 :: c223 :: c224 :: c225 :: c226 :: c227 :: c228 :: c229 :: c230 :: c231 :: []), []⟩ w') :
    Code.wp Try.prog code Q ⟨List.toArray (c0 :: c1 :: c2 :: .pointer (some ⟨p, 0, none⟩) :: .slice A4 M.length q4 :: c5 :: .pointer (some ⟨ab, 0, none⟩) :: .string s :: .bool gb :: .int .i64 k :: .int .i64 was :: c11 :: c12 :: c13 :: c14 :: c15 :: c16 :: c17 :: c18 :: c19 :: c20 :: c21 :: c22 :: c23 :: c24 :: c25 :: c26 :: c27 :: c28 :: c29 :: c30 :: c31 :: c32 :: c33 :: c34 :: c35 :: c36 :: c37 :: c38 :: c39 :: c40 :: c41 :: c42 :: c43 :: c44 :: c45 :: c46 :: c47 :: c48 :: c49 :: c50 :: c51 :: c52 :: c53 :: c54 :: c55 :: c56 :: c57 :: c58 :: c59 :: .int .i64 op :: c61 :: c62 :: c63 :: c64 :: c65 :: c66 :: c67 :: c68 :: c69 :: c70 :: c71 :: c72 :: c73 :: c74 :: c75 :: c76 :: c77 :: c78 :: c79 :: c80 :: c81 :: c82 :: c83 :: c84 :: c85 :: c86 :: c87 :: c88 :: c89 :: c90 :: c91 :: c92 :: c93 :: c94 :: c95 :: c96 :: c97 :: c98 :: c99 :: c100 :: c101 :: c102 :: c103 :: c104 :: c105 :: c106 :: c107 :: c108 :: c109 :: c110 :: c111 :: c112 :: c113 :: c114 :: c115 :: c116 :: c117 :: c118 :: c119 :: c120 :: c121 :: c122 :: c123 :: c124 :: c125 :: c126 :: c127 :: c128 :: c129 :: c130 :: c131 :: c132 :: c133 :: c134 :: c135 :: c136 :: c137 :: c138 :: c139 :: c140 :: c141 :: c142 :: c143 :: c144 :: c145 :: c146 :: c147 :: c148 :: c149 :: c150 :: c151 :: c152 :: c153 :: c154 :: c155 :: c156 :: c157 :: c158 :: c159 :: c160 :: c161 :: c162 :: c163 :: c164 :: c165 :: c166 :: c167 :: c168 :: c169 :: c170 :: c171 :: c172 :: c173 :: c174 :: c175 :: c176 :: c177 :: c178 :: c179 :: c180 :: c181 :: c182 :: c183 :: c184 :: c185 :: c186 :: c187 :: c188 :: c189 :: c190 :: c191 :: c192 :: c193 :: c194 :: c195 :: c196 :: c197 :: c198 :: c199 :: c200 :: c201 :: c202 :: c203 :: c204 :: c205 :: c206 :: c207 :: c208 :: c209 :: c210 :: c211 :: c212 :: c213 :: c214 :: c215 :: c216 :: c217 :: c218 :: c219 :: c220 :: c221 :: c222 :: c223 :: c224 :: c225 :: c226 :: c227 :: c228 :: c229 :: c230 :: c231 :: []), []⟩ wa := by
  subst hcode
  conv => arg 2; whnf
  have HS := Lib.hid S'
  have HEND := Lib.hid hEnd
  clear hEnd
  subst ho
  have HN := Lib.hid (load_nmO S'.nm)
  have HTO := Lib.hid S'.to33
  have HB0 : ∀ (r v : Int) (M' : List (Nm × Int)), bindE M n to = r → bindV M n to = v → bindM M n to = M' → Hid (Calls Try.prog 46 #[.pointer (some ⟨p, 0, none⟩), .agg (encM n).toArray, .int .i64 to] wa (BindPost wa w0.heap.size p M' v r)) := fun r v M' h1 h2 h3 => Lib.hid (bind_any S'.st.tab S'.st.len n S'.wf S'.st.big (by have := S'.good.few; omega) h1 h2 h3)
  have hrow : wa.ownsRow w0.heap.size 100 2 (.slice A4 (rowM M).length q4) (rowM M).length (cellsR (rowM M)) := by rw [rowM_len]; exact S'.row
  obtain ⟨A', c', e4, hc4, -, -, -, hx4⟩ := own_form hrow
  injection e4 with e41 e42 e43
  subst e41 e43
  clear e42
  have hfew : (rowM M).length ≤ 64 := by rw [rowM_len]; exact S'.good.few
  have HROW := Lib.hid hrow
  have HX4 := Lib.hid hx4
  have HFEW := Lib.hid hfew
  have HC4 := Lib.hid hc4
  clear hrow hx4 hfew hc4
  rw [← rowM_len M]
  by_cases h1 : to < 1
  · have h1' : decide (to < 1) = true := decide_eq_true h1
    have HE : bindE M n to = 1 := by unfold bindE; rw [if_pos h1]
    have HL := HB0 1 0 M HE (by unfold bindV; rw [HE, if_neg (by decide)]) (by unfold bindM; rw [HE, if_neg (by decide)])
    have hto := S'.to33
    clear HB0 HE S' h1
    go_wp2_with (first
      | (refine wpList_load_at (op := ⟨some 66, _, _, _, _, _⟩) rfl 77 (.tmp 65) rfl _ _ rfl HN.out ?_
         go_frame)
      | (go_at_call 46
         refine HL.out.mono ?_
         rintro e w1 ⟨rfl, ht1, hm1⟩
         have hto1 : w1.cell? ⟨ab, 33, none⟩ = some (.int .i64 to) := (hm1.cell (p := ⟨ab, 33, none⟩) HS.out.lt HS.out.apart).trans HTO.out
         have HTO1 := Lib.hid hto1
         have HT1 := Lib.hid ht1
         have HM1 := Lib.hid hm1
         clear ht1 hm1 hto)
      | fail)
    refine HEND.out _ _ _ _ _ _ _ _ _ _ _ _ _ _ _ _ _ _ _ _ _ _ _ _ _ _ _ _ _ _ _ _ _ _ _ _ _ _ _ _ _ _ _ _ _ _ _ _ _ _ _ _ _ _ _ _ _ _ _ _ _ _ _ _ _ _ _ _ _ _ _ _ _ _ _ _ _ _ _ _ _ _ _ _ _ _ _ _ _ _ _ _ _ _ _ _ _ _ _ _ _ _ _ _ _ _ _ _ _ _ _ _ _ _ _ _ _ _ _ _ _ _ _ _ _ _ _ _ _ _ _ _ _ _ _ _ _ _ _ _ _ _ _ _ _ _ _ _ _ _ _ _ _ _ ?_
    refine ⟨p, M, rfl, HS.out.st.next HT1.out HM1.out, ?_, HS.out.good⟩
    rw [← rowM_len M]
    exact row_keep HS.out.st.tab HROW.out HM1.out
  · cases gb
    · have h1' : decide (to < 1) = false := decide_eq_false h1
      have hgn := S'.gn
      have HE : bindE M n to = 4 := by unfold bindE; rw [if_neg h1, if_pos hgn]
      have HL := HB0 4 0 M HE (by unfold bindV; rw [HE, if_neg (by decide)]) (by unfold bindM; rw [HE, if_neg (by decide)])
      have hto := S'.to33
      clear HB0 HE S' hgn h1
      go_wp2_with (first
        | (refine wpList_load_at (op := ⟨some 66, _, _, _, _, _⟩) rfl 77 (.tmp 65) rfl _ _ rfl HN.out ?_
           go_frame)
        | (go_at_call 46
           refine HL.out.mono ?_
           rintro e w1 ⟨rfl, ht1, hm1⟩
           have hto1 : w1.cell? ⟨ab, 33, none⟩ = some (.int .i64 to) := (hm1.cell (p := ⟨ab, 33, none⟩) HS.out.lt HS.out.apart).trans HTO.out
           have HTO1 := Lib.hid hto1
           have HT1 := Lib.hid ht1
           have HM1 := Lib.hid hm1
           clear ht1 hm1 hto)
        | fail)
      refine HEND.out _ _ _ _ _ _ _ _ _ _ _ _ _ _ _ _ _ _ _ _ _ _ _ _ _ _ _ _ _ _ _ _ _ _ _ _ _ _ _ _ _ _ _ _ _ _ _ _ _ _ _ _ _ _ _ _ _ _ _ _ _ _ _ _ _ _ _ _ _ _ _ _ _ _ _ _ _ _ _ _ _ _ _ _ _ _ _ _ _ _ _ _ _ _ _ _ _ _ _ _ _ _ _ _ _ _ _ _ _ _ _ _ _ _ _ _ _ _ _ _ _ _ _ _ _ _ _ _ _ _ _ _ _ _ _ _ _ _ _ _ _ _ _ _ _ _ _ _ _ _ _ _ _ _ ?_
      refine ⟨p, M, rfl, HS.out.st.next HT1.out HM1.out, ?_, HS.out.good⟩
      rw [← rowM_len M]
      exact row_keep HS.out.st.tab HROW.out HM1.out
    · rcases S'.place with hp | hp
      · obtain ⟨hg, i, hi, rfl, hn, hh, hw⟩ := hp
        have i0 : (0 : Int) ≤ (i : Int) := by omega
        have i1 : ¬ ((i : Int) < 0) := by omega
        have h1' : decide (to < 1) = false := decide_eq_false h1
        have HI : Hid (i < M.length) := Lib.hid hi
        have HCUT : Hid (rowM (delM M n) = (rowM M).take i ++ (rowM M).drop (i + 1)) := Lib.hid (by rw [← hn]; exact row_cut hi S'.good.nodup)
        have HE : bindE M n to = 0 := bindE_ok (by omega) S'.gn (.inl hh)
        have HL := HB0 0 was (putM M n to) HE (by unfold bindV; rw [HE, if_pos rfl]; exact hw.symm) (by unfold bindM; rw [HE, if_pos rfl])
        have hto := S'.to33
        have HG : Hid (GoodM (putM M n to)) := Lib.hid (S'.good.put S'.gn (.inl hh) to)
        have HTX : Hid (s = txt n) := Lib.hid (S'.str rfl)
        clear HB0 HE S' hg hi hn hh hw h1
        go_wp2_with (first
          | (refine wpList_load_at (op := ⟨some 66, _, _, _, _, _⟩) rfl 77 (.tmp 65) rfl _ _ rfl HN.out ?_
             go_frame)
          | (go_at_call 46
             refine HL.out.mono ?_
             rintro e w1 ⟨rfl, ht1, hm1⟩
             have hto1 : w1.cell? ⟨ab, 33, none⟩ = some (.int .i64 to) := (hm1.cell (p := ⟨ab, 33, none⟩) HS.out.lt HS.out.apart).trans HTO.out
             have HTO1 := Lib.hid hto1
             have HT1 := Lib.hid ht1
             have HM1 := Lib.hid hm1
             clear ht1 hm1 hto)
          | fail)
        obtain ⟨g4, rfl, -, hg4, -⟩ := HX4.out (by rw [rowM_len]; have := HI.out; omega)
        have ho1 := row_keep HS.out.st.tab HROW.out HM1.out
        refine cut32 (by kernel_rfl) ho1 (by rw [rowM_len]; exact HI.out) HC4.out (by have := HFEW.out; omega) ?_
        intro u111 u112 u113 u114 u115 u116 u117 u118 u119 u120 v6 w5 ho5 hm5
        obtain ⟨R', hR'⟩ : ∃ R', R' = (rowM M).take i ++ (rowM M).drop (i + 1) := ⟨_, rfl⟩
        have e : R'.length = i + ((rowM M).length - (i + 1)) := by
          rw [hR', List.length_append, List.length_take, List.length_drop]
          have := HI.out
          rw [rowM_len]
          omega
        have hl5 : R'.length ≤ 10000 := by have := HFEW.out; have := HI.out; have := rowM_len M; omega
        rw [← e, ← hR'] at ho5
        obtain ⟨A6, q6, rfl, -, -, -, -, -⟩ := own_form ho5
        have HR' : Hid (R' = (rowM M).take i ++ (rowM M).drop (i + 1)) := Lib.hid hR'
        have ho6 := own_weak (Nat.le_trans HS.out.st.big HM1.out.size) ho5
        have HT5 : Hid (w5.cell? ⟨ab, 33, none⟩ = some (.int .i64 to)) := Lib.hid ((hm5.cell (p := ⟨ab, 33, none⟩) (Nat.lt_of_lt_of_le HS.out.lt HM1.out.size) (fun h => h)).trans HTO1.out)
        have HM5 := Lib.hid hm5
        clear e hR' ho5 ho1 hm5
        obtain ⟨i4, hi4, hq0, hq1, hq2⟩ := info_parts infoR
        have hq3 : (Value.agg #[.string ByteArray.empty, .int .i64 0]).cells.size = 2 := rfl
        have hq4 : (0 : Nat) < 2 := by decide
        have hone : ∀ u ∈ [Value.string s, Value.int .i64 to], u.oneCell' = true := by simp [Value.oneCell']
        have H63 : Hid (R'.length + 1 ≤ maxLen ∧ (R'.length + 1) * 24 ≤ 140737488355328) := Lib.hid (by unfold maxLen; have := hl5; omega)
        have HO6 := Lib.hid ho6
        have hto5 := HT5.out
        clear ho6 hl5 hto1
        go_wp2_with (first
          | (refine wpList_load_at (op := ⟨some 66, _, _, _, _, _⟩) rfl 77 (.tmp 65) rfl _ _ rfl HN.out ?_
             go_frame)
          | (go_at_call 46
             refine HL.out.mono ?_
             rintro e w1 ⟨rfl, ht1, hm1⟩
             have hto1 : w1.cell? ⟨ab, 33, none⟩ = some (.int .i64 to) := (hm1.cell (p := ⟨ab, 33, none⟩) HS.out.lt HS.out.apart).trans HTO.out
             have HTO1 := Lib.hid hto1
             have HT1 := Lib.hid ht1
             have HM1 := Lib.hid hm1
             clear ht1 hm1 hto)
          | (at_builtin; go_must (refine wpList_append_src _ rfl (.tmp 121) (.tmp 126) 93 rfl w0.heap.size 100 i4 _ 2 24 Try.underlying93 hi4 hq0 hq1 hq2 hq3 hq4 (.slice A6 R'.length q6) R'.length (cellsR R') rfl ((HO6.out).alloc _) (some ⟨w5.heap.size, 0, none⟩) 1 1 [.string s, .int .i64 to] rfl (by rfl) (fun _ => ⟨_, rfl, World.news_of_block (cs := #[.string s, .int .i64 to]) (t := 100) (fr := (0, 0)) (heap_alloc_new w5 _)⟩) hone H63.out.1 H63.out.2 (le_alloc _ _ (Nat.le_trans HS.out.st.big (Nat.le_trans HM1.out.size HM5.out.size))) ?_)
             intro v7 w6 hn6 hg6 hl6)
          | fail)
        refine HEND.out _ _ _ _ _ _ _ _ _ _ _ _ _ _ _ _ _ _ _ _ _ _ _ _ _ _ _ _ _ _ _ _ _ _ _ _ _ _ _ _ _ _ _ _ _ _ _ _ _ _ _ _ _ _ _ _ _ _ _ _ _ _ _ _ _ _ _ _ _ _ _ _ _ _ _ _ _ _ _ _ _ _ _ _ _ _ _ _ _ _ _ _ _ _ _ _ _ _ _ _ _ _ _ _ _ _ _ _ _ _ _ _ _ _ _ _ _ _ _ _ _ _ _ _ _ _ _ _ _ _ _ _ _ _ _ _ _ _ _ _ _ _ _ _ _ _ _ _ _ _ _ _ _ _ ?_
        refine ⟨p, putM M n to, rfl, (((HS.out.st.next HT1.out HM1.out).next0 HM5.out).next0 ((Moves.refl _ w5).alloc _)).low (Moves.of_grown hg6 fun b e => e) (HO6.out.alloc _), ?_, HG.out⟩
        rw [← rowM_len, row_put, HCUT.out, ← HR'.out, ← HTX.out, List.length_append, cellsR_append]
        exact hn6
      · obtain ⟨rfl, rfl, hh⟩ := hp
        by_cases h64 : 64 ≤ (rowM M).length
        · have h1' : decide (to < 1) = false := decide_eq_false h1
          have h64' : (64 : Int) ≤ ((rowM M).length : Int) := by omega
          have HE : bindE M n to = 6 := by unfold bindE; rw [if_neg h1, if_neg (by rw [S'.gn]; decide), if_pos ⟨hh, by rw [← rowM_len]; exact h64⟩]
          have HL := HB0 6 0 M HE (by unfold bindV; rw [HE, if_neg (by decide)]) (by unfold bindM; rw [HE, if_neg (by decide)])
          have hto := S'.to33
          clear HB0 HE S' hh h1 h64
          go_wp2_with (first
            | (refine wpList_load_at (op := ⟨some 66, _, _, _, _, _⟩) rfl 77 (.tmp 65) rfl _ _ rfl HN.out ?_
               go_frame)
            | (go_at_call 46
               refine HL.out.mono ?_
               rintro e w1 ⟨rfl, ht1, hm1⟩
               have hto1 : w1.cell? ⟨ab, 33, none⟩ = some (.int .i64 to) := (hm1.cell (p := ⟨ab, 33, none⟩) HS.out.lt HS.out.apart).trans HTO.out
               have HTO1 := Lib.hid hto1
               have HT1 := Lib.hid ht1
               have HM1 := Lib.hid hm1
               clear ht1 hm1 hto)
            | fail)
          refine HEND.out _ _ _ _ _ _ _ _ _ _ _ _ _ _ _ _ _ _ _ _ _ _ _ _ _ _ _ _ _ _ _ _ _ _ _ _ _ _ _ _ _ _ _ _ _ _ _ _ _ _ _ _ _ _ _ _ _ _ _ _ _ _ _ _ _ _ _ _ _ _ _ _ _ _ _ _ _ _ _ _ _ _ _ _ _ _ _ _ _ _ _ _ _ _ _ _ _ _ _ _ _ _ _ _ _ _ _ _ _ _ _ _ _ _ _ _ _ _ _ _ _ _ _ _ _ _ _ _ _ _ _ _ _ _ _ _ _ _ _ _ _ _ _ _ _ _ _ _ _ _ _ _ _ _ ?_
          refine ⟨p, M, rfl, HS.out.st.next HT1.out HM1.out, ?_, HS.out.good⟩
          rw [← rowM_len M]
          exact row_keep HS.out.st.tab HROW.out HM1.out
        · have h1' : decide (to < 1) = false := decide_eq_false h1
          have h64' : ((rowM M).length : Int) < 64 := by omega
          have HPUT : Hid (rowM (putM M n to) = rowM M ++ [(txt n, to)]) := Lib.hid (by rw [row_put, delM_no hh])
          have HE : bindE M n to = 0 := bindE_ok (by omega) S'.gn (.inr (by rw [← rowM_len]; omega))
          have HL := HB0 0 0 (putM M n to) HE (by unfold bindV; rw [HE, if_pos rfl]; exact (hasN_false hh).2) (by unfold bindM; rw [HE, if_pos rfl])
          have hto := S'.to33
          have HG : Hid (GoodM (putM M n to)) := Lib.hid (S'.good.put S'.gn (.inr (by rw [← rowM_len]; omega)) to)
          have HTX : Hid (s = txt n) := Lib.hid (S'.str rfl)
          clear HB0 HE S' hh h1 h64
          obtain ⟨i4, hi4, hq0, hq1, hq2⟩ := info_parts infoR
          have hq3 : (Value.agg #[.string ByteArray.empty, .int .i64 0]).cells.size = 2 := rfl
          have hq4 : (0 : Nat) < 2 := by decide
          have hone : ∀ u ∈ [Value.string s, Value.int .i64 to], u.oneCell' = true := by simp [Value.oneCell']
          have H63 : Hid ((rowM M).length + 1 ≤ maxLen ∧ ((rowM M).length + 1) * 24 ≤ 140737488355328) := Lib.hid (by unfold maxLen; have := HFEW.out; omega)
          go_wp2_with (first
            | (refine wpList_load_at (op := ⟨some 66, _, _, _, _, _⟩) rfl 77 (.tmp 65) rfl _ _ rfl HN.out ?_
               go_frame)
            | (go_at_call 46
               refine HL.out.mono ?_
               rintro e w1 ⟨rfl, ht1, hm1⟩
               have hto1 : w1.cell? ⟨ab, 33, none⟩ = some (.int .i64 to) := (hm1.cell (p := ⟨ab, 33, none⟩) HS.out.lt HS.out.apart).trans HTO.out
               have HTO1 := Lib.hid hto1
               have HT1 := Lib.hid ht1
               have HM1 := Lib.hid hm1
               clear ht1 hm1 hto)
            | (at_builtin; go_must (refine wpList_append_src _ rfl (.tmp 121) (.tmp 126) 93 rfl w0.heap.size 100 i4 _ 2 24 Try.underlying93 hi4 hq0 hq1 hq2 hq3 hq4 (.slice A4 (rowM M).length q4) (rowM M).length (cellsR (rowM M)) rfl ((row_keep HS.out.st.tab HROW.out HM1.out).alloc _) (some ⟨w1.heap.size, 0, none⟩) 1 1 [.string s, .int .i64 to] rfl (by rfl) (fun _ => ⟨_, rfl, World.news_of_block (cs := #[.string s, .int .i64 to]) (t := 100) (fr := (0, 0)) (heap_alloc_new w1 _)⟩) hone H63.out.1 H63.out.2 (le_alloc _ _ (Nat.le_trans HS.out.st.big HM1.out.size)) ?_)
               intro v7 w6 hn6 hg6 hl6)
            | fail)
          refine HEND.out _ _ _ _ _ _ _ _ _ _ _ _ _ _ _ _ _ _ _ _ _ _ _ _ _ _ _ _ _ _ _ _ _ _ _ _ _ _ _ _ _ _ _ _ _ _ _ _ _ _ _ _ _ _ _ _ _ _ _ _ _ _ _ _ _ _ _ _ _ _ _ _ _ _ _ _ _ _ _ _ _ _ _ _ _ _ _ _ _ _ _ _ _ _ _ _ _ _ _ _ _ _ _ _ _ _ _ _ _ _ _ _ _ _ _ _ _ _ _ _ _ _ _ _ _ _ _ _ _ _ _ _ _ _ _ _ _ _ _ _ _ _ _ _ _ _ _ _ _ _ _ _ _ _ ?_
          refine ⟨p, putM M n to, rfl, ((HS.out.st.next HT1.out HM1.out).next0 ((Moves.refl _ w1).alloc _)).low (Moves.of_grown hg6 fun b e => e) ((row_keep HS.out.st.tab HROW.out HM1.out).alloc _), ?_, HG.out⟩
          rw [← rowM_len, HPUT.out, ← HTX.out, List.length_append, cellsR_append]
          exact hn6
end Go.Proofs.Ytbfnmgjpkieaoaa.Tb
