/-
  TablePlays' switch.
-/
import Derived.Test.YtbfnmgjpkieaoaaTPlayHead
namespace Go.Proofs.Ytbfnmgjpkieaoaa.Tb
open Go Go.RowKit Go.Maps Go.Sort Go.Proofs Go.Shelf

set_option maxRecDepth 100000 in
set_option maxHeartbeats 8000000 in
theorem sw2 {code : Code} (hcode : blk 2 = code) {w0 wa : World} {p ab : Nat} {M : List (Nm × Int)} {A4 : Option Addr} {q4 : Nat} {n : Nm} {op to : Int} {s : ByteArray} {gb : Bool} {k was : Int} {Q : Exit → Act → World → Prop} {c0 c1 c2 c5 c11 c12 c13 c14 c15 c16 c17 c18 c19 c20 c21 c22 c23 c24 c25 c26 c27 c28 c29 c30 c31 c32 c33 c34 c35 c36 c37 c38 c39 c40 c41 c42 c43 c44 c45 c46 c47 c48 c49 c50 c51 c52 c53 c54 c55 c56 c57 c58 c59 c61 c62 c63 c64 c65 c66 c67 c68 c69 c70 c71 c72 c73 c74 c75 c76 c77 c78 c79 c80 c81 c82 c83 c84 c85 c86 c87 c88 c89 c90 c91 c92 c93 c94 c95 c96 c97 c98 c99 c100 c101 c102 c103 c104 c105 c106 c107 c108 c109 c110 c111 c112 c113 c114 c115 c116 c117 c118 c119 c120 c121 c122 c123 c124 c125 c126 c127 c128 c129 c130 c131 c132 c133 c134 c135 c136 c137 c138 c139 c140 c141 c142 c143 c144 c145 c146 c147 c148 c149 c150 c151 c152 c153 c154 c155 c156 c157 c158 c159 c160 c161 c162 c163 c164 c165 c166 c167 c168 c169 c170 c171 c172 c173 c174 c175 c176 c177 c178 c179 c180 c181 c182 c183 c184 c185 c186 c187 c188 c189 c190 c191 c192 c193 c194 c195 c196 c197 c198 c199 c200 c201 c202 c203 c204 c205 c206 c207 c208 c209 c210 c211 c212 c213 c214 c215 c216 c217 c218 c219 c220 c221 c222 c223 c224 c225 c226 c227 c228 c229 c230 c231 : Value}
    (S' : SwT w0 wa p ab M A4 q4 n op to s gb k was) (ho : op = 2)
    (hEnd : ∀ (u3 u4 u11 u12 u13 u14 u15 u16 u17 u18 u19 u20 u21 u61 u62 u63 u64 u65 u66 u67 u68 u69 u70 u71 u72 u73 u74 u75 u76 u77 u78 u79 u80 u81 u82 u83 u84 u85 u86 u87 u88 u89 u90 u91 u92 u93 u94 u95 u96 u97 u98 u99 u100 u101 u102 u103 u104 u105 u106 u107 u108 u109 u110 u111 u112 u113 u114 u115 u116 u117 u118 u119 u120 u121 u122 u123 u124 u125 u126 u127 u128 u129 u130 u131 u132 u133 u134 u135 u136 u137 u138 u139 u140 u141 u142 u143 u144 u145 u146 u147 u148 u149 u150 u151 u152 u153 u154 u155 u156 u157 u158 u159 u160 u161 u162 u163 u164 u165 u166 u167 u168 u169 u170 u171 u172 u173 u174 u175 u176 u177 u178 u179 u180 u181 u182 u183 u184 u185 u186 u187 u188 u189 u190 u191 u192 u193 u194 u195 u196 u197 u198 u199 u200 : Value) (w' : World), PlayT w0 u3 u4 w' → Q .normal ⟨List.toArray (c0 :: c1 :: c2 :: u3 :: u4 :: c5 :: .pointer (some ⟨ab, 0, none⟩) :: .string s :: .bool gb :: .int .i64 k :: .int .i64 was :: u11 :: u12 :: u13 :: u14 :: u15 :: u16 :: u17 :: u18 :: u19 :: u20 :: u21 :: c22 :: c23 :: c24 :: c25 :: c26 :: c27 :: c28 :: c29 :: c30 :: c31 :: c32 :: c33 :: c34 :: c35 :: c36 :: c37 :: c38 :: c39 :: c40 :: c41 :: c42 :: c43 :: c44 :: c45 :: c46 :: c47 :: c48 :: c49 :: c50 :: c51 :: c52 :: c53 :: c54 :: c55 :: c56 :: c57 :: c58 :: c59 :: .int .i64 op :: u61 :: u62 :: u63 :: u64 :: u65 :: u66 :: u67 :: u68 :: u69 :: u70 :: u71 :: u72 :: u73 :: u74 :: u75 :: u76 :: u77 :: u78 :: u79 :: u80 :: u81 :: u82 :: u83 :: u84 :: u85 :: u86 :: u87 :: u88 :: u89 :: u90 :: u91 :: u92 :: u93 :: u94 :: u95 :: u96 :: u97 :: u98 :: u99 :: u100 :: u101 :: u102 :: u103 :: u104 :: u105 :: u106 :: u107 :: u108 :: u109 :: u110 :: u111 :: u112 :: u113 :: u114 :: u115 :: u116 :: u117 :: u118 :: u119 :: u120 :: u121 :: u122 :: u123 :: u124 :: u125 :: u126 :: u127 :: u128 :: u129 :: u130 :: u131 :: u132 :: u133 :: u134 :: u135 :: u136 :: u137 :: u138 :: u139 :: u140 :: u141 :: u142 :: u143 :: u144 :: u145 :: u146 :: u147 :: u148 :: u149 :: u150 :: u151 :: u152 :: u153 :: u154 :: u155 :: u156 :: u157 :: u158 :: u159 :: u160 :: u161 :: u162 :: u163 :: u164 :: u165 :: u166 :: u167 :: u168 :: u169 :: u170 :: u171 :: u172 :: u173 :: u174 :: u175 :: u176 :: u177 :: u178 :: u179 :: u180 :: u181 :: u182 :: u183 :: u184 :: u185 :: u186 :: u187 :: u188 :: u189 :: u190 :: u191 :: u192 :: u193 :: u194 :: u195 :: u196 :: u197 :: u198 :: u199 :: u200 :: c201 :: c202 :: c203 :: c204 :: c205 :: c206 :: c207 :: c208 :: c209 :: c210 :: c211 :: c212 :: c213 :: c214 :: c215 :: c216 :: c217 :: c218 :: c219 :: c220 :: c221 :: c222 :: c223 :: c224 :: c225 :: c226 :: c227 :: c228 :: c229 :: c230 :: c231 :: []), []⟩ w') :
    Code.wp Try.prog code Q ⟨List.toArray (c0 :: c1 :: c2 :: .pointer (some ⟨p, 0, none⟩) :: .slice A4 M.length q4 :: c5 :: .pointer (some ⟨ab, 0, none⟩) :: .string s :: .bool gb :: .int .i64 k :: .int .i64 was :: c11 :: c12 :: c13 :: c14 :: c15 :: c16 :: c17 :: c18 :: c19 :: c20 :: c21 :: c22 :: c23 :: c24 :: c25 :: c26 :: c27 :: c28 :: c29 :: c30 :: c31 :: c32 :: c33 :: c34 :: c35 :: c36 :: c37 :: c38 :: c39 :: c40 :: c41 :: c42 :: c43 :: c44 :: c45 :: c46 :: c47 :: c48 :: c49 :: c50 :: c51 :: c52 :: c53 :: c54 :: c55 :: c56 :: c57 :: c58 :: c59 :: .int .i64 op :: c61 :: c62 :: c63 :: c64 :: c65 :: c66 :: c67 :: c68 :: c69 :: c70 :: c71 :: c72 :: c73 :: c74 :: c75 :: c76 :: c77 :: c78 :: c79 :: c80 :: c81 :: c82 :: c83 :: c84 :: c85 :: c86 :: c87 :: c88 :: c89 :: c90 :: c91 :: c92 :: c93 :: c94 :: c95 :: c96 :: c97 :: c98 :: c99 :: c100 :: c101 :: c102 :: c103 :: c104 :: c105 :: c106 :: c107 :: c108 :: c109 :: c110 :: c111 :: c112 :: c113 :: c114 :: c115 :: c116 :: c117 :: c118 :: c119 :: c120 :: c121 :: c122 :: c123 :: c124 :: c125 :: c126 :: c127 :: c128 :: c129 :: c130 :: c131 :: c132 :: c133 :: c134 :: c135 :: c136 :: c137 :: c138 :: c139 :: c140 :: c141 :: c142 :: c143 :: c144 :: c145 :: c146 :: c147 :: c148 :: c149 :: c150 :: c151 :: c152 :: c153 :: c154 :: c155 :: c156 :: c157 :: c158 :: c159 :: c160 :: c161 :: c162 :: c163 :: c164 :: c165 :: c166 :: c167 :: c168 :: c169 :: c170 :: c171 :: c172 :: c173 :: c174 :: c175 :: c176 :: c177 :: c178 :: c179 :: c180 :: c181 :: c182 :: c183 :: c184 :: c185 :: c186 :: c187 :: c188 :: c189 :: c190 :: c191 :: c192 :: c193 :: c194 :: c195 :: c196 :: c197 :: c198 :: c199 :: c200 :: c201 :: c202 :: c203 :: c204 :: c205 :: c206 :: c207 :: c208 :: c209 :: c210 :: c211 :: c212 :: c213 :: c214 :: c215 :: c216 :: c217 :: c218 :: c219 :: c220 :: c221 :: c222 :: c223 :: c224 :: c225 :: c226 :: c227 :: c228 :: c229 :: c230 :: c231 :: []), []⟩ wa := by
  subst hcode
  conv => arg 2; whnf
  have HS := Lib.hid S'
  have HEND := Lib.hid hEnd
  clear hEnd
  subst ho
  have HN := Lib.hid (load_nmO S'.nm)
  have HU : ∀ (v : Int) (b : Bool), getZ M n = v → hasN M n = b → Hid (Calls Try.prog 51 #[.pointer (some ⟨p, 0, none⟩), .agg (encM n).toArray] wa (UnbPost wa w0.heap.size p (delM M n) v b)) := fun v b h1 h2 => Lib.hid (unbind_any S'.st.tab n h1 h2)
  have hrow : wa.ownsRow w0.heap.size 100 2 (.slice A4 (rowM M).length q4) (rowM M).length (cellsR (rowM M)) := by rw [rowM_len]; exact S'.row
  obtain ⟨A', c', e4, hc4, -, -, -, hx4⟩ := own_form hrow
  injection e4 with e41 e42 e43
  subst e41 e43
  clear e42
  have hfew : (rowM M).length ≤ 64 := by rw [rowM_len]; exact S'.good.few
  have HROW := Lib.hid hrow
  have HX4 := Lib.hid hx4
  have HFEW := Lib.hid hfew
  have HC4 := Lib.hid hc4
  clear hrow hx4 hfew hc4
  rw [← rowM_len M]
  rcases S'.place with hp | hp
  · obtain ⟨hg, i, hi, rfl, hn, hh, hw⟩ := hp
    have i0 : (0 : Int) ≤ (i : Int) := by omega
    have HL := HU was true hw.symm hh
    have HI : Hid (i < M.length) := Lib.hid hi
    have HCUT : Hid (rowM (delM M n) = (rowM M).take i ++ (rowM M).drop (i + 1)) := Lib.hid (by rw [← hn]; exact row_cut hi S'.good.nodup)
    clear HU hg hi hn hh hw S'
    go_wp2_with (first
      | (refine wpList_load_at (op := ⟨some 133, _, _, _, _, _⟩) rfl 77 (.tmp 132) rfl _ _ rfl HN.out ?_
         go_frame)
      | (go_at_call 51
         refine HL.out.mono ?_
         rintro e w1 ⟨rfl, ht1, hm1⟩
         have HT1 := Lib.hid ht1
         have HM1 := Lib.hid hm1
         clear ht1 hm1)
      | fail)
    obtain ⟨g4, rfl, -, hg4, -⟩ := HX4.out (by rw [rowM_len]; have := HI.out; omega)
    have ho1 := row_keep HS.out.st.tab HROW.out HM1.out
    refine cut39 (by kernel_rfl) ho1 (by rw [rowM_len]; exact HI.out) HC4.out (by have := HFEW.out; omega) ?_
    intro u148 u149 u150 u151 u152 u153 u154 u155 u156 u157 v6 w5 ho5 hm5
    have HO5 := Lib.hid ho5
    have HM5 := Lib.hid hm5
    clear ho1 ho5 hm5
    go_wp2_with fail
    refine HEND.out _ _ _ _ _ _ _ _ _ _ _ _ _ _ _ _ _ _ _ _ _ _ _ _ _ _ _ _ _ _ _ _ _ _ _ _ _ _ _ _ _ _ _ _ _ _ _ _ _ _ _ _ _ _ _ _ _ _ _ _ _ _ _ _ _ _ _ _ _ _ _ _ _ _ _ _ _ _ _ _ _ _ _ _ _ _ _ _ _ _ _ _ _ _ _ _ _ _ _ _ _ _ _ _ _ _ _ _ _ _ _ _ _ _ _ _ _ _ _ _ _ _ _ _ _ _ _ _ _ _ _ _ _ _ _ _ _ _ _ _ _ _ _ _ _ _ _ _ _ _ _ _ _ _ ?_
    refine ⟨p, delM M n, rfl, (HS.out.st.next HT1.out HM1.out).next0 HM5.out, ?_, HS.out.good.del n⟩
    have e : (delM M n).length = i + ((rowM M).length - (i + 1)) := by
      rw [← rowM_len (delM M n), HCUT.out, List.length_append, List.length_take, List.length_drop]
      have := HI.out
      rw [rowM_len]
      omega
    rw [HCUT.out, e]
    exact own_weak (Nat.le_trans HS.out.st.big HM1.out.size) HO5.out
  · obtain ⟨rfl, rfl, hh⟩ := hp
    have HL := HU 0 false (hasN_false hh).2 hh
    have HD : Hid (delM M n = M) := Lib.hid (delM_no hh)
    clear HU hh S'
    go_wp2_with (first
      | (refine wpList_load_at (op := ⟨some 133, _, _, _, _, _⟩) rfl 77 (.tmp 132) rfl _ _ rfl HN.out ?_
         go_frame)
      | (go_at_call 51
         refine HL.out.mono ?_
         rintro e w1 ⟨rfl, ht1, hm1⟩
         have HT1 := Lib.hid ht1
         have HM1 := Lib.hid hm1
         clear ht1 hm1)
      | fail)
    refine HEND.out _ _ _ _ _ _ _ _ _ _ _ _ _ _ _ _ _ _ _ _ _ _ _ _ _ _ _ _ _ _ _ _ _ _ _ _ _ _ _ _ _ _ _ _ _ _ _ _ _ _ _ _ _ _ _ _ _ _ _ _ _ _ _ _ _ _ _ _ _ _ _ _ _ _ _ _ _ _ _ _ _ _ _ _ _ _ _ _ _ _ _ _ _ _ _ _ _ _ _ _ _ _ _ _ _ _ _ _ _ _ _ _ _ _ _ _ _ _ _ _ _ _ _ _ _ _ _ _ _ _ _ _ _ _ _ _ _ _ _ _ _ _ _ _ _ _ _ _ _ _ _ _ _ _ ?_
    refine ⟨p, M, rfl, HS.out.st.next (by have h := HT1.out; rw [HD.out] at h; exact h) HM1.out, ?_, HS.out.good⟩
    rw [← rowM_len M]
    exact row_keep HS.out.st.tab HROW.out HM1.out
end Go.Proofs.Ytbfnmgjpkieaoaa.Tb
