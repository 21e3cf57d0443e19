/-
  HandPlays' switch, where the act is a Close.
-/
import Derived.Test.YtmennobdgfgjaaaHandPlaysHead
namespace Go.Proofs.Ytmennobdgfgjaaa
open Go Go.RowKit Go.Maps Go.Sort Go.Shelf Go.Proofs

theorem rise_inj {R : List Pr} (h : Rise R) {i j : Nat} (hi : i < R.length) (hj : j < R.length) (e : R[i].1 = R[j].1) : i = j := by
  rcases Nat.lt_trichotomy i j with h1 | h1 | h1
  · have := List.pairwise_iff_getElem.1 h i j hi hj h1; omega
  · exact h1
  · have := List.pairwise_iff_getElem.1 h j i hj hi h1; omega
theorem filter_cut {R : List Pr} (h : Rise R) {k : Nat} {n : Int} (hk : k < R.length) (e : R[k].1 = n) : R.filter (fun q => !(q.1 == n)) = R.take k ++ R.drop (k + 1) := by
  conv => lhs; rw [← List.take_append_drop k R]
  rw [List.filter_append, List.drop_eq_getElem_cons hk, List.filter_cons_of_neg (by simpa using e)]
  congr 1
  · rw [List.filter_eq_self]
    intro q hq
    obtain ⟨i, hi, rfl⟩ := List.getElem_of_mem hq
    have hi' : i < k := by simp at hi; omega
    rw [List.getElem_take]
    have : R[i].1 ≠ n := fun e' => by have := rise_inj h (by omega) hk (e'.trans e.symm); omega
    simpa using this
  · rw [List.filter_eq_self]
    intro q hq
    obtain ⟨i, hi, rfl⟩ := List.getElem_of_mem hq
    simp at hi
    rw [List.getElem_drop]
    have : R[k + 1 + i].1 ≠ n := fun e' => by have := rise_inj h (by omega) hk (e'.trans e.symm); omega
    simpa using this
theorem take_get {α : Type} {l : List α} {n j : Nat} {u : α} (h : (l.take n)[j]? = some u) : l[j]? = some u := by
  rw [List.getElem?_take] at h
  split at h
  · exact h
  · cases h
theorem filter_all {R : List Pr} {n : Int} (h : ∀ i (hi : i < R.length), R[i].1 ≠ n) : R.filter (fun q => !(q.1 == n)) = R := by
  rw [List.filter_eq_self]
  intro q hq
  obtain ⟨i, hi, rfl⟩ := List.getElem_of_mem hq
  simpa using h i hi
theorem hasK_hit {R : List Pr} {n : Int} {k : Nat} (hk : k < R.length) (e : R[k].1 = n) : hasK R n = true := by
  unfold hasK
  rw [List.any_eq_true]
  exact ⟨R[k], List.getElem_mem hk, by simpa using e⟩
theorem hasK_miss {R : List Pr} {n : Int} (h : ∀ i (hi : i < R.length), R[i].1 ≠ n) : hasK R n = false := by
  unfold hasK
  rw [List.any_eq_false]
  intro q hq
  obtain ⟨i, hi, rfl⟩ := List.getElem_of_mem hq
  simpa using h i hi

set_option maxRecDepth 100000 in
set_option maxHeartbeats 8000000 in
theorem sw3 {code : Code} (hcode : blk 2 = code) {w wa : World} {p m ab k : Nat} {R : List Pr} {last op n : Int} {AT A6 : Option Addr} {cT c6 : Nat} {tz : List Int} {Q : Exit → Act → World → Prop} {c0 c1 c2 c3 c4 c8 c10 c11 c12 c13 c14 c15 c16 c17 c18 c19 c20 c21 c22 c23 c24 c25 c26 c27 c28 c29 c30 c31 c32 c33 c34 c35 c36 c37 c38 c39 c40 c41 c42 c43 c44 c45 c46 c47 c48 c49 c51 c52 c53 c54 c55 c56 c57 c58 c59 c60 c61 c62 c63 c64 c65 c66 c67 c68 c69 c70 c71 c72 c73 c74 c75 c76 c77 c78 c79 c80 c81 c82 c83 c84 c85 c86 c87 c88 c89 c90 c91 c92 c93 c94 c95 c96 c97 c98 c99 c100 c101 c102 c103 c104 c105 c106 c107 c108 c109 c110 c111 c112 c113 c114 c115 c116 c117 c118 c119 c120 c121 c122 c123 c124 c125 c126 c127 c128 c129 c130 c131 c132 c133 c134 c135 c136 c137 c138 c139 c140 c141 c142 c143 c144 c145 c146 c147 c148 c149 c150 c151 c152 c153 c154 c155 c156 c157 c158 c159 c160 c161 c162 c163 c164 c165 c166 c167 c168 c169 c170 c171 c172 c173 c174 c175 c176 c177 c178 c179 c180 c181 c182 c183 c184 c185 c186 c187 c188 c189 c190 c191 c192 c193 c194 c195 c196 c197 c198 c199 c200 c201 c202 c203 c204 c205 c206 c207 c208 c209 c210 c211 c212 c213 c214 c215 c216 c217 c218 c219 c220 c221 c222 c223 c224 c225 c226 c227 c228 c229 c230 c231 c232 c233 c234 c235 c236 c237 c238 c239 c240 c241 c242 c243 c244 c245 c246 c247 c248 c249 c250 c251 c252 c253 c254 c255 c256 c257 c258 c259 c260 c261 c262 c263 c264 c265 c266 c267 c268 c269 c270 c271 c272 c273 c274 c275 c276 c277 c278 c279 c280 c281 c282 c283 c284 c285 c286 c287 c288 c289 c290 c291 c292 : Value}
    (S : Sw w wa p m ab R last op n AT cT tz A6 c6 k) (ho : op = 3)
    (hEnd : ∀ (u4 u5 u6 u7 u10 u11 u12 u13 u14 u15 u16 u17 u18 u19 u20 u21 u22 u51 u52 u53 u54 u55 u56 u57 u58 u59 u60 u61 u62 u63 u64 u65 u66 u67 u68 u69 u70 u71 u72 u73 u74 u75 u76 u77 u78 u79 u80 u81 u82 u83 u84 u85 u86 u87 u88 u89 u90 u91 u92 u93 u94 u95 u96 u97 u98 u99 u100 u101 u102 u103 u104 u105 u106 u107 u108 u109 u110 u111 u112 u113 u114 u115 u116 u117 u118 u119 u120 u121 u122 u123 u124 u125 u126 u127 u128 u129 u130 u131 u132 u133 u134 u135 u136 u137 u138 u139 u140 u141 u142 u143 u144 u145 u146 u147 u148 u149 u150 u151 u152 u153 u154 u155 u156 u157 u158 u159 u160 u161 u162 u163 u164 u165 u166 u167 u168 u169 u170 u171 u172 u173 u174 u175 u176 u177 u178 u179 u180 u181 u182 u183 u184 u185 u186 u187 u188 u189 u190 u191 u192 u193 u194 u195 u196 u197 u198 u199 u200 u201 u202 u203 u204 u205 u206 u207 u208 u209 u210 u211 u212 u213 u214 u215 u216 u217 u218 u219 u220 u221 u222 u223 u224 : Value) (w' : World), PlayAt w (k + 1) u5 u6 u7 w' → Q .normal ⟨List.toArray (c0 :: c1 :: c2 :: c3 :: u4 :: u5 :: u6 :: u7 :: c8 :: .pointer (some ⟨ab, 0, none⟩) :: u10 :: u11 :: u12 :: u13 :: u14 :: u15 :: u16 :: u17 :: u18 :: u19 :: u20 :: u21 :: u22 :: c23 :: c24 :: c25 :: c26 :: c27 :: c28 :: c29 :: c30 :: c31 :: c32 :: c33 :: c34 :: c35 :: c36 :: c37 :: c38 :: c39 :: c40 :: c41 :: c42 :: c43 :: c44 :: c45 :: c46 :: c47 :: c48 :: c49 :: .int .i64 op :: u51 :: u52 :: u53 :: u54 :: u55 :: u56 :: u57 :: u58 :: u59 :: u60 :: u61 :: u62 :: u63 :: u64 :: u65 :: u66 :: u67 :: u68 :: u69 :: u70 :: u71 :: u72 :: u73 :: u74 :: u75 :: u76 :: u77 :: u78 :: u79 :: u80 :: u81 :: u82 :: u83 :: u84 :: u85 :: u86 :: u87 :: u88 :: u89 :: u90 :: u91 :: u92 :: u93 :: u94 :: u95 :: u96 :: u97 :: u98 :: u99 :: u100 :: u101 :: u102 :: u103 :: u104 :: u105 :: u106 :: u107 :: u108 :: u109 :: u110 :: u111 :: u112 :: u113 :: u114 :: u115 :: u116 :: u117 :: u118 :: u119 :: u120 :: u121 :: u122 :: u123 :: u124 :: u125 :: u126 :: u127 :: u128 :: u129 :: u130 :: u131 :: u132 :: u133 :: u134 :: u135 :: u136 :: u137 :: u138 :: u139 :: u140 :: u141 :: u142 :: u143 :: u144 :: u145 :: u146 :: u147 :: u148 :: u149 :: u150 :: u151 :: u152 :: u153 :: u154 :: u155 :: u156 :: u157 :: u158 :: u159 :: u160 :: u161 :: u162 :: u163 :: u164 :: u165 :: u166 :: u167 :: u168 :: u169 :: u170 :: u171 :: u172 :: u173 :: u174 :: u175 :: u176 :: u177 :: u178 :: u179 :: u180 :: u181 :: u182 :: u183 :: u184 :: u185 :: u186 :: u187 :: u188 :: u189 :: u190 :: u191 :: u192 :: u193 :: u194 :: u195 :: u196 :: u197 :: u198 :: u199 :: u200 :: u201 :: u202 :: u203 :: u204 :: u205 :: u206 :: u207 :: u208 :: u209 :: u210 :: u211 :: u212 :: u213 :: u214 :: u215 :: u216 :: u217 :: u218 :: u219 :: u220 :: u221 :: u222 :: u223 :: u224 :: c225 :: c226 :: c227 :: c228 :: c229 :: c230 :: c231 :: c232 :: c233 :: c234 :: c235 :: c236 :: c237 :: c238 :: c239 :: c240 :: c241 :: c242 :: c243 :: c244 :: c245 :: c246 :: c247 :: c248 :: c249 :: c250 :: c251 :: c252 :: c253 :: c254 :: c255 :: c256 :: c257 :: c258 :: c259 :: c260 :: c261 :: c262 :: c263 :: c264 :: c265 :: c266 :: c267 :: c268 :: c269 :: c270 :: c271 :: c272 :: c273 :: c274 :: c275 :: c276 :: c277 :: c278 :: c279 :: c280 :: c281 :: c282 :: c283 :: c284 :: c285 :: c286 :: c287 :: c288 :: c289 :: c290 :: c291 :: c292 :: []), []⟩ w') :
    Code.wp Try.prog code Q ⟨List.toArray (c0 :: c1 :: c2 :: c3 :: c4 :: .pointer (some ⟨p, 0, none⟩) :: .slice A6 R.length c6 :: .int .i64 last :: c8 :: .pointer (some ⟨ab, 0, none⟩) :: c10 :: c11 :: c12 :: c13 :: c14 :: c15 :: c16 :: c17 :: c18 :: c19 :: c20 :: c21 :: c22 :: c23 :: c24 :: c25 :: c26 :: c27 :: c28 :: c29 :: c30 :: c31 :: c32 :: c33 :: c34 :: c35 :: c36 :: c37 :: c38 :: c39 :: c40 :: c41 :: c42 :: c43 :: c44 :: c45 :: c46 :: c47 :: c48 :: c49 :: .int .i64 op :: c51 :: c52 :: c53 :: c54 :: c55 :: c56 :: c57 :: c58 :: c59 :: c60 :: c61 :: c62 :: c63 :: c64 :: c65 :: c66 :: c67 :: c68 :: c69 :: c70 :: c71 :: c72 :: c73 :: c74 :: c75 :: c76 :: c77 :: c78 :: c79 :: c80 :: c81 :: c82 :: c83 :: c84 :: c85 :: c86 :: c87 :: c88 :: c89 :: c90 :: c91 :: c92 :: c93 :: c94 :: c95 :: c96 :: c97 :: c98 :: c99 :: c100 :: c101 :: c102 :: c103 :: c104 :: c105 :: c106 :: c107 :: c108 :: c109 :: c110 :: c111 :: c112 :: c113 :: c114 :: c115 :: c116 :: c117 :: c118 :: c119 :: c120 :: c121 :: c122 :: c123 :: c124 :: c125 :: c126 :: c127 :: c128 :: c129 :: c130 :: c131 :: c132 :: c133 :: c134 :: c135 :: c136 :: c137 :: c138 :: c139 :: c140 :: c141 :: c142 :: c143 :: c144 :: c145 :: c146 :: c147 :: c148 :: c149 :: c150 :: c151 :: c152 :: c153 :: c154 :: c155 :: c156 :: c157 :: c158 :: c159 :: c160 :: c161 :: c162 :: c163 :: c164 :: c165 :: c166 :: c167 :: c168 :: c169 :: c170 :: c171 :: c172 :: c173 :: c174 :: c175 :: c176 :: c177 :: c178 :: c179 :: c180 :: c181 :: c182 :: c183 :: c184 :: c185 :: c186 :: c187 :: c188 :: c189 :: c190 :: c191 :: c192 :: c193 :: c194 :: c195 :: c196 :: c197 :: c198 :: c199 :: c200 :: c201 :: c202 :: c203 :: c204 :: c205 :: c206 :: c207 :: c208 :: c209 :: c210 :: c211 :: c212 :: c213 :: c214 :: c215 :: c216 :: c217 :: c218 :: c219 :: c220 :: c221 :: c222 :: c223 :: c224 :: c225 :: c226 :: c227 :: c228 :: c229 :: c230 :: c231 :: c232 :: c233 :: c234 :: c235 :: c236 :: c237 :: c238 :: c239 :: c240 :: c241 :: c242 :: c243 :: c244 :: c245 :: c246 :: c247 :: c248 :: c249 :: c250 :: c251 :: c252 :: c253 :: c254 :: c255 :: c256 :: c257 :: c258 :: c259 :: c260 :: c261 :: c262 :: c263 :: c264 :: c265 :: c266 :: c267 :: c268 :: c269 :: c270 :: c271 :: c272 :: c273 :: c274 :: c275 :: c276 :: c277 :: c278 :: c279 :: c280 :: c281 :: c282 :: c283 :: c284 :: c285 :: c286 :: c287 :: c288 :: c289 :: c290 :: c291 :: c292 :: []), []⟩ wa := by
  subst hcode
  conv => arg 2; whnf
  have HS := Lib.hid S
  have HEND := Lib.hid hEnd
  clear hEnd
  have hRk : (R.length : Int) < 1000 := by have := S.hR; have := S.hk; omega
  have c1 := S.c1
  subst ho
  by_cases hx : ∃ (i : Nat) (h : i < R.length), R[i].1 = n
  · obtain ⟨i, hil, hin⟩ := hx
    have AT := Lib.hid (at_any (h := n) (idxP_hit hil hin (fun j hj hji e => by have := rise_inj S.tab.ok.rise hj hil (e.trans hin.symm); omega)) S.own (by have := S.hR; have := S.hk; omega))
    have CL := Lib.hid (close_eq (h := n) (b := true) S.tab S.wn (hasK_hit hil hin) (filter_cut S.tab.ok.rise hil hin))
    clear hin S
    have hi1 : (i : Int) < 1000 := by omega
    go_wp2_with fail
    refine AT.out.mono ?_
    rintro e w1 ⟨rfl, rfl⟩
    clear AT
    go_wp2_with fail
    refine CL.out.mono ?_
    rintro e w3 ⟨rfl, hT3, hm3⟩
    clear CL c1
    obtain ⟨A', c', hv6, hc6, hcm6, -, -, hcell6⟩ := own_form (HS.out.own' hm3)
    cases hv6
    obtain ⟨g6, rfl, hg6, hgl6, hx6⟩ := hcell6 (by omega)
    have HX := Lib.hid hx6
    have HT3 := Lib.hid hT3
    have HM3 := Lib.hid hm3
    clear hx6 hT3 hm3 hcell6
    go_wp2_with fail
    obtain ⟨i4, hi4, hq0, hq1, hq2⟩ := info_parts infoP
    have hq3 : (Value.agg #[.int .i64 0, .int .i64 0]).cells.size = 2 := rfl
    have hq4 : (0 : Nat) < 2 := by decide
    have HP1 := Lib.hid (cellsP_len (R.take i))
    have HO1 := Lib.hid (cellsP_one (R.take i))
    have HP2 := Lib.hid (cellsP_len (R.drop (i + 1)))
    have HO2 := Lib.hid (cellsP_one (R.drop (i + 1)))
    have HL1 : Hid ((R.take i).length = i) := Lib.hid (by simp; omega)
    have HL2 : Hid ((R.drop (i + 1)).length = R.length - (i + 1)) := Lib.hid (by simp)
    have HN : Hid (R.length ≤ maxLen ∧ R.length * 16 ≤ 140737488355328) := by
      show _ ∧ _
      unfold maxLen
      omega
    have h0 : w.heap.size ≤ w3.heap.size := (HS.out.mov' HM3.out).size
    have hv0 : (Value.slice (some ⟨w3.heap.size, 0, none⟩) 0 0).ownBlock ≠ some g6 := fun e => by have h : w3.heap.size = g6 := by { simpa [Value.ownBlock] using e }; omega
    have b0 : (0 : Int) ≤ (i : Int) := by omega
    have b1 : (i : Int) ≤ (c6 : Int) := by omega
    have b2 : (i : Int) + 1 ≤ (R.length : Int) := by omega
    have b3 : (R.length : Int) ≤ (c6 : Int) := by omega
    have b4 : IntKind.i64.wrap ((i : Int) + 1) = (i : Int) + 1 := IntWalk.i64_in _ (by omega)
    have b5 : (0 : Int) ≤ (i : Int) + 1 := by omega
    go_region_held3 (fun _ => True) (trivial)
      (first
        | (have _t := tk1
           go_must (
           refine step_append_src _ rfl (.tmp 157) (.tmp 161) 40 rfl w.heap.size 44 i4 _ 2 16 Try.underlying40 hi4 hq0 hq1 hq2 hq3 hq4 (.slice A1 i k1) i (cellsP (R.take i)) rfl hn1 (if c6 = i + 1 then some ⟨g6, 0, none⟩ else some ⟨g6, (i + 1) * 2, none⟩) (R.length - (i + 1)) (c6 - (i + 1)) (cellsP (R.drop (i + 1))) rfl (by rw [HP2.out, HL2.out]) (fun hpos => ⟨⟨g6, (i + 1) * 2, none⟩, if_neg (by omega), fun j u hu => by rw [add_of rfl]; exact HC4.out _ _ (by rw [← cellsP_drop, List.getElem?_drop] at hu; exact hu)⟩) HO2.out (by have := HN.out.1; omega) (by have := HN.out.2; omega) (Nat.le_trans h0 hm4.size) ?_
           intro v2 w5 hn2 hg2 hl2
           have hm5 : Moves (fun _ => False) w3 w5 := by { first | exact Moves.onto hm4 hg2 hlow | exact Moves.onto hm4.drew hg2 hlow }))
        | (go_must (
           refine step_append_src _ rfl (.tmp 153) (.tmp 156) 40 rfl w.heap.size 44 i4 _ 2 16 Try.underlying40 hi4 hq0 hq1 hq2 hq3 hq4 (.slice (some ⟨w3.heap.size, 0, none⟩) 0 0) 0 [] rfl (own_empty w3 _ _ _ h0) (some ⟨g6, 0, none⟩) i c6 (cellsP (R.take i)) rfl (by rw [HP1.out, HL1.out]) (fun _ => ⟨⟨g6, 0, none⟩, rfl, fun j u hu => by rw [add_of rfl, Nat.zero_add]; exact (World.cell?_alloc_lt w3 _ ⟨g6, j, none⟩ hgl6).trans (HX.out _ _ (take_get (by rw [← cellsP_take] at hu; exact hu)))⟩) HO1.out (by have := HN.out.1; omega) (by have := HN.out.2; omega) (le_alloc _ _ h0) ?_
           intro v1 w4 hn1 hg1 hl1
           simp only [Nat.zero_add, List.nil_append] at hn1
           obtain ⟨A1, k1, rfl, -, -, -, -, -⟩ := own_form hn1
           have hlow := low_block hl1 (low_slice w3.heap.size (w3.heap.size) 0 0 (Nat.le_refl _)) (le_alloc _ _ (Nat.le_refl _))
           have hm4 : Moves (fun _ => False) w3 w4 := by { first | exact Moves.onto ((Moves.refl _ w3).alloc _) hg1 (low_slice w3.heap.size (w3.heap.size) 0 0 (Nat.le_refl _)) | exact Moves.onto (((Moves.refl _ w3).alloc _).drew) hg1 (low_slice w3.heap.size (w3.heap.size) 0 0 (Nat.le_refl _)) }
           have hs4 := hg1.size
           have HC4 := Lib.hid (show ∀ j u, (cellsP R)[j]? = some u → w4.cell? ⟨g6, j, none⟩ = some u from fun j u hu => keep1 hg1 (lt_alloc w3 _ hgl6) ((World.cell?_alloc_lt w3 _ ⟨g6, j, none⟩ hgl6).trans (HX.out _ _ hu)) hv0)
           have tk1 : True := trivial))
        | fail)
    go_wp2
    all_goals
      refine HEND.out _ _ _ _ _ _ _ _ _ _ _ _ _ _ _ _ _ _ _ _ _ _ _ _ _ _ _ _ _ _ _ _ _ _ _ _ _ _ _ _ _ _ _ _ _ _ _ _ _ _ _ _ _ _ _ _ _ _ _ _ _ _ _ _ _ _ _ _ _ _ _ _ _ _ _ _ _ _ _ _ _ _ _ _ _ _ _ _ _ _ _ _ _ _ _ _ _ _ _ _ _ _ _ _ _ _ _ _ _ _ _ _ _ _ _ _ _ _ _ _ _ _ _ _ _ _ _ _ _ _ _ _ _ _ _ _ _ _ _ _ _ _ _ _ _ _ _ _ _ _ _ _ _ _ _ _ _ _ _ _ _ _ _ _ _ _ _ _ _ _ _ _ _ _ _ _ _ _ _ _ _ _ _ _ _ _ _ _ _ _ _ _ ?_
      have hlen : (R.take i ++ R.drop (i + 1)).length = i + (R.length - (i + 1)) := by rw [List.length_append, HL1.out, HL2.out]
      exact ⟨p, m, R.take i ++ R.drop (i + 1), last, rfl, rfl, HT3.out.moves hm5 (fun h => h) (fun h => h), by rw [hlen, cellsP_append]; exact hn2, by have := HS.out.hR; omega, by have := HS.out.hlast; omega, HS.out.hp, HS.out.hm, (HS.out.mov' HM3.out).trans hm5⟩
  · have hmiss : ∀ i (hi : i < R.length), R[i].1 ≠ n := fun i hi e => hx ⟨i, hi, e⟩
    have AT := Lib.hid (at_any (h := n) (idxP_miss hmiss) S.own (by have := S.hR; have := S.hk; omega))
    have CL := Lib.hid (close_eq (h := n) (b := false) S.tab S.wn (hasK_miss hmiss) (filter_all hmiss))
    clear hmiss hx S
    go_wp2_with fail
    refine AT.out.mono ?_
    rintro e w1 ⟨rfl, rfl⟩
    clear AT
    go_wp2_with fail
    refine CL.out.mono ?_
    rintro e w3 ⟨rfl, hT3, hm3⟩
    have HT3 := Lib.hid hT3
    have HM3 := Lib.hid hm3
    clear CL c1 hT3 hm3
    go_wp2
    refine HEND.out _ _ _ _ _ _ _ _ _ _ _ _ _ _ _ _ _ _ _ _ _ _ _ _ _ _ _ _ _ _ _ _ _ _ _ _ _ _ _ _ _ _ _ _ _ _ _ _ _ _ _ _ _ _ _ _ _ _ _ _ _ _ _ _ _ _ _ _ _ _ _ _ _ _ _ _ _ _ _ _ _ _ _ _ _ _ _ _ _ _ _ _ _ _ _ _ _ _ _ _ _ _ _ _ _ _ _ _ _ _ _ _ _ _ _ _ _ _ _ _ _ _ _ _ _ _ _ _ _ _ _ _ _ _ _ _ _ _ _ _ _ _ _ _ _ _ _ _ _ _ _ _ _ _ _ _ _ _ _ _ _ _ _ _ _ _ _ _ _ _ _ _ _ _ _ _ _ _ _ _ _ _ _ _ _ _ _ _ _ _ _ _ ?_
    exact ⟨p, m, R, last, rfl, rfl, HT3.out, HS.out.own' HM3.out, Nat.le_succ_of_le HS.out.hR, by have := HS.out.hlast; omega, HS.out.hp, HS.out.hm, HS.out.mov' HM3.out⟩
end Go.Proofs.Ytmennobdgfgjaaa

