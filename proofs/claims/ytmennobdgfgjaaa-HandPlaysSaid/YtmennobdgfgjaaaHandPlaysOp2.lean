/-
  HandPlays' switch, where the act asks for a node's handle.
-/
import Derived.Test.YtmennobdgfgjaaaHandPlaysHead
import Derived.BigQuiet
import Derived.Deep.QuietTactic
import Derived.Deep.LoopGhost
namespace Go.Proofs.Ytmennobdgfgjaaa
open Go Go.RowKit Go.Maps Go.Sort Go.Shelf Go.Proofs

def lf (R : List Pr) (n : Int) (j : Nat) : Int := match least (R.drop j) n with | some x => x | none => 0
theorem lf_end (R : List Pr) (n : Int) : lf R n R.length = 0 := by unfold lf least; simp
theorem lf_hit {R : List Pr} {n : Int} {j : Nat} (h : j < R.length) (e : R[j].2 = n) : lf R n j = R[j].1 := by
  unfold lf least
  rw [List.drop_eq_getElem_cons h, List.find?_cons_of_pos (by simpa using e)]
  rfl
theorem lf_miss {R : List Pr} {n : Int} {j : Nat} (h : j < R.length) (e : R[j].2 ≠ n) : lf R n j = lf R n (j + 1) := by
  unfold lf least
  rw [List.drop_eq_getElem_cons h, List.find?_cons_of_neg (by simpa using e)]
theorem lf_none {R : List Pr} {n : Int} (h : least R n = none) : lf R n 0 = 0 := by unfold lf; rw [List.drop_zero, h]
theorem lf_some {R : List Pr} {n x : Int} (h : least R n = some x) : lf R n 0 = x := by unfold lf; rw [List.drop_zero, h]
theorem least_mem {R : List Pr} {n x : Int} (h : least R n = some x) : ∃ p ∈ R, p.1 = x ∧ p.2 = n := by
  unfold least at h
  rw [Option.map_eq_some_iff] at h
  obtain ⟨q, hq, rfl⟩ := h
  exact ⟨q, List.mem_of_find?_eq_some hq, rfl, by simpa using List.find?_some hq⟩
theorem for_bad {w : World} {p m : Nat} {R : List Pr} {last node : Int} (hT : Tab w p m R last) (hl : least R node = none) (hn : node < 1) :
    Calls Try.prog 15 #[.pointer (some ⟨p, 0, none⟩), .int .i64 node] w (fun e w' => e = .returned (.tuple #[.int .i64 0, .int .i64 1]) ∧ Moves (fun _ => False) w w') :=
  (for_any (a := 0) (b := 1) (Q := fun w1 w2 => w1 = w2) hT (fun _ w1 hT1 => (open_bad hn).mono fun _ _ ⟨he, h⟩ => ⟨he, h⟩)).mono fun e w' h => by
    rcases h with ⟨y, hy, _⟩ | ⟨_, he, w1, hm, rfl⟩
    · rw [hl] at hy; cases hy
    · exact ⟨he, hm⟩

set_option maxRecDepth 100000 in
set_option maxHeartbeats 8000000 in
theorem sw2 {code : Code} (hcode : blk 2 = code) {w wa : World} {p m ab k : Nat} {R : List Pr} {last op n : Int} {AT A6 : Option Addr} {cT c6 : Nat} {tz : List Int} {Q : Exit → Act → World → Prop} {c0 c1 c2 c3 c4 c8 c10 c11 c12 c13 c14 c15 c16 c17 c18 c19 c20 c21 c22 c23 c24 c25 c26 c27 c28 c29 c30 c31 c32 c33 c34 c35 c36 c37 c38 c39 c40 c41 c42 c43 c44 c45 c46 c47 c48 c49 c51 c52 c53 c54 c55 c56 c57 c58 c59 c60 c61 c62 c63 c64 c65 c66 c67 c68 c69 c70 c71 c72 c73 c74 c75 c76 c77 c78 c79 c80 c81 c82 c83 c84 c85 c86 c87 c88 c89 c90 c91 c92 c93 c94 c95 c96 c97 c98 c99 c100 c101 c102 c103 c104 c105 c106 c107 c108 c109 c110 c111 c112 c113 c114 c115 c116 c117 c118 c119 c120 c121 c122 c123 c124 c125 c126 c127 c128 c129 c130 c131 c132 c133 c134 c135 c136 c137 c138 c139 c140 c141 c142 c143 c144 c145 c146 c147 c148 c149 c150 c151 c152 c153 c154 c155 c156 c157 c158 c159 c160 c161 c162 c163 c164 c165 c166 c167 c168 c169 c170 c171 c172 c173 c174 c175 c176 c177 c178 c179 c180 c181 c182 c183 c184 c185 c186 c187 c188 c189 c190 c191 c192 c193 c194 c195 c196 c197 c198 c199 c200 c201 c202 c203 c204 c205 c206 c207 c208 c209 c210 c211 c212 c213 c214 c215 c216 c217 c218 c219 c220 c221 c222 c223 c224 c225 c226 c227 c228 c229 c230 c231 c232 c233 c234 c235 c236 c237 c238 c239 c240 c241 c242 c243 c244 c245 c246 c247 c248 c249 c250 c251 c252 c253 c254 c255 c256 c257 c258 c259 c260 c261 c262 c263 c264 c265 c266 c267 c268 c269 c270 c271 c272 c273 c274 c275 c276 c277 c278 c279 c280 c281 c282 c283 c284 c285 c286 c287 c288 c289 c290 c291 c292 : Value}
    (S : Sw w wa p m ab R last op n AT cT tz A6 c6 k) (ho : op = 2)
    (hEnd : ∀ (u4 u5 u6 u7 u10 u11 u12 u13 u14 u15 u16 u17 u18 u19 u20 u21 u22 u51 u52 u53 u54 u55 u56 u57 u58 u59 u60 u61 u62 u63 u64 u65 u66 u67 u68 u69 u70 u71 u72 u73 u74 u75 u76 u77 u78 u79 u80 u81 u82 u83 u84 u85 u86 u87 u88 u89 u90 u91 u92 u93 u94 u95 u96 u97 u98 u99 u100 u101 u102 u103 u104 u105 u106 u107 u108 u109 u110 u111 u112 u113 u114 u115 u116 u117 u118 u119 u120 u121 u122 u123 u124 u125 u126 u127 u128 u129 u130 u131 u132 u133 u134 u135 u136 u137 u138 u139 u140 u141 u142 u143 u144 u145 u146 u147 u148 u149 u150 u151 u152 u153 u154 u155 u156 u157 u158 u159 u160 u161 u162 u163 u164 u165 u166 u167 u168 u169 u170 u171 u172 u173 u174 u175 u176 u177 u178 u179 u180 u181 u182 u183 u184 u185 u186 u187 u188 u189 u190 u191 u192 u193 u194 u195 u196 u197 u198 u199 u200 u201 u202 u203 u204 u205 u206 u207 u208 u209 u210 u211 u212 u213 u214 u215 u216 u217 u218 u219 u220 u221 u222 u223 u224 : Value) (w' : World), PlayAt w (k + 1) u5 u6 u7 w' → Q .normal ⟨List.toArray (c0 :: c1 :: c2 :: c3 :: u4 :: u5 :: u6 :: u7 :: c8 :: .pointer (some ⟨ab, 0, none⟩) :: u10 :: u11 :: u12 :: u13 :: u14 :: u15 :: u16 :: u17 :: u18 :: u19 :: u20 :: u21 :: u22 :: c23 :: c24 :: c25 :: c26 :: c27 :: c28 :: c29 :: c30 :: c31 :: c32 :: c33 :: c34 :: c35 :: c36 :: c37 :: c38 :: c39 :: c40 :: c41 :: c42 :: c43 :: c44 :: c45 :: c46 :: c47 :: c48 :: c49 :: .int .i64 op :: u51 :: u52 :: u53 :: u54 :: u55 :: u56 :: u57 :: u58 :: u59 :: u60 :: u61 :: u62 :: u63 :: u64 :: u65 :: u66 :: u67 :: u68 :: u69 :: u70 :: u71 :: u72 :: u73 :: u74 :: u75 :: u76 :: u77 :: u78 :: u79 :: u80 :: u81 :: u82 :: u83 :: u84 :: u85 :: u86 :: u87 :: u88 :: u89 :: u90 :: u91 :: u92 :: u93 :: u94 :: u95 :: u96 :: u97 :: u98 :: u99 :: u100 :: u101 :: u102 :: u103 :: u104 :: u105 :: u106 :: u107 :: u108 :: u109 :: u110 :: u111 :: u112 :: u113 :: u114 :: u115 :: u116 :: u117 :: u118 :: u119 :: u120 :: u121 :: u122 :: u123 :: u124 :: u125 :: u126 :: u127 :: u128 :: u129 :: u130 :: u131 :: u132 :: u133 :: u134 :: u135 :: u136 :: u137 :: u138 :: u139 :: u140 :: u141 :: u142 :: u143 :: u144 :: u145 :: u146 :: u147 :: u148 :: u149 :: u150 :: u151 :: u152 :: u153 :: u154 :: u155 :: u156 :: u157 :: u158 :: u159 :: u160 :: u161 :: u162 :: u163 :: u164 :: u165 :: u166 :: u167 :: u168 :: u169 :: u170 :: u171 :: u172 :: u173 :: u174 :: u175 :: u176 :: u177 :: u178 :: u179 :: u180 :: u181 :: u182 :: u183 :: u184 :: u185 :: u186 :: u187 :: u188 :: u189 :: u190 :: u191 :: u192 :: u193 :: u194 :: u195 :: u196 :: u197 :: u198 :: u199 :: u200 :: u201 :: u202 :: u203 :: u204 :: u205 :: u206 :: u207 :: u208 :: u209 :: u210 :: u211 :: u212 :: u213 :: u214 :: u215 :: u216 :: u217 :: u218 :: u219 :: u220 :: u221 :: u222 :: u223 :: u224 :: c225 :: c226 :: c227 :: c228 :: c229 :: c230 :: c231 :: c232 :: c233 :: c234 :: c235 :: c236 :: c237 :: c238 :: c239 :: c240 :: c241 :: c242 :: c243 :: c244 :: c245 :: c246 :: c247 :: c248 :: c249 :: c250 :: c251 :: c252 :: c253 :: c254 :: c255 :: c256 :: c257 :: c258 :: c259 :: c260 :: c261 :: c262 :: c263 :: c264 :: c265 :: c266 :: c267 :: c268 :: c269 :: c270 :: c271 :: c272 :: c273 :: c274 :: c275 :: c276 :: c277 :: c278 :: c279 :: c280 :: c281 :: c282 :: c283 :: c284 :: c285 :: c286 :: c287 :: c288 :: c289 :: c290 :: c291 :: c292 :: []), []⟩ w') :
    Code.wp Try.prog code Q ⟨List.toArray (c0 :: c1 :: c2 :: c3 :: c4 :: .pointer (some ⟨p, 0, none⟩) :: .slice A6 R.length c6 :: .int .i64 last :: c8 :: .pointer (some ⟨ab, 0, none⟩) :: c10 :: c11 :: c12 :: c13 :: c14 :: c15 :: c16 :: c17 :: c18 :: c19 :: c20 :: c21 :: c22 :: c23 :: c24 :: c25 :: c26 :: c27 :: c28 :: c29 :: c30 :: c31 :: c32 :: c33 :: c34 :: c35 :: c36 :: c37 :: c38 :: c39 :: c40 :: c41 :: c42 :: c43 :: c44 :: c45 :: c46 :: c47 :: c48 :: c49 :: .int .i64 op :: c51 :: c52 :: c53 :: c54 :: c55 :: c56 :: c57 :: c58 :: c59 :: c60 :: c61 :: c62 :: c63 :: c64 :: c65 :: c66 :: c67 :: c68 :: c69 :: c70 :: c71 :: c72 :: c73 :: c74 :: c75 :: c76 :: c77 :: c78 :: c79 :: c80 :: c81 :: c82 :: c83 :: c84 :: c85 :: c86 :: c87 :: c88 :: c89 :: c90 :: c91 :: c92 :: c93 :: c94 :: c95 :: c96 :: c97 :: c98 :: c99 :: c100 :: c101 :: c102 :: c103 :: c104 :: c105 :: c106 :: c107 :: c108 :: c109 :: c110 :: c111 :: c112 :: c113 :: c114 :: c115 :: c116 :: c117 :: c118 :: c119 :: c120 :: c121 :: c122 :: c123 :: c124 :: c125 :: c126 :: c127 :: c128 :: c129 :: c130 :: c131 :: c132 :: c133 :: c134 :: c135 :: c136 :: c137 :: c138 :: c139 :: c140 :: c141 :: c142 :: c143 :: c144 :: c145 :: c146 :: c147 :: c148 :: c149 :: c150 :: c151 :: c152 :: c153 :: c154 :: c155 :: c156 :: c157 :: c158 :: c159 :: c160 :: c161 :: c162 :: c163 :: c164 :: c165 :: c166 :: c167 :: c168 :: c169 :: c170 :: c171 :: c172 :: c173 :: c174 :: c175 :: c176 :: c177 :: c178 :: c179 :: c180 :: c181 :: c182 :: c183 :: c184 :: c185 :: c186 :: c187 :: c188 :: c189 :: c190 :: c191 :: c192 :: c193 :: c194 :: c195 :: c196 :: c197 :: c198 :: c199 :: c200 :: c201 :: c202 :: c203 :: c204 :: c205 :: c206 :: c207 :: c208 :: c209 :: c210 :: c211 :: c212 :: c213 :: c214 :: c215 :: c216 :: c217 :: c218 :: c219 :: c220 :: c221 :: c222 :: c223 :: c224 :: c225 :: c226 :: c227 :: c228 :: c229 :: c230 :: c231 :: c232 :: c233 :: c234 :: c235 :: c236 :: c237 :: c238 :: c239 :: c240 :: c241 :: c242 :: c243 :: c244 :: c245 :: c246 :: c247 :: c248 :: c249 :: c250 :: c251 :: c252 :: c253 :: c254 :: c255 :: c256 :: c257 :: c258 :: c259 :: c260 :: c261 :: c262 :: c263 :: c264 :: c265 :: c266 :: c267 :: c268 :: c269 :: c270 :: c271 :: c272 :: c273 :: c274 :: c275 :: c276 :: c277 :: c278 :: c279 :: c280 :: c281 :: c282 :: c283 :: c284 :: c285 :: c286 :: c287 :: c288 :: c289 :: c290 :: c291 :: c292 :: []), []⟩ wa := by
  subst hcode
  conv => arg 2; whnf
  have HS := Lib.hid S
  have HEND := Lib.hid hEnd
  clear hEnd
  have hRk : (R.length : Int) < 1000 := by have := S.hR; have := S.hk; omega
  have c0 := S.c0
  have c1 := S.c1
  subst ho
  obtain ⟨A', c', hv6, -, -, -, -, hcell6⟩ := own_form S.own
  cases hv6
  clear S
  go_wp2_with fail
  go_loopg [12, 13] R.length (fun g s12 s13 wr => ∃ (j : Nat) (z f : Int), j ≤ R.length ∧ g = j ∧ z + 1 = j ∧ lf R n j = f ∧ s12 = .int .i64 f ∧ s13 = .int .i64 z ∧ Moves (fun _ => False) wa wr)
  case atStart => exact ⟨R.length, R.length - 1, 0, Nat.le_refl _, rfl, by omega, lf_end _ _, rfl, rfl, Moves.refl _ _⟩
  case round =>
    obtain ⟨j, z, f, hj, hgj, hz, hf, rfl, rfl, hM⟩ := hrel
    have HF := Lib.hid hf
    clear hf
    by_cases h0 : 0 ≤ z
    · obtain ⟨i, rfl⟩ : ∃ i : Nat, z = i := ⟨z.toNat, by omega⟩
      obtain rfl : j = i + 1 := by omega
      have hil : i < R.length := by omega
      obtain ⟨g6, rfl, hg6, hgl6, hx6⟩ := hcell6 (by omega)
      have hv0 : wr.cell? ⟨g6, i * 2, none⟩ = some (.int .i64 R[i].1) := (hM.cell (p := ⟨g6, i * 2, none⟩) hgl6 (fun h => h)).trans (hx6 _ _ (cellsP_get hil).1)
      have hv1 : wr.cell? ⟨g6, i * 2 + 1, none⟩ = some (.int .i64 R[i].2) := (hM.cell (p := ⟨g6, i * 2 + 1, none⟩) hgl6 (fun h => h)).trans (hx6 _ _ (cellsP_get hil).2)
      have c0' : wr.cell? ⟨ab, 0, none⟩ = some (.int .i64 2) := (hM.cell (p := ⟨ab, 0, none⟩) HS.out.lt (fun h => h)).trans c0
      have c1' : wr.cell? ⟨ab, 1, none⟩ = some (.int .i64 n) := (hM.cell (p := ⟨ab, 1, none⟩) HS.out.lt (fun h => h)).trans c1
      clear hx6 hcell6 c0 c1
      have Hit := Lib.hid (lf_hit (n := n) hil)
      have Miss := Lib.hid (lf_miss (n := n) hil)
      generalize R[i].1 = y1 at hv0 Hit
      generalize R[i].2 = y2 at hv1 Hit Miss
      have hi1 : (i : Int) < (R.length : Int) := by omega
      go_wp2_with fail
      by_cases hy : y2 = n
      · have ht : (y2 == n) = true := by simpa using hy
        have HY := Lib.hid hy
        clear hy
        go_quiet (fail)
        go_wp2
        go_roundg i
        case measure => omega
        case rel => exact ⟨i, i - 1, y1, by omega, rfl, by omega, Hit.out HY.out, rfl, by go_num, hM.drewN _⟩
      · have ht : (y2 == n) = false := by simpa using hy
        have HY := Lib.hid hy
        clear hy
        go_quiet (fail)
        go_wp2
        go_roundg i
        case measure => omega
        case rel => exact ⟨i, i - 1, f, by omega, rfl, by omega, (Miss.out HY.out).trans HF.out, rfl, by go_num, hM.drewN _⟩
    · obtain rfl : z = -1 := by omega
      obtain rfl : j = 0 := by omega
      clear hcell6 h0
      have hS2 := HS.out.next (hM.none _) (HS.out.tab.moves hM (fun h => h) (fun h => h))
      have c0' := hS2.c0
      have c1' := hS2.c1
      have HS2 := Lib.hid hS2
      clear HS c0 c1 hM hS2
      by_cases hn1 : n < 1
      · have hn2 : decide (n < 1) = true := by simpa using hn1
        have HO := Lib.hid (for_bad HS2.out.tab (least_none (fun i hi => by have := (HS2.out.tab.ok.node _ (List.getElem_mem hi)).1; omega)) hn1)
        clear hn1
        go_wp2_with fail
        refine HO.out.mono ?_
        rintro e w3 ⟨rfl, hm3⟩
        have HM3 := Lib.hid hm3
        clear hm3
        have hb3 := HS2.out.blk' (HM3.out.none _)
        have c1 : w3.cell? ⟨ab, 1, none⟩ = some (.int .i64 n) := by simp [World.cell?, hb3]
        clear c0' c1' HO hb3
        go_wp2
        refine HEND.out _ _ _ _ _ _ _ _ _ _ _ _ _ _ _ _ _ _ _ _ _ _ _ _ _ _ _ _ _ _ _ _ _ _ _ _ _ _ _ _ _ _ _ _ _ _ _ _ _ _ _ _ _ _ _ _ _ _ _ _ _ _ _ _ _ _ _ _ _ _ _ _ _ _ _ _ _ _ _ _ _ _ _ _ _ _ _ _ _ _ _ _ _ _ _ _ _ _ _ _ _ _ _ _ _ _ _ _ _ _ _ _ _ _ _ _ _ _ _ _ _ _ _ _ _ _ _ _ _ _ _ _ _ _ _ _ _ _ _ _ _ _ _ _ _ _ _ _ _ _ _ _ _ _ _ _ _ _ _ _ _ _ _ _ _ _ _ _ _ _ _ _ _ _ _ _ _ _ _ _ _ _ _ _ _ _ _ _ _ _ _ _ ?_
        exact ⟨p, m, R, last, rfl, rfl, HS2.out.tab.moves HM3.out (fun h => h) (fun h => h), HS2.out.own' (HM3.out.none _), Nat.le_succ_of_le HS2.out.hR, by have := HS2.out.hlast; omega, HS2.out.hp, HS2.out.hm, HS2.out.mov' (HM3.out.none _)⟩
      · have hn2 : decide (n < 1) = false := by simpa using hn1
        rcases hL : least R n with _ | x
        · have HO := Lib.hid (for_open HS2.out.tab hL (by omega) HS2.out.wn (by have := HS2.out.hR; have := HS2.out.hk; omega) (by have := HS2.out.hlast; have := HS2.out.hk; omega) rfl)
          obtain rfl : f = 0 := by rw [← HF.out]; exact lf_none hL
          clear hn1 hL
          go_wp2_with fail
          refine HO.out.mono ?_
          rintro e w3 ⟨rfl, hT3, hm3⟩
          have HM3 := Lib.hid hm3
          have HT3 := Lib.hid hT3
          have hb3 := HS2.out.blk' hm3
          clear c0' c1' HO hm3 hT3
          have c1 : w3.cell? ⟨ab, 1, none⟩ = some (.int .i64 n) := by simp [World.cell?, hb3]
          have HB3 := Lib.hid hb3
          clear hb3
          have hlw := HS2.out.hlast
          have hlk := HS2.out.hk
          have hl0 := HS2.out.tab.ok.last0
          go_wp2_with fail
          refine reg35 (w0 := w) (by kernel_rfl) (HS2.out.own' HM3.out) c1 (Nat.lt_of_lt_of_le HS2.out.lt HM3.out.size) (by have := HS2.out.hR; omega) (HS2.out.mov' HM3.out).size ?_
          intro u109 u110 u111 u112 u113 u114 u115 u116 u117 v6 w5 ho5 hM5
          go_wp2
          refine HEND.out _ _ _ _ _ _ _ _ _ _ _ _ _ _ _ _ _ _ _ _ _ _ _ _ _ _ _ _ _ _ _ _ _ _ _ _ _ _ _ _ _ _ _ _ _ _ _ _ _ _ _ _ _ _ _ _ _ _ _ _ _ _ _ _ _ _ _ _ _ _ _ _ _ _ _ _ _ _ _ _ _ _ _ _ _ _ _ _ _ _ _ _ _ _ _ _ _ _ _ _ _ _ _ _ _ _ _ _ _ _ _ _ _ _ _ _ _ _ _ _ _ _ _ _ _ _ _ _ _ _ _ _ _ _ _ _ _ _ _ _ _ _ _ _ _ _ _ _ _ _ _ _ _ _ _ _ _ _ _ _ _ _ _ _ _ _ _ _ _ _ _ _ _ _ _ _ _ _ _ _ _ _ _ _ _ _ _ _ _ _ _ _ ?_
          exact ⟨p, m, R ++ [(last + 1, n)], last + 1, rfl, rfl, HT3.out.moves hM5 (fun h => h) (fun h => h), ho5, by have := HS2.out.hR; simp; omega, by have := HS2.out.hlast; omega, HS2.out.hp, HS2.out.hm, (HS2.out.mov' HM3.out).trans hM5⟩
        · have HO := Lib.hid (for_found HS2.out.tab hL)
          obtain rfl : f = x := by rw [← HF.out]; exact lf_some hL
          have hf1 : 1 ≤ f := by
            obtain ⟨q, hq, e1, e2⟩ := least_mem hL
            rw [← e1]; exact (HS2.out.tab.ok.key q hq).1
          have hf2 : decide (f > 0) = true := by simp; omega
          clear hn1 hL hf1
          go_wp2_with fail
          refine HO.out.mono ?_
          rintro e w3 ⟨rfl, hm3⟩
          have HM3 := Lib.hid hm3
          clear hm3
          have hb3 := HS2.out.blk' (HM3.out.none _)
          have c1 : w3.cell? ⟨ab, 1, none⟩ = some (.int .i64 n) := by simp [World.cell?, hb3]
          clear c0' c1' HO hb3
          go_wp2
          refine HEND.out _ _ _ _ _ _ _ _ _ _ _ _ _ _ _ _ _ _ _ _ _ _ _ _ _ _ _ _ _ _ _ _ _ _ _ _ _ _ _ _ _ _ _ _ _ _ _ _ _ _ _ _ _ _ _ _ _ _ _ _ _ _ _ _ _ _ _ _ _ _ _ _ _ _ _ _ _ _ _ _ _ _ _ _ _ _ _ _ _ _ _ _ _ _ _ _ _ _ _ _ _ _ _ _ _ _ _ _ _ _ _ _ _ _ _ _ _ _ _ _ _ _ _ _ _ _ _ _ _ _ _ _ _ _ _ _ _ _ _ _ _ _ _ _ _ _ _ _ _ _ _ _ _ _ _ _ _ _ _ _ _ _ _ _ _ _ _ _ _ _ _ _ _ _ _ _ _ _ _ _ _ _ _ _ _ _ _ _ _ _ _ _ ?_
          exact ⟨p, m, R, last, rfl, rfl, HS2.out.tab.moves HM3.out (fun h => h) (fun h => h), HS2.out.own' (HM3.out.none _), Nat.le_succ_of_le HS2.out.hR, by have := HS2.out.hlast; omega, HS2.out.hp, HS2.out.hm, HS2.out.mov' (HM3.out.none _)⟩
end Go.Proofs.Ytmennobdgfgjaaa

