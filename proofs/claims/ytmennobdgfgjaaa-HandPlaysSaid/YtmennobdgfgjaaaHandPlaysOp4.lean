/-
  HandPlays' switch, where the act is a Renumber.
-/
import Derived.Test.YtmennobdgfgjaaaHandPlaysHead
import Derived.Deep.LoopGhost
namespace Go.Proofs.Ytmennobdgfgjaaa
open Go Go.RowKit Go.Maps Go.Sort Go.Shelf Go.Proofs

theorem own_base {w : World} {base base' : Nat} {e : TypeId} {size n : Nat} {v : Value} {xs : List Value} (h : w.ownsRow base e size v n xs) (hb : base' ≤ base) : w.ownsRow base' e size v n xs := by
  refine ⟨h.1, ?_⟩
  rcases h.2 with h1 | ⟨g, cap, cur, h1, h2, h3⟩
  · exact .inl h1
  · exact .inr ⟨g, cap, cur, h1, Nat.le_trans hb h2, h3⟩
theorem ren_len (tz : List Int) (R : List Pr) (j : Nat) (h : j ≤ R.length) : ((R.take j).filterMap (ren tz)).length ≤ j := by
  have := List.length_filterMap_le (ren tz) (R.take j)
  rw [List.length_take] at this
  omega
theorem ren_step (tz : List Int) {R : List Pr} {j : Nat} (h : j < R.length) : (R.take (j + 1)).filterMap (ren tz) = (R.take j).filterMap (ren tz) ++ (match ren tz R[j] with | some q => [q] | none => []) := by
  rw [List.take_succ_eq_append_getElem h, List.filterMap_append]
  congr 1
  rw [List.filterMap_cons, List.filterMap_nil]
  cases ren tz R[j] <;> rfl

set_option maxRecDepth 100000 in
set_option maxHeartbeats 8000000 in
theorem sw4 {code : Code} (hcode : blk 2 = code) {w wa : World} {p m ab k : Nat} {R : List Pr} {last op n : Int} {AT A6 : Option Addr} {cT c6 : Nat} {tz : List Int} {Q : Exit → Act → World → Prop} {c0 c1 c2 c3 c4 c8 c10 c11 c12 c13 c14 c15 c16 c17 c18 c19 c20 c21 c22 c23 c24 c25 c26 c27 c28 c29 c30 c31 c32 c33 c34 c35 c36 c37 c38 c39 c40 c41 c42 c43 c44 c45 c46 c47 c48 c49 c51 c52 c53 c54 c55 c56 c57 c58 c59 c60 c61 c62 c63 c64 c65 c66 c67 c68 c69 c70 c71 c72 c73 c74 c75 c76 c77 c78 c79 c80 c81 c82 c83 c84 c85 c86 c87 c88 c89 c90 c91 c92 c93 c94 c95 c96 c97 c98 c99 c100 c101 c102 c103 c104 c105 c106 c107 c108 c109 c110 c111 c112 c113 c114 c115 c116 c117 c118 c119 c120 c121 c122 c123 c124 c125 c126 c127 c128 c129 c130 c131 c132 c133 c134 c135 c136 c137 c138 c139 c140 c141 c142 c143 c144 c145 c146 c147 c148 c149 c150 c151 c152 c153 c154 c155 c156 c157 c158 c159 c160 c161 c162 c163 c164 c165 c166 c167 c168 c169 c170 c171 c172 c173 c174 c175 c176 c177 c178 c179 c180 c181 c182 c183 c184 c185 c186 c187 c188 c189 c190 c191 c192 c193 c194 c195 c196 c197 c198 c199 c200 c201 c202 c203 c204 c205 c206 c207 c208 c209 c210 c211 c212 c213 c214 c215 c216 c217 c218 c219 c220 c221 c222 c223 c224 c225 c226 c227 c228 c229 c230 c231 c232 c233 c234 c235 c236 c237 c238 c239 c240 c241 c242 c243 c244 c245 c246 c247 c248 c249 c250 c251 c252 c253 c254 c255 c256 c257 c258 c259 c260 c261 c262 c263 c264 c265 c266 c267 c268 c269 c270 c271 c272 c273 c274 c275 c276 c277 c278 c279 c280 c281 c282 c283 c284 c285 c286 c287 c288 c289 c290 c291 c292 : Value}
    (S : Sw w wa p m ab R last op n AT cT tz A6 c6 k) (ho : op = 4)
    (hEnd : ∀ (u4 u5 u6 u7 u10 u11 u12 u13 u14 u15 u16 u17 u18 u19 u20 u21 u22 u51 u52 u53 u54 u55 u56 u57 u58 u59 u60 u61 u62 u63 u64 u65 u66 u67 u68 u69 u70 u71 u72 u73 u74 u75 u76 u77 u78 u79 u80 u81 u82 u83 u84 u85 u86 u87 u88 u89 u90 u91 u92 u93 u94 u95 u96 u97 u98 u99 u100 u101 u102 u103 u104 u105 u106 u107 u108 u109 u110 u111 u112 u113 u114 u115 u116 u117 u118 u119 u120 u121 u122 u123 u124 u125 u126 u127 u128 u129 u130 u131 u132 u133 u134 u135 u136 u137 u138 u139 u140 u141 u142 u143 u144 u145 u146 u147 u148 u149 u150 u151 u152 u153 u154 u155 u156 u157 u158 u159 u160 u161 u162 u163 u164 u165 u166 u167 u168 u169 u170 u171 u172 u173 u174 u175 u176 u177 u178 u179 u180 u181 u182 u183 u184 u185 u186 u187 u188 u189 u190 u191 u192 u193 u194 u195 u196 u197 u198 u199 u200 u201 u202 u203 u204 u205 u206 u207 u208 u209 u210 u211 u212 u213 u214 u215 u216 u217 u218 u219 u220 u221 u222 u223 u224 : Value) (w' : World), PlayAt w (k + 1) u5 u6 u7 w' → Q .normal ⟨List.toArray (c0 :: c1 :: c2 :: c3 :: u4 :: u5 :: u6 :: u7 :: c8 :: .pointer (some ⟨ab, 0, none⟩) :: u10 :: u11 :: u12 :: u13 :: u14 :: u15 :: u16 :: u17 :: u18 :: u19 :: u20 :: u21 :: u22 :: c23 :: c24 :: c25 :: c26 :: c27 :: c28 :: c29 :: c30 :: c31 :: c32 :: c33 :: c34 :: c35 :: c36 :: c37 :: c38 :: c39 :: c40 :: c41 :: c42 :: c43 :: c44 :: c45 :: c46 :: c47 :: c48 :: c49 :: .int .i64 op :: u51 :: u52 :: u53 :: u54 :: u55 :: u56 :: u57 :: u58 :: u59 :: u60 :: u61 :: u62 :: u63 :: u64 :: u65 :: u66 :: u67 :: u68 :: u69 :: u70 :: u71 :: u72 :: u73 :: u74 :: u75 :: u76 :: u77 :: u78 :: u79 :: u80 :: u81 :: u82 :: u83 :: u84 :: u85 :: u86 :: u87 :: u88 :: u89 :: u90 :: u91 :: u92 :: u93 :: u94 :: u95 :: u96 :: u97 :: u98 :: u99 :: u100 :: u101 :: u102 :: u103 :: u104 :: u105 :: u106 :: u107 :: u108 :: u109 :: u110 :: u111 :: u112 :: u113 :: u114 :: u115 :: u116 :: u117 :: u118 :: u119 :: u120 :: u121 :: u122 :: u123 :: u124 :: u125 :: u126 :: u127 :: u128 :: u129 :: u130 :: u131 :: u132 :: u133 :: u134 :: u135 :: u136 :: u137 :: u138 :: u139 :: u140 :: u141 :: u142 :: u143 :: u144 :: u145 :: u146 :: u147 :: u148 :: u149 :: u150 :: u151 :: u152 :: u153 :: u154 :: u155 :: u156 :: u157 :: u158 :: u159 :: u160 :: u161 :: u162 :: u163 :: u164 :: u165 :: u166 :: u167 :: u168 :: u169 :: u170 :: u171 :: u172 :: u173 :: u174 :: u175 :: u176 :: u177 :: u178 :: u179 :: u180 :: u181 :: u182 :: u183 :: u184 :: u185 :: u186 :: u187 :: u188 :: u189 :: u190 :: u191 :: u192 :: u193 :: u194 :: u195 :: u196 :: u197 :: u198 :: u199 :: u200 :: u201 :: u202 :: u203 :: u204 :: u205 :: u206 :: u207 :: u208 :: u209 :: u210 :: u211 :: u212 :: u213 :: u214 :: u215 :: u216 :: u217 :: u218 :: u219 :: u220 :: u221 :: u222 :: u223 :: u224 :: c225 :: c226 :: c227 :: c228 :: c229 :: c230 :: c231 :: c232 :: c233 :: c234 :: c235 :: c236 :: c237 :: c238 :: c239 :: c240 :: c241 :: c242 :: c243 :: c244 :: c245 :: c246 :: c247 :: c248 :: c249 :: c250 :: c251 :: c252 :: c253 :: c254 :: c255 :: c256 :: c257 :: c258 :: c259 :: c260 :: c261 :: c262 :: c263 :: c264 :: c265 :: c266 :: c267 :: c268 :: c269 :: c270 :: c271 :: c272 :: c273 :: c274 :: c275 :: c276 :: c277 :: c278 :: c279 :: c280 :: c281 :: c282 :: c283 :: c284 :: c285 :: c286 :: c287 :: c288 :: c289 :: c290 :: c291 :: c292 :: []), []⟩ w') :
    Code.wp Try.prog code Q ⟨List.toArray (c0 :: c1 :: c2 :: c3 :: c4 :: .pointer (some ⟨p, 0, none⟩) :: .slice A6 R.length c6 :: .int .i64 last :: c8 :: .pointer (some ⟨ab, 0, none⟩) :: c10 :: c11 :: c12 :: c13 :: c14 :: c15 :: c16 :: c17 :: c18 :: c19 :: c20 :: c21 :: c22 :: c23 :: c24 :: c25 :: c26 :: c27 :: c28 :: c29 :: c30 :: c31 :: c32 :: c33 :: c34 :: c35 :: c36 :: c37 :: c38 :: c39 :: c40 :: c41 :: c42 :: c43 :: c44 :: c45 :: c46 :: c47 :: c48 :: c49 :: .int .i64 op :: c51 :: c52 :: c53 :: c54 :: c55 :: c56 :: c57 :: c58 :: c59 :: c60 :: c61 :: c62 :: c63 :: c64 :: c65 :: c66 :: c67 :: c68 :: c69 :: c70 :: c71 :: c72 :: c73 :: c74 :: c75 :: c76 :: c77 :: c78 :: c79 :: c80 :: c81 :: c82 :: c83 :: c84 :: c85 :: c86 :: c87 :: c88 :: c89 :: c90 :: c91 :: c92 :: c93 :: c94 :: c95 :: c96 :: c97 :: c98 :: c99 :: c100 :: c101 :: c102 :: c103 :: c104 :: c105 :: c106 :: c107 :: c108 :: c109 :: c110 :: c111 :: c112 :: c113 :: c114 :: c115 :: c116 :: c117 :: c118 :: c119 :: c120 :: c121 :: c122 :: c123 :: c124 :: c125 :: c126 :: c127 :: c128 :: c129 :: c130 :: c131 :: c132 :: c133 :: c134 :: c135 :: c136 :: c137 :: c138 :: c139 :: c140 :: c141 :: c142 :: c143 :: c144 :: c145 :: c146 :: c147 :: c148 :: c149 :: c150 :: c151 :: c152 :: c153 :: c154 :: c155 :: c156 :: c157 :: c158 :: c159 :: c160 :: c161 :: c162 :: c163 :: c164 :: c165 :: c166 :: c167 :: c168 :: c169 :: c170 :: c171 :: c172 :: c173 :: c174 :: c175 :: c176 :: c177 :: c178 :: c179 :: c180 :: c181 :: c182 :: c183 :: c184 :: c185 :: c186 :: c187 :: c188 :: c189 :: c190 :: c191 :: c192 :: c193 :: c194 :: c195 :: c196 :: c197 :: c198 :: c199 :: c200 :: c201 :: c202 :: c203 :: c204 :: c205 :: c206 :: c207 :: c208 :: c209 :: c210 :: c211 :: c212 :: c213 :: c214 :: c215 :: c216 :: c217 :: c218 :: c219 :: c220 :: c221 :: c222 :: c223 :: c224 :: c225 :: c226 :: c227 :: c228 :: c229 :: c230 :: c231 :: c232 :: c233 :: c234 :: c235 :: c236 :: c237 :: c238 :: c239 :: c240 :: c241 :: c242 :: c243 :: c244 :: c245 :: c246 :: c247 :: c248 :: c249 :: c250 :: c251 :: c252 :: c253 :: c254 :: c255 :: c256 :: c257 :: c258 :: c259 :: c260 :: c261 :: c262 :: c263 :: c264 :: c265 :: c266 :: c267 :: c268 :: c269 :: c270 :: c271 :: c272 :: c273 :: c274 :: c275 :: c276 :: c277 :: c278 :: c279 :: c280 :: c281 :: c282 :: c283 :: c284 :: c285 :: c286 :: c287 :: c288 :: c289 :: c290 :: c291 :: c292 :: []), []⟩ wa := by
  subst hcode
  conv => arg 2; whnf
  have HS := Lib.hid S
  have HEND := Lib.hid hEnd
  clear hEnd
  have hRk : R.length < 1000 := by have := S.hR; have := S.hk; omega
  have ht60 := S.ht
  have c2 := S.c2
  subst ho
  obtain ⟨i4, hi4, hq0, hq1, hq2⟩ := info_parts infoP
  have hq3 : (Value.agg #[.int .i64 0, .int .i64 0]).cells.size = 2 := rfl
  have hq4 : (0 : Nat) < 2 := by decide
  clear S
  go_wp2_with fail
  go_loopg [19, 20] R.length (fun g s19 s20 wr => ∃ (j : Nat) (L : List Pr), j ≤ R.length ∧ g = R.length - j ∧ (R.take j).filterMap (ren tz) = L ∧ s20 = .int .i64 j ∧ wr.ownsRow wa.heap.size 44 2 s19 L.length (cellsP L) ∧ Below wa.heap.size wa wr)
  case atStart => exact ⟨0, [], Nat.zero_le _, rfl, rfl, rfl, World.ownsRow_nil _ _ _ _, Below.refl _ _⟩
  case round =>
    obtain ⟨j, L, hj, hgj, hL, rfl, hr, hbw⟩ := hrel
    have HL := Lib.hid hL
    have hll : L.length ≤ j := by rw [← hL]; exact ren_len _ _ _ hj
    clear hL
    have hM : Moves (fun _ => False) wa wr := Moves.of_below hbw
    obtain ⟨A', c', hv6, -, -, -, -, hcell6⟩ := own_form HS.out.own
    cases hv6
    have c2' : wr.cell? ⟨ab, 2, none⟩ = some (.slice AT tz.length cT) := (hM.cell (p := ⟨ab, 2, none⟩) HS.out.lt (fun h => h)).trans c2
    clear c2
    by_cases hjl : j < R.length
    · obtain ⟨g6, rfl, hg6, hgl6, hx6⟩ := hcell6 (by omega)
      have hv0 : wr.cell? ⟨g6, j * 2, none⟩ = some (.int .i64 R[j].1) := (hM.cell (p := ⟨g6, j * 2, none⟩) hgl6 (fun h => h)).trans (hx6 _ _ (cellsP_get hjl).1)
      have hv1 : wr.cell? ⟨g6, j * 2 + 1, none⟩ = some (.int .i64 R[j].2) := (hM.cell (p := ⟨g6, j * 2 + 1, none⟩) hgl6 (fun h => h)).trans (hx6 _ _ (cellsP_get hjl).2)
      have hn1 := HS.out.tab.ok.node _ (List.getElem_mem hjl)
      have Hstep := Lib.hid (ren_step tz hjl)
      clear hx6 hcell6
      generalize R[j] = y at hv0 hv1 hn1 Hstep
      obtain ⟨y1, y2⟩ := y
      simp only at hv0 hv1 hn1
      obtain ⟨q, hq⟩ : ∃ q : Nat, y2 = (q : Int) + 1 := ⟨(y2 - 1).toNat, by omega⟩
      subst hq
      have hj1 : (j : Int) < (R.length : Int) := by omega
      by_cases hql : q < tz.length
      · obtain ⟨rA, rc, hrv, hrc, hrcell⟩ := HS.out.row
        injection hrv with e1 e2 e3
        subst e1 e3
        clear e2
        simp only [List.length_map] at hrc hrcell
        obtain ⟨gT, oT, rfl, _, hglT, hcT⟩ := hrcell (by omega)
        have hvz : wr.cell? ⟨gT, oT + q, none⟩ = some (.int .i64 tz[q]) := ((HS.out.mov.trans hM).cell (p := ⟨gT, oT + q, none⟩) hglT (fun h => h)).trans (hcT _ _ (by simp [hql]))
        clear hrcell hcT
        have hren : 0 < tz[q] → ren tz (y1, (q : Int) + 1) = some (y1, tz[q]) := fun hz => by
          have hd : tz.getD q 0 = tz[q] := by rw [List.getD_eq_getElem?_getD, List.getElem?_eq_getElem hql]; rfl
          rw [← hd]; exact ren_some hql (by rw [hd]; omega)
        have hren' : tz[q] < 1 → ren tz (y1, (q : Int) + 1) = none := fun hz => by
          have hd : tz.getD q 0 = tz[q] := by rw [List.getD_eq_getElem?_getD, List.getElem?_eq_getElem hql]; rfl
          exact ren_none_val (by rw [hd]; exact hz)
        have Hr := Lib.hid hren
        have Hr' := Lib.hid hren'
        clear hren hren'
        generalize tz[q] = z at hvz Hr Hr'
        have hq1' : (q : Int) + 1 ≤ (tz.length : Int) := by omega
        by_cases hz : z > 0
        · have hz2 : decide (z > 0) = true := by simpa using hz
          have Hz := Lib.hid hz
          clear hz
          have hj32 : L.length + 1 ≤ maxLen := by unfold maxLen; omega
          have hj40 : (L.length + 1) * 16 ≤ 140737488355328 := by omega
          have HJ := Lib.hid (And.intro hj32 hj40)
          clear hj32 hj40
          have b0 : (0 : Int) ≤ (q : Int) := by omega
          have b1 : (q : Int) < (tz.length : Int) := by omega
          have b2 : IntKind.i64.wrap (q : Int) = q := IntWalk.i64_in _ (by omega)
          have b3 : IntKind.i64.wrap ((q : Int) + 1 - 1) = q := by rw [show (q : Int) + 1 - 1 = q by omega]; exact b2
          have b4 : (0 : Int) ≤ (j : Int) := by omega
          have hbase : wa.heap.size ≤ wr.heap.size := hbw.size
          have hone : ∀ u ∈ [Value.int .i64 y1, Value.int .i64 z], u.oneCell' = true := by simp [Value.oneCell']
          have Hone := Lib.hid hone
          clear hone
          go_wp2_with fail
          go_region_held3 (fun w' => w'.cell? ⟨g6, j * 2, none⟩ = some (.int .i64 y1) ∧ w'.cell? ⟨ab, 2, none⟩ = some (.slice (some ⟨gT, oT, none⟩) tz.length cT) ∧ w'.cell? ⟨gT, oT + q, none⟩ = some (.int .i64 z)) (first | go_keep | exact hS5)
            (first
              | (go_must (
                 refine step_append_src _ rfl (.tmp 190) (.tmp 203) 40 rfl wa.heap.size 44 i4 _ 2 16 Try.underlying40 hi4 hq0 hq1 hq2 hq3 hq4 u19 L.length (cellsP L) rfl (hr.alloc _) (some ⟨wr.heap.size, 0, none⟩) 1 1 [.int .i64 y1, .int .i64 z] rfl (by rfl) (fun _ => ⟨_, rfl, World.news_of_block (cs := #[.int .i64 y1, .int .i64 z]) (t := 44) (fr := (0, 0)) (heap_alloc_new wr _)⟩) Hone.out HJ.out.1 HJ.out.2 (le_alloc _ _ hbase) ?_
                 intro v2 w5 hn2 hg2 hl2
                 have hb5 : Below wa.heap.size wa w5 := (((hbw.alloc hbase _).drew)).grown hg2 (le_alloc _ _ hbase) (fun i hi => (hr.lt i hi).1)
                 have hS5 : w5.cell? ⟨g6, j * 2, none⟩ = some (.int .i64 y1) ∧ w5.cell? ⟨ab, 2, none⟩ = some (.slice (some ⟨gT, oT, none⟩) tz.length cT) ∧ w5.cell? ⟨gT, oT + q, none⟩ = some (.int .i64 z) := by
                   have hne : ∀ b, b < wa.heap.size → u19.ownBlock ≠ some b := fun b hb e => by have := (hr.lt _ e).1; omega
                   have hT1 : gT < wa.heap.size := Nat.lt_of_lt_of_le hglT HS.out.mov.size
                   exact ⟨keep1 hg2 (lt_alloc wr _ (Nat.lt_of_lt_of_le hgl6 hbase)) ((World.cell?_alloc_lt wr _ ⟨g6, j * 2, none⟩ (Nat.lt_of_lt_of_le hgl6 hbase)).trans hv0) (hne _ hgl6), keep1 hg2 (lt_alloc wr _ (Nat.lt_of_lt_of_le HS.out.lt hbase)) ((World.cell?_alloc_lt wr _ ⟨ab, 2, none⟩ (Nat.lt_of_lt_of_le HS.out.lt hbase)).trans c2') (hne _ HS.out.lt), keep1 hg2 (lt_alloc wr _ (Nat.lt_of_lt_of_le hT1 hbase)) ((World.cell?_alloc_lt wr _ ⟨gT, oT + q, none⟩ (Nat.lt_of_lt_of_le hT1 hbase)).trans hvz) (hne _ hT1)⟩
                 clear hg2 hl2))
              | fail)
          all_goals
            go_wp2
          all_goals
            go_roundg (R.length - (j + 1))
            case measure => omega
            case rel => exact ⟨j + 1, L ++ [(y1, z)], by omega, rfl, by rw [Hstep.out, HL.out, Hr.out Hz.out], by go_num, by rw [List.length_append, cellsP_append]; exact hn2, hb5⟩
        · have hz2 : decide (z > 0) = false := by simpa using hz
          have Hz := Lib.hid hz
          clear hz
          go_wp2
          go_roundg (R.length - (j + 1))
          case measure => omega
          case rel => exact ⟨j + 1, L, by omega, rfl, by rw [Hstep.out, HL.out, Hr'.out (by have := Hz.out; omega), List.append_nil], by go_num, hr, hbw⟩
      · have hq1' : ¬ (q : Int) + 1 ≤ (tz.length : Int) := by omega
        have hren : ren tz (y1, (q : Int) + 1) = none := by unfold ren; rw [if_neg]; intro h; simp at h; omega
        have Hr := Lib.hid hren
        clear hren
        go_wp2
        go_roundg (R.length - (j + 1))
        case measure => omega
        case rel => exact ⟨j + 1, L, by omega, rfl, by rw [Hstep.out, HL.out, Hr.out, List.append_nil], by go_num, hr, hbw⟩
    · obtain rfl : j = R.length := by omega
      have hLR : R.filterMap (ren tz) = L := by have := HL.out; rwa [List.take_length] at this
      obtain ⟨A9, c9, rfl, hc9, hm9, -, -, -⟩ := own_form hr
      have hTw := HS.out.tab.moves hM (fun h => h) (fun h => h)
      have RN := Lib.hid (ren_eq (n := (R.length : Int) - L.length) hTw (HS.out.row.moves (HS.out.mov.trans hM) (fun _ h _ h' => h')) (fun i hi e => by have := HS.out.hm; omega) HS.out.wto (by omega) hLR rfl)
      have hno : ∀ g, (Value.slice A9 L.length c9).ownBlock = some g → ¬ g = m := fun g hg e => by
        subst e
        obtain ⟨cur, hcur⟩ := own_block hr hg
        obtain ⟨es, ck, hbm, _⟩ := hTw.map
        rw [hbm] at hcur; cases hcur
      have HR := Lib.hid hr
      have HM := Lib.hid hM
      clear hr hM hcell6 HL hTw hbw hLR
      have HNO := Lib.hid hno
      clear hno
      go_wp2_with fail
      refine RN.out.mono ?_
      rintro e w3 ⟨rfl, hT3, hm3⟩
      have HT3 := Lib.hid hT3
      have HM3 := Lib.hid hm3
      clear RN hT3 hm3 c2'
      go_wp2
      refine HEND.out _ _ _ _ _ _ _ _ _ _ _ _ _ _ _ _ _ _ _ _ _ _ _ _ _ _ _ _ _ _ _ _ _ _ _ _ _ _ _ _ _ _ _ _ _ _ _ _ _ _ _ _ _ _ _ _ _ _ _ _ _ _ _ _ _ _ _ _ _ _ _ _ _ _ _ _ _ _ _ _ _ _ _ _ _ _ _ _ _ _ _ _ _ _ _ _ _ _ _ _ _ _ _ _ _ _ _ _ _ _ _ _ _ _ _ _ _ _ _ _ _ _ _ _ _ _ _ _ _ _ _ _ _ _ _ _ _ _ _ _ _ _ _ _ _ _ _ _ _ _ _ _ _ _ _ _ _ _ _ _ _ _ _ _ _ _ _ _ _ _ _ _ _ _ _ _ _ _ _ _ _ _ _ _ _ _ _ _ _ _ _ _ ?_
      have ho3 := own_moves HR.out HM3.out HNO.out
      exact ⟨p, m, L, last, rfl, rfl, HT3.out, own_base ho3 HS.out.mov.size, by have := HS.out.hR; omega, by have := HS.out.hlast; omega, HS.out.hp, HS.out.hm, (HS.out.mov.trans HM.out).own (HM3.out.mono (fun k e => .inr e)) HS.out.hp HS.out.hm⟩
end Go.Proofs.Ytmennobdgfgjaaa

