/-
  DiskPlays' switch, where the act is a sync.
-/
import Derived.Test.YtbfnmgjpkieaoaaDPlayHead
namespace Go.Proofs.Ytbfnmgjpkieaoaa.Pl
open Go Go.RowKit Go.Maps Go.Sort Go.Proofs

set_option maxRecDepth 100000 in
set_option maxHeartbeats 8000000 in
theorem sw3 {code : Code} (hcode : blk 6 = code) {w0 wa : World} {base n z d mb ab k : Nat} {S : DS} {op sec num : Int} {whole : Bool} {bv : Value} {Ak : Option Addr} {ck : Nat} {keep : List Bool} {Ab : Option Addr} {cb : Nat} {bs : List Int} {Q : Exit → Act → World → Prop} {c0 c1 c2 c3 c4 c5 c6 c8 c9 c11 c12 c15 c16 c17 c18 c19 c20 c21 c22 c23 c24 c25 c26 c27 c28 c29 c30 c31 c32 c33 c34 c35 c36 c37 c38 c39 c40 c41 c42 c43 c44 c45 c46 c47 c48 c49 c50 c51 c52 c53 c54 c55 c56 c57 c58 c59 c60 c61 c62 c63 c64 c65 c66 c67 c68 c69 c70 c71 c72 c73 c74 c75 c76 c77 c78 c79 c80 c81 c82 c83 c84 c85 c86 c87 c88 c89 c90 c91 c92 c93 c94 c95 c96 c97 c98 c99 c100 c101 c102 c103 c104 c105 c106 c107 c108 c109 c110 c111 c112 c113 c114 c115 c116 c117 c118 c119 c120 c121 c122 c123 c124 c125 c126 c127 c128 c129 c130 c131 c132 c133 c134 c135 c136 c137 c138 c139 c140 c141 c142 c143 c144 c145 c146 c147 c148 c149 c150 c152 c153 c154 c155 c156 c157 c158 c159 c160 c161 c162 c163 c164 c165 c166 c167 c168 c169 c170 c171 c172 c173 c174 c175 c176 c177 c178 c179 c180 c181 c182 c183 c184 c185 c186 c187 c188 c189 c190 c191 c192 c193 c194 c195 c196 c197 c198 c199 c200 c201 c202 c203 c204 c205 c206 c207 c208 c209 c210 c211 c212 c213 c214 c215 c216 c217 c218 c219 c220 c221 c222 c223 c224 c225 c226 c227 c228 c229 c230 c231 c232 c233 c234 c235 c236 c237 c238 c239 c240 c241 c242 c243 c244 c245 c246 c247 c248 c249 c250 c251 c252 c253 c254 c255 c256 c257 c258 c259 c260 c261 c262 c263 c264 c265 c266 c267 c268 c269 c270 c271 c272 c273 c274 c275 c276 c277 c278 c279 c280 c281 c282 c283 c284 c285 c286 c287 c288 c289 c290 c291 c292 c293 c294 c295 c296 c297 c298 c299 c300 c301 c302 c303 c304 c305 c306 c307 c308 c309 c310 c311 c312 c313 c314 c315 c316 c317 c318 c319 c320 c321 c322 c323 c324 c325 c326 c327 c328 c329 c330 c331 c332 c333 c334 c335 c336 c337 c338 c339 c340 c341 c342 c343 c344 c345 c346 c347 c348 c349 c350 c351 c352 c353 c354 c355 c356 c357 c358 c359 c360 c361 : Value}
    (S' : Sw w0 wa base n z d mb ab k S op sec num whole bv Ak ck keep Ab cb bs) (ho : op = 3)
    (hEnd : ∀ (u6 u7 u16 u17 u18 u19 u20 u21 u22 u23 u24 u152 u153 u154 u155 u156 u157 u158 u159 u160 u161 u162 u163 u164 u165 u166 u167 u168 u169 u170 u171 u172 u173 u174 u175 u176 u177 u178 u179 u180 u181 u182 u183 u184 u185 u186 u187 u188 u189 u190 u191 u192 u193 u194 u195 u196 u197 u198 u199 u200 u201 u202 u203 u204 u205 u206 u207 u208 u209 u210 u211 u212 u213 u214 u215 u216 u217 u218 u219 u220 u221 u222 u223 u224 u225 u226 u227 u228 u229 u230 u231 u232 u233 u234 u235 u236 u237 u238 u239 u240 u241 u242 u243 u244 u245 u246 u247 u248 u249 u250 u251 u252 u253 u254 u255 u256 u257 u258 u259 u260 u261 u262 u263 u264 u265 u266 u267 u268 u269 u270 u271 u272 u273 u274 u275 u276 u277 u278 u279 u280 u281 u282 u283 u284 u285 u286 u287 u288 u289 u290 u291 u292 u293 u294 u295 u296 u297 u298 u299 u300 u301 : Value) (w' : World), PlayAt w0 base n z mb (k + 1) u7 w' → Q .normal ⟨List.toArray (c0 :: c1 :: c2 :: c3 :: c4 :: c5 :: u6 :: u7 :: c8 :: c9 :: .pointer (some ⟨mb, 0, none⟩) :: c11 :: c12 :: .pointer (some ⟨ab, 0, none⟩) :: .slice Ab bs.length cb :: c15 :: u16 :: u17 :: u18 :: u19 :: u20 :: u21 :: u22 :: u23 :: u24 :: c25 :: c26 :: c27 :: c28 :: c29 :: c30 :: c31 :: c32 :: c33 :: c34 :: c35 :: c36 :: c37 :: c38 :: c39 :: c40 :: c41 :: c42 :: c43 :: c44 :: c45 :: c46 :: c47 :: c48 :: c49 :: c50 :: c51 :: c52 :: c53 :: c54 :: c55 :: c56 :: c57 :: c58 :: c59 :: c60 :: c61 :: c62 :: c63 :: c64 :: c65 :: c66 :: c67 :: c68 :: c69 :: c70 :: c71 :: c72 :: c73 :: c74 :: c75 :: c76 :: c77 :: c78 :: c79 :: c80 :: c81 :: c82 :: c83 :: c84 :: c85 :: c86 :: c87 :: c88 :: c89 :: c90 :: c91 :: c92 :: c93 :: c94 :: c95 :: c96 :: c97 :: c98 :: c99 :: c100 :: c101 :: c102 :: c103 :: c104 :: c105 :: c106 :: c107 :: c108 :: c109 :: c110 :: c111 :: c112 :: c113 :: c114 :: c115 :: c116 :: c117 :: c118 :: c119 :: c120 :: c121 :: c122 :: c123 :: c124 :: c125 :: c126 :: c127 :: c128 :: c129 :: c130 :: c131 :: c132 :: c133 :: c134 :: c135 :: c136 :: c137 :: c138 :: c139 :: c140 :: c141 :: c142 :: c143 :: c144 :: c145 :: c146 :: c147 :: c148 :: c149 :: c150 :: .int .i64 op :: u152 :: u153 :: u154 :: u155 :: u156 :: u157 :: u158 :: u159 :: u160 :: u161 :: u162 :: u163 :: u164 :: u165 :: u166 :: u167 :: u168 :: u169 :: u170 :: u171 :: u172 :: u173 :: u174 :: u175 :: u176 :: u177 :: u178 :: u179 :: u180 :: u181 :: u182 :: u183 :: u184 :: u185 :: u186 :: u187 :: u188 :: u189 :: u190 :: u191 :: u192 :: u193 :: u194 :: u195 :: u196 :: u197 :: u198 :: u199 :: u200 :: u201 :: u202 :: u203 :: u204 :: u205 :: u206 :: u207 :: u208 :: u209 :: u210 :: u211 :: u212 :: u213 :: u214 :: u215 :: u216 :: u217 :: u218 :: u219 :: u220 :: u221 :: u222 :: u223 :: u224 :: u225 :: u226 :: u227 :: u228 :: u229 :: u230 :: u231 :: u232 :: u233 :: u234 :: u235 :: u236 :: u237 :: u238 :: u239 :: u240 :: u241 :: u242 :: u243 :: u244 :: u245 :: u246 :: u247 :: u248 :: u249 :: u250 :: u251 :: u252 :: u253 :: u254 :: u255 :: u256 :: u257 :: u258 :: u259 :: u260 :: u261 :: u262 :: u263 :: u264 :: u265 :: u266 :: u267 :: u268 :: u269 :: u270 :: u271 :: u272 :: u273 :: u274 :: u275 :: u276 :: u277 :: u278 :: u279 :: u280 :: u281 :: u282 :: u283 :: u284 :: u285 :: u286 :: u287 :: u288 :: u289 :: u290 :: u291 :: u292 :: u293 :: u294 :: u295 :: u296 :: u297 :: u298 :: u299 :: u300 :: u301 :: c302 :: c303 :: c304 :: c305 :: c306 :: c307 :: c308 :: c309 :: c310 :: c311 :: c312 :: c313 :: c314 :: c315 :: c316 :: c317 :: c318 :: c319 :: c320 :: c321 :: c322 :: c323 :: c324 :: c325 :: c326 :: c327 :: c328 :: c329 :: c330 :: c331 :: c332 :: c333 :: c334 :: c335 :: c336 :: c337 :: c338 :: c339 :: c340 :: c341 :: c342 :: c343 :: c344 :: c345 :: c346 :: c347 :: c348 :: c349 :: c350 :: c351 :: c352 :: c353 :: c354 :: c355 :: c356 :: c357 :: c358 :: c359 :: c360 :: c361 :: []), []⟩ w') :
    Code.wp Try.prog code Q ⟨List.toArray (c0 :: c1 :: c2 :: c3 :: c4 :: c5 :: c6 :: .pointer (some ⟨d, 0, none⟩) :: c8 :: c9 :: .pointer (some ⟨mb, 0, none⟩) :: c11 :: c12 :: .pointer (some ⟨ab, 0, none⟩) :: .slice Ab bs.length cb :: c15 :: c16 :: c17 :: c18 :: c19 :: c20 :: c21 :: c22 :: c23 :: c24 :: c25 :: c26 :: c27 :: c28 :: c29 :: c30 :: c31 :: c32 :: c33 :: c34 :: c35 :: c36 :: c37 :: c38 :: c39 :: c40 :: c41 :: c42 :: c43 :: c44 :: c45 :: c46 :: c47 :: c48 :: c49 :: c50 :: c51 :: c52 :: c53 :: c54 :: c55 :: c56 :: c57 :: c58 :: c59 :: c60 :: c61 :: c62 :: c63 :: c64 :: c65 :: c66 :: c67 :: c68 :: c69 :: c70 :: c71 :: c72 :: c73 :: c74 :: c75 :: c76 :: c77 :: c78 :: c79 :: c80 :: c81 :: c82 :: c83 :: c84 :: c85 :: c86 :: c87 :: c88 :: c89 :: c90 :: c91 :: c92 :: c93 :: c94 :: c95 :: c96 :: c97 :: c98 :: c99 :: c100 :: c101 :: c102 :: c103 :: c104 :: c105 :: c106 :: c107 :: c108 :: c109 :: c110 :: c111 :: c112 :: c113 :: c114 :: c115 :: c116 :: c117 :: c118 :: c119 :: c120 :: c121 :: c122 :: c123 :: c124 :: c125 :: c126 :: c127 :: c128 :: c129 :: c130 :: c131 :: c132 :: c133 :: c134 :: c135 :: c136 :: c137 :: c138 :: c139 :: c140 :: c141 :: c142 :: c143 :: c144 :: c145 :: c146 :: c147 :: c148 :: c149 :: c150 :: .int .i64 op :: c152 :: c153 :: c154 :: c155 :: c156 :: c157 :: c158 :: c159 :: c160 :: c161 :: c162 :: c163 :: c164 :: c165 :: c166 :: c167 :: c168 :: c169 :: c170 :: c171 :: c172 :: c173 :: c174 :: c175 :: c176 :: c177 :: c178 :: c179 :: c180 :: c181 :: c182 :: c183 :: c184 :: c185 :: c186 :: c187 :: c188 :: c189 :: c190 :: c191 :: c192 :: c193 :: c194 :: c195 :: c196 :: c197 :: c198 :: c199 :: c200 :: c201 :: c202 :: c203 :: c204 :: c205 :: c206 :: c207 :: c208 :: c209 :: c210 :: c211 :: c212 :: c213 :: c214 :: c215 :: c216 :: c217 :: c218 :: c219 :: c220 :: c221 :: c222 :: c223 :: c224 :: c225 :: c226 :: c227 :: c228 :: c229 :: c230 :: c231 :: c232 :: c233 :: c234 :: c235 :: c236 :: c237 :: c238 :: c239 :: c240 :: c241 :: c242 :: c243 :: c244 :: c245 :: c246 :: c247 :: c248 :: c249 :: c250 :: c251 :: c252 :: c253 :: c254 :: c255 :: c256 :: c257 :: c258 :: c259 :: c260 :: c261 :: c262 :: c263 :: c264 :: c265 :: c266 :: c267 :: c268 :: c269 :: c270 :: c271 :: c272 :: c273 :: c274 :: c275 :: c276 :: c277 :: c278 :: c279 :: c280 :: c281 :: c282 :: c283 :: c284 :: c285 :: c286 :: c287 :: c288 :: c289 :: c290 :: c291 :: c292 :: c293 :: c294 :: c295 :: c296 :: c297 :: c298 :: c299 :: c300 :: c301 :: c302 :: c303 :: c304 :: c305 :: c306 :: c307 :: c308 :: c309 :: c310 :: c311 :: c312 :: c313 :: c314 :: c315 :: c316 :: c317 :: c318 :: c319 :: c320 :: c321 :: c322 :: c323 :: c324 :: c325 :: c326 :: c327 :: c328 :: c329 :: c330 :: c331 :: c332 :: c333 :: c334 :: c335 :: c336 :: c337 :: c338 :: c339 :: c340 :: c341 :: c342 :: c343 :: c344 :: c345 :: c346 :: c347 :: c348 :: c349 :: c350 :: c351 :: c352 :: c353 :: c354 :: c355 :: c356 :: c357 :: c358 :: c359 :: c360 :: c361 :: []), []⟩ wa := by
  subst hcode
  conv => arg 2; whnf
  have HS := Lib.hid S'
  have HEND := Lib.hid hEnd
  clear hEnd
  obtain ⟨a0, a1, a2, a5⟩ := act_cells S'.blk
  subst ho
  cases hoff : S.off with
  | true =>
    have HSY := Lib.hid (sync_off S'.disk hoff)
    obtain ⟨kv, wv, kpv, hmo⟩ := S'.model
    obtain ⟨-, -, -, m3, -⟩ := hmo.cells
    rw [hoff] at m3
    clear hmo S' hoff
    go_wp2_with fail
    refine HSY.out.mono ?_
    rintro e w3 ⟨rfl, rfl⟩
    go_wp2_with fail
    refine HEND.out _ _ _ _ _ _ _ _ _ _ _ _ _ _ _ _ _ _ _ _ _ _ _ _ _ _ _ _ _ _ _ _ _ _ _ _ _ _ _ _ _ _ _ _ _ _ _ _ _ _ _ _ _ _ _ _ _ _ _ _ _ _ _ _ _ _ _ _ _ _ _ _ _ _ _ _ _ _ _ _ _ _ _ _ _ _ _ _ _ _ _ _ _ _ _ _ _ _ _ _ _ _ _ _ _ _ _ _ _ _ _ _ _ _ _ _ _ _ _ _ _ _ _ _ _ _ _ _ _ _ _ _ _ _ _ _ _ _ _ _ _ _ _ _ _ _ _ _ _ _ _ _ _ _ _ _ _ _ _ _ _ _ ?_
    exact ⟨d, S, rfl, HS.out.disk, HS.out.model, HS.out.mov, HS.out.fit.next⟩
  | false =>
    have HSY := Lib.hid (sync_on S'.disk hoff)
    have HOFF := Lib.hid hoff
    clear S' hoff
    go_wp2_with fail
    refine HSY.out.mono ?_
    rintro e w3 ⟨rfl, hd3, hm3⟩
    have hm3' : Moves (POwn wa d mb) wa w3 := hm3.mono (fun j e => .inl e)
    obtain ⟨kv, wv, kpv, hmo⟩ := HS.out.modelD hm3
    obtain ⟨-, -, m2, m3, -⟩ := hmo.cells
    rw [HOFF.out] at m3
    obtain ⟨Aw, cw, rfl, -⟩ := own_form hmo.wait
    have hf := hmo.few.1
    have H3 := Lib.hid (And.intro hmo (And.intro hd3 hm3'))
    have hmbl := (Array.getElem?_eq_some_iff.1 hmo.blk).1
    obtain ⟨i5, hi5, hp0, hp1, hp2⟩ := info_parts infoT
    have hmk := fun W => run_make_row (P := Try.prog) 32 4 i5 _ Try.underlying32 hi5 hp0 hp1 rfl .i64 .i64 S.secs.length (by rw [hp2]; omega) (by omega) W
    have hown0 := sync_made w3 S.secs.length (by omega)
    have HO0 := Lib.hid (And.intro hown0 ((Moves.refl (fun _ => False) w3).alloc (.cells (madeCells #[.bool false] S.secs.length) 4)))
    clear hmo hd3 hm3 hm3' HSY hown0
    generalize hnn : S.secs.length = nn at m2 hf hmk HO0
    have HNN := Lib.hid hnn
    clear hnn
    go_wp2_with fail
    generalize w3.alloc (.cells (madeCells #[.bool false] nn) 4) = wl at HO0 ⊢
    generalize hgb : w3.heap.size = gb at HO0 ⊢
    have HGB := Lib.hid hgb
    clear hgb hmbl m2 m3 hmk a0 a1 a2 a5
    go_loopg [22] nn (fun gg s22 wq => ∃ i : Nat, i ≤ nn ∧ gg = nn - i ∧ s22 = .int .i64 i ∧ Hid (wq.ownsRow gb 4 1 (.slice (some ⟨gb, 0, none⟩) nn nn) nn (flags nn i) ∧ Moves (fun _ => False) w3 wq))
    case atStart => exact ⟨0, Nat.zero_le _, rfl, rfl, HO0⟩
    case round =>
      obtain ⟨i, hi, rfl, rfl, HI⟩ := hrel
      by_cases hlt : i < nn
      · have hiz : (i : Int) < (nn : Int) := by omega
        have hi0 : (0 : Int) ≤ (i : Int) := by omega
        obtain ⟨old, q4, f4⟩ : ∃ old, wr.cell? ⟨gb, i, none⟩ = some old ∧ wr.frozen? ⟨gb, i, none⟩ = false := by
          obtain ⟨A4', c4', e4, -, -, -, -, hx4⟩ := own_form HI.out.1
          cases e4
          obtain ⟨g4', e, -, -, hc4⟩ := hx4 (by omega)
          cases e
          obtain ⟨cur, hcur⟩ := own_block HI.out.1 rfl
          exact ⟨_, hc4 i _ (List.getElem?_eq_getElem (by simp [flags]; omega)), by simp [World.frozen?, hcur]⟩
        have hset := own_set HI.out.1 (i := i) (.bool true)
        rw [flags_step hlt] at hset
        have HN : Hid ((wr.setCell ⟨gb, i, none⟩ (.bool true)).ownsRow gb 4 1 (.slice (some ⟨gb, 0, none⟩) nn nn) nn (flags nn (i + 1)) ∧ Moves (fun _ => False) w3 (wr.setCell ⟨gb, i, none⟩ (.bool true))) := Lib.hid ⟨hset, HI.out.2.setCell (p := ⟨gb, i, none⟩) (fun (e : gb < w3.heap.size) => by have := HGB.out; omega) _⟩
        clear hset
        go_wp2_with fail
        go_roundg (nn - (i + 1))
        case measure => omega
        case rel => exact ⟨i + 1, by omega, rfl, by go_num, HN⟩
      · obtain rfl : i = nn := by omega
        have hiz : ¬ (i : Int) < (i : Int) := by omega
        have hmo := H3.out.1.moves0 HI.out.2
        obtain ⟨-, -, -, -, m4, -⟩ := hmo.cells
        have hrow := Row.of_owns HI.out.1
        rw [flags_end] at hrow
        have HCU := Lib.hid (m_cutK (L := fun j => j < w0.heap.size) hmo hrow (fun j hj _ e => by
          have h1 := HGB.out
          have h2 := (Array.getElem?_eq_some_iff.1 H3.out.1.blk).1
          omega) (fun j hj => by have := HS.out.hb; omega) (by simp; exact hf))
        have HMO := Lib.hid hmo
        clear hmo hrow hlt hi
        go_wp2_with fail
        refine HCU.out.mono ?_
        rintro e w5 ⟨rfl, ⟨kv5, wv5, h5⟩, hm5⟩
        obtain ⟨-, -, -, m3, m4', -⟩ := h5.cells
        have f3 := h5.fr 3
        have f4 := h5.fr 4
        have H5 := Lib.hid (And.intro h5 hm5)
        clear h5 hm5 HCU m4
        go_wp2_with fail
        have hmS : Moves (fun j => j = mb) w5 ((w5.setCell ⟨mb, 3, none⟩ (.bool false)).setCell ⟨mb, 4, none⟩ (.bool S.armed)) := Moves.setCell (p := ⟨mb, 4, none⟩) (Moves.setCell (p := ⟨mb, 3, none⟩) (Moves.refl (fun j => j = mb) w5) (fun _ => rfl) _) (fun _ => rfl) _
        have h := H5.out.1
        have hck := cut_all S
        rw [HNN.out] at hck
        have hkt : w5.ownsRow base 9 1 kv5 (settleS S (fun _ => true)).kept.length ((settleS S (fun _ => true)).kept.map str) := by rw [← hck]; exact h.kept
        have hsd : (settleS S (fun _ => true)).off = false := HOFF.out
        have hM := h.put (S' := settleS S (fun _ => true)) (kv' := kv5) (wv' := wv5) (kpv' := kpv) hmS (fun j hj _ e => by have := HS.out.hb; have := h.hb; omega) (by rw [hsd]; simp [World.setCell, Array.getElem?_modify, h.blk, settleS, cutS]) hkt h.wait h.form (fun ha => (HMO.out.keep ha).moves H5.out.2 (fun j hj _ e => by have := HS.out.hb; have := h.hb; omega)) rfl (by simp [settleS]) ⟨by simp [settleS], by rw [← hck]; exact h.few.2⟩
        refine HEND.out _ _ _ _ _ _ _ _ _ _ _ _ _ _ _ _ _ _ _ _ _ _ _ _ _ _ _ _ _ _ _ _ _ _ _ _ _ _ _ _ _ _ _ _ _ _ _ _ _ _ _ _ _ _ _ _ _ _ _ _ _ _ _ _ _ _ _ _ _ _ _ _ _ _ _ _ _ _ _ _ _ _ _ _ _ _ _ _ _ _ _ _ _ _ _ _ _ _ _ _ _ _ _ _ _ _ _ _ _ _ _ _ _ _ _ _ _ _ _ _ _ _ _ _ _ _ _ _ _ _ _ _ _ _ _ _ _ _ _ _ _ _ _ _ _ _ _ _ _ _ _ _ _ _ _ _ _ _ _ _ _ _ ?_
        exact ⟨d, settleS S (fun _ => true), rfl, ((H3.out.2.1.moves0 HI.out.2).beside HMO.out.blk (by decide) (by decide) (by decide) (by decide) H5.out.2).beside h.blk (by decide) (by decide) (by decide) (by decide) hmS, ⟨_, _, _, hM⟩, HS.out.under (((H3.out.2.2.trans (HI.out.2.none _)).trans (H5.out.2.mono (fun j e => .inr e))).trans (hmS.mono (fun j e => .inr e))), HS.out.fit.settle⟩
end Go.Proofs.Ytbfnmgjpkieaoaa.Pl
