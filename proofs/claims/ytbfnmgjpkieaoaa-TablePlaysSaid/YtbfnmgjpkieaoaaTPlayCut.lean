/-
  TablePlays: the regions that lay the row without one of its places.
-/
import Derived.Test.YtbfnmgjpkieaoaaTPlayWords
namespace Go.Proofs.Ytbfnmgjpkieaoaa.Tb
open Go Go.RowKit Go.Maps Go.Sort Go.Proofs Go.Shelf

noncomputable def cut32C (n : Nat) : Code := (Try.f13.body.bind (findReg n)).getD .skip
set_option maxRecDepth 100000 in
set_option maxHeartbeats 4000000 in
/-- The region that lays a row without one of its places. -/
theorem cut32 {code : Code} (hcode : cut32C 32 = code) {w3 : World} {base : Nat} {M : List (ByteArray × Int)} {q3 h g3 : Nat} {Q : Exit → Act → World → Prop} {c0 c1 c2 c3 c5 c6 c7 c8 c10 c11 c12 c13 c14 c15 c16 c17 c18 c19 c20 c21 c22 c23 c24 c25 c26 c27 c28 c29 c30 c31 c32 c33 c34 c35 c36 c37 c38 c39 c40 c41 c42 c43 c44 c45 c46 c47 c48 c49 c50 c51 c52 c53 c54 c55 c56 c57 c58 c59 c60 c61 c62 c63 c64 c65 c66 c67 c68 c69 c70 c71 c72 c73 c74 c75 c76 c77 c78 c79 c80 c81 c82 c83 c84 c85 c86 c87 c88 c89 c90 c91 c92 c93 c94 c95 c96 c97 c98 c99 c100 c101 c102 c103 c104 c105 c106 c107 c108 c109 c110 c111 c112 c113 c114 c115 c116 c117 c118 c119 c120 c121 c122 c123 c124 c125 c126 c127 c128 c129 c130 c131 c132 c133 c134 c135 c136 c137 c138 c139 c140 c141 c142 c143 c144 c145 c146 c147 c148 c149 c150 c151 c152 c153 c154 c155 c156 c157 c158 c159 c160 c161 c162 c163 c164 c165 c166 c167 c168 c169 c170 c171 c172 c173 c174 c175 c176 c177 c178 c179 c180 c181 c182 c183 c184 c185 c186 c187 c188 c189 c190 c191 c192 c193 c194 c195 c196 c197 c198 c199 c200 c201 c202 c203 c204 c205 c206 c207 c208 c209 c210 c211 c212 c213 c214 c215 c216 c217 c218 c219 c220 c221 c222 c223 c224 c225 c226 c227 c228 c229 c230 c231 : Value}
    (hown : w3.ownsRow base 100 2 (.slice (some ⟨g3, 0, none⟩) M.length q3) M.length (cellsR M)) (hh : h < M.length) (hc3 : M.length ≤ q3) (hM : M.length ≤ 10000)
    (hQ : ∀ (u111 u112 u113 u114 u115 u116 u117 u118 u119 u120 v6 : Value) (w' : World), w'.ownsRow w3.heap.size 100 2 v6 (h + (M.length - (h + 1))) (cellsR (M.take h ++ M.drop (h + 1))) → Moves (fun _ => False) w3 w' → Q .normal ⟨List.toArray (c0 :: c1 :: c2 :: c3 :: v6 :: c5 :: c6 :: c7 :: c8 :: .int .i64 h :: c10 :: c11 :: c12 :: c13 :: c14 :: c15 :: c16 :: c17 :: c18 :: c19 :: c20 :: c21 :: c22 :: c23 :: c24 :: c25 :: c26 :: c27 :: c28 :: c29 :: c30 :: c31 :: c32 :: c33 :: c34 :: c35 :: c36 :: c37 :: c38 :: c39 :: c40 :: c41 :: c42 :: c43 :: c44 :: c45 :: c46 :: c47 :: c48 :: c49 :: c50 :: c51 :: c52 :: c53 :: c54 :: c55 :: c56 :: c57 :: c58 :: c59 :: c60 :: c61 :: c62 :: c63 :: c64 :: c65 :: c66 :: c67 :: c68 :: c69 :: c70 :: c71 :: c72 :: c73 :: c74 :: c75 :: c76 :: c77 :: c78 :: c79 :: c80 :: c81 :: c82 :: c83 :: c84 :: c85 :: c86 :: c87 :: c88 :: c89 :: c90 :: c91 :: c92 :: c93 :: c94 :: c95 :: c96 :: c97 :: c98 :: c99 :: c100 :: c101 :: c102 :: c103 :: c104 :: c105 :: c106 :: c107 :: c108 :: c109 :: c110 :: u111 :: u112 :: u113 :: u114 :: u115 :: u116 :: u117 :: u118 :: u119 :: u120 :: c121 :: c122 :: c123 :: c124 :: c125 :: c126 :: c127 :: c128 :: c129 :: c130 :: c131 :: c132 :: c133 :: c134 :: c135 :: c136 :: c137 :: c138 :: c139 :: c140 :: c141 :: c142 :: c143 :: c144 :: c145 :: c146 :: c147 :: c148 :: c149 :: c150 :: c151 :: c152 :: c153 :: c154 :: c155 :: c156 :: c157 :: c158 :: c159 :: c160 :: c161 :: c162 :: c163 :: c164 :: c165 :: c166 :: c167 :: c168 :: c169 :: c170 :: c171 :: c172 :: c173 :: c174 :: c175 :: c176 :: c177 :: c178 :: c179 :: c180 :: c181 :: c182 :: c183 :: c184 :: c185 :: c186 :: c187 :: c188 :: c189 :: c190 :: c191 :: c192 :: c193 :: c194 :: c195 :: c196 :: c197 :: c198 :: c199 :: c200 :: c201 :: c202 :: c203 :: c204 :: c205 :: c206 :: c207 :: c208 :: c209 :: c210 :: c211 :: c212 :: c213 :: c214 :: c215 :: c216 :: c217 :: c218 :: c219 :: c220 :: c221 :: c222 :: c223 :: c224 :: c225 :: c226 :: c227 :: c228 :: c229 :: c230 :: c231 :: []), []⟩ w') :
    Code.wp Try.prog code Q ⟨List.toArray (c0 :: c1 :: c2 :: c3 :: .slice (some ⟨g3, 0, none⟩) M.length q3 :: c5 :: c6 :: c7 :: c8 :: .int .i64 h :: c10 :: c11 :: c12 :: c13 :: c14 :: c15 :: c16 :: c17 :: c18 :: c19 :: c20 :: c21 :: c22 :: c23 :: c24 :: c25 :: c26 :: c27 :: c28 :: c29 :: c30 :: c31 :: c32 :: c33 :: c34 :: c35 :: c36 :: c37 :: c38 :: c39 :: c40 :: c41 :: c42 :: c43 :: c44 :: c45 :: c46 :: c47 :: c48 :: c49 :: c50 :: c51 :: c52 :: c53 :: c54 :: c55 :: c56 :: c57 :: c58 :: c59 :: c60 :: c61 :: c62 :: c63 :: c64 :: c65 :: c66 :: c67 :: c68 :: c69 :: c70 :: c71 :: c72 :: c73 :: c74 :: c75 :: c76 :: c77 :: c78 :: c79 :: c80 :: c81 :: c82 :: c83 :: c84 :: c85 :: c86 :: c87 :: c88 :: c89 :: c90 :: c91 :: c92 :: c93 :: c94 :: c95 :: c96 :: c97 :: c98 :: c99 :: c100 :: c101 :: c102 :: c103 :: c104 :: c105 :: c106 :: c107 :: c108 :: c109 :: c110 :: c111 :: c112 :: c113 :: c114 :: c115 :: c116 :: c117 :: c118 :: c119 :: c120 :: c121 :: c122 :: c123 :: c124 :: c125 :: c126 :: c127 :: c128 :: c129 :: c130 :: c131 :: c132 :: c133 :: c134 :: c135 :: c136 :: c137 :: c138 :: c139 :: c140 :: c141 :: c142 :: c143 :: c144 :: c145 :: c146 :: c147 :: c148 :: c149 :: c150 :: c151 :: c152 :: c153 :: c154 :: c155 :: c156 :: c157 :: c158 :: c159 :: c160 :: c161 :: c162 :: c163 :: c164 :: c165 :: c166 :: c167 :: c168 :: c169 :: c170 :: c171 :: c172 :: c173 :: c174 :: c175 :: c176 :: c177 :: c178 :: c179 :: c180 :: c181 :: c182 :: c183 :: c184 :: c185 :: c186 :: c187 :: c188 :: c189 :: c190 :: c191 :: c192 :: c193 :: c194 :: c195 :: c196 :: c197 :: c198 :: c199 :: c200 :: c201 :: c202 :: c203 :: c204 :: c205 :: c206 :: c207 :: c208 :: c209 :: c210 :: c211 :: c212 :: c213 :: c214 :: c215 :: c216 :: c217 :: c218 :: c219 :: c220 :: c221 :: c222 :: c223 :: c224 :: c225 :: c226 :: c227 :: c228 :: c229 :: c230 :: c231 :: []), []⟩ w3 := by
  subst hcode
  conv => arg 2; whnf
  have hsrc := src_of_own hown rfl
  obtain ⟨i4, hi4, hq0, hq1, hq2⟩ := info_parts infoR
  have hq3 : (Value.agg #[.string ByteArray.empty, .int .i64 0]).cells.size = 2 := rfl
  have hq4 : (0 : Nat) < 2 := by decide
  have HP1 := Lib.hid (show (cellsR (M.take h)).length = h * 2 by rw [cellsR_len]; simp; omega)
  have HO1 := Lib.hid (cellsR_one (M.take h))
  have HP2 := Lib.hid (show (cellsR (M.drop (h + 1))).length = (M.length - (h + 1)) * 2 by rw [cellsR_len]; simp)
  have HO2 := Lib.hid (cellsR_one (M.drop (h + 1)))
  have HN1 : Hid (0 + h ≤ maxLen ∧ (0 + h) * 24 ≤ 140737488355328) := by
    show _ ∧ _
    unfold maxLen
    omega
  have HN2 : Hid (h + (M.length - (h + 1)) ≤ maxLen ∧ (h + (M.length - (h + 1))) * 24 ≤ 140737488355328) := by
    show _ ∧ _
    unfold maxLen
    omega
  have HOWN := Lib.hid hown
  have HC3 := Lib.hid hc3
  have b0 : (0 : Int) ≤ (h : Int) := by omega
  have b1 : (h : Int) ≤ (q3 : Int) := by omega
  have b2 : (h : Int) + 1 ≤ (M.length : Int) := by omega
  have b3 : (M.length : Int) ≤ (q3 : Int) := by omega
  have b4 : IntKind.i64.wrap ((h : Int) + 1) = (h : Int) + 1 := IntWalk.i64_in _ (by omega)
  have b5 : (0 : Int) ≤ (h : Int) + 1 := by omega
  have hs1 := src_take (k := h) (by omega) hsrc
  clear hown hsrc
  go_region_held3 (fun _ => True) (trivial)
    (first
      | (have _t := tk1
         go_must (
         refine step_append_src _ rfl (.tmp 115) (.tmp 119) 93 rfl w3.heap.size 100 i4 _ 2 24 Try.underlying93 hi4 hq0 hq1 hq2 hq3 hq4 (.slice A1 h k1) h (cellsR (M.take h)) rfl hn1 (if q3 = h + 1 then some ⟨g3, 0, none⟩ else some ⟨g3, (h + 1) * 2, none⟩) (M.length - (h + 1)) (q3 - (h + 1)) (cellsR (M.drop (h + 1))) rfl HP2.out (src_dropR (own_moves HOWN.out hm4 (fun _ _ h => h)) HC3.out) HO2.out HN2.out.1 HN2.out.2 hm4.size ?_
         intro v2 w5 hn2 hg2 hl2
         have hm5 : Moves (fun _ => False) w3 w5 := by { first | exact Moves.onto hm4 hg2 hlow | exact Moves.onto hm4.drew hg2 hlow }))
      | (go_must (
         refine step_append_src _ rfl (.tmp 111) (.tmp 114) 93 rfl w3.heap.size 100 i4 _ 2 24 Try.underlying93 hi4 hq0 hq1 hq2 hq3 hq4 (.slice (some ⟨w3.heap.size, 0, none⟩) 0 0) 0 [] rfl (own_empty w3 _ _ _ (Nat.le_refl _)) (some ⟨g3, 0, none⟩) h q3 (cellsR (M.take h)) rfl HP1.out (hs1.alloc _) HO1.out HN1.out.1 HN1.out.2 (le_alloc _ _ (Nat.le_refl _)) ?_
         intro v1 w4 hn1 hg1 hl1
         simp only [Nat.zero_add, List.nil_append] at hn1
         obtain ⟨A1, k1, rfl, -, -, -, -, -⟩ := own_form hn1
         have hlow := fun b hb => (hn1.lt b hb).1
         have hm4 : Moves (fun _ => False) w3 w4 := by { first | exact Moves.onto ((Moves.refl _ w3).alloc _) hg1 (low_sl _ 0 0 (Nat.le_refl _)) | exact Moves.onto (((Moves.refl _ w3).alloc _).drew) hg1 (low_sl _ 0 0 (Nat.le_refl _)) }
         have tk1 : True := trivial))
      | fail)
  all_goals
    refine hQ _ _ _ _ _ _ _ _ _ _ v2 w5 ?_ hm5
    rw [cellsR_append]
    exact hn2

noncomputable def cut39C (n : Nat) : Code := (Try.f13.body.bind (findReg n)).getD .skip
set_option maxRecDepth 100000 in
set_option maxHeartbeats 4000000 in
/-- The region that lays a row without one of its places. -/
theorem cut39 {code : Code} (hcode : cut39C 39 = code) {w3 : World} {base : Nat} {M : List (ByteArray × Int)} {q3 h g3 : Nat} {Q : Exit → Act → World → Prop} {c0 c1 c2 c3 c5 c6 c7 c8 c10 c11 c12 c13 c14 c15 c16 c17 c18 c19 c20 c21 c22 c23 c24 c25 c26 c27 c28 c29 c30 c31 c32 c33 c34 c35 c36 c37 c38 c39 c40 c41 c42 c43 c44 c45 c46 c47 c48 c49 c50 c51 c52 c53 c54 c55 c56 c57 c58 c59 c60 c61 c62 c63 c64 c65 c66 c67 c68 c69 c70 c71 c72 c73 c74 c75 c76 c77 c78 c79 c80 c81 c82 c83 c84 c85 c86 c87 c88 c89 c90 c91 c92 c93 c94 c95 c96 c97 c98 c99 c100 c101 c102 c103 c104 c105 c106 c107 c108 c109 c110 c111 c112 c113 c114 c115 c116 c117 c118 c119 c120 c121 c122 c123 c124 c125 c126 c127 c128 c129 c130 c131 c132 c133 c134 c135 c136 c137 c138 c139 c140 c141 c142 c143 c144 c145 c146 c147 c148 c149 c150 c151 c152 c153 c154 c155 c156 c157 c158 c159 c160 c161 c162 c163 c164 c165 c166 c167 c168 c169 c170 c171 c172 c173 c174 c175 c176 c177 c178 c179 c180 c181 c182 c183 c184 c185 c186 c187 c188 c189 c190 c191 c192 c193 c194 c195 c196 c197 c198 c199 c200 c201 c202 c203 c204 c205 c206 c207 c208 c209 c210 c211 c212 c213 c214 c215 c216 c217 c218 c219 c220 c221 c222 c223 c224 c225 c226 c227 c228 c229 c230 c231 : Value}
    (hown : w3.ownsRow base 100 2 (.slice (some ⟨g3, 0, none⟩) M.length q3) M.length (cellsR M)) (hh : h < M.length) (hc3 : M.length ≤ q3) (hM : M.length ≤ 10000)
    (hQ : ∀ (u148 u149 u150 u151 u152 u153 u154 u155 u156 u157 v6 : Value) (w' : World), w'.ownsRow w3.heap.size 100 2 v6 (h + (M.length - (h + 1))) (cellsR (M.take h ++ M.drop (h + 1))) → Moves (fun _ => False) w3 w' → Q .normal ⟨List.toArray (c0 :: c1 :: c2 :: c3 :: v6 :: c5 :: c6 :: c7 :: c8 :: .int .i64 h :: c10 :: c11 :: c12 :: c13 :: c14 :: c15 :: c16 :: c17 :: c18 :: c19 :: c20 :: c21 :: c22 :: c23 :: c24 :: c25 :: c26 :: c27 :: c28 :: c29 :: c30 :: c31 :: c32 :: c33 :: c34 :: c35 :: c36 :: c37 :: c38 :: c39 :: c40 :: c41 :: c42 :: c43 :: c44 :: c45 :: c46 :: c47 :: c48 :: c49 :: c50 :: c51 :: c52 :: c53 :: c54 :: c55 :: c56 :: c57 :: c58 :: c59 :: c60 :: c61 :: c62 :: c63 :: c64 :: c65 :: c66 :: c67 :: c68 :: c69 :: c70 :: c71 :: c72 :: c73 :: c74 :: c75 :: c76 :: c77 :: c78 :: c79 :: c80 :: c81 :: c82 :: c83 :: c84 :: c85 :: c86 :: c87 :: c88 :: c89 :: c90 :: c91 :: c92 :: c93 :: c94 :: c95 :: c96 :: c97 :: c98 :: c99 :: c100 :: c101 :: c102 :: c103 :: c104 :: c105 :: c106 :: c107 :: c108 :: c109 :: c110 :: c111 :: c112 :: c113 :: c114 :: c115 :: c116 :: c117 :: c118 :: c119 :: c120 :: c121 :: c122 :: c123 :: c124 :: c125 :: c126 :: c127 :: c128 :: c129 :: c130 :: c131 :: c132 :: c133 :: c134 :: c135 :: c136 :: c137 :: c138 :: c139 :: c140 :: c141 :: c142 :: c143 :: c144 :: c145 :: c146 :: c147 :: u148 :: u149 :: u150 :: u151 :: u152 :: u153 :: u154 :: u155 :: u156 :: u157 :: c158 :: c159 :: c160 :: c161 :: c162 :: c163 :: c164 :: c165 :: c166 :: c167 :: c168 :: c169 :: c170 :: c171 :: c172 :: c173 :: c174 :: c175 :: c176 :: c177 :: c178 :: c179 :: c180 :: c181 :: c182 :: c183 :: c184 :: c185 :: c186 :: c187 :: c188 :: c189 :: c190 :: c191 :: c192 :: c193 :: c194 :: c195 :: c196 :: c197 :: c198 :: c199 :: c200 :: c201 :: c202 :: c203 :: c204 :: c205 :: c206 :: c207 :: c208 :: c209 :: c210 :: c211 :: c212 :: c213 :: c214 :: c215 :: c216 :: c217 :: c218 :: c219 :: c220 :: c221 :: c222 :: c223 :: c224 :: c225 :: c226 :: c227 :: c228 :: c229 :: c230 :: c231 :: []), []⟩ w') :
    Code.wp Try.prog code Q ⟨List.toArray (c0 :: c1 :: c2 :: c3 :: .slice (some ⟨g3, 0, none⟩) M.length q3 :: c5 :: c6 :: c7 :: c8 :: .int .i64 h :: c10 :: c11 :: c12 :: c13 :: c14 :: c15 :: c16 :: c17 :: c18 :: c19 :: c20 :: c21 :: c22 :: c23 :: c24 :: c25 :: c26 :: c27 :: c28 :: c29 :: c30 :: c31 :: c32 :: c33 :: c34 :: c35 :: c36 :: c37 :: c38 :: c39 :: c40 :: c41 :: c42 :: c43 :: c44 :: c45 :: c46 :: c47 :: c48 :: c49 :: c50 :: c51 :: c52 :: c53 :: c54 :: c55 :: c56 :: c57 :: c58 :: c59 :: c60 :: c61 :: c62 :: c63 :: c64 :: c65 :: c66 :: c67 :: c68 :: c69 :: c70 :: c71 :: c72 :: c73 :: c74 :: c75 :: c76 :: c77 :: c78 :: c79 :: c80 :: c81 :: c82 :: c83 :: c84 :: c85 :: c86 :: c87 :: c88 :: c89 :: c90 :: c91 :: c92 :: c93 :: c94 :: c95 :: c96 :: c97 :: c98 :: c99 :: c100 :: c101 :: c102 :: c103 :: c104 :: c105 :: c106 :: c107 :: c108 :: c109 :: c110 :: c111 :: c112 :: c113 :: c114 :: c115 :: c116 :: c117 :: c118 :: c119 :: c120 :: c121 :: c122 :: c123 :: c124 :: c125 :: c126 :: c127 :: c128 :: c129 :: c130 :: c131 :: c132 :: c133 :: c134 :: c135 :: c136 :: c137 :: c138 :: c139 :: c140 :: c141 :: c142 :: c143 :: c144 :: c145 :: c146 :: c147 :: c148 :: c149 :: c150 :: c151 :: c152 :: c153 :: c154 :: c155 :: c156 :: c157 :: c158 :: c159 :: c160 :: c161 :: c162 :: c163 :: c164 :: c165 :: c166 :: c167 :: c168 :: c169 :: c170 :: c171 :: c172 :: c173 :: c174 :: c175 :: c176 :: c177 :: c178 :: c179 :: c180 :: c181 :: c182 :: c183 :: c184 :: c185 :: c186 :: c187 :: c188 :: c189 :: c190 :: c191 :: c192 :: c193 :: c194 :: c195 :: c196 :: c197 :: c198 :: c199 :: c200 :: c201 :: c202 :: c203 :: c204 :: c205 :: c206 :: c207 :: c208 :: c209 :: c210 :: c211 :: c212 :: c213 :: c214 :: c215 :: c216 :: c217 :: c218 :: c219 :: c220 :: c221 :: c222 :: c223 :: c224 :: c225 :: c226 :: c227 :: c228 :: c229 :: c230 :: c231 :: []), []⟩ w3 := by
  subst hcode
  conv => arg 2; whnf
  have hsrc := src_of_own hown rfl
  obtain ⟨i4, hi4, hq0, hq1, hq2⟩ := info_parts infoR
  have hq3 : (Value.agg #[.string ByteArray.empty, .int .i64 0]).cells.size = 2 := rfl
  have hq4 : (0 : Nat) < 2 := by decide
  have HP1 := Lib.hid (show (cellsR (M.take h)).length = h * 2 by rw [cellsR_len]; simp; omega)
  have HO1 := Lib.hid (cellsR_one (M.take h))
  have HP2 := Lib.hid (show (cellsR (M.drop (h + 1))).length = (M.length - (h + 1)) * 2 by rw [cellsR_len]; simp)
  have HO2 := Lib.hid (cellsR_one (M.drop (h + 1)))
  have HN1 : Hid (0 + h ≤ maxLen ∧ (0 + h) * 24 ≤ 140737488355328) := by
    show _ ∧ _
    unfold maxLen
    omega
  have HN2 : Hid (h + (M.length - (h + 1)) ≤ maxLen ∧ (h + (M.length - (h + 1))) * 24 ≤ 140737488355328) := by
    show _ ∧ _
    unfold maxLen
    omega
  have HOWN := Lib.hid hown
  have HC3 := Lib.hid hc3
  have b0 : (0 : Int) ≤ (h : Int) := by omega
  have b1 : (h : Int) ≤ (q3 : Int) := by omega
  have b2 : (h : Int) + 1 ≤ (M.length : Int) := by omega
  have b3 : (M.length : Int) ≤ (q3 : Int) := by omega
  have b4 : IntKind.i64.wrap ((h : Int) + 1) = (h : Int) + 1 := IntWalk.i64_in _ (by omega)
  have b5 : (0 : Int) ≤ (h : Int) + 1 := by omega
  have hs1 := src_take (k := h) (by omega) hsrc
  clear hown hsrc
  go_region_held3 (fun _ => True) (trivial)
    (first
      | (have _t := tk1
         go_must (
         refine step_append_src _ rfl (.tmp 152) (.tmp 156) 93 rfl w3.heap.size 100 i4 _ 2 24 Try.underlying93 hi4 hq0 hq1 hq2 hq3 hq4 (.slice A1 h k1) h (cellsR (M.take h)) rfl hn1 (if q3 = h + 1 then some ⟨g3, 0, none⟩ else some ⟨g3, (h + 1) * 2, none⟩) (M.length - (h + 1)) (q3 - (h + 1)) (cellsR (M.drop (h + 1))) rfl HP2.out (src_dropR (own_moves HOWN.out hm4 (fun _ _ h => h)) HC3.out) HO2.out HN2.out.1 HN2.out.2 hm4.size ?_
         intro v2 w5 hn2 hg2 hl2
         have hm5 : Moves (fun _ => False) w3 w5 := by { first | exact Moves.onto hm4 hg2 hlow | exact Moves.onto hm4.drew hg2 hlow }))
      | (go_must (
         refine step_append_src _ rfl (.tmp 148) (.tmp 151) 93 rfl w3.heap.size 100 i4 _ 2 24 Try.underlying93 hi4 hq0 hq1 hq2 hq3 hq4 (.slice (some ⟨w3.heap.size, 0, none⟩) 0 0) 0 [] rfl (own_empty w3 _ _ _ (Nat.le_refl _)) (some ⟨g3, 0, none⟩) h q3 (cellsR (M.take h)) rfl HP1.out (hs1.alloc _) HO1.out HN1.out.1 HN1.out.2 (le_alloc _ _ (Nat.le_refl _)) ?_
         intro v1 w4 hn1 hg1 hl1
         simp only [Nat.zero_add, List.nil_append] at hn1
         obtain ⟨A1, k1, rfl, -, -, -, -, -⟩ := own_form hn1
         have hlow := fun b hb => (hn1.lt b hb).1
         have hm4 : Moves (fun _ => False) w3 w4 := by { first | exact Moves.onto ((Moves.refl _ w3).alloc _) hg1 (low_sl _ 0 0 (Nat.le_refl _)) | exact Moves.onto (((Moves.refl _ w3).alloc _).drew) hg1 (low_sl _ 0 0 (Nat.le_refl _)) }
         have tk1 : True := trivial))
      | fail)
  all_goals
    refine hQ _ _ _ _ _ _ _ _ _ _ v2 w5 ?_ hm5
    rw [cellsR_append]
    exact hn2
end Go.Proofs.Ytbfnmgjpkieaoaa.Tb
