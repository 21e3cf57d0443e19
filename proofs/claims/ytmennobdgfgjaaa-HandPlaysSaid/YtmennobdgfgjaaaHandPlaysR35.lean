/-
  append(append([]pair{}, row...), pair{last, a.N}): whatever the order that its operations are carried out in.
-/
import Derived.Test.YtmennobdgfgjaaaHandActs
import Derived.Deep.CutBlock
import Derived.Deep.LoopGhost
import Derived.Deep.RegionHeld3
import Derived.Outline
import Derived.Deep.DeepMust
namespace Go.Proofs.Ytmennobdgfgjaaa
open Go Go.RowKit Go.Maps Go.Sort Go.Shelf Go.Proofs

/-- A part of a function's body: the region, the block of a number. -/
def findRegion (n : Nat) : Code → Option Code
  | .region id ops d => if id = n then some (.region id ops d) else none
  | .seq a b => match findRegion n a with
    | some c => some c
    | none => findRegion n b
  | .block _ c => findRegion n c
  | .loop c => findRegion n c
  | .scope c => findRegion n c
  | .cond _ a b => match findRegion n a with
    | some c => some c
    | none => findRegion n b
  | _ => none
def findBlock (n : Nat) : Code → Option Code
  | .block id c => if id = n then some (.block id c) else findBlock n c
  | .seq a b => match findBlock n a with
    | some c => some c
    | none => findBlock n b
  | .loop c => findBlock n c
  | .scope c => findBlock n c
  | .cond _ a b => match findBlock n a with
    | some c => some c
    | none => findBlock n b
  | _ => none
noncomputable def reg (n : Nat) : Code := (Try.f6.body.bind (findRegion n)).getD .skip
noncomputable def blk (n : Nat) : Code := (Try.f6.body.bind (findBlock n)).getD .skip

theorem keep1 {W w4 : World} {v : Value} {a : Addr} {u : Value} (hg : W.grownBy w4 v.ownBlock) (hlt : a.block < W.heap.size) (hc : W.cell? a = some u) (hv : v.ownBlock ≠ some a.block) : w4.cell? a = some u :=
  (hg.cell_far a hlt (fun e => hv e.symm)).trans hc
theorem lt_alloc (w : World) (o : Obj) {b : Nat} (h : b < w.heap.size) : b < (w.alloc o).heap.size := by simp; omega
theorem le_alloc (w : World) (o : Obj) {b : Nat} (h : b ≤ w.heap.size) : b ≤ (w.alloc o).heap.size := by simp; omega
theorem new_block_ne {v v1 : Value} {W : World} {b : Nat} (hl : v1.ownBlock = v.ownBlock ∨ v1.ownBlock = some W.heap.size) (hv : v.ownBlock ≠ some b) (hb : b < W.heap.size) : v1.ownBlock ≠ some b := by
  rcases hl with h | h
  · rw [h]; exact hv
  · rw [h]; intro e; cases e; omega

theorem own_emptyS (w : World) (e : TypeId) (size base : Nat) (hb : base ≤ w.heap.size) {b : Nat} (hs : w.heap.size = b) : (w.alloc (.cells #[] e)).ownsRow base e size (.slice (some ⟨b, 0, none⟩) 0 0) 0 [] := by
  subst hs
  exact World.ownsRow_made w #[] 0 hb (by unfold maxLen; omega) (by simp)
theorem blk2 (w : World) (o o' : Obj) : ((w.alloc o).alloc o').heap[w.heap.size + 1]? = some o' := by
  have := heap_alloc_new (w.alloc o) o'
  simpa using this

theorem low_block {v v1 : Value} {W : World} {b : Nat} (hl : v1.ownBlock = v.ownBlock ∨ v1.ownBlock = some W.heap.size) (hv : ∀ k, v.ownBlock = some k → b ≤ k) (hb : b ≤ W.heap.size) : ∀ k, v1.ownBlock = some k → b ≤ k := fun k hk => by
  rcases hl with h | h
  · rw [h] at hk; exact hv k hk
  · rw [h] at hk; cases hk; exact hb
theorem Moves.onto {w W w' : World} {v : Value} (h : Moves (fun _ => False) w W) (hg : W.grownBy w' v.ownBlock) (hv : ∀ k, v.ownBlock = some k → w.heap.size ≤ k) : Moves (fun _ => False) w w' :=
  h.grown hg fun k e hk => absurd (hv k e) (by omega)
theorem low_slice (a b n c : Nat) (h : a ≤ b) : ∀ k, (Value.slice (some ⟨b, 0, none⟩) n c).ownBlock = some k → a ≤ k := fun k e => by
  have : b = k := by simpa [Value.ownBlock] using e
  omega

theorem infoP : (Try.prog.info? 44).map (fun i => (i.zero, i.size, i.bytes)) = some (some (.agg #[.int .i64 0, .int .i64 0]), 2, 16) := by kernel_rfl

/-- A slice of no element, just made. -/
theorem own_empty (w : World) (e : TypeId) (size base : Nat) (hb : base ≤ w.heap.size) : (w.alloc (.cells #[] e)).ownsRow base e size (.slice (some ⟨w.heap.size, 0, none⟩) 0 0) 0 [] :=
  World.ownsRow_made w #[] 0 hb (by unfold maxLen; omega) (by simp)

set_option maxRecDepth 100000 in
set_option maxHeartbeats 4000000 in
theorem reg35 {code : Code} (hcode : reg 35 = code) {w0 w3 : World} {R : List Pr} {A6 : Option Addr} {c6 ab : Nat} {y n : Int} {Q : Exit → Act → World → Prop} {c0 c1 c2 c3 c4 c5 c8 c10 c11 c12 c13 c14 c15 c16 c17 c18 c19 c20 c21 c22 c23 c24 c25 c26 c27 c28 c29 c30 c31 c32 c33 c34 c35 c36 c37 c38 c39 c40 c41 c42 c43 c44 c45 c46 c47 c48 c49 c50 c51 c52 c53 c54 c55 c56 c57 c58 c59 c60 c61 c62 c63 c64 c65 c66 c67 c68 c69 c70 c71 c72 c73 c74 c75 c76 c77 c78 c79 c80 c81 c82 c83 c84 c85 c86 c87 c88 c89 c90 c91 c92 c93 c94 c95 c96 c97 c98 c99 c100 c101 c102 c103 c104 c105 c106 c107 c108 c109 c110 c111 c112 c113 c114 c115 c116 c117 c118 c119 c120 c121 c122 c123 c124 c125 c126 c127 c128 c129 c130 c131 c132 c133 c134 c135 c136 c137 c138 c139 c140 c141 c142 c143 c144 c145 c146 c147 c148 c149 c150 c151 c152 c153 c154 c155 c156 c157 c158 c159 c160 c161 c162 c163 c164 c165 c166 c167 c168 c169 c170 c171 c172 c173 c174 c175 c176 c177 c178 c179 c180 c181 c182 c183 c184 c185 c186 c187 c188 c189 c190 c191 c192 c193 c194 c195 c196 c197 c198 c199 c200 c201 c202 c203 c204 c205 c206 c207 c208 c209 c210 c211 c212 c213 c214 c215 c216 c217 c218 c219 c220 c221 c222 c223 c224 c225 c226 c227 c228 c229 c230 c231 c232 c233 c234 c235 c236 c237 c238 c239 c240 c241 c242 c243 c244 c245 c246 c247 c248 c249 c250 c251 c252 c253 c254 c255 c256 c257 c258 c259 c260 c261 c262 c263 c264 c265 c266 c267 c268 c269 c270 c271 c272 c273 c274 c275 c276 c277 c278 c279 c280 c281 c282 c283 c284 c285 c286 c287 c288 c289 c290 c291 c292 : Value}
    (hown : w3.ownsRow w0.heap.size 44 2 (.slice A6 R.length c6) R.length (cellsP R)) (hc : w3.cell? ⟨ab, 1, none⟩ = some (.int .i64 n)) (hab : ab < w3.heap.size) (hn : R.length ≤ 1000) (h0 : w0.heap.size ≤ w3.heap.size)
    (hQ : ∀ (u109 u110 u111 u112 u113 u114 u115 u116 u117 v6 : Value) (w' : World), w'.ownsRow w0.heap.size 44 2 v6 (R ++ [(y, n)]).length (cellsP (R ++ [(y, n)])) → Moves (fun _ => False) w3 w' → Q .normal ⟨List.toArray (c0 :: c1 :: c2 :: c3 :: c4 :: c5 :: v6 :: .int .i64 y :: c8 :: .pointer (some ⟨ab, 0, none⟩) :: c10 :: c11 :: c12 :: c13 :: c14 :: c15 :: c16 :: c17 :: c18 :: c19 :: c20 :: c21 :: c22 :: c23 :: c24 :: c25 :: c26 :: c27 :: c28 :: c29 :: c30 :: c31 :: c32 :: c33 :: c34 :: c35 :: c36 :: c37 :: c38 :: c39 :: c40 :: c41 :: c42 :: c43 :: c44 :: c45 :: c46 :: c47 :: c48 :: c49 :: c50 :: c51 :: c52 :: c53 :: c54 :: c55 :: c56 :: c57 :: c58 :: c59 :: c60 :: c61 :: c62 :: c63 :: c64 :: c65 :: c66 :: c67 :: c68 :: c69 :: c70 :: c71 :: c72 :: c73 :: c74 :: c75 :: c76 :: c77 :: c78 :: c79 :: c80 :: c81 :: c82 :: c83 :: c84 :: c85 :: c86 :: c87 :: c88 :: c89 :: c90 :: c91 :: c92 :: c93 :: c94 :: c95 :: c96 :: c97 :: c98 :: c99 :: c100 :: c101 :: c102 :: c103 :: c104 :: c105 :: c106 :: c107 :: c108 :: u109 :: u110 :: u111 :: u112 :: u113 :: u114 :: u115 :: u116 :: u117 :: c118 :: c119 :: c120 :: c121 :: c122 :: c123 :: c124 :: c125 :: c126 :: c127 :: c128 :: c129 :: c130 :: c131 :: c132 :: c133 :: c134 :: c135 :: c136 :: c137 :: c138 :: c139 :: c140 :: c141 :: c142 :: c143 :: c144 :: c145 :: c146 :: c147 :: c148 :: c149 :: c150 :: c151 :: c152 :: c153 :: c154 :: c155 :: c156 :: c157 :: c158 :: c159 :: c160 :: c161 :: c162 :: c163 :: c164 :: c165 :: c166 :: c167 :: c168 :: c169 :: c170 :: c171 :: c172 :: c173 :: c174 :: c175 :: c176 :: c177 :: c178 :: c179 :: c180 :: c181 :: c182 :: c183 :: c184 :: c185 :: c186 :: c187 :: c188 :: c189 :: c190 :: c191 :: c192 :: c193 :: c194 :: c195 :: c196 :: c197 :: c198 :: c199 :: c200 :: c201 :: c202 :: c203 :: c204 :: c205 :: c206 :: c207 :: c208 :: c209 :: c210 :: c211 :: c212 :: c213 :: c214 :: c215 :: c216 :: c217 :: c218 :: c219 :: c220 :: c221 :: c222 :: c223 :: c224 :: c225 :: c226 :: c227 :: c228 :: c229 :: c230 :: c231 :: c232 :: c233 :: c234 :: c235 :: c236 :: c237 :: c238 :: c239 :: c240 :: c241 :: c242 :: c243 :: c244 :: c245 :: c246 :: c247 :: c248 :: c249 :: c250 :: c251 :: c252 :: c253 :: c254 :: c255 :: c256 :: c257 :: c258 :: c259 :: c260 :: c261 :: c262 :: c263 :: c264 :: c265 :: c266 :: c267 :: c268 :: c269 :: c270 :: c271 :: c272 :: c273 :: c274 :: c275 :: c276 :: c277 :: c278 :: c279 :: c280 :: c281 :: c282 :: c283 :: c284 :: c285 :: c286 :: c287 :: c288 :: c289 :: c290 :: c291 :: c292 :: []), []⟩ w') :
    Code.wp Try.prog code Q ⟨List.toArray (c0 :: c1 :: c2 :: c3 :: c4 :: c5 :: .slice A6 R.length c6 :: .int .i64 y :: c8 :: .pointer (some ⟨ab, 0, none⟩) :: c10 :: c11 :: c12 :: c13 :: c14 :: c15 :: c16 :: c17 :: c18 :: c19 :: c20 :: c21 :: c22 :: c23 :: c24 :: c25 :: c26 :: c27 :: c28 :: c29 :: c30 :: c31 :: c32 :: c33 :: c34 :: c35 :: c36 :: c37 :: c38 :: c39 :: c40 :: c41 :: c42 :: c43 :: c44 :: c45 :: c46 :: c47 :: c48 :: c49 :: c50 :: c51 :: c52 :: c53 :: c54 :: c55 :: c56 :: c57 :: c58 :: c59 :: c60 :: c61 :: c62 :: c63 :: c64 :: c65 :: c66 :: c67 :: c68 :: c69 :: c70 :: c71 :: c72 :: c73 :: c74 :: c75 :: c76 :: c77 :: c78 :: c79 :: c80 :: c81 :: c82 :: c83 :: c84 :: c85 :: c86 :: c87 :: c88 :: c89 :: c90 :: c91 :: c92 :: c93 :: c94 :: c95 :: c96 :: c97 :: c98 :: c99 :: c100 :: c101 :: c102 :: c103 :: c104 :: c105 :: c106 :: c107 :: c108 :: c109 :: c110 :: c111 :: c112 :: c113 :: c114 :: c115 :: c116 :: c117 :: c118 :: c119 :: c120 :: c121 :: c122 :: c123 :: c124 :: c125 :: c126 :: c127 :: c128 :: c129 :: c130 :: c131 :: c132 :: c133 :: c134 :: c135 :: c136 :: c137 :: c138 :: c139 :: c140 :: c141 :: c142 :: c143 :: c144 :: c145 :: c146 :: c147 :: c148 :: c149 :: c150 :: c151 :: c152 :: c153 :: c154 :: c155 :: c156 :: c157 :: c158 :: c159 :: c160 :: c161 :: c162 :: c163 :: c164 :: c165 :: c166 :: c167 :: c168 :: c169 :: c170 :: c171 :: c172 :: c173 :: c174 :: c175 :: c176 :: c177 :: c178 :: c179 :: c180 :: c181 :: c182 :: c183 :: c184 :: c185 :: c186 :: c187 :: c188 :: c189 :: c190 :: c191 :: c192 :: c193 :: c194 :: c195 :: c196 :: c197 :: c198 :: c199 :: c200 :: c201 :: c202 :: c203 :: c204 :: c205 :: c206 :: c207 :: c208 :: c209 :: c210 :: c211 :: c212 :: c213 :: c214 :: c215 :: c216 :: c217 :: c218 :: c219 :: c220 :: c221 :: c222 :: c223 :: c224 :: c225 :: c226 :: c227 :: c228 :: c229 :: c230 :: c231 :: c232 :: c233 :: c234 :: c235 :: c236 :: c237 :: c238 :: c239 :: c240 :: c241 :: c242 :: c243 :: c244 :: c245 :: c246 :: c247 :: c248 :: c249 :: c250 :: c251 :: c252 :: c253 :: c254 :: c255 :: c256 :: c257 :: c258 :: c259 :: c260 :: c261 :: c262 :: c263 :: c264 :: c265 :: c266 :: c267 :: c268 :: c269 :: c270 :: c271 :: c272 :: c273 :: c274 :: c275 :: c276 :: c277 :: c278 :: c279 :: c280 :: c281 :: c282 :: c283 :: c284 :: c285 :: c286 :: c287 :: c288 :: c289 :: c290 :: c291 :: c292 :: []), []⟩ w3 := by
  subst hcode
  conv => arg 2; whnf
  have hsrc := src_of_own hown rfl
  obtain ⟨i4, hi4, hq0, hq1, hq2⟩ := info_parts infoP
  have hq3 : (Value.agg #[.int .i64 0, .int .i64 0]).cells.size = 2 := rfl
  have hq4 : (0 : Nat) < 2 := by decide
  have HP := Lib.hid (cellsP_len R)
  have H1 := Lib.hid (cellsP_one R)
  have HN1 : Hid (0 + R.length ≤ maxLen ∧ (0 + R.length) * 16 ≤ 140737488355328) := by
    show _ ∧ _
    unfold maxLen
    omega
  have HN2 : Hid (R.length + 1 ≤ maxLen ∧ (R.length + 1) * 16 ≤ 140737488355328) := by
    show _ ∧ _
    unfold maxLen
    omega
  have hone : ∀ u ∈ [Value.int .i64 y, Value.int .i64 n], u.oneCell' = true := by simp [Value.oneCell']
  have Hone := Lib.hid hone
  clear hone
  have hv0 : (Value.slice (some ⟨w3.heap.size, 0, none⟩) 0 0).ownBlock ≠ some ab := fun e => by have h : w3.heap.size = ab := by { simpa [Value.ownBlock] using e }; omega
  have hv2 : (Value.slice (some ⟨w3.heap.size + 1, 0, none⟩) 0 0).ownBlock ≠ some ab := fun e => by have h : w3.heap.size + 1 = ab := by { simpa [Value.ownBlock] using e }; omega
  have hbase3 : w0.heap.size ≤ ((w3.alloc (.cells #[] 44)).alloc (.cells #[.int .i64 y, .int .i64 n] 44)).heap.size := le_alloc _ _ (le_alloc _ _ h0)
  have hbase4 : w0.heap.size ≤ ((w3.alloc (.cells #[.int .i64 y, .int .i64 n] 44)).alloc (.cells #[] 44)).heap.size := le_alloc _ _ (le_alloc _ _ h0)
  have hbase1 : w0.heap.size ≤ (w3.alloc (.cells #[] 44)).heap.size := by simp; omega
  go_region_held3 (fun w' => w'.cell? ⟨ab, 1, none⟩ = some (.int .i64 n))
    (first | go_keep | exact c1')
    (first
      | (refine step_append_src _ rfl (.tmp 109) (.tmp 110) 40 rfl w0.heap.size 44 i4 _ 2 16 Try.underlying40 hi4 hq0 hq1 hq2 hq3 hq4 (.slice (some ⟨w3.heap.size, 0, none⟩) 0 0) 0 [] rfl (own_empty w3 _ _ _ h0) A6 R.length c6 (cellsP R) rfl HP.out (src_of_own (hown.alloc _) rfl) H1.out HN1.out.1 HN1.out.2 hbase1 ?_
         intro v1 w4 hn1 hg1 hl1
         simp only [Nat.zero_add, List.nil_append] at hn1
         obtain ⟨A1, k1, rfl, -, -, -, -, -⟩ := own_form hn1
         have tk1 : True := trivial
         have hlow := low_block hl1 (low_slice w3.heap.size (w3.heap.size) 0 0 (Nat.le_refl _)) (le_alloc _ _ (Nat.le_refl _))
         have hm4 : Moves (fun _ => False) w3 w4 := by { first | exact Moves.onto ((Moves.refl _ w3).alloc _) hg1 (low_slice w3.heap.size (w3.heap.size) 0 0 (Nat.le_refl _)) | exact Moves.onto (((Moves.refl _ w3).alloc _).drew) hg1 (low_slice w3.heap.size (w3.heap.size) 0 0 (Nat.le_refl _)) | exact Moves.onto ((((Moves.refl _ w3).alloc _).drew).alloc _) hg1 (low_slice w3.heap.size (w3.heap.size) 0 0 (Nat.le_refl _)) }
         have hs4 := hg1.size
         have hab4 : ab < w4.heap.size := Nat.lt_of_lt_of_le (lt_alloc w3 _ hab) hg1.size
         have hv1 := new_block_ne hl1 hv0 (lt_alloc w3 _ hab)
         have c1' : w4.cell? ⟨ab, 1, none⟩ = some (.int .i64 n) := keep1 hg1 (lt_alloc w3 _ hab) ((World.cell?_alloc_lt w3 _ ⟨ab, 1, none⟩ hab).trans hc) hv0
         have hbase2 : w0.heap.size ≤ (w4.alloc (.cells #[.int .i64 y, .int .i64 n] 44)).heap.size := le_alloc _ _ (Nat.le_trans hbase1 hg1.size))
      | (refine step_append_src _ rfl (.tmp 109) (.tmp 110) 40 rfl w0.heap.size 44 i4 _ 2 16 Try.underlying40 hi4 hq0 hq1 hq2 hq3 hq4 (.slice (some ⟨w3.heap.size, 0, none⟩) 0 0) 0 [] rfl ((own_empty w3 _ _ _ h0).alloc _) A6 R.length c6 (cellsP R) rfl HP.out (src_of_own ((hown.alloc _).alloc _) rfl) H1.out HN1.out.1 HN1.out.2 hbase3 ?_
         intro v1 w4 hn1 hg1 hl1
         simp only [Nat.zero_add, List.nil_append] at hn1
         obtain ⟨A1, k1, rfl, -, -, -, -, -⟩ := own_form hn1
         have tk2 : True := trivial
         have hlow := low_block hl1 (low_slice w3.heap.size (w3.heap.size) 0 0 (Nat.le_refl _)) (le_alloc _ _ (le_alloc _ _ (Nat.le_refl _)))
         have hm4 : Moves (fun _ => False) w3 w4 := by { first | exact Moves.onto (((Moves.refl _ w3).alloc _).alloc _) hg1 (low_slice w3.heap.size (w3.heap.size) 0 0 (Nat.le_refl _)) | exact Moves.onto ((((Moves.refl _ w3).alloc _).alloc _).drew) hg1 (low_slice w3.heap.size (w3.heap.size) 0 0 (Nat.le_refl _)) | exact Moves.onto ((((Moves.refl _ w3).alloc _).drew).alloc _) hg1 (low_slice w3.heap.size (w3.heap.size) 0 0 (Nat.le_refl _)) }
         have hs4 := hg1.size
         have hab4 : ab < w4.heap.size := Nat.lt_of_lt_of_le (lt_alloc _ _ (lt_alloc w3 _ hab)) hg1.size
         have hv1 := new_block_ne hl1 hv0 (lt_alloc _ _ (lt_alloc w3 _ hab))
         have c1' : w4.cell? ⟨ab, 1, none⟩ = some (.int .i64 n) := keep1 hg1 (lt_alloc _ _ (lt_alloc w3 _ hab)) ((World.cell?_alloc_lt _ _ ⟨ab, 1, none⟩ (lt_alloc w3 _ hab)).trans ((World.cell?_alloc_lt w3 _ ⟨ab, 1, none⟩ hab).trans hc)) hv0
         have hnb : w4.heap[w3.heap.size + 1]? = some (.cells #[.int .i64 y, .int .i64 n] 44 (0, 0)) := (hg1.block (w3.heap.size + 1) (by simp) (by simp [Value.ownBlock])).trans (blk2 w3 _ _))
      | (refine step_append_src _ rfl (.tmp 109) (.tmp 110) 40 rfl w0.heap.size 44 i4 _ 2 16 Try.underlying40 hi4 hq0 hq1 hq2 hq3 hq4 (.slice (some ⟨w3.heap.size + 1, 0, none⟩) 0 0) 0 [] rfl (own_emptyS (w3.alloc (.cells #[.int .i64 y, .int .i64 n] 44)) _ _ _ (le_alloc _ _ h0) (by simp)) A6 R.length c6 (cellsP R) rfl HP.out (src_of_own ((hown.alloc _).alloc _) rfl) H1.out HN1.out.1 HN1.out.2 hbase4 ?_
         intro v1 w4 hn1 hg1 hl1
         simp only [Nat.zero_add, List.nil_append] at hn1
         obtain ⟨A1, k1, rfl, -, -, -, -, -⟩ := own_form hn1
         have tk3 : True := trivial
         have hlow := low_block hl1 (low_slice w3.heap.size (w3.heap.size + 1) 0 0 (Nat.le_succ _)) (le_alloc _ _ (le_alloc _ _ (Nat.le_refl _)))
         have hm4 : Moves (fun _ => False) w3 w4 := by { first | exact Moves.onto (((Moves.refl _ w3).alloc _).alloc _) hg1 (low_slice w3.heap.size (w3.heap.size + 1) 0 0 (Nat.le_succ _)) | exact Moves.onto ((((Moves.refl _ w3).alloc _).alloc _).drew) hg1 (low_slice w3.heap.size (w3.heap.size + 1) 0 0 (Nat.le_succ _)) | exact Moves.onto ((((Moves.refl _ w3).alloc _).drew).alloc _) hg1 (low_slice w3.heap.size (w3.heap.size + 1) 0 0 (Nat.le_succ _)) }
         have hs4 := hg1.size
         have hab4 : ab < w4.heap.size := Nat.lt_of_lt_of_le (lt_alloc _ _ (lt_alloc w3 _ hab)) hg1.size
         have hv1 := new_block_ne hl1 hv2 (lt_alloc _ _ (lt_alloc w3 _ hab))
         have c1' : w4.cell? ⟨ab, 1, none⟩ = some (.int .i64 n) := keep1 hg1 (lt_alloc _ _ (lt_alloc w3 _ hab)) ((World.cell?_alloc_lt _ _ ⟨ab, 1, none⟩ (lt_alloc w3 _ hab)).trans ((World.cell?_alloc_lt w3 _ ⟨ab, 1, none⟩ hab).trans hc)) hv2
         have hnb : w4.heap[w3.heap.size]? = some (.cells #[.int .i64 y, .int .i64 n] 44 (0, 0)) := (hg1.block w3.heap.size (by simp; omega) (by simp [Value.ownBlock])).trans ((Below.heap_alloc _ _ _ (by simp)).trans (heap_alloc_new w3 _)))
      | (have _t := tk1
         refine step_append_src _ rfl (.tmp 111) (.tmp 116) 40 rfl w0.heap.size 44 i4 _ 2 16 Try.underlying40 hi4 hq0 hq1 hq2 hq3 hq4 (.slice A1 R.length k1) R.length (cellsP R) rfl (hn1.alloc _) (some ⟨w4.heap.size, 0, none⟩) 1 1 [.int .i64 y, .int .i64 n] rfl (by rfl) (fun _ => ⟨_, rfl, World.news_of_block (cs := #[.int .i64 y, .int .i64 n]) (t := 44) (fr := (0, 0)) (heap_alloc_new w4 _)⟩) Hone.out HN2.out.1 HN2.out.2 hbase2 ?_
         intro v2 w5 hn2 hg2 hl2
         have hm5 : Moves (fun _ => False) w3 w5 := by { first | exact Moves.onto (hm4.alloc _) hg2 hlow | exact Moves.onto (hm4.alloc _).drew hg2 hlow }
         have c1' : w5.cell? ⟨ab, 1, none⟩ = some (.int .i64 n) := keep1 hg2 (lt_alloc w4 _ hab4) ((World.cell?_alloc_lt w4 _ ⟨ab, 1, none⟩ hab4).trans c1') hv1)
      | (have _t := tk2
         refine step_append_src _ rfl (.tmp 111) (.tmp 116) 40 rfl w0.heap.size 44 i4 _ 2 16 Try.underlying40 hi4 hq0 hq1 hq2 hq3 hq4 (.slice A1 R.length k1) R.length (cellsP R) rfl hn1 (some ⟨w3.heap.size + 1, 0, none⟩) 1 1 [.int .i64 y, .int .i64 n] rfl (by rfl) (fun _ => ⟨_, rfl, World.news_of_block (cs := #[.int .i64 y, .int .i64 n]) (t := 44) (fr := (0, 0)) hnb⟩) Hone.out HN2.out.1 HN2.out.2 (Nat.le_trans hbase3 hs4) ?_
         intro v2 w5 hn2 hg2 hl2
         have hm5 : Moves (fun _ => False) w3 w5 := by { first | exact Moves.onto hm4 hg2 hlow | exact Moves.onto hm4.drew hg2 hlow }
         have c1' : w5.cell? ⟨ab, 1, none⟩ = some (.int .i64 n) := keep1 hg2 hab4 c1' hv1)
      | (have _t := tk3
         refine step_append_src _ rfl (.tmp 111) (.tmp 116) 40 rfl w0.heap.size 44 i4 _ 2 16 Try.underlying40 hi4 hq0 hq1 hq2 hq3 hq4 (.slice A1 R.length k1) R.length (cellsP R) rfl hn1 (some ⟨w3.heap.size, 0, none⟩) 1 1 [.int .i64 y, .int .i64 n] rfl (by rfl) (fun _ => ⟨_, rfl, World.news_of_block (cs := #[.int .i64 y, .int .i64 n]) (t := 44) (fr := (0, 0)) hnb⟩) Hone.out HN2.out.1 HN2.out.2 (Nat.le_trans hbase4 hs4) ?_
         intro v2 w5 hn2 hg2 hl2
         have hm5 : Moves (fun _ => False) w3 w5 := by { first | exact Moves.onto hm4 hg2 hlow | exact Moves.onto hm4.drew hg2 hlow }
         have c1' : w5.cell? ⟨ab, 1, none⟩ = some (.int .i64 n) := keep1 hg2 hab4 c1' hv1)
      | fail)
  all_goals
    refine hQ _ _ _ _ _ _ _ _ _ v2 w5 ?_ hm5
    rw [List.length_append, cellsP_append]
    exact hn2
end Go.Proofs.Ytmennobdgfgjaaa

