/-
  KeySets' two regions that lay a new row: with one key behind, without one of its places.
-/
import Derived.Test.YtmennobdgfgjaaaKeyRefSort
namespace Go.Proofs.Ytmennobdgfgjaaa
open Go Go.RowKit Go.Maps Go.Sort Go.Proofs

noncomputable def sets24C (n : Nat) : Code := (Try.f8.body.bind (findReg n)).getD .skip
set_option maxRecDepth 100000 in
set_option maxHeartbeats 4000000 in
/-- The region that lays a row and one key into a new row. -/
theorem sets24 {code : Code} (hcode : sets24C 24 = code) {w3 : World} {base : Nat} {M : List Pr} {A3 : Option Addr} {q3 k xb : Nat} {x1 x2 : Int} {Q : Exit → Act → World → Prop} {c0 c1 c2 c3 c4 c5 c7 c8 c9 c11 c12 c13 c14 c15 c16 c17 c18 c19 c20 c21 c22 c23 c24 c25 c26 c27 c28 c29 c30 c31 c32 c33 c34 c35 c36 c37 c38 c39 c40 c41 c42 c43 c44 c45 c46 c47 c48 c49 c50 c51 c52 c53 c54 c55 c56 c57 c58 c59 c60 c61 c62 c63 c64 c65 c66 c67 c68 c69 c70 c71 c72 c73 c74 c75 c76 c77 c78 c79 c80 c81 c82 c83 c84 c85 c86 c87 c88 c89 c90 c91 c92 c93 c94 c95 c96 c97 c98 c99 c100 c101 c102 c103 c104 c105 c106 c107 c108 c109 c110 c111 c112 c113 c114 c115 c116 c117 c118 c119 c120 c121 c122 c123 c124 c125 c126 c127 c128 c129 c130 c131 c132 c133 c134 c135 c136 c137 c138 c139 c140 c141 c142 c143 c144 c145 c146 c147 c148 c149 c150 c151 c152 c153 c154 c155 c156 c157 c158 c159 c160 c161 : Value}
    (hown : w3.ownsRow base 52 2 (.slice A3 k q3) k (cellsP M)) (hkM : M.length = k) (hc3 : k ≤ q3) (hM : k ≤ 10000) (hc : w3.cell? ⟨xb, 0, none⟩ = some (.int .i64 x1) ∧ w3.cell? ⟨xb, 1, none⟩ = some (.int .i64 x2)) (hgl : xb < w3.heap.size)
    (hQ : ∀ (u77 u78 u79 u80 u81 u82 v6 : Value) (w' : World), w'.ownsRow w3.heap.size 52 2 v6 (k + 1) (cellsP (M.take k ++ [(x1, x2)])) → Moves (fun _ => False) w3 w' → Q .normal ⟨List.toArray (c0 :: c1 :: c2 :: c3 :: c4 :: c5 :: v6 :: c7 :: c8 :: c9 :: .pointer (some ⟨xb, 0, none⟩) :: c11 :: c12 :: c13 :: c14 :: c15 :: c16 :: c17 :: c18 :: c19 :: c20 :: c21 :: c22 :: c23 :: c24 :: c25 :: c26 :: c27 :: c28 :: c29 :: c30 :: c31 :: c32 :: c33 :: c34 :: c35 :: c36 :: c37 :: c38 :: c39 :: c40 :: c41 :: c42 :: c43 :: c44 :: c45 :: c46 :: c47 :: c48 :: c49 :: c50 :: c51 :: c52 :: c53 :: c54 :: c55 :: c56 :: c57 :: c58 :: c59 :: c60 :: c61 :: c62 :: c63 :: c64 :: c65 :: c66 :: c67 :: c68 :: c69 :: c70 :: c71 :: c72 :: c73 :: c74 :: c75 :: c76 :: u77 :: u78 :: u79 :: u80 :: u81 :: u82 :: c83 :: c84 :: c85 :: c86 :: c87 :: c88 :: c89 :: c90 :: c91 :: c92 :: c93 :: c94 :: c95 :: c96 :: c97 :: c98 :: c99 :: c100 :: c101 :: c102 :: c103 :: c104 :: c105 :: c106 :: c107 :: c108 :: c109 :: c110 :: c111 :: c112 :: c113 :: c114 :: c115 :: c116 :: c117 :: c118 :: c119 :: c120 :: c121 :: c122 :: c123 :: c124 :: c125 :: c126 :: c127 :: c128 :: c129 :: c130 :: c131 :: c132 :: c133 :: c134 :: c135 :: c136 :: c137 :: c138 :: c139 :: c140 :: c141 :: c142 :: c143 :: c144 :: c145 :: c146 :: c147 :: c148 :: c149 :: c150 :: c151 :: c152 :: c153 :: c154 :: c155 :: c156 :: c157 :: c158 :: c159 :: c160 :: c161 :: []), []⟩ w') :
    Code.wp Try.prog code Q ⟨List.toArray (c0 :: c1 :: c2 :: c3 :: c4 :: c5 :: .slice A3 k q3 :: c7 :: c8 :: c9 :: .pointer (some ⟨xb, 0, none⟩) :: c11 :: c12 :: c13 :: c14 :: c15 :: c16 :: c17 :: c18 :: c19 :: c20 :: c21 :: c22 :: c23 :: c24 :: c25 :: c26 :: c27 :: c28 :: c29 :: c30 :: c31 :: c32 :: c33 :: c34 :: c35 :: c36 :: c37 :: c38 :: c39 :: c40 :: c41 :: c42 :: c43 :: c44 :: c45 :: c46 :: c47 :: c48 :: c49 :: c50 :: c51 :: c52 :: c53 :: c54 :: c55 :: c56 :: c57 :: c58 :: c59 :: c60 :: c61 :: c62 :: c63 :: c64 :: c65 :: c66 :: c67 :: c68 :: c69 :: c70 :: c71 :: c72 :: c73 :: c74 :: c75 :: c76 :: c77 :: c78 :: c79 :: c80 :: c81 :: c82 :: c83 :: c84 :: c85 :: c86 :: c87 :: c88 :: c89 :: c90 :: c91 :: c92 :: c93 :: c94 :: c95 :: c96 :: c97 :: c98 :: c99 :: c100 :: c101 :: c102 :: c103 :: c104 :: c105 :: c106 :: c107 :: c108 :: c109 :: c110 :: c111 :: c112 :: c113 :: c114 :: c115 :: c116 :: c117 :: c118 :: c119 :: c120 :: c121 :: c122 :: c123 :: c124 :: c125 :: c126 :: c127 :: c128 :: c129 :: c130 :: c131 :: c132 :: c133 :: c134 :: c135 :: c136 :: c137 :: c138 :: c139 :: c140 :: c141 :: c142 :: c143 :: c144 :: c145 :: c146 :: c147 :: c148 :: c149 :: c150 :: c151 :: c152 :: c153 :: c154 :: c155 :: c156 :: c157 :: c158 :: c159 :: c160 :: c161 :: []), []⟩ w3 := by
  subst hcode
  conv => arg 2; whnf
  have hk : k ≤ k := Nat.le_refl k
  have hsrc := src_of_own hown rfl
  obtain ⟨i4, hi4, hq0, hq1, hq2⟩ := info_parts infoR
  have hq3 : (Value.agg #[.int .i64 0, .int .i64 0]).cells.size = 2 := rfl
  have hq4 : (0 : Nat) < 2 := by decide
  have HTL : (M.take k).length = k := by simp; omega
  have HP := Lib.hid (show (cellsP (M.take k)).length = k * 2 by rw [cellsP_len, HTL])
  have H1 := Lib.hid (cellsP_one (M.take k))
  have HN1 : Hid (0 + k ≤ maxLen ∧ (0 + k) * 16 ≤ 140737488355328) := by
    show _ ∧ _
    unfold maxLen
    omega
  have HN2 : Hid (k + 1 ≤ maxLen ∧ (k + 1) * 16 ≤ 140737488355328) := by
    show _ ∧ _
    unfold maxLen
    omega
  have hone : ∀ u ∈ [Value.int .i64 x1, Value.int .i64 x2], u.oneCell' = true := by simp [Value.oneCell']
  have Hone := Lib.hid hone
  have HC := Lib.hid hc
  have b0 : (0 : Int) ≤ (k : Int) := by omega
  have b1 : (k : Int) ≤ (q3 : Int) := by omega
  have hAc : A3 = none → k = 0 ∧ q3 = 0 := fun e => by
    obtain ⟨A, c, hv, _, _, h0, _⟩ := own_form hown
    cases hv
    have := h0 e
    omega
  have hA3 : (A3 = none ∧ k = 0 ∧ q3 = 0) ∨ ∃ g3, A3 = some ⟨g3, 0, none⟩ := by
    obtain ⟨A, c, hv, _, _, _, h1, _⟩ := own_form hown
    cases hv
    cases A3 with
    | none => exact .inl ⟨rfl, hAc rfl⟩
    | some a => exact .inr ⟨a.block, congrArg some (h1 a rfl).1⟩
  have HS0 : Hid (KP w3 w3 ∧ w3.cell? ⟨xb, 0, none⟩ = some (.int .i64 x1) ∧ w3.cell? ⟨xb, 1, none⟩ = some (.int .i64 x2)) := Lib.hid ⟨KP.of (Moves.refl _ _), hc⟩
  have HAL : Hid (∀ W ob, (KP w3 W ∧ W.cell? ⟨xb, 0, none⟩ = some (.int .i64 x1) ∧ W.cell? ⟨xb, 1, none⟩ = some (.int .i64 x2)) → KP w3 (W.alloc ob).drew ∧ (W.alloc ob).drew.cell? ⟨xb, 0, none⟩ = some (.int .i64 x1) ∧ (W.alloc ob).drew.cell? ⟨xb, 1, none⟩ = some (.int .i64 x2)) := Lib.hid (fun W ob h =>
    have hl := Nat.lt_of_lt_of_le hgl h.1.moves.size
    ⟨KP.of (h.1.moves.alloc ob).drew, (World.cell?_alloc_lt W ob ⟨xb, 0, none⟩ hl).trans h.2.1, (World.cell?_alloc_lt W ob ⟨xb, 1, none⟩ hl).trans h.2.2⟩)
  clear hone hc hAc
  clear hA3
  go_region_held3 (fun w' => KP w3 w' ∧ w'.cell? ⟨xb, 0, none⟩ = some (.int .i64 x1) ∧ w'.cell? ⟨xb, 1, none⟩ = some (.int .i64 x2))
    (first | exact hS' | exact HAL.out _ _ (by assumption) | exact HS0.out | go_keep)
    (first
      | (refine step_append_src _ rfl (.tmp 77) (.tmp 78) 63 rfl w3.heap.size 52 i4 _ 2 16 Try.underlying63 hi4 hq0 hq1 hq2 hq3 hq4 (.slice (some ⟨w3.heap.size, 0, none⟩) 0 0) 0 [] rfl (own_empty w3 _ _ _ (Nat.le_refl _)) _ _ _ (cellsP (M.take k)) rfl HP.out ((src_take hk hsrc).alloc _) H1.out HN1.out.1 HN1.out.2 (le_alloc _ _ (Nat.le_refl _)) ?_
         intro v1 w4 hn1 hg1 hl1
         simp only [Nat.zero_add, List.nil_append] at hn1
         obtain ⟨A1, k1, rfl, -, -, -, -, -⟩ := own_form hn1
         have tk1 : True := trivial
         have hm4 : Moves (fun _ => False) w3 w4 := by { first | exact Moves.onto ((Moves.refl _ w3).alloc _) hg1 (low_sl (w3.heap.size) 0 0 (by omega)) | exact Moves.onto ((Moves.refl _ w3).alloc _).drew hg1 (low_sl (w3.heap.size) 0 0 (by omega)) }
         have hlow := fun b hb => (hn1.lt b hb).1
         have hS' : KP w3 w4 ∧ w4.cell? ⟨xb, 0, none⟩ = some (.int .i64 x1) ∧ w4.cell? ⟨xb, 1, none⟩ = some (.int .i64 x2) := ⟨KP.of hm4, (hm4.cell (p := ⟨xb, 0, none⟩) hgl (fun h => h)).trans HC.out.1, (hm4.cell (p := ⟨xb, 1, none⟩) hgl (fun h => h)).trans HC.out.2⟩
         have hbase2 : w3.heap.size ≤ (w4.alloc (.cells #[.int .i64 x1, .int .i64 x2] 52)).heap.size := le_alloc _ _ hm4.size)
      | (refine step_append_src _ rfl (.tmp 77) (.tmp 78) 63 rfl w3.heap.size 52 i4 _ 2 16 Try.underlying63 hi4 hq0 hq1 hq2 hq3 hq4 (.slice (some ⟨w3.heap.size, 0, none⟩) 0 0) 0 [] rfl ((own_empty w3 _ _ _ (Nat.le_refl _)).alloc _) _ _ _ (cellsP (M.take k)) rfl HP.out (((src_take hk hsrc).alloc _).alloc _) H1.out HN1.out.1 HN1.out.2 (le_alloc _ _ (le_alloc _ _ (Nat.le_refl _))) ?_
         intro v1 w4 hn1 hg1 hl1
         simp only [Nat.zero_add, List.nil_append] at hn1
         obtain ⟨A1, k1, rfl, -, -, -, -, -⟩ := own_form hn1
         have tk2 : True := trivial
         have hm4 : Moves (fun _ => False) w3 w4 := by { first | exact Moves.onto (((Moves.refl _ w3).alloc _).alloc _) hg1 (low_sl (w3.heap.size) 0 0 (by omega)) | exact Moves.onto (((Moves.refl _ w3).alloc _).alloc _).drew hg1 (low_sl (w3.heap.size) 0 0 (by omega)) }
         have hlow := fun b hb => (hn1.lt b hb).1
         have hS' : KP w3 w4 ∧ w4.cell? ⟨xb, 0, none⟩ = some (.int .i64 x1) ∧ w4.cell? ⟨xb, 1, none⟩ = some (.int .i64 x2) := ⟨KP.of hm4, (hm4.cell (p := ⟨xb, 0, none⟩) hgl (fun h => h)).trans HC.out.1, (hm4.cell (p := ⟨xb, 1, none⟩) hgl (fun h => h)).trans HC.out.2⟩
         have hnb : w4.heap[w3.heap.size + 1]? = some (.cells #[.int .i64 x1, .int .i64 x2] 52 (0, 0)) := (hg1.block (w3.heap.size + 1) (by simp) (by simp [Value.ownBlock])).trans (blk2 w3 _ _))
      | (refine step_append_src _ rfl (.tmp 77) (.tmp 78) 63 rfl w3.heap.size 52 i4 _ 2 16 Try.underlying63 hi4 hq0 hq1 hq2 hq3 hq4 (.slice (some ⟨w3.heap.size + 1, 0, none⟩) 0 0) 0 [] rfl (own_emptyS (w3.alloc (.cells #[.int .i64 x1, .int .i64 x2] 52)) _ _ _ (le_alloc _ _ (Nat.le_refl _)) (by simp)) _ _ _ (cellsP (M.take k)) rfl HP.out (((src_take hk hsrc).alloc _).alloc _) H1.out HN1.out.1 HN1.out.2 (le_alloc _ _ (le_alloc _ _ (Nat.le_refl _))) ?_
         intro v1 w4 hn1 hg1 hl1
         simp only [Nat.zero_add, List.nil_append] at hn1
         obtain ⟨A1, k1, rfl, -, -, -, -, -⟩ := own_form hn1
         have tk3 : True := trivial
         have hm4 : Moves (fun _ => False) w3 w4 := by { first | exact Moves.onto (((Moves.refl _ w3).alloc _).alloc _) hg1 (low_sl (w3.heap.size + 1) 0 0 (by omega)) | exact Moves.onto (((Moves.refl _ w3).alloc _).alloc _).drew hg1 (low_sl (w3.heap.size + 1) 0 0 (by omega)) }
         have hlow := fun b hb => (hn1.lt b hb).1
         have hS' : KP w3 w4 ∧ w4.cell? ⟨xb, 0, none⟩ = some (.int .i64 x1) ∧ w4.cell? ⟨xb, 1, none⟩ = some (.int .i64 x2) := ⟨KP.of hm4, (hm4.cell (p := ⟨xb, 0, none⟩) hgl (fun h => h)).trans HC.out.1, (hm4.cell (p := ⟨xb, 1, none⟩) hgl (fun h => h)).trans HC.out.2⟩
         have hnb : w4.heap[w3.heap.size]? = some (.cells #[.int .i64 x1, .int .i64 x2] 52 (0, 0)) := (hg1.block w3.heap.size (by simp; omega) (by simp [Value.ownBlock])).trans ((Below.heap_alloc _ _ _ (by simp)).trans (heap_alloc_new w3 _)))
      | (have _t := tk1
         go_must (
         refine step_append_src _ rfl (.tmp 79) (.tmp 81) 63 rfl w3.heap.size 52 i4 _ 2 16 Try.underlying63 hi4 hq0 hq1 hq2 hq3 hq4 (.slice A1 k k1) k (cellsP (M.take k)) rfl (hn1.alloc _) (some ⟨w4.heap.size, 0, none⟩) 1 1 [.int .i64 x1, .int .i64 x2] rfl (by rfl) (fun _ => ⟨_, rfl, World.news_of_block (cs := #[.int .i64 x1, .int .i64 x2]) (t := 52) (fr := (0, 0)) (heap_alloc_new w4 _)⟩) Hone.out HN2.out.1 HN2.out.2 hbase2 ?_
         intro v2 w5 hn2 hg2 hl2
         have hm5 : Moves (fun _ => False) w3 w5 := by { first | exact Moves.onto (hm4.alloc _) hg2 hlow | exact Moves.onto ((hm4.alloc _)).drew hg2 hlow }
         have hS' : KP w3 w5 ∧ w5.cell? ⟨xb, 0, none⟩ = some (.int .i64 x1) ∧ w5.cell? ⟨xb, 1, none⟩ = some (.int .i64 x2) := ⟨KP.of hm5, (hm5.cell (p := ⟨xb, 0, none⟩) hgl (fun h => h)).trans HC.out.1, (hm5.cell (p := ⟨xb, 1, none⟩) hgl (fun h => h)).trans HC.out.2⟩))
      | (have _t := tk2
         go_must (
         refine step_append_src _ rfl (.tmp 79) (.tmp 81) 63 rfl w3.heap.size 52 i4 _ 2 16 Try.underlying63 hi4 hq0 hq1 hq2 hq3 hq4 (.slice A1 k k1) k (cellsP (M.take k)) rfl hn1 (some ⟨w3.heap.size + 1, 0, none⟩) 1 1 [.int .i64 x1, .int .i64 x2] rfl (by rfl) (fun _ => ⟨_, rfl, World.news_of_block (cs := #[.int .i64 x1, .int .i64 x2]) (t := 52) (fr := (0, 0)) hnb⟩) Hone.out HN2.out.1 HN2.out.2 hm4.size ?_
         intro v2 w5 hn2 hg2 hl2
         have hm5 : Moves (fun _ => False) w3 w5 := by { first | exact Moves.onto hm4 hg2 hlow | exact Moves.onto (hm4).drew hg2 hlow }
         have hS' : KP w3 w5 ∧ w5.cell? ⟨xb, 0, none⟩ = some (.int .i64 x1) ∧ w5.cell? ⟨xb, 1, none⟩ = some (.int .i64 x2) := ⟨KP.of hm5, (hm5.cell (p := ⟨xb, 0, none⟩) hgl (fun h => h)).trans HC.out.1, (hm5.cell (p := ⟨xb, 1, none⟩) hgl (fun h => h)).trans HC.out.2⟩))
      | (have _t := tk3
         go_must (
         refine step_append_src _ rfl (.tmp 79) (.tmp 81) 63 rfl w3.heap.size 52 i4 _ 2 16 Try.underlying63 hi4 hq0 hq1 hq2 hq3 hq4 (.slice A1 k k1) k (cellsP (M.take k)) rfl hn1 (some ⟨w3.heap.size, 0, none⟩) 1 1 [.int .i64 x1, .int .i64 x2] rfl (by rfl) (fun _ => ⟨_, rfl, World.news_of_block (cs := #[.int .i64 x1, .int .i64 x2]) (t := 52) (fr := (0, 0)) hnb⟩) Hone.out HN2.out.1 HN2.out.2 hm4.size ?_
         intro v2 w5 hn2 hg2 hl2
         have hm5 : Moves (fun _ => False) w3 w5 := by { first | exact Moves.onto hm4 hg2 hlow | exact Moves.onto (hm4).drew hg2 hlow }
         have hS' : KP w3 w5 ∧ w5.cell? ⟨xb, 0, none⟩ = some (.int .i64 x1) ∧ w5.cell? ⟨xb, 1, none⟩ = some (.int .i64 x2) := ⟨KP.of hm5, (hm5.cell (p := ⟨xb, 0, none⟩) hgl (fun h => h)).trans HC.out.1, (hm5.cell (p := ⟨xb, 1, none⟩) hgl (fun h => h)).trans HC.out.2⟩))
      | fail)
  all_goals
    refine hQ _ _ _ _ _ _ v2 w5 ?_ hm5
    rw [cellsP_append]
    exact hn2

noncomputable def sets27C (n : Nat) : Code := (Try.f8.body.bind (findReg n)).getD .skip
set_option maxRecDepth 100000 in
set_option maxHeartbeats 4000000 in
/-- The region that lays a row without one of its places. -/
theorem sets27 {code : Code} (hcode : sets27C 27 = code) {w3 : World} {base : Nat} {M : List Pr} {q3 h g3 : Nat} {Q : Exit → Act → World → Prop} {c0 c1 c2 c3 c4 c5 c7 c8 c9 c10 c12 c13 c14 c15 c16 c17 c18 c19 c20 c21 c22 c23 c24 c25 c26 c27 c28 c29 c30 c31 c32 c33 c34 c35 c36 c37 c38 c39 c40 c41 c42 c43 c44 c45 c46 c47 c48 c49 c50 c51 c52 c53 c54 c55 c56 c57 c58 c59 c60 c61 c62 c63 c64 c65 c66 c67 c68 c69 c70 c71 c72 c73 c74 c75 c76 c77 c78 c79 c80 c81 c82 c83 c84 c85 c86 c87 c88 c89 c90 c91 c92 c93 c94 c95 c96 c97 c98 c99 c100 c101 c102 c103 c104 c105 c106 c107 c108 c109 c110 c111 c112 c113 c114 c115 c116 c117 c118 c119 c120 c121 c122 c123 c124 c125 c126 c127 c128 c129 c130 c131 c132 c133 c134 c135 c136 c137 c138 c139 c140 c141 c142 c143 c144 c145 c146 c147 c148 c149 c150 c151 c152 c153 c154 c155 c156 c157 c158 c159 c160 c161 : Value}
    (hown : w3.ownsRow base 52 2 (.slice (some ⟨g3, 0, none⟩) M.length q3) M.length (cellsP M)) (hh : h < M.length) (hc3 : M.length ≤ q3) (hM : M.length ≤ 10000)
    (hQ : ∀ (u95 u96 u97 u98 u99 u100 u101 u102 u103 u104 v6 : Value) (w' : World), w'.ownsRow w3.heap.size 52 2 v6 (h + (M.length - (h + 1))) (cellsP (M.take h ++ M.drop (h + 1))) → Moves (fun _ => False) w3 w' → Q .normal ⟨List.toArray (c0 :: c1 :: c2 :: c3 :: c4 :: c5 :: v6 :: c7 :: c8 :: c9 :: c10 :: .int .i64 h :: c12 :: c13 :: c14 :: c15 :: c16 :: c17 :: c18 :: c19 :: c20 :: c21 :: c22 :: c23 :: c24 :: c25 :: c26 :: c27 :: c28 :: c29 :: c30 :: c31 :: c32 :: c33 :: c34 :: c35 :: c36 :: c37 :: c38 :: c39 :: c40 :: c41 :: c42 :: c43 :: c44 :: c45 :: c46 :: c47 :: c48 :: c49 :: c50 :: c51 :: c52 :: c53 :: c54 :: c55 :: c56 :: c57 :: c58 :: c59 :: c60 :: c61 :: c62 :: c63 :: c64 :: c65 :: c66 :: c67 :: c68 :: c69 :: c70 :: c71 :: c72 :: c73 :: c74 :: c75 :: c76 :: c77 :: c78 :: c79 :: c80 :: c81 :: c82 :: c83 :: c84 :: c85 :: c86 :: c87 :: c88 :: c89 :: c90 :: c91 :: c92 :: c93 :: c94 :: u95 :: u96 :: u97 :: u98 :: u99 :: u100 :: u101 :: u102 :: u103 :: u104 :: c105 :: c106 :: c107 :: c108 :: c109 :: c110 :: c111 :: c112 :: c113 :: c114 :: c115 :: c116 :: c117 :: c118 :: c119 :: c120 :: c121 :: c122 :: c123 :: c124 :: c125 :: c126 :: c127 :: c128 :: c129 :: c130 :: c131 :: c132 :: c133 :: c134 :: c135 :: c136 :: c137 :: c138 :: c139 :: c140 :: c141 :: c142 :: c143 :: c144 :: c145 :: c146 :: c147 :: c148 :: c149 :: c150 :: c151 :: c152 :: c153 :: c154 :: c155 :: c156 :: c157 :: c158 :: c159 :: c160 :: c161 :: []), []⟩ w') :
    Code.wp Try.prog code Q ⟨List.toArray (c0 :: c1 :: c2 :: c3 :: c4 :: c5 :: .slice (some ⟨g3, 0, none⟩) M.length q3 :: c7 :: c8 :: c9 :: c10 :: .int .i64 h :: c12 :: c13 :: c14 :: c15 :: c16 :: c17 :: c18 :: c19 :: c20 :: c21 :: c22 :: c23 :: c24 :: c25 :: c26 :: c27 :: c28 :: c29 :: c30 :: c31 :: c32 :: c33 :: c34 :: c35 :: c36 :: c37 :: c38 :: c39 :: c40 :: c41 :: c42 :: c43 :: c44 :: c45 :: c46 :: c47 :: c48 :: c49 :: c50 :: c51 :: c52 :: c53 :: c54 :: c55 :: c56 :: c57 :: c58 :: c59 :: c60 :: c61 :: c62 :: c63 :: c64 :: c65 :: c66 :: c67 :: c68 :: c69 :: c70 :: c71 :: c72 :: c73 :: c74 :: c75 :: c76 :: c77 :: c78 :: c79 :: c80 :: c81 :: c82 :: c83 :: c84 :: c85 :: c86 :: c87 :: c88 :: c89 :: c90 :: c91 :: c92 :: c93 :: c94 :: c95 :: c96 :: c97 :: c98 :: c99 :: c100 :: c101 :: c102 :: c103 :: c104 :: c105 :: c106 :: c107 :: c108 :: c109 :: c110 :: c111 :: c112 :: c113 :: c114 :: c115 :: c116 :: c117 :: c118 :: c119 :: c120 :: c121 :: c122 :: c123 :: c124 :: c125 :: c126 :: c127 :: c128 :: c129 :: c130 :: c131 :: c132 :: c133 :: c134 :: c135 :: c136 :: c137 :: c138 :: c139 :: c140 :: c141 :: c142 :: c143 :: c144 :: c145 :: c146 :: c147 :: c148 :: c149 :: c150 :: c151 :: c152 :: c153 :: c154 :: c155 :: c156 :: c157 :: c158 :: c159 :: c160 :: c161 :: []), []⟩ w3 := by
  subst hcode
  conv => arg 2; whnf
  have hsrc := src_of_own hown rfl
  obtain ⟨i4, hi4, hq0, hq1, hq2⟩ := info_parts infoR
  have hq3 : (Value.agg #[.int .i64 0, .int .i64 0]).cells.size = 2 := rfl
  have hq4 : (0 : Nat) < 2 := by decide
  have HP1 := Lib.hid (show (cellsP (M.take h)).length = h * 2 by rw [cellsP_len]; simp; omega)
  have HO1 := Lib.hid (cellsP_one (M.take h))
  have HP2 := Lib.hid (show (cellsP (M.drop (h + 1))).length = (M.length - (h + 1)) * 2 by rw [cellsP_len]; simp)
  have HO2 := Lib.hid (cellsP_one (M.drop (h + 1)))
  have HN1 : Hid (0 + h ≤ maxLen ∧ (0 + h) * 16 ≤ 140737488355328) := by
    show _ ∧ _
    unfold maxLen
    omega
  have HN2 : Hid (h + (M.length - (h + 1)) ≤ maxLen ∧ (h + (M.length - (h + 1))) * 16 ≤ 140737488355328) := by
    show _ ∧ _
    unfold maxLen
    omega
  have HOWN := Lib.hid hown
  have HC3 := Lib.hid hc3
  have b0 : (0 : Int) ≤ (h : Int) := by omega
  have b1 : (h : Int) ≤ (q3 : Int) := by omega
  have b2 : (h : Int) + 1 ≤ (M.length : Int) := by omega
  have b3 : (M.length : Int) ≤ (q3 : Int) := by omega
  have b4 : IntKind.i64.wrap ((h : Int) + 1) = (h : Int) + 1 := IntWalk.i64_in _ (by omega)
  have b5 : (0 : Int) ≤ (h : Int) + 1 := by omega
  have hs1 := src_take (k := h) (by omega) hsrc
  clear hown hsrc
  go_region_held3 (fun _ => True) (trivial)
    (first
      | (have _t := tk1
         go_must (
         refine step_append_src _ rfl (.tmp 99) (.tmp 103) 63 rfl w3.heap.size 52 i4 _ 2 16 Try.underlying63 hi4 hq0 hq1 hq2 hq3 hq4 (.slice A1 h k1) h (cellsP (M.take h)) rfl hn1 (if q3 = h + 1 then some ⟨g3, 0, none⟩ else some ⟨g3, (h + 1) * 2, none⟩) (M.length - (h + 1)) (q3 - (h + 1)) (cellsP (M.drop (h + 1))) rfl HP2.out (src_drop (own_moves HOWN.out hm4 (fun _ _ h => h)) HC3.out) HO2.out HN2.out.1 HN2.out.2 hm4.size ?_
         intro v2 w5 hn2 hg2 hl2
         have hm5 : Moves (fun _ => False) w3 w5 := by { first | exact Moves.onto hm4 hg2 hlow | exact Moves.onto hm4.drew hg2 hlow }))
      | (go_must (
         refine step_append_src _ rfl (.tmp 95) (.tmp 98) 63 rfl w3.heap.size 52 i4 _ 2 16 Try.underlying63 hi4 hq0 hq1 hq2 hq3 hq4 (.slice (some ⟨w3.heap.size, 0, none⟩) 0 0) 0 [] rfl (own_empty w3 _ _ _ (Nat.le_refl _)) (some ⟨g3, 0, none⟩) h q3 (cellsP (M.take h)) rfl HP1.out (hs1.alloc _) HO1.out HN1.out.1 HN1.out.2 (le_alloc _ _ (Nat.le_refl _)) ?_
         intro v1 w4 hn1 hg1 hl1
         simp only [Nat.zero_add, List.nil_append] at hn1
         obtain ⟨A1, k1, rfl, -, -, -, -, -⟩ := own_form hn1
         have hlow := fun b hb => (hn1.lt b hb).1
         have hm4 : Moves (fun _ => False) w3 w4 := by { first | exact Moves.onto ((Moves.refl _ w3).alloc _) hg1 (low_sl _ 0 0 (Nat.le_refl _)) | exact Moves.onto (((Moves.refl _ w3).alloc _).drew) hg1 (low_sl _ 0 0 (Nat.le_refl _)) }
         have tk1 : True := trivial))
      | fail)
  all_goals
    refine hQ _ _ _ _ _ _ _ _ _ _ v2 w5 ?_ hm5
    rw [cellsP_append]
    exact hn2
end Go.Proofs.Ytmennobdgfgjaaa
