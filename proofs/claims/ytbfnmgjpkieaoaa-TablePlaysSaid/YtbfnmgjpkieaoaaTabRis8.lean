/-
  TablePlays: the statement's own 'rising': append(append([]graph.Root{}, out[:k]...), l[i]), whatever the order that its operations are carried out in.
-/
import Derived.Test.YtbfnmgjpkieaoaaTabAt
import Derived.Deep.RegionHeld3
import Derived.Deep.LoopGhost
namespace Go.Proofs.Ytbfnmgjpkieaoaa.Tb
open Go Go.RowKit Go.Maps Go.Sort Go.Proofs Go.Shelf

theorem cellsR_take : ∀ (l : List (ByteArray × Int)) (k : Nat), (cellsR l).take (k * 2) = cellsR (l.take k)
  | [], k => by simp [cellsR]
  | a :: l, 0 => rfl
  | a :: l, k + 1 => by
    show ([Value.string a.1, Value.int .i64 a.2] ++ cellsR l).take ((k + 1) * 2) = [Value.string a.1, Value.int .i64 a.2] ++ cellsR (l.take k)
    rw [← cellsR_take l k, show (k + 1) * 2 = k * 2 + 1 + 1 by omega]
    rfl
theorem cellsR_drop : ∀ (l : List (ByteArray × Int)) (k : Nat), (cellsR l).drop (k * 2) = cellsR (l.drop k)
  | [], k => by simp [cellsR]
  | a :: l, 0 => rfl
  | a :: l, k + 1 => by
    show ([Value.string a.1, Value.int .i64 a.2] ++ cellsR l).drop ((k + 1) * 2) = cellsR (l.drop k)
    rw [← cellsR_drop l k, show (k + 1) * 2 = k * 2 + 1 + 1 by omega]
    rfl
theorem cellsR_one (l : List (ByteArray × Int)) : ∀ v ∈ cellsR l, v.oneCell' = true := fun v hv => by
  obtain ⟨x, -, hx⟩ := List.mem_flatMap.1 hv
  simp at hx
  rcases hx with rfl | rfl <;> rfl
def KP (W w' : World) : Prop := w'.os = W.os ∧ w'.tape = W.tape ∧ w'.output = W.output ∧ W.heap.size ≤ w'.heap.size ∧ ∀ i, i < W.heap.size → w'.heap[i]? = W.heap[i]?
theorem KP.of {W w' : World} (h : Moves (fun _ => False) W w') : KP W w' := ⟨h.os, h.tape, h.output, h.size, fun i hi => h.block i hi (fun e => e)⟩
theorem KP.moves {W w' : World} (h : KP W w') : Moves (fun _ => False) W w' := ⟨h.1, h.2.1, h.2.2.1, h.2.2.2.1, fun i hi _ => h.2.2.2.2 i hi⟩
theorem le_alloc (w : World) (o : Obj) {b : Nat} (h : b ≤ w.heap.size) : b ≤ (w.alloc o).heap.size := by simp; omega
theorem own_emptyS (w : World) (e : TypeId) (size base : Nat) (hb : base ≤ w.heap.size) {b : Nat} (hs : w.heap.size = b) : (w.alloc (.cells #[] e)).ownsRow base e size (.slice (some ⟨b, 0, none⟩) 0 0) 0 [] := by
  subst hs
  exact World.ownsRow_made w #[] 0 hb (by unfold maxLen; omega) (by simp)
theorem own_empty (w : World) (e : TypeId) (size base : Nat) (hb : base ≤ w.heap.size) : (w.alloc (.cells #[] e)).ownsRow base e size (.slice (some ⟨w.heap.size, 0, none⟩) 0 0) 0 [] :=
  own_emptyS w e size base hb rfl
theorem blk2 (w : World) (o o' : Obj) : ((w.alloc o).alloc o').heap[w.heap.size + 1]? = some o' := by
  have := heap_alloc_new (w.alloc o) o'
  simpa using this
theorem Moves.onto {w W w' : World} {v : Value} (h : Moves (fun _ => False) w W) (hg : W.grownBy w' v.ownBlock) (hv : ∀ k, v.ownBlock = some k → w.heap.size ≤ k) : Moves (fun _ => False) w w' :=
  h.grown hg fun k e hk => absurd (hv k e) (by omega)
theorem low_sl {a : Nat} (b n c : Nat) (h : a ≤ b) : ∀ k, (Value.slice (some ⟨b, 0, none⟩) n c).ownBlock = some k → a ≤ k := fun k e => by
  have : b = k := by simpa [Value.ownBlock] using e
  omega
theorem take_get {α : Type} {l : List α} {n j : Nat} {u : α} (h : (l.take n)[j]? = some u) : l[j]? = some u := by
  rw [List.getElem?_take] at h
  split at h
  · exact h
  · cases h
theorem _root_.Go.Proofs.Ytbfnmgjpkieaoaa.Src.alloc {w : World} {A : Option Addr} {m : Nat} {xs : List Value} (h : Src w A m xs) (o : Obj) : Src (w.alloc o) A m xs := fun h0 => by
  obtain ⟨ad, hA, hc⟩ := h h0
  refine ⟨ad, hA, fun j u hu => ?_⟩
  have h1 := hc j u hu
  have hl : (ad.add j).block < w.heap.size := by
    unfold World.cell? at h1
    split at h1 <;> first | exact (Array.getElem?_eq_some_iff.1 (by assumption)).1 | cases h1 | simp_all
  exact (World.cell?_alloc_lt w _ _ hl).trans h1
theorem src_take {w : World} {A : Option Addr} {n k : Nat} {M : List (ByteArray × Int)} (hk : k ≤ n) (h : Src w A n (cellsR M)) : Src w A k (cellsR (M.take k)) := fun h0 => by
  obtain ⟨ad, hA, hc⟩ := h (by omega)
  exact ⟨ad, hA, fun j u hu => hc j u (take_get (by rw [← cellsR_take] at hu; exact hu))⟩


noncomputable def ris8C (n : Nat) : Code := (Try.f54.body.bind (findReg n)).getD .skip
set_option maxRecDepth 100000 in
set_option maxHeartbeats 4000000 in
/-- The region that lays a row's head and one root into a new row. -/
theorem ris8 {code : Code} (hcode : ris8C 8 = code) {w3 : World} {base : Nat} {M : List (ByteArray × Int)} {A3 : Option Addr} {q3 k i g o ln lc : Nat} {x1 : ByteArray} {x2 : Int} {Q : Exit → Act → World → Prop} {c1 c2 c6 c7 c8 c9 c10 c11 c12 c13 c14 c15 c16 c17 c18 c19 c20 c21 c22 c23 c24 c25 c26 c27 c28 c29 c30 c31 c32 c33 c34 c35 c36 c37 c38 c39 c40 c41 c42 c43 c44 c45 c46 c47 c48 c49 : Value}
    (hown : w3.ownsRow base 100 2 (.slice A3 M.length q3) M.length (cellsR M)) (hk : k ≤ M.length) (hc3 : M.length ≤ q3) (hM : M.length ≤ 10000) {s3 s5 : Value} (h3 : s3 = .slice A3 M.length q3) (h5 : s5 = .int .i64 k) (hin : i < ln) (hc : w3.cell? ⟨g, o + i * 2, none⟩ = some (.string x1) ∧ w3.cell? ⟨g, o + i * 2 + 1, none⟩ = some (.int .i64 x2)) (hgl : g < w3.heap.size)
    (hQ : ∀ (u33 u34 u35 u36 u37 u38 u39 u40 u41 u42 u43 v6 : Value) (w' : World), w'.ownsRow w3.heap.size 100 2 v6 (k + 1) (cellsR (M.take k ++ [(x1, x2)])) → Moves (fun _ => False) w3 w' → Q .normal ⟨List.toArray (.slice (some ⟨g, o, none⟩) ln lc :: c1 :: c2 :: s3 :: .int .i64 i :: s5 :: v6 :: c7 :: c8 :: c9 :: c10 :: c11 :: c12 :: c13 :: c14 :: c15 :: c16 :: c17 :: c18 :: c19 :: c20 :: c21 :: c22 :: c23 :: c24 :: c25 :: c26 :: c27 :: c28 :: c29 :: c30 :: c31 :: c32 :: u33 :: u34 :: u35 :: u36 :: u37 :: u38 :: u39 :: u40 :: u41 :: u42 :: u43 :: c44 :: c45 :: c46 :: c47 :: c48 :: c49 :: []), []⟩ w') :
    Code.wp Try.prog code Q ⟨List.toArray (.slice (some ⟨g, o, none⟩) ln lc :: c1 :: c2 :: s3 :: .int .i64 i :: s5 :: c6 :: c7 :: c8 :: c9 :: c10 :: c11 :: c12 :: c13 :: c14 :: c15 :: c16 :: c17 :: c18 :: c19 :: c20 :: c21 :: c22 :: c23 :: c24 :: c25 :: c26 :: c27 :: c28 :: c29 :: c30 :: c31 :: c32 :: c33 :: c34 :: c35 :: c36 :: c37 :: c38 :: c39 :: c40 :: c41 :: c42 :: c43 :: c44 :: c45 :: c46 :: c47 :: c48 :: c49 :: []), []⟩ w3 := by
  subst hcode
  conv => arg 2; whnf
  subst h3 h5
  have hsrc := src_of_own hown rfl
  obtain ⟨i4, hi4, hq0, hq1, hq2⟩ := info_parts infoR
  have hq3 : (Value.agg #[.string ByteArray.empty, .int .i64 0]).cells.size = 2 := rfl
  have hq4 : (0 : Nat) < 2 := by decide
  have HTL : (M.take k).length = k := by simp; omega
  have HP := Lib.hid (show (cellsR (M.take k)).length = k * 2 by rw [cellsR_len, HTL])
  have H1 := Lib.hid (cellsR_one (M.take k))
  have HN1 : Hid (0 + k ≤ maxLen ∧ (0 + k) * 24 ≤ 140737488355328) := by
    show _ ∧ _
    unfold maxLen
    omega
  have HN2 : Hid (k + 1 ≤ maxLen ∧ (k + 1) * 24 ≤ 140737488355328) := by
    show _ ∧ _
    unfold maxLen
    omega
  have hone : ∀ u ∈ [Value.string x1, Value.int .i64 x2], u.oneCell' = true := by simp [Value.oneCell']
  have Hone := Lib.hid hone
  have HC := Lib.hid hc
  have b0 : (0 : Int) ≤ (k : Int) := by omega
  have b1 : (k : Int) ≤ (q3 : Int) := by omega
  have b2 : (0 : Int) ≤ (i : Int) := by omega
  have b3 : (i : Int) < (ln : Int) := by omega
  have hAc : A3 = none → k = 0 ∧ q3 = 0 := fun e => by
    obtain ⟨A, c, hv, _, _, h0, _⟩ := own_form hown
    cases hv
    have := h0 e
    omega
  have hA3 : (A3 = none ∧ k = 0 ∧ q3 = 0) ∨ ∃ g3, A3 = some ⟨g3, 0, none⟩ := by
    obtain ⟨A, c, hv, _, _, _, h1, _⟩ := own_form hown
    cases hv
    cases A3 with
    | none => exact .inl ⟨rfl, hAc rfl⟩
    | some a => exact .inr ⟨a.block, congrArg some (h1 a rfl).1⟩
  have HS0 : Hid (KP w3 w3 ∧ w3.cell? ⟨g, o + i * 2, none⟩ = some (.string x1) ∧ w3.cell? ⟨g, o + i * 2 + 1, none⟩ = some (.int .i64 x2)) := Lib.hid ⟨KP.of (Moves.refl _ _), hc⟩
  have HAL : Hid (∀ W ob, (KP w3 W ∧ W.cell? ⟨g, o + i * 2, none⟩ = some (.string x1) ∧ W.cell? ⟨g, o + i * 2 + 1, none⟩ = some (.int .i64 x2)) → KP w3 (W.alloc ob).drew ∧ (W.alloc ob).drew.cell? ⟨g, o + i * 2, none⟩ = some (.string x1) ∧ (W.alloc ob).drew.cell? ⟨g, o + i * 2 + 1, none⟩ = some (.int .i64 x2)) := Lib.hid (fun W ob h =>
    have hl := Nat.lt_of_lt_of_le hgl h.1.moves.size
    ⟨KP.of (h.1.moves.alloc ob).drew, (World.cell?_alloc_lt W ob ⟨g, o + i * 2, none⟩ hl).trans h.2.1, (World.cell?_alloc_lt W ob ⟨g, o + i * 2 + 1, none⟩ hl).trans h.2.2⟩)
  clear hone hc hAc
  rcases hA3 with ⟨rfl, rfl, rfl⟩ | ⟨g3, rfl⟩
  · go_region_held3 (fun w' => KP w3 w' ∧ w'.cell? ⟨g, o + i * 2, none⟩ = some (.string x1) ∧ w'.cell? ⟨g, o + i * 2 + 1, none⟩ = some (.int .i64 x2))
      (first | exact hS' | exact HAL.out _ _ (by assumption) | exact HS0.out | go_keep)
      (first
        | (refine step_append_src _ rfl (.tmp 33) (.tmp 36) 93 rfl w3.heap.size 100 i4 _ 2 24 Try.underlying93 hi4 hq0 hq1 hq2 hq3 hq4 (.slice (some ⟨w3.heap.size, 0, none⟩) 0 0) 0 [] rfl (own_empty w3 _ _ _ (Nat.le_refl _)) _ _ _ (cellsR (M.take 0)) rfl HP.out ((src_take hk hsrc).alloc _) H1.out HN1.out.1 HN1.out.2 (le_alloc _ _ (Nat.le_refl _)) ?_
           intro v1 w4 hn1 hg1 hl1
           simp only [Nat.zero_add, List.nil_append] at hn1
           obtain ⟨A1, k1, rfl, -, -, -, -, -⟩ := own_form hn1
           have tk1 : True := trivial
           have hm4 : Moves (fun _ => False) w3 w4 := by { first | exact Moves.onto ((Moves.refl _ w3).alloc _) hg1 (low_sl (w3.heap.size) 0 0 (by omega)) | exact Moves.onto ((Moves.refl _ w3).alloc _).drew hg1 (low_sl (w3.heap.size) 0 0 (by omega)) }
           have hlow := fun b hb => (hn1.lt b hb).1
           have hS' : KP w3 w4 ∧ w4.cell? ⟨g, o + i * 2, none⟩ = some (.string x1) ∧ w4.cell? ⟨g, o + i * 2 + 1, none⟩ = some (.int .i64 x2) := ⟨KP.of hm4, (hm4.cell (p := ⟨g, o + i * 2, none⟩) hgl (fun h => h)).trans HC.out.1, (hm4.cell (p := ⟨g, o + i * 2 + 1, none⟩) hgl (fun h => h)).trans HC.out.2⟩
           have hbase2 : w3.heap.size ≤ (w4.alloc (.cells #[.string x1, .int .i64 x2] 100)).heap.size := le_alloc _ _ hm4.size)
        | (refine step_append_src _ rfl (.tmp 33) (.tmp 36) 93 rfl w3.heap.size 100 i4 _ 2 24 Try.underlying93 hi4 hq0 hq1 hq2 hq3 hq4 (.slice (some ⟨w3.heap.size, 0, none⟩) 0 0) 0 [] rfl ((own_empty w3 _ _ _ (Nat.le_refl _)).alloc _) _ _ _ (cellsR (M.take 0)) rfl HP.out (((src_take hk hsrc).alloc _).alloc _) H1.out HN1.out.1 HN1.out.2 (le_alloc _ _ (le_alloc _ _ (Nat.le_refl _))) ?_
           intro v1 w4 hn1 hg1 hl1
           simp only [Nat.zero_add, List.nil_append] at hn1
           obtain ⟨A1, k1, rfl, -, -, -, -, -⟩ := own_form hn1
           have tk2 : True := trivial
           have hm4 : Moves (fun _ => False) w3 w4 := by { first | exact Moves.onto (((Moves.refl _ w3).alloc _).alloc _) hg1 (low_sl (w3.heap.size) 0 0 (by omega)) | exact Moves.onto (((Moves.refl _ w3).alloc _).alloc _).drew hg1 (low_sl (w3.heap.size) 0 0 (by omega)) }
           have hlow := fun b hb => (hn1.lt b hb).1
           have hS' : KP w3 w4 ∧ w4.cell? ⟨g, o + i * 2, none⟩ = some (.string x1) ∧ w4.cell? ⟨g, o + i * 2 + 1, none⟩ = some (.int .i64 x2) := ⟨KP.of hm4, (hm4.cell (p := ⟨g, o + i * 2, none⟩) hgl (fun h => h)).trans HC.out.1, (hm4.cell (p := ⟨g, o + i * 2 + 1, none⟩) hgl (fun h => h)).trans HC.out.2⟩
           have hnb : w4.heap[w3.heap.size + 1]? = some (.cells #[.string x1, .int .i64 x2] 100 (0, 0)) := (hg1.block (w3.heap.size + 1) (by simp) (by simp [Value.ownBlock])).trans (blk2 w3 _ _))
        | (refine step_append_src _ rfl (.tmp 33) (.tmp 36) 93 rfl w3.heap.size 100 i4 _ 2 24 Try.underlying93 hi4 hq0 hq1 hq2 hq3 hq4 (.slice (some ⟨w3.heap.size + 1, 0, none⟩) 0 0) 0 [] rfl (own_emptyS (w3.alloc (.cells #[.string x1, .int .i64 x2] 100)) _ _ _ (le_alloc _ _ (Nat.le_refl _)) (by simp)) _ _ _ (cellsR (M.take 0)) rfl HP.out (((src_take hk hsrc).alloc _).alloc _) H1.out HN1.out.1 HN1.out.2 (le_alloc _ _ (le_alloc _ _ (Nat.le_refl _))) ?_
           intro v1 w4 hn1 hg1 hl1
           simp only [Nat.zero_add, List.nil_append] at hn1
           obtain ⟨A1, k1, rfl, -, -, -, -, -⟩ := own_form hn1
           have tk3 : True := trivial
           have hm4 : Moves (fun _ => False) w3 w4 := by { first | exact Moves.onto (((Moves.refl _ w3).alloc _).alloc _) hg1 (low_sl (w3.heap.size + 1) 0 0 (by omega)) | exact Moves.onto (((Moves.refl _ w3).alloc _).alloc _).drew hg1 (low_sl (w3.heap.size + 1) 0 0 (by omega)) }
           have hlow := fun b hb => (hn1.lt b hb).1
           have hS' : KP w3 w4 ∧ w4.cell? ⟨g, o + i * 2, none⟩ = some (.string x1) ∧ w4.cell? ⟨g, o + i * 2 + 1, none⟩ = some (.int .i64 x2) := ⟨KP.of hm4, (hm4.cell (p := ⟨g, o + i * 2, none⟩) hgl (fun h => h)).trans HC.out.1, (hm4.cell (p := ⟨g, o + i * 2 + 1, none⟩) hgl (fun h => h)).trans HC.out.2⟩
           have hnb : w4.heap[w3.heap.size]? = some (.cells #[.string x1, .int .i64 x2] 100 (0, 0)) := (hg1.block w3.heap.size (by simp; omega) (by simp [Value.ownBlock])).trans ((Below.heap_alloc _ _ _ (by simp)).trans (heap_alloc_new w3 _)))
        | (have _t := tk1
           go_must (
           refine step_append_src _ rfl (.tmp 37) (.tmp 42) 93 rfl w3.heap.size 100 i4 _ 2 24 Try.underlying93 hi4 hq0 hq1 hq2 hq3 hq4 (.slice A1 0 k1) 0 (cellsR (M.take 0)) rfl (hn1.alloc _) (some ⟨w4.heap.size, 0, none⟩) 1 1 [.string x1, .int .i64 x2] rfl (by rfl) (fun _ => ⟨_, rfl, World.news_of_block (cs := #[.string x1, .int .i64 x2]) (t := 100) (fr := (0, 0)) (heap_alloc_new w4 _)⟩) Hone.out HN2.out.1 HN2.out.2 hbase2 ?_
           intro v2 w5 hn2 hg2 hl2
           have hm5 : Moves (fun _ => False) w3 w5 := by { first | exact Moves.onto (hm4.alloc _) hg2 hlow | exact Moves.onto ((hm4.alloc _)).drew hg2 hlow }
           have hS' : KP w3 w5 ∧ w5.cell? ⟨g, o + i * 2, none⟩ = some (.string x1) ∧ w5.cell? ⟨g, o + i * 2 + 1, none⟩ = some (.int .i64 x2) := ⟨KP.of hm5, (hm5.cell (p := ⟨g, o + i * 2, none⟩) hgl (fun h => h)).trans HC.out.1, (hm5.cell (p := ⟨g, o + i * 2 + 1, none⟩) hgl (fun h => h)).trans HC.out.2⟩))
        | (have _t := tk2
           go_must (
           refine step_append_src _ rfl (.tmp 37) (.tmp 42) 93 rfl w3.heap.size 100 i4 _ 2 24 Try.underlying93 hi4 hq0 hq1 hq2 hq3 hq4 (.slice A1 0 k1) 0 (cellsR (M.take 0)) rfl hn1 (some ⟨w3.heap.size + 1, 0, none⟩) 1 1 [.string x1, .int .i64 x2] rfl (by rfl) (fun _ => ⟨_, rfl, World.news_of_block (cs := #[.string x1, .int .i64 x2]) (t := 100) (fr := (0, 0)) hnb⟩) Hone.out HN2.out.1 HN2.out.2 hm4.size ?_
           intro v2 w5 hn2 hg2 hl2
           have hm5 : Moves (fun _ => False) w3 w5 := by { first | exact Moves.onto hm4 hg2 hlow | exact Moves.onto (hm4).drew hg2 hlow }
           have hS' : KP w3 w5 ∧ w5.cell? ⟨g, o + i * 2, none⟩ = some (.string x1) ∧ w5.cell? ⟨g, o + i * 2 + 1, none⟩ = some (.int .i64 x2) := ⟨KP.of hm5, (hm5.cell (p := ⟨g, o + i * 2, none⟩) hgl (fun h => h)).trans HC.out.1, (hm5.cell (p := ⟨g, o + i * 2 + 1, none⟩) hgl (fun h => h)).trans HC.out.2⟩))
        | (have _t := tk3
           go_must (
           refine step_append_src _ rfl (.tmp 37) (.tmp 42) 93 rfl w3.heap.size 100 i4 _ 2 24 Try.underlying93 hi4 hq0 hq1 hq2 hq3 hq4 (.slice A1 0 k1) 0 (cellsR (M.take 0)) rfl hn1 (some ⟨w3.heap.size, 0, none⟩) 1 1 [.string x1, .int .i64 x2] rfl (by rfl) (fun _ => ⟨_, rfl, World.news_of_block (cs := #[.string x1, .int .i64 x2]) (t := 100) (fr := (0, 0)) hnb⟩) Hone.out HN2.out.1 HN2.out.2 hm4.size ?_
           intro v2 w5 hn2 hg2 hl2
           have hm5 : Moves (fun _ => False) w3 w5 := by { first | exact Moves.onto hm4 hg2 hlow | exact Moves.onto (hm4).drew hg2 hlow }
           have hS' : KP w3 w5 ∧ w5.cell? ⟨g, o + i * 2, none⟩ = some (.string x1) ∧ w5.cell? ⟨g, o + i * 2 + 1, none⟩ = some (.int .i64 x2) := ⟨KP.of hm5, (hm5.cell (p := ⟨g, o + i * 2, none⟩) hgl (fun h => h)).trans HC.out.1, (hm5.cell (p := ⟨g, o + i * 2 + 1, none⟩) hgl (fun h => h)).trans HC.out.2⟩))
        | fail)
    all_goals
      refine hQ _ _ _ _ _ _ _ _ _ _ _ v2 w5 ?_ hm5
      rw [cellsR_append]
      exact hn2
  · go_region_held3 (fun w' => KP w3 w' ∧ w'.cell? ⟨g, o + i * 2, none⟩ = some (.string x1) ∧ w'.cell? ⟨g, o + i * 2 + 1, none⟩ = some (.int .i64 x2))
      (first | exact hS' | exact HAL.out _ _ (by assumption) | exact HS0.out | go_keep)
      (first
        | (refine step_append_src _ rfl (.tmp 33) (.tmp 36) 93 rfl w3.heap.size 100 i4 _ 2 24 Try.underlying93 hi4 hq0 hq1 hq2 hq3 hq4 (.slice (some ⟨w3.heap.size, 0, none⟩) 0 0) 0 [] rfl (own_empty w3 _ _ _ (Nat.le_refl _)) _ _ _ (cellsR (M.take k)) rfl HP.out ((src_take hk hsrc).alloc _) H1.out HN1.out.1 HN1.out.2 (le_alloc _ _ (Nat.le_refl _)) ?_
           intro v1 w4 hn1 hg1 hl1
           simp only [Nat.zero_add, List.nil_append] at hn1
           obtain ⟨A1, k1, rfl, -, -, -, -, -⟩ := own_form hn1
           have tk1 : True := trivial
           have hm4 : Moves (fun _ => False) w3 w4 := by { first | exact Moves.onto ((Moves.refl _ w3).alloc _) hg1 (low_sl (w3.heap.size) 0 0 (by omega)) | exact Moves.onto ((Moves.refl _ w3).alloc _).drew hg1 (low_sl (w3.heap.size) 0 0 (by omega)) }
           have hlow := fun b hb => (hn1.lt b hb).1
           have hS' : KP w3 w4 ∧ w4.cell? ⟨g, o + i * 2, none⟩ = some (.string x1) ∧ w4.cell? ⟨g, o + i * 2 + 1, none⟩ = some (.int .i64 x2) := ⟨KP.of hm4, (hm4.cell (p := ⟨g, o + i * 2, none⟩) hgl (fun h => h)).trans HC.out.1, (hm4.cell (p := ⟨g, o + i * 2 + 1, none⟩) hgl (fun h => h)).trans HC.out.2⟩
           have hbase2 : w3.heap.size ≤ (w4.alloc (.cells #[.string x1, .int .i64 x2] 100)).heap.size := le_alloc _ _ hm4.size)
        | (refine step_append_src _ rfl (.tmp 33) (.tmp 36) 93 rfl w3.heap.size 100 i4 _ 2 24 Try.underlying93 hi4 hq0 hq1 hq2 hq3 hq4 (.slice (some ⟨w3.heap.size, 0, none⟩) 0 0) 0 [] rfl ((own_empty w3 _ _ _ (Nat.le_refl _)).alloc _) _ _ _ (cellsR (M.take k)) rfl HP.out (((src_take hk hsrc).alloc _).alloc _) H1.out HN1.out.1 HN1.out.2 (le_alloc _ _ (le_alloc _ _ (Nat.le_refl _))) ?_
           intro v1 w4 hn1 hg1 hl1
           simp only [Nat.zero_add, List.nil_append] at hn1
           obtain ⟨A1, k1, rfl, -, -, -, -, -⟩ := own_form hn1
           have tk2 : True := trivial
           have hm4 : Moves (fun _ => False) w3 w4 := by { first | exact Moves.onto (((Moves.refl _ w3).alloc _).alloc _) hg1 (low_sl (w3.heap.size) 0 0 (by omega)) | exact Moves.onto (((Moves.refl _ w3).alloc _).alloc _).drew hg1 (low_sl (w3.heap.size) 0 0 (by omega)) }
           have hlow := fun b hb => (hn1.lt b hb).1
           have hS' : KP w3 w4 ∧ w4.cell? ⟨g, o + i * 2, none⟩ = some (.string x1) ∧ w4.cell? ⟨g, o + i * 2 + 1, none⟩ = some (.int .i64 x2) := ⟨KP.of hm4, (hm4.cell (p := ⟨g, o + i * 2, none⟩) hgl (fun h => h)).trans HC.out.1, (hm4.cell (p := ⟨g, o + i * 2 + 1, none⟩) hgl (fun h => h)).trans HC.out.2⟩
           have hnb : w4.heap[w3.heap.size + 1]? = some (.cells #[.string x1, .int .i64 x2] 100 (0, 0)) := (hg1.block (w3.heap.size + 1) (by simp) (by simp [Value.ownBlock])).trans (blk2 w3 _ _))
        | (refine step_append_src _ rfl (.tmp 33) (.tmp 36) 93 rfl w3.heap.size 100 i4 _ 2 24 Try.underlying93 hi4 hq0 hq1 hq2 hq3 hq4 (.slice (some ⟨w3.heap.size + 1, 0, none⟩) 0 0) 0 [] rfl (own_emptyS (w3.alloc (.cells #[.string x1, .int .i64 x2] 100)) _ _ _ (le_alloc _ _ (Nat.le_refl _)) (by simp)) _ _ _ (cellsR (M.take k)) rfl HP.out (((src_take hk hsrc).alloc _).alloc _) H1.out HN1.out.1 HN1.out.2 (le_alloc _ _ (le_alloc _ _ (Nat.le_refl _))) ?_
           intro v1 w4 hn1 hg1 hl1
           simp only [Nat.zero_add, List.nil_append] at hn1
           obtain ⟨A1, k1, rfl, -, -, -, -, -⟩ := own_form hn1
           have tk3 : True := trivial
           have hm4 : Moves (fun _ => False) w3 w4 := by { first | exact Moves.onto (((Moves.refl _ w3).alloc _).alloc _) hg1 (low_sl (w3.heap.size + 1) 0 0 (by omega)) | exact Moves.onto (((Moves.refl _ w3).alloc _).alloc _).drew hg1 (low_sl (w3.heap.size + 1) 0 0 (by omega)) }
           have hlow := fun b hb => (hn1.lt b hb).1
           have hS' : KP w3 w4 ∧ w4.cell? ⟨g, o + i * 2, none⟩ = some (.string x1) ∧ w4.cell? ⟨g, o + i * 2 + 1, none⟩ = some (.int .i64 x2) := ⟨KP.of hm4, (hm4.cell (p := ⟨g, o + i * 2, none⟩) hgl (fun h => h)).trans HC.out.1, (hm4.cell (p := ⟨g, o + i * 2 + 1, none⟩) hgl (fun h => h)).trans HC.out.2⟩
           have hnb : w4.heap[w3.heap.size]? = some (.cells #[.string x1, .int .i64 x2] 100 (0, 0)) := (hg1.block w3.heap.size (by simp; omega) (by simp [Value.ownBlock])).trans ((Below.heap_alloc _ _ _ (by simp)).trans (heap_alloc_new w3 _)))
        | (have _t := tk1
           go_must (
           refine step_append_src _ rfl (.tmp 37) (.tmp 42) 93 rfl w3.heap.size 100 i4 _ 2 24 Try.underlying93 hi4 hq0 hq1 hq2 hq3 hq4 (.slice A1 k k1) k (cellsR (M.take k)) rfl (hn1.alloc _) (some ⟨w4.heap.size, 0, none⟩) 1 1 [.string x1, .int .i64 x2] rfl (by rfl) (fun _ => ⟨_, rfl, World.news_of_block (cs := #[.string x1, .int .i64 x2]) (t := 100) (fr := (0, 0)) (heap_alloc_new w4 _)⟩) Hone.out HN2.out.1 HN2.out.2 hbase2 ?_
           intro v2 w5 hn2 hg2 hl2
           have hm5 : Moves (fun _ => False) w3 w5 := by { first | exact Moves.onto (hm4.alloc _) hg2 hlow | exact Moves.onto ((hm4.alloc _)).drew hg2 hlow }
           have hS' : KP w3 w5 ∧ w5.cell? ⟨g, o + i * 2, none⟩ = some (.string x1) ∧ w5.cell? ⟨g, o + i * 2 + 1, none⟩ = some (.int .i64 x2) := ⟨KP.of hm5, (hm5.cell (p := ⟨g, o + i * 2, none⟩) hgl (fun h => h)).trans HC.out.1, (hm5.cell (p := ⟨g, o + i * 2 + 1, none⟩) hgl (fun h => h)).trans HC.out.2⟩))
        | (have _t := tk2
           go_must (
           refine step_append_src _ rfl (.tmp 37) (.tmp 42) 93 rfl w3.heap.size 100 i4 _ 2 24 Try.underlying93 hi4 hq0 hq1 hq2 hq3 hq4 (.slice A1 k k1) k (cellsR (M.take k)) rfl hn1 (some ⟨w3.heap.size + 1, 0, none⟩) 1 1 [.string x1, .int .i64 x2] rfl (by rfl) (fun _ => ⟨_, rfl, World.news_of_block (cs := #[.string x1, .int .i64 x2]) (t := 100) (fr := (0, 0)) hnb⟩) Hone.out HN2.out.1 HN2.out.2 hm4.size ?_
           intro v2 w5 hn2 hg2 hl2
           have hm5 : Moves (fun _ => False) w3 w5 := by { first | exact Moves.onto hm4 hg2 hlow | exact Moves.onto (hm4).drew hg2 hlow }
           have hS' : KP w3 w5 ∧ w5.cell? ⟨g, o + i * 2, none⟩ = some (.string x1) ∧ w5.cell? ⟨g, o + i * 2 + 1, none⟩ = some (.int .i64 x2) := ⟨KP.of hm5, (hm5.cell (p := ⟨g, o + i * 2, none⟩) hgl (fun h => h)).trans HC.out.1, (hm5.cell (p := ⟨g, o + i * 2 + 1, none⟩) hgl (fun h => h)).trans HC.out.2⟩))
        | (have _t := tk3
           go_must (
           refine step_append_src _ rfl (.tmp 37) (.tmp 42) 93 rfl w3.heap.size 100 i4 _ 2 24 Try.underlying93 hi4 hq0 hq1 hq2 hq3 hq4 (.slice A1 k k1) k (cellsR (M.take k)) rfl hn1 (some ⟨w3.heap.size, 0, none⟩) 1 1 [.string x1, .int .i64 x2] rfl (by rfl) (fun _ => ⟨_, rfl, World.news_of_block (cs := #[.string x1, .int .i64 x2]) (t := 100) (fr := (0, 0)) hnb⟩) Hone.out HN2.out.1 HN2.out.2 hm4.size ?_
           intro v2 w5 hn2 hg2 hl2
           have hm5 : Moves (fun _ => False) w3 w5 := by { first | exact Moves.onto hm4 hg2 hlow | exact Moves.onto (hm4).drew hg2 hlow }
           have hS' : KP w3 w5 ∧ w5.cell? ⟨g, o + i * 2, none⟩ = some (.string x1) ∧ w5.cell? ⟨g, o + i * 2 + 1, none⟩ = some (.int .i64 x2) := ⟨KP.of hm5, (hm5.cell (p := ⟨g, o + i * 2, none⟩) hgl (fun h => h)).trans HC.out.1, (hm5.cell (p := ⟨g, o + i * 2 + 1, none⟩) hgl (fun h => h)).trans HC.out.2⟩))
        | fail)
    all_goals
      refine hQ _ _ _ _ _ _ _ _ _ _ _ v2 w5 ?_ hm5
      rw [cellsR_append]
      exact hn2
end Go.Proofs.Ytbfnmgjpkieaoaa.Tb
