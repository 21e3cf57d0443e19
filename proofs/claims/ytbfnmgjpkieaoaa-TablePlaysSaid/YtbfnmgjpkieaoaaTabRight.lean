/-
  A name's text: (table.Name).right.
-/
import Derived.Test.YtbfnmgjpkieaoaaTabPlain
import Derived.Test.YtbfnmgjpkieaoaaTabData
import Derived.Stop.BytesEq
namespace Go.Proofs.Ytbfnmgjpkieaoaa.Tb
open Go Go.RowKit Go.Maps Go.Sort Go.Proofs

def LenCell (w : World) : Prop := ∃ m, w.cell? ⟨0, 0, none⟩ = some (.int .i64 m)
theorem LenCell.moves {S : Nat → Prop} {w w' : World} (h : LenCell w) (hm : Moves S w w') (hs : ¬ S 0) : LenCell w' := by
  obtain ⟨m, hc⟩ := h
  exact ⟨m, (hm.cell (p := ⟨0, 0, none⟩) (World.block_lt_of_cell? w _ hc) hs).trans hc⟩
theorem LenCell.moves0 {w w' : World} (h : LenCell w) (hm : Moves (fun _ => False) w w') : LenCell w' := h.moves hm (fun h => h)
theorem wpList_want {P : Program} {ops : Array Oper} {rest : List Oper} {o : Oper} {a : Act} {w : World} {Q : Exit → Act → World → Prop} (hw : Region.wanted o (yielded ops a.tmps) = true)
    (h : ∀ K : Act → World → Prop, (∀ a w, wpList P ops Q rest a w → K a w) → o.wp P a w K Q) : wpList P ops Q (o :: rest) a w :=
  wpList_step fun K hK => by rw [if_pos hw]; exact h K hK
theorem wpList_load_midg {P : Program} {ops : Array Oper} {rest : List Oper} {op : Oper} {a : Act} {w : World} {Q : Exit → Act → World → Prop} (hw : Region.wanted op (yielded ops a.tmps) = true) (ty : TypeId) (x : Operand) (ho : op.op = .load ty x)
    (b o : Nat) (hx : a.eval x = .pointer (some ⟨b, o, none⟩)) (cs : List Value) (d : TypeDesc) (hc : w.rangeAt b o cs)
    (hu : P.underlying ty = some d) (hd : d.isRow = true) (hi : (P.info? ty).map (·.size) = some cs.length)
    (h : wpList P ops Q rest (a.put op.dst (.agg cs.toArray)) w) : wpList P ops Q (op :: rest) a w :=
  wpList_want hw fun _ hK => wp_load_mid ty x ho b o hx cs d hc hu hd hi (hK _ _ h)
theorem wpList_eql_midg {P : Program} {ops : Array Oper} {rest : List Oper} {op : Oper} {a : Act} {w : World} {Q : Exit → Act → World → Prop} (hw : Region.wanted op (yielded ops a.tmps) = true) (t u : TypeId) (x y : Operand) (ho : op.op = .binOp .eql t x y u)
    (vx vy : Array Value) (hx : a.eval x = .agg vx) (hy : a.eval y = .agg vy) (hg : P.eqGuardType P.depth t = false) (b : Bool) (hr : (binOp .eql t (.agg vx) (.agg vy)).run P w = .ok (.bool b) w)
    (h : wpList P ops Q rest (a.put op.dst (.bool b)) w) : wpList P ops Q (op :: rest) a w :=
  wpList_want hw fun _ hK => by
    unfold Oper.wp execOp
    simp only [ho, hx, hy, Sem.run_bind, run_eqGuard_agg w _ _ _ _ _ _ hg, Result.andThen_ok, hr, Sem.run_pure]
    exact hK _ _ h
theorem eql_names (n m : Nm) (w : World) : (binOp .eql 77 (.agg (encM n).toArray) (.agg (encM m).toArray)).run Try.prog w = .ok (.bool (n.1 == m.1)) w :=
  run_eql_bytes w 77 5 32 Try.underlying77 Try.underlying5 sizeB n.1 m.1 n.2 m.2
theorem sizeM (n : Nm) : (Try.prog.info? 77).map (·.size) = some (encM n).length := by rw [encM_len]; exact sizeN
theorem sizeMa (n : Nm) : (Try.prog.info? 77).map (·.size) = some (encM n).toArray.size := by rw [List.size_toArray, encM_len]; exact sizeN
theorem oneMa (n : Nm) : (encM n).toArray.all (·.oneCell') = true := all_oneCell_toArray (encM_one n)
theorem there_M {w : World} {b : Nat} {Z : Array Value} {t : TypeId} (X : Nm) (h : w.heap[b]? = some (.cells Z t (0, 0))) (hZ : Z.size = 32) : w.there b 0 (encM X).toArray.size := by
  have e : (encM X).toArray.size = Z.size := by rw [hZ, List.size_toArray, encM_len]
  rw [e]
  exact there_of h
theorem range_of {w : World} {b : Nat} {cs : List Value} {t : TypeId} (h : w.heap[b]? = some (.cells cs.toArray t (0, 0))) : w.rangeAt b 0 cs := fun j v hv => by
  simp only [World.cell?, h, Nat.zero_add, Option.isSome_none, Bool.false_eq_true, if_false]
  rw [← Array.getElem?_toList]
  exact hv
theorem rangeAt_moves {S : Nat → Prop} {w w' : World} {b : Nat} {cs : List Value} (h : w.rangeAt b 0 cs) (hm : Moves S w w') (hb : b < w.heap.size) (hs : ¬ S b) : w'.rangeAt b 0 cs := fun j v hv =>
  (hm.cell (p := ⟨b, 0 + j, none⟩) hb hs).trans (h j v hv)

def ValPost (w : World) (v : Value) (e : Ending) (w' : World) : Prop := e = .returned v ∧ Moves (fun _ => False) w w'
/-- Fix at whatever text: a name, or none. -/
def fixN (s : ByteArray) : Nm := if GoodT s then nm s else ⟨List.replicate 32 0, by simp⟩
def fixE (s : ByteArray) : Int := if GoodT s then 0 else 4
theorem zero_ints : ints ⟨List.replicate 32 0, by simp⟩ = List.replicate 32 0 := rfl
def FixP (w : World) (n : Nm) (r : Int) (e : Ending) (w' : World) : Prop := e = .returned (.tuple #[.agg (encM n).toArray, .int .i64 r]) ∧ Moves (fun _ => False) w w'
theorem fix_any (s : ByteArray) (w : World) : Calls Try.prog 43 #[.string s] w (FixP w (fixN s) (fixE s)) := by
  unfold FixP
  rw [← encN_ints]
  show Calls Try.prog 43 #[.string s] w (FixPost w (ints (fixN s)) (fixE s))
  by_cases hg : GoodT s
  · unfold fixN fixE
    rw [if_pos hg, if_pos hg]
    obtain ⟨h1, h2, h3⟩ := hg
    rw [← nameOf_nm h2]
    exact fix_ok ⟨h1, h2⟩ (by rw [indexByte_no h3]; decide) w
  · unfold fixN fixE
    rw [if_neg hg, if_neg hg, zero_ints]
    by_cases h1 : s.size < 1
    · exact fix_short h1 w
    by_cases h2 : 32 < s.size
    · exact fix_long h2 w
    refine fix_nul ⟨by omega, by omega⟩ ?_ w
    by_cases h3 : ∀ b ∈ s.data.toList, b ≠ 0
    · exact absurd ⟨by omega, by omega, h3⟩ hg
    · obtain ⟨b, hb⟩ := Classical.not_forall.1 h3
      obtain ⟨hb, h0⟩ := Classical.not_imp.1 hb
      exact indexByte_yes hb (Classical.not_not.1 h0)
theorem good_fix (n : Nm) (h : fixE (txt n) = 0) : ((fixN (txt n)).1 == n.1) = goodN n := by
  unfold fixE at h
  split at h
  · rename_i hg
    unfold fixN
    rw [if_pos hg]
    rw [Bool.eq_iff_iff]
    constructor
    · intro h1
      have h2 := eq_of_beq h1
      unfold goodN
      simp only [decide_eq_true_eq]
      exact ⟨by have := hg.1; rwa [txt_size] at this, h2⟩
    · intro h1
      rw [nm_txt h1]
      exact beq_self_eq_true _
  · cases h
theorem bad_fix (n : Nm) (h : fixE (txt n) = 4) : goodN n = false := by
  unfold fixE at h
  split at h
  · cases h
  · rename_i hg
    cases hn : goodN n
    · rfl
    · exact absurd (txt_good hn) hg
theorem fixE_or (s : ByteArray) : fixE s = 0 ∨ fixE s = 4 := by unfold fixE; split <;> simp

set_option maxRecDepth 100000 in
set_option maxHeartbeats 2000000 in
theorem right_any (n : Nm) {w : World} (hm : LenCell w) {b : Bool} (hb : goodN n = b) : Calls Try.prog 74 #[.agg (encM n).toArray] w (ValPost w (.bool b)) := by
  have hW0 := (Moves.refl (fun _ => False) w).alloc (.cells (encM n).toArray 77)
  obtain ⟨m, hml⟩ := hm.moves0 hW0
  have hbk : (w.alloc (.cells (encM n).toArray 77)).heap[w.heap.size]? = some (.cells (encM n).toArray 77 (0, 0)) := heap_alloc_new _ _
  have hS := Lib.hid (string_any (ints_len n) _ hml)
  rw [encN_ints, textOf_ints] at hS
  have hF := Lib.hid (fun W => fix_any (txt n) W)
  have hr0 := Lib.hid (range_of hbk)
  have hlt : w.heap.size < (w.alloc (.cells (encM n).toArray 77)).heap.size := by simp
  clear hml hbk hm
  rcases fixE_or (txt n) with he | he
  · have hq := Lib.hid (good_fix n he)
    rw [hb] at hq
    rw [he] at hF
    clear he hb
    generalize fixN (txt n) = X at hF hq
    go_enter Try.func74, Try.ntmps74
    go_upto_region 2 with (first
      | (refine wpList_load_midg rfl 77 (.tmp 1) rfl w.heap.size 0 rfl (encM n) _ hr0.out undN rfl (sizeM n) ?_)
      | (go_at_call 45
         refine hS.out.mono ?_
         rintro e w1 ⟨rfl, hm1⟩)
      | (go_at_call 43
         refine (hF.out _).mono ?_
         rintro e w2 ⟨rfl, hm2⟩)
      | (refine wpList_store_mid rfl 77 (.tmp 3) (.tmp 9) rfl w2.heap.size 0 (encM X).toArray rfl rfl (there_M _ (heap_alloc_new w2 _) rfl) (sizeMa _) (oneMa _) ?_)
      | fail)
    have h12 := hm1.trans hm2
    have hl2 : w.heap.size < w2.heap.size := by have := h12.size; simp at this; omega
    have hmF := (hW0.trans h12)
    have r1 := (rangeAt_moves hr0.out h12 hlt (fun h => h))
    have hnew := heap_alloc_new w2 (.cells (cellsN (List.replicate 32 0)).toArray 77)
    have hG : ∃ W, W = (w2.alloc (.cells (cellsN (List.replicate 32 0)).toArray 77)).setCells w2.heap.size 0 (encM X) := ⟨_, rfl⟩
    obtain ⟨W, hW⟩ := hG
    have rX : W.rangeAt w2.heap.size 0 (encM X) := by rw [hW]; exact World.rangeAt_setCells_same _ _ _ _ (by rw [encM_len]; exact there_of hnew)
    have rN : W.rangeAt w.heap.size 0 (encM n) := by rw [hW]; exact World.rangeAt_setCells_apart (World.rangeAt_alloc r1 _) _ _ _ (.inl (by omega))
    have hMW : Moves (fun _ => False) w W := by rw [hW]; exact moves_setCells (fun h => absurd h (by have := hmF.size; omega)) _ _ _ (hmF.alloc _)
    have HR := Lib.hid (And.intro rX rN)
    have HE := Lib.hid (eql_names X n)
    rw [hq.out] at HE
    show Code.wp _ _ _ _ ((w2.alloc (.cells (cellsN (List.replicate 32 0)).toArray 77)).setCells w2.heap.size 0 (encM X))
    rw [← hW]
    clear hW r1 rX rN hnew hr0 hS hF
    go_wp2_with (first
      | (refine wpList_load_midg rfl 77 (.tmp 3) rfl w2.heap.size 0 rfl (encM X) _ HR.out.1 undN rfl (sizeM X) ?_)
      | (refine wpList_load_midg rfl 77 (.tmp 1) rfl w.heap.size 0 rfl (encM n) _ HR.out.2 undN rfl (sizeM n) ?_)
      | (refine wpList_eql_midg rfl 77 77 (.tmp 14) (.tmp 15) rfl (encM X).toArray (encM n).toArray rfl rfl (by kernel_rfl) b (HE.out _) ?_)
      | fail)
    go_ret
    exact ⟨rfl, hMW⟩
  · have hq := bad_fix n he
    rw [hb] at hq
    subst hq
    rw [he] at hF
    clear he
    generalize fixN (txt n) = X at hF
    go_enter Try.func74, Try.ntmps74
    go_wp2_with (first
      | (refine wpList_load_midg rfl 77 (.tmp 1) rfl w.heap.size 0 rfl (encM n) _ hr0.out undN rfl (sizeM n) ?_)
      | (go_at_call 45
         refine hS.out.mono ?_
         rintro e w1 ⟨rfl, hm1⟩)
      | (go_at_call 43
         refine (hF.out _).mono ?_
         rintro e w2 ⟨rfl, hm2⟩)
      | (refine wpList_store_mid rfl 77 (.tmp 3) (.tmp 9) rfl w2.heap.size 0 (encM X).toArray rfl rfl (there_M _ (heap_alloc_new w2 _) rfl) (sizeMa _) (oneMa _) ?_)
      | fail)
    go_ret
    have h12 := (hW0.trans (hm1.trans hm2))
    exact ⟨rfl, moves_setCells (fun h => absurd h (by have := h12.size; omega)) _ _ _ (h12.alloc _)⟩
end Go.Proofs.Ytbfnmgjpkieaoaa.Tb
