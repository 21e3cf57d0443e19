/-
  What the switch of DiskPlays is handed.
-/
import Derived.Test.YtbfnmgjpkieaoaaDPlayBoth
import Derived.Deep.CutBlock
import Derived.Deep.LoopGhost
import Derived.Deep.RegionHeld3
import Derived.Deep.DeepMust
import Derived.Lib.BufferRead
import Derived.Laws.BytesArg
namespace Go.Proofs.Ytbfnmgjpkieaoaa.Pl
open Go Go.RowKit Go.Maps Go.Sort Go.Proofs

/-- A part of a function's body: the block of a number. -/
def findBlock (n : Nat) : Code → Option Code
  | .block id c => if id = n then some (.block id c) else findBlock n c
  | .seq a b => match findBlock n a with
    | some c => some c
    | none => findBlock n b
  | .loop c => findBlock n c
  | .scope c => findBlock n c
  | .cond _ a b => match findBlock n a with
    | some c => some c
    | none => findBlock n b
  | _ => none
noncomputable def blk (n : Nat) : Code := (Try.f8.body.bind (findBlock n)).getD .skip

theorem conv_row {w : World} {L : Nat → Prop} {v : Value} {bs : List Int} (h : Row w L v (bs.map encB)) : (convert 29 9 v).run Try.prog w = .ok (.string (strOfNums bs)) w := by
  obtain ⟨A, c, rfl, hc, hx⟩ := h
  rw [List.length_map] at hx hc ⊢
  cases A with
  | none =>
    have hb : bs = [] := by
      cases bs with
      | nil => rfl
      | cons a r => obtain ⟨g, o, e, -⟩ := hx (by simp); cases e
    subst hb
    exact Lib.run_convert_nil_bytes w _ _ 5 c Try.underlying29 Try.underlying5 Try.underlying9
  | some a =>
    by_cases h0 : 0 < bs.length
    · obtain ⟨g, o, e, -, -, hcell⟩ := hx h0
      cases e
      exact run_convert_bytes_arg w _ 5 Try.underlying29 Try.underlying5 g o bs.length c bs rfl (fun i hi => hcell i _ (by
        rw [List.getElem?_map, List.getElem?_eq_getElem hi, List.getD_eq_getElem?_getD, List.getElem?_eq_getElem hi]; rfl)) _ Try.underlying9
    · have hb : bs = [] := List.eq_nil_of_length_eq_zero (by omega)
      subst hb
      obtain ⟨g, o, s⟩ := a
      show (convert 29 9 (.slice (some ⟨g, o, s⟩) 0 c)).run Try.prog w = _
      rw [run_convert_bytes_string w _ _ 5 _ 0 c Try.underlying29 Try.underlying5 Try.underlying9]
      have hl : (loadCells ⟨g, o, s⟩ 0).run Try.prog w = .ok ([].map encB).toArray w := run_loadCells_list (P := Try.prog) w ⟨g, o, s⟩ [] (fun j v hj => by simp at hj)
      rw [run_bytesToString w _ 0 c [] hl, foldl_push_bytes]
      rfl

/-- The disk stays when a block of a type that is none of its own is written to. -/
theorem IsDisk.beside {w w' : World} {base d g : Nat} {S : DS} {cs : Array Value} {t : TypeId} {fr : Nat × Nat} (h : IsDisk w base d S) (hg : w.heap[g]? = some (.cells cs t fr)) (t1 : t ≠ 108) (t2 : t ≠ 29) (t3 : t ≠ 5) (t4 : t ≠ 4) (hm : Moves (fun k => k = g) w w') : IsDisk w' base d S := by
  obtain ⟨kv, kvs, m, D, pvs, kpv, h⟩ := h
  have ty : ∀ (k : Nat) (cs' : Array Value) (t' : TypeId) (fr' : Nat × Nat), w.heap[k]? = some (.cells cs' t' fr') → t ≠ t' → k ≠ g := fun k cs' t' fr' hk ht e => by
    rw [e, hg] at hk
    injection hk with hk
    injection hk with _ h1
    exact ht h1
  have hc : Clear w base d S (fun k => k = g) kv kvs m D pvs kpv := by
    refine ⟨h, ty d _ _ _ h.blk t1, fun k hk e => ?_, fun e => ?_, fun k cs' hk e => ty k cs' _ _ hk t3 e, fun k cs' hk e => ty k cs' _ _ hk t4 e⟩
    · obtain ⟨cur, hc⟩ := own_block h.kept hk
      exact ty k cur _ _ hc t2 e
    · obtain ⟨es, ck, hb, _⟩ := h.map
      have e : m = g := e
      rw [e, hg] at hb
      cases hb
  exact ⟨kv, kvs, m, D, pvs, kpv, hc.moves hm⟩
theorem ModelAt.besideD {w w' : World} {base d mb : Nat} {L : Nat → Prop} {S S' : DS} {kv wv kpv : Value} (h : ModelAt w base mb L S kv wv kpv) (hD : IsDisk w base d S') (hL : ∀ j, L j → j < base) (hm : Moves (DOwn w d) w w') : ModelAt w' base mb L S kv wv kpv :=
  h.moves hm (fun g cs t fr hg hT => by
    have h1 : t = 108 ∨ t = 29 := by
      by_cases e1 : t = 108
      · exact .inl e1
      · by_cases e2 : t = 29
        · exact .inr e2
        · exact absurd hT (hD.apart hg e1 e2)
    rcases h1 with rfl | rfl <;> decide) (fun k hk _ hT => by have := hL k hk; have := hD.low k hT; omega)

theorem madeT (z : Nat) : (madeCells #[Value.bool false] z).toList = (List.replicate z false).map .bool := by
  apply List.ext_getElem?
  intro j
  by_cases hj : j < z
  · rw [List.getElem?_map, List.getElem?_replicate, if_pos hj]
    simp only [madeCells]
    rw [Array.getElem?_toList, Array.getElem?_map]
    have h2 : (Array.range z)[j]? = some j := by simp [hj]
    rw [h2]
    simp [Nat.mod_one]
  · rw [List.getElem?_eq_none (by rw [Array.length_toList, size_madeCells]; omega), List.getElem?_eq_none (by simp; omega)]
/-- A row of flags that is just made; how it fills. -/
def flags (n i : Nat) : List Value := (List.replicate i true ++ List.replicate (n - i) false).map .bool
theorem sync_made (w : World) (n : Nat) (hn : n ≤ 1000000) : (w.alloc (.cells (madeCells #[.bool false] n) 4)).ownsRow w.heap.size 4 1 (.slice (some ⟨w.heap.size, 0, none⟩) n n) n (flags n 0) := by
  have h : flags n 0 = (madeCells #[Value.bool false] n).toList := by rw [madeT]; simp [flags]
  refine ⟨by simp [flags], .inr ⟨w.heap.size, n, _, rfl, Nat.le_refl _, heap_alloc_new w _, Nat.le_refl _, by unfold maxLen; omega, by rw [size_madeCells]; omega, ?_⟩⟩
  rw [h]
  exact List.take_of_length_le (by rw [Array.length_toList, size_madeCells]; omega)
theorem flags_step {n i : Nat} (h : i < n) : (flags n i).set i (.bool true) = flags n (i + 1) := by
  unfold flags
  rw [← List.map_set]
  congr 1
  apply List.ext_getElem?
  intro j
  rw [List.getElem?_set, List.getElem?_append, List.getElem?_append]
  simp only [List.length_replicate, List.length_append, List.getElem?_replicate]
  split <;> split <;> (try split) <;> (try split) <;> simp_all <;> omega
theorem flags_end (n : Nat) : flags n n = (List.replicate n true).map .bool := by simp [flags]
theorem putN_congr (K : List (List Int)) (ss : List Int) (ds : List (List Int)) (f g : Nat → Bool) : ∀ n, (∀ i, i < n → f i = g i) → putN K ss ds f n = putN K ss ds g n := by
  intro n
  induction n with
  | zero => intro _; rfl
  | succ n ih =>
    intro h
    rw [putN_succ, putN_succ, ih (fun i hi => h i (by omega)), h n (by omega)]
theorem cut_all (S : DS) : (cutS S (List.replicate S.secs.length true)).kept = (settleS S (fun _ => true)).kept :=
  putN_congr _ _ _ _ _ _ (fun i hi => by simp [List.getD_eq_getElem?_getD, hi])
/-- Between two acts. -/
def PlayAt (w0 : World) (base n z mb k : Nat) (s7 : Value) (wr : World) : Prop :=
  ∃ d S, s7 = .pointer (some ⟨d, 0, none⟩) ∧ IsDisk wr base d S ∧ IsModel wr base mb (fun j => j < w0.heap.size) S ∧ Moves (fun _ => False) w0 wr ∧ Fit S n z k

structure Sw (w0 wa : World) (base n z d mb ab k : Nat) (S : DS) (op sec num : Int) (whole : Bool) (bv : Value) (Ak : Option Addr) (ck : Nat) (keep : List Bool) (Ab : Option Addr) (cb : Nat) (bs : List Int) : Prop where
  disk : IsDisk wa base d S
  model : IsModel wa base mb (fun j => j < w0.heap.size) S
  blk : wa.heap[ab]? = some (.cells #[.int .i64 op, .int .i64 sec, .int .i64 num, bv, .bool whole, .slice Ak keep.length ck] 63 (0, 0))
  mov : Moves (fun _ => False) w0 wa
  hb : w0.heap.size ≤ base
  fit : Fit S n z k
  hk : k < 100
  rowb : Row wa (fun j => ¬ DOwn wa d j ∧ j ≠ mb) (.slice Ab bs.length cb) (bs.map encB)
  rowk : Row w0 (fun j => j < w0.heap.size) (.slice Ak keep.length ck) (keep.map .bool)
  hkl : keep.length ≤ 300
  wn : (Lit.int .i64 num).wf = true
/-- What an act may write to. -/
abbrev POwn (wa : World) (d mb : Nat) : Nat → Prop := fun j => DOwn wa d j ∨ j = mb

section
variable {w0 wa : World} {base n z d mb ab k : Nat} {S : DS} {op sec num : Int} {whole : Bool} {bv : Value} {Ak : Option Addr} {ck : Nat} {keep : List Bool} {Ab : Option Addr} {cb : Nat} {bs : List Int}
theorem act_cells {w : World} (h : w.heap[ab]? = some (.cells #[.int .i64 op, .int .i64 sec, .int .i64 num, bv, .bool whole, .slice Ak keep.length ck] 63 (0, 0))) : w.cell? ⟨ab, 0, none⟩ = some (.int .i64 op) ∧ w.cell? ⟨ab, 1, none⟩ = some (.int .i64 sec) ∧ w.cell? ⟨ab, 2, none⟩ = some (.int .i64 num) ∧ w.cell? ⟨ab, 5, none⟩ = some (.slice Ak keep.length ck) := by
  unfold World.cell?
  simp only [h]
  exact ⟨rfl, rfl, rfl, rfl⟩
theorem Sw.mblk (S' : Sw w0 wa base n z d mb ab k S op sec num whole bv Ak ck keep Ab cb bs) : ∃ cs, wa.heap[mb]? = some (.cells cs 61 (0, 0)) := by
  obtain ⟨kv, wv, kpv, h⟩ := S'.model
  exact ⟨_, h.blk⟩
/-- An act's block stays. -/
theorem Sw.blk' (S' : Sw w0 wa base n z d mb ab k S op sec num whole bv Ak ck keep Ab cb bs) {w3 : World} (hm : Moves (POwn wa d mb) wa w3) : w3.heap[ab]? = some (.cells #[.int .i64 op, .int .i64 sec, .int .i64 num, bv, .bool whole, .slice Ak keep.length ck] 63 (0, 0)) := by
  refine (hm.block ab (Array.getElem?_eq_some_iff.1 S'.blk).1 (fun e => ?_)).trans S'.blk
  rcases e with e | e
  · exact S'.disk.apart S'.blk (by decide) (by decide) e
  · obtain ⟨cs, hc⟩ := S'.mblk
    rw [← e, S'.blk] at hc
    injection hc with hc
    injection hc with _ h1
    exact absurd h1 (by decide)
theorem Sw.low (S' : Sw w0 wa base n z d mb ab k S op sec num whole bv Ak ck keep Ab cb bs) : ∀ j, POwn wa d mb j → base ≤ j := fun j hj => by
  rcases hj with h | h
  · exact S'.disk.low j h
  · obtain ⟨kv, wv, kpv, hm⟩ := S'.model
    rw [h]; exact hm.hb
theorem Sw.under (S' : Sw w0 wa base n z d mb ab k S op sec num whole bv Ak ck keep Ab cb bs) {w3 : World} (hm : Moves (POwn wa d mb) wa w3) : Moves (fun _ => False) w0 w3 :=
  S'.mov.andThen hm (fun j hj hlt => by have := S'.low j hj; have := S'.hb; omega)
theorem Sw.rowk' (S' : Sw w0 wa base n z d mb ab k S op sec num whole bv Ak ck keep Ab cb bs) {w3 : World} (hm : Moves (POwn wa d mb) wa w3) : Row w3 (fun j => j < w0.heap.size) (.slice Ak keep.length ck) (keep.map .bool) :=
  S'.rowk.moves (S'.under hm) (fun _ _ _ h => h)
theorem Sw.str (S' : Sw w0 wa base n z d mb ab k S op sec num whole bv Ak ck keep Ab cb bs) {w3 : World} (hm : Moves (POwn wa d mb) wa w3) : (convert 29 9 (.slice Ab bs.length cb)).run Try.prog w3 = .ok (.string (strOfNums bs)) w3 :=
  conv_row (S'.rowb.moves hm (fun _ hj _ e => e.elim hj.1 hj.2))
/-- Behind a call on the disk alone. -/
theorem Sw.modelD (S' : Sw w0 wa base n z d mb ab k S op sec num whole bv Ak ck keep Ab cb bs) {w3 : World} (hm : Moves (DOwn wa d) wa w3) : IsModel w3 base mb (fun j => j < w0.heap.size) S := by
  obtain ⟨kv, wv, kpv, h⟩ := S'.model
  exact ⟨kv, wv, kpv, h.besideD S'.disk (fun j hj => by have := S'.hb; omega) hm⟩
end
end Go.Proofs.Ytbfnmgjpkieaoaa.Pl
