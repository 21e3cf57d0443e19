/-
  The statements' own 'known': a name bound twice.
-/
import Derived.Test.YtbfnmgjpkieaoaaTabTwin
namespace Go.Proofs.Ytbfnmgjpkieaoaa.Tb
open Go Go.RowKit Go.Maps Go.Sort Go.Proofs Go.Shelf

theorem rangeAt_low {base : Nat} {w w' : World} {b : Nat} {cs : List Value} (h : w.rangeAt b 0 cs) (hm : Moves (fun k => base ≤ k) w w') (hb : b < w.heap.size) (hl : b < base) : w'.rangeAt b 0 cs := rangeAt_moves h hm hb (by omega)
theorem LenCell.low {base : Nat} {w w' : World} (h : LenCell w) (hm : Moves (fun k => base ≤ k) w w') (hl : 0 < base) : LenCell w' := h.moves hm (by omega)
theorem LenCell.lt {w : World} (h : LenCell w) : 0 < w.heap.size := by
  obtain ⟨q, hq⟩ := h
  exact World.block_lt_of_cell? w _ hq
theorem wpList_load_at {P : Program} {ops : Array Oper} {rest : List Oper} {op : Oper} {a : Act} {w : World} {Q : Exit → Act → World → Prop} (hw : Region.wanted op (yielded ops a.tmps) = true) (ty : TypeId) (x : Operand) (ho : op.op = .load ty x)
    (p v : Value) (hx : a.eval x = p) (hr : (Instr.loadAt ty p).run P w = .ok v w) (h : wpList P ops Q rest (a.put op.dst v) w) : wpList P ops Q (op :: rest) a w :=
  wpList_want hw fun _ hK => by
    unfold Oper.wp execOp
    simp only [ho, hx, Sem.run_bind, hr, Result.andThen_ok, Sem.run_pure]
    exact hK _ _ h
theorem load_nm {w : World} {b : Nat} {x : Nm} (h : w.rangeAt b 0 (encM x)) : (Instr.loadAt 77 (.pointer (some ⟨b, 0, none⟩))).run Try.prog w = .ok (.agg (encM x).toArray) w :=
  run_loadAt_mid w b 0 77 (encM x) _ h undN rfl (sizeM x)
/-- A new table. -/
theorem tab_new (w : World) {base : Nat} (h : base ≤ w.heap.size) : TabAt (w.alloc (.cells #[.map none] 84)) base w.heap.size [] := ⟨none, heap_alloc_new _ _, h, .inl ⟨rfl, rfl⟩⟩
theorem TabAt.lower {w w' : World} {base p : Nat} {M : List (Nm × Int)} (h : TabAt w base p M) (hm : Moves (TabOwn w p) w w') : Moves (fun k => base ≤ k) w w' := hm.mono (fun k hk => h.low k hk)
theorem getZ_put (M : List (Nm × Int)) (n : Nm) (v : Int) : getM (putM M n v) n = some v := by
  unfold getM putM
  have : (delM M n).find? (fun p => p.1 == n) = none := by
    rw [List.find?_eq_none]
    intro p hp
    have := ne_of_bne (List.mem_filter.1 hp).2
    simpa using fun e => this (Subtype.ext e)
  rw [List.find?_append, this]
  simp
theorem getM_other {M : List (Nm × Int)} {n m : Nm} (v : Int) (h : m ≠ n) : getM (putM M n v) m = getM M m := by
  unfold getM putM
  rw [List.find?_append]
  have h1 : ([(n, v)] : List (Nm × Int)).find? (fun p => p.1 == m) = none := by
    rw [List.find?_eq_none]
    intro p hp
    rw [List.mem_singleton] at hp
    subst hp
    intro e
    exact h (eq_of_beq e).symm
  rw [h1, Option.or_none]
  congr 1
  unfold delM
  rw [List.find?_filter]
  congr 1
  funext p
  by_cases e : p.1 = m
  · have e2 : p.1 ≠ n := fun e3 => h (e ▸ e3)
    rw [bne_of e2, e, beq_self_eq_true]
    rfl
  · rw [show (p.1 == m) = false from beq_eq_false_iff_ne.2 e]
    simp
theorem getZ_put_same (M : List (Nm × Int)) (n : Nm) (v : Int) : getZ (putM M n v) n = v ∧ hasN (putM M n v) n = true := by
  unfold getZ hasN
  rw [getZ_put]
  exact ⟨rfl, rfl⟩
theorem getZ_put_other {M : List (Nm × Int)} {n m : Nm} (v : Int) (h : m ≠ n) : getZ (putM M n v) m = getZ M m ∧ hasN (putM M n v) m = hasN M m := by
  unfold getZ hasN
  rw [getM_other v h]
  exact ⟨rfl, rfl⟩
theorem TabAt.own_lt {w : World} {base p : Nat} {M : List (Nm × Int)} (h : TabAt w base p M) {k : Nat} (hk : TabOwn w p k) : k < w.heap.size := by
  obtain ⟨mb, hb, hp, hx⟩ := h
  rcases hk with rfl | hk
  · exact (Array.getElem?_eq_some_iff.1 hb).1
  · rw [hb] at hk
    have e : mb = some k := by simpa using hk
    rcases hx with ⟨e2, _⟩ | ⟨m, D, e2, hbm, hown, _⟩
    · rw [e2] at e; cases e
    · rw [e2] at e; cases e; exact hown.lt
theorem TabOwn.back {w w' : World} {p k : Nat} (hm : Moves (fun _ => False) w w') (hp : p < w.heap.size) (hk : TabOwn w' p k) : TabOwn w p k := by
  rcases hk with hk | hk
  · exact .inl hk
  · exact .inr ((hm.block p hp (fun h => h)).symm.trans hk)
/-- A statement's state: a table at block p, all that is new from 'base' on; the world began at w0. -/
structure KSt (w0 : World) (base p : Nat) (M : List (Nm × Int)) (w : World) : Prop where
  len : LenCell w
  tab : TabAt w base p M
  mv : Moves (fun k => base ≤ k) w0 w
  lt : 0 < base
  le : base ≤ w0.heap.size
theorem KSt.next {w0 w w' : World} {base p : Nat} {M M' : List (Nm × Int)} (h : KSt w0 base p M w) (ht : TabAt w' base p M') (hm : Moves (TabOwn w p) w w') : KSt w0 base p M' w' :=
  ⟨h.len.low (h.tab.lower hm) h.lt, ht, h.mv.trans (h.tab.lower hm), h.lt, h.le⟩
theorem KSt.next0 {w0 w w' : World} {base p : Nat} {M : List (Nm × Int)} (h : KSt w0 base p M w) (hm : Moves (fun _ => False) w w') : KSt w0 base p M w' :=
  ⟨h.len.moves0 hm, h.tab.moves0 hm, h.mv.trans (hm.none _), h.lt, h.le⟩
theorem KSt.rng {w0 w : World} {base p : Nat} {M : List (Nm × Int)} (h : KSt w0 base p M w) {k : Nat} {cs : List Value} (hr : w0.rangeAt k 0 cs) (hk : k < base) : w.rangeAt k 0 cs :=
  rangeAt_low hr h.mv (Nat.lt_of_lt_of_le hk h.le) hk
theorem KSt.big {w0 w : World} {base p : Nat} {M : List (Nm × Int)} (h : KSt w0 base p M w) : base ≤ w.heap.size := Nat.le_trans h.le h.mv.size
theorem KSt.under {w00 w0 w : World} {base p : Nat} {M : List (Nm × Int)} (h : KSt w0 base p M w) (h0 : Moves (fun _ => False) w00 w0) (hb : w00.heap.size ≤ base) : Moves (fun _ => False) w00 w :=
  h0.andThen h.mv (fun i (hi : base ≤ i) hlt => absurd hlt (by omega))
theorem KSt.new {w : World} (hL : LenCell w) : KSt w w.heap.size w.heap.size [] (w.alloc (.cells #[.map none] 84)) :=
  ⟨hL.moves0 ((Moves.refl _ w).alloc _), tab_new w (Nat.le_refl _), (Moves.refl _ w).alloc _, hL.lt, Nat.le_refl _⟩
abbrev sAB : ByteArray := ⟨#[97, 98]⟩
theorem goodAB : GoodT sAB := by
  refine ⟨by decide, by decide, ?_⟩
  intro b hb
  simp at hb
  rcases hb with rfl | rfl <;> decide
theorem fixAB : fixN sAB = nm sAB ∧ fixE sAB = 0 := by unfold fixN fixE; rw [if_pos goodAB, if_pos goodAB]; exact ⟨rfl, rfl⟩
theorem fixNil : fixE ⟨#[]⟩ = 4 := by
  unfold fixE
  rw [if_neg]
  intro h
  have := h.1
  simp [ByteArray.size] at this
theorem put_nil (n : Nm) (v : Int) : putM [] n v = [(n, v)] := rfl
theorem put_one (n : Nm) (u v : Int) : putM [(n, u)] n v = [(n, v)] := by
  unfold putM delM
  rw [List.filter_cons_of_neg (by simp)]
  rfl
theorem del_one (n : Nm) (u : Int) : delM [(n, u)] n = [] := by
  unfold delM
  rw [List.filter_cons_of_neg (by simp)]
  rfl
theorem roots_one (n : Nm) (v : Int) : rootsM [(n, v)] = [(txt n, v)] := by
  unfold rootsM
  have h : sortN ([(n, v)].map Prod.fst) = [n] := by
    have h1 := sortN_isPerm ([(n, v)].map Prod.fst)
    exact List.perm_singleton.1 h1
  rw [h]
  have := (getZ_put_same [] n v).1
  rw [put_nil] at this
  simp [this]
end Go.Proofs.Ytbfnmgjpkieaoaa.Tb
