/-
  The table: what it is in the memory; Lookup, Len.
-/
import Derived.Test.YtbfnmgjpkieaoaaTabRight
import Derived.BigQuiet
import Derived.Deep.QuietTactic
import Derived.Deep.DeepMust
import Derived.Maps.OwnSet
namespace Go.Proofs.Ytbfnmgjpkieaoaa.Tb
open Go Go.RowKit Go.Maps Go.Sort Go.Proofs

theorem zeroI (w : World) : (zeroValue 3).run Try.prog w = .ok (.int .i64 0) w := by kernel_rfl
theorem iw0 : (Lit.int .i64 0).wf = true := by decide
def getZ (M : List (Nm × Int)) (n : Nm) : Int := (getM M n).getD 0
def hasN (M : List (Nm × Int)) (n : Nm) : Bool := (getM M n).isSome
theorem hasN_true {M : List (Nm × Int)} {n : Nm} (h : hasN M n = true) : getM M n = some (getZ M n) := by
  unfold hasN at h
  unfold getZ
  cases hg : getM M n
  · rw [hg] at h; cases h
  · rfl
theorem hasN_false {M : List (Nm × Int)} {n : Nm} (h : hasN M n = false) : getM M n = none ∧ getZ M n = 0 := by
  unfold hasN at h
  unfold getZ
  cases hg : getM M n
  · exact ⟨rfl, rfl⟩
  · rw [hg] at h; cases h
/-- A map that holds just these names, or nil and none. -/
def MapIs (w : World) (base : Nat) (mb : Option Nat) (M : List (Nm × Int)) : Prop :=
  (mb = none ∧ M = []) ∨ ∃ m D, mb = some m ∧ base ≤ m ∧ w.ownsMap Try.prog 77 RI m M.length D ∧ VOf D M
theorem MapIs.moves {S : Nat → Prop} {w w' : World} {base : Nat} {mb : Option Nat} {M : List (Nm × Int)} (h : MapIs w base mb M) (hm : Moves S w w') (hs : ∀ m, mb = some m → ¬ S m) : MapIs w' base mb M := by
  rcases h with h | ⟨m, D, rfl, hb, hown, hk⟩
  · exact .inl h
  · exact .inr ⟨m, D, rfl, hb, hm.ownsMap hown (hs m rfl), hk⟩
theorem MapIs.drewN {w : World} {base : Nat} {mb : Option Nat} {M : List (Nm × Int)} (h : MapIs w base mb M) (q : Nat) : MapIs (w.drewN q) base mb M := h.moves (S := fun _ => False) ((Moves.refl _ w).drewN q) (fun _ _ h => h)
theorem MapIs.look {w : World} {base : Nat} {mb : Option Nat} {M : List (Nm × Int)} (h : MapIs w base mb M) (n : Nm) {v : Int} {b : Bool} (hv : getZ M n = v) (hb : hasN M n = b) :
    (Instr.lookup 82 (.map mb) (.agg (encM n).toArray) true).run Try.prog w = .ok (.tuple #[.int .i64 v, .bool b]) w := by
  have hkey := keyOf_N n
  rw [encN_ints] at hkey
  subst hv hb
  rcases h with ⟨rfl, rfl⟩ | ⟨m, D, rfl, -, hown, hk⟩
  · exact Maps.look_nil true lawN Try.underlying82 (zeroI w) hkey
  · obtain ⟨v, ps, hrun, hv⟩ := hown.look_ok lawN Try.underlying82 (zeroI w) (plainElem_int Try.underlying3 iw0) hkey
    obtain ⟨c, rfl, hz, -⟩ := plainElem_int_inv Try.underlying3 hv
    rw [hrun]
    cases hg : hasN M n
    · obtain ⟨h1, h2⟩ := hasN_false hg
      rw [hk.get_none h1]
      rw [atKey_of_not_has (hk.get_none h1)] at hz
      have hz1 := congrArg Prod.fst hz
      simp at hz1
      rw [h2, ← hz1]
    · have h1 := hasN_true hg
      obtain ⟨h2, h3⟩ := hk.get_some h1 (.lit (.int .i64 0))
      rw [h2]
      rw [h3] at hz
      have hz1 := congrArg Prod.fst hz
      simp [dI] at hz1
      rw [← hz1]
/-- The table's block p. -/
def TabAt (w : World) (base p : Nat) (M : List (Nm × Int)) : Prop :=
  ∃ mb, w.heap[p]? = some (.cells #[.map mb] 84 (0, 0)) ∧ base ≤ p ∧ MapIs w base mb M
/-- The table's own two blocks. -/
def TabOwn (w : World) (p k : Nat) : Prop := k = p ∨ w.heap[p]? = some (.cells #[.map (some k)] 84 (0, 0))
theorem TabAt.moves {S : Nat → Prop} {w w' : World} {base p : Nat} {M : List (Nm × Int)} (h : TabAt w base p M) (hm : Moves S w w') (hs : ∀ k, TabOwn w p k → ¬ S k) : TabAt w' base p M := by
  obtain ⟨mb, hb, hp, hx⟩ := h
  exact ⟨mb, (hm.block p (Array.getElem?_eq_some_iff.1 hb).1 (hs p (.inl rfl))).trans hb, hp, hx.moves hm (fun m e => hs m (.inr (by rw [hb, e])))⟩
theorem TabAt.moves0 {w w' : World} {base p : Nat} {M : List (Nm × Int)} (h : TabAt w base p M) (hm : Moves (fun _ => False) w w') : TabAt w' base p M := h.moves hm (fun _ _ h => h)
theorem TabAt.low {w : World} {base p : Nat} {M : List (Nm × Int)} (h : TabAt w base p M) : ∀ k, TabOwn w p k → base ≤ k := by
  obtain ⟨mb, hb, hp, hx⟩ := h
  rintro k (rfl | hk)
  · exact hp
  · rw [hb] at hk
    injection hk with hk
    injection hk with hk
    rcases hx with ⟨rfl, _⟩ | ⟨m, D, rfl, hbm, _⟩
    · simp at hk
    · simp at hk
      omega
theorem TabAt.lt {w : World} {base p : Nat} {M : List (Nm × Int)} (h : TabAt w base p M) : p < w.heap.size := by
  obtain ⟨mb, hb, -⟩ := h
  exact (Array.getElem?_eq_some_iff.1 hb).1

def LenPost (w : World) (n : Int) (e : Ending) (w' : World) : Prop := e = .returned (.int .i64 n) ∧ w = w'
set_option maxHeartbeats 400000 in
theorem len_any {w : World} {base p : Nat} {M : List (Nm × Int)} (h : TabAt w base p M) : Calls Try.prog 47 #[.pointer (some ⟨p, 0, none⟩)] w (LenPost w M.length) := by
  obtain ⟨mb, hb, hp, hx⟩ := h
  have c0 : w.cell? ⟨p, 0, none⟩ = some (.map mb) := by simp [World.cell?, hb]
  rcases hx with ⟨rfl, rfl⟩ | ⟨m, D, rfl, hbm, hown, hk⟩
  · have hl := fun ty => Maps.len_nil (P := Try.prog) (w := w) Try.underlying82 ty
    go_enter Try.func47, Try.ntmps47
    go_wp2
    go_ret
    exact ⟨rfl, rfl⟩
  · have hs := hk.size
    go_enter Try.func47, Try.ntmps47
    go_wp2_with (first
      | (at_len; refine wpList_len_own _ rfl _ 82 rfl 77 3 Try.underlying82 _ m M.length D rfl hown ?_)
      | go_in)
    go_ret
    exact ⟨rfl, rfl⟩

/-- A row by value is read in a quiet walk. -/
theorem wpQuiet_load_mid {P : Program} {ops : Array Oper} {C : World → Prop} {Q : Act → Prop} {a : Act} {o : Oper} {rest : List Oper} (hg : o.guard = none) (ty : TypeId) (x : Operand) (ho : o.op = .load ty x) (p v : Value) (hx : a.eval x = p)
    (hr : ∀ w, C w → (Instr.loadAt ty p).run P w = .ok v w) (h : wpQuiet P ops C Q rest (a.put o.dst v)) : wpQuiet P ops C Q (o :: rest) a :=
  wpQuiet_step fun K hK => by
    rw [if_pos (by simp [Region.wanted, hg])]
    refine ⟨v, fun w hw => ?_, hK _ h⟩
    unfold Oper.quietAt execOp
    simp only [ho, hx, Sem.run_bind, hr w hw, Result.andThen_ok, Sem.run_pure]
    exact ⟨rfl, rfl⟩
def LookPost (w : World) (v : Int) (b : Bool) (e : Ending) (w' : World) : Prop := e = .returned (.tuple #[.int .i64 v, .bool b]) ∧ Moves (fun _ => False) w w'
set_option maxRecDepth 100000 in
set_option maxHeartbeats 1000000 in
theorem lookup_any {w : World} {base p : Nat} {M : List (Nm × Int)} (h : TabAt w base p M) (n : Nm) {v : Int} {b : Bool} (hv : getZ M n = v) (hb : hasN M n = b) :
    Calls Try.prog 48 #[.pointer (some ⟨p, 0, none⟩), .agg (encM n).toArray] w (LookPost w v b) := by
  have hW := (Moves.refl (fun _ => False) w).alloc (.cells (encM n).toArray 77)
  have hbk : (w.alloc (.cells (encM n).toArray 77)).heap[w.heap.size]? = some (.cells (encM n).toArray 77 (0, 0)) := heap_alloc_new _ _
  obtain ⟨mb, hbl, hp, hx⟩ := h.moves0 hW
  have hr0 := range_of hbk
  have c0 : (w.alloc (.cells (encM n).toArray 77)).cell? ⟨p, 0, none⟩ = some (.map mb) := by simp only [World.cell?, hbl]; rfl
  clear h hbl hbk
  go_enter Try.func48, Try.ntmps48
  go_wp2_with fail
  generalize w.alloc (.cells (encM n).toArray 77) = W at hW hx hr0 c0 ⊢
  have hrun := fun q => (hx.drewN q).look n hv hb
  have hld : ∀ q, (Instr.loadAt 77 (.pointer (some ⟨w.heap.size, 0, none⟩))).run Try.prog (W.drewN q) = .ok (.agg (encM n).toArray) (W.drewN q) := fun q =>
    run_loadAt_mid (W.drewN q) w.heap.size 0 77 (encM n) _ (fun j v hv => (World.cell?_drewN _ _ _).trans (hr0 j v hv)) undN rfl (sizeM n)
  have HM := Lib.hid hW
  clear hx hr0 hv hb hW
  generalize (encM n).toArray = X at hrun hld ⊢
  have HD := Lib.hid hld
  clear hld
  refine wp_region_quiet_lit (by kernel_rfl) (by kernel_rfl) ?_
  repeat (first
    | (refine wpQuiet_load_mid rfl 77 (.tmp 3) rfl _ (.agg X) rfl (fun w5 hw5 => by obtain ⟨q, rfl⟩ := hw5; exact HD.out q) ?_)
    | quiet_step (fail))
  refine wpQuiet_nil ?_
  intro _ hw'
  obtain ⟨nq, hw''⟩ := hw'
  subst hw''
  go_wp2
  go_ret2
  exact ⟨rfl, HM.out.drewN _⟩
end Go.Proofs.Ytbfnmgjpkieaoaa.Tb
