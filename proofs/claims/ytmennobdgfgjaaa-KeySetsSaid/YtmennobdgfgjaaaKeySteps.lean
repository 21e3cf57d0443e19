/-
  The steps of a play of sets: opened; what they do, plainly.
-/
import Derived.Test.YtmennobdgfgjaaaKeyOpen
import Derived.Test.YtmennobdgfgjaaaKeySet3
namespace Go.Proofs.Ytmennobdgfgjaaa
open Go Go.RowKit Go.ChangeShapes Go.WideShapes Go.Deep Go.Maps Go.Sort

structure StepD where
  op : Int
  lv : Value
  ks : List Pr
instance : Inhabited StepD := ⟨⟨0, undef, []⟩⟩

structure StepAt (w : World) (a : StepD) (c0 c1 : Addr) : Prop where
  op : w.cell? c0 = some (.int .i64 a.op)
  lv : w.cell? c1 = some a.lv
  row : KRow w (fun i => i < w.heap.size) a.lv a.ks
  wk : ∀ x ∈ a.ks, wf2 x

def Steps (w : World) (v : Value) (l : List StepD) : Prop :=
  ∃ A c, v = .slice A l.length c ∧ l.length ≤ c ∧ (0 < l.length → ∃ g o, A = some ⟨g, o, none⟩ ∧ g < w.heap.size ∧ ∀ i (hi : i < l.length), StepAt w l[i] ⟨g, o + i * 2, none⟩ ⟨g, o + i * 2 + 1, none⟩)

set_option maxRecDepth 100000 in
theorem open_steps {H : Type} {enc : TypeId × Value → H} {W : World} {r : Reach} {b0 : Nat} {v : Value} {d : DataW H} {p : List MemPlace} (hv : Value.okWide Try.prog W r b0 59 v) (h : DataW.Trod enc Try.prog W 0 (fun _ => true) true 59 v d p) :
    ∃ l : List StepD, Steps W v l := by
  obtain ⟨A, len, cap, rfl⟩ := okWide_slice Try.underlying59 hv
  obtain ⟨fuel, hf⟩ := h
  rcases open_structs Try.underlying59 Try.underlying66 (by kernel_rfl) (by kernel_rfl) hf with hcs | ⟨a, l, c, hcs, hl, hm, hi⟩
  · simp [Value.cells] at hcs
    obtain ⟨rfl, rfl, rfl⟩ := hcs
    exact ⟨[], none, 0, rfl, Nat.le_refl _, fun h => absurd h (by simp)⟩
  · simp [Value.cells] at hcs
    obtain ⟨rfl, rfl, rfl⟩ := hcs
    have each : ∀ i, i < len → ∃ x : StepD, StepAt W x (a.add (i * 2)) (a.add (i * 2 + 1)) := fun i hil => by
      obtain ⟨n, hj⟩ := hi i hil
      obtain ⟨v0, y0, c0, t0⟩ := hj 0 _ rfl
      obtain ⟨v1, y1, c1, t1⟩ := hj 1 _ rfl
      obtain ⟨n0, e0, rfl, w0⟩ := DataW.trod_int Try.underlying3 t0
      simp at e0
      subst e0
      obtain ⟨ks, hr, hk⟩ := open_keys_at t1
      exact ⟨⟨n0, v1, ks⟩, c0, c1, hr, hk⟩
    obtain ⟨L, hL, hLp⟩ := choose_list len each
    subst hL
    refine ⟨L, _, cap, rfl, hl, fun h0 => ?_⟩
    have h1 := (hLp 0 h0).op
    have ha : a = ⟨a.block, a.off, none⟩ := addr_of_cell (by simpa [Addr.add] using h1)
    have hlt := World.block_lt_of_cell? W _ h1
    refine ⟨a.block, a.off, by rw [← ha], by simpa [Addr.add] using hlt, fun i hi => ?_⟩
    have := hLp i hi
    rw [add_of ha, add_of ha] at this
    exact this

/-! ### the model's row -/
def stepL (op : Int) (M ks : List Pr) : List Pr := if op = 1 then addL M ks else delL M ks
def cntZ (op : Int) (M M' : List Pr) : Int := if op = 1 then (M'.length : Int) - M.length else (M.length : Int) - M'.length
theorem stepL_succ (op : Int) (M : List Pr) {ks : List Pr} {i : Nat} (h : i < ks.length) : stepL op M (ks.take (i + 1)) = if op = 1 then addM (stepL op M (ks.take i)) ks[i] else delM (stepL op M (ks.take i)) ks[i] := by
  unfold stepL
  split
  · exact addL_step M h
  · exact delL_step M h
theorem addM_nodup {M : List Pr} (h : M.Nodup) (p : Pr) : (addM M p).Nodup := by
  unfold addM
  split
  · exact h
  · rename_i hp
    rw [List.nodup_append]
    exact ⟨h, by simp, fun a ha b hb => by simp at hb; subst hb; intro e; subst e; exact hp ha⟩
theorem delM_nodup {M : List Pr} (h : M.Nodup) (p : Pr) : (delM M p).Nodup := h.sublist List.filter_sublist
theorem addL_nodup {M : List Pr} (h : M.Nodup) (ks : List Pr) : (addL M ks).Nodup := by
  unfold addL
  induction ks generalizing M with
  | nil => exact h
  | cons a r ih => exact ih (addM_nodup h a)
theorem delL_nodup {M : List Pr} (h : M.Nodup) (ks : List Pr) : (delL M ks).Nodup := by
  unfold delL
  induction ks generalizing M with
  | nil => exact h
  | cons a r ih => exact ih (delM_nodup h a)
theorem stepL_nodup {op : Int} {M : List Pr} (h : M.Nodup) (ks : List Pr) : (stepL op M ks).Nodup := by
  unfold stepL
  split
  · exact addL_nodup h ks
  · exact delL_nodup h ks
theorem stepL_len (op : Int) (M ks : List Pr) : (stepL op M ks).length ≤ M.length + ks.length := by
  unfold stepL
  split
  · exact addL_len M ks
  · have := delL_len M ks; omega
theorem mem_at {M : List Pr} {x : Pr} {h : Nat} (hh : h < M.length) (e : M[h] = x) : x ∈ M := e ▸ List.getElem_mem hh
theorem delM_miss {M : List Pr} {x : Pr} (h : x ∉ M) : delM M x = M := by
  unfold delM
  rw [List.filter_eq_self]
  intro a ha
  have : a ≠ x := fun e => h (e ▸ ha)
  simpa using this
theorem delM_hit {M : List Pr} {x : Pr} (hn : M.Nodup) {k : Nat} (hk : k < M.length) (e : M[k] = x) : delM M x = M.take k ++ M.drop (k + 1) := by
  subst e
  have hne : ∀ i (hi : i < M.length), i ≠ k → M[i] ≠ M[k] := fun i hi h e => h ((List.getElem_inj hn).1 e)
  unfold delM
  conv => lhs; arg 2; rw [← List.take_append_drop k M]
  rw [List.filter_append, List.drop_eq_getElem_cons hk, List.filter_cons_of_neg (by simp)]
  congr 1
  · rw [List.filter_eq_self]
    intro q hq
    obtain ⟨i, hi, rfl⟩ := List.getElem_of_mem hq
    have hi' : i < k := by simp at hi; omega
    rw [List.getElem_take]
    simpa using hne i (by omega) (by omega)
  · rw [List.filter_eq_self]
    intro q hq
    obtain ⟨i, hi, rfl⟩ := List.getElem_of_mem hq
    simp at hi
    rw [List.getElem_drop]
    simpa using hne (k + 1 + i) (by omega) (by omega)
end Go.Proofs.Ytmennobdgfgjaaa
