/-
  The table: Roots, all names in order, with what they lead to.
-/
import Derived.Test.YtbfnmgjpkieaoaaTabSort
import Derived.Deep.RegionHeld3
namespace Go.Proofs.Ytbfnmgjpkieaoaa.Tb
open Go Go.RowKit Go.Maps Go.Sort Go.Proofs Go.Shelf

/-- A root's cells. -/
def cellsR (l : List (ByteArray × Int)) : List Value := l.flatMap fun p => [.string p.1, .int .i64 p.2]
theorem cellsR_append (a b : List (ByteArray × Int)) : cellsR (a ++ b) = cellsR a ++ cellsR b := List.flatMap_append
theorem cellsR_len : ∀ l : List (ByteArray × Int), (cellsR l).length = l.length * 2
  | [] => rfl
  | a :: l => by
    show ([Value.string a.1, Value.int .i64 a.2] ++ cellsR l).length = _
    rw [List.length_append, cellsR_len l, List.length_cons, List.length_cons, List.length_cons, List.length_nil]
    omega
theorem cellsR_get : ∀ (l : List (ByteArray × Int)) (k : Nat) (h : k < l.length), (cellsR l)[k * 2]? = some (.string (l[k]).1) ∧ (cellsR l)[k * 2 + 1]? = some (.int .i64 (l[k]).2)
  | [], k, h => by simp at h
  | a :: l, 0, _ => ⟨rfl, rfl⟩
  | a :: l, k + 1, h => by
    have hk : k < l.length := by simpa using h
    show ([Value.string a.1, Value.int .i64 a.2] ++ cellsR l)[(k + 1) * 2]? = some (.string (l[k]).1) ∧ ([Value.string a.1, Value.int .i64 a.2] ++ cellsR l)[(k + 1) * 2 + 1]? = some (.int .i64 (l[k]).2)
    rw [List.getElem?_append_right (by simp; omega), List.getElem?_append_right (by simp; omega)]
    have := cellsR_get l k hk
    simp only [List.length_cons, List.length_nil]
    rw [show (k + 1) * 2 - (0 + 1 + 1) = k * 2 by omega, show (k + 1) * 2 + 1 - (0 + 1 + 1) = k * 2 + 1 by omega]
    exact this
/-- A slice that reads as roots. -/
def RRow (w : World) (L : Nat → Prop) (v : Value) (l : List (ByteArray × Int)) : Prop :=
  ∃ A c, v = .slice A l.length c ∧ l.length ≤ c ∧ (0 < l.length → ∃ g o, A = some ⟨g, o, none⟩ ∧ L g ∧ g < w.heap.size ∧ ∀ j u, (cellsR l)[j]? = some u → w.cell? ⟨g, o + j, none⟩ = some u)
theorem RRow.moves {S L : Nat → Prop} {w w' : World} {v : Value} {l : List (ByteArray × Int)} (h : RRow w L v l) (hm : Moves S w w') (hs : ∀ i, L i → i < w.heap.size → ¬ S i) : RRow w' L v l := by
  obtain ⟨A, c, hv, hc, hx⟩ := h
  refine ⟨A, c, hv, hc, fun h0 => ?_⟩
  obtain ⟨g, o, hA, hL, hg, hcell⟩ := hx h0
  exact ⟨g, o, hA, hL, Nat.lt_of_lt_of_le hg hm.size, fun j u hu => (hm.cell (p := ⟨g, o + j, none⟩) hg (hs g hL hg)).trans (hcell j u hu)⟩
def rootsM (M : List (Nm × Int)) : List (ByteArray × Int) := (sortN (M.map Prod.fst)).map fun n => (txt n, getZ M n)
theorem rootsM_len (M : List (Nm × Int)) : (rootsM M).length = M.length := by unfold rootsM; rw [List.length_map, sortN_len, List.length_map]
def RootsPost (w : World) (l : List (ByteArray × Int)) (e : Ending) (w' : World) : Prop := ∃ v, e = .returned v ∧ RRow w' (fun i => w.heap.size ≤ i) v l ∧ Moves (fun _ => False) w w'
theorem clipR (w : World) (A : Option Addr) (n c : Nat) (hc : n ≤ c) (hm : c ≤ maxLen) (hA : A = none → c = 0) : Calls Try.prog 80 #[.slice A n c] w (SameP w (.slice A n n)) := by
  unfold maxLen at hm
  cases A with
  | none =>
    obtain rfl := hA rfl
    obtain rfl : n = 0 := by omega
    go_enter Try.func80, Try.ntmps80
    go_wp2
    go_ret
    exact ⟨rfl, rfl⟩
  | some a =>
    clear hA
    obtain ⟨g, o, s⟩ := a
    go_enter Try.func80, Try.ntmps80
    go_wp2
    go_ret
    exact ⟨rfl, rfl⟩
theorem name_at {w : World} {base n : Nat} {A : Option Addr} {c : Nat} {ks : List Nm} (h : w.ownsRow base 77 32 (.slice A n c) n (cellsM ks)) (hn : ks.length = n) {i : Nat} (hi : i < ks.length) : ∃ g, A = some ⟨g, 0, none⟩ ∧ base ≤ g ∧ g < w.heap.size ∧ w.rangeAt g (i * 32) (encM ks[i]) := by
  subst hn
  rcases h.2 with ⟨hv, h0⟩ | ⟨g, cap, cur, hv, hb, hg, hc, hm, hsz, ht⟩
  · omega
  · injection hv with hA _ hcap
    subst hA hcap
    have hgl : g < w.heap.size := (Array.getElem?_eq_some_iff.1 hg).1
    refine ⟨g, rfl, hb, hgl, fun j v hv => ?_⟩
    have hj : j < 32 := by have := (List.getElem?_eq_some_iff.1 hv).1; rwa [encM_len] at this
    have e := cells_at ks i j hi hj
    have e2 : (cur.toList.take (ks.length * 32))[i * 32 + j]? = (cellsM ks)[i * 32 + j]? := by rw [ht]
    rw [List.getElem?_take_of_lt (by omega), e] at e2
    simp only [World.cell?, hg, Option.isSome_none, Bool.false_eq_true, if_false]
    rw [← Array.getElem?_toList, e2]
    have hjl : j < (encM ks[i]).length := by rw [encM_len]; exact hj
    rw [List.getElem?_eq_getElem hjl] at hv
    rw [getElem!_pos (encM ks[i]) j hjl]
    exact hv
end Go.Proofs.Ytbfnmgjpkieaoaa.Tb
