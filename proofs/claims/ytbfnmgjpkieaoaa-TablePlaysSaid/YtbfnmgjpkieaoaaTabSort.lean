/-
  Names in order: the library's SortFunc, SortedFunc at names.
-/
import Derived.Test.YtbfnmgjpkieaoaaTabCmp
import Derived.Test.YtbfnmgjpkieaoaaAppend
import Derived.WalkSpells
namespace Go.Proofs.Ytbfnmgjpkieaoaa.Tb
open Go Go.RowKit Go.Maps Go.Sort Go.Proofs Go.Shelf

theorem cells_at : ∀ (ks : List Nm) (q r : Nat) (hq : q < ks.length), r < 32 → (cellsM ks)[q * 32 + r]? = some ((encM ks[q])[r]!)
  | [], q, _, hq, _ => by simp at hq
  | a :: l, 0, r, _, hr => by
    show (encM a ++ cellsM l)[0 * 32 + r]? = some ((encM a)[r]!)
    have hl : r < (encM a).length := by rw [encM_len]; exact hr
    rw [Nat.zero_mul, Nat.zero_add, List.getElem?_append_left hl, List.getElem?_eq_getElem hl]
    exact congrArg some (getElem!_pos (encM a) r hl).symm
  | a :: l, q + 1, r, hq, hr => by
    have hq' : q < l.length := by simpa using hq
    show (encM a ++ cellsM l)[(q + 1) * 32 + r]? = some ((encM l[q])[r]!)
    rw [List.getElem?_append_right (by rw [encM_len]; omega), encM_len, show (q + 1) * 32 + r - 32 = q * 32 + r by omega]
    exact cells_at l q r (by simpa using hq) hr
theorem flat_cells (ks : List Nm) : flatK encM 32 ks.toArray = (cellsM ks).toArray := by
  apply Array.ext
  · simp [cellsM_len]
  · intro t h1 h2
    have h1' : t < ks.length * 32 := by simpa using h1
    have hk : t / 32 < ks.length := by omega
    have e1 : (flatK encM 32 ks.toArray)[t] = (encM ks[t / 32])[t % 32]! := by
      rw [← getElem!_pos _ t h1, get_flatK _ _ _ _ (by simpa using h1)]
      congr 1
      simp [hk]
    have e2 := cells_at ks (t / 32) (t % 32) hk (by omega)
    have e3 : t / 32 * 32 + t % 32 = t := by omega
    rw [e1]
    apply Option.some.inj
    rw [← e2]
    have e4 : (cellsM ks)[t]? = some ((cellsM ks).toArray[t]) := by simp
    rw [← e4]
    exact congrArg (fun n => (cellsM ks)[n]?) e3
theorem own_sorted {w : World} {base g cap n k : Nat} {e : TypeId} {os : Array Obj} {cur : Array Value} {size : Nat} (ys : List Value) (hbase : base ≤ g) (hb : w.heap[g]? = some (.cells cur e (0, 0)))
    (h1 : k ≤ cap) (h2 : cap ≤ maxLen) (h3 : cur.size = cap * size) (hl : ys.length = k * size) :
    (grow (putRow id (Sort.ahead w n) g 0 ys.toArray) os).ownsRow base e size (.slice (some ⟨g, 0, none⟩) k cap) k ys := by
  have hg : g < w.heap.size := (Array.getElem?_eq_some_iff.1 hb).1
  have hle : ys.length ≤ cur.size := by rw [hl, h3]; exact Nat.mul_le_mul_right _ h1
  have hblk : (grow (putRow id (Sort.ahead w n) g 0 ys.toArray) os).heap[g]? = some (.cells (putCells id 0 ys.toArray cur) e (0, 0)) := by
    rw [heap_grow_old _ _ (by simpa using hg)]
    simp [putRow, mapBlock, Sort.ahead, Array.getElem?_modify, hb, onCells]
  refine ⟨hl, .inr ⟨g, cap, _, rfl, hbase, hblk, h1, h2, by simp [putCells, h3], ?_⟩⟩
  rw [← hl]
  apply List.ext_getElem?
  intro j
  by_cases hj : j < ys.length
  · rw [List.getElem?_take_of_lt hj, Array.getElem?_toList]
    simp [putCells, hj, show j < cur.size by omega]
  · rw [List.getElem?_take_eq_none (by omega), List.getElem?_eq_none (by omega)]

theorem grown_sorted {w : World} {g n : Nat} {os : Array Obj} (d : Array Value) : w.grownBy (grow (putRow id (Sort.ahead w n) g 0 d) os) (some g) := by
  refine ⟨rfl, rfl, rfl, by simp, fun k hk hne => ?_⟩
  rw [heap_grow_old _ _ (by simpa using hk)]
  have : g ≠ k := fun e => hne (by rw [e])
  simp [putRow, mapBlock, Sort.ahead, Array.getElem?_modify, this]

def SortedPost (w : World) (base : Nat) (v : Value) (n : Nat) (ks : List Nm) (e : Ending) (w' : World) : Prop :=
  e = .returned (.tuple #[]) ∧ w'.ownsRow base 77 32 v n (cellsM ks) ∧ w.grownBy w' v.ownBlock

theorem sortfunc_any {w : World} {base n c : Nat} {A : Option Addr} {ks ks' : List Nm} (c' : Nat) (h : w.ownsRow base 77 32 (.slice A n c) n (cellsM ks)) (hn : ks.length = n) (hs : sortN ks = ks') (hlen : ks.length ≤ 1000000) :
    Calls Try.prog 95 #[.slice A n c', .func (.func 78) #[] #[]] w (SortedPost w base (.slice A n c) n ks') := by
  subst hn
  rcases h.2 with ⟨hv, h0⟩ | ⟨g, cap, cur, hv, hb, hg, hc, hm, hsz, ht⟩
  · have hk : ks = [] := List.eq_nil_of_length_eq_zero h0
    subst hk
    subst hs
    have hA : A = none := by injection hv
    subst hA
    exact (AnyF.slices_SortFunc_none (P := Try.prog) (ρ := Try.sortFuncN_ren) { Try.sortFuncN with } none c' (.func (.func 78) #[] #[]) w).mono fun e w' ⟨he, hw⟩ => by
      subst hw
      refine ⟨he, ?_, ⟨rfl, rfl, rfl, Nat.le_refl _, fun _ _ _ => rfl⟩⟩
      have : sortN [] = [] := List.eq_nil_of_length_eq_zero (by rw [sortN_len]; rfl)
      rw [this]
      exact h
  · injection hv with hA _ hcap
    subst hA hcap
    have hgl : g < w.heap.size := (Array.getElem?_eq_some_iff.1 hg).1
    have hH : HoldsK encM 32 w g 0 ks.toArray := by
      unfold HoldsK
      rw [flat_cells]
      intro j hj
      have hj' : j < (cellsM ks).length := by simpa using hj
      refine ⟨?_, by simp [World.frozen?, hg]⟩
      have h1 : (cur.toList.take (ks.length * 32))[j]? = (cellsM ks)[j]? := by rw [ht]
      rw [List.getElem?_take_of_lt (by rw [← cellsM_len]; exact hj')] at h1
      simp only [World.cell?, hg, Nat.zero_add]
      simp only [Option.isSome_none, Bool.false_eq_true, if_false]
      rw [← Array.getElem?_toList, h1]
      simp [hj']
    have hcon := AnyQ.slices_SortFunc_total (ρ := Try.sortFuncN_ren) Try.sortFuncN 32 (fun w => by kernel_rfl) (fun w => by kernel_rfl) encM encM_len encM_one cmpN swoN 78 #[] g 0 c' ks.toArray w (enters_of Try.func78 (by kernel_rfl) rfl) (cmpLaysN g 0 _ w) hH hgl (by simp; omega) totN
    refine hcon.mono fun e w' ⟨he, n, os, hw⟩ => ?_
    have hw' : w' = grow (putRow id (Sort.ahead w n) g 0 (cellsM ks').toArray) os := by
      rw [hw, ← flat_cells, ← hs]
      rfl
    rw [hw']
    exact ⟨he, own_sorted _ hb hg hc hm hsz (by rw [cellsM_len, ← hs, sortN_len]), grown_sorted _⟩
set_option maxHeartbeats 1000000 in
theorem sortedFuncN {N : Nat} {M : List Nm} (g : Nat) (lb : Array Value) (eg : ∀ args w, (callFunc g args).run Try.prog w = .ok (.enter g args) w) (hN : N ≤ 1000000) (hM : M.length ≤ 1000000)
    (w : World) (hseq : SeqGives Fence.wide 2 Try.prog g lb encA (fun ss => ss.Perm M) N w) :
    CallsIn Fence.wide 5 Try.prog 76 #[.func (.func g) #[] lb, .func (.func 78) #[] #[]] w fun e w' => ∃ A c, e = .returned (.slice A M.length c) ∧ w'.ownsRow w.heap.size 77 32 (.slice A M.length c) M.length (cellsM (sortN M)) ∧ Below w.heap.size w w' := by
  have cC := collectK Fence.wide 4 trivial trivial rfl (by omega) g lb trivial eg (fun ss => ss.Perm M) N (by unfold maxLen; omega) (by omega) w hseq
  have hfC : Fence.wide.fn 94 := trivial
  have hfS : Fence.wide.fn 95 := trivial
  refine callsIn_of_wp Try.func76 rfl trivial ?_ rfl
  simp only [Try.ntmps76, List.size_toArray, List.length_cons, List.length_nil, Nat.reduceAdd, Nat.reduceSub, Array.replicate_succ, Array.replicate_zero, List.push_toArray, List.append_toArray, List.nil_append, List.cons_append]
  gi_wp2_with (gi_at_call 94; refine cC.mono ?_; rintro e w1 ⟨v, ss, rfl, hS, hrow, hb⟩; obtain ⟨A, c, rfl, hc, hcm, hA, -, -⟩ := own_form hrow)
  have hlen : ss.length = M.length := hS.length_eq
  have cS := callsIn_wide (n := 4).2 (sortfunc_any (c := c) c hrow rfl (sortN_perm hS) (by omega))
  gi_wp2_with (gi_at_call 95; refine cS.mono ?_; rintro e w2 ⟨rfl, hown2, hg2⟩)
  go_ret
  rw [hlen] at hown2
  exact ⟨A, c, by rw [← hlen]; rfl, hown2, hb.grown hg2 hb.size (fun k hk => (hrow.lt k hk).1)⟩

end Go.Proofs.Ytbfnmgjpkieaoaa.Tb
