/-
  Keys in order: the order, the library's SortFunc, Clone, Clip at keys; the program's Sorted.
-/
import Derived.Test.YtbfnmgjpkieaoaaKeyFuncs
import Derived.Test.YtbfnmgjpkieaoaaCRow
import Derived.Test.YtbfnmgjpkieaoaaAppend
import Derived.Test.YtbfnmgjpkieaoaaLayKey
import Derived.Shelf.SlSortCmp.NoneTotal
import Derived.WalkSpells
namespace Go.Proofs.Ytbfnmgjpkieaoaa
open Go Go.RowKit Go.Maps Go.Sort Go.Proofs Go.Shelf

def ltK (p q : Pr) : Bool := decide (p.1 < q.1 ∨ (p.1 = q.1 ∧ p.2 < q.2))
theorem cmpK_lt (p q : Pr) : ltOf cmpK p q = ltK p q := by
  unfold ltOf ltK cmpK cmpI
  congr 1
  simp only [eq_iff_iff]
  split <;> rename_i h <;> repeat' split at h
  all_goals repeat' split
  all_goals omega
theorem swoK : SWO (ltOf cmpK) where
  irrefl x := by rw [cmpK_lt]; simp [ltK]
  trans x y z h1 h2 := by rw [cmpK_lt] at *; simp only [ltK, decide_eq_true_eq] at *; omega
  ntrans x y z h1 h2 := by rw [cmpK_lt] at *; simp only [ltK, decide_eq_false_iff_not] at *; omega
theorem totK (x y : Pr) (h1 : ltOf cmpK x y = false) (h2 : ltOf cmpK y x = false) : x = y := by
  rw [cmpK_lt] at h1 h2
  simp only [ltK, decide_eq_false_iff_not] at h1 h2
  exact Prod.ext (by omega) (by omega)
theorem cmpK_zero (p q : Pr) : cmpK p q = 0 ↔ p = q := by
  unfold cmpK cmpI
  rw [Prod.ext_iff]
  constructor
  · intro h
    repeat' split at h
    all_goals omega
  · rintro ⟨h1, h2⟩
    rw [h1, h2]
    simp

/-- Keys, rising. -/
def sortK (ks : List Pr) : List Pr := ks.mergeSort (fun x y => !(ltOf cmpK) y x)
theorem sortK_len (ks : List Pr) : (sortK ks).length = ks.length := List.length_mergeSort _

abbrev encP (x : Pr) : List Value := [.int .i64 x.1, .int .i64 x.2]
theorem encP_one (x : Pr) : ∀ v ∈ encP x, v.oneCell' = true := fun v hv => by simp [encP] at hv; rcases hv with rfl | rfl <;> rfl

theorem cmpLaysK (blk off size : Nat) (w : World) : CmpLays Try.prog 104 #[] encP 2 cmpK blk off size w :=
  fun _ _ _ _ x y => (compare_any (p := x) (q := y) rfl _).mono fun _ _ ⟨he, h⟩ => ⟨he, h⟩

/-! ### a row of cells, put over -/
theorem cells_at (ks : List Pr) (q r : Nat) (hq : q < ks.length) (hr : r < 2) : (cellsP ks)[q * 2 + r]? = some ((encP ks[q])[r]!) := by
  have := cellsP_get hq
  rcases r with _ | _ | r
  · exact this.1
  · exact this.2
  · omega
theorem flat_cells (ks : List Pr) : flatK encP 2 ks.toArray = (cellsP ks).toArray := by
  apply Array.ext
  · simp [cellsP_len]
  · intro t h1 h2
    have h1' : t < ks.length * 2 := by simpa using h1
    have hk : t / 2 < ks.length := by omega
    have e1 : (flatK encP 2 ks.toArray)[t] = (encP ks[t / 2])[t % 2]! := by
      rw [← getElem!_pos _ t h1, get_flatK _ _ _ _ (by simpa using h1)]
      congr 1
      simp [hk]
    have e2 := cells_at ks (t / 2) (t % 2) hk (by omega)
    have e3 : t / 2 * 2 + t % 2 = t := by omega
    rw [e1]
    apply Option.some.inj
    rw [← e2]
    have e4 : (cellsP ks)[t]? = some ((cellsP ks).toArray[t]) := by simp
    rw [← e4]
    exact congrArg (fun n => (cellsP ks)[n]?) e3

theorem own_sorted {w : World} {base g cap n k : Nat} {e : TypeId} {os : Array Obj} {cur : Array Value} {size : Nat} (ys : List Value) (hbase : base ≤ g) (hb : w.heap[g]? = some (.cells cur e (0, 0)))
    (h1 : k ≤ cap) (h2 : cap ≤ maxLen) (h3 : cur.size = cap * size) (hl : ys.length = k * size) :
    (grow (putRow id (Sort.ahead w n) g 0 ys.toArray) os).ownsRow base e size (.slice (some ⟨g, 0, none⟩) k cap) k ys := by
  have hg : g < w.heap.size := (Array.getElem?_eq_some_iff.1 hb).1
  have hle : ys.length ≤ cur.size := by rw [hl, h3]; exact Nat.mul_le_mul_right _ h1
  have hblk : (grow (putRow id (Sort.ahead w n) g 0 ys.toArray) os).heap[g]? = some (.cells (putCells id 0 ys.toArray cur) e (0, 0)) := by
    rw [heap_grow_old _ _ (by simpa using hg)]
    simp [putRow, mapBlock, Sort.ahead, Array.getElem?_modify, hb, onCells]
  refine ⟨hl, .inr ⟨g, cap, _, rfl, hbase, hblk, h1, h2, by simp [putCells, h3], ?_⟩⟩
  rw [← hl]
  apply List.ext_getElem?
  intro j
  by_cases hj : j < ys.length
  · rw [List.getElem?_take_of_lt hj, Array.getElem?_toList]
    simp [putCells, hj, show j < cur.size by omega]
  · rw [List.getElem?_take_eq_none (by omega), List.getElem?_eq_none (by omega)]

theorem grown_sorted {w : World} {g n : Nat} {os : Array Obj} (d : Array Value) : w.grownBy (grow (putRow id (Sort.ahead w n) g 0 d) os) (some g) := by
  refine ⟨rfl, rfl, rfl, by simp, fun k hk hne => ?_⟩
  rw [heap_grow_old _ _ (by simpa using hk)]
  have : g ≠ k := fun e => hne (by rw [e])
  simp [putRow, mapBlock, Sort.ahead, Array.getElem?_modify, this]

def SortedPost (w : World) (base : Nat) (v : Value) (n : Nat) (ks : List Pr) (e : Ending) (w' : World) : Prop :=
  e = .returned (.tuple #[]) ∧ w'.ownsRow base 43 2 v n (cellsP ks) ∧ w.grownBy w' v.ownBlock

theorem sortfunc_any {w : World} {base n c : Nat} {A : Option Addr} {ks ks' : List Pr} (c' : Nat) (h : w.ownsRow base 43 2 (.slice A n c) n (cellsP ks)) (hn : ks.length = n) (hs : sortK ks = ks') (hlen : ks.length ≤ 1000000) :
    Calls Try.prog 103 #[.slice A n c', .func (.func 104) #[] #[]] w (SortedPost w base (.slice A n c) n ks') := by
  subst hn
  rcases h.2 with ⟨hv, h0⟩ | ⟨g, cap, cur, hv, hb, hg, hc, hm, hsz, ht⟩
  · have hk : ks = [] := List.eq_nil_of_length_eq_zero h0
    subst hk
    subst hs
    have hA : A = none := by injection hv
    subst hA
    exact (AnyF.slices_SortFunc_none (P := Try.prog) (ρ := Try.sortFuncA_ren) { Try.sortFuncA with } none c' (.func (.func 104) #[] #[]) w).mono fun e w' ⟨he, hw⟩ => by
      subst hw
      refine ⟨he, ?_, ⟨rfl, rfl, rfl, Nat.le_refl _, fun _ _ _ => rfl⟩⟩
      have : sortK [] = [] := by simp [sortK]
      rw [this]
      exact h
  · injection hv with hA _ hcap
    subst hA hcap
    have hgl : g < w.heap.size := (Array.getElem?_eq_some_iff.1 hg).1
    have hH : HoldsK encP 2 w g 0 ks.toArray := by
      unfold HoldsK
      rw [flat_cells]
      intro j hj
      have hj' : j < (cellsP ks).length := by simpa using hj
      refine ⟨?_, by simp [World.frozen?, hg]⟩
      have h1 : (cur.toList.take (ks.length * 2))[j]? = (cellsP ks)[j]? := by rw [ht]
      rw [List.getElem?_take_of_lt (by rw [← cellsP_len]; exact hj')] at h1
      simp only [World.cell?, hg, Nat.zero_add]
      simp only [Option.isSome_none, Bool.false_eq_true, if_false]
      rw [← Array.getElem?_toList, h1]
      simp [hj']
    have hcon := AnyQ.slices_SortFunc_total (ρ := Try.sortFuncA_ren) Try.sortFuncA 2 (fun w => by kernel_rfl) (fun w => by kernel_rfl) encP (fun _ => rfl) encP_one cmpK swoK 104 #[] g 0 c' ks.toArray w (enters_of Try.func104 (by kernel_rfl) rfl) (cmpLaysK g 0 _ w) hH hgl (by simp; omega) totK
    refine hcon.mono fun e w' ⟨he, n, os, hw⟩ => ?_
    have hw' : w' = grow (putRow id (Sort.ahead w n) g 0 (cellsP ks').toArray) os := by
      rw [hw, ← flat_cells, ← hs]
      rfl
    rw [hw']
    exact ⟨he, own_sorted _ hb hg hc hm hsz (by rw [cellsP_len, ← hs, sortK_len]), grown_sorted _⟩
end Go.Proofs.Ytbfnmgjpkieaoaa
