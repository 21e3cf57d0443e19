/-
  The pending writes in order: the library's SortFunc at places; the disk's row.
-/
import Derived.Test.YtnagpianaghjeaaDiskCollect
import Derived.Test.YtnagpianaghjeaaLayDisk
import Derived.Shelf.SlSortCmp.NoneTotal
import Derived.WalkSpells
namespace Go.Proofs.Ytnagpianaghjeaa.Pl
open Go Go.RowKit Go.Maps Go.Sort Go.Proofs Go.Shelf

/-- A pending write's number. -/
abbrev Ix := {k : Nat // k < 1048576}
instance : Inhabited Ix := ⟨⟨0, by decide⟩⟩
def toIx (i : Nat) : Ix := if h : i < 1048576 then ⟨i, h⟩ else ⟨0, by decide⟩
def fP (s : Nat → Int) (i : Nat) : Pr := ((i : Int), s i)
abbrev encP (x : Pr) : List Value := [.int .i64 x.1, .int .i64 x.2]
def encI (s : Nat → Int) (k : Ix) : List Value := encP (fP s k.1)
theorem encI_one (s : Nat → Int) (x : Ix) : ∀ v ∈ encI s x, v.oneCell' = true := fun v hv => by simp [encI, encP] at hv; rcases hv with rfl | rfl <;> rfl
def cmpX (a b : Ix) : Int := (a.1 : Int) - b.1
theorem ltX (a b : Ix) : ltOf cmpX a b = decide (a.1 < b.1) := by
  unfold ltOf cmpX
  congr 1
  simp only [eq_iff_iff]
  omega
theorem swoX : SWO (ltOf cmpX) where
  irrefl x := by rw [ltX]; simp
  trans x y z h1 h2 := by rw [ltX] at *; simp only [decide_eq_true_eq] at *; omega
  ntrans x y z h1 h2 := by rw [ltX] at *; simp only [decide_eq_false_iff_not] at *; omega
theorem totX (x y : Ix) (h1 : ltOf cmpX x y = false) (h2 : ltOf cmpX y x = false) : x = y := by
  rw [ltX] at h1 h2
  simp only [decide_eq_false_iff_not] at h1 h2
  exact Subtype.ext (by omega)
def sortX (ks : List Ix) : List Ix := ks.mergeSort (fun x y => !(ltOf cmpX) y x)
theorem sortX_len (ks : List Ix) : (sortX ks).length = ks.length := List.length_mergeSort _
def ixs (n : Nat) : List Ix := (List.range n).map toIx
theorem ixs_map (s : Nat → Int) {n : Nat} (hn : n ≤ 1048576) : (ixs n).map (fun k => fP s k.1) = (List.range n).map (fP s) := by
  unfold ixs
  rw [List.map_map]
  refine List.map_congr_left fun i hi => ?_
  have : i < 1048576 := by have := List.mem_range.1 hi; omega
  simp [toIx, this]
theorem ixs_sorted {n : Nat} (hn : n ≤ 1048576) : (ixs n).Pairwise (fun a b => (!(ltOf cmpX) b a) = true) := by
  unfold ixs
  rw [List.pairwise_map]
  refine (List.pairwise_lt_range (n := n)).imp_of_mem fun {a b} ha hb h => ?_
  have h1 := List.mem_range.1 ha
  have h2 := List.mem_range.1 hb
  simp [toIx, show a < 1048576 by omega, show b < 1048576 by omega, ltX]
  omega
theorem leX_trans (a b c : Ix) (h1 : (!(ltOf cmpX) b a) = true) (h2 : (!(ltOf cmpX) c b) = true) : (!(ltOf cmpX) c a) = true := by
  rw [ltX] at *
  simp only [Bool.not_eq_true', decide_eq_false_iff_not] at *
  omega
theorem leX_total (a b : Ix) : ((!(ltOf cmpX) b a) || (!(ltOf cmpX) a b)) = true := by
  rw [ltX, ltX]
  simp only [Bool.or_eq_true, Bool.not_eq_true', decide_eq_false_iff_not]
  omega
theorem sortX_eq {l : List Ix} {n : Nat} (hn : n ≤ 1048576) (h : l.Perm (ixs n)) : sortX l = ixs n := by
  refine List.Perm.eq_of_pairwise (le := fun a b => (!(ltOf cmpX) b a) = true) (fun a b _ _ h1 h2 => ?_) (List.pairwise_mergeSort leX_trans leX_total l) (ixs_sorted hn) ((List.mergeSort_perm l _).trans h)
  simp only [Bool.not_eq_true'] at h1 h2
  exact totX a b h2 h1
/-- Places in any order are numbers in any order. -/
theorem ixs_of {s : Nat → Int} {ss : List Pr} {n : Nat} (hn : n ≤ 1048576) (h : ss.Perm ((List.range n).map (fP s))) : ∃ l : List Ix, ss = l.map (fun k => fP s k.1) ∧ l.Perm (ixs n) := by
  refine ⟨ss.map (fun p => toIx p.1.toNat), ?_, ?_⟩
  · rw [List.map_map]
    conv => lhs; rw [← List.map_id ss]
    refine List.map_congr_left fun p hp => ?_
    obtain ⟨i, hi, rfl⟩ := List.mem_map.1 (h.mem_iff.1 hp)
    have : i < 1048576 := by have := List.mem_range.1 hi; omega
    show fP s i = fP s (toIx (Int.toNat (i : Int))).1
    rw [Int.toNat_natCast]
    unfold toIx
    rw [dif_pos this]
  · have := h.map (fun p => toIx p.1.toNat)
    refine this.trans ?_
    rw [List.map_map]
    have e : (fun p : Pr => toIx p.1.toNat) ∘ fP s = toIx := by funext i; simp [fP]
    rw [e]
    exact List.Perm.refl _

theorem rowcmp_any {s : Nat → Int} (x y : Ix) (w : World) : Calls Try.prog 123 #[encK (fP s x.1), encK (fP s y.1)] w (CmpPost w (cmpX x y)) := by
  obtain ⟨x, hx⟩ := x
  obtain ⟨y, hy⟩ := y
  have hw : IntKind.i64.wrap ((x : Int) - y) = (x : Int) - y := IntWalk.i64_in _ (by omega)
  unfold fP cmpX
  generalize s x = sx
  generalize s y = sy
  go_enter Try.func123, Try.ntmps123
  go_wp2
  go_ret
  exact ⟨rfl, ((Lays.refl w).alloc _).alloc _⟩
theorem cmpLaysX (s : Nat → Int) (blk off size : Nat) (w : World) : CmpLays Try.prog 123 #[] (encI s) 2 cmpX blk off size w :=
  fun _ _ _ _ x y => (rowcmp_any (s := s) x y _).mono fun _ _ ⟨he, h⟩ => ⟨he, h⟩

theorem cells_at (s : Nat → Int) (ks : List Ix) (q r : Nat) (hq : q < ks.length) (hr : r < 2) : (cellsP (ks.map fun k => fP s k.1))[q * 2 + r]? = some ((encI s ks[q])[r]!) := by
  have := cellsP_get (R := ks.map fun k => fP s k.1) (k := q) (by simpa using hq)
  simp only [List.getElem_map] at this
  rcases r with _ | _ | r
  · exact this.1
  · exact this.2
  · omega
theorem flat_cells (s : Nat → Int) (ks : List Ix) : flatK (encI s) 2 ks.toArray = (cellsP (ks.map fun k => fP s k.1)).toArray := by
  apply Array.ext
  · simp [cellsP_len]
  · intro t h1 h2
    have h1' : t < ks.length * 2 := by simpa using h1
    have hk : t / 2 < ks.length := by omega
    have e1 : (flatK (encI s) 2 ks.toArray)[t] = (encI s ks[t / 2])[t % 2]! := by
      rw [← getElem!_pos _ t h1, get_flatK _ _ _ _ (by simpa using h1)]
      congr 1
      simp [hk]
    have e2 := cells_at s ks (t / 2) (t % 2) hk (by omega)
    have e3 : t / 2 * 2 + t % 2 = t := by omega
    rw [e1]
    apply Option.some.inj
    rw [← e2]
    have e4 : (cellsP (ks.map fun k => fP s k.1))[t]? = some ((cellsP (ks.map fun k => fP s k.1)).toArray[t]) := by simp
    rw [← e4]
    exact congrArg (fun n => (cellsP (ks.map fun k => fP s k.1))[n]?) e3
theorem own_sorted {w : World} {base g cap n k : Nat} {e : TypeId} {os : Array Obj} {cur : Array Value} {size : Nat} (ys : List Value) (hbase : base ≤ g) (hb : w.heap[g]? = some (.cells cur e (0, 0)))
    (h1 : k ≤ cap) (h2 : cap ≤ maxLen) (h3 : cur.size = cap * size) (hl : ys.length = k * size) :
    (grow (putRow id (Sort.ahead w n) g 0 ys.toArray) os).ownsRow base e size (.slice (some ⟨g, 0, none⟩) k cap) k ys := by
  have hg : g < w.heap.size := (Array.getElem?_eq_some_iff.1 hb).1
  have hle : ys.length ≤ cur.size := by rw [hl, h3]; exact Nat.mul_le_mul_right _ h1
  have hblk : (grow (putRow id (Sort.ahead w n) g 0 ys.toArray) os).heap[g]? = some (.cells (putCells id 0 ys.toArray cur) e (0, 0)) := by
    rw [heap_grow_old _ _ (by simpa using hg)]
    simp [putRow, mapBlock, Sort.ahead, Array.getElem?_modify, hb, onCells]
  refine ⟨hl, .inr ⟨g, cap, _, rfl, hbase, hblk, h1, h2, by simp [putCells, h3], ?_⟩⟩
  rw [← hl]
  apply List.ext_getElem?
  intro j
  by_cases hj : j < ys.length
  · rw [List.getElem?_take_of_lt hj, Array.getElem?_toList]
    simp [putCells, hj, show j < cur.size by omega]
  · rw [List.getElem?_take_eq_none (by omega), List.getElem?_eq_none (by omega)]

theorem grown_sorted {w : World} {g n : Nat} {os : Array Obj} (d : Array Value) : w.grownBy (grow (putRow id (Sort.ahead w n) g 0 d) os) (some g) := by
  refine ⟨rfl, rfl, rfl, by simp, fun k hk hne => ?_⟩
  rw [heap_grow_old _ _ (by simpa using hk)]
  have : g ≠ k := fun e => hne (by rw [e])
  simp [putRow, mapBlock, Sort.ahead, Array.getElem?_modify, this]

def SortedPost (w : World) (base : Nat) (v : Value) (n : Nat) (ks : List Pr) (e : Ending) (w' : World) : Prop :=
  e = .returned (.tuple #[]) ∧ w'.ownsRow base 144 2 v n (cellsP ks) ∧ w.grownBy w' v.ownBlock

theorem sortplaces {w : World} {base n c : Nat} {A : Option Addr} {s : Nat → Int} {ks ks' : List Ix} (c' : Nat) (h : w.ownsRow base 144 2 (.slice A n c) n (cellsP (ks.map fun k => fP s k.1))) (hn : ks.length = n) (hs : sortX ks = ks') (hlen : ks.length ≤ 1000000) :
    Calls Try.prog 134 #[.slice A n c', .func (.func 123) #[] #[]] w (SortedPost w base (.slice A n c) n (ks'.map fun k => fP s k.1)) := by
  subst hn
  rcases h.2 with ⟨hv, h0⟩ | ⟨g, cap, cur, hv, hb, hg, hc, hm, hsz, ht⟩
  · have hk : ks = [] := List.eq_nil_of_length_eq_zero h0
    subst hk
    subst hs
    have hA : A = none := by injection hv
    subst hA
    exact (AnyF.slices_SortFunc_none (P := Try.prog) (ρ := Try.sortFuncP_ren) { Try.sortFuncP with } none c' (.func (.func 123) #[] #[]) w).mono fun e w' ⟨he, hw⟩ => by
      subst hw
      refine ⟨he, ?_, ⟨rfl, rfl, rfl, Nat.le_refl _, fun _ _ _ => rfl⟩⟩
      have : sortX [] = [] := by simp [sortX]
      rw [this]
      exact h
  · injection hv with hA _ hcap
    subst hA hcap
    have hgl : g < w.heap.size := (Array.getElem?_eq_some_iff.1 hg).1
    have hH : HoldsK (encI s) 2 w g 0 ks.toArray := by
      unfold HoldsK
      rw [flat_cells]
      intro j hj
      have hj' : j < (cellsP (ks.map fun k => fP s k.1)).length := by simpa using hj
      refine ⟨?_, by simp [World.frozen?, hg]⟩
      have h1 : (cur.toList.take (ks.length * 2))[j]? = (cellsP (ks.map fun k => fP s k.1))[j]? := by rw [ht]
      rw [List.getElem?_take_of_lt (by rw [cellsP_len] at hj'; simpa using hj')] at h1
      simp only [World.cell?, hg, Nat.zero_add]
      simp only [Option.isSome_none, Bool.false_eq_true, if_false]
      rw [← Array.getElem?_toList, h1]
      generalize cellsP (ks.map fun k => fP s k.1) = cl at hj'
      simp [hj']
    have hcon := AnyQ.slices_SortFunc_total (ρ := Try.sortFuncP_ren) Try.sortFuncP 2 (fun w => by kernel_rfl) (fun w => by kernel_rfl) (encI s) (fun _ => rfl) (encI_one s) cmpX swoX 123 #[] g 0 c' ks.toArray w (enters_of Try.func123 (by kernel_rfl) rfl) (cmpLaysX s g 0 _ w) hH hgl (by simp; omega) totX
    refine hcon.mono fun e w' ⟨he, n, os, hw⟩ => ?_
    have hw' : w' = grow (putRow id (Sort.ahead w n) g 0 (cellsP (ks'.map fun k => fP s k.1)).toArray) os := by
      rw [hw, ← flat_cells, ← hs]
      rfl
    rw [hw']
    exact ⟨he, own_sorted _ hb hg hc hm hsz (by rw [cellsP_len, ← hs, List.length_map, sortX_len]), grown_sorted _⟩

set_option maxHeartbeats 1000000 in
theorem sortedFuncP {N n : Nat} {s : Nat → Int} {P : List Pr} (hP : P = (List.range n).map (fP s)) (g : Nat) (lb : Array Value) (eg : ∀ args w, (callFunc g args).run Try.prog w = .ok (.enter g args) w) (hN : N ≤ 1000000) (hn : n ≤ 1000000)
    (w : World) (hseq : SeqGives Fence.wide 2 Try.prog g lb encK (fun ss => ss.Perm P) N w) :
    CallsIn Fence.wide 5 Try.prog 121 #[.func (.func g) #[] lb, .func (.func 123) #[] #[]] w fun e w' => ∃ A c, e = .returned (.slice A n c) ∧ w'.ownsRow w.heap.size 144 2 (.slice A n c) n (cellsP P) ∧ Below w.heap.size w w' := by
  have cC := collectK Fence.wide 4 trivial trivial rfl (by omega) g lb trivial eg (fun ss => ss.Perm P) N (by unfold maxLen; omega) (by omega) w hseq
  have hfC : Fence.wide.fn 133 := trivial
  have hfS : Fence.wide.fn 134 := trivial
  refine callsIn_of_wp Try.func121 rfl trivial ?_ rfl
  simp only [Try.ntmps121, List.size_toArray, List.length_cons, List.length_nil, Nat.reduceAdd, Nat.reduceSub, Array.replicate_succ, Array.replicate_zero, List.push_toArray, List.append_toArray, List.nil_append, List.cons_append]
  gi_wp2_with (gi_at_call 133; refine cC.mono ?_; rintro e w1 ⟨v, ss, rfl, hS, hrow, hb⟩; obtain ⟨A, c, rfl, hc, hcm, hA, -, -⟩ := own_form hrow)
  rw [hP] at hS
  obtain ⟨ks, rfl, hpk⟩ := ixs_of (by omega) hS
  have hkl : ks.length = n := by rw [hpk.length_eq]; simp [ixs]
  rw [List.length_map] at hrow
  have cS := callsIn_wide (n := 4).2 (sortplaces (c' := c) hrow rfl (sortX_eq (by omega) hpk) (by omega))
  rw [List.length_map]
  gi_wp2_with (gi_at_call 134; refine cS.mono ?_; rintro e w2 ⟨rfl, hown2, hg2⟩)
  go_ret
  rw [hkl, ixs_map s (by omega), ← hP] at hown2
  exact ⟨A, c, by rw [← hkl]; rfl, hown2, hb.grown hg2 hb.size (fun k hk => (hrow.lt k hk).1)⟩
end Go.Proofs.Ytnagpianaghjeaa.Pl
