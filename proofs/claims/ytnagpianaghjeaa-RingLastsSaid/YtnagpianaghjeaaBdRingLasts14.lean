/-
  The pending writes in order: the library's SortFunc at places; the disk's row.
  A disk in memory: what its struct, its sectors, its pending writes read as.
  The disk's row: the pending writes in their order.
  The disk's settle: what is pending is kept, or lost, each as 'keep' says.
  slices.Clone and slices.Clip at bytes, Clone at bools.
  The small calls of a disk: what it may be, its sectors, on and off, what is pending; a cut, a sync, an arming.
  A disk's cut, its sync, its arming.
-/
import Derived.Test.YtnagpianaghjeaaBdRingLasts12
import Derived.Test.YtnagpianaghjeaaBdRingLasts13
import Derived.Shelf.SlSortCmp.NoneTotal
import Derived.WalkSpells
import Derived.Lib.Hide
import Derived.Deep.LoopGhost
import Derived.Deep.DeepMust
import Derived.OneCell
import Derived.Test.YtnagpianaghjeaaBdRingLasts1
import Derived.Test.YtnagpianaghjeaaBdRingLasts7
import Derived.Test.YtnagpianaghjeaaBdRingLasts5
namespace Go.Proofs.Ytnagpianaghjeaa.Pl
open Go Go.RowKit Go.Maps Go.Sort Go.Proofs Go.Shelf

/-- A pending write's number. -/
abbrev Ix := {k : Nat // k < 1048576}
instance : Inhabited Ix := ⟨⟨0, by decide⟩⟩
def toIx (i : Nat) : Ix := if h : i < 1048576 then ⟨i, h⟩ else ⟨0, by decide⟩
def fP (s : Nat → Int) (i : Nat) : Pr := ((i : Int), s i)
abbrev encP (x : Pr) : List Value := [.int .i64 x.1, .int .i64 x.2]
def encI (s : Nat → Int) (k : Ix) : List Value := encP (fP s k.1)
theorem encI_one (s : Nat → Int) (x : Ix) : ∀ v ∈ encI s x, v.oneCell' = true := fun v hv => by simp [encI, encP] at hv; rcases hv with rfl | rfl <;> rfl
def cmpX (a b : Ix) : Int := (a.1 : Int) - b.1
theorem ltX (a b : Ix) : ltOf cmpX a b = decide (a.1 < b.1) := by
  unfold ltOf cmpX
  congr 1
  simp only [eq_iff_iff]
  omega
theorem swoX : SWO (ltOf cmpX) where
  irrefl x := by rw [ltX]; simp
  trans x y z h1 h2 := by rw [ltX] at *; simp only [decide_eq_true_eq] at *; omega
  ntrans x y z h1 h2 := by rw [ltX] at *; simp only [decide_eq_false_iff_not] at *; omega
theorem totX (x y : Ix) (h1 : ltOf cmpX x y = false) (h2 : ltOf cmpX y x = false) : x = y := by
  rw [ltX] at h1 h2
  simp only [decide_eq_false_iff_not] at h1 h2
  exact Subtype.ext (by omega)
def sortX (ks : List Ix) : List Ix := ks.mergeSort (fun x y => !(ltOf cmpX) y x)
theorem sortX_len (ks : List Ix) : (sortX ks).length = ks.length := List.length_mergeSort _
def ixs (n : Nat) : List Ix := (List.range n).map toIx
theorem ixs_map (s : Nat → Int) {n : Nat} (hn : n ≤ 1048576) : (ixs n).map (fun k => fP s k.1) = (List.range n).map (fP s) := by
  unfold ixs
  rw [List.map_map]
  refine List.map_congr_left fun i hi => ?_
  have : i < 1048576 := by have := List.mem_range.1 hi; omega
  simp [toIx, this]
theorem ixs_sorted {n : Nat} (hn : n ≤ 1048576) : (ixs n).Pairwise (fun a b => (!(ltOf cmpX) b a) = true) := by
  unfold ixs
  rw [List.pairwise_map]
  refine (List.pairwise_lt_range (n := n)).imp_of_mem fun {a b} ha hb h => ?_
  have h1 := List.mem_range.1 ha
  have h2 := List.mem_range.1 hb
  simp [toIx, show a < 1048576 by omega, show b < 1048576 by omega, ltX]
  omega
theorem leX_trans (a b c : Ix) (h1 : (!(ltOf cmpX) b a) = true) (h2 : (!(ltOf cmpX) c b) = true) : (!(ltOf cmpX) c a) = true := by
  rw [ltX] at *
  simp only [Bool.not_eq_true', decide_eq_false_iff_not] at *
  omega
theorem leX_total (a b : Ix) : ((!(ltOf cmpX) b a) || (!(ltOf cmpX) a b)) = true := by
  rw [ltX, ltX]
  simp only [Bool.or_eq_true, Bool.not_eq_true', decide_eq_false_iff_not]
  omega
theorem sortX_eq {l : List Ix} {n : Nat} (hn : n ≤ 1048576) (h : l.Perm (ixs n)) : sortX l = ixs n := by
  refine List.Perm.eq_of_pairwise (le := fun a b => (!(ltOf cmpX) b a) = true) (fun a b _ _ h1 h2 => ?_) (List.pairwise_mergeSort leX_trans leX_total l) (ixs_sorted hn) ((List.mergeSort_perm l _).trans h)
  simp only [Bool.not_eq_true'] at h1 h2
  exact totX a b h2 h1
/-- Places in any order are numbers in any order. -/
theorem ixs_of {s : Nat → Int} {ss : List Pr} {n : Nat} (hn : n ≤ 1048576) (h : ss.Perm ((List.range n).map (fP s))) : ∃ l : List Ix, ss = l.map (fun k => fP s k.1) ∧ l.Perm (ixs n) := by
  refine ⟨ss.map (fun p => toIx p.1.toNat), ?_, ?_⟩
  · rw [List.map_map]
    conv => lhs; rw [← List.map_id ss]
    refine List.map_congr_left fun p hp => ?_
    obtain ⟨i, hi, rfl⟩ := List.mem_map.1 (h.mem_iff.1 hp)
    have : i < 1048576 := by have := List.mem_range.1 hi; omega
    show fP s i = fP s (toIx (Int.toNat (i : Int))).1
    rw [Int.toNat_natCast]
    unfold toIx
    rw [dif_pos this]
  · have := h.map (fun p => toIx p.1.toNat)
    refine this.trans ?_
    rw [List.map_map]
    have e : (fun p : Pr => toIx p.1.toNat) ∘ fP s = toIx := by funext i; simp [fP]
    rw [e]
    exact List.Perm.refl _

theorem rowcmp_any {s : Nat → Int} (x y : Ix) (w : World) : Calls Try.prog 123 #[encK (fP s x.1), encK (fP s y.1)] w (CmpPost w (cmpX x y)) := by
  obtain ⟨x, hx⟩ := x
  obtain ⟨y, hy⟩ := y
  have hw : IntKind.i64.wrap ((x : Int) - y) = (x : Int) - y := IntWalk.i64_in _ (by omega)
  unfold fP cmpX
  generalize s x = sx
  generalize s y = sy
  go_enter Try.func123, Try.ntmps123
  go_wp2
  go_ret
  exact ⟨rfl, ((Lays.refl w).alloc _).alloc _⟩
theorem cmpLaysX (s : Nat → Int) (blk off size : Nat) (w : World) : CmpLays Try.prog 123 #[] (encI s) 2 cmpX blk off size w :=
  fun _ _ _ _ x y => (rowcmp_any (s := s) x y _).mono fun _ _ ⟨he, h⟩ => ⟨he, h⟩

theorem cells_at (s : Nat → Int) (ks : List Ix) (q r : Nat) (hq : q < ks.length) (hr : r < 2) : (cellsP (ks.map fun k => fP s k.1))[q * 2 + r]? = some ((encI s ks[q])[r]!) := by
  have := cellsP_get (R := ks.map fun k => fP s k.1) (k := q) (by simpa using hq)
  simp only [List.getElem_map] at this
  rcases r with _ | _ | r
  · exact this.1
  · exact this.2
  · omega
theorem flat_cells (s : Nat → Int) (ks : List Ix) : flatK (encI s) 2 ks.toArray = (cellsP (ks.map fun k => fP s k.1)).toArray := by
  apply Array.ext
  · simp [cellsP_len]
  · intro t h1 h2
    have h1' : t < ks.length * 2 := by simpa using h1
    have hk : t / 2 < ks.length := by omega
    have e1 : (flatK (encI s) 2 ks.toArray)[t] = (encI s ks[t / 2])[t % 2]! := by
      rw [← getElem!_pos _ t h1, get_flatK _ _ _ _ (by simpa using h1)]
      congr 1
      simp [hk]
    have e2 := cells_at s ks (t / 2) (t % 2) hk (by omega)
    have e3 : t / 2 * 2 + t % 2 = t := by omega
    rw [e1]
    apply Option.some.inj
    rw [← e2]
    have e4 : (cellsP (ks.map fun k => fP s k.1))[t]? = some ((cellsP (ks.map fun k => fP s k.1)).toArray[t]) := by simp
    rw [← e4]
    exact congrArg (fun n => (cellsP (ks.map fun k => fP s k.1))[n]?) e3
theorem own_sorted {w : World} {base g cap n k : Nat} {e : TypeId} {os : Array Obj} {cur : Array Value} {size : Nat} (ys : List Value) (hbase : base ≤ g) (hb : w.heap[g]? = some (.cells cur e (0, 0)))
    (h1 : k ≤ cap) (h2 : cap ≤ maxLen) (h3 : cur.size = cap * size) (hl : ys.length = k * size) :
    (grow (putRow id (Sort.ahead w n) g 0 ys.toArray) os).ownsRow base e size (.slice (some ⟨g, 0, none⟩) k cap) k ys := by
  have hg : g < w.heap.size := (Array.getElem?_eq_some_iff.1 hb).1
  have hle : ys.length ≤ cur.size := by rw [hl, h3]; exact Nat.mul_le_mul_right _ h1
  have hblk : (grow (putRow id (Sort.ahead w n) g 0 ys.toArray) os).heap[g]? = some (.cells (putCells id 0 ys.toArray cur) e (0, 0)) := by
    rw [heap_grow_old _ _ (by simpa using hg)]
    simp [putRow, mapBlock, Sort.ahead, Array.getElem?_modify, hb, onCells]
  refine ⟨hl, .inr ⟨g, cap, _, rfl, hbase, hblk, h1, h2, by simp [putCells, h3], ?_⟩⟩
  rw [← hl]
  apply List.ext_getElem?
  intro j
  by_cases hj : j < ys.length
  · rw [List.getElem?_take_of_lt hj, Array.getElem?_toList]
    simp [putCells, hj, show j < cur.size by omega]
  · rw [List.getElem?_take_eq_none (by omega), List.getElem?_eq_none (by omega)]

theorem grown_sorted {w : World} {g n : Nat} {os : Array Obj} (d : Array Value) : w.grownBy (grow (putRow id (Sort.ahead w n) g 0 d) os) (some g) := by
  refine ⟨rfl, rfl, rfl, by simp, fun k hk hne => ?_⟩
  rw [heap_grow_old _ _ (by simpa using hk)]
  have : g ≠ k := fun e => hne (by rw [e])
  simp [putRow, mapBlock, Sort.ahead, Array.getElem?_modify, this]

def SortedPost (w : World) (base : Nat) (v : Value) (n : Nat) (ks : List Pr) (e : Ending) (w' : World) : Prop :=
  e = .returned (.tuple #[]) ∧ w'.ownsRow base 144 2 v n (cellsP ks) ∧ w.grownBy w' v.ownBlock

theorem sortplaces {w : World} {base n c : Nat} {A : Option Addr} {s : Nat → Int} {ks ks' : List Ix} (c' : Nat) (h : w.ownsRow base 144 2 (.slice A n c) n (cellsP (ks.map fun k => fP s k.1))) (hn : ks.length = n) (hs : sortX ks = ks') (hlen : ks.length ≤ 1000000) :
    Calls Try.prog 134 #[.slice A n c', .func (.func 123) #[] #[]] w (SortedPost w base (.slice A n c) n (ks'.map fun k => fP s k.1)) := by
  subst hn
  rcases h.2 with ⟨hv, h0⟩ | ⟨g, cap, cur, hv, hb, hg, hc, hm, hsz, ht⟩
  · have hk : ks = [] := List.eq_nil_of_length_eq_zero h0
    subst hk
    subst hs
    have hA : A = none := by injection hv
    subst hA
    exact (AnyF.slices_SortFunc_none (P := Try.prog) (ρ := Try.sortFuncP_ren) { Try.sortFuncP with } none c' (.func (.func 123) #[] #[]) w).mono fun e w' ⟨he, hw⟩ => by
      subst hw
      refine ⟨he, ?_, ⟨rfl, rfl, rfl, Nat.le_refl _, fun _ _ _ => rfl⟩⟩
      have : sortX [] = [] := by simp [sortX]
      rw [this]
      exact h
  · injection hv with hA _ hcap
    subst hA hcap
    have hgl : g < w.heap.size := (Array.getElem?_eq_some_iff.1 hg).1
    have hH : HoldsK (encI s) 2 w g 0 ks.toArray := by
      unfold HoldsK
      rw [flat_cells]
      intro j hj
      have hj' : j < (cellsP (ks.map fun k => fP s k.1)).length := by simpa using hj
      refine ⟨?_, by simp [World.frozen?, hg]⟩
      have h1 : (cur.toList.take (ks.length * 2))[j]? = (cellsP (ks.map fun k => fP s k.1))[j]? := by rw [ht]
      rw [List.getElem?_take_of_lt (by rw [cellsP_len] at hj'; simpa using hj')] at h1
      simp only [World.cell?, hg, Nat.zero_add]
      simp only [Option.isSome_none, Bool.false_eq_true, if_false]
      rw [← Array.getElem?_toList, h1]
      generalize cellsP (ks.map fun k => fP s k.1) = cl at hj'
      simp [hj']
    have hcon := AnyQ.slices_SortFunc_total (ρ := Try.sortFuncP_ren) Try.sortFuncP 2 (fun w => by kernel_rfl) (fun w => by kernel_rfl) (encI s) (fun _ => rfl) (encI_one s) cmpX swoX 123 #[] g 0 c' ks.toArray w (enters_of Try.func123 (by kernel_rfl) rfl) (cmpLaysX s g 0 _ w) hH hgl (by simp; omega) totX
    refine hcon.mono fun e w' ⟨he, n, os, hw⟩ => ?_
    have hw' : w' = grow (putRow id (Sort.ahead w n) g 0 (cellsP (ks'.map fun k => fP s k.1)).toArray) os := by
      rw [hw, ← flat_cells, ← hs]
      rfl
    rw [hw']
    exact ⟨he, own_sorted _ hb hg hc hm hsz (by rw [cellsP_len, ← hs, List.length_map, sortX_len]), grown_sorted _⟩

set_option maxHeartbeats 1000000 in
theorem sortedFuncP {N n : Nat} {s : Nat → Int} {P : List Pr} (hP : P = (List.range n).map (fP s)) (g : Nat) (lb : Array Value) (eg : ∀ args w, (callFunc g args).run Try.prog w = .ok (.enter g args) w) (hN : N ≤ 1000000) (hn : n ≤ 1000000)
    (w : World) (hseq : SeqGives Fence.wide 2 Try.prog g lb encK (fun ss => ss.Perm P) N w) :
    CallsIn Fence.wide 5 Try.prog 121 #[.func (.func g) #[] lb, .func (.func 123) #[] #[]] w fun e w' => ∃ A c, e = .returned (.slice A n c) ∧ w'.ownsRow w.heap.size 144 2 (.slice A n c) n (cellsP P) ∧ Below w.heap.size w w' := by
  have cC := collectK Fence.wide 4 trivial trivial rfl (by omega) g lb trivial eg (fun ss => ss.Perm P) N (by unfold maxLen; omega) (by omega) w hseq
  have hfC : Fence.wide.fn 133 := trivial
  have hfS : Fence.wide.fn 134 := trivial
  refine callsIn_of_wp Try.func121 rfl trivial ?_ rfl
  simp only [Try.ntmps121, List.size_toArray, List.length_cons, List.length_nil, Nat.reduceAdd, Nat.reduceSub, Array.replicate_succ, Array.replicate_zero, List.push_toArray, List.append_toArray, List.nil_append, List.cons_append]
  gi_wp2_with (gi_at_call 133; refine cC.mono ?_; rintro e w1 ⟨v, ss, rfl, hS, hrow, hb⟩; obtain ⟨A, c, rfl, hc, hcm, hA, -, -⟩ := own_form hrow)
  rw [hP] at hS
  obtain ⟨ks, rfl, hpk⟩ := ixs_of (by omega) hS
  have hkl : ks.length = n := by rw [hpk.length_eq]; simp [ixs]
  rw [List.length_map] at hrow
  have cS := callsIn_wide (n := 4).2 (sortplaces (c' := c) hrow rfl (sortX_eq (by omega) hpk) (by omega))
  rw [List.length_map]
  gi_wp2_with (gi_at_call 134; refine cS.mono ?_; rintro e w2 ⟨rfl, hown2, hg2⟩)
  go_ret
  rw [hkl, ixs_map s (by omega), ← hP] at hown2
  exact ⟨A, c, by rw [← hkl]; rfl, hown2, hb.grown hg2 hb.size (fun k hk => (hrow.lt k hk).1)⟩
end Go.Proofs.Ytnagpianaghjeaa.Pl
namespace Go.Proofs.Ytnagpianaghjeaa.Pl
open Go Go.RowKit Go.Maps Go.Sort Go.Proofs

theorem own_weak {w : World} {base base' : Nat} {e : TypeId} {size n : Nat} {v : Value} {xs : List Value} (hb : base' ≤ base) (h : w.ownsRow base e size v n xs) : w.ownsRow base' e size v n xs := by
  refine ⟨h.1, ?_⟩
  rcases h.2 with hn | ⟨g, cap, cur, rfl, hb', r⟩
  · exact .inl hn
  · exact .inr ⟨g, cap, cur, rfl, Nat.le_trans hb hb', r⟩
abbrev encB (x : Int) : Value := .int .u8 x
/-- A sector's slice: its bytes in a block of bytes that is not elder than base. -/
def Sec (w : World) (base : Nat) (v : Value) (xs : List Int) : Prop :=
  ∃ g o c cs, v = .slice (some ⟨g, o, none⟩) xs.length c ∧ xs.length ≤ c ∧ c ≤ maxLen ∧ base ≤ g ∧ w.heap[g]? = some (.cells cs 5 (0, 0)) ∧ ∀ j u, (xs.map encB)[j]? = some u → w.cell? ⟨g, o + j, none⟩ = some u
theorem Sec.lt {w : World} {base : Nat} {v : Value} {xs : List Int} (h : Sec w base v xs) : ∃ g o c, v = .slice (some ⟨g, o, none⟩) xs.length c ∧ xs.length ≤ c ∧ c ≤ maxLen ∧ base ≤ g ∧ g < w.heap.size ∧ ∀ j u, (xs.map encB)[j]? = some u → w.cell? ⟨g, o + j, none⟩ = some u := by
  obtain ⟨g, o, c, cs, hv, hc, hm, hb, hg, hx⟩ := h
  exact ⟨g, o, c, hv, hc, hm, hb, (Array.getElem?_eq_some_iff.1 hg).1, hx⟩
theorem Sec.moves {S : Nat → Prop} {w w' : World} {base : Nat} {v : Value} {xs : List Int} (h : Sec w base v xs) (hm : Moves S w w') (hs : ∀ g cs, w.heap[g]? = some (.cells cs 5 (0, 0)) → ¬ S g) : Sec w' base v xs := by
  obtain ⟨g, o, c, cs, hv, hc, hmx, hb, hg, hx⟩ := h
  have hlt := (Array.getElem?_eq_some_iff.1 hg).1
  exact ⟨g, o, c, cs, hv, hc, hmx, hb, (hm.block g hlt (hs g cs hg)).trans hg, fun j u hu => (hm.cell (p := ⟨g, o + j, none⟩) hlt (hs g cs hg)).trans (hx j u hu)⟩
theorem Sec.of_own {w : World} {base n : Nat} {v : Value} {xs : List Int} (h : w.ownsRow base 5 1 v n (xs.map encB)) (h0 : 0 < xs.length) : Sec w base v xs := by
  obtain rfl : xs.length = n := by simpa using h.1
  rcases h.2 with ⟨rfl, h1⟩ | ⟨g, cap, cur, rfl, hb, hg, hn, hm, hs, ht⟩
  · omega
  · refine ⟨g, 0, cap, cur, rfl, hn, hm, hb, hg, fun j u hu => ?_⟩
    have hj : j < xs.length := by have := (List.getElem?_eq_some_iff.1 hu).1; simpa using this
    rw [← ht, List.getElem?_take_of_lt (by omega)] at hu
    simp only [World.cell?, hg, Nat.zero_add, Option.isSome_none, Bool.false_eq_true, if_false]
    rw [← Array.getElem?_toList]
    exact hu

/-- The i-th sector that is written to, the i-th slice. -/
def sF (ss : List Int) (i : Nat) : Int := ss.getD i 0
def vF (vs : List Value) (i : Nat) : Value := vs.getD i undef
def pl (ss : List Int) (vs : List Value) : List (Pr × Value) := (List.range ss.length).map fun i => (fP (sF ss) i, vF vs i)
theorem pl_fst (ss : List Int) (vs : List Value) : (pl ss vs).map Prod.fst = (List.range ss.length).map (fP (sF ss)) := by
  unfold pl
  rw [List.map_map]
  rfl
theorem pl_len (ss : List Int) (vs : List Value) : (pl ss vs).length = ss.length := by simp [pl]
theorem sF_append (ss : List Int) (x : Int) {i : Nat} (h : i < ss.length) : sF (ss ++ [x]) i = sF ss i := by
  unfold sF
  rw [List.getD_eq_getElem?_getD, List.getD_eq_getElem?_getD, List.getElem?_append_left h]
theorem sF_last (ss : List Int) (x : Int) : sF (ss ++ [x]) ss.length = x := by
  unfold sF
  rw [List.getD_eq_getElem?_getD, List.getElem?_append_right (Nat.le_refl _)]
  simp
theorem vF_append (vs : List Value) (x : Value) {i : Nat} (h : i < vs.length) : vF (vs ++ [x]) i = vF vs i := by
  unfold vF
  rw [List.getD_eq_getElem?_getD, List.getD_eq_getElem?_getD, List.getElem?_append_left h]
theorem vF_last (vs : List Value) (x : Value) : vF (vs ++ [x]) vs.length = x := by
  unfold vF
  rw [List.getD_eq_getElem?_getD, List.getElem?_append_right (Nat.le_refl _)]
  simp
theorem pl_append {ss : List Int} {vs : List Value} (h : vs.length = ss.length) (x : Int) (v : Value) : pl (ss ++ [x]) (vs ++ [v]) = pl ss vs ++ [(((ss.length : Int), x), v)] := by
  unfold pl
  rw [List.length_append, List.length_singleton, List.range_succ, List.map_append]
  congr 1
  · refine List.map_congr_left fun i hi => ?_
    have hi := List.mem_range.1 hi
    rw [vF_append _ _ (by omega)]
    unfold fP
    rw [sF_append _ _ hi]
  · have := vF_last vs v
    rw [h] at this
    simp [fP, sF_last, this]
theorem pl_mem {ss : List Int} {vs : List Value} {i : Nat} (h : i < ss.length) : (fP (sF ss) i, vF vs i) ∈ pl ss vs := List.mem_map.2 ⟨i, List.mem_range.2 h, rfl⟩
theorem pl_new (ss : List Int) (vs : List Value) (x : Int) : ((ss.length : Int), x) ∉ (pl ss vs).map Prod.fst := by
  rw [pl_fst]
  intro h
  obtain ⟨i, hi, e⟩ := List.mem_map.1 h
  have hi := List.mem_range.1 hi
  have : (i : Int) = ss.length := congrArg Prod.fst e
  omega

/-- A disk's state. -/
structure DS where
  size : Nat
  kept : List (List Int)
  secs : List Int
  data : List (List Int)
  off : Bool
  armed : Bool
  left : Int
  keep : List Bool
  writes : Int

def All2 {α β : Type} (R : α → β → Prop) (l : List α) (l' : List β) : Prop := l.length = l'.length ∧ ∀ i (h : i < l.length) (h' : i < l'.length), R l[i] l'[i]
theorem All2.nil {α β : Type} (R : α → β → Prop) : All2 R [] [] := ⟨rfl, fun i h => by simp at h⟩
theorem All2.append {α β : Type} {R : α → β → Prop} {l : List α} {l' : List β} {a : α} {b : β} (h : All2 R l l') (hr : R a b) : All2 R (l ++ [a]) (l' ++ [b]) := by
  refine ⟨by simp [h.1], fun i hi hi' => ?_⟩
  by_cases e : i < l.length
  · rw [List.getElem_append_left e, List.getElem_append_left (by have := h.1; omega)]
    exact h.2 i e _
  · have : i = l.length := by simp at hi; omega
    subst this
    rw [List.getElem_append_right (by omega), List.getElem_append_right (by have := h.1; omega)]
    have h1 := h.1
    simp only [h1, Nat.sub_self, List.getElem_cons_zero]
    simpa using hr
theorem All2.set {α β : Type} {R : α → β → Prop} {l : List α} {l' : List β} {a : α} {b : β} (h : All2 R l l') (hr : R a b) (i : Nat) : All2 R (l.set i a) (l'.set i b) := by
  refine ⟨by simp [h.1], fun j hj hj' => ?_⟩
  by_cases e : i = j
  · subst e; simpa using hr
  · have h1 := h.2 j (by simpa using hj) (by simpa using hj')
    simpa [List.getElem_set, e] using h1
theorem All2.mono {α β : Type} {R R' : α → β → Prop} {l : List α} {l' : List β} (h : All2 R l l') (hr : ∀ a b, R a b → R' a b) : All2 R' l l' := ⟨h.1, fun i hi hi' => hr _ _ (h.2 i hi hi')⟩

structure DiskAt (w : World) (base d : Nat) (S : DS) (kv : Value) (kvs : List Value) (m : Nat) (D : DataW Value) (pvs : List Value) (kpv : Value) : Prop where
  blk : w.heap[d]? = some (.cells #[.int .i64 S.size, kv, .map (some m), .bool S.off, .bool S.armed, .int .i64 S.left, kpv, .int .i64 S.writes] 105 (0, 0))
  hd : base ≤ d
  kept : w.ownsRow base 55 1 kv kvs.length kvs
  secs : All2 (Sec w base) kvs S.kept
  hm : base ≤ m
  map : w.ownsMap Try.prog 144 RV m S.secs.length D
  pend : VOf D (pl S.secs pvs)
  data : All2 (Sec w base) pvs S.data
  len : S.data.length = S.secs.length
  keep : w.ownsRow base 4 1 kpv S.keep.length (S.keep.map .bool)
  wf : ∀ x ∈ S.kept, x.length = S.size
  wfd : ∀ x ∈ S.data, x.length = S.size
  wfs : ∀ x ∈ S.secs, 0 ≤ x ∧ x < S.kept.length
  few : S.secs.length ≤ 1000000 ∧ S.kept.length ≤ 16384
/-- Some disk there, in this state. -/
def IsDisk (w : World) (base d : Nat) (S : DS) : Prop := ∃ kv kvs m D pvs kpv, DiskAt w base d S kv kvs m D pvs kpv
/-- The blocks that a call on the disk may write to. -/
def DOwn (w : World) (d k : Nat) : Prop := k = d ∨ ∃ cs, w.heap[d]? = some (.cells cs 105 (0, 0)) ∧ ((∃ v, cs[1]? = some v ∧ v.ownBlock = some k) ∨ cs[2]? = some (.map (some k)))

theorem DiskAt.own {w : World} {base d : Nat} {S : DS} {kv : Value} {kvs : List Value} {m : Nat} {D : DataW Value} {pvs : List Value} {kpv : Value} (h : DiskAt w base d S kv kvs m D pvs kpv) {k : Nat} (hk : DOwn w d k) : k = d ∨ kv.ownBlock = some k ∨ k = m := by
  rcases hk with rfl | ⟨cs, hb, hk⟩
  · exact .inl rfl
  · rw [h.blk] at hb
    cases hb
    rcases hk with ⟨v, hv, hk⟩ | hk
    · simp at hv; subst hv; exact .inr (.inl hk)
    · simp at hk; exact .inr (.inr hk.symm)
theorem IsDisk.low {w : World} {base d : Nat} {S : DS} (h : IsDisk w base d S) : ∀ k, DOwn w d k → base ≤ k := fun k hk => by
  obtain ⟨kv, kvs, m, D, pvs, kpv, h⟩ := h
  rcases h.own hk with rfl | hk | rfl
  · exact h.hd
  · exact (h.kept.lt k hk).1
  · exact h.hm
/-- A block of cells of another type is none of the disk's own. -/
theorem IsDisk.apart {w : World} {base d g : Nat} {S : DS} {cs : Array Value} {t : TypeId} {fr : Nat × Nat} (h : IsDisk w base d S) (hg : w.heap[g]? = some (.cells cs t fr)) (h1 : t ≠ 105) (h2 : t ≠ 55) : ¬ DOwn w d g := fun hk => by
  obtain ⟨kv, kvs, m, D, pvs, kpv, h⟩ := h
  rcases h.own hk with rfl | hk | rfl
  · rw [h.blk] at hg; cases hg; exact h1 rfl
  · obtain ⟨cur, hc⟩ := own_block h.kept hk
    rw [hc] at hg; cases hg; exact h2 rfl
  · obtain ⟨es, ck, hb, _⟩ := h.map
    rw [hb] at hg; cases hg
/-- What is the disk's own stays its own, or is new: so calls may stand one behind the other. -/
def DKeep (w : World) (d : Nat) (w' : World) : Prop := ∀ k, DOwn w' d k → DOwn w d k ∨ w.heap.size ≤ k
theorem DKeep.of {w w' : World} {d : Nat} {cs cs' : Array Value} (hb : w.heap[d]? = some (.cells cs 105 (0, 0))) (hb' : w'.heap[d]? = some (.cells cs' 105 (0, 0))) (h1 : cs'[1]? = cs[1]?) (h2 : ∀ k, cs'[2]? = some (.map (some k)) → cs[2]? = some (.map (some k)) ∨ w.heap.size ≤ k) : DKeep w d w' := fun k hk => by
  rcases hk with rfl | ⟨cs2, hb2, hk⟩
  · exact .inl (.inl rfl)
  · rw [hb'] at hb2
    cases hb2
    rcases hk with ⟨v, hv, hk⟩ | hk
    · exact .inl (.inr ⟨cs, hb, .inl ⟨v, by rw [← h1]; exact hv, hk⟩⟩)
    · rcases h2 k hk with h | h
      · exact .inl (.inr ⟨cs, hb, .inr h⟩)
      · exact .inr h
theorem DKeep.same {w w' : World} {d : Nat} (h : w'.heap[d]? = w.heap[d]?) : DKeep w d w' := fun k hk => by
  rcases hk with rfl | ⟨cs, hb, hk⟩
  · exact .inl (.inl rfl)
  · exact .inl (.inr ⟨cs, by rw [← h]; exact hb, hk⟩)
theorem DKeep.trans {w w1 w2 : World} {d : Nat} (h : DKeep w d w1) (k : DKeep w1 d w2) (hs : w.heap.size ≤ w1.heap.size) : DKeep w d w2 := fun i hi => by
  rcases k i hi with e | e
  · exact h i e
  · exact .inr (Nat.le_trans hs e)
/-- What calls on a disk, and new blocks, leave. -/
structure DMv (w : World) (d : Nat) (w' : World) : Prop where
  mv : Moves (DOwn w d) w w'
  kp : DKeep w d w'
theorem DMv.trans {w w1 w2 : World} {d : Nat} (h : DMv w d w1) (k : DMv w1 d w2) : DMv w d w2 := ⟨h.mv.andThen k.mv (fun i hi hlt => by
  rcases h.kp i hi with e | e
  · exact e
  · omega), h.kp.trans k.kp h.mv.size⟩
theorem DMv.of0 {w w' : World} {d : Nat} (h : Moves (fun _ => False) w w') (hd : d < w.heap.size) : DMv w d w' := ⟨h.none _, DKeep.same (h.block d hd (fun e => e))⟩
theorem IsDisk.moves {S : Nat → Prop} {w w' : World} {base d : Nat} {s : DS} (h : IsDisk w base d s) (hm : Moves S w w') (hs : ∀ k, base ≤ k → ¬ S k) : IsDisk w' base d s := by
  obtain ⟨kv, kvs, m, D, pvs, kpv, h⟩ := h
  have hsec : ∀ a b, Sec w base a b → Sec w' base a b := fun a b hab => by
    obtain ⟨g, o, c, cs, hv, hc, hmx, hb, hg, hx⟩ := hab
    have hlt := (Array.getElem?_eq_some_iff.1 hg).1
    exact ⟨g, o, c, cs, hv, hc, hmx, hb, (hm.block g hlt (hs g hb)).trans hg, fun j u hu => (hm.cell (p := ⟨g, o + j, none⟩) hlt (hs g hb)).trans (hx j u hu)⟩
  exact ⟨kv, kvs, m, D, pvs, kpv, (hm.block d (Array.getElem?_eq_some_iff.1 h.blk).1 (hs d h.hd)).trans h.blk, h.hd, own_moves h.kept hm (fun g hg => hs g (h.kept.lt g hg).1), h.secs.mono hsec, h.hm, hm.ownsMap h.map (hs m h.hm), h.pend, h.data.mono hsec, h.len, own_moves h.keep hm (fun g hg => hs g (h.keep.lt g hg).1), h.wf, h.wfd, h.wfs, h.few⟩
theorem IsDisk.moves0 {w w' : World} {base d : Nat} {s : DS} (h : IsDisk w base d s) (hm : Moves (fun _ => False) w w') : IsDisk w' base d s := h.moves hm (fun _ _ h => h)
theorem IsDisk.under {w0 w w' : World} {d : Nat} {S : DS} (h : IsDisk w w0.heap.size d S) (h0 : Moves (fun _ => False) w0 w) (hm : Moves (DOwn w d) w w') : Moves (fun _ => False) w0 w' :=
  h0.andThen hm (fun i hi hlt => absurd (h.low i hi) (by omega))
end Go.Proofs.Ytnagpianaghjeaa.Pl
namespace Go.Proofs.Ytnagpianaghjeaa.Pl
open Go Go.RowKit Go.Maps Go.Sort Go.Proofs Go.Shelf

def RowPost (w : World) (ss : List Int) (e : Ending) (w' : World) : Prop :=
  ∃ A c, e = .returned (.slice A ss.length c) ∧ w'.ownsRow w.heap.size 144 2 (.slice A ss.length c) ss.length (cellsP ((List.range ss.length).map (fP (sF ss)))) ∧ Moves (fun _ => False) w w'

set_option maxHeartbeats 1000000 in
theorem row_any {w : World} {base d : Nat} {S : DS} {kv : Value} {kvs : List Value} {m : Nat} {D : DataW Value} {pvs : List Value} {kpv : Value} (h : DiskAt w base d S kv kvs m D pvs kpv) : Calls Try.prog 101 #[.pointer (some ⟨d, 0, none⟩)] w (RowPost w S.secs) := by
  have hfew := h.few.1
  have c2 : w.cell? ⟨d, 2, none⟩ = some (.map (some m)) := by simp [World.cell?, h.blk]
  have hseq := keysK_gives Fence.wide 2 trivial rfl (by omega) w.heap.size m _ D h.pend (w.alloc (.cells #[.map (some m)] 103)) (by simp) (by simp) (h.map.alloc _)
  rw [pl_fst] at hseq
  have hsz : Maps.size D ≤ 1000000 := by rw [h.pend.size, pl_len]; exact hfew
  refine (callsIn_wide (n := 6)).1 ?_
  have cK := fun W => keysK_make Fence.wide 5 trivial rfl (some m) W
  have cS := sortedFuncP (n := S.secs.length) (s := sF S.secs) rfl 135 #[.pointer (some ⟨w.heap.size, 0, none⟩)] (enters_of Try.func135 (by kernel_rfl) rfl) hsz hfew _ hseq
  have hfK : Fence.wide.fn 122 := trivial
  have hfS : Fence.wide.fn 121 := trivial
  clear hseq h
  refine callsIn_of_wp Try.func101 rfl trivial ?_ rfl
  simp only [Try.ntmps101, List.size_toArray, List.length_cons, List.length_nil, Nat.reduceAdd, Nat.reduceSub, Array.replicate_succ, Array.replicate_zero, List.push_toArray, List.append_toArray, List.nil_append, List.cons_append]
  gi_wp2_with (first
    | (gi_at_call 122; refine (cK _).mono ?_; rintro e w' ⟨rfl, rfl⟩)
    | (gi_at_call 121; refine cS.mono ?_; rintro e w1 ⟨A, c, rfl, hrow, hb⟩))
  go_ret
  refine ⟨A, c, rfl, own_weak (by simp) hrow, Moves.of_below (((Below.refl _ w).alloc (Nat.le_refl _) _).trans (hb.mono (by simp)))⟩
end Go.Proofs.Ytnagpianaghjeaa.Pl
namespace Go.Proofs.Ytnagpianaghjeaa.Pl
open Go Go.RowKit Go.Maps Go.Sort Go.Proofs

theorem zeroS (w : World) : (zeroValue 55).run Try.prog w = .ok (.slice none 0 0) w := by kernel_rfl
set_option maxRecDepth 100000 in
theorem val_run {w : World} {m n : Nat} {D : DataW Value} {M : List (Pr × Value)} {p : Pr} {v : Value} (hown : w.ownsMap Try.prog 144 RV m n D) (hk : VOf D M) (hm : (p, v) ∈ M) :
    (Instr.lookup 103 (.map (some m)) (encK p) false).run Try.prog w = .ok v w := by
  obtain ⟨v', ps, hrun, hv⟩ := hown.lookup lawK Try.underlying103 (zeroS w) (rfl : RV (.slice none 0 0) = some (.held (.slice none 0 0), [])) (keyOf_K (hk.wf _ hm))
  have h1 := congrArg (Option.map Prod.fst) hv
  rw [hk.val _ hm] at h1
  simp [RV] at h1
  rw [hrun, h1]

theorem own_set {w : World} {base g n c i : Nat} {e : TypeId} {xs : List Value} (h : w.ownsRow base e 1 (.slice (some ⟨g, 0, none⟩) n c) n xs) (u : Value) : (w.setCell ⟨g, i, none⟩ u).ownsRow base e 1 (.slice (some ⟨g, 0, none⟩) n c) n (xs.set i u) := by
  refine ⟨by simpa using h.1, ?_⟩
  rcases h.2 with ⟨hv, _⟩ | ⟨g', cap, cur, hv, hb, hg, hn, hm, hs, ht⟩
  · cases hv
  · cases hv
    refine .inr ⟨g, c, cur.setIfInBounds i u, rfl, hb, ?_, hn, hm, by simpa using hs, ?_⟩
    · simp [World.setCell, Array.getElem?_modify, hg]
    · rw [← ht]
      simp [List.take_set]

/-- What is kept when the first n pending writes are settled. -/
def putN (K : List (List Int)) (ss : List Int) (ds : List (List Int)) (kp : Nat → Bool) (n : Nat) : List (List Int) :=
  (List.range n).foldl (fun K i => if kp i then K.set (sF ss i).toNat (ds.getD i []) else K) K
theorem putN_zero (K : List (List Int)) (ss : List Int) (ds : List (List Int)) (kp : Nat → Bool) : putN K ss ds kp 0 = K := rfl
theorem putN_succ (K : List (List Int)) (ss : List Int) (ds : List (List Int)) (kp : Nat → Bool) (n : Nat) : putN K ss ds kp (n + 1) = if kp n then (putN K ss ds kp n).set (sF ss n).toNat (ds.getD n []) else putN K ss ds kp n := by
  unfold putN
  rw [List.range_succ, List.foldl_append]
  rfl
theorem putN_len (K : List (List Int)) (ss : List Int) (ds : List (List Int)) (kp : Nat → Bool) (n : Nat) : (putN K ss ds kp n).length = K.length := by
  induction n with
  | zero => rfl
  | succ n ih => rw [putN_succ]; split <;> simp [ih]
theorem putN_wf {K : List (List Int)} {ss : List Int} {ds : List (List Int)} {kp : Nat → Bool} {n z : Nat} (hK : ∀ x ∈ K, x.length = z) (hd : ∀ x ∈ ds, x.length = z) (hn : n ≤ ds.length) : ∀ x ∈ putN K ss ds kp n, x.length = z := by
  induction n with
  | zero => exact hK
  | succ n ih =>
    intro x hx
    rw [putN_succ] at hx
    split at hx
    · rcases List.mem_or_eq_of_mem_set hx with hx | rfl
      · exact ih (by omega) x hx
      · have : n < ds.length := by omega
        rw [List.getD_eq_getElem?_getD, List.getElem?_eq_getElem this]
        exact hd _ (List.getElem_mem this)
    · exact ih (by omega) x hx
def settleS (S : DS) (kp : Nat → Bool) : DS := { S with kept := putN S.kept S.secs S.data kp S.secs.length, secs := [], data := [] }

def SettlePost (w : World) (base d : Nat) (S : DS) (e : Ending) (w' : World) : Prop := e = .returned (.tuple #[]) ∧ IsDisk w' base d S ∧ Moves (DOwn w d) w w' ∧ DKeep w d w'
def KeepPost (W : World) (b : Bool) (e : Ending) (W' : World) : Prop := e = .returned (.bool b) ∧ Moves (fun _ => False) W W'

theorem KeyBlk.cells {w : World} {g : Nat} {a b : Value} {t : TypeId} (h : w.heap[g]? = some (.cells #[a, b] t (0, 0))) : w.cell? ⟨g, 0, none⟩ = some a ∧ w.cell? ⟨g, 1, none⟩ = some b := by
  unfold World.cell?
  simp only [h]
  exact ⟨rfl, rfl⟩
/-- Between two rounds. -/
structure MidAt (w W : World) (base d : Nat) (S : DS) (kv : Value) (m : Nat) (D : DataW Value) (pvs : List Value) (kpv : Value) (kp : Nat → Bool) (i : Nat) : Prop where
  at_ : ∃ kvs, DiskAt W base d { S with kept := putN S.kept S.secs S.data kp i } kv kvs m D pvs kpv
  mov : Moves (DOwn w d) w W
set_option maxRecDepth 100000 in
set_option maxHeartbeats 4000000 in
theorem settle_any {w : World} {base d : Nat} {S : DS} {kv : Value} {kvs : List Value} {m : Nat} {D : DataW Value} {pvs : List Value} {kpv : Value} (h : DiskAt w base d S kv kvs m D pvs kpv) (g : Nat) (lb : Array Value) (kp : Nat → Bool)
    (eg : ∀ args w, (callFunc g args).run Try.prog w = .ok (.enter g args) w) (hk : ∀ i, i < S.secs.length → ∀ W, Moves (DOwn w d) w W → Calls Try.prog g (#[.int .i64 i] ++ lb) W (KeepPost W (kp i))) :
    Calls Try.prog 78 #[.pointer (some ⟨d, 0, none⟩), .func (.func g) #[] lb] w (SettlePost w base d (settleS S kp)) := by
  have HR := Lib.hid (row_any h)
  have H := Lib.hid h
  have HK := Lib.hid hk
  have hfew := h.few.1
  clear h hk
  go_enter Try.func78, Try.ntmps78
  go_wp2_with fail
  refine HR.out.mono ?_
  rintro e w1 ⟨A, c, rfl, hrow, hm1⟩
  obtain ⟨A', c', hv', hc, hcm, hA, hB, hx⟩ := own_form hrow
  cases hv'
  have HX := Lib.hid hx
  have HROW := Lib.hid hrow
  have h1 : MidAt w w1 base d S kv m D pvs kpv kp 0 := ⟨⟨kvs, by
    have h := H.out
    have hsec : ∀ a b, Sec w base a b → Sec w1 base a b := fun a b hab => hab.moves hm1 (fun _ _ _ h => h)
    exact ⟨(hm1.block d (Array.getElem?_eq_some_iff.1 h.blk).1 (fun h => h)).trans h.blk, h.hd, own_moves h.kept hm1 (fun _ _ h => h), h.secs.mono hsec, h.hm, hm1.ownsMap h.map (fun h => h), h.pend, h.data.mono hsec, h.len, own_moves h.keep hm1 (fun _ _ h => h), h.wf, h.wfd, h.wfs, h.few⟩⟩, hm1.none _⟩
  have H1 := Lib.hid h1
  have hs1 := hm1.size
  clear hx hrow hm1 h1 HR hB hA
  go_wp2_with fail
  go_loopg [9] S.secs.length (fun gg s9 wr => ∃ i : Nat, i ≤ S.secs.length ∧ gg = S.secs.length - i ∧ s9 = .int .i64 i ∧ MidAt w wr base d S kv m D pvs kpv kp i ∧ (∀ k, w.heap.size ≤ k → k < w1.heap.size → wr.heap[k]? = w1.heap[k]?) ∧ w1.heap.size ≤ wr.heap.size)
  case atStart => exact ⟨0, Nat.zero_le _, rfl, rfl, H1.out, fun _ _ _ => rfl, Nat.le_refl _⟩
  case round =>
    obtain ⟨i, hi, hgi, rfl, hmid, hold, hsz⟩ := hrel
    obtain ⟨wo, rfl⟩ : ∃ x, x = wr := ⟨wr, rfl⟩
    by_cases hin : i < S.secs.length
    · obtain ⟨gr, rfl, hgr, hgrl, hcell⟩ := HX.out (by omega)
      have hlen : ((List.range S.secs.length).map (fP (sF S.secs))).length = S.secs.length := by simp
      have hcg := cellsP_get (R := (List.range S.secs.length).map (fP (sF S.secs))) (k := i) (by rw [hlen]; exact hin)
      simp only [List.getElem_map, List.getElem_range, fP] at hcg
      have hv0 : wo.cell? ⟨gr, i * 2, none⟩ = some (.int .i64 i) := (World.cell?_of_block (w := w1) (hold gr hgr hgrl)).trans (hcell _ _ hcg.1)
      have hv1 : wo.cell? ⟨gr, i * 2 + 1, none⟩ = some (.int .i64 (sF S.secs i)) := (World.cell?_of_block (w := w1) (hold gr hgr hgrl)).trans (hcell _ _ hcg.2)
      have b0 : (0 : Int) ≤ (i : Int) := by omega
      have b1 : (i : Int) < (S.secs.length : Int) := by omega
      have HMID := Lib.hid hmid
      have HOLD := Lib.hid hold
      have HIN := Lib.hid hin
      clear hcell hcg hlen hmid hold
      have hcl := HMID.out
      obtain ⟨⟨kvs1, hD1⟩, hmv1⟩ := hcl
      have hww := hmv1.size
      have hpw := World.alloc_heap_new wo (.cells #[.int .i64 i, .int .i64 (sF S.secs i)] 144)
      have hma := (Moves.refl (fun _ => False) wo).alloc (.cells #[.int .i64 i, .int .i64 (sF S.secs i)] 144)
      have hkc := HK.out i hin _ (hmv1.trans (hma.none (DOwn w d)))
      have HD1 := Lib.hid hD1
      have HMV1 := Lib.hid hmv1
      have HMA := Lib.hid hma
      have HPW := Lib.hid hpw
      have HKC := Lib.hid hkc
      have HSI : Hid (wo.alloc (.cells #[.int .i64 i, .int .i64 (sF S.secs i)] 144) = wo.alloc (.cells #[.int .i64 i, .int .i64 (sF S.secs i)] 144)) := Lib.hid rfl
      clear hD1 hmv1 hma hpw hkc
      have HSV := Lib.hid (rfl : sF S.secs i = sF S.secs i)
      generalize hsi : sF S.secs i = si at hv1 HMA HPW HKC
      have HSIE := Lib.hid hsi
      clear hsi HSV HSI
      go_wp2_with fail
      refine HKC.out.mono ?_
      rintro e w2 ⟨rfl, hm2⟩
      have hmw := HMA.out.trans hm2
      have hpb : w2.heap[wo.heap.size]? = some (.cells #[.int .i64 i, .int .i64 si] 144 (0, 0)) := (hm2.block wo.heap.size (by simp) (fun h => h)).trans HPW.out
      obtain ⟨q0, q1⟩ := KeyBlk.cells hpb
      have hsec2 : ∀ a b, Sec wo base a b → Sec w2 base a b := fun a b hab => hab.moves hmw (fun _ _ _ h => h)
      have hD2 : DiskAt w2 base d { S with kept := putN S.kept S.secs S.data kp i } kv kvs1 m D pvs kpv := by
        have h := HD1.out
        exact ⟨(hmw.block d (Array.getElem?_eq_some_iff.1 h.blk).1 (fun h => h)).trans h.blk, h.hd, own_moves h.kept hmw (fun _ _ h => h), h.secs.mono hsec2, h.hm, hmw.ownsMap h.map (fun h => h), h.pend, h.data.mono hsec2, h.len, own_moves h.keep hmw (fun _ _ h => h), h.wf, h.wfd, h.wfs, h.few⟩
      have HD2 := Lib.hid hD2
      have HMW := Lib.hid hmw
      have hsz2 := hmw.size
      have HOLD2 : Hid (∀ k, w.heap.size ≤ k → k < w1.heap.size → w2.heap[k]? = w1.heap[k]?) := Lib.hid (fun k h1 h2 => (hmw.block k (by omega) (fun h => h)).trans (HOLD.out k h1 h2))
      clear hv0 hv1 hm2 hpb hsec2 hD2 hmw HKC HPW HMA
      cases hkb : kp i with
      | false =>
        have HN : Hid (putN S.kept S.secs S.data kp (i + 1) = putN S.kept S.secs S.data kp i) := Lib.hid (by rw [putN_succ, hkb]; rfl)
        clear hkb
        go_wp2_with fail
        go_roundg (S.secs.length - (i + 1))
        case measure => omega
        case rel => exact ⟨i + 1, by omega, rfl, by go_num, ⟨⟨kvs1, by rw [HN.out]; exact HD2.out⟩, HMV1.out.trans (HMW.out.none _)⟩, HOLD2.out, by omega⟩
      | true =>
        have HN : Hid (putN S.kept S.secs S.data kp (i + 1) = (putN S.kept S.secs S.data kp i).set (sF S.secs i).toNat (S.data.getD i [])) := Lib.hid (by rw [putN_succ, hkb]; rfl)
        have hd2 := HD2.out
        have hpm : (((i : Int), si), vF pvs i) ∈ pl S.secs pvs := by
          rw [← HSIE.out]
          exact pl_mem hin
        have hrun0 := val_run (w := w2.drew) hd2.map.drew hd2.pend hpm
        have hsir : 0 ≤ si ∧ si < S.kept.length := by
          rw [← HSIE.out]
          have := hd2.wfs (sF S.secs i) (by unfold sF; rw [List.getD_eq_getElem?_getD, List.getElem?_eq_getElem hin]; exact List.getElem_mem hin)
          simpa [putN_len] using this
        obtain ⟨s, rfl⟩ : ∃ s : Nat, si = s := ⟨si.toNat, by omega⟩
        have hkl : kvs1.length = S.kept.length := by have := hd2.secs.1; simpa [putN_len] using this
        obtain ⟨Ak, ck, hkv, hck, hckm, hAk, hBk, hxk⟩ := own_form hd2.kept
        obtain ⟨gk, rfl, hgk, hgkl, hck1⟩ := hxk (by omega)
        have hcs : w2.cell? ⟨gk, s, none⟩ = some (kvs1[s]'(by omega)) := hck1 s _ (List.getElem?_eq_getElem (by omega))
        obtain ⟨vold, hvold⟩ : ∃ vold, w2.cell? ⟨gk, s, none⟩ = some vold := ⟨_, hcs⟩
        have hvold2 : w2.drew.cell? ⟨gk, s, none⟩ = some vold := hvold
        clear hck1 hcs
        subst hkv
        have d1 : w2.cell? ⟨d, 1, none⟩ = some (.slice (some ⟨gk, 0, none⟩) kvs1.length ck) := by simp [World.cell?, hd2.blk]
        have d2 : w2.cell? ⟨d, 2, none⟩ = some (.map (some m)) := by simp [World.cell?, hd2.blk]
        have hdat : Sec w2 base (vF pvs i) (S.data.getD i []) := by
          have h1 : pvs.length = S.data.length := hd2.data.1
          have h2 : S.data.length = S.secs.length := hd2.len
          have := hd2.data.2 i (show i < pvs.length by omega) (show i < S.data.length by omega)
          unfold vF
          rw [List.getD_eq_getElem?_getD, List.getD_eq_getElem?_getD, List.getElem?_eq_getElem (show i < pvs.length by omega), List.getElem?_eq_getElem (show i < S.data.length by omega)]
          exact this
        obtain ⟨gv, ov, cv, ccs, hvv, hsv⟩ := hdat
        have hdat : Sec w2 base (.slice (some ⟨gv, ov, none⟩) (S.data.getD i []).length cv) (S.data.getD i []) := ⟨gv, ov, cv, ccs, rfl, hsv⟩
        rw [hvv] at hrun0
        have HDAT := Lib.hid hdat
        generalize (S.data.getD i []).length = nv at hrun0 HDAT
        clear hdat hsv hvv
        have hrun : (Instr.lookup 103 (.map (some m)) (.agg #[.int .i64 i, .int .i64 s]) false).run Try.prog w2.drew = .ok (.slice (some ⟨gv, ov, none⟩) nv cv) w2.drew := hrun0
        have HKL := Lib.hid hkl
        have hfz : w2.frozen? ⟨gk, s, none⟩ = false := by
          obtain ⟨cur, hc⟩ := own_block hd2.kept rfl
          simp [World.frozen?, hc]
        have hfz2 : w2.drew.frozen? ⟨gk, s, none⟩ = false := hfz
        have bs0 : (0 : Int) ≤ (s : Int) := by omega
        have bs1 : (s : Int) < (kvs1.length : Int) := by omega
        clear hkb hd2 hpm hxk hBk hAk hkl hrun0
        go_wp2_with fail
        go_still_tail 13, (by kernel_rfl)
        change wpList _ _ _ _ _ w2.drew
        go_wp2_with fail
        have hd2 := HD2.out
        have hgd : gk ≠ d := fun e => by
          obtain ⟨cur, hc⟩ := own_block hd2.kept rfl
          rw [e, hd2.blk] at hc
          cases hc
        have hgm : gk ≠ m := fun e => by
          obtain ⟨cur, hc⟩ := own_block hd2.kept rfl
          obtain ⟨es, ck, hb, _⟩ := hd2.map
          rw [e, hb] at hc
          cases hc
        have hg8 : ∀ q cs, w2.heap[q]? = some (.cells cs 5 (0, 0)) → ¬ q = gk := fun q cs hq e => by
          obtain ⟨cur, hc⟩ := own_block hd2.kept rfl
          rw [e, hc] at hq
          cases hq
        have hm3 : Moves (fun k => k = gk) w2 (w2.drew.setCell ⟨gk, s, none⟩ (.slice (some ⟨gv, ov, none⟩) nv cv)) := Moves.setCell (p := ⟨gk, s, none⟩) ((Moves.refl (fun k => k = gk) w2).drew) (fun _ => rfl) _
        have hsec3 : ∀ a b, Sec w2 base a b → Sec (w2.drew.setCell ⟨gk, s, none⟩ (.slice (some ⟨gv, ov, none⟩) nv cv)) base a b := fun a b hab => hab.moves hm3 hg8
        have hD3 : DiskAt (w2.drew.setCell ⟨gk, s, none⟩ (.slice (some ⟨gv, ov, none⟩) nv cv)) base d { S with kept := putN S.kept S.secs S.data kp (i + 1) } (.slice (some ⟨gk, 0, none⟩) kvs1.length ck) (kvs1.set s (.slice (some ⟨gv, ov, none⟩) nv cv)) m D pvs kpv := by
          have hst : (sF S.secs i).toNat = s := by rw [HSIE.out]; simp
          refine ⟨(hm3.block d (Array.getElem?_eq_some_iff.1 hd2.blk).1 (fun e => hgd e.symm)).trans hd2.blk, hd2.hd, ?_, ?_, hd2.hm, hm3.ownsMap hd2.map (fun e => hgm e.symm), hd2.pend, hd2.data.mono hsec3, hd2.len, own_moves hd2.keep hm3 (fun q hq e => ?_), ?_, hd2.wfd, ?_, ?_⟩
          · rw [List.length_set]
            exact own_set hd2.kept.drew _
          · show All2 _ _ (putN S.kept S.secs S.data kp (i + 1))
            rw [HN.out, hst]
            exact (hd2.secs.mono hsec3).set (hsec3 _ _ HDAT.out) s
          · obtain ⟨cur, hc⟩ := own_block hd2.kept rfl
            obtain ⟨cur', hc'⟩ := own_block hd2.keep hq
            rw [e, hc] at hc'
            cases hc'
          · have hl := hd2.len
            have hl2 : i + 1 ≤ S.data.length := by have : S.data.length = S.secs.length := hl; omega
            exact putN_wf (n := i + 1) H.out.wf H.out.wfd hl2
          · intro x hx
            have := hd2.wfs x hx
            simpa [putN_len] using this
          · have := hd2.few
            simpa [putN_len] using this
        have HD3 := Lib.hid hD3
        have HM3 := Lib.hid hm3
        have HGK : Hid (DOwn w d gk) := Lib.hid (.inr ⟨_, H.out.blk, .inl ⟨_, rfl, rfl⟩⟩)
        have HOLD3 : Hid (∀ k, w.heap.size ≤ k → k < w1.heap.size → (w2.drew.setCell ⟨gk, s, none⟩ (.slice (some ⟨gv, ov, none⟩) nv cv)).heap[k]? = w1.heap[k]?) := Lib.hid (fun k h1 h2 => (hm3.block k (by omega) (fun (e : k = gk) => by have := (H.out.kept.lt gk rfl).2; omega)).trans (HOLD2.out k h1 h2))
        have hsz3 := hm3.size
        clear hD3 hm3 hsec3 hg8 hd2 hrun d1 d2
        go_roundg (S.secs.length - (i + 1))
        case measure => omega
        case rel => exact ⟨i + 1, by omega, rfl, by go_num, ⟨⟨_, HD3.out⟩, (HMV1.out.trans (HMW.out.none _)).andThen HM3.out (fun k e _ => by rw [e]; exact HGK.out)⟩, HOLD3.out, Nat.le_trans hsz (Nat.le_trans hsz2 hsz3)⟩
    · obtain rfl : i = S.secs.length := by omega
      obtain ⟨⟨kvs1, hd2⟩, hmv⟩ := hmid
      have d2 : wo.cell? ⟨d, 2, none⟩ = some (.map (some m)) := by simp [World.cell?, hd2.blk]
      have hfz : wo.frozen? ⟨d, 2, none⟩ = false := by simp [World.frozen?, hd2.blk]
      have hdl := (Array.getElem?_eq_some_iff.1 hd2.blk).1
      have HD2 := Lib.hid hd2
      have HMV := Lib.hid hmv
      clear hd2 hmv hold
      have hmm := @run_makeMap Try.prog
      go_wp2_with fail
      go_end0
      have hd2 := HD2.out
      have hm3 : Moves (fun k => k = d) wo ((wo.setCell ⟨d, 2, none⟩ (.map (some wo.heap.size))).alloc (.map #[] 0)) := (Moves.setCell (p := ⟨d, 2, none⟩) (Moves.refl (fun k => k = d) wo) (fun _ => rfl) _).alloc _
      have hmap : ((wo.setCell ⟨d, 2, none⟩ (.map (some wo.heap.size))).alloc (.map #[] 0)).ownsMap Try.prog 144 RV wo.heap.size 0 (.map []) := by
        have := World.ownsMap_made (H := Value) (wo.setCell ⟨d, 2, none⟩ (.map (some wo.heap.size))) Try.prog 144 RV
        simpa [World.setCell] using this
      have hblk : ((wo.setCell ⟨d, 2, none⟩ (.map (some wo.heap.size))).alloc (.map #[] 0)).heap[d]? = some (.cells #[.int .i64 S.size, kv, .map (some wo.heap.size), .bool S.off, .bool S.armed, .int .i64 S.left, kpv, .int .i64 S.writes] 105 (0, 0)) := by
        refine (Below.heap_alloc _ _ _ (by simpa [World.setCell] using hdl)).trans ?_
        simp [World.setCell, Array.getElem?_modify, hd2.blk]
      have hsec : ∀ a b, Sec wo base a b → Sec ((wo.setCell ⟨d, 2, none⟩ (.map (some wo.heap.size))).alloc (.map #[] 0)) base a b := fun a b hab => hab.moves hm3 (fun q cs hq e => by
        rw [e, hd2.blk] at hq
        cases hq)
      refine ⟨rfl, ⟨kv, kvs1, wo.heap.size, .map [], [], kpv, hblk, hd2.hd, own_moves hd2.kept hm3 (fun q hq e => ?_), hd2.secs.mono hsec, ?_, hmap, VOf.nil, All2.nil _, rfl, own_moves hd2.keep hm3 (fun q hq e => ?_), hd2.wf, by simp [settleS], by simp [settleS], ?_⟩, HMV.out.andThen hm3 (fun k e _ => .inl e), DKeep.of H.out.blk hblk rfl (fun k e => .inr (by simp at e; rw [← e]; exact HMV.out.size))⟩
      · obtain ⟨cur, hc⟩ := own_block hd2.kept hq
        rw [e, hd2.blk] at hc
        cases hc
      · have := hd2.hd; omega
      · obtain ⟨cur, hc⟩ := own_block hd2.keep hq
        rw [e, hd2.blk] at hc
        cases hc
      · have := hd2.few
        exact ⟨by simp [settleS], this.2⟩
end Go.Proofs.Ytnagpianaghjeaa.Pl
namespace Go.Proofs.Ytnagpianaghjeaa.Pl
open Go Go.RowKit Go.Maps Go.Sort Go.Proofs

theorem infoB : (Try.prog.info? 5).map (fun i => (i.zero, i.size, i.bytes)) = some (some (.int .u8 0), 1, 1) := by kernel_rfl
def CloneB (w : World) (xs : List Value) (e : Ending) (w' : World) : Prop := ∃ v, e = .returned v ∧ w'.ownsRow w.heap.size 5 1 v xs.length xs ∧ Moves (fun _ => False) w w'
set_option maxHeartbeats 1000000 in
theorem cloneB {w : World} {L : Nat → Prop} {v : Value} {xs : List Value} (hr : Row w L v xs) (h1c : ∀ u ∈ xs, u.oneCell' = true) (hlen : xs.length ≤ 1000000) : Calls Try.prog 69 #[v] w (CloneB w xs) := by
  obtain ⟨A, c, rfl, hc, hx⟩ := hr
  have qS : ∀ (w : World) (a : Option Addr) (n c : Nat), (binOp .eql 55 (.slice a n c) (.slice none 0 0)).run Try.prog w = .ok (.bool a.isNone) w := fun w a n c => Lib.run_eql_slice_nil w _ _ a n c 0 0 Try.underlying55
  cases A with
  | none =>
    have hk : xs = [] := by
      cases xs with
      | nil => rfl
      | cons a r => obtain ⟨g, o, h, _⟩ := hx (by simp); cases h
    subst hk
    clear hx
    go_enter Try.func69, Try.ntmps69
    go_wp2
    go_ret
    exact ⟨_, rfl, World.ownsRow_nil _ _ _ _, Moves.refl _ _⟩
  | some a =>
    obtain ⟨i4, hi4, hq0, hq1, hq2⟩ := info_parts infoB
    have hq3 : ((.int .u8 0) : Value).cells.size = 1 := rfl
    have hq4 : (0 : Nat) < 1 := by decide
    have hsrc : Src (w.alloc (.cells #[] 5)) (some a) xs.length xs := fun h0 => by
      obtain ⟨g, o, h, _, hgl, hcell⟩ := hx h0
      cases h
      refine ⟨_, rfl, fun j u hu => ?_⟩
      have e1 : (⟨g, o, none⟩ : Addr).add j = ⟨g, o + j, none⟩ := by unfold Addr.add; split <;> simp_all
      rw [e1]
      exact (World.cell?_alloc_lt w _ ⟨g, o + j, none⟩ hgl).trans (hcell j u hu)
    have HL1 : Hid (xs.length = xs.length * 1) := Lib.hid (by omega)
    have h1 : 0 + xs.length ≤ maxLen := by unfold maxLen; omega
    have h2 : (0 + xs.length) * 1 ≤ 140737488355328 := by omega
    have h3 : w.heap.size ≤ (w.alloc (.cells #[] 5)).heap.size := by simp
    have hown : (w.alloc (.cells #[] 5)).ownsRow w.heap.size 5 1 (.slice (some ⟨w.heap.size, 0, none⟩) 0 0) 0 [] := World.ownsRow_made w #[] 0 (Nat.le_refl _) (by unfold maxLen; omega) (by simp)
    clear hx
    obtain ⟨g, o, s⟩ := a
    go_enter Try.func69, Try.ntmps69
    go_wp2_with (first
      | (at_builtin; go_must (refine wpList_append_src _ rfl (.tmp 5) (.tmp 6) 55 rfl w.heap.size 5 i4 _ 1 1 Try.underlying55 hi4 hq0 hq1 hq2 hq3 hq4 (.slice (some ⟨w.heap.size, 0, none⟩) 0 0) 0 [] rfl hown (some ⟨g, o, s⟩) xs.length c xs rfl HL1.out hsrc h1c h1 h2 h3 ?_)
         intro v1 w3 hn1 hg1 hl1)
      | fail)
    simp only [Nat.zero_add, List.nil_append] at hn1
    go_ret
    exact ⟨_, rfl, hn1, ((Moves.refl _ w).alloc _).grown hg1 (fun k hk hlt => by simp [Value.ownBlock] at hk; omega)⟩

theorem infoT : (Try.prog.info? 4).map (fun i => (i.zero, i.size, i.bytes)) = some (some (.bool false), 1, 1) := by kernel_rfl
def CloneT (w : World) (xs : List Value) (e : Ending) (w' : World) : Prop := ∃ v, e = .returned v ∧ w'.ownsRow w.heap.size 4 1 v xs.length xs ∧ Moves (fun _ => False) w w'
set_option maxHeartbeats 1000000 in
theorem cloneT {w : World} {L : Nat → Prop} {v : Value} {xs : List Value} (hr : Row w L v xs) (h1c : ∀ u ∈ xs, u.oneCell' = true) (hlen : xs.length ≤ 1000000) : Calls Try.prog 65 #[v] w (CloneT w xs) := by
  obtain ⟨A, c, rfl, hc, hx⟩ := hr
  have qS : ∀ (w : World) (a : Option Addr) (n c : Nat), (binOp .eql 45 (.slice a n c) (.slice none 0 0)).run Try.prog w = .ok (.bool a.isNone) w := fun w a n c => Lib.run_eql_slice_nil w _ _ a n c 0 0 Try.underlying45
  cases A with
  | none =>
    have hk : xs = [] := by
      cases xs with
      | nil => rfl
      | cons a r => obtain ⟨g, o, h, _⟩ := hx (by simp); cases h
    subst hk
    clear hx
    go_enter Try.func65, Try.ntmps65
    go_wp2
    go_ret
    exact ⟨_, rfl, World.ownsRow_nil _ _ _ _, Moves.refl _ _⟩
  | some a =>
    obtain ⟨i4, hi4, hq0, hq1, hq2⟩ := info_parts infoT
    have hq3 : ((.bool false) : Value).cells.size = 1 := rfl
    have hq4 : (0 : Nat) < 1 := by decide
    have hsrc : Src (w.alloc (.cells #[] 4)) (some a) xs.length xs := fun h0 => by
      obtain ⟨g, o, h, _, hgl, hcell⟩ := hx h0
      cases h
      refine ⟨_, rfl, fun j u hu => ?_⟩
      have e1 : (⟨g, o, none⟩ : Addr).add j = ⟨g, o + j, none⟩ := by unfold Addr.add; split <;> simp_all
      rw [e1]
      exact (World.cell?_alloc_lt w _ ⟨g, o + j, none⟩ hgl).trans (hcell j u hu)
    have HL1 : Hid (xs.length = xs.length * 1) := Lib.hid (by omega)
    have h1 : 0 + xs.length ≤ maxLen := by unfold maxLen; omega
    have h2 : (0 + xs.length) * 1 ≤ 140737488355328 := by omega
    have h3 : w.heap.size ≤ (w.alloc (.cells #[] 4)).heap.size := by simp
    have hown : (w.alloc (.cells #[] 4)).ownsRow w.heap.size 4 1 (.slice (some ⟨w.heap.size, 0, none⟩) 0 0) 0 [] := World.ownsRow_made w #[] 0 (Nat.le_refl _) (by unfold maxLen; omega) (by simp)
    clear hx
    obtain ⟨g, o, s⟩ := a
    go_enter Try.func65, Try.ntmps65
    go_wp2_with (first
      | (at_builtin; go_must (refine wpList_append_src _ rfl (.tmp 5) (.tmp 6) 45 rfl w.heap.size 4 i4 _ 1 1 Try.underlying45 hi4 hq0 hq1 hq2 hq3 hq4 (.slice (some ⟨w.heap.size, 0, none⟩) 0 0) 0 [] rfl hown (some ⟨g, o, s⟩) xs.length c xs rfl HL1.out hsrc h1c h1 h2 h3 ?_)
         intro v1 w3 hn1 hg1 hl1)
      | fail)
    simp only [Nat.zero_add, List.nil_append] at hn1
    go_ret
    exact ⟨_, rfl, hn1, ((Moves.refl _ w).alloc _).grown hg1 (fun k hk hlt => by simp [Value.ownBlock] at hk; omega)⟩

theorem clipB (w : World) (A : Option Addr) (n c : Nat) (hc : n ≤ c) (hm : c ≤ maxLen) (hA : A = none → c = 0) : Calls Try.prog 81 #[.slice A n c] w (SameP w (.slice A n n)) := by
  unfold maxLen at hm
  cases A with
  | none =>
    obtain rfl := hA rfl
    obtain rfl : n = 0 := by omega
    go_enter Try.func81, Try.ntmps81
    go_wp2
    go_ret
    exact ⟨rfl, rfl⟩
  | some a =>
    clear hA
    obtain ⟨g, o, s⟩ := a
    go_enter Try.func81, Try.ntmps81
    go_wp2
    go_ret
    exact ⟨rfl, rfl⟩
end Go.Proofs.Ytnagpianaghjeaa.Pl
namespace Go.Proofs.Ytnagpianaghjeaa.Pl
open Go Go.RowKit Go.Maps Go.Sort Go.Proofs

def rightZ (n z : Int) : Bool := decide (1 ≤ n ∧ n ≤ 16384 ∧ 64 ≤ z ∧ z ≤ 1024)
set_option maxHeartbeats 1000000 in
theorem right_any {n z : Int} {b : Bool} (hb : rightZ n z = b) (w : World) : Calls Try.prog 67 #[.int .i64 n, .int .i64 z] w (SameP w (.bool b)) := by
  subst hb
  by_cases h1 : 1 ≤ n
  · by_cases h2 : n ≤ 16384
    · by_cases h3 : 64 ≤ z
      · by_cases h4 : z ≤ 1024
        · rw [show rightZ n z = true by unfold rightZ; simp; omega]
          go_enter Try.func67, Try.ntmps67
          go_wp2
          go_ret
          exact ⟨rfl, rfl⟩
        · rw [show rightZ n z = false by unfold rightZ; simp; omega]
          go_enter Try.func67, Try.ntmps67
          go_wp2
          go_ret
          exact ⟨rfl, rfl⟩
      · rw [show rightZ n z = false by unfold rightZ; simp; omega]
        go_enter Try.func67, Try.ntmps67
        go_wp2
        go_ret
        exact ⟨rfl, rfl⟩
    · rw [show rightZ n z = false by unfold rightZ; simp; omega]
      go_enter Try.func67, Try.ntmps67
      go_wp2
      go_ret
      exact ⟨rfl, rfl⟩
  · rw [show rightZ n z = false by unfold rightZ; simp; omega]
    go_enter Try.func67, Try.ntmps67
    go_wp2
    go_ret
    exact ⟨rfl, rfl⟩

section
variable {w : World} {base d : Nat} {S : DS} {kv : Value} {kvs : List Value} {m : Nat} {D : DataW Value} {pvs : List Value} {kpv : Value}

theorem DiskAt.cells (h : DiskAt w base d S kv kvs m D pvs kpv) : w.cell? ⟨d, 0, none⟩ = some (.int .i64 S.size) ∧ w.cell? ⟨d, 1, none⟩ = some kv ∧ w.cell? ⟨d, 2, none⟩ = some (.map (some m)) ∧ w.cell? ⟨d, 3, none⟩ = some (.bool S.off) ∧ w.cell? ⟨d, 4, none⟩ = some (.bool S.armed) ∧ w.cell? ⟨d, 5, none⟩ = some (.int .i64 S.left) ∧ w.cell? ⟨d, 6, none⟩ = some kpv ∧ w.cell? ⟨d, 7, none⟩ = some (.int .i64 S.writes) := by
  unfold World.cell?
  simp only [h.blk]
  exact ⟨rfl, rfl, rfl, rfl, rfl, rfl, rfl, rfl⟩
theorem DiskAt.fr (h : DiskAt w base d S kv kvs m D pvs kpv) (k : Nat) : w.frozen? ⟨d, k, none⟩ = false := by simp [World.frozen?, h.blk]
/-- A store into the disk's struct, all else as it was. -/
theorem DiskAt.put {w' : World} {S' : DS} {kpv' : Value} (h : DiskAt w base d S kv kvs m D pvs kpv) (hm : Moves (fun k => k = d) w w')
    (hb : w'.heap[d]? = some (.cells #[.int .i64 S'.size, kv, .map (some m), .bool S'.off, .bool S'.armed, .int .i64 S'.left, kpv', .int .i64 S'.writes] 105 (0, 0)))
    (h1 : S'.size = S.size) (h2 : S'.kept = S.kept) (h3 : S'.secs = S.secs) (h4 : S'.data = S.data) (hk : w'.ownsRow base 4 1 kpv' S'.keep.length (S'.keep.map .bool)) : DiskAt w' base d S' kv kvs m D pvs kpv' := by
  obtain ⟨z', K', s', d', o', a', l', k', w2⟩ := S'
  simp only at h1 h2 h3 h4
  subst h1 h2 h3 h4
  have hsec : ∀ a b, Sec w base a b → Sec w' base a b := fun a b hab => hab.moves hm (fun g cs hg e => by
    have e : g = d := e
    rw [e, h.blk] at hg
    cases hg)
  refine ⟨hb, h.hd, own_moves h.kept hm (fun g hg e => ?_), h.secs.mono hsec, h.hm, hm.ownsMap h.map (fun e => ?_), h.pend, h.data.mono hsec, h.len, hk, h.wf, h.wfd, h.wfs, h.few⟩
  · have e : g = d := e
    obtain ⟨cur, hc⟩ := own_block h.kept hg
    rw [e, h.blk] at hc
    cases hc
  · have e : m = d := e
    obtain ⟨es, ck, hb, _⟩ := h.map
    rw [e, h.blk] at hb
    cases hb
theorem DiskAt.keepAt {w' : World} (h : DiskAt w base d S kv kvs m D pvs kpv) (hm : Moves (fun k => k = d) w w') : w'.ownsRow base 4 1 kpv S.keep.length (S.keep.map .bool) :=
  own_moves h.keep hm (fun g hg e => by
    have e : g = d := e
    obtain ⟨cur, hc⟩ := own_block h.keep hg
    rw [e, h.blk] at hc
    cases hc)
end

def inS (S : DS) (i : Int) : Bool := decide (0 ≤ i ∧ i < S.kept.length)
set_option maxHeartbeats 1000000 in
theorem in_any {w : World} {base d : Nat} {S : DS} (h : IsDisk w base d S) {i : Int} {b : Bool} (hb : inS S i = b) : Calls Try.prog 100 #[.pointer (some ⟨d, 0, none⟩), .int .i64 i] w (SameP w (.bool b)) := by
  obtain ⟨kv, kvs, m, D, pvs, kpv, h⟩ := h
  obtain ⟨-, c1, -⟩ := h.cells
  obtain ⟨A, c, rfl, -, -, -, -, -⟩ := own_form h.kept
  have hl : kvs.length = S.kept.length := h.secs.1
  rw [hl] at c1
  subst hb
  unfold inS
  generalize S.kept.length = n at c1
  clear h hl
  by_cases h1 : 0 ≤ i
  · by_cases h2 : i < n
    · rw [decide_eq_true (show 0 ≤ i ∧ i < (n : Int) from ⟨h1, h2⟩)]
      go_enter Try.func100, Try.ntmps100
      go_wp2
      go_ret
      exact ⟨rfl, rfl⟩
    · rw [decide_eq_false (show ¬ (0 ≤ i ∧ i < (n : Int)) from fun h => h2 h.2)]
      go_enter Try.func100, Try.ntmps100
      go_wp2
      go_ret
      exact ⟨rfl, rfl⟩
  · rw [decide_eq_false (show ¬ (0 ≤ i ∧ i < (n : Int)) from fun h => h1 h.1)]
    go_enter Try.func100, Try.ntmps100
    go_wp2
    go_ret
    exact ⟨rfl, rfl⟩

theorem off_any {w : World} {base d : Nat} {S : DS} (h : IsDisk w base d S) : Calls Try.prog 61 #[.pointer (some ⟨d, 0, none⟩)] w (SameP w (.bool S.off)) := by
  obtain ⟨kv, kvs, m, D, pvs, kpv, h⟩ := h
  obtain ⟨-, -, -, c3, -⟩ := h.cells
  clear h
  go_enter Try.func61, Try.ntmps61
  go_wp2
  go_ret
  exact ⟨rfl, rfl⟩
theorem writes_any {w : World} {base d : Nat} {S : DS} (h : IsDisk w base d S) : Calls Try.prog 19 #[.pointer (some ⟨d, 0, none⟩)] w (SameP w (.int .i64 S.writes)) := by
  obtain ⟨kv, kvs, m, D, pvs, kpv, h⟩ := h
  obtain ⟨-, -, -, -, -, -, -, c7⟩ := h.cells
  clear h
  go_enter Try.func19, Try.ntmps19
  go_wp2
  go_ret
  exact ⟨rfl, rfl⟩
theorem pending_any {w : World} {base d : Nat} {S : DS} (h : IsDisk w base d S) : Calls Try.prog 51 #[.pointer (some ⟨d, 0, none⟩)] w (SameP w (.int .i64 S.secs.length)) := by
  obtain ⟨kv, kvs, m, D, pvs, kpv, h⟩ := h
  obtain ⟨-, -, c2, -⟩ := h.cells
  have hown := h.map
  have hown' : w.ownsMap Try.prog 144 RV m S.secs.length D := hown
  have HSZ : Hid (Maps.size D = S.secs.length) := Lib.hid (by rw [h.pend.size, pl_len])
  clear h hown
  go_enter Try.func51, Try.ntmps51
  go_wp2_with (first
    | (at_len; go_must (refine wpList_len_own _ rfl _ 103 rfl 144 55 Try.underlying103 _ m S.secs.length D rfl hown' ?_))
    | fail)
  go_ret
  exact ⟨by rw [HSZ.out]; rfl, rfl⟩

def DPost (w : World) (base d : Nat) (S : DS) (v : Value) (e : Ending) (w' : World) : Prop := e = .returned v ∧ IsDisk w' base d S ∧ Moves (DOwn w d) w w' ∧ DKeep w d w'
theorem on_any {w : World} {base d : Nat} {S : DS} (h : IsDisk w base d S) : Calls Try.prog 24 #[.pointer (some ⟨d, 0, none⟩)] w (DPost w base d { S with off := false } (.tuple #[])) := by
  obtain ⟨kv, kvs, m, D, pvs, kpv, h⟩ := h
  obtain ⟨-, -, -, c3, -⟩ := h.cells
  have f3 := h.fr 3
  have H := Lib.hid h
  clear h
  go_enter Try.func24, Try.ntmps24
  go_wp2
  go_end0
  have h := H.out
  have hm : Moves (fun k => k = d) w (w.setCell ⟨d, 3, none⟩ (.bool false)) := Moves.setCell (p := ⟨d, 3, none⟩) (Moves.refl (fun k => k = d) w) (fun _ => rfl) _
  have h2 := h.put (S' := { S with off := false }) hm (by simp [World.setCell, Array.getElem?_modify, h.blk]) rfl rfl rfl rfl (h.keepAt hm)
  exact ⟨rfl, ⟨kv, kvs, m, D, pvs, kpv, h2⟩, hm.mono (fun k e => .inl e), DKeep.of h.blk h2.blk rfl (fun k e => .inl e)⟩
end Go.Proofs.Ytnagpianaghjeaa.Pl
namespace Go.Proofs.Ytnagpianaghjeaa.Pl
open Go Go.RowKit Go.Maps Go.Sort Go.Proofs

theorem DOwn.back {w w' : World} {d k : Nat} (hm : Moves (fun _ => False) w w') (hd : d < w.heap.size) (h : DOwn w' d k) : DOwn w d k := by
  rcases h with h | ⟨cs, hb, h⟩
  · exact .inl h
  · exact .inr ⟨cs, (hm.block d hd (fun h => h)).symm.trans hb, h⟩
theorem IsDisk.lt {w : World} {base d : Nat} {S : DS} (h : IsDisk w base d S) : d < w.heap.size := by
  obtain ⟨kv, kvs, m, D, pvs, kpv, h⟩ := h
  exact (Array.getElem?_eq_some_iff.1 h.blk).1

theorem DiskAt.moves0 {w w1 : World} {base d : Nat} {S : DS} {kv : Value} {kvs : List Value} {m : Nat} {D : DataW Value} {pvs : List Value} {kpv : Value} (h : DiskAt w base d S kv kvs m D pvs kpv) (hm1 : Moves (fun _ => False) w w1) : DiskAt w1 base d S kv kvs m D pvs kpv :=
  have hsec : ∀ a b, Sec w base a b → Sec w1 base a b := fun _ _ hab => hab.moves hm1 (fun _ _ _ h => h)
  ⟨(hm1.block d (Array.getElem?_eq_some_iff.1 h.blk).1 (fun h => h)).trans h.blk, h.hd, own_moves h.kept hm1 (fun _ _ h => h), h.secs.mono hsec, h.hm, hm1.ownsMap h.map (fun h => h), h.pend, h.data.mono hsec, h.len, own_moves h.keep hm1 (fun _ _ h => h), h.wf, h.wfd, h.wfs, h.few⟩

set_option maxHeartbeats 1000000 in
theorem cut1_any {w : World} {kb : Nat} {v : Value} {bs : List Bool} {L : Nat → Prop} (hb : w.cell? ⟨kb, 0, none⟩ = some v) (hr : Row w L v (bs.map .bool)) {i : Nat} (hi : i ≤ 1000000) (hl : bs.length ≤ 1000000) :
    Calls Try.prog 79 #[.int .i64 i, .pointer (some ⟨kb, 0, none⟩)] w (KeepPost w (bs.getD i false)) := by
  obtain ⟨A, c, rfl, hc, hx⟩ := hr
  rw [List.length_map] at hb hc hx
  by_cases h : i < bs.length
  · obtain ⟨g, o, rfl, -, -, hcell⟩ := hx (by omega)
    have hv := hcell i (.bool bs[i]) (by simp [h])
    have e : bs.getD i false = bs[i] := by simp [List.getD_eq_getElem?_getD, h]
    rw [e]
    generalize bs[i] = b at hv
    have h1 : (i : Int) < (bs.length : Int) := by omega
    have h0 : (0 : Int) ≤ (i : Int) := by omega
    clear hx hcell e
    go_enter Try.func79, Try.ntmps79
    go_wp2
    go_ret
    exact ⟨rfl, Moves.refl _ _⟩
  · have e : bs.getD i false = false := by rw [List.getD_eq_getElem?_getD, List.getElem?_eq_none (by omega)]; rfl
    rw [e]
    have h1 : ¬ (i : Int) < (bs.length : Int) := by omega
    clear hx e
    go_enter Try.func79, Try.ntmps79
    go_wp2
    go_ret
    exact ⟨rfl, Moves.refl _ _⟩

/-- A disk whose power has gone. -/
def cutS (S : DS) (bs : List Bool) : DS := { settleS S (fun i => bs.getD i false) with off := true, armed := false, keep := [] }
theorem boxed {w : World} {L : Nat → Prop} {v : Value} {xs : List Value} (h : Row w L v xs) (o : Obj) : Row (w.alloc o) L v xs := h.moves ((Moves.refl (fun _ => False) w).alloc o) (fun _ _ _ h => h)

set_option maxHeartbeats 2000000 in
theorem cut_any {w : World} {base d : Nat} {S : DS} (h : IsDisk w base d S) {v : Value} {bs : List Bool} {L : Nat → Prop} (hr : Row w L v (bs.map .bool)) (hL : ∀ k, L k → k < w.heap.size → ¬ DOwn w d k) (hl : bs.length ≤ 1000000) :
    Calls Try.prog 36 #[.pointer (some ⟨d, 0, none⟩), v] w (DPost w base d (cutS S bs) (.tuple #[])) := by
  have hdl := h.lt
  have hm0 := (Moves.refl (fun _ => False) w).alloc (.cells #[v] 45)
  have h0 := h.moves0 hm0
  have hbox := heap_alloc_new w (.cells #[v] 45)
  have hr0 := boxed (hr.mono (L' := fun k => L k ∧ k < w.heap.size) (fun k hk hlt => ⟨hk, hlt⟩)) (.cells #[v] 45)
  have HB := Lib.hid (fun k (hk : DOwn (w.alloc (.cells #[v] 45)) d k) => hk.back hm0 hdl)
  obtain ⟨A, c, hv, -⟩ := hr
  rw [List.length_map] at hv
  have hmf : ∀ (fn : Fn) (first cap : Array Value) (w : World), (Instr.makeFunc fn first cap).run Try.prog w = .ok (.func fn first cap) w := fun _ _ _ _ => rfl
  have HST : Hid (Calls Try.prog 78 #[.pointer (some ⟨d, 0, none⟩), .func (.func 79) #[] #[.pointer (some ⟨w.heap.size, 0, none⟩)]] (w.alloc (.cells #[v] 45)) (SettlePost (w.alloc (.cells #[v] 45)) base d (settleS S (fun i => bs.getD i false)))) := Lib.hid (by
    have hap := h0.apart hbox (by decide) (by decide)
    obtain ⟨kv, kvs, m, D, pvs, kpv, h0'⟩ := h0
    refine settle_any h0' 79 #[.pointer (some ⟨w.heap.size, 0, none⟩)] (fun i => bs.getD i false) (enters_of Try.func79 (by kernel_rfl) rfl) (fun i hi W hW => ?_)
    have hf := h0'.few.1
    have hbW : W.cell? ⟨w.heap.size, 0, none⟩ = some v := by
      refine (hW.cell (p := ⟨w.heap.size, 0, none⟩) (by simp) hap).trans ?_
      unfold World.cell?
      simp only [hbox]
      rfl
    exact cut1_any hbW (hr0.moves hW (fun k hk _ hd => hL k hk.1 hk.2 (HB.out k hd))) (by omega) hl)
  subst hv
  have HM0 := Lib.hid hm0
  clear hr0 hbox hm0 h0
  go_enter Try.func36, Try.ntmps36
  go_wp2_with fail
  refine HST.out.mono ?_
  rintro e w1 ⟨rfl, ⟨kv, kvs, m, D, pvs, kpv, h1⟩, hm1, hkp1⟩
  obtain ⟨-, -, -, c3, c4, -, c6, -⟩ := h1.cells
  have f3 := h1.fr 3
  have f4 := h1.fr 4
  have f6 := h1.fr 6
  have H1 := Lib.hid h1
  have HM1 := Lib.hid hm1
  have HKP1 := Lib.hid hkp1
  clear h1 hm1 HST hkp1
  go_wp2
  go_end0
  have h1 := H1.out
  have hm3 : Moves (fun k => k = d) w1 (((w1.setCell ⟨d, 3, none⟩ (.bool true)).setCell ⟨d, 4, none⟩ (.bool false)).setCell ⟨d, 6, none⟩ (.slice none 0 0)) :=
    Moves.setCell (p := ⟨d, 6, none⟩) (Moves.setCell (p := ⟨d, 4, none⟩) (Moves.setCell (p := ⟨d, 3, none⟩) (Moves.refl (fun k => k = d) w1) (fun _ => rfl) _) (fun _ => rfl) _) (fun _ => rfl) _
  have h3 := h1.put (S' := cutS S bs) hm3 (by simp [World.setCell, Array.getElem?_modify, h1.blk, cutS, settleS]) rfl rfl rfl rfl (World.ownsRow_nil _ _ _ _)
  refine ⟨rfl, ⟨kv, kvs, m, D, pvs, _, h3⟩, ?_, ?_⟩
  · exact ((HM0.out.none (DOwn w d)).andThen HM1.out (fun k hk _ => HB.out k hk)).andThen hm3 (fun k e _ => .inl e)
  · intro k hk
    rcases DKeep.of h1.blk h3.blk rfl (fun k e => .inl e) k hk with e | e
    · rcases HKP1.out k e with e | e
      · exact .inl (HB.out k e)
      · exact .inr (Nat.le_trans HM0.out.size e)
    · exact .inr (Nat.le_trans (Nat.le_trans HM0.out.size HM1.out.size) e)

/-- Sync. -/
theorem sync1_any (w : World) (i : Nat) : Calls Try.prog 99 #[.int .i64 i] w (KeepPost w true) := by
  go_enter Try.func99, Try.ntmps99
  go_wp2
  go_ret
  exact ⟨rfl, Moves.refl _ _⟩
theorem sync_off {w : World} {base d : Nat} {S : DS} (h : IsDisk w base d S) (ho : S.off = true) : Calls Try.prog 58 #[.pointer (some ⟨d, 0, none⟩)] w (SameP w (.int .i64 7)) := by
  obtain ⟨kv, kvs, m, D, pvs, kpv, h⟩ := h
  obtain ⟨-, -, -, c3, -⟩ := h.cells
  rw [ho] at c3
  clear h ho
  go_enter Try.func58, Try.ntmps58
  go_wp2
  go_ret
  exact ⟨rfl, rfl⟩
theorem sync_on {w : World} {base d : Nat} {S : DS} (h : IsDisk w base d S) (ho : S.off = false) : Calls Try.prog 58 #[.pointer (some ⟨d, 0, none⟩)] w (DPost w base d (settleS S (fun _ => true)) (.int .i64 0)) := by
  obtain ⟨kv, kvs, m, D, pvs, kpv, h⟩ := h
  obtain ⟨-, -, -, c3, -⟩ := h.cells
  rw [ho] at c3
  have HST := Lib.hid (settle_any h 99 #[] (fun _ => true) (enters_of Try.func99 (by kernel_rfl) rfl) (fun i _ W _ => sync1_any W i))
  clear h ho
  go_enter Try.func58, Try.ntmps58
  go_wp2_with fail
  refine HST.out.mono ?_
  rintro e w1 ⟨rfl, h1, hm1, hkp1⟩
  go_wp2
  go_ret
  exact ⟨rfl, h1, hm1, hkp1⟩

/-- Arm. -/
def armS (S : DS) (n : Int) (bs : List Bool) : DS := { S with armed := true, left := max n 1, keep := bs }
theorem arm_any {w : World} {base d : Nat} {S : DS} (h : IsDisk w base d S) {n : Int} {v : Value} {bs : List Bool} {L : Nat → Prop} (hr : Row w L v (bs.map .bool)) (hl : bs.length ≤ 1000000) :
    Calls Try.prog 21 #[.pointer (some ⟨d, 0, none⟩), .int .i64 n, v] w (DPost w base d (armS S n bs) (.tuple #[])) := by
  have hC := Lib.hid (cloneT hr (by intro u hu; obtain ⟨b, _, rfl⟩ := List.mem_map.1 hu; rfl) (by rw [List.length_map]; exact hl))
  obtain ⟨kv, kvs, m, D, pvs, kpv, h⟩ := h
  have H := Lib.hid h
  clear h hr
  go_enter Try.func21, Try.ntmps21
  go_wp2_with fail
  refine hC.out.mono ?_
  rintro e w1 ⟨v1, rfl, hown1, hm1⟩
  rw [List.length_map] at hown1
  have h := H.out
  have hbase := h.hd
  have hdl := (Array.getElem?_eq_some_iff.1 h.blk).1
  have hsec : ∀ a b, Sec w base a b → Sec w1 base a b := fun a b hab => hab.moves hm1 (fun _ _ _ h => h)
  have h1 : DiskAt w1 base d S kv kvs m D pvs kpv := ⟨(hm1.block d hdl (fun h => h)).trans h.blk, h.hd, own_moves h.kept hm1 (fun _ _ h => h), h.secs.mono hsec, h.hm, hm1.ownsMap h.map (fun h => h), h.pend, h.data.mono hsec, h.len, own_moves h.keep hm1 (fun _ _ h => h), h.wf, h.wfd, h.wfs, h.few⟩
  obtain ⟨-, -, -, -, c4, c5, c6, -⟩ := h1.cells
  have f4 := h1.fr 4
  have f5 := h1.fr 5
  have f6 := h1.fr 6
  have HO := Lib.hid (own_weak (show base ≤ w.heap.size by omega) hown1)
  have H1 := Lib.hid h1
  have HM1 := Lib.hid hm1
  obtain ⟨A1, k1, rfl, -, -, -, -, -⟩ := own_form hown1
  clear h1 hm1 h hsec hown1
  go_wp2
  go_end0
  have h1 := H1.out
  have hm3 : Moves (fun k => k = d) w1 (((w1.setCell ⟨d, 4, none⟩ (.bool true)).setCell ⟨d, 5, none⟩ (.int .i64 (max n 1))).setCell ⟨d, 6, none⟩ (.slice A1 bs.length k1)) :=
    Moves.setCell (p := ⟨d, 6, none⟩) (Moves.setCell (p := ⟨d, 5, none⟩) (Moves.setCell (p := ⟨d, 4, none⟩) (Moves.refl (fun k => k = d) w1) (fun _ => rfl) _) (fun _ => rfl) _) (fun _ => rfl) _
  have hk3 := own_moves HO.out hm3 (fun g hg e => by
    have e : g = d := e
    obtain ⟨cur, hc⟩ := own_block HO.out hg
    rw [e, h1.blk] at hc
    cases hc)
  have h3 := h1.put (S' := armS S n bs) hm3 (by simp [World.setCell, Array.getElem?_modify, h1.blk, armS]) rfl rfl rfl rfl hk3
  exact ⟨rfl, ⟨kv, kvs, m, D, pvs, _, h3⟩, (HM1.out.none (DOwn w d)).andThen hm3 (fun k e _ => .inl e), DKeep.of H.out.blk h3.blk rfl (fun k e => .inl e)⟩
end Go.Proofs.Ytnagpianaghjeaa.Pl
