/-
  The contracts of a table of handles: New, Get, Close, Open.
-/
import Derived.Test.YtmennobdgfgjaaaChecked
import Derived.Test.YtmennobdgfgjaaaHandData
import Derived.Test.YtmennobdgfgjaaaMapStore
import Derived.Test.YtmennobdgfgjaaaWords
import Derived.Maps.OwnSet
import Derived.WalkKit
import Derived.StillTailTactics
import Derived.Lib.Hide
namespace Go.Proofs.Ytmennobdgfgjaaa
open Go Go.RowKit Go.Maps

theorem law3 : Keyed Try.prog 3 := int_keyed Try.underlying3
theorem zero3 (w : World) : (zeroValue 3).run Try.prog w = .ok (.int .i64 0) w := by kernel_rfl

noncomputable abbrev RI : Value → Option (DataW Unit × List MemPlace) := plainElem Try.prog 3

/-- The pointer's block p: its map lies in block m, and reads as the row. -/
structure Tab (w : World) (p m : Nat) (R : List Pr) (last : Int) : Prop where
  blk : w.heap[p]? = some (.cells #[.map (some m), .int .i64 last] 78 (0, 0))
  map : w.ownsMap Try.prog 3 RI m R.length (dat R)
  ok : Ok R last

section
variable {w w' : World} {p m : Nat} {R : List Pr} {last : Int}

theorem Tab.lt (h : Tab w p m R last) : p < w.heap.size := (Array.getElem?_eq_some_iff.1 h.blk).1
theorem Tab.ne (h : Tab w p m R last) : m ≠ p := by
  intro e
  obtain ⟨es, clock, hb, _⟩ := h.map
  rw [e, h.blk] at hb
  cases hb
theorem Tab.c0 (h : Tab w p m R last) : w.cell? ⟨p, 0, none⟩ = some (.map (some m)) := by simp [World.cell?, h.blk]
theorem Tab.c1 (h : Tab w p m R last) : w.cell? ⟨p, 1, none⟩ = some (.int .i64 last) := by simp [World.cell?, h.blk]
theorem Tab.f0 (h : Tab w p m R last) : w.frozen? ⟨p, 0, none⟩ = false := by simp [World.frozen?, h.blk]
theorem Tab.f1 (h : Tab w p m R last) : w.frozen? ⟨p, 1, none⟩ = false := by simp [World.frozen?, h.blk]
theorem Tab.moves {S : Nat → Prop} (h : Tab w p m R last) (hm : Moves S w w') (hp : ¬ S p) (hm' : ¬ S m) : Tab w' p m R last :=
  ⟨(hm.block p h.lt hp).trans h.blk, hm.ownsMap h.map hm', h.ok⟩
theorem Tab.tight {n : Nat} (hb : w.heap[p]? = some (.cells #[.map (some m), .int .i64 last] 78 (0, 0))) (h : w.ownsMap Try.prog 3 RI m n (dat R)) (ok : Ok R last) : Tab w p m R last :=
  ⟨hb, by have := ownsMap_tight h; rwa [size_dat] at this, ok⟩
end

/-- Only the table's own two blocks. -/
abbrev Own2 (p m : Nat) : Nat → Prop := fun k => k = p ∨ k = m

def NewPost (w : World) (e : Ending) (w' : World) : Prop := e = .returned (.pointer (some ⟨w.heap.size + 1, 0, none⟩)) ∧ Tab w' (w.heap.size + 1) w.heap.size [] 0 ∧ Moves (fun _ => False) w w'

set_option maxHeartbeats 400000 in
theorem new_any (w : World) : Calls Try.prog 13 #[] w (NewPost w) := by
  have hmm := @run_makeMap Try.prog
  go_enter Try.func13, Try.ntmps13
  go_wp2
  go_ret
  refine ⟨rfl, ⟨?_, ?_, Ok.nil⟩, ((Moves.refl _ w).alloc _).alloc _⟩
  · have := heap_alloc_new (w.alloc (.map #[] 0)) (.cells #[.map (some w.heap.size), .int .i64 0] 78)
    simpa using this
  · have h : (w.alloc (.map #[] 0)).ownsMap Try.prog 3 RI w.heap.size 0 (.map []) := World.ownsMap_made _ _ _ _
    exact h.alloc _

def GetPost (w : World) (R : List Pr) (h : Int) (e : Ending) (w' : World) : Prop := e = .returned (.tuple #[.int .i64 ((look R h).getD 0), .bool (hasK R h)]) ∧ w = w'

theorem look_val {R : List Pr} {h c : Int} (hat : (dat R : DataW Unit).atKey (.int .i64 h) (.lit (.int .i64 0)) = .lit (.int .i64 c)) : c = (look R h).getD 0 := by
  have h1 := atKey_dat (H := Unit) R h (.lit (.int .i64 0))
  rw [show (Lit.int .i64 h) = kI h from rfl, h1] at hat
  cases hl : look R h with
  | none => rw [hl] at hat; simpa using (by simpa using hat : (0 : Int) = c).symm
  | some n => rw [hl] at hat; simpa using (by simpa using hat : n = c).symm

set_option maxHeartbeats 400000 in
theorem get_any {w : World} {p m : Nat} {R : List Pr} {last h : Int} (hT : Tab w p m R last) (hw : iw h) : Calls Try.prog 18 #[.pointer (some ⟨p, 0, none⟩), .int .i64 h] w (GetPost w R h) := by
  have c0 := hT.c0
  have hkey := keyOf_int_mk Try.underlying3 hw
  have hown := hT.map
  go_enter Try.func18, Try.ntmps18
  go_wp2_with (first
    | (at_lookup; refine wpList_lookup_own_ok_int _ rfl _ _ 76 rfl 3 3 .i64 law3 Try.underlying76 Try.underlying3 (zero3 _) m R.length (dat R) rfl hown _ _ rfl hkey ?_; intro c hat hwc)
    | go_in)
  go_ret2
  refine ⟨?_, rfl⟩
  rw [← look_val hat, ← has_dat (H := Unit) R h]
  rfl

/-- Close: a handle that is not there is closed already. -/
def ClosePost (w : World) (p m : Nat) (R : List Pr) (last h : Int) (e : Ending) (w' : World) : Prop :=
  e = .returned (.bool (hasK R h)) ∧ Tab w' p m (R.filter (fun q => !(q.1 == h))) last ∧ Moves (Own2 p m) w w'

set_option maxHeartbeats 400000 in
theorem close_any {w : World} {p m : Nat} {R : List Pr} {last h : Int} (hT : Tab w p m R last) (hw : iw h) : Calls Try.prog 16 #[.pointer (some ⟨p, 0, none⟩), .int .i64 h] w (ClosePost w p m R last h) := by
  have c0 := hT.c0
  have hkey := keyOf_int_mk Try.underlying3 hw
  have hown := hT.map
  go_enter Try.func16, Try.ntmps16
  go_wp2_with (first
    | (at_lookup; refine wpList_lookup_own_ok_int _ rfl _ _ 76 rfl 3 3 .i64 law3 Try.underlying76 Try.underlying3 (zero3 _) m R.length (dat R) rfl hown _ _ rfl hkey ?_; intro c hat hwc)
    | (at_delete; refine wpList_delete_own _ rfl _ _ 76 3 rfl 3 law3 Try.underlying76 _ m R.length (dat R) rfl hown _ _ rfl hkey ?_; intro w1 hown1 hturn1)
    | go_in)
  go_ret
  have hm := (Moves.refl (Own2 p m) w).turned hturn1 (fun _ => .inr rfl)
  refine ⟨?_, Tab.tight ((hturn1.grown.block p hT.lt (fun e => hT.ne (by cases e; rfl))).trans hT.blk) (n := R.length) ?_ (hT.ok.filter _), hm⟩
  · rw [← has_dat (H := Unit) R h]
    rfl
  · rw [← del_dat]
    exact hown1

/-! ### Open -/
def OpenBad (n : Int) (w : World) (e : Ending) (w' : World) : Prop := e = .returned (.tuple #[.int .i64 0, .int .i64 n]) ∧ w = w'
def OpenPost (w : World) (p m : Nat) (R : List Pr) (last node : Int) (e : Ending) (w' : World) : Prop :=
  e = .returned (.tuple #[.int .i64 (last + 1), .int .i64 0]) ∧ Tab w' p m (R ++ [(last + 1, node)]) (last + 1) ∧ Moves (Own2 p m) w w'

theorem open_bad {w : World} {p : Nat} {node : Int} (hn : node < 1) : Calls Try.prog 14 #[.pointer (some ⟨p, 0, none⟩), .int .i64 node] w (OpenBad 1 w) := by
  go_enter Try.func14, Try.ntmps14
  go_wp2
  go_ret2
  exact ⟨rfl, rfl⟩

set_option maxRecDepth 100000 in
theorem open_full {w : World} {p m : Nat} {R : List Pr} {last node : Int} (hT : Tab w p m R last) (hn : 1 ≤ node) (hl : 256 ≤ R.length) : Calls Try.prog 14 #[.pointer (some ⟨p, 0, none⟩), .int .i64 node] w (OpenBad 6 w) := by
  have c0 := hT.c0
  have hown := hT.map
  have hsz : Maps.size (dat R : DataW Unit) = R.length := size_dat R
  have hl' : 256 ≤ Maps.size (dat R : DataW Unit) := by omega
  clear hsz
  go_enter Try.func14, Try.ntmps14
  go_wp2_with (first
    | (at_len; refine wpList_len_own _ rfl _ 76 rfl 3 3 Try.underlying76 _ m R.length (dat R) rfl hown ?_)
    | go_in)
  go_ret2
  exact ⟨rfl, rfl⟩

set_option maxRecDepth 100000 in
set_option maxHeartbeats 800000 in
theorem open_ok {w : World} {p m : Nat} {R : List Pr} {last node : Int} (hT : Tab w p m R last) (hn : 1 ≤ node) (hn' : iw node) (hl : R.length < 256) (h1 : last < 1000000) :
    Calls Try.prog 14 #[.pointer (some ⟨p, 0, none⟩), .int .i64 node] w (OpenPost w p m R last node) := by
  have c0 := hT.c0
  have c1 := hT.c1
  have f1 := hT.f1
  have hown := hT.map
  have hl0 := hT.ok.last0
  have hpm := hT.ne
  have hsz : Maps.size (dat R : DataW Unit) = R.length := size_dat R
  have hl' : Maps.size (dat R : DataW Unit) < 256 := by omega
  clear hsz
  have hk : iw (last + 1) := iw_of (by omega) (by omega)
  have hkey := keyOf_int_mk Try.underlying3 hk
  go_enter Try.func14, Try.ntmps14
  go_wp2_with (first
    | (at_len; refine wpList_len_own _ rfl _ 76 rfl 3 3 Try.underlying76 _ m R.length (dat R) rfl hown ?_)
    | go_in)
  obtain ⟨w1, hw1⟩ : ∃ w1, w.setCell ⟨p, 1, none⟩ (.int .i64 (last + 1)) = w1 := ⟨_, rfl⟩
  rw [hw1]
  have hblk : w1.heap[p]? = some (.cells #[.map (some m), .int .i64 (last + 1)] 78 (0, 0)) := by
    rw [← hw1]
    simp [World.setCell, Array.getElem?_modify, hT.blk]
  have hm1 : Moves (Own2 p m) w w1 := by rw [← hw1]; exact (Moves.refl _ w).setCell (fun _ => .inl rfl) _
  have hown1 : w1.ownsMap Try.prog 3 RI m R.length (dat R) := by rw [← hw1]; exact hown.setCell hpm _
  clear hw1 hown c0 c1 f1
  have c0 : w1.cell? ⟨p, 0, none⟩ = some (.map (some m)) := by simp [World.cell?, hblk]
  have c1 : w1.cell? ⟨p, 1, none⟩ = some (.int .i64 (last + 1)) := by simp [World.cell?, hblk]
  have Hb := Lib.hid hblk
  clear hblk
  go_still_tail 9, (by kernel_rfl)
  change wpList _ _ _ _ _ w1.drew
  have hm2 : Moves (Own2 p m) w w1.drew := hm1.drew
  have hown2 : w1.drew.ownsMap Try.prog 3 RI m R.length (dat R) := hown1.drew
  have Hb2 : Hid (w1.drew.heap[p]? = some (.cells #[.map (some m), .int .i64 (last + 1)] 78 (0, 0))) := Hb
  clear hown1 c0 c1 Hb
  generalize w1.drew = w2 at hm2 hown2 Hb2 ⊢
  have hpl : p < w2.heap.size := (Array.getElem?_eq_some_iff.1 Hb2.out).1
  refine wpList_mapUpdate_in _ rfl _ _ _ 76 rfl 3 3 law3 Try.underlying76 _ m R.length (dat R) rfl hown2 (by unfold maxLen; omega) _ _ _ rfl rfl hkey _ [] (plainElem_int Try.underlying3 hn') ?_
  intro w3 hown3 hturn3
  have hb3 : w3.heap[p]? = some (.cells #[.map (some m), .int .i64 (last + 1)] 78 (0, 0)) := (hturn3.grown.block p hpl (fun e => hpm (by cases e; rfl))).trans Hb2.out
  have c1 : w3.cell? ⟨p, 1, none⟩ = some (.int .i64 (last + 1)) := by simp [World.cell?, hb3]
  have Hb3 := Lib.hid hb3
  have hm3 := hm2.turned hturn3 (fun _ => .inr rfl)
  clear hb3 hturn3 hpl hm2 hown2
  go_wp2
  go_ret2
  refine ⟨rfl, Tab.tight (n := R.length + 1) Hb3.out ?_ (hT.ok.snoc hl hn (iw_lo hn').2 h1), hm3⟩
  have := put_new (H := Unit) R (last + 1) node hT.ok.below
  rw [← this]
  exact hown3
end Go.Proofs.Ytmennobdgfgjaaa
