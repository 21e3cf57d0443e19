/-
  The contract of Live: the open handles, rising, in memory of the call's own; and of slices.Clip on a slice of ints.
-/
import Derived.Test.YtmennobdgfgjaaaHandCalls
import Derived.Test.YtmennobdgfgjaaaLayHand
import Derived.Shelf.SlIterI.Nil
import Derived.Shelf.SortM.Plain
import Derived.Shelf.SortM.SortNone
import Derived.Shelf.AbstractIn
import Derived.OwnWalkIn
import Derived.Lib.Hide
namespace Go.Proofs.Ytmennobdgfgjaaa
open Go Go.RowKit Go.Maps Go.Sort Go.Shelf Go.Proofs

def SamePost (w : World) (v : Value) (e : Ending) (w' : World) : Prop := e = .returned v ∧ w = w'

theorem clip_any (w : World) (A : Option Addr) (n c : Nat) (hc : n ≤ c) (hm : c ≤ maxLen) (hA : A = none → c = 0) : Calls Try.prog 39 #[.slice A n c] w (SamePost w (.slice A n n)) := by
  unfold maxLen at hm
  cases A with
  | none =>
    obtain rfl := hA rfl
    obtain rfl : n = 0 := by omega
    go_enter Try.func39, Try.ntmps39
    go_wp2
    go_ret
    exact ⟨rfl, rfl⟩
  | some a =>
    clear hA
    obtain ⟨g, o, s⟩ := a
    go_enter Try.func39, Try.ntmps39
    go_wp2
    go_ret
    exact ⟨rfl, rfl⟩

theorem sortsA (m : Nat) : AnyZI.SortsIn Try.prog Try.sortedA_ren Fence.wide m :=
  ⟨fun blk off cap ss W hH hblk hsz => callsIn_wide.2 (AnyM.slices_Sort_int Try.sortA blk off cap ss W hH hblk hsz),
   fun p cap W => callsIn_wide.2 (AnyM.slices_Sort_int_none Try.sortA p cap W)⟩

def LivePost (w : World) (R : List Pr) (e : Ending) (w' : World) : Prop :=
  ∃ v, e = .returned v ∧ Row w' (fun i => w.heap.size ≤ i) v ((R.map (·.1)).map encZ) ∧ Moves (fun _ => False) w w'

theorem shape_of {w : World} {base n : Nat} {e : TypeId} {v : Value} {xs : List Value} (h : w.ownsRow base e 1 v n xs) : ∃ A c, v = .slice A n c ∧ n ≤ c ∧ c ≤ maxLen ∧ (A = none → c = 0) ∧ (0 < n → A.isSome) ∧
    ∀ c', n ≤ c' → Row w (fun i => base ≤ i) (.slice A n c') xs := by
  have hR := Row.of_owns h
  have hn : n = xs.length := by have := h.1; simpa using this.symm
  subst hn
  rcases h.2 with ⟨rfl, h0⟩ | ⟨g, cap, cur, rfl, hb, hg, hn, hm, hs, ht⟩
  · refine ⟨none, 0, by rw [h0], by omega, by unfold maxLen; omega, fun _ => rfl, fun h => by omega, fun c' hc' => ⟨none, c', rfl, hc', fun h => by omega⟩⟩
  · refine ⟨_, cap, rfl, hn, hm, (fun e => by cases e), fun _ => rfl, fun c' hc' => ?_⟩
    obtain ⟨A, c, e, _, hx⟩ := hR
    cases e
    exact ⟨_, c', rfl, hc', hx⟩

set_option maxHeartbeats 1000000 in
theorem live_any {w : World} {p m : Nat} {R : List Pr} {last : Int} (hT : Tab w p m R last) : Calls Try.prog 19 #[.pointer (some ⟨p, 0, none⟩)] w (LivePost w R) := by
  have c0 := hT.c0
  have hown := hT.map
  have hbl := hown.lt
  have h256 := hT.ok.len
  have hrise := hT.ok.rise
  have hsz : Maps.size (dat R : DataW Unit) = R.length := size_dat R
  refine (callsIn_wide (n := 6)).1 ?_
  have hseq : SeqGives Fence.wide 2 Try.prog 53 #[.pointer (some ⟨w.heap.size, 0, none⟩)] encZ (fun ss => ss.Perm (intKeys (dat R : DataW Unit))) (Maps.size (dat R : DataW Unit)) (w.alloc (.cells #[.map (some m)] 76)) :=
    AnyZI.keys_gives (ρ := Try.keysA_ren) { Try.keysA with } Fence.wide _ trivial rfl (by omega) w.heap.size m R.length (dat R) _ (by simp) (by simp) (hown.alloc _)
  have cK : ∀ mb W, CallsIn Fence.wide 5 Try.prog 41 #[.map mb] W fun e w' => e = .returned (.func (.func 53) #[] #[.pointer (some ⟨W.heap.size, 0, none⟩)]) ∧ w' = W.alloc (.cells #[.map mb] 76) := fun mb W => AnyZI.keys_in Try.keysA Fence.wide 5 trivial rfl mb W
  have cS := AnyZI.sorted_in Try.sortedA Fence.wide 5 trivial trivial trivial trivial rfl (by omega) (sortsA _) (enters_of Try.func52 (by kernel_rfl) rfl) 53 #[.pointer (some ⟨w.heap.size, 0, none⟩)] trivial (enters_of Try.func53 (by kernel_rfl) rfl) _ _ (by rw [hsz]; unfold maxLen; omega) (by rw [hsz]; omega) _ hseq
  change CallsIn _ _ Try.prog 40 _ _ _ at cS
  have hfK : Fence.wide.fn 41 := trivial
  have hfS : Fence.wide.fn 40 := trivial
  have hfC : Fence.wide.fn 39 := trivial
  have Hsz := Lib.hid hsz
  clear hsz hseq
  refine callsIn_of_wp Try.func19 rfl trivial ?_ rfl
  simp only [Try.ntmps19, List.size_toArray, List.length_cons, List.length_nil, Nat.reduceAdd, Nat.reduceSub, Array.replicate_succ, Array.replicate_zero, List.push_toArray, List.append_toArray, List.nil_append, List.cons_append]
  gi_wp2_with (first
    | (gi_at_call 41; refine (cK _ _).mono ?_; rintro e w' ⟨rfl, rfl⟩)
    | (gi_at_call 40; refine cS.mono ?_; rintro e w1 ⟨v, ss, rfl, hS, hrow, hnil, hb⟩; obtain ⟨A, c, rfl, hs1, hs2, hs3, hs4, hs5⟩ := shape_of hrow)
    | (gi_at_call 39; refine (callsIn_wide.2 (clip_any _ A ss.length c hs1 hs2 hs3)).mono ?_; rintro e w2 ⟨rfl, rfl⟩))
  go_ret
  rw [intKeys_dat] at hS
  refine ⟨_, rfl, ?_, Moves.of_below (((Below.refl _ w).alloc (Nat.le_refl _) _).trans (hb.mono (by simp)))⟩
  have hk := keys_sorted hrise hS
  have h5 := hs5 ss.length (Nat.le_refl _)
  rw [show (ss.mergeSort fun x y => decide (x ≤ y)) = R.map (·.1) from hk] at h5
  exact h5.mono fun i hi _ => by simp at hi; omega
end Go.Proofs.Ytmennobdgfgjaaa
