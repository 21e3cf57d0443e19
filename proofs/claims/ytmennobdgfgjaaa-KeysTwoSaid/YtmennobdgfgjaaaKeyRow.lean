/-
  A set's keys, rising: SortedFunc over the set's iterator; the program's Row.
-/
import Derived.Test.YtmennobdgfgjaaaKeyCollect
import Derived.Test.YtmennobdgfgjaaaKeySorted
namespace Go.Proofs.Ytmennobdgfgjaaa
open Go Go.RowKit Go.Maps Go.Sort Go.Proofs Go.Shelf

theorem leK_trans (a b c : Pr) (h1 : (!(ltOf cmpK) b a) = true) (h2 : (!(ltOf cmpK) c b) = true) : (!(ltOf cmpK) c a) = true := by
  rw [cmpK_lt] at *
  simp only [ltK, Bool.not_eq_true', decide_eq_false_iff_not] at *
  omega
theorem leK_total (a b : Pr) : ((!(ltOf cmpK) b a) || (!(ltOf cmpK) a b)) = true := by
  rw [cmpK_lt, cmpK_lt]
  simp only [ltK, Bool.or_eq_true, Bool.not_eq_true', decide_eq_false_iff_not]
  omega
theorem sortK_pairwise (l : List Pr) : (sortK l).Pairwise (fun a b => (!(ltOf cmpK) b a) = true) := List.pairwise_mergeSort leK_trans leK_total l
theorem sortK_isPerm (l : List Pr) : (sortK l).Perm l := List.mergeSort_perm l _
theorem sortK_unique {l l' : List Pr} (h : l.Perm l') (hl : l.Pairwise (fun a b => (!(ltOf cmpK) b a) = true)) (hl' : l'.Pairwise (fun a b => (!(ltOf cmpK) b a) = true)) : l = l' := by
  refine List.Perm.eq_of_pairwise (le := fun a b => (!(ltOf cmpK) b a) = true) (fun a b _ _ h1 h2 => ?_) hl hl' h
  simp only [Bool.not_eq_true'] at h1 h2
  exact totK a b h2 h1
theorem sortK_perm {l l' : List Pr} (h : l.Perm l') : sortK l = sortK l' :=
  sortK_unique (((sortK_isPerm l).trans h).trans (sortK_isPerm l').symm) (sortK_pairwise l) (sortK_pairwise l')

set_option maxHeartbeats 1000000 in
theorem sortedFuncK {N : Nat} {M : List Pr} (g : Nat) (lb : Array Value) (eg : ∀ args w, (callFunc g args).run Try.prog w = .ok (.enter g args) w) (hN : N ≤ 1000000) (hM : M.length ≤ 1000000)
    (w : World) (hseq : SeqGives Fence.wide 2 Try.prog g lb encK (fun ss => ss.Perm M) N w) :
    CallsIn Fence.wide 5 Try.prog 47 #[.func (.func g) #[] lb, .func (.func 25) #[] #[]] w fun e w' => ∃ A c, e = .returned (.slice A M.length c) ∧ w'.ownsRow w.heap.size 49 2 (.slice A M.length c) M.length (cellsP (sortK M)) ∧ Below w.heap.size w w' := by
  have cC := collectK Fence.wide 4 trivial trivial rfl (by omega) g lb trivial eg (fun ss => ss.Perm M) N (by unfold maxLen; omega) (by omega) w hseq
  have hfC : Fence.wide.fn 56 := trivial
  have hfS : Fence.wide.fn 50 := trivial
  refine callsIn_of_wp Try.func47 rfl trivial ?_ rfl
  simp only [Try.ntmps47, List.size_toArray, List.length_cons, List.length_nil, Nat.reduceAdd, Nat.reduceSub, Array.replicate_succ, Array.replicate_zero, List.push_toArray, List.append_toArray, List.nil_append, List.cons_append]
  gi_wp2_with (gi_at_call 56; refine cC.mono ?_; rintro e w1 ⟨v, ss, rfl, hS, hrow, hb⟩; obtain ⟨A, c, rfl, hc, hcm, hA, -, -⟩ := own_form hrow)
  have hlen : ss.length = M.length := hS.length_eq
  have cS := callsIn_wide (n := 4).2 (sortfunc_any (c := c) c hrow rfl (sortK_perm hS) (by omega))
  gi_wp2_with (gi_at_call 50; refine cS.mono ?_; rintro e w2 ⟨rfl, hown2, hg2⟩)
  go_ret
  rw [hlen] at hown2
  exact ⟨A, c, by rw [← hlen]; rfl, hown2, hb.grown hg2 hb.size (fun k hk => (hrow.lt k hk).1)⟩

set_option maxHeartbeats 1000000 in
theorem row_any {w : World} {base p : Nat} {M ks : List Pr} (h : SetAt w base p M) (hlen : M.length ≤ 1000000) (hs : sortK M = ks) : Calls Try.prog 35 #[.pointer (some ⟨p, 0, none⟩)] w (KeysPost w ks) := by
  obtain ⟨mv, hb, hp, hx⟩ := h
  obtain ⟨mb, rfl, hseq⟩ : ∃ mb, mv = .map mb ∧ ∃ N, N ≤ 1000000 ∧ SeqGives Fence.wide 2 Try.prog 57 #[.pointer (some ⟨w.heap.size, 0, none⟩)] encK (fun ss => ss.Perm M) N (w.alloc (.cells #[.map mb] 60)) := by
    rcases hx with ⟨rfl, rfl⟩ | ⟨m, D, rfl, hbm, hown, hk⟩
    · exact ⟨none, rfl, 0, by omega, keysK_gives_nil Fence.wide 2 trivial rfl w.heap.size _ (by simp) (by simp)⟩
    · exact ⟨some m, rfl, Maps.size D, by rw [hk.size]; exact hlen, keysK_gives Fence.wide 2 trivial rfl (by omega) w.heap.size m _ D hk _ (by simp) (by simp) (hown.alloc _)⟩
  obtain ⟨N, hN, hseq⟩ := hseq
  have c0 : w.cell? ⟨p, 0, none⟩ = some (.map mb) := by simp [World.cell?, hb]
  refine (callsIn_wide (n := 6)).1 ?_
  have cK := fun W => keysK_make Fence.wide 5 trivial rfl mb W
  have cS := sortedFuncK 57 #[.pointer (some ⟨w.heap.size, 0, none⟩)] (enters_of Try.func57 (by kernel_rfl) rfl) hN hlen _ hseq
  have hfK : Fence.wide.fn 48 := trivial
  have hfS : Fence.wide.fn 47 := trivial
  have hfC : Fence.wide.fn 46 := trivial
  have HS := Lib.hid hs
  clear hseq hs hx
  refine callsIn_of_wp Try.func35 rfl trivial ?_ rfl
  simp only [Try.ntmps35, List.size_toArray, List.length_cons, List.length_nil, Nat.reduceAdd, Nat.reduceSub, Array.replicate_succ, Array.replicate_zero, List.push_toArray, List.append_toArray, List.nil_append, List.cons_append]
  gi_wp2_with (first
    | (gi_at_call 48; refine (cK _).mono ?_; rintro e w' ⟨rfl, rfl⟩)
    | (gi_at_call 47; refine cS.mono ?_; rintro e w1 ⟨A, c, rfl, hrow, hb⟩; obtain ⟨A', c', hv', hc1, hc2, hc3, -, -⟩ := own_form hrow; cases hv')
    | (gi_at_call 46; refine (callsIn_wide.2 (clipK _ A M.length c hc1 hc2 hc3)).mono ?_; rintro e w2 ⟨rfl, rfl⟩))
  go_ret
  have hl : (sortK M).length = M.length := sortK_len M
  obtain ⟨A3, c3, hv3, -, -, -, hkr⟩ := krow_of_own (c' := M.length) hrow hl
  cases hv3
  rw [HS.out] at hkr
  refine ⟨_, rfl, (hkr (Nat.le_refl _)).mono (fun i hi _ => by simp at hi; omega), Moves.of_below (((Below.refl _ w).alloc (Nat.le_refl _) _).trans (hb.mono (by simp)))⟩
end Go.Proofs.Ytmennobdgfgjaaa
