/-
  Clone and Clip at keys; the program's Sorted.
-/
import Derived.Test.YtbfnmgjpkieaoaaCSort
namespace Go.Proofs.Ytbfnmgjpkieaoaa
open Go Go.RowKit Go.Maps Go.Sort Go.Proofs Go.Shelf

theorem infoK : (Try.prog.info? 43).map (fun i => (i.zero, i.size, i.bytes)) = some (some (.agg #[.int .i64 0, .int .i64 0]), 2, 16) := by kernel_rfl

theorem clipK (w : World) (A : Option Addr) (n c : Nat) (hc : n ≤ c) (hm : c ≤ maxLen) (hA : A = none → c = 0) : Calls Try.prog 101 #[.slice A n c] w (SameP w (.slice A n n)) := by
  unfold maxLen at hm
  cases A with
  | none =>
    obtain rfl := hA rfl
    obtain rfl : n = 0 := by omega
    go_enter Try.func101, Try.ntmps101
    go_wp2
    go_ret
    exact ⟨rfl, rfl⟩
  | some a =>
    clear hA
    obtain ⟨g, o, s⟩ := a
    go_enter Try.func101, Try.ntmps101
    go_wp2
    go_ret
    exact ⟨rfl, rfl⟩

def FreshPost (w : World) (ks : List Pr) (e : Ending) (w' : World) : Prop :=
  ∃ v, e = .returned v ∧ w'.ownsRow w.heap.size 43 2 v ks.length (cellsP ks) ∧ Moves (fun _ => False) w w'

set_option maxHeartbeats 1000000 in
theorem cloneK {w : World} {L : Nat → Prop} {v : Value} {ks : List Pr} (hr : KRow w L v ks) (hlen : ks.length ≤ 1000000) : Calls Try.prog 102 #[v] w (FreshPost w ks) := by
  obtain ⟨A, c, rfl, hc, hx⟩ := hr
  have qS : ∀ (w : World) (a : Option Addr) (n c : Nat), (binOp .eql 53 (.slice a n c) (.slice none 0 0)).run Try.prog w = .ok (.bool a.isNone) w := fun w a n c => Lib.run_eql_slice_nil w _ _ a n c 0 0 Try.underlying53
  cases A with
  | none =>
    have hk : ks = [] := by
      cases ks with
      | nil => rfl
      | cons a r => obtain ⟨g, o, h, _⟩ := hx (by simp); cases h
    subst hk
    clear hx
    go_enter Try.func102, Try.ntmps102
    go_wp2
    go_ret
    exact ⟨_, rfl, World.ownsRow_nil _ _ _ _, Moves.refl _ _⟩
  | some a =>
    obtain ⟨i4, hi4, hq0, hq1, hq2⟩ := info_parts infoK
    have hq3 : (Value.agg #[.int .i64 0, .int .i64 0]).cells.size = 2 := rfl
    have hq4 : (0 : Nat) < 2 := by decide
    have hsrc : Src (w.alloc (.cells #[] 43)) (some a) ks.length (cellsP ks) := fun h0 => by
      obtain ⟨g, o, h, _, hgl, hcell⟩ := hx h0
      cases h
      refine ⟨_, rfl, fun j u hu => ?_⟩
      have e1 : (⟨g, o, none⟩ : Addr).add j = ⟨g, o + j, none⟩ := by unfold Addr.add; split <;> simp_all
      rw [e1]
      exact (World.cell?_alloc_lt w _ ⟨g, o + j, none⟩ hgl).trans (hcell j u hu)
    have h1 : 0 + ks.length ≤ maxLen := by unfold maxLen; omega
    have h2 : (0 + ks.length) * 16 ≤ 140737488355328 := by omega
    have h3 : w.heap.size ≤ (w.alloc (.cells #[] 43)).heap.size := by simp
    have hown : (w.alloc (.cells #[] 43)).ownsRow w.heap.size 43 2 (.slice (some ⟨w.heap.size, 0, none⟩) 0 0) 0 [] := World.ownsRow_made w #[] 0 (Nat.le_refl _) (by unfold maxLen; omega) (by simp)
    clear hx
    obtain ⟨g, o, s⟩ := a
    go_enter Try.func102, Try.ntmps102
    go_wp2_with (first
      | (at_builtin; refine wpList_append_src _ rfl (.tmp 5) (.tmp 6) 53 rfl w.heap.size 43 i4 _ 2 16 Try.underlying53 hi4 hq0 hq1 hq2 hq3 hq4 (.slice (some ⟨w.heap.size, 0, none⟩) 0 0) 0 [] rfl hown (some ⟨g, o, s⟩) ks.length c (cellsP ks) rfl (cellsP_len ks) hsrc (cellsP_one ks) h1 h2 h3 ?_
         intro v1 w3 hn1 hg1 hl1)
      | fail)
    simp only [Nat.zero_add, List.nil_append] at hn1
    go_ret
    exact ⟨_, rfl, hn1, ((Moves.refl _ w).alloc _).grown hg1 (fun k hk hlt => by simp [Value.ownBlock] at hk; omega)⟩

theorem krow_of_own {w : World} {base n c' : Nat} {v : Value} {ks : List Pr} (h : w.ownsRow base 43 2 v n (cellsP ks)) (hn : ks.length = n) : ∃ A c, v = .slice A n c ∧ n ≤ c ∧ c ≤ maxLen ∧ (A = none → c = 0) ∧ (n ≤ c' → KRow w (fun i => base ≤ i) (.slice A n c') ks) := by
  subst hn
  obtain ⟨A, c, hv, hc, hm, hA, -, hx⟩ := own_form h
  refine ⟨A, c, hv, hc, hm, hA, fun hc' => ⟨A, c', rfl, hc', fun h0 => ?_⟩⟩
  obtain ⟨g, hg, hb, hl, hcell⟩ := hx h0
  exact ⟨g, 0, hg, hb, hl, fun j u hu => by rw [Nat.zero_add]; exact hcell j u hu⟩

def KeysPost (w : World) (ks : List Pr) (e : Ending) (w' : World) : Prop :=
  ∃ v, e = .returned v ∧ KRow w' (fun i => w.heap.size ≤ i) v ks ∧ Moves (fun _ => False) w w'

set_option maxHeartbeats 1000000 in
theorem sorted_any {w : World} {L : Nat → Prop} {v : Value} {ks ks' : List Pr} (hr : KRow w L v ks) (hlen : ks.length ≤ 1000000) (hs : sortK ks = ks') : Calls Try.prog 88 #[v] w (KeysPost w ks') := by
  have hC := cloneK hr hlen
  have HS := Lib.hid hs
  clear hr hs
  go_enter Try.func88, Try.ntmps88
  go_wp2_with fail
  refine hC.mono ?_
  rintro e w1 ⟨v1, rfl, hown, hm1⟩
  obtain ⟨A, c, rfl, hc, hcm, hA, -, -⟩ := own_form hown
  have hP := clipK w1 A ks.length c hc hcm hA
  have hF := fun (W : World) (h : W.ownsRow w.heap.size 43 2 (.slice A ks.length c) ks.length (cellsP ks)) => sortfunc_any (c := c) ks.length h rfl HS.out hlen
  have HM1 := Lib.hid hm1
  have HO := Lib.hid hown
  have Hc := Lib.hid hc
  clear hC hm1 hown hc hcm hA
  go_wp2_with fail
  refine hP.mono ?_
  rintro e w2 ⟨rfl, rfl⟩
  clear hP
  go_wp2_with fail
  refine (hF _ HO.out).mono ?_
  rintro e w3 ⟨rfl, hown3, hg3⟩
  clear hF
  go_wp2
  go_ret
  have hlk : ks'.length = ks.length := by rw [← HS.out, sortK_len]
  obtain ⟨A3, c3, hv3, -, -, -, hkr⟩ := krow_of_own (c' := ks.length) hown3 hlk
  cases hv3
  exact ⟨_, rfl, hkr (Nat.le_refl _), HM1.out.grown hg3 (fun k hk hlt => by have := (HO.out.lt k hk).1; omega)⟩
end Go.Proofs.Ytbfnmgjpkieaoaa
