/-
  slices.Clone and slices.Clip at bytes, Clone at bools.
-/
import Derived.Test.YtnagpianaghjeaaWords
import Derived.Test.YtnagpianaghjeaaKeyBase
import Derived.Test.YtnagpianaghjeaaAppend
import Derived.Deep.DeepMust
import Derived.WalkSpells
namespace Go.Proofs.Ytnagpianaghjeaa.Pl
open Go Go.RowKit Go.Maps Go.Sort Go.Proofs

theorem infoB : (Try.prog.info? 5).map (fun i => (i.zero, i.size, i.bytes)) = some (some (.int .u8 0), 1, 1) := by kernel_rfl
def CloneB (w : World) (xs : List Value) (e : Ending) (w' : World) : Prop := ∃ v, e = .returned v ∧ w'.ownsRow w.heap.size 5 1 v xs.length xs ∧ Moves (fun _ => False) w w'
set_option maxHeartbeats 1000000 in
theorem cloneB {w : World} {L : Nat → Prop} {v : Value} {xs : List Value} (hr : Row w L v xs) (h1c : ∀ u ∈ xs, u.oneCell' = true) (hlen : xs.length ≤ 1000000) : Calls Try.prog 69 #[v] w (CloneB w xs) := by
  obtain ⟨A, c, rfl, hc, hx⟩ := hr
  have qS : ∀ (w : World) (a : Option Addr) (n c : Nat), (binOp .eql 55 (.slice a n c) (.slice none 0 0)).run Try.prog w = .ok (.bool a.isNone) w := fun w a n c => Lib.run_eql_slice_nil w _ _ a n c 0 0 Try.underlying55
  cases A with
  | none =>
    have hk : xs = [] := by
      cases xs with
      | nil => rfl
      | cons a r => obtain ⟨g, o, h, _⟩ := hx (by simp); cases h
    subst hk
    clear hx
    go_enter Try.func69, Try.ntmps69
    go_wp2
    go_ret
    exact ⟨_, rfl, World.ownsRow_nil _ _ _ _, Moves.refl _ _⟩
  | some a =>
    obtain ⟨i4, hi4, hq0, hq1, hq2⟩ := info_parts infoB
    have hq3 : ((.int .u8 0) : Value).cells.size = 1 := rfl
    have hq4 : (0 : Nat) < 1 := by decide
    have hsrc : Src (w.alloc (.cells #[] 5)) (some a) xs.length xs := fun h0 => by
      obtain ⟨g, o, h, _, hgl, hcell⟩ := hx h0
      cases h
      refine ⟨_, rfl, fun j u hu => ?_⟩
      have e1 : (⟨g, o, none⟩ : Addr).add j = ⟨g, o + j, none⟩ := by unfold Addr.add; split <;> simp_all
      rw [e1]
      exact (World.cell?_alloc_lt w _ ⟨g, o + j, none⟩ hgl).trans (hcell j u hu)
    have HL1 : Hid (xs.length = xs.length * 1) := Lib.hid (by omega)
    have h1 : 0 + xs.length ≤ maxLen := by unfold maxLen; omega
    have h2 : (0 + xs.length) * 1 ≤ 140737488355328 := by omega
    have h3 : w.heap.size ≤ (w.alloc (.cells #[] 5)).heap.size := by simp
    have hown : (w.alloc (.cells #[] 5)).ownsRow w.heap.size 5 1 (.slice (some ⟨w.heap.size, 0, none⟩) 0 0) 0 [] := World.ownsRow_made w #[] 0 (Nat.le_refl _) (by unfold maxLen; omega) (by simp)
    clear hx
    obtain ⟨g, o, s⟩ := a
    go_enter Try.func69, Try.ntmps69
    go_wp2_with (first
      | (at_builtin; go_must (refine wpList_append_src _ rfl (.tmp 5) (.tmp 6) 55 rfl w.heap.size 5 i4 _ 1 1 Try.underlying55 hi4 hq0 hq1 hq2 hq3 hq4 (.slice (some ⟨w.heap.size, 0, none⟩) 0 0) 0 [] rfl hown (some ⟨g, o, s⟩) xs.length c xs rfl HL1.out hsrc h1c h1 h2 h3 ?_)
         intro v1 w3 hn1 hg1 hl1)
      | fail)
    simp only [Nat.zero_add, List.nil_append] at hn1
    go_ret
    exact ⟨_, rfl, hn1, ((Moves.refl _ w).alloc _).grown hg1 (fun k hk hlt => by simp [Value.ownBlock] at hk; omega)⟩

theorem infoT : (Try.prog.info? 4).map (fun i => (i.zero, i.size, i.bytes)) = some (some (.bool false), 1, 1) := by kernel_rfl
def CloneT (w : World) (xs : List Value) (e : Ending) (w' : World) : Prop := ∃ v, e = .returned v ∧ w'.ownsRow w.heap.size 4 1 v xs.length xs ∧ Moves (fun _ => False) w w'
set_option maxHeartbeats 1000000 in
theorem cloneT {w : World} {L : Nat → Prop} {v : Value} {xs : List Value} (hr : Row w L v xs) (h1c : ∀ u ∈ xs, u.oneCell' = true) (hlen : xs.length ≤ 1000000) : Calls Try.prog 65 #[v] w (CloneT w xs) := by
  obtain ⟨A, c, rfl, hc, hx⟩ := hr
  have qS : ∀ (w : World) (a : Option Addr) (n c : Nat), (binOp .eql 45 (.slice a n c) (.slice none 0 0)).run Try.prog w = .ok (.bool a.isNone) w := fun w a n c => Lib.run_eql_slice_nil w _ _ a n c 0 0 Try.underlying45
  cases A with
  | none =>
    have hk : xs = [] := by
      cases xs with
      | nil => rfl
      | cons a r => obtain ⟨g, o, h, _⟩ := hx (by simp); cases h
    subst hk
    clear hx
    go_enter Try.func65, Try.ntmps65
    go_wp2
    go_ret
    exact ⟨_, rfl, World.ownsRow_nil _ _ _ _, Moves.refl _ _⟩
  | some a =>
    obtain ⟨i4, hi4, hq0, hq1, hq2⟩ := info_parts infoT
    have hq3 : ((.bool false) : Value).cells.size = 1 := rfl
    have hq4 : (0 : Nat) < 1 := by decide
    have hsrc : Src (w.alloc (.cells #[] 4)) (some a) xs.length xs := fun h0 => by
      obtain ⟨g, o, h, _, hgl, hcell⟩ := hx h0
      cases h
      refine ⟨_, rfl, fun j u hu => ?_⟩
      have e1 : (⟨g, o, none⟩ : Addr).add j = ⟨g, o + j, none⟩ := by unfold Addr.add; split <;> simp_all
      rw [e1]
      exact (World.cell?_alloc_lt w _ ⟨g, o + j, none⟩ hgl).trans (hcell j u hu)
    have HL1 : Hid (xs.length = xs.length * 1) := Lib.hid (by omega)
    have h1 : 0 + xs.length ≤ maxLen := by unfold maxLen; omega
    have h2 : (0 + xs.length) * 1 ≤ 140737488355328 := by omega
    have h3 : w.heap.size ≤ (w.alloc (.cells #[] 4)).heap.size := by simp
    have hown : (w.alloc (.cells #[] 4)).ownsRow w.heap.size 4 1 (.slice (some ⟨w.heap.size, 0, none⟩) 0 0) 0 [] := World.ownsRow_made w #[] 0 (Nat.le_refl _) (by unfold maxLen; omega) (by simp)
    clear hx
    obtain ⟨g, o, s⟩ := a
    go_enter Try.func65, Try.ntmps65
    go_wp2_with (first
      | (at_builtin; go_must (refine wpList_append_src _ rfl (.tmp 5) (.tmp 6) 45 rfl w.heap.size 4 i4 _ 1 1 Try.underlying45 hi4 hq0 hq1 hq2 hq3 hq4 (.slice (some ⟨w.heap.size, 0, none⟩) 0 0) 0 [] rfl hown (some ⟨g, o, s⟩) xs.length c xs rfl HL1.out hsrc h1c h1 h2 h3 ?_)
         intro v1 w3 hn1 hg1 hl1)
      | fail)
    simp only [Nat.zero_add, List.nil_append] at hn1
    go_ret
    exact ⟨_, rfl, hn1, ((Moves.refl _ w).alloc _).grown hg1 (fun k hk hlt => by simp [Value.ownBlock] at hk; omega)⟩

theorem clipB (w : World) (A : Option Addr) (n c : Nat) (hc : n ≤ c) (hm : c ≤ maxLen) (hA : A = none → c = 0) : Calls Try.prog 81 #[.slice A n c] w (SameP w (.slice A n n)) := by
  unfold maxLen at hm
  cases A with
  | none =>
    obtain rfl := hA rfl
    obtain rfl : n = 0 := by omega
    go_enter Try.func81, Try.ntmps81
    go_wp2
    go_ret
    exact ⟨rfl, rfl⟩
  | some a =>
    clear hA
    obtain ⟨g, o, s⟩ := a
    go_enter Try.func81, Try.ntmps81
    go_wp2
    go_ret
    exact ⟨rfl, rfl⟩
end Go.Proofs.Ytnagpianaghjeaa.Pl
