/-
  slices.Clone at slices of bytes.
-/
import Derived.Test.YtnagpianaghjeaaWords
import Derived.Test.YtnagpianaghjeaaKeyBase
import Derived.Test.YtnagpianaghjeaaAppend
import Derived.Deep.DeepMust
import Derived.WalkSpells
namespace Go.Proofs.Ytnagpianaghjeaa.Pl
open Go Go.RowKit Go.Maps Go.Sort Go.Proofs

theorem infoS : (Try.prog.info? 55).map (fun i => (i.zero, i.size, i.bytes)) = some (some (.slice none 0 0), 1, 24) := by kernel_rfl
def CloneS (w : World) (xs : List Value) (e : Ending) (w' : World) : Prop := ∃ v, e = .returned v ∧ w'.ownsRow w.heap.size 55 1 v xs.length xs ∧ Moves (fun _ => False) w w'
set_option maxHeartbeats 1000000 in
theorem cloneS {w : World} {L : Nat → Prop} {v : Value} {xs : List Value} (hr : Row w L v xs) (h1c : ∀ u ∈ xs, u.oneCell' = true) (hlen : xs.length ≤ 1000000) : Calls Try.prog 77 #[v] w (CloneS w xs) := by
  obtain ⟨A, c, rfl, hc, hx⟩ := hr
  have qS : ∀ (w : World) (a : Option Addr) (n c : Nat), (binOp .eql 71 (.slice a n c) (.slice none 0 0)).run Try.prog w = .ok (.bool a.isNone) w := fun w a n c => Lib.run_eql_slice_nil w _ _ a n c 0 0 Try.underlying71
  cases A with
  | none =>
    have hk : xs = [] := by
      cases xs with
      | nil => rfl
      | cons a r => obtain ⟨g, o, h, _⟩ := hx (by simp); cases h
    subst hk
    clear hx
    go_enter Try.func77, Try.ntmps77
    go_wp2
    go_ret
    exact ⟨_, rfl, World.ownsRow_nil _ _ _ _, Moves.refl _ _⟩
  | some a =>
    obtain ⟨i4, hi4, hq0, hq1, hq2⟩ := info_parts infoS
    have hq3 : ((.slice none 0 0) : Value).cells.size = 1 := rfl
    have hq4 : (0 : Nat) < 1 := by decide
    have hsrc : Src (w.alloc (.cells #[] 55)) (some a) xs.length xs := fun h0 => by
      obtain ⟨g, o, h, _, hgl, hcell⟩ := hx h0
      cases h
      refine ⟨_, rfl, fun j u hu => ?_⟩
      have e1 : (⟨g, o, none⟩ : Addr).add j = ⟨g, o + j, none⟩ := by unfold Addr.add; split <;> simp_all
      rw [e1]
      exact (World.cell?_alloc_lt w _ ⟨g, o + j, none⟩ hgl).trans (hcell j u hu)
    have HL1 : Hid (xs.length = xs.length * 1) := Lib.hid (by omega)
    have h1 : 0 + xs.length ≤ maxLen := by unfold maxLen; omega
    have h2 : (0 + xs.length) * 24 ≤ 140737488355328 := by omega
    have h3 : w.heap.size ≤ (w.alloc (.cells #[] 55)).heap.size := by simp
    have hown : (w.alloc (.cells #[] 55)).ownsRow w.heap.size 55 1 (.slice (some ⟨w.heap.size, 0, none⟩) 0 0) 0 [] := World.ownsRow_made w #[] 0 (Nat.le_refl _) (by unfold maxLen; omega) (by simp)
    clear hx
    obtain ⟨g, o, s⟩ := a
    go_enter Try.func77, Try.ntmps77
    go_wp2_with (first
      | (at_builtin; go_must (refine wpList_append_src _ rfl (.tmp 5) (.tmp 6) 71 rfl w.heap.size 55 i4 _ 1 24 Try.underlying71 hi4 hq0 hq1 hq2 hq3 hq4 (.slice (some ⟨w.heap.size, 0, none⟩) 0 0) 0 [] rfl hown (some ⟨g, o, s⟩) xs.length c xs rfl HL1.out hsrc h1c h1 h2 h3 ?_)
         intro v1 w3 hn1 hg1 hl1)
      | fail)
    simp only [Nat.zero_add, List.nil_append] at hn1
    go_ret
    exact ⟨_, rfl, hn1, ((Moves.refl _ w).alloc _).grown hg1 (fun k hk hlt => by simp [Value.ownBlock] at hk; omega)⟩
end Go.Proofs.Ytnagpianaghjeaa.Pl
