/-
  The contracts of a set of keys: Add whatever the set, Remove, Has.
-/
import Derived.Test.YtmennobdgfgjaaaKeySet
import Derived.BigQuiet
import Derived.Deep.QuietTactic
namespace Go.Proofs.Ytmennobdgfgjaaa
open Go Go.RowKit Go.Maps Go.Sort Go.Proofs

theorem add_any {w : World} {base p : Nat} {M M' ks : List Pr} {n : Int} {L : Nat → Prop} {v : Value} (h : SetAt w base p M) (hr : KRow w L v ks) (hwf : ∀ q ∈ ks, wf2 q) (hlen : M.length + ks.length ≤ 1000000) (hM : addL M ks = M') (hn : (M'.length : Int) - M.length = n) :
    Calls Try.prog 31 #[.pointer (some ⟨p, 0, none⟩), v] w (SetPost w base p M' n (SetOwn w p)) := by
  obtain ⟨mv, hb, hp, hx⟩ := h
  rcases hx with ⟨rfl, rfl⟩ | ⟨m, D, rfl, hbm, hown, hk⟩
  · exact (add_nil hb hp hr hwf (by simpa using hlen) hM (by simpa using hn)).mono fun e w' ⟨he, hs, hm⟩ => ⟨he, hs, hm.mono fun i hi => .inl hi⟩
  · exact (add_some ⟨hb, hp, hbm, hown, hk⟩ hr hwf hlen hM hn).mono fun e w' ⟨he, hs, hm⟩ => ⟨he, hs, hm.mono fun i hi => .inr (by rw [hi]; exact hb)⟩

/-! ### Has -/
theorem plainElem_bool_inv {v : Value} {z : DataW Unit × List MemPlace} (h : RB v = some z) : ∃ b, v = .bool b ∧ z = (.lit (.bool b), []) := by
  cases v <;> simp [RB, plainElem, Try.underlying4] at h
  exact ⟨_, rfl, h.symm⟩

theorem zeroB (w : World) : (zeroValue 4).run Try.prog w = .ok (.bool false) w := by kernel_rfl

set_option maxRecDepth 100000 in
theorem has_run {w : World} {m n : Nat} {D : DataW Unit} {M : List Pr} {k : Pr} {b : Bool} (hown : w.ownsMap Try.prog 49 RB m n D) (hk : KOf D M) (hwf : wf2 k) (hb : decide (k ∈ M) = b) :
    (Instr.lookup 60 (.map (some m)) (encK k) false).run Try.prog w = .ok (.bool b) w := by
  obtain ⟨v, ps, hrun, hv⟩ := hown.lookup lawK Try.underlying60 (zeroB w) (plainElem_bool Try.underlying4 false) (keyOf_K hwf)
  obtain ⟨b', rfl, hz⟩ := plainElem_bool_inv hv
  rw [hrun]
  have fin : b' = b → Result.ok (Value.bool b') w = Result.ok (Value.bool b) w := fun e => by rw [e]
  refine fin ?_
  have hz1 := congrArg Prod.fst hz
  simp only at hz1
  by_cases hm : k ∈ M
  · rw [hk.val k hm] at hz1
    have : true = b' := by simpa using hz1
    rw [← this, ← hb]
    exact (decide_eq_true hm).symm
  · rw [atKey_of_not_has (by
      cases hh : Maps.has D (kK k)
      · rfl
      · exact absurd ((hk.has k hwf).1 hh) hm)] at hz1
    have : false = b' := by simpa using hz1
    rw [← this, ← hb]
    exact (decide_eq_false hm).symm

def HasPost (w : World) (b : Bool) (e : Ending) (w' : World) : Prop := e = .returned (.bool b) ∧ Moves (fun _ => False) w w'

set_option maxRecDepth 100000 in
set_option maxHeartbeats 1000000 in
theorem has_any {w : World} {base p : Nat} {M : List Pr} {k : Pr} {b : Bool} (h : SetAt w base p M) (hwf : wf2 k) (hb : decide (k ∈ M) = b) : Calls Try.prog 37 #[.pointer (some ⟨p, 0, none⟩), encK k] w (HasPost w b) := by
  have hkey := keyOf_K hwf
  obtain ⟨k1, k2⟩ := k
  have hW := (Moves.refl (fun _ => False) w).alloc (.cells #[.int .i64 k1, .int .i64 k2] 49)
  have hk0 := cell2 w (.int .i64 k1) (.int .i64 k2) 49
  obtain ⟨mv, hbk, hp, hx⟩ := h.moves0 hW
  rcases hx with ⟨rfl, rfl⟩ | ⟨m, D, rfl, hbm, hown, hk⟩
  · have hb' : false = b := by simpa using hb
    subst hb'
    have hrun : ∀ q, (Instr.lookup 60 (.map none) (.agg #[.int .i64 k1, .int .i64 k2]) false).run Try.prog ((w.alloc (.cells #[.int .i64 k1, .int .i64 k2] 49)).drewN q) = .ok (.bool false) ((w.alloc (.cells #[.int .i64 k1, .int .i64 k2] 49)).drewN q) := fun q => Maps.look_nil false lawK Try.underlying60 (zeroB _) hkey
    have c0 : (w.alloc (.cells #[.int .i64 k1, .int .i64 k2] 49)).cell? ⟨p, 0, none⟩ = some (.map none) := by simp only [World.cell?, hbk]; rfl
    clear hbk hkey
    go_enter Try.func37, Try.ntmps37
    go_wp2_with fail
    generalize w.alloc (.cells #[.int .i64 k1, .int .i64 k2] 49) = W at hW hk0 hrun c0 ⊢
    obtain ⟨q0, q1⟩ := hk0
    go_quiet (fail)
    go_wp2
    go_ret
    exact ⟨rfl, hW.drewN _⟩
  · have hrun : ∀ q, (Instr.lookup 60 (.map (some m)) (.agg #[.int .i64 k1, .int .i64 k2]) false).run Try.prog ((w.alloc (.cells #[.int .i64 k1, .int .i64 k2] 49)).drewN q) = .ok (.bool b) ((w.alloc (.cells #[.int .i64 k1, .int .i64 k2] 49)).drewN q) := fun q => has_run (w := (w.alloc (.cells #[.int .i64 k1, .int .i64 k2] 49)).drewN q) hown hk hwf hb
    have c0 : (w.alloc (.cells #[.int .i64 k1, .int .i64 k2] 49)).cell? ⟨p, 0, none⟩ = some (.map (some m)) := by simp only [World.cell?, hbk]; rfl
    clear hbk hkey hown hb
    go_enter Try.func37, Try.ntmps37
    go_wp2_with fail
    generalize w.alloc (.cells #[.int .i64 k1, .int .i64 k2] 49) = W at hW hk0 hrun c0 ⊢
    obtain ⟨q0, q1⟩ := hk0
    go_quiet (fail)
    go_wp2
    go_ret
    exact ⟨rfl, hW.drewN _⟩
end Go.Proofs.Ytmennobdgfgjaaa
