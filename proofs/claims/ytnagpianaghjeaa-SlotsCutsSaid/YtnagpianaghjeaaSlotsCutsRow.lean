/-
  The statement of SlotsCuts: whatever the arguments hold, the call answers true and leaves them as they were. No condition.
-/
import Derived.Test.YtnagpianaghjeaaRows
import Derived.ProofKit
import Derived.OpenShut
import Derived.ShutString
import Derived.ChangeOld
import Derived.Below
import Derived.HandedShaped
import Derived.Test.YtnagpianaghjeaaSlotsCutsWalk
import Derived.Test.YtnagpianaghjeaaOpen
namespace Go.Proofs.Ytnagpianaghjeaa.Sl
open Go Go.RowKit Go.Proofs

theorem slots_cuts_any {w : World} {A B : Option Addr} {c cb M : Nat} {l : List Blk} {n : Int} {keep : List Bool} {L : Nat → Prop} (hl : Blks w (.slice A l.length c) l) (hk : Row w L (.slice B M cb) (keep.map .bool)) (hkM : keep.length = M) :
    Calls Try.prog 5 #[.slice A l.length c, .int .i64 n, .slice B M cb] w (TrueP w) := by
  by_cases h : l.length = 0 ∨ 10 < l.length ∨ n < 0 ∨ 30 < n ∨ 300 < M
  · exact cuts_skip h
  · obtain ⟨A', c', hv, -, hx⟩ := hl
    cases hv
    have h0 : 0 < l.length := by omega
    obtain ⟨g, o, rfl, hg, hat⟩ := hx h0
    obtain ⟨⟨gs, gl, gw⟩, hG⟩ : ∃ q, l[0].geom = q := ⟨_, rfl⟩
    by_cases hF : FreshG ⟨gs, gl, gw⟩
    · exact cuts_go rfl (by omega) hg hat (by omega) hk hkM (by omega) h0 hG hF
    · exact cuts_nil rfl (by omega) hg hat (by omega) hk hkM (by omega) h0 hG hF
theorem slots_cuts_row (w : World) {v u : Value} {l : List Blk} {n : Int} {keep : List Bool} {L : Nat → Prop} (hl : Blks w v l) (_hn : (Lit.int .i64 n).wf = true) (hk : Row w L u (keep.map Value.bool)) :
    Calls Try.prog 5 #[v, .int .i64 n, u] w (TrueP w) := by
  have hl2 := hl
  have hk2 := hk
  obtain ⟨A, c, rfl, -⟩ := hl2
  obtain ⟨B, cb, rfl, -⟩ := hk2
  rw [List.length_map] at hk ⊢
  exact slots_cuts_any hl hk rfl
end Go.Proofs.Ytnagpianaghjeaa.Sl
namespace Go.Proofs.Ytnagpianaghjeaa.slotsCuts
open Go.ChangeShapes Go.WideShapes Go.ChangeAt Go.RowKit Go.Proofs.Ytnagpianaghjeaa
open Go.ChangeMaps (open_string shut_string)
set_option linter.unusedVariables false

theorem own : ownKnob Try.prog.godebug = none := by kernel_rfl
theorem laidOut : laidOutB Try.prog = true := by kernel_rfl

set_option maxRecDepth 100000 in
theorem lifted (os : Os) (started : os.Started) (H : Type) (enc : TypeId × Value → H) :
    ReturnsInHanded {} Try.checked os 5 .any (Rows.slotsCutsSpec.pre6 enc Try.prog Try.f5 Rows.slotsCutsRow.domain false) (Rows.slotsCutsSpec.post enc Try.prog Try.f5 false true false false) := by
  refine returnsInHanded_of_change_sized (C := Try.checked) own started (by kernel_rfl) Try.func5
    (ChangeSpec.witness6 (enc := enc) (C := Try.checked) false ⟨#[], #[.slice none 0 0, .int .i64 0, .slice none 0 0], []⟩ 8 (by kernel_rfl) (by kernel_rfl) (by kernel_rfl) (by kernel_rfl)) ?_
  intro W base args ds gs before hval0 hW hcnd hsz _
  have hval : ∀ (j : Nat) t v, Try.f5.params[j]? = some t → args[j]? = some v → Value.okWide Try.prog W .any base t v := hval0
  have hW' := hW
  obtain ⟨p, q, hA0, hV, rfl, hfz, hnd⟩ := hW
  have hA : DataW.TrodAll enc Try.prog W 0 (fun _ => true) true Try.f5.params.toList args.toList ds p := hA0
  rw [Try.params5] at hA hval
  obtain ⟨v0, vs0, d0, ds0, p0, q0, hargs, rfl, rfl, h0, r0⟩ := trodAll_cons hA
  obtain ⟨v1, vs1, d1, ds1, p1, q1, rfl, rfl, rfl, h1, r1⟩ := trodAll_cons r0
  obtain ⟨v2, vs2, d2, ds2, p2, q2, rfl, rfl, rfl, h2, r2⟩ := trodAll_cons r1
  obtain ⟨rfl, rfl, rfl⟩ := trodAll_nil r2
  obtain rfl : args = #[v0, v1, v2] := by cases args; simp_all
  obtain ⟨rfl, rfl⟩ := trodVars_none hV
  have k0 := h0
  have lt0 : ∀ x ∈ p0, x.block < W.heap.size := by obtain ⟨m, hm⟩ := k0; exact DataW.trod_lt m _ _ _ hm
  obtain ⟨z0, w0⟩ := Sl.open_blks (hval 0 44 v0 rfl rfl) h0
  have k1 := h1
  have lt1 : ∀ x ∈ p1, x.block < W.heap.size := by obtain ⟨m, hm⟩ := k1; exact DataW.trod_lt m _ _ _ hm
  obtain ⟨a1, rfl, rfl, rfl, w1⟩ := open_int Try.underlying3 (hval 1 3 v1 rfl rfl) h1
  have k2 := h2
  have lt2 : ∀ x ∈ p2, x.block < W.heap.size := by obtain ⟨m, hm⟩ := k2; exact DataW.trod_lt m _ _ _ hm
  obtain ⟨z2, w2⟩ := open_row_bool Try.underlying45 Try.underlying4 (by kernel_rfl) (hval 2 45 v2 rfl rfl) h2
  clear hA0 hval0
  refine (Sl.slots_cuts_row W w0 w1 w2).mono fun e W' ⟨he, hm⟩ => ?_
  subst he
  have bel : Below W.heap.size W W' := hm.below (Nat.le_refl _) (fun _ _ h => h)
  exact ⟨_, rfl, _, _, _, [], _, [], hW', trodAll_mk1 (shut_bool Try.underlying4 _), (trodAll_cons_mk (Below.trod laidOut (by kernel_rfl) (of_decide_eq_true (by kernel_rfl)) k0 bel lt0) (trodAll_cons_mk (Below.trod laidOut (by kernel_rfl) (of_decide_eq_true (by kernel_rfl)) k1 bel lt1) (trodAll_cons_mk (Below.trod laidOut (by kernel_rfl) (of_decide_eq_true (by kernel_rfl)) k2 bel lt2) trodAll_mk0))), rfl, bel.frame _, fun h => by cases h⟩

theorem over : Rows.slotsCutsRow.holds Try.pinned (OpenSpec.ofChange Rows.slotsCutsSpec) :=
  OpenClaim.holds_of_wide 5 Try.f5 rfl rfl rfl rfl rfl rfl rfl ⟨rfl, rfl, rfl, rfl, rfl⟩ rfl rfl rfl rfl rfl (by kernel_rfl) Try.func5 (by kernel_rfl)
    (of_decide_eq_true (by kernel_rfl)) (by unfold Func.isWrapper; first | (rw [if_pos (by decide +kernel)]; kernel_rfl) | (rw [if_neg (by decide +kernel)]; exact ⟨rfl, rfl⟩))
    (fun os started H enc _ => lifted os started H enc)

theorem proved : Rows.SlotsCutsSaid := over
#print axioms proved
end Go.Proofs.Ytnagpianaghjeaa.slotsCuts
