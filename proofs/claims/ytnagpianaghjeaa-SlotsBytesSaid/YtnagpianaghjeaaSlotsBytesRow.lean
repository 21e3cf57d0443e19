/-
  SlotsBytes, whatever the arguments hold.
  The statement of SlotsBytes: whatever the arguments hold, the call answers true and leaves them as they were. No condition.
-/
import Derived.Test.YtnagpianaghjeaaSlotsBytesWalk
import Derived.Test.YtnagpianaghjeaaRows
import Derived.ProofKit
import Derived.OpenShut
import Derived.ShutString
import Derived.ChangeOld
import Derived.Below
import Derived.HandedShaped
import Derived.Test.YtnagpianaghjeaaOpen
namespace Go.Proofs.Ytnagpianaghjeaa.Sl
open Go Go.RowKit Go.Proofs

theorem pick_lt {p t : Blk} (h : t.epoch < p.epoch) : pickB (some p) (some t) = some p := if_pos h
theorem pick_ge {p t : Blk} (h : ¬ t.epoch < p.epoch) : pickB (some p) (some t) = some t := if_neg h
theorem slots_bytes_any (w : World) {v u : Value} {a b : List Int} {L L' : Nat → Prop} {z n : Int} (rA : Row w L v (a.map encX)) (bA : ∀ x ∈ a, 0 ≤ x ∧ x < 256) (rB : Row w L' u (b.map encX)) (bB : ∀ x ∈ b, 0 ≤ x ∧ x < 256) : Calls Try.prog 6 #[v, u, .int .i64 z, .int .i64 n] w (TrueP w) := by
  by_cases hg : z < 64 ∨ 256 < z ∨ n < 1 ∨ 300 < n ∨ (a.length : Int) ≠ z ∨ (b.length : Int) ≠ z
  · obtain ⟨A, ca, rfl, -, -⟩ := rA
    obtain ⟨B, cb, rfl, -, -⟩ := rB
    rw [List.length_map, List.length_map]
    exact bytes_skip hg
  obtain ⟨y, rfl⟩ : ∃ y : Nat, z = y := ⟨z.toNat, by omega⟩
  obtain ⟨k, rfl⟩ : ∃ k : Nat, n = k := ⟨n.toNat, by omega⟩
  have hal : a.length = y := by omega
  have hbl : b.length = y := by omega
  have hy : 64 ≤ y ∧ y ≤ 256 := by omega
  have hk : 1 ≤ k ∧ k ≤ 300 := by omega
  have ha : BRow w L v a := ⟨rA, bA, by omega⟩
  have hb : BRow w L' u b := ⟨rB, bB, by omega⟩
  by_cases h2 : k < 2
  · exact bytes_one ha hb hal hbl hy hk rfl h2
  generalize hr0 : rightR (y : Int) (k : Int) 0 a = r0
  generalize hr1 : rightR (y : Int) (k : Int) 1 b = r1
  cases r0 with
  | none =>
    cases r1 with
    | none => exact bytes_go (o0 := false) (o1 := false) ha hb hal hbl hy hk rfl h2 hr0 hr1 (hP := rfl) (hQ := rfl) (hX := rfl) rfl rfl rfl (fun h => by cases h) (fun h => by cases h) (fun _ _ => rfl)
    | some t =>
      obtain ⟨t0, ⟨t1, t2, t3⟩, t4, t5, t6⟩ := t
      exact bytes_go (o0 := false) (o1 := true) ha hb hal hbl hy hk rfl h2 hr0 hr1 (hP := rfl) (hQ := rfl) (hX := rfl) rfl rfl rfl (fun h => by cases h) (fun _ _ => ⟨⟨rfl, rfl, rfl, rfl, rfl, rfl, rfl⟩, rfl⟩) (fun _ h => by cases h)
  | some p =>
    obtain ⟨p0, ⟨p1, p2, p3⟩, p4, p5, p6⟩ := p
    cases r1 with
    | none => exact bytes_go (o0 := true) (o1 := false) ha hb hal hbl hy hk rfl h2 hr0 hr1 (hP := rfl) (hQ := rfl) (hX := rfl) rfl rfl rfl (fun _ _ => ⟨⟨rfl, rfl, rfl, rfl, rfl, rfl, rfl⟩, rfl⟩) (fun h => by cases h) (fun h => by cases h)
    | some t =>
      obtain ⟨t0, ⟨t1, t2, t3⟩, t4, t5, t6⟩ := t
      by_cases he : t0 < p0
      · have hp := pick_lt (p := ⟨p0, ⟨p1, p2, p3⟩, p4, p5, p6⟩) (t := ⟨t0, ⟨t1, t2, t3⟩, t4, t5, t6⟩) he
        exact bytes_go (o0 := true) (o1 := true) ha hb hal hbl hy hk rfl h2 hr0 hr1 (hP := rfl) (hQ := rfl) (hX := by rw [hp]; rfl) rfl rfl (by rw [hp]; rfl) (fun _ _ => ⟨⟨rfl, rfl, rfl, rfl, rfl, rfl, rfl⟩, rfl⟩) (fun _ h => absurd ⟨rfl, he⟩ h) (fun h => by cases h)
      · have hp := pick_ge (p := ⟨p0, ⟨p1, p2, p3⟩, p4, p5, p6⟩) (t := ⟨t0, ⟨t1, t2, t3⟩, t4, t5, t6⟩) he
        exact bytes_go (o0 := true) (o1 := true) ha hb hal hbl hy hk rfl h2 hr0 hr1 (hP := rfl) (hQ := rfl) (hX := by rw [hp]; rfl) rfl rfl (by rw [hp]; rfl) (fun _ h => absurd h (fun h => by rcases h with h | h; cases h; exact he h)) (fun _ _ => ⟨⟨rfl, rfl, rfl, rfl, rfl, rfl, rfl⟩, rfl⟩) (fun h => by cases h)
theorem u8_in {zs : List Int} (h : ∀ z ∈ zs, (Lit.int .u8 z).wf = true) : ∀ z ∈ zs, 0 ≤ z ∧ z < 256 := fun z hz => by
  have q : 0 ≤ z ∧ z ≤ 255 := by simpa [Lit.wf, IntKind.min, IntKind.max, IntKind.signed, IntKind.bits] using h z hz
  omega
theorem slots_bytes_row (w : World) {v u : Value} {a b : List Int} {L L' : Nat → Prop} {z n : Int} (ha : Row w L v (a.map (Value.int .u8)) ∧ ∀ x ∈ a, (Lit.int .u8 x).wf = true) (hb : Row w L' u (b.map (Value.int .u8)) ∧ ∀ x ∈ b, (Lit.int .u8 x).wf = true) : Calls Try.prog 6 #[v, u, .int .i64 z, .int .i64 n] w (TrueP w) :=
  slots_bytes_any w ha.1 (u8_in ha.2) hb.1 (u8_in hb.2)
end Go.Proofs.Ytnagpianaghjeaa.Sl
namespace Go.Proofs.Ytnagpianaghjeaa.slotsBytes
open Go.ChangeShapes Go.WideShapes Go.ChangeAt Go.RowKit Go.Proofs.Ytnagpianaghjeaa
open Go.ChangeMaps (open_string shut_string)
set_option linter.unusedVariables false

theorem own : ownKnob Try.prog.godebug = none := by kernel_rfl
theorem laidOut : laidOutB Try.prog = true := by kernel_rfl

set_option maxRecDepth 100000 in
theorem lifted (os : Os) (started : os.Started) (H : Type) (enc : TypeId × Value → H) :
    ReturnsInHanded {} Try.checked os 6 .any (Rows.slotsBytesSpec.pre6 enc Try.prog Try.f6 Rows.slotsBytesRow.domain false) (Rows.slotsBytesSpec.post enc Try.prog Try.f6 false true false false) := by
  refine returnsInHanded_of_change_sized (C := Try.checked) own started (by kernel_rfl) Try.func6
    (ChangeSpec.witness6 (enc := enc) (C := Try.checked) false ⟨#[], #[.slice none 0 0, .slice none 0 0, .int .i64 0, .int .i64 0], []⟩ 8 (by kernel_rfl) (by kernel_rfl) (by kernel_rfl) (by kernel_rfl)) ?_
  intro W base args ds gs before hval0 hW hcnd hsz _
  have hval : ∀ (j : Nat) t v, Try.f6.params[j]? = some t → args[j]? = some v → Value.okWide Try.prog W .any base t v := hval0
  have hW' := hW
  obtain ⟨p, q, hA0, hV, rfl, hfz, hnd⟩ := hW
  have hA : DataW.TrodAll enc Try.prog W 0 (fun _ => true) true Try.f6.params.toList args.toList ds p := hA0
  rw [Try.params6] at hA hval
  obtain ⟨v0, vs0, d0, ds0, p0, q0, hargs, rfl, rfl, h0, r0⟩ := trodAll_cons hA
  obtain ⟨v1, vs1, d1, ds1, p1, q1, rfl, rfl, rfl, h1, r1⟩ := trodAll_cons r0
  obtain ⟨v2, vs2, d2, ds2, p2, q2, rfl, rfl, rfl, h2, r2⟩ := trodAll_cons r1
  obtain ⟨v3, vs3, d3, ds3, p3, q3, rfl, rfl, rfl, h3, r3⟩ := trodAll_cons r2
  obtain ⟨rfl, rfl, rfl⟩ := trodAll_nil r3
  obtain rfl : args = #[v0, v1, v2, v3] := by cases args; simp_all
  obtain ⟨rfl, rfl⟩ := trodVars_none hV
  have k0 := h0
  have lt0 : ∀ x ∈ p0, x.block < W.heap.size := by obtain ⟨m, hm⟩ := k0; exact DataW.trod_lt m _ _ _ hm
  obtain ⟨z0, w0⟩ := open_row_int Try.underlying55 Try.underlying5 (by kernel_rfl) (hval 0 55 v0 rfl rfl) h0
  have k1 := h1
  have lt1 : ∀ x ∈ p1, x.block < W.heap.size := by obtain ⟨m, hm⟩ := k1; exact DataW.trod_lt m _ _ _ hm
  obtain ⟨z1, w1⟩ := open_row_int Try.underlying55 Try.underlying5 (by kernel_rfl) (hval 1 55 v1 rfl rfl) h1
  have k2 := h2
  have lt2 : ∀ x ∈ p2, x.block < W.heap.size := by obtain ⟨m, hm⟩ := k2; exact DataW.trod_lt m _ _ _ hm
  obtain ⟨a2, rfl, rfl, rfl, w2⟩ := open_int Try.underlying3 (hval 2 3 v2 rfl rfl) h2
  have k3 := h3
  have lt3 : ∀ x ∈ p3, x.block < W.heap.size := by obtain ⟨m, hm⟩ := k3; exact DataW.trod_lt m _ _ _ hm
  obtain ⟨a3, rfl, rfl, rfl, w3⟩ := open_int Try.underlying3 (hval 3 3 v3 rfl rfl) h3
  clear hA0 hval0
  refine (Sl.slots_bytes_row W w0 w1).mono fun e W' ⟨he, hm⟩ => ?_
  subst he
  have bel : Below W.heap.size W W' := hm.below (Nat.le_refl _) (fun _ _ h => h)
  exact ⟨_, rfl, _, _, _, [], _, [], hW', trodAll_mk1 (shut_bool Try.underlying4 _), (trodAll_cons_mk (Below.trod laidOut (by kernel_rfl) (of_decide_eq_true (by kernel_rfl)) k0 bel lt0) (trodAll_cons_mk (Below.trod laidOut (by kernel_rfl) (of_decide_eq_true (by kernel_rfl)) k1 bel lt1) (trodAll_cons_mk (Below.trod laidOut (by kernel_rfl) (of_decide_eq_true (by kernel_rfl)) k2 bel lt2) (trodAll_cons_mk (Below.trod laidOut (by kernel_rfl) (of_decide_eq_true (by kernel_rfl)) k3 bel lt3) trodAll_mk0)))), rfl, bel.frame _, fun h => by cases h⟩

theorem over : Rows.slotsBytesRow.holds Try.pinned (OpenSpec.ofChange Rows.slotsBytesSpec) :=
  OpenClaim.holds_of_wide 6 Try.f6 rfl rfl rfl rfl rfl rfl rfl ⟨rfl, rfl, rfl, rfl, rfl⟩ rfl rfl rfl rfl rfl (by kernel_rfl) Try.func6 (by kernel_rfl)
    (of_decide_eq_true (by kernel_rfl)) (by unfold Func.isWrapper; first | (rw [if_pos (by decide +kernel)]; kernel_rfl) | (rw [if_neg (by decide +kernel)]; exact ⟨rfl, rfl⟩))
    (fun os started H enc _ => lifted os started H enc)

theorem proved : Rows.SlotsBytesSaid := over
#print axioms proved
end Go.Proofs.Ytnagpianaghjeaa.slotsBytes
