/-
  The statement of RingBytes: whatever the arguments hold, the call answers true and leaves them as they were. No condition.
-/
import Derived.Test.YtnagpianaghjeaaRows
import Derived.ProofKit
import Derived.OpenShut
import Derived.ShutString
import Derived.ChangeOld
import Derived.Below
import Derived.HandedShaped
import Derived.Test.YtnagpianaghjeaaBdRingBytes28
import Derived.Test.YtnagpianaghjeaaBdRingBytes29
namespace Go.Proofs.Ytnagpianaghjeaa.Rg
open Go Go.RowKit Go.Proofs Go.Proofs.Ytnagpianaghjeaa.Sl

theorem u8_in {zs : List Int} (h : ∀ z ∈ zs, (Lit.int .u8 z).wf = true) : ∀ z ∈ zs, 0 ≤ z ∧ z < 256 := fun z hz => by
  have q : 0 ≤ z ∧ z ≤ 255 := by simpa [Lit.wf, IntKind.min, IntKind.max, IntKind.signed, IntKind.bits] using h z hz
  omega
theorem bytes_row (w : World) {v : Value} {a : List Int} {L : Nat → Prop} {z s n : Int} (ha : Row w L v (a.map (Value.int .u8)) ∧ ∀ x ∈ a, (Lit.int .u8 x).wf = true) (_h1 : (Lit.int .i64 z).wf = true) (_h2 : (Lit.int .i64 s).wf = true) (_h3 : (Lit.int .i64 n).wf = true) : Calls Try.prog 9 #[v, .int .i64 z, .int .i64 s, .int .i64 n] w (TrueQ w) := by
  have hb := u8_in ha.2
  obtain ⟨A, c, rfl, hc, hx⟩ := ha.1
  rw [List.length_map] at hc hx ⊢
  by_cases h6 : 6000 < a.length
  · exact rbytes_skip (.inl h6)
  by_cases hbad : z < 64 ∨ 1024 < z ∨ (a.length : Int) % z ≠ 0 ∨ a.length = 0
  · exact rbytes_skip (.inr ⟨by omega, hbad⟩)
  obtain ⟨y, rfl⟩ : ∃ y : Nat, z = y := ⟨z.toNat, by omega⟩
  have hy : 64 ≤ y ∧ y ≤ 1024 := by omega
  have hm : a.length % y = 0 := by
    have : (a.length : Int) % (y : Int) = 0 := Classical.byContradiction (fun h => hbad (.inr (.inr (.inl h))))
    exact_mod_cast this
  have hN : a.length = a.length / y * y := by
    have h := Nat.div_add_mod a.length y
    rw [hm, Nat.add_zero, Nat.mul_comm] at h
    exact h.symm
  have hk : 1 ≤ a.length / y ∧ a.length / y ≤ 300 := by
    constructor
    · rcases Nat.eq_zero_or_pos (a.length / y) with h0 | h0
      · rw [h0, Nat.zero_mul] at hN; omega
      · exact h0
    · have h1 : a.length / y * 64 ≤ a.length / y * y := Nat.mul_le_mul_left _ hy.1
      omega
  obtain ⟨g, o, rfl, hg, hgl, hcell⟩ := hx (by omega)
  have hbr : BRow w (fun _ => True) (.slice (some ⟨g, o, none⟩) a.length c) a := ⟨⟨_, c, by rw [List.length_map], by rw [List.length_map]; exact hc, fun _ => ⟨g, o, rfl, trivial, hgl, hcell⟩⟩, hb, by omega⟩
  by_cases hs : s < 0 ∨ n < 8 ∨ ((a.length / y : Nat) : Int) < s ∨ ((a.length / y : Nat) : Int) - s < n
  · exact rbytes_bad hbr rfl hN hk hy (by omega) hs
  · obtain ⟨s', rfl⟩ : ∃ y : Nat, s = y := ⟨s.toNat, by omega⟩
    obtain ⟨n', rfl⟩ : ∃ y : Nat, n = y := ⟨n.toNat, by omega⟩
    exact rbytes_go hbr rfl hN hk hy (by omega) (by omega) (by omega)
end Go.Proofs.Ytnagpianaghjeaa.Rg
namespace Go.Proofs.Ytnagpianaghjeaa.ringBytes
open Go.ChangeShapes Go.WideShapes Go.ChangeAt Go.RowKit Go.Proofs.Ytnagpianaghjeaa
open Go.ChangeMaps (open_string shut_string)
set_option linter.unusedVariables false

theorem own : ownKnob Try.prog.godebug = none := by kernel_rfl
theorem laidOut : laidOutB Try.prog = true := by kernel_rfl

set_option maxRecDepth 100000 in
theorem lifted (os : Os) (started : os.Started) (H : Type) (enc : TypeId × Value → H) :
    ReturnsInHanded {} Try.checked os 9 .any (Rows.ringBytesSpec.pre6 enc Try.prog Try.f9 Rows.ringBytesRow.domain false) (Rows.ringBytesSpec.post enc Try.prog Try.f9 false true false false) := by
  refine returnsInHanded_of_change_sized (C := Try.checked) own started (by kernel_rfl) Try.func9
    (ChangeSpec.witness6 (enc := enc) (C := Try.checked) false ⟨#[], #[.slice none 0 0, .int .i64 0, .int .i64 0, .int .i64 0], []⟩ 8 (by kernel_rfl) (by kernel_rfl) (by kernel_rfl) (by kernel_rfl)) ?_
  intro W base args ds gs before hval0 hW hcnd hsz _
  have hval : ∀ (j : Nat) t v, Try.f9.params[j]? = some t → args[j]? = some v → Value.okWide Try.prog W .any base t v := hval0
  have hW' := hW
  obtain ⟨p, q, hA0, hV, rfl, hfz, hnd⟩ := hW
  have hA : DataW.TrodAll enc Try.prog W 0 (fun _ => true) true Try.f9.params.toList args.toList ds p := hA0
  rw [Try.params9] at hA hval
  obtain ⟨v0, vs0, d0, ds0, p0, q0, hargs, rfl, rfl, h0, r0⟩ := trodAll_cons hA
  obtain ⟨v1, vs1, d1, ds1, p1, q1, rfl, rfl, rfl, h1, r1⟩ := trodAll_cons r0
  obtain ⟨v2, vs2, d2, ds2, p2, q2, rfl, rfl, rfl, h2, r2⟩ := trodAll_cons r1
  obtain ⟨v3, vs3, d3, ds3, p3, q3, rfl, rfl, rfl, h3, r3⟩ := trodAll_cons r2
  obtain ⟨rfl, rfl, rfl⟩ := trodAll_nil r3
  obtain rfl : args = #[v0, v1, v2, v3] := by cases args; simp_all
  obtain ⟨rfl, rfl⟩ := trodVars_none hV
  have k0 := h0
  have lt0 : ∀ x ∈ p0, x.block < W.heap.size := by obtain ⟨m, hm⟩ := k0; exact DataW.trod_lt m _ _ _ hm
  obtain ⟨z0, w0⟩ := open_row_int Try.underlying55 Try.underlying5 (by kernel_rfl) (hval 0 55 v0 rfl rfl) h0
  have k1 := h1
  have lt1 : ∀ x ∈ p1, x.block < W.heap.size := by obtain ⟨m, hm⟩ := k1; exact DataW.trod_lt m _ _ _ hm
  obtain ⟨a1, rfl, rfl, rfl, w1⟩ := open_int Try.underlying3 (hval 1 3 v1 rfl rfl) h1
  have k2 := h2
  have lt2 : ∀ x ∈ p2, x.block < W.heap.size := by obtain ⟨m, hm⟩ := k2; exact DataW.trod_lt m _ _ _ hm
  obtain ⟨a2, rfl, rfl, rfl, w2⟩ := open_int Try.underlying3 (hval 2 3 v2 rfl rfl) h2
  have k3 := h3
  have lt3 : ∀ x ∈ p3, x.block < W.heap.size := by obtain ⟨m, hm⟩ := k3; exact DataW.trod_lt m _ _ _ hm
  obtain ⟨a3, rfl, rfl, rfl, w3⟩ := open_int Try.underlying3 (hval 3 3 v3 rfl rfl) h3
  clear hA0 hval0
  refine (Rg.bytes_row W w0 w1 w2 w3).mono fun e W' ⟨he, hm⟩ => ?_
  subst he
  have bel : Below W.heap.size W W' := hm.below (Nat.le_refl _) (fun _ _ h => h)
  exact ⟨_, rfl, _, _, _, [], _, [], hW', trodAll_mk1 (shut_bool Try.underlying4 _), (trodAll_cons_mk (Below.trod laidOut (by kernel_rfl) (of_decide_eq_true (by kernel_rfl)) k0 bel lt0) (trodAll_cons_mk (Below.trod laidOut (by kernel_rfl) (of_decide_eq_true (by kernel_rfl)) k1 bel lt1) (trodAll_cons_mk (Below.trod laidOut (by kernel_rfl) (of_decide_eq_true (by kernel_rfl)) k2 bel lt2) (trodAll_cons_mk (Below.trod laidOut (by kernel_rfl) (of_decide_eq_true (by kernel_rfl)) k3 bel lt3) trodAll_mk0)))), rfl, bel.frame _, fun h => by cases h⟩

theorem over : Rows.ringBytesRow.holds Try.pinned (OpenSpec.ofChange Rows.ringBytesSpec) :=
  OpenClaim.holds_of_wide 9 Try.f9 rfl rfl rfl rfl rfl rfl rfl ⟨rfl, rfl, rfl, rfl, rfl⟩ rfl rfl rfl rfl rfl (by kernel_rfl) Try.func9 (by kernel_rfl)
    (of_decide_eq_true (by kernel_rfl)) (by unfold Func.isWrapper; first | (rw [if_pos (by decide +kernel)]; kernel_rfl) | (rw [if_neg (by decide +kernel)]; exact ⟨rfl, rfl⟩))
    (fun os started H enc _ => lifted os started H enc)

theorem proved : Rows.RingBytesSaid := over
#print axioms proved
end Go.Proofs.Ytnagpianaghjeaa.ringBytes
