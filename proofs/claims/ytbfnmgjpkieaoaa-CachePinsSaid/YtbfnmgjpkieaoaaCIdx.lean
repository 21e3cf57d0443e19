/-
  The first frame of a kind: IndexFunc and ContainsFunc over a cache's frames.
-/
import Derived.Test.YtbfnmgjpkieaoaaCPut
import Derived.Deep.LoopGhost
import Derived.Shelf.Abstract
namespace Go.Proofs.Ytbfnmgjpkieaoaa
open Go Go.RowKit Go.Maps Go.Sort Go.Proofs

/-- A predicate over a frame, as the library asks it. -/
def Asks (g : Nat) (q : FrS → Bool) : Prop := ∀ (W : World) (dv : Value) (f : FrS), Calls Try.prog g #[.agg (fcells dv f).toArray] W (fun e w' => e = .returned (.bool (q f)) ∧ Moves (fun _ => False) W w')

theorem cell7 (w : World) (a b c d e f g : Value) (ty : TypeId) : (w.alloc (.cells #[a, b, c, d, e, f, g] ty)).cell? ⟨w.heap.size, 3, none⟩ = some d ∧ (w.alloc (.cells #[a, b, c, d, e, f, g] ty)).cell? ⟨w.heap.size, 4, none⟩ = some e ∧ (w.alloc (.cells #[a, b, c, d, e, f, g] ty)).cell? ⟨w.heap.size, 6, none⟩ = some g := by
  unfold World.cell?
  simp only [heap_alloc_new]
  exact ⟨rfl, rfl, rfl⟩

set_option maxRecDepth 100000 in
set_option maxHeartbeats 1000000 in
theorem asks_empty : Asks 85 (fun f => !f.here) := by
  intro W dv f
  obtain ⟨k, data, here, dirty, mark, pins⟩ := f
  obtain ⟨k1, k2⟩ := k
  unfold fcells
  have hm0 := (Moves.refl (fun _ => False) W).alloc (.cells #[.int .i64 k1, .int .i64 k2, dv, .bool here, .bool dirty, .bool mark, .int .i64 pins] 124)
  obtain ⟨h3, h4, h6⟩ := cell7 W (.int .i64 k1) (.int .i64 k2) dv (.bool here) (.bool dirty) (.bool mark) (.int .i64 pins) 124
  go_enter Try.func85, Try.ntmps85
  go_wp2
  go_ret
  exact ⟨rfl, hm0⟩
set_option maxRecDepth 100000 in
set_option maxHeartbeats 1000000 in
theorem asks_free : Asks 87 (fun f => f.pins == 0) := by
  intro W dv f
  obtain ⟨k, data, here, dirty, mark, pins⟩ := f
  obtain ⟨k1, k2⟩ := k
  unfold fcells
  have hm0 := (Moves.refl (fun _ => False) W).alloc (.cells #[.int .i64 k1, .int .i64 k2, dv, .bool here, .bool dirty, .bool mark, .int .i64 pins] 124)
  obtain ⟨h3, h4, h6⟩ := cell7 W (.int .i64 k1) (.int .i64 k2) dv (.bool here) (.bool dirty) (.bool mark) (.int .i64 pins) 124
  go_enter Try.func87, Try.ntmps87
  go_wp2
  go_ret
  exact ⟨rfl, hm0⟩

def idxZ (q : FrS → Bool) (fs : List FrS) : Int := match fs.findIdx? q with | some i => i | none => -1
theorem idxZ_hit {q : FrS → Bool} {fs : List FrS} {k : Nat} (hk : k < fs.length) (h : q fs[k] = true) (hno : ∀ j (hj : j < fs.length), j < k → q fs[j] = false) : idxZ q fs = k := by
  have : fs.findIdx? q = some k := by
    rw [List.findIdx?_eq_some_iff_getElem]
    exact ⟨hk, h, fun j hj => by simpa using hno j (by omega) hj⟩
  unfold idxZ
  rw [this]
theorem idxZ_miss {q : FrS → Bool} {fs : List FrS} (hno : ∀ j (hj : j < fs.length), q fs[j] = false) : idxZ q fs = -1 := by
  have : fs.findIdx? q = none := by
    rw [List.findIdx?_eq_none_iff]
    intro x hx
    obtain ⟨j, hj, rfl⟩ := List.getElem_of_mem hx
    exact hno j hj
  unfold idxZ
  rw [this]

theorem row_cells {w : World} {base p lb m : Nat} {fs : List FrS} {hand : Nat} {D : DataW Unit} {dvs : List Value} (h : CacheAt w base p lb m fs hand D dvs) {i : Nat} (hi : i < fs.length) :
    ∃ dv, w.cell? ⟨lb, i * 7, none⟩ = some (.int .i64 fs[i].key.1) ∧ w.cell? ⟨lb, i * 7 + 1, none⟩ = some (.int .i64 fs[i].key.2) ∧ w.cell? ⟨lb, i * 7 + 2, none⟩ = some dv ∧ w.cell? ⟨lb, i * 7 + 3, none⟩ = some (.bool fs[i].here) ∧ w.cell? ⟨lb, i * 7 + 4, none⟩ = some (.bool fs[i].dirty) ∧ w.cell? ⟨lb, i * 7 + 5, none⟩ = some (.bool fs[i].mark) ∧ w.cell? ⟨lb, i * 7 + 6, none⟩ = some (.int .i64 fs[i].pins) ∧ w.ownsRow base 5 1 dv fs[i].data.length (fs[i].data.map encB8) :=
  ⟨dvs[i]'(by rw [h.len]; exact hi), (h.frame hi (r := 0) (by omega)).1, (h.frame hi (r := 1) (by omega)).1, (h.frame hi (r := 2) (by omega)).1, (h.frame hi (r := 3) (by omega)).1, (h.frame hi (r := 4) (by omega)).1, (h.frame hi (r := 5) (by omega)).1, (h.frame hi (r := 6) (by omega)).1, h.dat i hi _⟩

set_option maxRecDepth 100000 in
set_option maxHeartbeats 1000000 in
theorem index_c {w : World} {base p lb m : Nat} {fs : List FrS} {hand : Nat} (h : IsCache w base p lb m fs hand) {g : Nat} {q : FrS → Bool} (hq : Asks g q) (eg : ∀ args w, (callFunc g args).run Try.prog w = .ok (.enter g args) w) :
    Calls Try.prog 84 #[.slice (some ⟨lb, 0, none⟩) fs.length fs.length, .func (.func g) #[] #[]] w (CVal w (.int .i64 (idxZ q fs))) := by
  have HQ := Lib.hid hq
  have H := Lib.hid h
  have hfew : fs.length ≤ 64 := by obtain ⟨D, dvs, h⟩ := h; exact h.few.2
  clear hq h
  go_enter Try.func84, Try.ntmps84
  go_wp2
  go_loopg [5, 8] fs.length (fun gg s5 s8 wr => ∃ k : Nat, k ≤ fs.length ∧ gg = fs.length - k ∧ s8 = .int .i64 k ∧ Hid (Moves (fun _ => False) w wr) ∧ Hid (∀ j (hj : j < fs.length), j < k → q fs[j] = false))
  case atStart => exact ⟨0, Nat.zero_le _, rfl, rfl, Lib.hid (Moves.refl _ w), Lib.hid (fun j _ h => absurd h (by omega))⟩
  case round =>
    obtain ⟨k, hk, rfl, rfl, HM, HNO⟩ := hrel
    by_cases hlt : k < fs.length
    · obtain ⟨D, dvs, hc⟩ := H.out.moves0 HM.out
      obtain ⟨dv, r0, r1, r2, r3, r4, r5, r6, -⟩ := row_cells hc hlt
      clear hc
      have HC := Lib.hid (HQ.out wr dv fs[k])
      have HB : Hid (fs[k] = fs[k]) := Lib.hid rfl
      generalize hy : fs[k] = y at r0 r1 r2 r3 r4 r5 r6 HC
      have HY := Lib.hid hy
      clear hy HB
      have hlz : (k : Int) < (fs.length : Int) := by omega
      unfold fcells at HC
      cases hqy : q y with
      | true =>
        go_wp2_with (first
          | (go_at_fn g; refine HC.out.mono ?_; rintro e w' ⟨rfl, hm'⟩; rw [hqy])
          | fail)
        go_ret
        exact ⟨congrArg (fun z => Ending.returned (.int .i64 z)) (idxZ_hit hlt (by rw [HY.out]; exact hqy) HNO.out).symm, HM.out.trans hm'⟩
      | false =>
        go_wp2_with (first
          | (go_at_fn g; refine HC.out.mono ?_; rintro e w' ⟨rfl, hm'⟩; rw [hqy])
          | fail)
        go_roundg (fs.length - (k + 1))
        case measure => omega
        case rel =>
          refine ⟨k + 1, by omega, rfl, by go_num, Lib.hid (HM.out.trans hm'), Lib.hid (fun j hj hjk => ?_)⟩
          by_cases e : j = k
          · subst e; rw [HY.out]; exact hqy
          · exact HNO.out j hj (by omega)
    · have hlz : ¬ (k : Int) < (fs.length : Int) := by omega
      go_wp2
      go_ret
      exact ⟨congrArg (fun z => Ending.returned (.int .i64 z)) (idxZ_miss (fun j hj => HNO.out j hj (by omega))).symm, HM.out⟩

set_option maxRecDepth 100000 in
set_option maxHeartbeats 1000000 in
theorem contains_c {w : World} {base p lb m : Nat} {fs : List FrS} {hand : Nat} (h : IsCache w base p lb m fs hand) {g : Nat} {q : FrS → Bool} (hq : Asks g q) (eg : ∀ args w, (callFunc g args).run Try.prog w = .ok (.enter g args) w) :
    Calls Try.prog 86 #[.slice (some ⟨lb, 0, none⟩) fs.length fs.length, .func (.func g) #[] #[]] w (CVal w (.bool (fs.any q))) := by
  have HI := Lib.hid (index_c h hq eg)
  have hb : decide (idxZ q fs ≥ 0) = fs.any q := by
    unfold idxZ
    cases hf : fs.findIdx? q with
    | none =>
      rw [List.findIdx?_eq_none_iff] at hf
      have : fs.any q = false := by
        rw [List.any_eq_false]
        intro x hx
        simp [hf x hx]
      rw [this]
      rfl
    | some i =>
      rw [List.findIdx?_eq_some_iff_getElem] at hf
      obtain ⟨hi, hq, -⟩ := hf
      have : fs.any q = true := List.any_eq_true.2 ⟨_, List.getElem_mem hi, hq⟩
      rw [this]
      simp
  go_enter Try.func86, Try.ntmps86
  go_wp2_with fail
  refine HI.out.mono ?_
  rintro e w1 ⟨rfl, hm1⟩
  generalize idxZ q fs = z at hb ⊢
  go_wp2
  go_ret
  trace_state
  exact ⟨rfl, hm1⟩
end Go.Proofs.Ytbfnmgjpkieaoaa
