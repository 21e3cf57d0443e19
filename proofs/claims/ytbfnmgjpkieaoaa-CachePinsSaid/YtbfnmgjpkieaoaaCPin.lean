/-
  A cache's pages pinned, let go, cleaned; a page that is not there.
-/
import Derived.Test.YtbfnmgjpkieaoaaCGet
namespace Go.Proofs.Ytbfnmgjpkieaoaa
open Go Go.RowKit Go.Maps Go.Sort Go.Proofs

set_option maxRecDepth 100000 in
set_option maxHeartbeats 2000000 in
theorem pin_hit {w : World} {base p lb m : Nat} {fs : List FrS} {hand : Nat} (h : IsCache w base p lb m fs hand) {i : Nat} {f : FrS} (hi : fs[i]? = some f) (hh : f.here = true) {k : Pr} (hk : f.key = k) (hp : 0 ≤ f.pins ∧ f.pins ≤ 1000000) :
    Calls Try.prog 30 #[.pointer (some ⟨p, 0, none⟩), encK k] w (CPost w base p lb m (fs.set i { f with pins := f.pins + 1 }) hand (.bool true)) := by
  obtain ⟨k1, k2⟩ := k
  have hm0 := (Moves.refl (fun _ => False) w).alloc (.cells #[.int .i64 k1, .int .i64 k2] 43)
  have HF := Lib.hid (find_hit (h.moves0 hm0) hi hh hk)
  have HA := Lib.hid (And.intro (h.moves0 hm0) hm0)
  have hil : i < fs.length := (List.getElem?_eq_some_iff.1 hi).1
  have hfi : fs[i] = f := (List.getElem?_eq_some_iff.1 hi).2
  have hww : IntKind.i64.wrap (f.pins + 1) = f.pins + 1 := IntWalk.i64_in _ (by omega)
  clear h hm0 hi hk
  go_enter Try.func30, Try.ntmps30
  go_wp2_with fail
  refine HF.out.mono ?_
  rintro e w1 ⟨rfl, hm1⟩
  obtain ⟨D, dvs, h1⟩ := HA.out.1.moves0 hm1
  have hdl : i < dvs.length := by rw [h1.len]; exact hil
  obtain ⟨m5, f5⟩ := h1.frame hil (r := 6) (by omega)
  have m5' : w1.cell? ⟨lb, i * 7 + 6, none⟩ = some (.int .i64 f.pins) := by rw [m5, hfi]; rfl
  have hown := h1.dat i hil hdl
  rw [hfi] at hown
  have h2 := h1.turn hil (r := 6) (v := .int .i64 (f.pins + 1)) (dv' := dvs[i]) (f' := { f with pins := f.pins + 1 }) (by omega) (by rw [hfi]; rfl) (by rw [hfi]) (by rw [hfi]) hown (h1.long f (hfi ▸ List.getElem_mem hil))
  have HM1 := Lib.hid (HA.out.2.trans hm1)
  have H2 := Lib.hid h2
  clear m5 hown h2 h1 hm1 HF HA
  go_wp2
  go_ret
  have hmS : Moves (COwn p lb m) w1 (w1.setCell ⟨lb, i * 7 + 6, none⟩ (.int .i64 (f.pins + 1))) := Moves.setCell (p := ⟨lb, i * 7 + 6, none⟩) (Moves.refl (COwn p lb m) w1) (fun _ => .inr (.inl rfl)) _
  exact ⟨rfl, ⟨D, _, H2.out⟩, (HM1.out.none _).trans hmS⟩

set_option maxRecDepth 100000 in
set_option maxHeartbeats 2000000 in
theorem unpin_hit {w : World} {base p lb m : Nat} {fs : List FrS} {hand : Nat} (h : IsCache w base p lb m fs hand) {i : Nat} {f : FrS} (hi : fs[i]? = some f) (hh : f.here = true) {k : Pr} (hk : f.key = k) (hp : 1 ≤ f.pins ∧ f.pins ≤ 1000000) :
    Calls Try.prog 31 #[.pointer (some ⟨p, 0, none⟩), encK k] w (CPost w base p lb m (fs.set i { f with pins := f.pins - 1 }) hand (.bool true)) := by
  obtain ⟨k1, k2⟩ := k
  have hm0 := (Moves.refl (fun _ => False) w).alloc (.cells #[.int .i64 k1, .int .i64 k2] 43)
  have HF := Lib.hid (find_hit (h.moves0 hm0) hi hh hk)
  have HA := Lib.hid (And.intro (h.moves0 hm0) hm0)
  have hil : i < fs.length := (List.getElem?_eq_some_iff.1 hi).1
  have hfi : fs[i] = f := (List.getElem?_eq_some_iff.1 hi).2
  have hww : IntKind.i64.wrap (f.pins - 1) = f.pins - 1 := IntWalk.i64_in _ (by omega)
  have hp0 : (f.pins == 0) = false := by simp; omega
  clear h hm0 hi hk
  go_enter Try.func31, Try.ntmps31
  go_wp2_with fail
  refine HF.out.mono ?_
  rintro e w1 ⟨rfl, hm1⟩
  obtain ⟨D, dvs, h1⟩ := HA.out.1.moves0 hm1
  have hdl : i < dvs.length := by rw [h1.len]; exact hil
  obtain ⟨m5, f5⟩ := h1.frame hil (r := 6) (by omega)
  have m5' : w1.cell? ⟨lb, i * 7 + 6, none⟩ = some (.int .i64 f.pins) := by rw [m5, hfi]; rfl
  have hown := h1.dat i hil hdl
  rw [hfi] at hown
  have h2 := h1.turn hil (r := 6) (v := .int .i64 (f.pins - 1)) (dv' := dvs[i]) (f' := { f with pins := f.pins - 1 }) (by omega) (by rw [hfi]; rfl) (by rw [hfi]) (by rw [hfi]) hown (h1.long f (hfi ▸ List.getElem_mem hil))
  have HM1 := Lib.hid (HA.out.2.trans hm1)
  have H2 := Lib.hid h2
  clear m5 hown h2 h1 hm1 HF HA
  go_wp2
  go_ret
  have hmS : Moves (COwn p lb m) w1 (w1.setCell ⟨lb, i * 7 + 6, none⟩ (.int .i64 (f.pins - 1))) := Moves.setCell (p := ⟨lb, i * 7 + 6, none⟩) (Moves.refl (COwn p lb m) w1) (fun _ => .inr (.inl rfl)) _
  exact ⟨rfl, ⟨D, _, H2.out⟩, (HM1.out.none _).trans hmS⟩

set_option maxRecDepth 100000 in
set_option maxHeartbeats 2000000 in
theorem clean_hit {w : World} {base p lb m : Nat} {fs : List FrS} {hand : Nat} (h : IsCache w base p lb m fs hand) {i : Nat} {f : FrS} (hi : fs[i]? = some f) (hh : f.here = true) {k : Pr} (hk : f.key = k) :
    Calls Try.prog 32 #[.pointer (some ⟨p, 0, none⟩), encK k] w (CPost w base p lb m (fs.set i { f with dirty := false }) hand (.bool true)) := by
  obtain ⟨k1, k2⟩ := k
  have hm0 := (Moves.refl (fun _ => False) w).alloc (.cells #[.int .i64 k1, .int .i64 k2] 43)
  have HF := Lib.hid (find_hit (h.moves0 hm0) hi hh hk)
  have HA := Lib.hid (And.intro (h.moves0 hm0) hm0)
  have hil : i < fs.length := (List.getElem?_eq_some_iff.1 hi).1
  have hfi : fs[i] = f := (List.getElem?_eq_some_iff.1 hi).2
  clear h hm0 hi hk
  go_enter Try.func32, Try.ntmps32
  go_wp2_with fail
  refine HF.out.mono ?_
  rintro e w1 ⟨rfl, hm1⟩
  obtain ⟨D, dvs, h1⟩ := HA.out.1.moves0 hm1
  have hdl : i < dvs.length := by rw [h1.len]; exact hil
  obtain ⟨m5, f5⟩ := h1.frame hil (r := 4) (by omega)
  have m5' : w1.cell? ⟨lb, i * 7 + 4, none⟩ = some (.bool f.dirty) := by rw [m5, hfi]; rfl
  have hown := h1.dat i hil hdl
  rw [hfi] at hown
  have h2 := h1.turn hil (r := 4) (v := .bool false) (dv' := dvs[i]) (f' := { f with dirty := false }) (by omega) (by rw [hfi]; rfl) (by rw [hfi]) (by rw [hfi]) hown (h1.long f (hfi ▸ List.getElem_mem hil))
  have HM1 := Lib.hid (HA.out.2.trans hm1)
  have H2 := Lib.hid h2
  clear m5 hown h2 h1 hm1 HF HA
  go_wp2
  go_ret
  have hmS : Moves (COwn p lb m) w1 (w1.setCell ⟨lb, i * 7 + 4, none⟩ (.bool false)) := Moves.setCell (p := ⟨lb, i * 7 + 4, none⟩) (Moves.refl (COwn p lb m) w1) (fun _ => .inr (.inl rfl)) _
  exact ⟨rfl, ⟨D, _, H2.out⟩, (HM1.out.none _).trans hmS⟩

set_option maxRecDepth 100000 in
set_option maxHeartbeats 2000000 in
theorem get_miss {w : World} {base p lb m : Nat} {fs : List FrS} {hand : Nat} (h : IsCache w base p lb m fs hand) {k : Pr} (hw : wf2 k) (hno : ∀ (i : Nat) (f : FrS), fs[i]? = some f → f.here = true → f.key ≠ k) :
    Calls Try.prog 28 #[.pointer (some ⟨p, 0, none⟩), encK k] w (CVal w (.tuple #[.slice none 0 0, .bool false])) := by
  obtain ⟨k1, k2⟩ := k
  have hm0 := (Moves.refl (fun _ => False) w).alloc (.cells #[.int .i64 k1, .int .i64 k2] 43)
  have HF := Lib.hid (find_miss (h.moves0 hm0) hw hno)
  have HM0 := Lib.hid hm0
  clear h hm0 hno hw
  go_enter Try.func28, Try.ntmps28
  go_wp2_with fail
  refine HF.out.mono ?_
  rintro e w1 ⟨rfl, hm1⟩
  have HM1 := Lib.hid (HM0.out.trans hm1)
  clear hm1
  go_wp2
  go_ret2
  exact ⟨rfl, HM1.out⟩
end Go.Proofs.Ytbfnmgjpkieaoaa
