/-
  A page put in that is not there.
-/
import Derived.Test.YtbfnmgjpkieaoaaCBare
import Derived.Deep.RegionHeld3
import Derived.StillTailTactics
import Derived.Deep.Cut
import Derived.Deep.QuietTactic
namespace Go.Proofs.Ytbfnmgjpkieaoaa
open Go Go.RowKit Go.Maps Go.Sort Go.Proofs


theorem IsCache.cells {w : World} {base p lb m : Nat} {fs : List FrS} {hand : Nat} (h : IsCache w base p lb m fs hand) : w.cell? ⟨p, 0, none⟩ = some (.slice (some ⟨lb, 0, none⟩) fs.length fs.length) ∧ w.cell? ⟨p, 1, none⟩ = some (.map (some m)) ∧ w.cell? ⟨p, 2, none⟩ = some (.int .i64 hand) := by
  obtain ⟨D, dvs, h⟩ := h
  exact h.cells

set_option maxRecDepth 100000 in
set_option maxHeartbeats 1000000 in
/-- All are pinned: the page does not come in. -/
theorem put_c_full {w : World} {base p lb m : Nat} {fs : List FrS} {hand : Nat} (h : IsCache w base p lb m fs hand) {k : Pr} (hw : wf2 k) (hno : NoKey fs k) (hi : idxZ (fun f => !f.here) fs = -1) (hp : fs.any (fun f => f.pins == 0) = false) {A : Option Addr} {n c : Nat} {dirty : Bool} :
    Calls Try.prog 27 #[.pointer (some ⟨p, 0, none⟩), encK k, .slice A n c, .bool dirty] w (CVal w (.tuple #[noOut, .int .i64 6])) := by
  obtain ⟨k1, k2⟩ := k
  have hm0 := ((Moves.refl (fun _ => False) w).alloc (.cells #[.int .i64 k1, .int .i64 k2] 43)).alloc (.cells #[.int .i64 0, .int .i64 0, .slice none 0 0, .bool false, .bool false] 45)
  have HF := Lib.hid (find_miss (h.moves0 hm0) hw hno)
  have hob := heap_alloc2_new w (.cells #[.int .i64 k1, .int .i64 k2] 43) (.cells #[.int .i64 0, .int .i64 0, .slice none 0 0, .bool false, .bool false] 45)
  have HA := Lib.hid (And.intro (h.moves0 hm0) (And.intro hm0 hob))
  have HV := Lib.hid (And.intro hi hp)
  clear h hm0 hw hno hob hi hp
  go_enter Try.func27, Try.ntmps27
  go_wp2_with fail
  refine HF.out.mono ?_
  rintro e w1 ⟨rfl, hm1⟩
  have HV2 := Lib.hid (vic_full (HA.out.1.moves0 hm1) HV.out.1 HV.out.2)
  have HM1 := Lib.hid hm1
  clear hm1 HF HV
  go_wp2_with fail
  refine HV2.out.mono ?_
  rintro e w2 ⟨rfl, hm2⟩
  have HM2 := Lib.hid (And.intro (HA.out.2.1.trans (HM1.out.trans hm2)) ((HM1.out.trans hm2).block (w.heap.size + 1) (by simp) (fun h => h)|>.trans HA.out.2.2))
  obtain ⟨o0, o1, o2, o3, o4, z0, z1, z2, z3, z4⟩ := out_cells HM2.out.2
  have hws : Hid (w.heap.size ≤ w.heap.size + 1) := Lib.hid (by omega)
  clear hm2 HV2 HM1 HA
  generalize w.heap.size + 1 = ob at HM2 o0 o1 o2 o3 o4 z0 z1 z2 z3 z4 hws ⊢
  go_wp2
  have hb4 : (((((w2.setCell ⟨ob, 0, none⟩ (.int .i64 0)).setCell ⟨ob, 1, none⟩ (.int .i64 0)).setCell ⟨ob, 2, none⟩ (.slice none 0 0)).setCell ⟨ob, 3, none⟩ (.bool false)).setCell ⟨ob, 4, none⟩ (.bool false)).heap[ob]? = some (.cells #[.int .i64 0, .int .i64 0, .slice none 0 0, .bool false, .bool false] 45 (0, 0)) := by
    simp [World.setCell, Array.getElem?_modify, HM2.out.2]
  have hm4 : Moves (fun k => k = ob) w2 (((((w2.setCell ⟨ob, 0, none⟩ (.int .i64 0)).setCell ⟨ob, 1, none⟩ (.int .i64 0)).setCell ⟨ob, 2, none⟩ (.slice none 0 0)).setCell ⟨ob, 3, none⟩ (.bool false)).setCell ⟨ob, 4, none⟩ (.bool false)) :=
    Moves.setCell (p := ⟨ob, 4, none⟩) (Moves.setCell (p := ⟨ob, 3, none⟩) (Moves.setCell (p := ⟨ob, 2, none⟩) (Moves.setCell (p := ⟨ob, 1, none⟩) (Moves.setCell (p := ⟨ob, 0, none⟩) (Moves.refl (fun k => k = ob) w2) (fun _ => rfl) _) (fun _ => rfl) _) (fun _ => rfl) _) (fun _ => rfl) _) (fun _ => rfl) _
  refine bodyPost_ret (results_row_tmp rfl _ _ ob _ _ _ _ rfl hb4 Try.underlying45 rfl (by kernel_rfl)) rfl ?_
  exact ⟨rfl, HM2.out.1.andThen hm4 (fun k e hlt => absurd hlt (by have e : k = ob := e; have := hws.out; omega))⟩

theorem frame_all {w : World} {base p lb m : Nat} {fs : List FrS} {hand n : Nat} {D : DataW Unit} {dvs : List Value} (h : Bare w base p lb m fs hand n D dvs) {i : Nat} (hi : i < fs.length) {r : Nat} (hr : r < 7) : w.cell? ⟨lb, i * 7 + r, none⟩ = (fcells (dvs[i]'(by rw [h.len]; exact hi)) fs[i])[r]? ∧ w.frozen? ⟨lb, i * 7 + r, none⟩ = false := by
  obtain ⟨cs, hb, hc⟩ := h.fr
  refine ⟨?_, by simp [World.frozen?, hb]⟩
  simp only [World.cell?, hb, Option.isSome_none, Bool.false_eq_true, if_false]
  rw [← Array.getElem?_toList, hc]
  exact flat_get h.len hi hr
theorem frame_seven {w : World} {base p lb m : Nat} {fs : List FrS} {hand n : Nat} {D : DataW Unit} {dvs : List Value} (h : Bare w base p lb m fs hand n D dvs) {i : Nat} (hi : i < fs.length) :
    (w.cell? ⟨lb, i * 7, none⟩ = some (.int .i64 fs[i].key.1) ∧ w.cell? ⟨lb, i * 7 + 1, none⟩ = some (.int .i64 fs[i].key.2) ∧ w.cell? ⟨lb, i * 7 + 2, none⟩ = some (dvs[i]'(by rw [h.len]; exact hi)) ∧ w.cell? ⟨lb, i * 7 + 3, none⟩ = some (.bool fs[i].here) ∧ w.cell? ⟨lb, i * 7 + 4, none⟩ = some (.bool fs[i].dirty) ∧ w.cell? ⟨lb, i * 7 + 5, none⟩ = some (.bool fs[i].mark) ∧ w.cell? ⟨lb, i * 7 + 6, none⟩ = some (.int .i64 fs[i].pins)) ∧
    (w.frozen? ⟨lb, i * 7, none⟩ = false ∧ w.frozen? ⟨lb, i * 7 + 1, none⟩ = false ∧ w.frozen? ⟨lb, i * 7 + 2, none⟩ = false ∧ w.frozen? ⟨lb, i * 7 + 3, none⟩ = false ∧ w.frozen? ⟨lb, i * 7 + 4, none⟩ = false ∧ w.frozen? ⟨lb, i * 7 + 5, none⟩ = false ∧ w.frozen? ⟨lb, i * 7 + 6, none⟩ = false) :=
  ⟨⟨(frame_all h hi (r := 0) (by omega)).1, (frame_all h hi (r := 1) (by omega)).1, (frame_all h hi (r := 2) (by omega)).1, (frame_all h hi (r := 3) (by omega)).1, (frame_all h hi (r := 4) (by omega)).1, (frame_all h hi (r := 5) (by omega)).1, (frame_all h hi (r := 6) (by omega)).1⟩,
   (frame_all h hi (r := 0) (by omega)).2, (frame_all h hi (r := 1) (by omega)).2, (frame_all h hi (r := 2) (by omega)).2, (frame_all h hi (r := 3) (by omega)).2, (frame_all h hi (r := 4) (by omega)).2, (frame_all h hi (r := 5) (by omega)).2, (frame_all h hi (r := 6) (by omega)).2⟩
theorem idxZ_at {q : FrS → Bool} {fs : List FrS} {i : Nat} (h : idxZ (fun f => !q f) fs = i) : ∃ hi : i < fs.length, q fs[i] = false := by
  unfold idxZ at h
  split at h
  · rename_i j hj
    have e : j = i := by omega
    subst e
    obtain ⟨h1, h2, -⟩ := List.findIdx?_eq_some_iff_getElem.1 hj
    exact ⟨h1, by simpa using h2⟩
  · omega

set_option maxRecDepth 100000 in
set_option maxHeartbeats 1000000 in
/-- An empty frame takes the page. -/
theorem put_c_new {w : World} {base p lb m : Nat} {fs : List FrS} {hand : Nat} (h : IsCache w base p lb m fs hand) {k : Pr} (hw : wf2 k) (hno : NoKey fs k) {i : Nat} (hi : idxZ (fun f => !f.here) fs = i) {v : Value} {bs : List Int} {L : Nat → Prop} (hr : Row w L v (bs.map encB8)) (hl : bs.length ≤ 1000000) (hap : ∀ k, L k → k < w.heap.size → ¬ COwn p lb m k) {dirty : Bool} :
    Calls Try.prog 27 #[.pointer (some ⟨p, 0, none⟩), encK k, v, .bool dirty] w (CPost w base p lb m (fs.set i { key := k, data := bs, here := true, dirty := dirty, mark := true, pins := 0 }) hand (.tuple #[noOut, .int .i64 0])) := by
  obtain ⟨k1, k2⟩ := k
  have hm0 := ((Moves.refl (fun _ => False) w).alloc (.cells #[.int .i64 k1, .int .i64 k2] 43)).alloc (.cells #[.int .i64 0, .int .i64 0, .slice none 0 0, .bool false, .bool false] 45)
  have HF := Lib.hid (find_miss (h.moves0 hm0) hw hno)
  have hob := heap_alloc2_new w (.cells #[.int .i64 k1, .int .i64 k2] 43) (.cells #[.int .i64 0, .int .i64 0, .slice none 0 0, .bool false, .bool false] 45)
  have HA := Lib.hid (And.intro (h.moves0 hm0) (And.intro hm0 hob))
  have HR := Lib.hid hr
  have HI := Lib.hid hi
  have HAP := Lib.hid hap
  have HNO := Lib.hid hno
  obtain ⟨Av, cv, rfl, -, -⟩ := hr
  clear h hm0 hob hi hap hno
  go_enter Try.func27, Try.ntmps27
  go_wp2_with fail
  refine HF.out.mono ?_
  rintro e w1 ⟨rfl, hm1⟩
  have HV := Lib.hid (vic_empty (HA.out.1.moves0 hm1) HI.out)
  have HM1 := Lib.hid hm1
  clear hm1 HF
  go_wp2_with fail
  refine HV.out.mono ?_
  rintro e w2 ⟨rfl, hm2⟩
  have HM2 := Lib.hid (HM1.out.trans hm2)
  clear hm2 HM1 HV
  go_upto_region 9 with fail
  have hil : i < fs.length := (idxZ_at HI.out).1
  have hhf : fs[i].here = false := (idxZ_at HI.out).2
  have hm3 := (Moves.refl (fun _ => False) w2).alloc (.cells #[.int .i64 0, .int .i64 0, .slice none 0 0, .bool false, .bool false] 45)
  have htb := heap_alloc_new w2 (.cells #[.int .i64 0, .int .i64 0, .slice none 0 0, .bool false, .bool false] 45)
  have hsz : Hid (w.heap.size + 1 < w2.heap.size ∧ (w2.alloc (.cells #[.int .i64 0, .int .i64 0, .slice none 0 0, .bool false, .bool false] 45)).heap.size = w2.heap.size + 1) := Lib.hid ⟨by have := HM2.out.size; simp at this; omega, by simp⟩
  have H3 : Hid (IsCache (w2.alloc (.cells #[.int .i64 0, .int .i64 0, .slice none 0 0, .bool false, .bool false] 45)) base p lb m fs hand ∧ Moves (fun _ => False) w (w2.alloc (.cells #[.int .i64 0, .int .i64 0, .slice none 0 0, .bool false, .bool false] 45)) ∧ (w2.alloc (.cells #[.int .i64 0, .int .i64 0, .slice none 0 0, .bool false, .bool false] 45)).heap[w.heap.size]? = some (.cells #[.int .i64 k1, .int .i64 k2] 43 (0, 0)) ∧ (w2.alloc (.cells #[.int .i64 0, .int .i64 0, .slice none 0 0, .bool false, .bool false] 45)).heap[w.heap.size + 1]? = some (.cells #[.int .i64 0, .int .i64 0, .slice none 0 0, .bool false, .bool false] 45 (0, 0)) ∧ (w2.alloc (.cells #[.int .i64 0, .int .i64 0, .slice none 0 0, .bool false, .bool false] 45)).heap[w2.heap.size]? = some (.cells #[.int .i64 0, .int .i64 0, .slice none 0 0, .bool false, .bool false] 45 (0, 0))) := by
    have hm03 := HM2.out.trans hm3
    refine Lib.hid ⟨HA.out.1.moves0 hm03, HA.out.2.1.trans hm03, ?_, (hm03.block (w.heap.size + 1) (by simp) (fun h => h)).trans HA.out.2.2, htb⟩
    refine (hm03.block w.heap.size (by simp; omega) (fun h => h)).trans ?_
    exact (Below.heap_alloc _ _ _ (by simp)).trans (heap_alloc_new _ _)
  clear hm3 htb HM2 HA
  generalize w2.alloc (.cells #[.int .i64 0, .int .i64 0, .slice none 0 0, .bool false, .bool false] 45) = W3 at hsz H3 ⊢
  generalize w2.heap.size = tb at hsz H3 ⊢
  obtain ⟨c0, c1, c2⟩ := H3.out.1.cells
  obtain ⟨Ad, nd, cd, r0, r1, r2, r3, r4, r5, r6⟩ : ∃ Ad nd cd, W3.cell? ⟨lb, i * 7, none⟩ = some (.int .i64 fs[i].key.1) ∧ W3.cell? ⟨lb, i * 7 + 1, none⟩ = some (.int .i64 fs[i].key.2) ∧ W3.cell? ⟨lb, i * 7 + 2, none⟩ = some (.slice Ad nd cd) ∧ W3.cell? ⟨lb, i * 7 + 3, none⟩ = some (.bool fs[i].here) ∧ W3.cell? ⟨lb, i * 7 + 4, none⟩ = some (.bool fs[i].dirty) ∧ W3.cell? ⟨lb, i * 7 + 5, none⟩ = some (.bool fs[i].mark) ∧ W3.cell? ⟨lb, i * 7 + 6, none⟩ = some (.int .i64 fs[i].pins) := by
    obtain ⟨D, dvs, h⟩ := H3.out.1
    obtain ⟨dv, r0, r1, r2, r3, r4, r5, r6, ho⟩ := row_cells h hil
    obtain ⟨Ad, cd, rfl, -⟩ := own_form ho
    exact ⟨Ad, _, cd, r0, r1, r2, r3, r4, r5, r6⟩
  rw [hhf] at r3
  have hlz : (i : Int) < (fs.length : Int) := by omega
  have HHF := Lib.hid hhf
  generalize fs[i] = f at r0 r1 r2 r4 r5 r6
  clear hhf
  go_upto_region 13 with fail
  obtain ⟨D, dvs, h3⟩ := H3.out.1
  have hm4 := (Moves.refl (fun _ => False) W3).alloc (.cells #[.int .i64 f.key.1, .int .i64 f.key.2, .slice Ad nd cd, .bool false, .bool f.dirty, .bool f.mark, .int .i64 f.pins] 124)
  have H4 : Hid (CacheAt (W3.alloc (.cells #[.int .i64 f.key.1, .int .i64 f.key.2, .slice Ad nd cd, .bool false, .bool f.dirty, .bool f.mark, .int .i64 f.pins] 124)) base p lb m fs hand D dvs ∧ Moves (fun _ => False) w (W3.alloc (.cells #[.int .i64 f.key.1, .int .i64 f.key.2, .slice Ad nd cd, .bool false, .bool f.dirty, .bool f.mark, .int .i64 f.pins] 124)) ∧ (W3.alloc (.cells #[.int .i64 f.key.1, .int .i64 f.key.2, .slice Ad nd cd, .bool false, .bool f.dirty, .bool f.mark, .int .i64 f.pins] 124)).heap[w.heap.size]? = some (.cells #[.int .i64 k1, .int .i64 k2] 43 (0, 0)) ∧ (W3.alloc (.cells #[.int .i64 f.key.1, .int .i64 f.key.2, .slice Ad nd cd, .bool false, .bool f.dirty, .bool f.mark, .int .i64 f.pins] 124)).heap[w.heap.size + 1]? = some (.cells #[.int .i64 0, .int .i64 0, .slice none 0 0, .bool false, .bool false] 45 (0, 0)) ∧ (W3.alloc (.cells #[.int .i64 f.key.1, .int .i64 f.key.2, .slice Ad nd cd, .bool false, .bool f.dirty, .bool f.mark, .int .i64 f.pins] 124)).heap[tb]? = some (.cells #[.int .i64 0, .int .i64 0, .slice none 0 0, .bool false, .bool false] 45 (0, 0))) := by
    have hs := hsz.out
    exact Lib.hid ⟨h3.moves0 hm4, H3.out.2.1.trans hm4, (hm4.block w.heap.size (by omega) (fun h => h)).trans H3.out.2.2.1, (hm4.block (w.heap.size + 1) (by omega) (fun h => h)).trans H3.out.2.2.2.1, (hm4.block tb (by omega) (fun h => h)).trans H3.out.2.2.2.2⟩
  have hsz4 : Hid (w.heap.size + 1 < tb) := Lib.hid hsz.out.1
  clear hm4 h3 H3 hsz c0 c1 c2 r0 r1 r2 r3 r4 r5 r6
  generalize W3.alloc (.cells #[.int .i64 f.key.1, .int .i64 f.key.2, .slice Ad nd cd, .bool false, .bool f.dirty, .bool f.mark, .int .i64 f.pins] 124) = W4 at H4 ⊢
  generalize W3.heap.size = gb
  have hfi : fs[i]? = some fs[i] := List.getElem?_eq_getElem hil
  have HT : Hid (Bare W4 base p lb m fs hand (Maps.size D) D dvs ∧ Maps.size D ≤ 65 ∧ IOf (D.put (kK (k1, k2)) (.lit (.int .i64 i))) (fs.set i { key := (k1, k2), data := bs, here := true, dirty := dirty, mark := true, pins := 0 }) ∧ Moves (COwn p lb m) w W4 ∧ W4.heap[w.heap.size]? = some (.cells #[.int .i64 k1, .int .i64 k2] 43 (0, 0)) ∧ W4.heap[w.heap.size + 1]? = some (.cells #[.int .i64 0, .int .i64 0, .slice none 0 0, .bool false, .bool false] 45 (0, 0)) ∧ W4.heap[tb]? = some (.cells #[.int .i64 0, .int .i64 0, .slice none 0 0, .bool false, .bool false] 45 (0, 0))) := by
    have h := H4.out
    have HIO := Lib.hid (h.1.by_.put (g := { key := (k1, k2), data := bs, here := true, dirty := dirty, mark := true, pins := 0 }) (h.1.map.tidy lawK) hfi HHF.out rfl hw HNO.out)
    refine Lib.hid ⟨h.1.bare, ?_, HIO.out, h.2.1.none _, h.2.2⟩
    have h1 := h.1.by_.size
    have h2 := List.length_filter_le FrS.here fs
    have h3 := h.1.few.2
    omega
  have hiw : (Lit.int .i64 (i : Int)).wf = true := by
    have h3 := H4.out.1.few.2
    simp [Lit.wf, IntKind.min, IntKind.max, IntKind.signed, IntKind.bits]; omega
  clear H4 hfi
  have hrw := HR.out.moves HT.out.2.2.2.1 HAP.out
  have HC0 := Lib.hid (Pl.cloneB (w := W4.drew) (L := L) (xs := bs.map encB8) hrw (by intro u hu; obtain ⟨b, _, rfl⟩ := List.mem_map.1 hu; rfl) (by rw [List.length_map]; exact hl))
  have HC : Hid (Calls Try.prog 58 #[.slice Av bs.length cv] W4.drew (Pl.CloneB W4.drew (bs.map encB8))) := Lib.hid (by have h := HC0.out; rw [List.length_map] at h; exact h)
  have HS : Hid (∀ w', Moves (fun _ => False) W4 w' → w'.cell? ⟨p, 0, none⟩ = some (.slice (some ⟨lb, 0, none⟩) fs.length fs.length) ∧ w'.cell? ⟨w.heap.size, 0, none⟩ = some (.int .i64 k1) ∧ w'.cell? ⟨w.heap.size, 1, none⟩ = some (.int .i64 k2)) := Lib.hid (fun w' hm => by
    have hk := (hm.block w.heap.size (Array.getElem?_eq_some_iff.1 HT.out.2.2.2.2.1).1 (fun h => h)).trans HT.out.2.2.2.2.1
    refine ⟨(HT.out.1.moves0 hm).cells.1, ?_, ?_⟩ <;> simp [World.cell?, hk])
  obtain ⟨s0, s1, s2⟩ := HS.out W4 (Moves.refl _ _)
  have hdl : i < dvs.length := by rw [HT.out.1.len]; exact hil
  have HX : Hid (∃ xk1 xk2 xd xh xdi xm xp, ∀ w', Moves (fun _ => False) W4 w' → (w'.cell? ⟨lb, i * 7, none⟩ = some xk1 ∧ w'.cell? ⟨lb, i * 7 + 1, none⟩ = some xk2 ∧ w'.cell? ⟨lb, i * 7 + 2, none⟩ = some xd ∧ w'.cell? ⟨lb, i * 7 + 3, none⟩ = some xh ∧ w'.cell? ⟨lb, i * 7 + 4, none⟩ = some xdi ∧ w'.cell? ⟨lb, i * 7 + 5, none⟩ = some xm ∧ w'.cell? ⟨lb, i * 7 + 6, none⟩ = some xp) ∧ (w'.frozen? ⟨lb, i * 7, none⟩ = false ∧ w'.frozen? ⟨lb, i * 7 + 1, none⟩ = false ∧ w'.frozen? ⟨lb, i * 7 + 2, none⟩ = false ∧ w'.frozen? ⟨lb, i * 7 + 3, none⟩ = false ∧ w'.frozen? ⟨lb, i * 7 + 4, none⟩ = false ∧ w'.frozen? ⟨lb, i * 7 + 5, none⟩ = false ∧ w'.frozen? ⟨lb, i * 7 + 6, none⟩ = false)) := Lib.hid ⟨_, _, dvs[i], _, _, _, _, fun w' hm => frame_seven (HT.out.1.moves0 hm) hil⟩
  obtain ⟨xk1, xk2, xd, xh, xdi, xm, xp, HX'⟩ := HX.out
  have HX2 := Lib.hid HX'
  have HFAR : Hid ((∀ (W : World) (o : Nat) (v : Value), (W.setCell ⟨lb, o, none⟩ v).cell? ⟨p, 0, none⟩ = W.cell? ⟨p, 0, none⟩) ∧ (∀ (W : World) (o : Nat) (v : Value), (W.setCell ⟨lb, o, none⟩ v).cell? ⟨w.heap.size, 0, none⟩ = W.cell? ⟨w.heap.size, 0, none⟩) ∧ (∀ (W : World) (o : Nat) (v : Value), (W.setCell ⟨lb, o, none⟩ v).cell? ⟨w.heap.size, 1, none⟩ = W.cell? ⟨w.heap.size, 1, none⟩)) := by
    have e1 : lb ≠ p := HT.out.1.lbp
    have e2 : lb ≠ w.heap.size := fun e => by
      obtain ⟨cf, hf, -⟩ := HT.out.1.fr
      rw [e, HT.out.2.2.2.2.1] at hf
      injection hf with hf
      injection hf with _ h2
      exact absurd h2 (by decide)
    exact Lib.hid ⟨fun W o v => World.cell?_setCell_far W ⟨lb, o, none⟩ ⟨p, 0, none⟩ v e1, fun W o v => World.cell?_setCell_far W ⟨lb, o, none⟩ ⟨w.heap.size, 0, none⟩ v e2, fun W o v => World.cell?_setCell_far W ⟨lb, o, none⟩ ⟨w.heap.size, 1, none⟩ v e2⟩
  clear hrw HC0 HX HX'
  go_region_held3 (fun w' => w'.cell? ⟨p, 0, none⟩ = some (.slice (some ⟨lb, 0, none⟩) fs.length fs.length) ∧ w'.cell? ⟨w.heap.size, 0, none⟩ = some (.int .i64 k1) ∧ w'.cell? ⟨w.heap.size, 1, none⟩ = some (.int .i64 k2))
    (first | (with_reducible exact hSS) | (refine ⟨?_, ?_, ?_⟩ <;> (simp only [HFAR.out.1, HFAR.out.2.1, HFAR.out.2.2]; first | (with_reducible exact hSS.1) | (with_reducible exact hSS.2.1) | (with_reducible exact hSS.2.2))) | exact ⟨s0, s1, s2⟩)
    (first
      | (go_at_call 58
         go_must (refine HC.out.mono ?_)
         rintro e w' ⟨v', rfl, hown', hm'⟩
         rw [List.length_map] at hown'
         obtain ⟨Ac, cc, rfl, -⟩ := own_form hown'
         have hmw : Moves (fun _ => False) W4 w' := ⟨hm'.os, hm'.tape, hm'.output, hm'.size, hm'.block⟩
         have hSS := HS.out w' hmw
         obtain ⟨⟨x0, x1, x2, x3, x4, x5, x6⟩, y0, y1, y2, y3, y4, y5, y6⟩ := HX2.out w' hmw)
      | fail)
  have hbw := HT.out.1.moves0 hmw
  obtain ⟨hL, hmL⟩ := hbw.lay hil (dv := .slice Ac bs.length cc) (f := { key := (k1, k2), data := bs, here := true, dirty := dirty, mark := true, pins := 0 }) (own_weakC (base := W4.heap.size) (by have := HT.out.1.hp; have := (Array.getElem?_eq_some_iff.1 HT.out.1.blk).1; omega) hown') hl
  have hblk : ∀ (g : Nat) (cs : Array Value) (t : TypeId), W4.heap[g]? = some (.cells cs t (0, 0)) → t ≠ 124 → (((((((w'.setCell ⟨lb, i * 7, none⟩ (.int .i64 k1)).setCell ⟨lb, i * 7 + 1, none⟩ (.int .i64 k2)).setCell ⟨lb, i * 7 + 2, none⟩ (.slice Ac bs.length cc)).setCell ⟨lb, i * 7 + 3, none⟩ (.bool true)).setCell ⟨lb, i * 7 + 4, none⟩ (.bool dirty)).setCell ⟨lb, i * 7 + 5, none⟩ (.bool true)).setCell ⟨lb, i * 7 + 6, none⟩ (.int .i64 0)).heap[g]? = some (.cells cs t (0, 0)) := fun g cs t hg ht => by
    have h1 := (hmw.block g (Array.getElem?_eq_some_iff.1 hg).1 (fun h => h)).trans hg
    refine (hmL.block g (Array.getElem?_eq_some_iff.1 h1).1 (fun (e : g = lb) => ?_)).trans h1
    obtain ⟨cf, hf, -⟩ := hbw.fr
    rw [← e, h1] at hf
    injection hf with hf
    injection hf with _ h2
    exact ht h2
  have H5 := Lib.hid (And.intro hL (And.intro ((HT.out.2.2.2.1.trans (hmw.none _)).trans (hmL.mono (fun k e => (.inr (.inl e) : COwn p lb m k)))) (And.intro (hblk _ _ _ HT.out.2.2.2.2.1 (by decide)) (And.intro (hblk _ _ _ HT.out.2.2.2.2.2.1 (by decide)) (And.intro (hblk _ _ _ HT.out.2.2.2.2.2.2 (by decide)) ((hmw.none _).trans (hmL.mono (fun k e => (.inr (.inl e) : COwn p lb m k)))))))))
  have HIO := Lib.hid (And.intro HT.out.2.1 HT.out.2.2.1)
  clear hbw hL hmL hblk hmw hm' hown' hSS x0 x1 x2 x3 x4 x5 x6 y0 y1 y2 y3 y4 y5 y6 s0 s1 s2 HX2 HS HC HT
  generalize (((((((w'.setCell ⟨lb, i * 7, none⟩ (.int .i64 k1)).setCell ⟨lb, i * 7 + 1, none⟩ (.int .i64 k2)).setCell ⟨lb, i * 7 + 2, none⟩ (.slice Ac bs.length cc)).setCell ⟨lb, i * 7 + 3, none⟩ (.bool true)).setCell ⟨lb, i * 7 + 4, none⟩ (.bool dirty)).setCell ⟨lb, i * 7 + 5, none⟩ (.bool true)).setCell ⟨lb, i * 7 + 6, none⟩ (.int .i64 0)) = W5 at H5 ⊢
  obtain ⟨c0, c1, c2⟩ := H5.out.1.cells
  have q0 : W5.cell? ⟨w.heap.size, 0, none⟩ = some (.int .i64 k1) := by simp [World.cell?, H5.out.2.2.1]
  have q1 : W5.cell? ⟨w.heap.size, 1, none⟩ = some (.int .i64 k2) := by simp [World.cell?, H5.out.2.2.1]
  have hown5 := H5.out.1.map.drew
  have hkey := keyOf_K hw
  clear c0 c2
  go_upto_region 14 with fail
  go_still_tail 6, (by kernel_rfl)
  change wpList _ _ _ _ _ W5.drew
  refine wpList_mapUpdate_in _ rfl _ _ _ 118 rfl 43 3 lawK Try.underlying118 _ m _ D rfl hown5 (by have := HIO.out.1; unfold maxLen; omega) _ _ _ rfl rfl hkey (.lit (.int .i64 i)) [] (plainElem_int Try.underlying3 hiw) ?_
  intro w6 hown6 hturn6
  have hm6 : Moves (fun k => k = m) W5 w6 := (Moves.refl (fun k => k = m) W5).drew.turned hturn6 (fun _ => rfl)
  have hblk : ∀ (g : Nat) (cs : Array Value) (t : TypeId), W5.heap[g]? = some (.cells cs t (0, 0)) → w6.heap[g]? = some (.cells cs t (0, 0)) := fun g cs t hg => by
    refine (hm6.block g (Array.getElem?_eq_some_iff.1 hg).1 (fun (e : g = m) => ?_)).trans hg
    obtain ⟨es, ck, hb', _⟩ := H5.out.1.map
    rw [← e, hg] at hb'
    cases hb'
  have H6 := Lib.hid (And.intro ((H5.out.1.remap hm6 hown6).whole HIO.out.2) (And.intro (H5.out.2.1.trans (hm6.mono (fun k e => (.inr (.inr e) : COwn p lb m k)))) (And.intro (hblk _ _ _ H5.out.2.2.2.1) (And.intro (hblk _ _ _ H5.out.2.2.2.2.1) (H5.out.2.2.2.2.2.trans (hm6.mono (fun k e => (.inr (.inr e) : COwn p lb m k))))))))
  clear hown6 hturn6 hm6 hblk hown5 hkey c1 q0 q1 H5
  obtain ⟨o0, o1, o2, o3, o4, z0, z1, z2, z3, z4⟩ := out_cells H6.out.2.2.1
  obtain ⟨t0, t1, t2, t3, t4, -⟩ := out_cells H6.out.2.2.2.1
  have hws : Hid (w.heap.size ≤ w.heap.size + 1 ∧ w.heap.size + 1 ≠ tb) := Lib.hid (by have := hsz4.out; omega)
  have hne : w.heap.size + 1 ≠ tb := hws.out.2
  clear hsz4
  generalize w.heap.size + 1 = ob at H6 o0 o1 o2 o3 o4 z0 z1 z2 z3 z4 hws hne ⊢
  go_frame
  go_wp2
  have hb4 : (((((w6.setCell ⟨ob, 0, none⟩ (.int .i64 0)).setCell ⟨ob, 1, none⟩ (.int .i64 0)).setCell ⟨ob, 2, none⟩ (.slice none 0 0)).setCell ⟨ob, 3, none⟩ (.bool false)).setCell ⟨ob, 4, none⟩ (.bool false)).heap[ob]? = some (.cells #[.int .i64 0, .int .i64 0, .slice none 0 0, .bool false, .bool false] 45 (0, 0)) := by
    simp [World.setCell, Array.getElem?_modify, H6.out.2.2.1]
  have hm4 : Moves (fun k => k = ob) w6 (((((w6.setCell ⟨ob, 0, none⟩ (.int .i64 0)).setCell ⟨ob, 1, none⟩ (.int .i64 0)).setCell ⟨ob, 2, none⟩ (.slice none 0 0)).setCell ⟨ob, 3, none⟩ (.bool false)).setCell ⟨ob, 4, none⟩ (.bool false)) :=
    Moves.setCell (p := ⟨ob, 4, none⟩) (Moves.setCell (p := ⟨ob, 3, none⟩) (Moves.setCell (p := ⟨ob, 2, none⟩) (Moves.setCell (p := ⟨ob, 1, none⟩) (Moves.setCell (p := ⟨ob, 0, none⟩) (Moves.refl (fun k => k = ob) w6) (fun _ => rfl) _) (fun _ => rfl) _) (fun _ => rfl) _) (fun _ => rfl) _) (fun _ => rfl) _
  refine bodyPost_ret (results_row_tmp rfl _ _ ob _ _ _ _ rfl hb4 Try.underlying45 rfl (by kernel_rfl)) rfl ?_
  exact ⟨rfl, H6.out.1.poke H6.out.2.2.1 (by decide) (by decide) (by decide) hm4, H6.out.2.1.andThen hm4 (fun k e hlt => absurd hlt (by have e : k = ob := e; have := hws.out; omega))⟩
end Go.Proofs.Ytbfnmgjpkieaoaa
