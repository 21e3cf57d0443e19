/-
  A cache's page read, pinned, cleaned; how many pages there are.
-/
import Derived.Test.YtbfnmgjpkieaoaaCCalls
namespace Go.Proofs.Ytbfnmgjpkieaoaa
open Go Go.RowKit Go.Maps Go.Sort Go.Proofs

def CPost (w : World) (base p lb m : Nat) (fs : List FrS) (hand : Nat) (v : Value) (e : Ending) (w' : World) : Prop := e = .returned v ∧ IsCache w' base p lb m fs hand ∧ Moves (COwn p lb m) w w'
def GetPost (w : World) (base p lb m : Nat) (fs : List FrS) (hand : Nat) (bs : List Int) (e : Ending) (w' : World) : Prop := ∃ v, e = .returned (.tuple #[v, .bool true]) ∧ Row w' (fun k => w.heap.size ≤ k) v (bs.map encB8) ∧ IsCache w' base p lb m fs hand ∧ Moves (COwn p lb m) w w'

set_option maxRecDepth 100000 in
set_option maxHeartbeats 1000000 in
theorem len_c {w : World} {base p lb m : Nat} {fs : List FrS} {hand : Nat} (h : IsCache w base p lb m fs hand) : Calls Try.prog 29 #[.pointer (some ⟨p, 0, none⟩)] w (SameP w (.int .i64 (fs.filter FrS.here).length)) := by
  obtain ⟨D, dvs, h⟩ := h
  obtain ⟨-, c1, -⟩ := h.cells
  have hown := h.map
  have HSZ := Lib.hid h.by_.size
  clear h
  go_enter Try.func29, Try.ntmps29
  go_wp2_with (first
    | (at_len; go_must (refine wpList_len_own _ rfl _ 118 rfl 43 3 Try.underlying118 _ m _ D rfl hown ?_))
    | fail)
  go_ret
  exact ⟨by rw [← HSZ.out]; rfl, rfl⟩

set_option maxRecDepth 100000 in
set_option maxHeartbeats 2000000 in
theorem get_hit {w : World} {base p lb m : Nat} {fs : List FrS} {hand : Nat} (h : IsCache w base p lb m fs hand) {i : Nat} {f : FrS} (hi : fs[i]? = some f) (hh : f.here = true) {k : Pr} (hk : f.key = k) :
    Calls Try.prog 28 #[.pointer (some ⟨p, 0, none⟩), encK k] w (GetPost w base p lb m (fs.set i { f with mark := true }) hand f.data) := by
  obtain ⟨k1, k2⟩ := k
  have hm0 := (Moves.refl (fun _ => False) w).alloc (.cells #[.int .i64 k1, .int .i64 k2] 43)
  have HF := Lib.hid (find_hit (h.moves0 hm0) hi hh hk)
  have HA := Lib.hid (And.intro (h.moves0 hm0) hm0)
  have hil : i < fs.length := (List.getElem?_eq_some_iff.1 hi).1
  have hfi : fs[i] = f := (List.getElem?_eq_some_iff.1 hi).2
  have HI := Lib.hid hi
  clear h hm0 hi hk
  go_enter Try.func28, Try.ntmps28
  go_wp2_with fail
  refine HF.out.mono ?_
  rintro e w1 ⟨rfl, hm1⟩
  obtain ⟨D, dvs, h1⟩ := HA.out.1.moves0 hm1
  have hdl : i < dvs.length := by rw [h1.len]; exact hil
  obtain ⟨m5, f5⟩ := h1.frame hil (r := 5) (by omega)
  obtain ⟨m2, -⟩ := h1.frame hil (r := 2) (by omega)
  have m5' : w1.cell? ⟨lb, i * 7 + 5, none⟩ = some (.bool f.mark) := by rw [m5, hfi]; rfl
  have m2' : w1.cell? ⟨lb, i * 7 + 2, none⟩ = some dvs[i] := m2
  have hown := h1.dat i hil hdl
  rw [hfi] at hown
  have h2 := h1.turn hil (r := 5) (v := .bool true) (dv' := dvs[i]) (f' := { f with mark := true }) (by omega) (by rw [hfi]; rfl) (by rw [hfi]) (by rw [hfi]) hown (h1.long f (hfi ▸ List.getElem_mem hil))
  have hlong := h1.long f (hfi ▸ List.getElem_mem hil)
  obtain ⟨Ad, cd, hdv, -⟩ := own_form hown
  have h2own := h2.dat i (by simpa using hil) (by simpa using hdl)
  simp only [List.getElem_set_self] at h2own
  have HC := Lib.hid (Pl.cloneB (Row.of_owns h2own) (by intro u hu; obtain ⟨b, _, rfl⟩ := List.mem_map.1 hu; rfl) (by rw [List.length_map]; exact hlong))
  have HM1 := Lib.hid (HA.out.2.trans hm1)
  have H2 := Lib.hid h2
  generalize dvs[i] = dv at m2' hdv HC H2
  subst hdv
  clear m5 m2 hown h2 h1 hm1 HF HA h2own
  go_wp2_with fail
  refine HC.out.mono ?_
  rintro e w3 ⟨v3, rfl, hown3, hm3⟩
  rw [List.length_map] at hown3
  obtain ⟨A3, c3, rfl, hc3, hcm3, hA3, -, hx3⟩ := own_form hown3
  have hP := Pl.clipB w3 A3 f.data.length c3 hc3 hcm3 hA3
  have hrow : Row w3 (fun k => w.heap.size ≤ k) (.slice A3 f.data.length f.data.length) (f.data.map encB8) := by
    refine ⟨A3, f.data.length, by rw [List.length_map], by rw [List.length_map]; exact Nat.le_refl _, fun h0 => ?_⟩
    rw [List.length_map] at h0
    obtain ⟨g, hg, hgb, hgl, hcell⟩ := hx3 h0
    exact ⟨g, 0, hg, Nat.le_trans (by have := HM1.out.size; simpa [World.setCell] using this) hgb, hgl, fun j u hu => by rw [Nat.zero_add]; exact hcell j u hu⟩
  have HROW := Lib.hid hrow
  have HM3 := Lib.hid hm3
  clear hown3 hx3 hrow hm3 hc3 hcm3 hA3 HC
  go_wp2_with fail
  refine hP.mono ?_
  rintro e w4 ⟨rfl, rfl⟩
  clear hP
  go_wp2
  go_ret2
  have hmS : Moves (COwn p lb m) w1 (w1.setCell ⟨lb, i * 7 + 5, none⟩ (.bool true)) := Moves.setCell (p := ⟨lb, i * 7 + 5, none⟩) (Moves.refl (COwn p lb m) w1) (fun _ => .inr (.inl rfl)) _
  exact ⟨_, rfl, HROW.out, ⟨D, _, H2.out.moves0 HM3.out⟩, ((HM1.out.none _).trans hmS).trans (HM3.out.none _)⟩
end Go.Proofs.Ytbfnmgjpkieaoaa
