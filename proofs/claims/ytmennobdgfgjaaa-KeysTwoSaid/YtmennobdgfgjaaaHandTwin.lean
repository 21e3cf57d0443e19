/-
  The contract of Twin: a table apart, with the same row; the elder one stays as it is.
-/
import Derived.Test.YtmennobdgfgjaaaHandFor
import Derived.Shelf.SlMaps.Clone
import Derived.Deep.RegionHeld3
import Derived.Maps.AppendAt
namespace Go.Proofs.Ytmennobdgfgjaaa
open Go Go.RowKit Go.Maps Go.Sort Go.Shelf Go.Proofs

def ClonePost (w : World) (R : List Pr) (e : Ending) (w' : World) : Prop := e = .returned (.map (some w.heap.size)) ∧ w'.ownsMap Try.prog 3 RI w.heap.size R.length (dat R) ∧ Moves (fun _ => False) w w'

theorem clone_any {w : World} {m : Nat} {R : List Pr} (h : w.ownsMap Try.prog 3 RI m R.length (dat R)) : Calls Try.prog 42 #[.map (some m)] w (ClonePost w R) :=
  (AnyW.maps_Clone_owns Try.cloneA 3 RI m R.length (dat R) w h).mono fun _ _ ⟨he, h1, _, hb⟩ => ⟨he, h1, Moves.of_below hb⟩

def TwinPost (w : World) (R : List Pr) (last : Int) (e : Ending) (w' : World) : Prop :=
  ∃ p' m', e = .returned (.pointer (some ⟨p', 0, none⟩)) ∧ Tab w' p' m' R last ∧ w.heap.size ≤ p' ∧ w.heap.size ≤ m' ∧ Moves (fun _ => False) w w'

set_option maxRecDepth 100000 in
set_option maxHeartbeats 1000000 in
theorem twin_any {w : World} {p m : Nat} {R : List Pr} {last : Int} (hT : Tab w p m R last) : Calls Try.prog 21 #[.pointer (some ⟨p, 0, none⟩)] w (TwinPost w R last) := by
  have c0 := hT.c0
  have c1 := hT.c1
  have hown := hT.map
  have hpl := hT.lt
  go_enter Try.func21, Try.ntmps21
  go_wp2_with fail
  go_region_held3 (fun w' => w'.cell? ⟨p, 0, none⟩ = some (.map (some m)) ∧ w'.cell? ⟨p, 1, none⟩ = some (.int .i64 last))
    (first
      | go_keep
      | exact ⟨c0', c1'⟩)
    (first | (go_at_call 42; refine (clone_any (R := R) hown.drew).mono ?_; rintro e w1 ⟨rfl, ho1, hm1⟩; have c0' := (hm1.cell (p := ⟨p, 0, none⟩) hpl (fun h => h)).trans c0; have c1' := (hm1.cell (p := ⟨p, 1, none⟩) hpl (fun h => h)).trans c1))
  go_wp2
  go_ret
  have hsz : w.heap.size ≤ w1.heap.size := hm1.size
  refine ⟨w1.heap.size, w.heap.size, rfl, ⟨?_, ho1.alloc _, hT.ok⟩, hsz, Nat.le_refl _, ?_⟩
  · exact heap_alloc_new w1 _
  · have hm0 : Moves (fun _ => False) w w.drew := (Moves.refl _ w).drew
    exact (hm0.trans hm1).alloc _

/-! ### Nodes -/
def NodesPost (w : World) (R : List Pr) (e : Ending) (w' : World) : Prop :=
  ∃ v, e = .returned v ∧ Row w' (fun i => w.heap.size ≤ i) v ((R.map (·.2)).map encZ) ∧ Moves (fun _ => False) w w'

theorem infoI : (Try.prog.info? 3).map (fun i => (i.zero, i.size, i.bytes)) = some (some (.int .i64 0), 1, 8) := by kernel_rfl

set_option maxRecDepth 100000 in
set_option maxHeartbeats 2000000 in
theorem nodes_any {w : World} {p m : Nat} {R : List Pr} {last : Int} (hT : Tab w p m R last) : Calls Try.prog 23 #[.pointer (some ⟨p, 0, none⟩)] w (NodesPost w R) := by
  obtain ⟨i0, hi, hz0, hz1, hz2⟩ := info_parts infoI
  have h256 := hT.ok.len
  go_enter Try.func23, Try.ntmps23
  go_wp2_with (go_at_call 19; refine (live_any hT).mono ?_; rintro e w1 ⟨v, rfl, ⟨A, c, rfl, hc, hcells⟩, hmv⟩; simp only [List.length_map] at hc hcells ⊢)
  have hT1 : Tab w1 p m R last := hT.moves hmv (fun h => h) (fun h => h)
  have hpl := hT1.lt
  have hml := hT1.map.lt
  go_loopw [3, 5, 9] (fun o _ t wr => ∃ k : Nat, k ≤ R.length ∧ t = .int .i64 k ∧ wr.ownsRow w1.heap.size 3 1 o k (((R.take k).map (·.2)).map encZ) ∧ Below w1.heap.size w1 wr) (fun _ _ t _ => R.length - (intOf t).toNat)
  case atStart => exact ⟨0, Nat.zero_le _, rfl, World.ownsRow_nil _ _ _ _, Below.refl _ _⟩
  case round =>
    obtain ⟨k, hk, rfl, hrow, hbw⟩ := hrel
    have hmw : Moves (fun _ => False) w1 wr := Moves.of_below hbw
    have hT2 : Tab wr p m R last := hT1.moves hmw (fun h => h) (fun h => h)
    by_cases hlt : k < R.length
    · obtain ⟨g, o, rfl, hg, hgl, hcell⟩ := hcells (by omega)
      have hv : wr.cell? ⟨g, o + k, none⟩ = some (.int .i64 R[k].1) := (hmw.cell (p := ⟨g, o + k, none⟩) hgl (fun h => h)).trans (hcell k _ (by simp [hlt]))
      have c0 := hT2.c0
      have hown := hT2.map
      have hwk := hT1.ok.wf (List.getElem_mem hlt)
      have hlook := look_of_mem hT1.ok.rise (show (R[k].1, R[k].2) ∈ R from List.getElem_mem hlt)
      have hkey := keyOf_int_mk Try.underlying3 hwk.1
      have Hlook := Lib.hid hlook
      have Hwk := Lib.hid hwk
      have htk : ((R.take (k + 1)).map (·.2)).map encZ = ((R.take k).map (·.2)).map encZ ++ [encZ R[k].2] := by
        rw [List.take_succ_eq_append_getElem hlt, List.map_append, List.map_append]; rfl
      have Htk := Lib.hid htk
      clear hcell hcells hlook hwk htk
      generalize hx : R[k].1 = x at hv hkey Hlook
      generalize hy : R[k].2 = y at Hlook Htk
      clear hx hy
      go_wp2_with (first
        | (at_lookup; refine wpList_lookup_own_int _ rfl _ _ 76 rfl 3 3 .i64 law3 Try.underlying76 Try.underlying3 (zero3 _) m R.length (dat R) rfl hown _ _ rfl hkey ?_; intro c' hat hwc; obtain rfl : c' = y := by { rw [look_val hat, Hlook.out]; rfl })
        | (at_builtin; refine wpList_append_own _ rfl _ _ 31 rfl w1.heap.size 3 i0 (.int .i64 0) 1 8 Try.underlying31 hi hz0 hz1 hz2 rfl (by decide) _ _ _ rfl (hrow.alloc _) ⟨wr.heap.size, 0, none⟩ 1 1 [.int .i64 c'] rfl rfl (cell_one_new _ _ _) (by simp [Value.oneCell']) (by unfold maxLen; omega) (by omega) (by have := hbw.size; simp; omega) ?_; intro v' w3 hown' hgrow _)
        | go_in)
      go_roundw
      case rel =>
        refine ⟨k + 1, by omega, by go_num, ?_, ?_⟩
        · rw [Htk.out]; exact hown'
        · exact (hbw.alloc hbw.size _).grown hgrow (by have := hbw.size; simp; omega) (fun j hj => (hrow.lt j hj).1)
      case measure => simp [intOf]; omega
    · obtain rfl : k = R.length := by omega
      rw [List.take_length] at hrow
      obtain ⟨A', c', rfl, hs1, hs2, hs3, hs4, hs5⟩ := shape_of hrow
      clear hcells
      go_wp2_with (go_at_call 39; refine (clip_any _ A' R.length c' hs1 hs2 hs3).mono ?_; rintro e w2 ⟨rfl, rfl⟩)
      go_ret
      exact ⟨_, rfl, (hs5 _ (Nat.le_refl _)).mono (fun i hi _ => by have := hmv.size; omega), hmv.trans hmw⟩
end Go.Proofs.Ytmennobdgfgjaaa
