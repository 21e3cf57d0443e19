/-
  A new disk: bytes 0.
-/
import Derived.Test.YtnagpianaghjeaaDiskRead
import Derived.Deep.RegionLaw
import Derived.Deep.OwnRows
namespace Go.Proofs.Ytnagpianaghjeaa.Pl
open Go Go.RowKit Go.Maps Go.Sort Go.Proofs

def newS (n z : Nat) : DS := { size := z, kept := List.replicate n (List.replicate z 0), secs := [], data := [], off := false, armed := false, left := 0, keep := [], writes := 0 }
def NewPost (w : World) (n z : Nat) (e : Ending) (w' : World) : Prop := ∃ d, e = .returned (.tuple #[.pointer (some ⟨d, 0, none⟩), .int .i64 0]) ∧ IsDisk w' w.heap.size d (newS n z) ∧ Moves (fun _ => False) w w'

theorem infoBS : (Try.prog.info? 55).map (fun i => (i.zero, i.size, i.bytes)) = some (some (.slice none 0 0), 1, 24) := by kernel_rfl
theorem madeB (z : Nat) : (madeCells #[Value.int .u8 0] z).toList = (List.replicate z (0 : Int)).map encB := by
  apply List.ext_getElem?
  intro i
  simp only [madeCells, List.getElem?_map, List.getElem?_replicate]
  by_cases h : i < z
  · simp [h, Nat.mod_one]
  · simp [h]

set_option maxRecDepth 100000 in
set_option maxHeartbeats 4000000 in
theorem new_ok {n z : Nat} (hn : 1 ≤ n ∧ n ≤ 16384) (hz : 64 ≤ z ∧ z ≤ 1024) (w : World) : Calls Try.prog 28 #[.int .i64 n, .int .i64 z] w (NewPost w n z) := by
  have HRT := Lib.hid (right_any (n := n) (z := z) (b := true) (by unfold rightZ; simp; omega) w)
  have hmm := @run_makeMap Try.prog
  obtain ⟨i4, hi4, hq0, hq1, hq2⟩ := info_parts infoBS
  obtain ⟨i5, hi5, hp0, hp1, hp2⟩ := info_parts infoB
  have hq3 : (Value.slice none 0 0).cells.size = 1 := rfl
  have hq4 : (0 : Nat) < 1 := by decide
  have hmk := fun W => run_make_row (P := Try.prog) 55 5 i5 _ Try.underlying55 hi5 hp0 hp1 rfl .i64 .i64 z (by rw [hp2]; omega) (by omega) W
  go_enter Try.func28, Try.ntmps28
  go_wp2_with fail
  refine HRT.out.mono ?_
  rintro e w1 ⟨rfl, rfl⟩
  go_wp2_with fail
  have hm1 := (((Moves.refl (fun _ => False) w).alloc (.map #[] 0)).alloc (.cells #[.int .i64 z, .slice none 0 0, .map (some w.heap.size), .bool false, .bool false, .int .i64 0, .slice none 0 0, .int .i64 0] 105))
  have hb1 := heap_alloc2_new w (.map #[] 0) (.cells #[.int .i64 z, .slice none 0 0, .map (some w.heap.size), .bool false, .bool false, .int .i64 0, .slice none 0 0, .int .i64 0] 105)
  have hmap := (World.ownsMap_made (H := Value) w Try.prog 144 RV).alloc (.cells #[.int .i64 z, .slice none 0 0, .map (some w.heap.size), .bool false, .bool false, .int .i64 0, .slice none 0 0, .int .i64 0] 105)
  have hD1 : DiskAt ((w.alloc (.map #[] 0)).alloc (.cells #[.int .i64 z, .slice none 0 0, .map (some w.heap.size), .bool false, .bool false, .int .i64 0, .slice none 0 0, .int .i64 0] 105)) w.heap.size (w.heap.size + 1) (newS 0 z) (.slice none 0 0) [] w.heap.size (.map []) [] (.slice none 0 0) :=
    ⟨hb1, by omega, World.ownsRow_nil _ _ _ _, All2.nil _, Nat.le_refl _, hmap, VOf.nil, All2.nil _, rfl, World.ownsRow_nil _ _ _ _, by simp [newS], by simp [newS], by simp [newS], by simp [newS]⟩
  generalize w.heap.size + 1 = d at hD1 ⊢
  generalize (w.alloc (.map #[] 0)).alloc (.cells #[.int .i64 z, .slice none 0 0, .map (some w.heap.size), .bool false, .bool false, .int .i64 0, .slice none 0 0, .int .i64 0] 105) = w1 at hD1 hm1 ⊢
  have HD1 := Lib.hid hD1
  clear hD1 hb1 hmap
  go_wp2_with fail
  go_loopg [16] n (fun gg s16 wr => ∃ (j : Nat) (kv : Value) (kvs : List Value), j ≤ n ∧ gg = n - j ∧ s16 = .int .i64 j ∧ DiskAt wr w.heap.size d (newS j z) kv kvs w.heap.size (.map []) [] (.slice none 0 0) ∧ Moves (fun _ => False) w wr)
  case atStart => exact ⟨0, _, _, Nat.zero_le _, rfl, rfl, HD1.out, hm1⟩
  case round =>
    obtain ⟨j, kv, kvs, hj, hgj, rfl, hD, hmv⟩ := hrel
    by_cases hjn : j < n
    · obtain ⟨-, c1, -⟩ := hD.cells
      have f1 := hD.fr 1
      have hkl : kvs.length = j := by have := hD.secs.1; simpa [newS] using this
      have hdl := (Array.getElem?_eq_some_iff.1 hD.blk).1
      have hkd : kv.ownBlock ≠ some d := fun e => by
        obtain ⟨cur, hc⟩ := own_block hD.kept e
        rw [hD.blk] at hc
        cases hc
      obtain ⟨Ak, ck, rfl, -, -, -, -, -⟩ := own_form hD.kept
      have HD := Lib.hid hD
      have HMV := Lib.hid hmv
      have hws := hmv.size
      have HK : Hid (wr.ownsRow w.heap.size 55 1 (.slice Ak kvs.length ck) kvs.length kvs) := Lib.hid hD.kept
      have h63 : Hid (kvs.length + 1 ≤ maxLen ∧ (kvs.length + 1) * 24 ≤ 140737488355328) := Lib.hid (by unfold maxLen; omega)
      have HKL := Lib.hid hkl
      have hbs : Hid (w.heap.size ≤ ((wr.alloc (.cells (madeCells #[.int .u8 0] z) 5)).alloc (.cells #[.slice (some ⟨wr.heap.size, 0, none⟩) z z] 55)).heap.size) := Lib.hid (by simp; omega)
      clear hD hmv hkl
      go_wp2_with fail
      go_region_law (first
        | (refine step_append_src _ rfl (.tmp 22) (.tmp 25) 71 rfl w.heap.size 55 i4 _ 1 24 Try.underlying71 hi4 hq0 hq1 hq2 hq3 hq4 (.slice Ak kvs.length ck) kvs.length kvs rfl ((HK.out.alloc _).alloc _) (some ⟨wr.heap.size + 1, 0, none⟩) 1 1 [.slice (some ⟨wr.heap.size, 0, none⟩) z z] rfl (by rfl) (fun _ => ⟨_, rfl, World.news_of_block (cs := #[.slice (some ⟨wr.heap.size, 0, none⟩) z z]) (t := 55) (fr := (0, 0)) (heap_alloc2_new _ _ _)⟩) (by simp [Value.oneCell']) h63.out.1 h63.out.2 hbs.out ?_
           intro v1 w5 hn5 hg5 hl5
           have hdl5 : d < ((wr.alloc (.cells (madeCells #[.int .u8 0] z) 5)).alloc (.cells #[.slice (some ⟨wr.heap.size, 0, none⟩) z z] 55)).heap.size := by simp; omega
           have hb5 := hg5.block d hdl5 hkd.symm
           have c1' : w5.cell? ⟨d, 1, none⟩ = some (.slice Ak kvs.length ck) := (World.cell?_of_block hb5).trans ((World.cell?_alloc_lt _ _ ⟨d, 1, none⟩ (by simp; omega)).trans ((World.cell?_alloc_lt _ _ ⟨d, 1, none⟩ hdl).trans c1))
           have f1' : w5.frozen? ⟨d, 1, none⟩ = false := (World.frozen?_of_block hb5).trans ((World.frozen?_of_block ((Below.heap_alloc _ _ _ (by simp; omega)).trans (Below.heap_alloc _ _ _ hdl))).trans f1)
           obtain ⟨A1, k1, rfl, -, -, -, -, -⟩ := own_form hn5)
        | fail)
      all_goals
        have HN5 := Lib.hid hn5
        have HG5 := Lib.hid hg5
        have HB5 := Lib.hid hb5
        clear hn5 hg5 hl5 hb5 c1
        go_wp2
        have hD := HD.out
        have hm6 : Moves (fun k => k = d) w5 (w5.setCell ⟨d, 1, none⟩ (.slice A1 (kvs.length + 1) k1)) := Moves.setCell (p := ⟨d, 1, none⟩) (Moves.refl (fun k => k = d) w5) (fun _ => rfl) _
        have hmA : Moves (fun k => (Value.slice Ak kvs.length ck).ownBlock = some k) wr w5 := by
          first
            | exact (((Moves.refl _ wr).alloc _).alloc _).grown HG5.out (fun k e _ => e)
            | exact ((((Moves.refl _ wr).drew).alloc _).alloc _).grown HG5.out (fun k e _ => e)
        have hmm : Moves (fun k => k = d ∨ (Value.slice Ak kvs.length ck).ownBlock = some k) wr (w5.setCell ⟨d, 1, none⟩ (.slice A1 (kvs.length + 1) k1)) := (hmA.mono (fun k e => .inr e)).andThen hm6 (fun k e _ => .inl e)
        have hw5 : w5.heap[d]? = wr.heap[d]? := hmA.block d hdl hkd
        have hb6 : (w5.setCell ⟨d, 1, none⟩ (.slice A1 (kvs.length + 1) k1)).heap[d]? = some (.cells #[.int .i64 z, .slice A1 (kvs.length + 1) k1, .map (some w.heap.size), .bool false, .bool false, .int .i64 0, .slice none 0 0, .int .i64 0] 105 (0, 0)) := by
          simp [World.setCell, Array.getElem?_modify, hw5, hD.blk, newS]
        have hty : ∀ (g : Nat) (cs : Array Value) (t : TypeId) (fr : Nat × Nat), wr.heap[g]? = some (.cells cs t fr) → t ≠ 105 → t ≠ 55 → ¬ (g = d ∨ (Value.slice Ak kvs.length ck).ownBlock = some g) := fun g cs t fr hg h1 h2 e => by
          rcases e with e | e
          · rw [e, hD.blk] at hg; cases hg; exact h1 rfl
          · obtain ⟨cur, hc⟩ := own_block hD.kept e
            rw [hc] at hg; cases hg; exact h2 rfl
        have hsec : ∀ a b, Sec wr w.heap.size a b → Sec (w5.setCell ⟨d, 1, none⟩ (.slice A1 (kvs.length + 1) k1)) w.heap.size a b := fun a b hab => hab.moves hmm (fun g cs hg => hty g cs _ _ hg (by decide) (by decide))
        have hnb : (w5.setCell ⟨d, 1, none⟩ (.slice A1 (kvs.length + 1) k1)).heap[wr.heap.size]? = some (.cells (madeCells #[.int .u8 0] z) 5 (0, 0)) := by
          refine (hm6.block wr.heap.size (by have := hmA.size; have := HG5.out.size; simp at this; omega) (fun e => by have e : wr.heap.size = d := e; omega)).trans ?_
          refine (HG5.out.block wr.heap.size (by simp; omega) (fun e => by have := (hD.kept.lt wr.heap.size e.symm).2; omega)).trans ?_
          exact (Below.heap_alloc _ _ _ (by simp)).trans (heap_alloc_new _ _)
        have hnew : Sec (w5.setCell ⟨d, 1, none⟩ (.slice A1 (kvs.length + 1) k1)) w.heap.size (.slice (some ⟨wr.heap.size, 0, none⟩) z z) (List.replicate z 0) := by
          refine ⟨wr.heap.size, 0, z, _, by rw [List.length_replicate], by simp, by unfold maxLen; omega, hws, hnb, fun q u hu => ?_⟩
          rw [← madeB] at hu
          simp only [World.cell?, hnb, Nat.zero_add, Option.isSome_none, Bool.false_eq_true, if_false]
          rw [← Array.getElem?_toList]
          exact hu
        have hfin : DiskAt (w5.setCell ⟨d, 1, none⟩ (.slice A1 (kvs.length + 1) k1)) w.heap.size d (newS (j + 1) z) (.slice A1 (kvs.length + 1) k1) (kvs ++ [.slice (some ⟨wr.heap.size, 0, none⟩) z z]) w.heap.size (.map []) [] (.slice none 0 0) := by
          refine ⟨hb6, hD.hd, ?_, ?_, Nat.le_refl _, hmm.ownsMap hD.map (fun e => ?_), VOf.nil, All2.nil _, rfl, World.ownsRow_nil _ _ _ _, ?_, by simp [newS], by simp [newS], by simp [newS]; omega⟩
          · rw [List.length_append, List.length_singleton]
            refine own_moves HN5.out hm6 (fun g hg e => ?_)
            have e : g = d := e
            obtain ⟨cur, hc⟩ := own_block HN5.out hg
            rw [e, hw5, hD.blk] at hc
            cases hc
          · show All2 _ _ (List.replicate (j + 1) (List.replicate z 0))
            rw [List.replicate_succ']
            exact (hD.secs.mono hsec).append hnew
          · obtain ⟨es, ck', hb, _⟩ := hD.map
            rcases e with e | e
            · rw [e, hD.blk] at hb; cases hb
            · obtain ⟨cur, hc⟩ := own_block hD.kept e
              rw [hc] at hb; cases hb
          · intro x hx
            have := List.eq_of_mem_replicate hx
            subst this
            simp [newS]
        have HFIN := Lib.hid hfin
        have HMM : Hid (Moves (fun _ => False) w (w5.setCell ⟨d, 1, none⟩ (.slice A1 (kvs.length + 1) k1))) := Lib.hid (HMV.out.andThen hmm (fun k e hlt => by
          rcases e with e | e
          · have := hD.hd; omega
          · have := (hD.kept.lt k e).1; omega))
        clear hfin hnew hnb hsec hty hb6 hw5 hmm hmA hm6 hD
        go_roundg (n - (j + 1))
        case measure => omega
        case rel => exact ⟨j + 1, _, _, by omega, rfl, by go_num, HFIN.out, HMM.out⟩
    · obtain rfl : j = n := by omega
      have HD := Lib.hid hD
      have HMV := Lib.hid hmv
      clear hD hmv
      go_wp2
      go_ret2
      exact ⟨d, rfl, ⟨_, _, _, _, _, _, HD.out⟩, HMV.out⟩
end Go.Proofs.Ytnagpianaghjeaa.Pl
