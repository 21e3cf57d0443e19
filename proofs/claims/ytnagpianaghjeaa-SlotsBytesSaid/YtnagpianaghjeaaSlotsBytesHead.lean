/-
  Nought bytes laid behind a row of one's own: append(s, make([]byte, m)...).
  Both and Read over a disk of one sector.
  SlotsBytes: what the two sectors are, and what the disk of the bytes holds.
  SlotsBytes: the guards, and the way to the disk.
-/
import Derived.Test.YtnagpianaghjeaaAppB
import Derived.Lib.AppendZerosOnto
import Derived.Test.YtnagpianaghjeaaSlotsRead
import Derived.Test.YtnagpianaghjeaaRight
import Derived.Test.YtnagpianaghjeaaDiskOfWalk
import Derived.Test.YtnagpianaghjeaaSlotsKnown
import Derived.Lib.SmallJoins
import Derived.BigQuiet
import Derived.Deep.QuietTactic
import Derived.Deep.RegionHeld3
namespace Go.Proofs.Ytnagpianaghjeaa.Sl
open Go Go.RowKit Go.Proofs

theorem run_append_room_zeros {P : Program} (w : World) (t tn ty e : TypeId) (i : TypeInfo) (z : Value) (kq kn : IntKind) (ht : P.underlying t = some (.slice e)) (htn : P.underlying tn = some (.int kn)) (hi : P.info? e = some i) (hz : i.zero = some z)
    (g sLen sCap : Nat) (cur : Array Value) (hg : w.heap[g]? = some (.cells cur e (0, 0))) (k : Nat) (h0 : 0 < k) (hs : 0 < i.size) (hzs : z.cells.size = i.size) (h1 : ∀ u ∈ (Builtin.zeroCells z.cells k).toList, u.oneCell' = true)
    (hroom : sLen + k ≤ sCap) (hfit : sLen * i.size + k * i.size ≤ cur.size) (h63 : (k : Int) ≤ 9223372036854775807) (h48 : k * i.bytes ≤ 281474976710656) :
    (Builtin.append_ #[t, tn] ty #[.slice (some ⟨g, 0, none⟩) sLen sCap, .int kq k]).run P w =
      .ok (.slice (some ⟨g, 0, none⟩) (sLen + k) sCap) (w.setRow g (cur.toList.take (sLen * i.size) ++ (Builtin.zeroCells z.cells k).toList ++ cur.toList.drop (sLen * i.size + (Builtin.zeroCells z.cells k).toList.length)).toArray) := by
  have hlen : (Builtin.zeroCells z.cells k).toList.length = k * i.size := by rw [Array.length_toList, size_zeroCells, hzs]
  have hst := run_storeCells_at P g (sLen * i.size) e (Builtin.zeroCells z.cells k).toList 0 cur w hg (by rw [hlen]; omega) h1
  simp only [Nat.add_zero] at hst
  have hw : IntKind.i64.wrap (k : Int) = k := by rw [IntKind.wrap_i64]; omega
  have h48i : ¬ (281474976710656 < (k : Int) * (i.bytes : Int)) := by
    rw [← Int.natCast_mul]
    omega
  have hneg : ¬ ((k : Int) < 0) := by omega
  have hns : ¬ (k * i.size = 0) := Nat.mul_ne_zero (by omega) (by omega)
  simp [Builtin.append_, run_underlying ht, run_underlying htn, sizeOf, typeInfo, zeroValue, hi, hz, asInt, asIntOf, hw, hneg, hns, h48i, hroom, Addr.add_lit, hst]

theorem zeros_list (m : Nat) : (Builtin.zeroCells (Value.int .u8 0).cells m).toList = (List.replicate m (0 : Int)).map encX := by
  rw [List.map_replicate]
  apply List.ext_getElem
  · simp [Builtin.zeroCells, Value.cells]
  · intro n h1 h2
    simp [Builtin.zeroCells, Value.cells, encX, Nat.mod_one]

theorem wpList_appZ {w0 w : World} {ops : Array Oper} {rest : List Oper} {o : Oper} {a : Act} {Q : Exit → Act → World → Prop} (hgd : o.guard = none) (s x : Operand) (ho : o.op = .call { callee := .builtin .append, args := #[s, x], argTypes := #[55, 3] })
    {v : Value} {bs : List Int} {m : Nat} (hv : a.eval s = v) (hx : a.eval x = .int .i64 m) (hown : OB w0.heap.size w v bs) (h0 : Moves (fun _ => False) w0 w) (hm : 0 < m) (hpos : 0 < bs.length) (hlen : bs.length + m ≤ 1000000)
    (h : ∀ v' w', App w0 w w' v' (bs ++ List.replicate m 0) → wpList Try.prog ops Q rest (a.put o.dst v') w') : wpList Try.prog ops Q (o :: rest) a w := by
  obtain ⟨i5, hi5, hp0, hp1, hp2⟩ := info_parts infoX
  have hzl := zeros_list m
  have hL : ((bs ++ List.replicate m 0).map encX).length = bs.length + m := by simp
  refine wpList_plain hgd fun K hK => ?_
  have key : ∃ v' w', (Builtin.append_ #[55, 3] o.type #[v, .int .i64 m]).run Try.prog w = .ok v' w' ∧ w'.ownsRow w0.heap.size 5 1 v' (bs.length + m) ((bs ++ List.replicate m 0).map encX) ∧ w.grownBy w' v.ownBlock := by
    have hown' := hown
    rcases hown'.2 with ⟨-, hn⟩ | ⟨g, cap, cur, rfl, hbg, hg, hnc, hcm, hcs, htake⟩
    · omega
    · by_cases hroom : bs.length + m ≤ cap
      · have hr := run_append_room_zeros (P := Try.prog) w 55 3 o.type 5 i5 _ .i64 .i64 Try.underlying55 Try.underlying3 hi5 hp0 g bs.length cap cur hg m hm (by rw [hp1]; decide) (by rw [hp1]; rfl) (by rw [hzl]; intro u hu; obtain ⟨y, -, rfl⟩ := List.mem_map.1 hu; rfl) hroom (by rw [hp1, hcs]; omega) (by omega) (by rw [hp2]; omega)
        refine ⟨_, _, hr, ⟨by rw [hL, Nat.mul_one], .inr ⟨g, cap, _, rfl, hbg, setRow_heap w g cur _ _ _ hg, hroom, hcm, ?_, ?_⟩⟩, ⟨rfl, rfl, rfl, by simp, fun k _ hk => setRow_other w g k _ (fun e => hk (by simp [Value.ownBlock, e]))⟩⟩
        · rw [hzl, hp1]
          simp only [List.size_toArray, List.length_append, List.length_take, List.length_drop, Array.length_toList, List.length_map, List.length_replicate]
          omega
        · rw [hzl, hp1, htake, ← List.map_append, Nat.mul_one, ← hL]
          exact List.take_left
      · have holds : ∀ j u, (bs.map encX)[j]? = some u → w.cell? ((⟨g, 0, none⟩ : Addr).add j) = some u := hown.cells (g := g) rfl
        have hf := run_firstCells_some (P := Try.prog) w.drew 1 bs.length ⟨g, 0, none⟩ bs.length cap (bs.map encX) (by rw [List.length_map, Nat.mul_one]) holds
        have hge := grownCap_ge w (bs.length + m) cap 5
        have hcm' : grownCap w (bs.length + m) cap 5 ≤ maxLen := grownCap_le_maxLen w (bs.length + m) cap 5 (by unfold maxLen; omega)
        have hr := Lib.run_append_grow_zeros (P := Try.prog) w 55 3 o.type 5 i5 _ .i64 .i64 Try.underlying55 Try.underlying3 hi5 hp0 (some ⟨g, 0, none⟩) bs.length cap (bs.map encX) (by rw [hp1]; exact hf) m hm (by rw [hp1]; decide) (by omega) (by omega) (by rw [hp2]; omega) (growslice_fits (by omega) (by rw [hp2]; omega))
        refine ⟨_, _, hr, ⟨by rw [hL, Nat.mul_one], .inr ⟨w.heap.size, _, _, rfl, h0.size, heap_alloc_new w.drew _, hge, hcm', ?_, ?_⟩⟩, ⟨rfl, rfl, rfl, by simp, fun k hk _ => heap_alloc_old w.drew _ hk⟩⟩
        · simp only [Array.size_append, List.size_toArray, size_zeroCells, List.length_map, Value.cells]
          simp
          omega
        · simp only [Array.toList_append, List.append_assoc, hzl]
          rw [← List.append_assoc, ← List.map_append, Nat.mul_one, ← hL]
          exact List.take_left
  obtain ⟨v', w', hr, hown', hgrow⟩ := key
  unfold Oper.wp execOp
  simp only [ho, resolve, invoke, builtin, Sem.run_bind, Sem.run_pure, Result.andThen_ok, List.map_toArray, List.map_cons, List.map_nil, hv, hx, hr]
  refine hK _ _ (h v' w' ⟨?_, h0.grown hgrow (fun k e hk => absurd (hown.lt k e).1 (by omega)), Stay.grown hown hgrow, hgrow.size⟩)
  unfold OB
  rw [List.length_append, List.length_replicate]
  exact hown'
end Go.Proofs.Ytnagpianaghjeaa.Sl
namespace Go.Proofs.Ytnagpianaghjeaa.Sl
open Go Go.RowKit Go.Proofs
open Pl (DS IsDisk)
set_option maxRecDepth 100000 in
set_option maxHeartbeats 4000000 in
theorem both_few {w : World} {base d : Nat} {S : DS} (h : IsDisk w base d S) (ho : S.off = false) (hk : S.kept.length < 2) : Calls Try.prog 16 #[.pointer (some ⟨d, 0, none⟩)] w (fun e w' => e = .returned (.tuple #[.agg #[.int .u64 0, .int .i64 0, .int .i64 0, .int .i64 0, .int .i64 0, .int .i64 0, .int .u64 0, .int .u64 0, .int .i64 0, .int .i64 0, .int .i64 0, .int .i64 0, .int .i64 0, .int .u64 0], .agg #[.bool false, .bool false], .int .i64 1]) ∧ Moves (fun _ => False) w w') := by
  have HSH := Lib.hid (fun W (hW : Moves (fun _ => False) w W) => Pl.shape_any (h.moves0 hW))
  have HOF := Lib.hid (fun W (hW : Moves (fun _ => False) w W) => Pl.off_any (h.moves0 hW))
  rw [ho] at HOF
  have hkl : (S.kept.length : Int) < 2 := by omega
  have HO := Lib.hid (zero14 w)
  clear h ho hk
  generalize S.kept.length = k at HSH hkl
  generalize hzz : S.size = z at HSH
  clear hzz
  go_enter Try.func16, Try.ntmps16
  go_wp2_with fail
  generalize (((w.alloc (.cells #[.int .u64 0, .int .i64 0, .int .i64 0, .int .i64 0, .int .i64 0, .int .i64 0, .int .u64 0, .int .u64 0, .int .i64 0, .int .i64 0, .int .i64 0, .int .i64 0, .int .i64 0, .int .u64 0] 35)).alloc (.cells #[.bool false, .bool false] 36)).alloc (.cells #[.int .u64 0, .int .i64 0, .int .i64 0, .int .i64 0, .int .i64 0, .int .i64 0, .int .u64 0, .int .u64 0, .int .i64 0, .int .i64 0, .int .i64 0, .int .i64 0, .int .i64 0, .int .u64 0] 35)).alloc (.cells #[.bool false, .bool false] 36) = W0 at HO ⊢
  obtain ⟨gb, hgb⟩ : ∃ gb, gb = w.heap.size := ⟨_, rfl⟩
  rw [← hgb] at HO ⊢
  have HGB := Lib.hid hgb
  clear hgb
  refine (HSH.out W0 HO.out.1).mono ?_
  rintro e wr ⟨rfl, hm1⟩
  have HO1 := Lib.hid (HO.out.moves hm1)
  clear hm1 HO
  go_wp2_with fail
  refine (HOF.out wr HO1.out.1).mono ?_
  rintro e w2 ⟨rfl, rfl⟩
  obtain ⟨-, hb0, hb1, hb2, hb3⟩ := HO1.out
  have hb2 : wr.heap[gb + 2]? = some (.cells #[.int .u64 0, .int .i64 0, .int .i64 0, .int .i64 0, .int .i64 0, .int .i64 0, .int .u64 0, .int .u64 0, .int .i64 0, .int .i64 0, .int .i64 0, .int .i64 0, .int .i64 0, .int .u64 0] 35 (0, 0)) := hb2
  have hb3 : wr.heap[gb + 3]? = some (.cells #[.bool false, .bool false] 36 (0, 0)) := hb3
  obtain ⟨s0, -⟩ := zero14_at hb2 0 _ rfl
  obtain ⟨v0, x0⟩ := zero14_at hb0 0 _ rfl
  obtain ⟨s1, -⟩ := zero14_at hb2 1 _ rfl
  obtain ⟨v1, x1⟩ := zero14_at hb0 1 _ rfl
  obtain ⟨s2, -⟩ := zero14_at hb2 2 _ rfl
  obtain ⟨v2, x2⟩ := zero14_at hb0 2 _ rfl
  obtain ⟨s3, -⟩ := zero14_at hb2 3 _ rfl
  obtain ⟨v3, x3⟩ := zero14_at hb0 3 _ rfl
  obtain ⟨s4, -⟩ := zero14_at hb2 4 _ rfl
  obtain ⟨v4, x4⟩ := zero14_at hb0 4 _ rfl
  obtain ⟨s5, -⟩ := zero14_at hb2 5 _ rfl
  obtain ⟨v5, x5⟩ := zero14_at hb0 5 _ rfl
  obtain ⟨s6, -⟩ := zero14_at hb2 6 _ rfl
  obtain ⟨v6, x6⟩ := zero14_at hb0 6 _ rfl
  obtain ⟨s7, -⟩ := zero14_at hb2 7 _ rfl
  obtain ⟨v7, x7⟩ := zero14_at hb0 7 _ rfl
  obtain ⟨s8, -⟩ := zero14_at hb2 8 _ rfl
  obtain ⟨v8, x8⟩ := zero14_at hb0 8 _ rfl
  obtain ⟨s9, -⟩ := zero14_at hb2 9 _ rfl
  obtain ⟨v9, x9⟩ := zero14_at hb0 9 _ rfl
  obtain ⟨s10, -⟩ := zero14_at hb2 10 _ rfl
  obtain ⟨v10, x10⟩ := zero14_at hb0 10 _ rfl
  obtain ⟨s11, -⟩ := zero14_at hb2 11 _ rfl
  obtain ⟨v11, x11⟩ := zero14_at hb0 11 _ rfl
  obtain ⟨s12, -⟩ := zero14_at hb2 12 _ rfl
  obtain ⟨v12, x12⟩ := zero14_at hb0 12 _ rfl
  obtain ⟨s13, -⟩ := zero14_at hb2 13 _ rfl
  obtain ⟨v13, x13⟩ := zero14_at hb0 13 _ rfl
  have t0 : wr.cell? ⟨gb + 3, 0, none⟩ = some (.bool false) := by simp [World.cell?, hb3]
  have y0 : wr.cell? ⟨gb + 1, 0, none⟩ = some (.bool false) := by simp [World.cell?, hb1]
  have k0 : wr.frozen? ⟨gb + 1, 0, none⟩ = false := by simp [World.frozen?, hb1]
  have t1 : wr.cell? ⟨gb + 3, 1, none⟩ = some (.bool false) := by simp [World.cell?, hb3]
  have y1 : wr.cell? ⟨gb + 1, 1, none⟩ = some (.bool false) := by simp [World.cell?, hb1]
  have k1 : wr.frozen? ⟨gb + 1, 1, none⟩ = false := by simp [World.frozen?, hb1]
  clear hb0 hb1 hb2 hb3
  go_wp2_with fail
  go_region
  go_wp2
  have e14 := set14b (a0 := .int .u64 0) (a1 := .int .i64 0) (a2 := .int .i64 0) (a3 := .int .i64 0) (a4 := .int .i64 0) (a5 := .int .i64 0) (a6 := .int .u64 0) (set14a (a0 := .int .u64 0) (a1 := .int .i64 0) (a2 := .int .i64 0) (a3 := .int .i64 0) (a4 := .int .i64 0) (a5 := .int .i64 0) (a6 := .int .u64 0) HO1.out.2.1)
  have m14 : Moves (fun k => k = gb) wr ((((((((((((((wr.setCell ⟨gb, 0, none⟩ (.int .u64 0)).setCell ⟨gb, 1, none⟩ (.int .i64 0)).setCell ⟨gb, 2, none⟩ (.int .i64 0)).setCell ⟨gb, 3, none⟩ (.int .i64 0)).setCell ⟨gb, 4, none⟩ (.int .i64 0)).setCell ⟨gb, 5, none⟩ (.int .i64 0)).setCell ⟨gb, 6, none⟩ (.int .u64 0)).setCell ⟨gb, 7, none⟩ (.int .u64 0)).setCell ⟨gb, 8, none⟩ (.int .i64 0)).setCell ⟨gb, 9, none⟩ (.int .i64 0)).setCell ⟨gb, 10, none⟩ (.int .i64 0)).setCell ⟨gb, 11, none⟩ (.int .i64 0)).setCell ⟨gb, 12, none⟩ (.int .i64 0)).setCell ⟨gb, 13, none⟩ (.int .u64 0)) := Moves.setCell (p := ⟨gb, 13, none⟩) (Moves.setCell (p := ⟨gb, 12, none⟩) (Moves.setCell (p := ⟨gb, 11, none⟩) (Moves.setCell (p := ⟨gb, 10, none⟩) (Moves.setCell (p := ⟨gb, 9, none⟩) (Moves.setCell (p := ⟨gb, 8, none⟩) (Moves.setCell (p := ⟨gb, 7, none⟩) (Moves.setCell (p := ⟨gb, 6, none⟩) (Moves.setCell (p := ⟨gb, 5, none⟩) (Moves.setCell (p := ⟨gb, 4, none⟩) (Moves.setCell (p := ⟨gb, 3, none⟩) (Moves.setCell (p := ⟨gb, 2, none⟩) (Moves.setCell (p := ⟨gb, 1, none⟩) (Moves.setCell (p := ⟨gb, 0, none⟩) (Moves.refl (fun k => k = gb) wr) (fun _ => rfl) (.int .u64 0)) (fun _ => rfl) (.int .i64 0)) (fun _ => rfl) (.int .i64 0)) (fun _ => rfl) (.int .i64 0)) (fun _ => rfl) (.int .i64 0)) (fun _ => rfl) (.int .i64 0)) (fun _ => rfl) (.int .u64 0)) (fun _ => rfl) (.int .u64 0)) (fun _ => rfl) (.int .i64 0)) (fun _ => rfl) (.int .i64 0)) (fun _ => rfl) (.int .i64 0)) (fun _ => rfl) (.int .i64 0)) (fun _ => rfl) (.int .i64 0)) (fun _ => rfl) (.int .u64 0)
  have g1 := (m14.block _ (lt_of_block HO1.out.2.2.1) (fun (e : gb + 1 = gb) => by omega)).trans HO1.out.2.2.1
  generalize ((((((((((((((wr.setCell ⟨gb, 0, none⟩ (.int .u64 0)).setCell ⟨gb, 1, none⟩ (.int .i64 0)).setCell ⟨gb, 2, none⟩ (.int .i64 0)).setCell ⟨gb, 3, none⟩ (.int .i64 0)).setCell ⟨gb, 4, none⟩ (.int .i64 0)).setCell ⟨gb, 5, none⟩ (.int .i64 0)).setCell ⟨gb, 6, none⟩ (.int .u64 0)).setCell ⟨gb, 7, none⟩ (.int .u64 0)).setCell ⟨gb, 8, none⟩ (.int .i64 0)).setCell ⟨gb, 9, none⟩ (.int .i64 0)).setCell ⟨gb, 10, none⟩ (.int .i64 0)).setCell ⟨gb, 11, none⟩ (.int .i64 0)).setCell ⟨gb, 12, none⟩ (.int .i64 0)).setCell ⟨gb, 13, none⟩ (.int .u64 0)) = X at e14 m14 g1 ⊢
  have e2 : ((X.setCell ⟨gb + 1, 0, none⟩ (.bool false)).setCell ⟨gb + 1, 1, none⟩ (.bool false)).heap[gb + 1]? = some (.cells #[.bool false, .bool false] 36 (0, 0)) := by simp [World.setCell, Array.getElem?_modify, g1]
  have m2 : Moves (fun k => k = gb + 1) X ((X.setCell ⟨gb + 1, 0, none⟩ (.bool false)).setCell ⟨gb + 1, 1, none⟩ (.bool false)) := Moves.setCell (p := ⟨gb + 1, 1, none⟩) (Moves.setCell (p := ⟨gb + 1, 0, none⟩) (Moves.refl (fun k => k = gb + 1) X) (fun _ => rfl) _) (fun _ => rfl) _
  have e14' := (m2.block _ (lt_of_block e14) (fun (e : gb = gb + 1) => by omega)).trans e14
  have hm : Moves (fun _ => False) w ((X.setCell ⟨gb + 1, 0, none⟩ (.bool false)).setCell ⟨gb + 1, 1, none⟩ (.bool false)) := (HO1.out.1.andThen m14 (fun k e hk => by have := HGB.out; omega)).andThen m2 (fun k e hk => by have := HGB.out; omega)
  generalize (X.setCell ⟨gb + 1, 0, none⟩ (.bool false)).setCell ⟨gb + 1, 1, none⟩ (.bool false) = Y at e2 e14' hm ⊢
  have n0 := (zero14_at e14' 0 _ rfl).1
  have n1 := (zero14_at e14' 1 _ rfl).1
  have n2 := (zero14_at e14' 2 _ rfl).1
  have n3 := (zero14_at e14' 3 _ rfl).1
  have n4 := (zero14_at e14' 4 _ rfl).1
  have n5 := (zero14_at e14' 5 _ rfl).1
  have n6 := (zero14_at e14' 6 _ rfl).1
  have n7 := (zero14_at e14' 7 _ rfl).1
  have n8 := (zero14_at e14' 8 _ rfl).1
  have n9 := (zero14_at e14' 9 _ rfl).1
  have n10 := (zero14_at e14' 10 _ rfl).1
  have n11 := (zero14_at e14' 11 _ rfl).1
  have n12 := (zero14_at e14' 12 _ rfl).1
  have n13 := (zero14_at e14' 13 _ rfl).1
  have o0 : Y.cell? ⟨gb + 1, 0, none⟩ = some (.bool false) := by simp [World.cell?, e2]
  have o1 : Y.cell? ⟨gb + 1, 1, none⟩ = some (.bool false) := by simp [World.cell?, e2]
  exact bodyPost_ret (v := .tuple #[.agg #[.int .u64 0, .int .i64 0, .int .i64 0, .int .i64 0, .int .i64 0, .int .i64 0, .int .u64 0, .int .u64 0, .int .i64 0, .int .i64 0, .int .i64 0, .int .i64 0, .int .i64 0, .int .u64 0], .agg #[.bool false, .bool false], .int .i64 1]) (by simp [results, Try.results16, go_sem, n0, n1, n2, n3, n4, n5, n6, n7, n8, n9, n10, n11, n12, n13, o0, o1]) rfl ⟨rfl, hm.drew⟩
set_option maxRecDepth 100000 in
set_option maxHeartbeats 4000000 in
theorem read_few {w : World} {base d : Nat} {S : DS} (h : IsDisk w base d S) (ho : S.off = false) (hk : S.kept.length < 2) : Calls Try.prog 15 #[.pointer (some ⟨d, 0, none⟩)] w (fun e w' => e = .returned (.tuple #[blkV zeroB, .int .i64 1]) ∧ Moves (fun _ => False) w w') := by
  have HB := Lib.hid (fun W (hW : Moves (fun _ => False) w W) => both_few (h.moves0 hW) ho hk)
  have M0 := Lib.hid ((Moves.refl (fun _ => False) w).alloc (.cells #[.int .u64 0, .int .i64 0, .int .i64 0, .int .i64 0, .int .i64 0, .int .i64 0, .int .u64 0] 32))
  have hb0 := heap_alloc_new w (.cells #[.int .u64 0, .int .i64 0, .int .i64 0, .int .i64 0, .int .i64 0, .int .i64 0, .int .u64 0] 32)
  clear h ho hk
  go_enter Try.func15, Try.ntmps15
  go_wp2_with fail
  generalize w.alloc (.cells #[.int .u64 0, .int .i64 0, .int .i64 0, .int .i64 0, .int .i64 0, .int .i64 0, .int .u64 0] 32) = W0 at M0 hb0 ⊢
  obtain ⟨gb, hgb⟩ : ∃ gb, gb = w.heap.size := ⟨_, rfl⟩
  rw [← hgb] at hb0 ⊢
  have HGB := Lib.hid hgb
  clear hgb
  refine (HB.out W0 M0.out).mono ?_
  rintro e w1 ⟨rfl, hm1⟩
  have hb1 := (hm1.block _ (lt_of_block hb0) (fun e => e)).trans hb0
  have M1 := Lib.hid (((M0.out.trans hm1).alloc (.cells #[.int .u64 0, .int .i64 0, .int .i64 0, .int .i64 0, .int .i64 0, .int .i64 0, .int .u64 0, .int .u64 0, .int .i64 0, .int .i64 0, .int .i64 0, .int .i64 0, .int .i64 0, .int .u64 0] 35)).alloc (.cells #[.bool false, .bool false] 36))
  have hb2 : ((w1.alloc (.cells #[.int .u64 0, .int .i64 0, .int .i64 0, .int .i64 0, .int .i64 0, .int .i64 0, .int .u64 0, .int .u64 0, .int .i64 0, .int .i64 0, .int .i64 0, .int .i64 0, .int .i64 0, .int .u64 0] 35)).alloc (.cells #[.bool false, .bool false] 36)).heap[gb]? = some (.cells #[.int .u64 0, .int .i64 0, .int .i64 0, .int .i64 0, .int .i64 0, .int .i64 0, .int .u64 0] 32 (0, 0)) := (Below.heap_alloc _ _ _ (by have := lt_of_block hb1; simp; omega)).trans ((Below.heap_alloc _ _ _ (lt_of_block hb1)).trans hb1)
  have HB2 := Lib.hid hb2
  clear hm1 hb0 hb1 hb2
  go_upto_region 2 with (fail)
  generalize (w1.alloc (.cells #[.int .u64 0, .int .i64 0, .int .i64 0, .int .i64 0, .int .i64 0, .int .i64 0, .int .u64 0, .int .u64 0, .int .i64 0, .int .i64 0, .int .i64 0, .int .i64 0, .int .i64 0, .int .u64 0] 35)).alloc (.cells #[.bool false, .bool false] 36) = W1 at M1 HB2 ⊢
  generalize w1.heap.size = gl at ⊢
  obtain ⟨y0, y1, y2, y3, y4, y5, y6⟩ := cells7 HB2.out
  have f0 : W1.frozen? ⟨gb, 0, none⟩ = false := by { have q := HB2.out; simp [World.frozen?, q] }
  have f1 : W1.frozen? ⟨gb, 1, none⟩ = false := by { have q := HB2.out; simp [World.frozen?, q] }
  have f2 : W1.frozen? ⟨gb, 2, none⟩ = false := by { have q := HB2.out; simp [World.frozen?, q] }
  have f3 : W1.frozen? ⟨gb, 3, none⟩ = false := by { have q := HB2.out; simp [World.frozen?, q] }
  have f4 : W1.frozen? ⟨gb, 4, none⟩ = false := by { have q := HB2.out; simp [World.frozen?, q] }
  have f5 : W1.frozen? ⟨gb, 5, none⟩ = false := by { have q := HB2.out; simp [World.frozen?, q] }
  have f6 : W1.frozen? ⟨gb, 6, none⟩ = false := by { have q := HB2.out; simp [World.frozen?, q] }
  have zb : gb < W1.heap.size := lt_of_block HB2.out
  go_wp2_with fail
  go_wp2
  have e7 := cells7 (set7 (a0 := .int .u64 0) (a1 := .int .i64 0) (a2 := .int .i64 0) (a3 := .int .i64 0) (a4 := .int .i64 0) (a5 := .int .i64 0) (a6 := .int .u64 0) HB2.out)
  have m7 : Moves (fun k => k = gb) W1 (((((((W1.setCell ⟨gb, 0, none⟩ (.int .u64 0)).setCell ⟨gb, 1, none⟩ (.int .i64 0)).setCell ⟨gb, 2, none⟩ (.int .i64 0)).setCell ⟨gb, 3, none⟩ (.int .i64 0)).setCell ⟨gb, 4, none⟩ (.int .i64 0)).setCell ⟨gb, 5, none⟩ (.int .i64 0)).setCell ⟨gb, 6, none⟩ (.int .u64 0)) := Moves.setCell (p := ⟨gb, 6, none⟩) (Moves.setCell (p := ⟨gb, 5, none⟩) (Moves.setCell (p := ⟨gb, 4, none⟩) (Moves.setCell (p := ⟨gb, 3, none⟩) (Moves.setCell (p := ⟨gb, 2, none⟩) (Moves.setCell (p := ⟨gb, 1, none⟩) (Moves.setCell (p := ⟨gb, 0, none⟩) (Moves.refl (fun k => k = gb) W1) (fun _ => rfl) (.int .u64 0)) (fun _ => rfl) (.int .i64 0)) (fun _ => rfl) (.int .i64 0)) (fun _ => rfl) (.int .i64 0)) (fun _ => rfl) (.int .i64 0)) (fun _ => rfl) (.int .i64 0)) (fun _ => rfl) (.int .u64 0)
  have hm : Moves (fun _ => False) w (((((((W1.setCell ⟨gb, 0, none⟩ (.int .u64 0)).setCell ⟨gb, 1, none⟩ (.int .i64 0)).setCell ⟨gb, 2, none⟩ (.int .i64 0)).setCell ⟨gb, 3, none⟩ (.int .i64 0)).setCell ⟨gb, 4, none⟩ (.int .i64 0)).setCell ⟨gb, 5, none⟩ (.int .i64 0)).setCell ⟨gb, 6, none⟩ (.int .u64 0)) := M1.out.andThen m7 (fun k e hk => by have := HGB.out; omega)
  clear m7 y0 y1 y2 y3 y4 y5 y6 f0 f1 f2 f3 f4 f5 f6
  generalize (((((((W1.setCell ⟨gb, 0, none⟩ (.int .u64 0)).setCell ⟨gb, 1, none⟩ (.int .i64 0)).setCell ⟨gb, 2, none⟩ (.int .i64 0)).setCell ⟨gb, 3, none⟩ (.int .i64 0)).setCell ⟨gb, 4, none⟩ (.int .i64 0)).setCell ⟨gb, 5, none⟩ (.int .i64 0)).setCell ⟨gb, 6, none⟩ (.int .u64 0)) = Y at e7 hm ⊢
  obtain ⟨e0, e1, e2, e3, e4, e5, e6⟩ := e7
  exact bodyPost_ret (v := .tuple #[blkV zeroB, .int .i64 1]) (by simp [results, Try.results15, go_sem, e0, e1, e2, e3, e4, e5, e6, zeroB]) rfl ⟨rfl, hm⟩
end Go.Proofs.Ytnagpianaghjeaa.Sl
namespace Go.Proofs.Ytnagpianaghjeaa.Sl
open Go Go.RowKit Go.Proofs
open Pl (DS IsDisk ch ofS rdN)

def allB (a b : List Int) (N : Nat) : List Int := (a ++ b ++ List.replicate N 0).take N
def dkB (a b : List Int) (y k N : Nat) : DS := ofS y ((List.finRange k).map fun x => ch (allB a b N) y x.val)
theorem dkB_len (a b : List Int) (y k N : Nat) : (dkB a b y k N).kept.length = k := by simp [dkB, ofS]
theorem dkB_get {a b : List Int} {y k N i : Nat} (h : i < k) : rdN (dkB a b y k N) i (dkB a b y k N).secs.length = ch (allB a b N) y i := by
  show (dkB a b y k N).kept.getD (i : Int).toNat [] = _
  show ((List.finRange k).map fun x => ch (allB a b N) y x.val).getD (i : Int).toNat [] = _
  rw [Int.toNat_natCast, List.getD_eq_getElem?_getD, List.getElem?_map, List.getElem?_eq_getElem (by simpa using h)]
  simp
theorem dkB_two {a b : List Int} {y k N : Nat} (ha : a.length = y) (hb : b.length = y) (hN : y * k = N) (hk : 2 ≤ k) : rdN (dkB a b y k N) 0 (dkB a b y k N).secs.length = a ∧ rdN (dkB a b y k N) 1 (dkB a b y k N).secs.length = b := by
  have h2 : y * 2 ≤ y * k := Nat.mul_le_mul_left y hk
  have e0 := dkB_get (a := a) (b := b) (y := y) (N := N) (show 0 < k by omega)
  have e1 := dkB_get (a := a) (b := b) (y := y) (N := N) (show 1 < k by omega)
  refine ⟨e0.trans ?_, e1.trans ?_⟩
  · unfold ch allB
    rw [Nat.zero_mul, List.drop_zero, List.take_take, Nat.min_eq_left (by omega), List.append_assoc]
    exact List.take_left' ha
  · unfold ch allB
    rw [Nat.one_mul, List.drop_take, List.take_take, Nat.min_eq_left (by omega), List.append_assoc, List.drop_left' ha]
    exact List.take_left' hb
theorem all_form {w0 w w' : World} {v : Value} {a b : List Int} {N y : Nat} (h : App w0 w w' v (a ++ b ++ List.replicate N 0)) (ha : a.length = y) (hb : b.length = y) (hy : 0 < y) :
    ∃ g c, v = .slice (some ⟨g, 0, none⟩) (y + y + N) c ∧ y + y + N ≤ c ∧ g < w'.heap.size ∧ ∀ j u, ((allB a b N).map Pl.encB)[j]? = some u → w'.cell? ⟨g, 0 + j, none⟩ = some u := by
  obtain ⟨A, c, rfl, hc, -, -, -, hx⟩ := own_form h.ob
  have hl : (a ++ b ++ List.replicate N 0).length = y + y + N := by simp [ha, hb]; omega
  rw [hl] at hc hx
  obtain ⟨g, rfl, -, hg, hcell⟩ := hx (by omega)
  refine ⟨g, c, by rw [hl], hc, hg, fun j u hu => ?_⟩
  rw [Nat.zero_add]
  refine hcell j u ?_
  unfold allB at hu
  rw [List.map_take] at hu
  have hj := (List.getElem?_eq_some_iff.1 hu).1
  rw [List.length_take] at hj
  rw [List.getElem?_take_of_lt (by omega)] at hu
  exact hu
theorem allB_len {a b : List Int} {N : Nat} : (allB a b N).length = N := by
  unfold allB
  rw [List.length_take, List.length_append, List.length_replicate]
  omega
end Go.Proofs.Ytnagpianaghjeaa.Sl
namespace Go.Proofs.Ytnagpianaghjeaa.Sl
open Go Go.RowKit Go.Proofs
open Pl (DS IsDisk)
set_option maxRecDepth 100000 in
set_option maxHeartbeats 4000000 in
theorem bytes_skip {w : World} {A B : Option Addr} {la lb ca cb : Nat} {z n : Int} (h : z < 64 ∨ 256 < z ∨ n < 1 ∨ 300 < n ∨ (la : Int) ≠ z ∨ (lb : Int) ≠ z) : Calls Try.prog 6 #[.slice A la ca, .slice B lb cb, .int .i64 z, .int .i64 n] w (TrueP w) := by
  have HKN := Lib.hid (fun W => known_any W)
  by_cases g1 : z < 64
  · clear h
    go_enter Try.func6, Try.ntmps6
    go_wp2_with fail
    refine (HKN.out _).mono ?_
    rintro e w0 ⟨rfl, hm0⟩
    go_wp2
    go_ret
    exact ⟨rfl, hm0⟩
  by_cases g2 : 256 < z
  · clear h
    go_enter Try.func6, Try.ntmps6
    go_wp2_with fail
    refine (HKN.out _).mono ?_
    rintro e w0 ⟨rfl, hm0⟩
    go_wp2
    go_ret
    exact ⟨rfl, hm0⟩
  by_cases g3 : n < 1
  · clear h
    go_enter Try.func6, Try.ntmps6
    go_wp2_with fail
    refine (HKN.out _).mono ?_
    rintro e w0 ⟨rfl, hm0⟩
    go_wp2
    go_ret
    exact ⟨rfl, hm0⟩
  by_cases g4 : 300 < n
  · clear h
    go_enter Try.func6, Try.ntmps6
    go_wp2_with fail
    refine (HKN.out _).mono ?_
    rintro e w0 ⟨rfl, hm0⟩
    go_wp2
    go_ret
    exact ⟨rfl, hm0⟩
  by_cases h5 : (la : Int) = z
  · have h6 : (lb : Int) ≠ z := by omega
    have q5 : ((la : Int) != z) = false := by simpa using h5
    have q6 : ((lb : Int) != z) = true := by simpa using h6
    clear h h5 h6
    go_enter Try.func6, Try.ntmps6
    go_wp2_with fail
    refine (HKN.out _).mono ?_
    rintro e w0 ⟨rfl, hm0⟩
    go_wp2
    go_ret
    exact ⟨rfl, hm0⟩
  · have q5 : ((la : Int) != z) = true := by simpa using h5
    clear h h5
    go_enter Try.func6, Try.ntmps6
    go_wp2_with fail
    refine (HKN.out _).mono ?_
    rintro e w0 ⟨rfl, hm0⟩
    go_wp2
    go_ret
    exact ⟨rfl, hm0⟩
set_option maxRecDepth 100000 in
set_option maxHeartbeats 4000000 in
theorem bytes_one {w : World} {L L' : Nat → Prop} {v u : Value} {a b : List Int} {y k N : Nat} (ha : BRow w L v a) (hb : BRow w L' u b) (hal : a.length = y) (hbl : b.length = y) (hy : 64 ≤ y ∧ y ≤ 256) (hk : 1 ≤ k ∧ k ≤ 300) (hN : y * k = N) (h2 : k < 2) : Calls Try.prog 6 #[v, u, .int .i64 y, .int .i64 k] w (TrueP w) := by
  have HKN := Lib.hid (fun W => known_any W)
  obtain ⟨rA, bA, lA⟩ := ha
  obtain ⟨rB, bB, lB⟩ := hb
  have HA : Hid (BRow w L v a) := Lib.hid ⟨rA, bA, lA⟩
  have HB : Hid (BRow w L' u b) := Lib.hid ⟨rB, bB, lB⟩
  obtain ⟨A, ca, rfl, -, -⟩ := rA
  obtain ⟨B, cb, rfl, -, -⟩ := rB
  rw [List.length_map] at HA HB ⊢
  rw [List.length_map, hal, hbl]
  rw [hal] at HA
  rw [hbl] at HB
  have HAL := Lib.hid hal
  have HBL := Lib.hid hbl
  have HN := Lib.hid hN
  have hw : IntKind.i64.wrap ((y : Int) * (k : Int)) = (N : Int) := by rw [← hN, Int.natCast_mul]; exact IntWalk.i64_in _ (by have : y * k ≤ 256 * 300 := Nat.mul_le_mul hy.2 hk.2; have e : ((y * k : Nat) : Int) = (y : Int) * k := Int.natCast_mul _ _; omega)
  have hNy : y ≤ N := by have : y * 1 ≤ y * k := Nat.mul_le_mul_left y hk.1; omega
  have hNb : N ≤ 76800 := by have : y * k ≤ 256 * 300 := Nat.mul_le_mul hy.2 hk.2; omega
  have q1 : ¬ (y : Int) < 64 := by omega
  have q2 : ¬ 256 < (y : Int) := by omega
  have q3 : ¬ (k : Int) < 1 := by omega
  have q4 : ¬ 300 < (k : Int) := by omega
  have q5 : ((y : Int) != (y : Int)) = false := by simp
  have HHY := Lib.hid hy
  have HHK := Lib.hid hk
  clear hN hal hbl bA bB lA lB
  go_enter Try.func6, Try.ntmps6
  go_wp2_with fail
  refine (HKN.out _).mono ?_
  rintro e w0 ⟨rfl, hm0⟩
  have HM0 := Lib.hid hm0
  have HA0 := Lib.hid (HA.out.moves hm0 (fun _ _ _ e => e))
  have HB0 := Lib.hid (HB.out.moves hm0 (fun _ _ _ e => e))
  clear hm0
  go_wp2_with (first
    | (refine wpList_appB (w0 := w0) (bs := []) (ys := a) rfl (.tmp 49) (.tmp 50) rfl (by rfl) (by rfl) (own_of_block (bs := []) rfl (heap_alloc_new w0 _) (Nat.le_refl _) (by decide)) (HA0.out.moves ((Moves.refl (fun _ => False) w0).alloc _) (fun _ _ _ e => e)) ((Moves.refl _ w0).alloc _) ?_ ?_
       focus (show 0 + a.length ≤ _; rw [HAL.out]; omega)
       intro v1 w1 h1
       rw [List.nil_append] at h1
       have H1 := Lib.hid h1
       clear h1)
    | (refine wpList_appB (w0 := w0) (bs := a) (ys := b) rfl (.tmp 51) (.tmp 52) rfl (by rfl) (by rfl) H1.out.ob (HB0.out.moves H1.out.mv (fun _ _ _ e => e)) H1.out.mv ?_ ?_
       focus (rw [HAL.out, HBL.out]; omega)
       intro v2 w2 h2
       have H2 := Lib.hid h2
       clear h2)
    | (refine wpList_appZ (w0 := w0) (bs := a ++ b) (m := N) rfl (.tmp 54) (.tmp 57) rfl (by rfl) (by first | rfl | (show Value.int .i64 _ = _; rw [hw])) H2.out.ob H2.out.mv ?_ ?_ ?_ ?_
       focus omega
       focus (rw [List.length_append, HAL.out]; omega)
       focus (rw [List.length_append, HAL.out, HBL.out]; omega)
       intro v3 w3 h3
       have H3m := Lib.hid h3.mv
       obtain ⟨g, c, rfl, hc, hgl, hgc⟩ := all_form h3 HAL.out HBL.out (by omega)
       have HOF := Lib.hid (Pl.of_ok (w := w3) (g := g) (o := 0) (c := c) (k := k) (z := y) (N := N) (xs := allB a b N) (by rw [← HN.out, Nat.mul_comm]) allB_len HHK.out ⟨HHY.out.1, by omega⟩ (by omega) (by omega) hgl hgc)
       clear h3 hgl hgc)
    | fail)
  refine HOF.out.mono ?_
  rintro e w4 ⟨d, rfl, hd, hm4⟩
  have hd : IsDisk w4 w3.heap.size d (dkB a b y k N) := hd
  have HM4 := Lib.hid ((HM0.out.trans H3m.out).trans hm4)
  have HK2 : Hid (((dkB a b y k N).kept.length) < 2) := Lib.hid (by rw [dkB_len]; exact h2)
  have HBT := Lib.hid (fun W (hW : Moves (fun _ => False) w4 W) => both_few (hd.moves0 hW) rfl HK2.out)
  have HRD := Lib.hid (fun W (hW : Moves (fun _ => False) w4 W) => read_few (hd.moves0 hW) rfl HK2.out)
  have q6 : (k : Int) < 2 := by omega
  clear hd hm4
  go_wp2_with fail
  refine (HBT.out w4 (Moves.refl _ _)).mono ?_
  rintro e w5 ⟨rfl, hm5⟩
  have M5 := Lib.hid ((hm5.alloc (.cells #[.int .u64 0, .int .i64 0, .int .i64 0, .int .i64 0, .int .i64 0, .int .i64 0, .int .u64 0, .int .u64 0, .int .i64 0, .int .i64 0, .int .i64 0, .int .i64 0, .int .i64 0, .int .u64 0] 35)).alloc (.cells #[.bool false, .bool false] 36))
  clear hm5
  go_wp2_with fail
  generalize (w5.alloc (.cells #[.int .u64 0, .int .i64 0, .int .i64 0, .int .i64 0, .int .i64 0, .int .i64 0, .int .u64 0, .int .u64 0, .int .i64 0, .int .i64 0, .int .i64 0, .int .i64 0, .int .i64 0, .int .u64 0] 35)).alloc (.cells #[.bool false, .bool false] 36) = W5 at M5 ⊢
  generalize w5.heap.size = gl at ⊢
  refine (HRD.out W5 M5.out).mono ?_
  rintro e w6 ⟨rfl, hm6⟩
  go_wp2
  go_ret
  exact ⟨rfl, HM4.out.trans ((M5.out.trans hm6).alloc _)⟩
end Go.Proofs.Ytnagpianaghjeaa.Sl
