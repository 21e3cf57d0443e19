/-
  sup.Encode.
-/
import Derived.Test.YtnagpianaghjeaaFields
import Derived.Lib.BufferWrite
namespace Go.Proofs.Ytnagpianaghjeaa.Sl
open Go Go.RowKit Go.Proofs

theorem wpList_copy_text {P : Program} {w : World} {ops : Array Oper} {rest : List Oper} {o : Oper} {a : Act} {Q : Exit → Act → World → Prop} (hgd : o.guard = none) (d s : Operand) (dT sT : TypeId)
    (ho : o.op = .call { callee := .builtin .copy, args := #[d, s], argTypes := #[dT, sT] }) (elem : TypeId) (hu : P.underlying dT = some (.slice elem)) (hsz : (P.info? elem).map (·.size) = some 1)
    (g off dLen dCap : Nat) (b : ByteArray) (hd : a.eval d = .slice (some ⟨g, off, none⟩) dLen dCap) (hs : a.eval s = .string b)
    (cur : Array Value) (t : TypeId) (hg : w.heap[g]? = some (.cells cur t (0, 0))) (hle : b.size ≤ dLen) (hfit : off + b.size ≤ cur.size) (B : Nat) (w0 : World) (hb : Below B w0 w) (hBg : B ≤ g)
    (h : ∀ w', Hid (w'.heap[g]? = some (.cells (cur.toList.take off ++ Lib.byteCells b.data.toList ++ cur.toList.drop (off + b.size)).toArray t (0, 0))) → Below B w0 w' → wpList P ops Q rest (a.put o.dst (goInt b.size)) w') : wpList P ops Q (o :: rest) a w := by
  refine wpList_plain hgd fun K hK => ?_
  have hrun := Lib.run_copy_row_string (P := P) w dT sT o.type elem g off dLen dCap b cur t hu hsz hg hle hfit
  unfold Oper.wp
  simp [execOp, ho, resolve, invoke, builtin, hd, hs, hrun, Result.andThen]
  refine hK _ _ ?_
  have hx : (w.setRow g (cur.toList.take off ++ Lib.byteCells b.data.toList ++ cur.toList.drop (off + b.size)).toArray).heap[g]? = some (.cells (cur.toList.take off ++ Lib.byteCells b.data.toList ++ cur.toList.drop (off + b.size)).toArray t (0, 0)) := setRow_heap w g _ _ t _ hg
  have := h _ (Lib.hid hx) (below_setRow hb hBg _)
  simpa using this
theorem own_of_block {w : World} {base g n : Nat} {bs : List Int} (hn : bs.length = n) (hg : w.heap[g]? = some (.cells (bs.map encX).toArray 5 (0, 0))) (hb : base ≤ g) (hl : n ≤ 1000000) : w.ownsRow base 5 1 (.slice (some ⟨g, 0, none⟩) n n) n (bs.map encX) := by
  refine ⟨by rw [List.length_map, hn, Nat.mul_one], .inr ⟨g, n, (bs.map encX).toArray, rfl, hb, hg, Nat.le_refl _, by unfold maxLen; omega, by rw [List.size_toArray, List.length_map, hn, Nat.mul_one], ?_⟩⟩
  rw [List.take_of_length_le (by rw [List.length_map, hn, Nat.mul_one]; exact Nat.le_refl _)]
def putAll (b : Blk) (i : Nat) : List Int := ((fieldsL b).take i).foldl (fun l f => putL l f.1 f.2.1 f.2.2) (magicL (b.geom.sector - 4).toNat)
theorem putAll_zero (b : Blk) : putAll b 0 = magicL (b.geom.sector - 4).toNat := rfl
theorem putAll_end (b : Blk) : putAll b 8 = headL b := rfl
theorem putAll_step (b : Blk) {i : Nat} {f : Nat × Nat × Int} (h : (fieldsL b)[i]? = some f) : putAll b (i + 1) = putL (putAll b i) f.1 f.2.1 f.2.2 := by
  unfold putAll
  rw [List.take_add_one, h, List.foldl_append]
  rfl
theorem putAll_succ (b : Blk) {i : Nat} (h : i < 8) : ∃ (p n : Nat) (x : Int), 1 ≤ n ∧ n ≤ 8 ∧ p + n ≤ 44 ∧ (fieldCells b)[i * 3]? = some (.int .i64 p) ∧ (fieldCells b)[i * 3 + 1]? = some (.int .i64 n) ∧ (fieldCells b)[i * 3 + 2]? = some (.int .u64 x) ∧ putAll b (i + 1) = putL (putAll b i) p n x := by
  obtain rfl | rfl | rfl | rfl | rfl | rfl | rfl | rfl : i = 0 ∨ i = 1 ∨ i = 2 ∨ i = 3 ∨ i = 4 ∨ i = 5 ∨ i = 6 ∨ i = 7 := by omega
  · exact ⟨4, 4, 1, by decide, by decide, by decide, rfl, rfl, rfl, putAll_step b (i := 0) (f := (4, 4, 1)) rfl⟩
  · exact ⟨8, 8, b.epoch, by decide, by decide, by decide, rfl, rfl, rfl, putAll_step b (i := 1) (f := (8, 8, b.epoch)) rfl⟩
  · exact ⟨16, 4, b.geom.sector, by decide, by decide, by decide, rfl, rfl, rfl, putAll_step b (i := 2) (f := (16, 4, b.geom.sector)) rfl⟩
  · exact ⟨20, 4, b.geom.log, by decide, by decide, by decide, rfl, rfl, rfl, putAll_step b (i := 3) (f := (20, 4, b.geom.log)) rfl⟩
  · exact ⟨24, 4, b.geom.words, by decide, by decide, by decide, rfl, rfl, rfl, putAll_step b (i := 4) (f := (24, 4, b.geom.words)) rfl⟩
  · exact ⟨28, 4, b.space, by decide, by decide, by decide, rfl, rfl, rfl, putAll_step b (i := 5) (f := (28, 4, b.space)) rfl⟩
  · exact ⟨32, 4, b.words, by decide, by decide, by decide, rfl, rfl, rfl, putAll_step b (i := 6) (f := (32, 4, b.words)) rfl⟩
  · exact ⟨36, 8, b.log, by decide, by decide, by decide, rfl, rfl, rfl, putAll_step b (i := 7) (f := (36, 8, b.log)) rfl⟩
theorem magicL_byte (n : Nat) : ∀ x ∈ magicL n, 0 ≤ x ∧ x < 256 := by
  intro x hx
  unfold magicL at hx
  rcases List.mem_append.1 hx with h | h
  · simp at h
    omega
  · rw [(List.mem_replicate.1 h).2]
    exact ⟨by decide, by decide⟩
theorem putAll_len {b : Blk} (h : 64 ≤ b.geom.sector) (i : Nat) : (putAll b i).length = (b.geom.sector - 4).toNat := by
  unfold putAll
  generalize (fieldsL b).take i = l
  have h0 : (magicL (b.geom.sector - 4).toNat).length = (b.geom.sector - 4).toNat := magicL_len (by omega)
  generalize magicL (b.geom.sector - 4).toNat = a at h0 ⊢
  induction l generalizing a with
  | nil => exact h0
  | cons f l ih => exact ih _ (by rw [putL_len]; exact h0)
theorem putAll_byte (b : Blk) (i : Nat) : ∀ x ∈ putAll b i, 0 ≤ x ∧ x < 256 := by
  unfold putAll
  generalize (fieldsL b).take i = l
  have h0 := magicL_byte (b.geom.sector - 4).toNat
  generalize magicL (b.geom.sector - 4).toNat = a at h0 ⊢
  induction l generalizing a with
  | nil => exact h0
  | cons f l ih => exact ih _ (putL_byte h0 _ _ _)
theorem loam_cells (m : Nat) : ((madeCells #[.int .u8 0] m).toList.take 0 ++ Lib.byteCells (ByteArray.mk #[76, 79, 65, 77]).data.toList ++ (madeCells #[.int .u8 0] m).toList.drop (0 + (ByteArray.mk #[76, 79, 65, 77]).size)) = (magicL m).map encX := by
  rw [toList_madeCells_one, List.take_zero, List.nil_append, List.drop_replicate]
  unfold magicL
  rw [List.map_append, List.map_replicate]
  rfl
theorem cells7 {w : World} {g : Nat} {a b c d e f h : Value} {t : TypeId} (hb : w.heap[g]? = some (.cells #[a, b, c, d, e, f, h] t (0, 0))) : w.cell? ⟨g, 0, none⟩ = some a ∧ w.cell? ⟨g, 1, none⟩ = some b ∧ w.cell? ⟨g, 2, none⟩ = some c ∧ w.cell? ⟨g, 3, none⟩ = some d ∧ w.cell? ⟨g, 4, none⟩ = some e ∧ w.cell? ⟨g, 5, none⟩ = some f ∧ w.cell? ⟨g, 6, none⟩ = some h := by
  refine ⟨?_, ?_, ?_, ?_, ?_, ?_, ?_⟩ <;> simp [World.cell?, hb]
def EncPost (w : World) (b : Blk) (e : Ending) (w' : World) : Prop := ∃ v', e = .returned (.tuple #[v', .int .i64 0]) ∧ NewB w v' (encS crcL b) w'
set_option maxRecDepth 100000 in
set_option maxHeartbeats 4000000 in
theorem encode_ok {b : Blk} (h : GoodB b) (w : World) : Calls Try.prog 56 #[blkV b] w (EncPost w b) := by
  have HC := Lib.hid (fun W => check_ok h.1 W)
  have hn := h.1.near
  have HF := Lib.hid (fun W => fields_ok hn ⟨h.2.1, h.2.2.1⟩ ⟨h.2.2.2.1, Int.le_trans h.2.2.2.2 hn.2.2.2⟩ W)
  have HPL := Lib.hid (fun i => putAll_len (b := b) hn.1.1 i)
  have HPB := Lib.hid (putAll_byte b)
  have HP0 := Lib.hid (putAll_zero b)
  have HP8 := Lib.hid (putAll_end b)
  have HPS := Lib.hid (fun i hi => putAll_succ b (i := i) hi)
  obtain ⟨hg, s1, s2, w1, w2⟩ := h
  have hs64 : 64 ≤ b.geom.sector ∧ b.geom.sector ≤ 1024 := hn.1
  generalize hQ : EncPost w b = Q
  have HQ : Hid (∀ v' w', NewB w v' (sealL crcL (putAll b 8)) w' → Q (.returned (.tuple #[v', .int .i64 0])) w') := Lib.hid fun v' w' hb => by
    rw [HP8.out] at hb
    rw [← hQ]
    exact ⟨v', rfl, hb⟩
  clear hQ hn hg
  generalize hPA : putAll b = PA at HPL HPB HP0 HP8 HPS HQ
  generalize hFC : fieldCells b = FC at HPS
  have HF2 : Hid (∀ W, Calls Try.prog 97 #[blkV b] W (fun e w' => ∃ k, e = .returned (.slice (some ⟨k, 0, none⟩) 8 8) ∧ W.heap.size ≤ k ∧ w'.heap[k]? = some (.cells FC.toArray 142 (0, 0)) ∧ Moves (fun _ => False) W w')) := Lib.hid fun W => by
    have := HF.out W
    unfold FieldsPost at this
    rw [hFC] at this
    exact this
  clear HF hPA hFC
  obtain ⟨ep, ⟨s, l, n⟩, sp, wd, lg⟩ := b
  dsimp only at s1 s2 w1 w2 hs64 HC HPL HP0 HF2
  obtain ⟨hs1, hs2⟩ := hs64
  obtain ⟨m, hm⟩ : ∃ m : Nat, m = (s - 4).toNat := ⟨_, rfl⟩
  have hms : s - 4 = (m : Int) := by omega
  rw [← hm] at HPL HP0
  have hm4 : 60 ≤ m ∧ m ≤ 1020 := by omega
  obtain ⟨hm4, hm5⟩ := hm4
  clear hm
  obtain ⟨i5, hi5, hp0, hp1, hp2⟩ := info_parts infoX
  have hmk := fun W => run_make_row (P := Try.prog) 55 5 i5 _ Try.underlying55 hi5 hp0 hp1 rfl .i64 .i64 m (by rw [hp2]; omega) (by omega) W
  rw [← hms] at hmk
  have HMS := Lib.hid hms
  clear hms
  go_enter Try.func56, Try.ntmps56
  go_wp2_with fail
  have hm0 := (Moves.refl (fun _ => False) w).alloc (.cells (blkCells ⟨ep, ⟨s, l, n⟩, sp, wd, lg⟩) 32)
  have hb0 := heap_alloc_new w (.cells (blkCells ⟨ep, ⟨s, l, n⟩, sp, wd, lg⟩) 32)
  have hgb : w.heap.size < (w.alloc (.cells (blkCells ⟨ep, ⟨s, l, n⟩, sp, wd, lg⟩) 32)).heap.size := by simp
  generalize w.alloc (.cells (blkCells ⟨ep, ⟨s, l, n⟩, sp, wd, lg⟩) 32) = W0 at hm0 hb0 hgb ⊢
  obtain ⟨gb, hgbe⟩ : ∃ gb, gb = w.heap.size := ⟨_, rfl⟩
  rw [← hgbe] at hb0 hgb ⊢
  have HGB := Lib.hid hgbe
  have HM0 := Lib.hid hm0
  clear hgbe hm0
  refine (HC.out _).mono ?_
  rintro e w1' ⟨rfl, hm1⟩
  have HB0 : Hid (∀ W, Moves (fun _ => False) W0 W → _) := Lib.hid fun W hW => cells7 ((hW.block gb hgb (fun e => e)).trans hb0)
  obtain ⟨c0, c1, c2, c3, c4, c5, c6⟩ := HB0.out _ hm1
  have HM1 := Lib.hid (HM0.out.trans hm1)
  have HM01 := Lib.hid hm1
  have hsz1 : gb < w1'.heap.size := Nat.lt_of_lt_of_le hgb hm1.size
  clear hm1 hb0 hgb
  go_wp2_with (first
    | (refine wpList_copy_text rfl (.tmp 40) (.const (.string ⟨#[76, 79, 65, 77]⟩)) 55 9 rfl 5 Try.underlying55 sizeX w1'.heap.size 0 m m (ByteArray.mk #[76, 79, 65, 77]) (by rfl) (by rfl) (madeCells #[.int .u8 0] m) 5 (heap_alloc_new w1' _) ?_ ?_ w1'.heap.size w1' ((Below.refl _ _).alloc (Nat.le_refl _) _) (Nat.le_refl _) ?_
       focus (show 4 ≤ m; omega)
       focus (rw [size_madeCells]; show 0 + 4 ≤ m; omega)
       intro w2' HG2 hB2
       clear c0 c1 c2 c3 c4 c5 c6
       have HM2 := Lib.hid (HM01.out.trans (Moves.of_below hB2))
       have HM12 := Lib.hid (Moves.of_below (S := fun _ => False) (w := w1') hB2)
       clear hB2
       obtain ⟨c0, c1, c2, c3, c4, c5, c6⟩ := HB0.out _ HM2.out)
    | (go_at_call 97
       refine (HF2.out _).mono ?_
       rintro e w3 ⟨k, rfl, hk, hkb, hm3⟩)
    | fail)
  have hmg : (magicL m).length = m := magicL_len (by omega)
  have hx := (hm3.block _ (lt_of_block HG2.out) (fun e => e)).trans HG2.out
  rw [loam_cells, ← HP0.out] at hx
  have hx2 := own_of_block (HPL.out 0) hx (HM1.out.size) (by omega)
  have hmv := HM1.out.trans (HM12.out.trans hm3)
  have HOWN := Lib.hid (And.intro hx2 (Moves.refl (fun _ => False) w3))
  have HMV := Lib.hid hmv
  have HKB : Hid (∀ W, Moves (fun _ => False) w3 W → W.heap[k]? = some (.cells FC.toArray 142 (0, 0))) := Lib.hid fun W hW => (hW.block k (lt_of_block hkb) (fun e => e)).trans hkb
  clear hmg hx hx2 hmv hm3 hkb hk c0 c1 c2 c3 c4 c5 c6 hmk HG2 HM2 HM12 HB0 HM01
  generalize w1'.heap.size = g5 at HOWN ⊢
  go_loopg [5, 45] 8 (fun gg s5 s45 wr => ∃ (i : Nat) (v5 : Value), i ≤ 8 ∧ gg = 8 - i ∧ s45 = .int .i64 i ∧ v5 = s5 ∧ Hid (wr.ownsRow w.heap.size 5 1 v5 m ((PA i).map encX) ∧ Moves (fun _ => False) w3 wr))
  case atStart => exact ⟨0, _, Nat.zero_le _, rfl, rfl, rfl, HOWN⟩
  case round =>
    obtain ⟨i, v5, hi, hgg, rfl, rfl, HI⟩ := hrel
    have d0 : (0 : Int) ≤ (i : Int) := by omega
    have HRow : Hid (∀ W, Moves (fun _ => False) wr W → BRow W (fun b => w.heap.size ≤ b) v5 (PA i)) := Lib.hid fun W hW =>
      (show BRow wr (fun b => w.heap.size ≤ b) v5 (PA i) from ⟨Row.of_owns HI.out.1, HPB.out i, by rw [HPL.out]; omega⟩).moves hW (fun _ _ _ e => e)
    by_cases hlt : i < 8
    · have d1 : (i : Int) < 8 := by omega
      obtain ⟨p, q, x, hq1, hq8, hpq, hc0, hc1, hc2, hpa⟩ := HPS.out i hlt
      have hblk := HKB.out wr HI.out.2
      have cell : ∀ j v, FC[j]? = some v → wr.cell? ⟨k, j, none⟩ = some v := fun j v hj => by
        simp only [World.cell?, hblk, Option.isSome_none, Bool.false_eq_true, if_false]
        rw [List.getElem?_toArray]
        exact hj
      have r0 := cell _ _ hc0
      have r1 := cell _ _ hc1
      have r2 := cell _ _ hc2
      have HPut : Hid (∀ W, Moves (fun _ => False) wr W → Calls Try.prog 75 #[v5, .int .i64 p, .int .i64 q, .int .u64 x] W (PutPost W (PA (i + 1)))) := Lib.hid fun W hW => by
        rw [hpa]
        exact put_ok (HRow.out W hW) hq1 hq8 (by rw [HPL.out]; omega) x
      clear hc0 hc1 hc2 hpa hblk cell hpq hq8 hq1
      go_wp2_with (first
        | (go_at_call 75
           refine (HPut.out _ ((Moves.refl _ wr).alloc _)).mono ?_
           rintro e w4 ⟨v', rfl, hnew⟩)
        | fail)
      go_roundg (8 - (i + 1))
      case measure => omega
      case rel =>
        refine ⟨i + 1, v', by omega, rfl, by go_num, rfl, ?_⟩
        have h1 := hnew.1
        rw [HPL.out] at h1
        exact Lib.hid ⟨own_weakS (HMV.out.trans (HI.out.2.alloc _)).size h1, (HI.out.2.alloc _).trans hnew.2⟩
    · obtain rfl : i = 8 := by omega
      have HSeal := Lib.hid (seal_any (HRow.out wr (Moves.refl _ _)) (by rw [HPL.out]; omega) (by rw [HPL.out]; omega))
      go_wp2_with (first
        | (go_at_call 98
           refine HSeal.out.mono ?_
           rintro e w4 ⟨v', rfl, hnew⟩)
        | fail)
      exact HQ.out v' w4 (hnew.after (HMV.out.trans HI.out.2))
end Go.Proofs.Ytnagpianaghjeaa.Sl
