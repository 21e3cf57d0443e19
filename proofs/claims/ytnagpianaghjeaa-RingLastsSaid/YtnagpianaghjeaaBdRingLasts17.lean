/-
  sup.Encode.
  sup.Encode of what may not be; bytes as a text; bytes.Equal; the reader inside Decode.
  sup.Decode. (Printed by gen_decode.py.)
  sup.Decode: what it answers of a row of bytes.
  slots.fits; a disk on which nothing waits.
  slots.Write on a disk on which nothing waits. (Printed by gen_slotsw.py.)
-/
import Derived.Test.YtnagpianaghjeaaBdRingLasts8
import Derived.Lib.BufferWrite
import Derived.Laws.BytesArg
import Derived.Laws.BytesString
import Derived.Lib.BufferRead
import Derived.Test.YtnagpianaghjeaaBdRingLasts15
import Derived.Test.YtnagpianaghjeaaBdRingLasts14
namespace Go.Proofs.Ytnagpianaghjeaa.Sl
open Go Go.RowKit Go.Proofs

theorem wpList_copy_text {P : Program} {w : World} {ops : Array Oper} {rest : List Oper} {o : Oper} {a : Act} {Q : Exit → Act → World → Prop} (hgd : o.guard = none) (d s : Operand) (dT sT : TypeId)
    (ho : o.op = .call { callee := .builtin .copy, args := #[d, s], argTypes := #[dT, sT] }) (elem : TypeId) (hu : P.underlying dT = some (.slice elem)) (hsz : (P.info? elem).map (·.size) = some 1)
    (g off dLen dCap : Nat) (b : ByteArray) (hd : a.eval d = .slice (some ⟨g, off, none⟩) dLen dCap) (hs : a.eval s = .string b)
    (cur : Array Value) (t : TypeId) (hg : w.heap[g]? = some (.cells cur t (0, 0))) (hle : b.size ≤ dLen) (hfit : off + b.size ≤ cur.size) (B : Nat) (w0 : World) (hb : Below B w0 w) (hBg : B ≤ g)
    (h : ∀ w', Hid (w'.heap[g]? = some (.cells (cur.toList.take off ++ Lib.byteCells b.data.toList ++ cur.toList.drop (off + b.size)).toArray t (0, 0))) → Below B w0 w' → wpList P ops Q rest (a.put o.dst (goInt b.size)) w') : wpList P ops Q (o :: rest) a w := by
  refine wpList_plain hgd fun K hK => ?_
  have hrun := Lib.run_copy_row_string (P := P) w dT sT o.type elem g off dLen dCap b cur t hu hsz hg hle hfit
  unfold Oper.wp
  simp [execOp, ho, resolve, invoke, builtin, hd, hs, hrun, Result.andThen]
  refine hK _ _ ?_
  have hx : (w.setRow g (cur.toList.take off ++ Lib.byteCells b.data.toList ++ cur.toList.drop (off + b.size)).toArray).heap[g]? = some (.cells (cur.toList.take off ++ Lib.byteCells b.data.toList ++ cur.toList.drop (off + b.size)).toArray t (0, 0)) := setRow_heap w g _ _ t _ hg
  have := h _ (Lib.hid hx) (below_setRow hb hBg _)
  simpa using this
theorem own_of_block {w : World} {base g n : Nat} {bs : List Int} (hn : bs.length = n) (hg : w.heap[g]? = some (.cells (bs.map encX).toArray 5 (0, 0))) (hb : base ≤ g) (hl : n ≤ 1000000) : w.ownsRow base 5 1 (.slice (some ⟨g, 0, none⟩) n n) n (bs.map encX) := by
  refine ⟨by rw [List.length_map, hn, Nat.mul_one], .inr ⟨g, n, (bs.map encX).toArray, rfl, hb, hg, Nat.le_refl _, by unfold maxLen; omega, by rw [List.size_toArray, List.length_map, hn, Nat.mul_one], ?_⟩⟩
  rw [List.take_of_length_le (by rw [List.length_map, hn, Nat.mul_one]; exact Nat.le_refl _)]
def putAll (b : Blk) (i : Nat) : List Int := ((fieldsL b).take i).foldl (fun l f => putL l f.1 f.2.1 f.2.2) (magicL (b.geom.sector - 4).toNat)
theorem putAll_zero (b : Blk) : putAll b 0 = magicL (b.geom.sector - 4).toNat := rfl
theorem putAll_end (b : Blk) : putAll b 8 = headL b := rfl
theorem putAll_step (b : Blk) {i : Nat} {f : Nat × Nat × Int} (h : (fieldsL b)[i]? = some f) : putAll b (i + 1) = putL (putAll b i) f.1 f.2.1 f.2.2 := by
  unfold putAll
  rw [List.take_add_one, h, List.foldl_append]
  rfl
theorem putAll_succ (b : Blk) {i : Nat} (h : i < 8) : ∃ (p n : Nat) (x : Int), 1 ≤ n ∧ n ≤ 8 ∧ p + n ≤ 44 ∧ (fieldCells b)[i * 3]? = some (.int .i64 p) ∧ (fieldCells b)[i * 3 + 1]? = some (.int .i64 n) ∧ (fieldCells b)[i * 3 + 2]? = some (.int .u64 x) ∧ putAll b (i + 1) = putL (putAll b i) p n x := by
  obtain rfl | rfl | rfl | rfl | rfl | rfl | rfl | rfl : i = 0 ∨ i = 1 ∨ i = 2 ∨ i = 3 ∨ i = 4 ∨ i = 5 ∨ i = 6 ∨ i = 7 := by omega
  · exact ⟨4, 4, 1, by decide, by decide, by decide, rfl, rfl, rfl, putAll_step b (i := 0) (f := (4, 4, 1)) rfl⟩
  · exact ⟨8, 8, b.epoch, by decide, by decide, by decide, rfl, rfl, rfl, putAll_step b (i := 1) (f := (8, 8, b.epoch)) rfl⟩
  · exact ⟨16, 4, b.geom.sector, by decide, by decide, by decide, rfl, rfl, rfl, putAll_step b (i := 2) (f := (16, 4, b.geom.sector)) rfl⟩
  · exact ⟨20, 4, b.geom.log, by decide, by decide, by decide, rfl, rfl, rfl, putAll_step b (i := 3) (f := (20, 4, b.geom.log)) rfl⟩
  · exact ⟨24, 4, b.geom.words, by decide, by decide, by decide, rfl, rfl, rfl, putAll_step b (i := 4) (f := (24, 4, b.geom.words)) rfl⟩
  · exact ⟨28, 4, b.space, by decide, by decide, by decide, rfl, rfl, rfl, putAll_step b (i := 5) (f := (28, 4, b.space)) rfl⟩
  · exact ⟨32, 4, b.words, by decide, by decide, by decide, rfl, rfl, rfl, putAll_step b (i := 6) (f := (32, 4, b.words)) rfl⟩
  · exact ⟨36, 8, b.log, by decide, by decide, by decide, rfl, rfl, rfl, putAll_step b (i := 7) (f := (36, 8, b.log)) rfl⟩
theorem magicL_byte (n : Nat) : ∀ x ∈ magicL n, 0 ≤ x ∧ x < 256 := by
  intro x hx
  unfold magicL at hx
  rcases List.mem_append.1 hx with h | h
  · simp at h
    omega
  · rw [(List.mem_replicate.1 h).2]
    exact ⟨by decide, by decide⟩
theorem putAll_len {b : Blk} (h : 64 ≤ b.geom.sector) (i : Nat) : (putAll b i).length = (b.geom.sector - 4).toNat := by
  unfold putAll
  generalize (fieldsL b).take i = l
  have h0 : (magicL (b.geom.sector - 4).toNat).length = (b.geom.sector - 4).toNat := magicL_len (by omega)
  generalize magicL (b.geom.sector - 4).toNat = a at h0 ⊢
  induction l generalizing a with
  | nil => exact h0
  | cons f l ih => exact ih _ (by rw [putL_len]; exact h0)
theorem putAll_byte (b : Blk) (i : Nat) : ∀ x ∈ putAll b i, 0 ≤ x ∧ x < 256 := by
  unfold putAll
  generalize (fieldsL b).take i = l
  have h0 := magicL_byte (b.geom.sector - 4).toNat
  generalize magicL (b.geom.sector - 4).toNat = a at h0 ⊢
  induction l generalizing a with
  | nil => exact h0
  | cons f l ih => exact ih _ (putL_byte h0 _ _ _)
theorem loam_cells (m : Nat) : ((madeCells #[.int .u8 0] m).toList.take 0 ++ Lib.byteCells (ByteArray.mk #[76, 79, 65, 77]).data.toList ++ (madeCells #[.int .u8 0] m).toList.drop (0 + (ByteArray.mk #[76, 79, 65, 77]).size)) = (magicL m).map encX := by
  rw [toList_madeCells_one, List.take_zero, List.nil_append, List.drop_replicate]
  unfold magicL
  rw [List.map_append, List.map_replicate]
  rfl
theorem cells7 {w : World} {g : Nat} {a b c d e f h : Value} {t : TypeId} (hb : w.heap[g]? = some (.cells #[a, b, c, d, e, f, h] t (0, 0))) : w.cell? ⟨g, 0, none⟩ = some a ∧ w.cell? ⟨g, 1, none⟩ = some b ∧ w.cell? ⟨g, 2, none⟩ = some c ∧ w.cell? ⟨g, 3, none⟩ = some d ∧ w.cell? ⟨g, 4, none⟩ = some e ∧ w.cell? ⟨g, 5, none⟩ = some f ∧ w.cell? ⟨g, 6, none⟩ = some h := by
  refine ⟨?_, ?_, ?_, ?_, ?_, ?_, ?_⟩ <;> simp [World.cell?, hb]
def EncPost (w : World) (b : Blk) (e : Ending) (w' : World) : Prop := ∃ v', e = .returned (.tuple #[v', .int .i64 0]) ∧ NewB w v' (encS crcL b) w'
set_option maxRecDepth 100000 in
set_option maxHeartbeats 4000000 in
theorem encode_ok {b : Blk} (h : GoodB b) (w : World) : Calls Try.prog 56 #[blkV b] w (EncPost w b) := by
  have HC := Lib.hid (fun W => check_ok h.1 W)
  have hn := h.1.near
  have HF := Lib.hid (fun W => fields_ok hn ⟨h.2.1, h.2.2.1⟩ ⟨h.2.2.2.1, Int.le_trans h.2.2.2.2 hn.2.2.2⟩ W)
  have HPL := Lib.hid (fun i => putAll_len (b := b) hn.1.1 i)
  have HPB := Lib.hid (putAll_byte b)
  have HP0 := Lib.hid (putAll_zero b)
  have HP8 := Lib.hid (putAll_end b)
  have HPS := Lib.hid (fun i hi => putAll_succ b (i := i) hi)
  obtain ⟨hg, s1, s2, w1, w2⟩ := h
  have hs64 : 64 ≤ b.geom.sector ∧ b.geom.sector ≤ 1024 := hn.1
  generalize hQ : EncPost w b = Q
  have HQ : Hid (∀ v' w', NewB w v' (sealL crcL (putAll b 8)) w' → Q (.returned (.tuple #[v', .int .i64 0])) w') := Lib.hid fun v' w' hb => by
    rw [HP8.out] at hb
    rw [← hQ]
    exact ⟨v', rfl, hb⟩
  clear hQ hn hg
  generalize hPA : putAll b = PA at HPL HPB HP0 HP8 HPS HQ
  generalize hFC : fieldCells b = FC at HPS
  have HF2 : Hid (∀ W, Calls Try.prog 97 #[blkV b] W (fun e w' => ∃ k, e = .returned (.slice (some ⟨k, 0, none⟩) 8 8) ∧ W.heap.size ≤ k ∧ w'.heap[k]? = some (.cells FC.toArray 142 (0, 0)) ∧ Moves (fun _ => False) W w')) := Lib.hid fun W => by
    have := HF.out W
    unfold FieldsPost at this
    rw [hFC] at this
    exact this
  clear HF hPA hFC
  obtain ⟨ep, ⟨s, l, n⟩, sp, wd, lg⟩ := b
  dsimp only at s1 s2 w1 w2 hs64 HC HPL HP0 HF2
  obtain ⟨hs1, hs2⟩ := hs64
  obtain ⟨m, hm⟩ : ∃ m : Nat, m = (s - 4).toNat := ⟨_, rfl⟩
  have hms : s - 4 = (m : Int) := by omega
  rw [← hm] at HPL HP0
  have hm4 : 60 ≤ m ∧ m ≤ 1020 := by omega
  obtain ⟨hm4, hm5⟩ := hm4
  clear hm
  obtain ⟨i5, hi5, hp0, hp1, hp2⟩ := info_parts infoX
  have hmk := fun W => run_make_row (P := Try.prog) 55 5 i5 _ Try.underlying55 hi5 hp0 hp1 rfl .i64 .i64 m (by rw [hp2]; omega) (by omega) W
  rw [← hms] at hmk
  have HMS := Lib.hid hms
  clear hms
  go_enter Try.func56, Try.ntmps56
  go_wp2_with fail
  have hm0 := (Moves.refl (fun _ => False) w).alloc (.cells (blkCells ⟨ep, ⟨s, l, n⟩, sp, wd, lg⟩) 32)
  have hb0 := heap_alloc_new w (.cells (blkCells ⟨ep, ⟨s, l, n⟩, sp, wd, lg⟩) 32)
  have hgb : w.heap.size < (w.alloc (.cells (blkCells ⟨ep, ⟨s, l, n⟩, sp, wd, lg⟩) 32)).heap.size := by simp
  generalize w.alloc (.cells (blkCells ⟨ep, ⟨s, l, n⟩, sp, wd, lg⟩) 32) = W0 at hm0 hb0 hgb ⊢
  obtain ⟨gb, hgbe⟩ : ∃ gb, gb = w.heap.size := ⟨_, rfl⟩
  rw [← hgbe] at hb0 hgb ⊢
  have HGB := Lib.hid hgbe
  have HM0 := Lib.hid hm0
  clear hgbe hm0
  refine (HC.out _).mono ?_
  rintro e w1' ⟨rfl, hm1⟩
  have HB0 : Hid (∀ W, Moves (fun _ => False) W0 W → _) := Lib.hid fun W hW => cells7 ((hW.block gb hgb (fun e => e)).trans hb0)
  obtain ⟨c0, c1, c2, c3, c4, c5, c6⟩ := HB0.out _ hm1
  have HM1 := Lib.hid (HM0.out.trans hm1)
  have HM01 := Lib.hid hm1
  have hsz1 : gb < w1'.heap.size := Nat.lt_of_lt_of_le hgb hm1.size
  clear hm1 hb0 hgb
  go_wp2_with (first
    | (refine wpList_copy_text rfl (.tmp 40) (.const (.string ⟨#[76, 79, 65, 77]⟩)) 55 9 rfl 5 Try.underlying55 sizeX w1'.heap.size 0 m m (ByteArray.mk #[76, 79, 65, 77]) (by rfl) (by rfl) (madeCells #[.int .u8 0] m) 5 (heap_alloc_new w1' _) ?_ ?_ w1'.heap.size w1' ((Below.refl _ _).alloc (Nat.le_refl _) _) (Nat.le_refl _) ?_
       focus (show 4 ≤ m; omega)
       focus (rw [size_madeCells]; show 0 + 4 ≤ m; omega)
       intro w2' HG2 hB2
       clear c0 c1 c2 c3 c4 c5 c6
       have HM2 := Lib.hid (HM01.out.trans (Moves.of_below hB2))
       have HM12 := Lib.hid (Moves.of_below (S := fun _ => False) (w := w1') hB2)
       clear hB2
       obtain ⟨c0, c1, c2, c3, c4, c5, c6⟩ := HB0.out _ HM2.out)
    | (go_at_call 97
       refine (HF2.out _).mono ?_
       rintro e w3 ⟨k, rfl, hk, hkb, hm3⟩)
    | fail)
  have hmg : (magicL m).length = m := magicL_len (by omega)
  have hx := (hm3.block _ (lt_of_block HG2.out) (fun e => e)).trans HG2.out
  rw [loam_cells, ← HP0.out] at hx
  have hx2 := own_of_block (HPL.out 0) hx (HM1.out.size) (by omega)
  have hmv := HM1.out.trans (HM12.out.trans hm3)
  have HOWN := Lib.hid (And.intro hx2 (Moves.refl (fun _ => False) w3))
  have HMV := Lib.hid hmv
  have HKB : Hid (∀ W, Moves (fun _ => False) w3 W → W.heap[k]? = some (.cells FC.toArray 142 (0, 0))) := Lib.hid fun W hW => (hW.block k (lt_of_block hkb) (fun e => e)).trans hkb
  clear hmg hx hx2 hmv hm3 hkb hk c0 c1 c2 c3 c4 c5 c6 hmk HG2 HM2 HM12 HB0 HM01
  generalize w1'.heap.size = g5 at HOWN ⊢
  go_loopg [5, 45] 8 (fun gg s5 s45 wr => ∃ (i : Nat) (v5 : Value), i ≤ 8 ∧ gg = 8 - i ∧ s45 = .int .i64 i ∧ v5 = s5 ∧ Hid (wr.ownsRow w.heap.size 5 1 v5 m ((PA i).map encX) ∧ Moves (fun _ => False) w3 wr))
  case atStart => exact ⟨0, _, Nat.zero_le _, rfl, rfl, rfl, HOWN⟩
  case round =>
    obtain ⟨i, v5, hi, hgg, rfl, rfl, HI⟩ := hrel
    have d0 : (0 : Int) ≤ (i : Int) := by omega
    have HRow : Hid (∀ W, Moves (fun _ => False) wr W → BRow W (fun b => w.heap.size ≤ b) v5 (PA i)) := Lib.hid fun W hW =>
      (show BRow wr (fun b => w.heap.size ≤ b) v5 (PA i) from ⟨Row.of_owns HI.out.1, HPB.out i, by rw [HPL.out]; omega⟩).moves hW (fun _ _ _ e => e)
    by_cases hlt : i < 8
    · have d1 : (i : Int) < 8 := by omega
      obtain ⟨p, q, x, hq1, hq8, hpq, hc0, hc1, hc2, hpa⟩ := HPS.out i hlt
      have hblk := HKB.out wr HI.out.2
      have cell : ∀ j v, FC[j]? = some v → wr.cell? ⟨k, j, none⟩ = some v := fun j v hj => by
        simp only [World.cell?, hblk, Option.isSome_none, Bool.false_eq_true, if_false]
        rw [List.getElem?_toArray]
        exact hj
      have r0 := cell _ _ hc0
      have r1 := cell _ _ hc1
      have r2 := cell _ _ hc2
      have HPut : Hid (∀ W, Moves (fun _ => False) wr W → Calls Try.prog 75 #[v5, .int .i64 p, .int .i64 q, .int .u64 x] W (PutPost W (PA (i + 1)))) := Lib.hid fun W hW => by
        rw [hpa]
        exact put_ok (HRow.out W hW) hq1 hq8 (by rw [HPL.out]; omega) x
      clear hc0 hc1 hc2 hpa hblk cell hpq hq8 hq1
      go_wp2_with (first
        | (go_at_call 75
           refine (HPut.out _ ((Moves.refl _ wr).alloc _)).mono ?_
           rintro e w4 ⟨v', rfl, hnew⟩)
        | fail)
      go_roundg (8 - (i + 1))
      case measure => omega
      case rel =>
        refine ⟨i + 1, v', by omega, rfl, by go_num, rfl, ?_⟩
        have h1 := hnew.1
        rw [HPL.out] at h1
        exact Lib.hid ⟨own_weakS (HMV.out.trans (HI.out.2.alloc _)).size h1, (HI.out.2.alloc _).trans hnew.2⟩
    · obtain rfl : i = 8 := by omega
      have HSeal := Lib.hid (seal_any (HRow.out wr (Moves.refl _ _)) (by rw [HPL.out]; omega) (by rw [HPL.out]; omega))
      go_wp2_with (first
        | (go_at_call 98
           refine HSeal.out.mono ?_
           rintro e w4 ⟨v', rfl, hnew⟩)
        | fail)
      exact HQ.out v' w4 (hnew.after (HMV.out.trans HI.out.2))
end Go.Proofs.Ytnagpianaghjeaa.Sl
namespace Go.Proofs.Ytnagpianaghjeaa.Sl
open Go Go.RowKit Go.Proofs

def BadPost (w : World) (e : Ending) (w' : World) : Prop := e = .returned (.tuple #[.slice none 0 0, .int .i64 1]) ∧ Moves (fun _ => False) w w'
set_option maxRecDepth 100000 in
set_option maxHeartbeats 4000000 in
theorem encode_bad {b : Blk} (h : ¬ GoodB b) (w : World) : Calls Try.prog 56 #[blkV b] w (BadPost w) := by
  have HB := Lib.hid h
  have HC0 := Lib.hid (fun W (hg : ¬ GoodG b.geom) => check_bad hg W)
  have HC1 := Lib.hid (fun W (hg : GoodG b.geom) => check_ok hg W)
  clear h
  obtain ⟨ep, ⟨s, l, n⟩, sp, wd, lg⟩ := b
  dsimp only at HC0 HC1
  have hm0 := (Moves.refl (fun _ => False) w).alloc (.cells (blkCells ⟨ep, ⟨s, l, n⟩, sp, wd, lg⟩) 32)
  have hb0 := heap_alloc_new w (.cells (blkCells ⟨ep, ⟨s, l, n⟩, sp, wd, lg⟩) 32)
  have hgb : w.heap.size < (w.alloc (.cells (blkCells ⟨ep, ⟨s, l, n⟩, sp, wd, lg⟩) 32)).heap.size := by simp
  by_cases hg : GoodG ⟨s, l, n⟩
  · have HC := Lib.hid (fun W => HC1.out W hg)
    have HG := Lib.hid hg
    have HB0 : Hid (∀ W, Moves (fun _ => False) (w.alloc (.cells (blkCells ⟨ep, ⟨s, l, n⟩, sp, wd, lg⟩) 32)) W → _) := Lib.hid fun W hW => cells7 ((hW.block w.heap.size hgb (fun e => e)).trans hb0)
    clear hg HC0 HC1 hb0 hgb
    have HM0 := Lib.hid hm0
    clear hm0
    by_cases h1 : 0 ≤ sp
    · by_cases h2 : sp ≤ 1
      · by_cases h3 : 0 ≤ wd
        · have h4 : n < wd := by
            by_cases q : n < wd
            · exact q
            · exact absurd ⟨HG.out, h1, h2, h3, Int.not_lt.1 q⟩ HB.out
          go_enter Try.func56, Try.ntmps56
          go_wp2_with fail
          refine (HC.out _).mono ?_
          rintro e w1' ⟨rfl, hm1⟩
          obtain ⟨c0, c1, c2, c3, c4, c5, c6⟩ := HB0.out _ hm1
          go_wp2
          go_ret2
          exact ⟨rfl, HM0.out.trans hm1⟩
        · go_enter Try.func56, Try.ntmps56
          go_wp2_with fail
          refine (HC.out _).mono ?_
          rintro e w1' ⟨rfl, hm1⟩
          obtain ⟨c0, c1, c2, c3, c4, c5, c6⟩ := HB0.out _ hm1
          go_wp2
          go_ret2
          exact ⟨rfl, HM0.out.trans hm1⟩
      · go_enter Try.func56, Try.ntmps56
        go_wp2_with fail
        refine (HC.out _).mono ?_
        rintro e w1' ⟨rfl, hm1⟩
        obtain ⟨c0, c1, c2, c3, c4, c5, c6⟩ := HB0.out _ hm1
        go_wp2
        go_ret2
        exact ⟨rfl, HM0.out.trans hm1⟩
    · go_enter Try.func56, Try.ntmps56
      go_wp2_with fail
      refine (HC.out _).mono ?_
      rintro e w1' ⟨rfl, hm1⟩
      obtain ⟨c0, c1, c2, c3, c4, c5, c6⟩ := HB0.out _ hm1
      go_wp2
      go_ret2
      exact ⟨rfl, HM0.out.trans hm1⟩
  · have HC := Lib.hid (fun W => HC0.out W hg)
    clear hg HC0 HC1 hb0 hgb
    have HM0 := Lib.hid hm0
    clear hm0
    go_enter Try.func56, Try.ntmps56
    go_wp2_with fail
    refine (HC.out _).mono ?_
    rintro e w1' ⟨rfl, hm1⟩
    go_wp2
    go_ret2
    exact ⟨rfl, HM0.out.trans hm1⟩
theorem conv_rowS {w : World} {L : Nat → Prop} {v : Value} {bs : List Int} (h : Row w L v (bs.map encX)) : (convert 55 9 v).run Try.prog w = .ok (.string (strOfNums bs)) w := by
  obtain ⟨A, c, rfl, hc, hx⟩ := h
  rw [List.length_map] at hx hc ⊢
  cases A with
  | none =>
    have hb : bs = [] := by
      cases bs with
      | nil => rfl
      | cons a r => obtain ⟨g, o, e, -⟩ := hx (by simp); cases e
    subst hb
    exact Lib.run_convert_nil_bytes w _ _ 5 c Try.underlying55 Try.underlying5 Try.underlying9
  | some a =>
    by_cases h0 : 0 < bs.length
    · obtain ⟨g, o, e, -, -, hcell⟩ := hx h0
      cases e
      exact run_convert_bytes_arg w _ 5 Try.underlying55 Try.underlying5 g o bs.length c bs rfl (fun i hi => hcell i _ (by
        rw [List.getElem?_map, List.getElem?_eq_getElem hi, List.getD_eq_getElem?_getD, List.getElem?_eq_getElem hi]; rfl)) _ Try.underlying9
    · have hb : bs = [] := List.eq_nil_of_length_eq_zero (by omega)
      subst hb
      obtain ⟨g, o, s⟩ := a
      show (convert 55 9 (.slice (some ⟨g, o, s⟩) 0 c)).run Try.prog w = _
      rw [run_convert_bytes_string w _ _ 5 _ 0 c Try.underlying55 Try.underlying5 Try.underlying9]
      have hl : (loadCells ⟨g, o, s⟩ 0).run Try.prog w = .ok ([].map encX).toArray w := run_loadCells_list (P := Try.prog) w ⟨g, o, s⟩ [] (fun j v hj => by simp at hj)
      rw [run_bytesToString w _ 0 c [] hl, foldl_push_bytes]
      rfl
theorem nums_back {a : List Int} (h : ∀ x ∈ a, 0 ≤ x ∧ x < 256) : (strOfNums a).data.toList.map (fun b => (b.toNat : Int)) = a := by
  rw [strOfNums_data, List.map_map]
  conv => rhs; rw [← List.map_id a]
  refine List.map_congr_left fun x hx => ?_
  obtain ⟨h0, h1⟩ := h x hx
  show (((UInt8.ofNat x.toNat).toNat : Nat) : Int) = x
  rw [UInt8.toNat_ofNat_of_lt' (by show x.toNat < 256; omega)]
  omega
theorem str_eq {a b : List Int} (ha : ∀ x ∈ a, 0 ≤ x ∧ x < 256) (hb : ∀ x ∈ b, 0 ≤ x ∧ x < 256) : ((strOfNums a).toList == (strOfNums b).toList) = decide (a = b) := by
  rw [Bool.eq_iff_iff, beq_iff_eq, decide_eq_true_eq]
  constructor
  · intro h
    rw [ByteArray.toList_eq, ByteArray.toList_eq] at h
    rw [← nums_back ha, ← nums_back hb, h]
  · intro h
    rw [h]
set_option maxRecDepth 100000 in
set_option maxHeartbeats 2000000 in
theorem equal_any {w : World} {L L' : Nat → Prop} {v u : Value} {a b : List Int} (ha : BRow w L v a) (hb : BRow w L' u b) : Calls Try.prog 104 #[v, u] w (SameV w (.bool (decide (a = b)))) := by
  have h1 := conv_rowS ha.1
  have h2 := conv_rowS hb.1
  have he := str_eq ha.2.1 hb.2.1
  generalize decide (a = b) = r at he ⊢
  generalize strOfNums a = s at h1 he
  generalize strOfNums b = t at h2 he
  have HE := Lib.hid he
  clear he
  obtain ⟨⟨A, c, rfl, -⟩, -⟩ := ha
  obtain ⟨⟨A', c', rfl, -⟩, -⟩ := hb
  rw [List.length_map] at h1 h2 ⊢
  rw [List.length_map]
  go_enter Try.func104, Try.ntmps104
  go_wp2
  go_ret
  exact ⟨congrArg (fun x => Ending.returned (.bool x)) HE.out, rfl⟩
set_option maxRecDepth 100000 in
set_option maxHeartbeats 2000000 in
theorem reader_ok {w : World} {L : Nat → Prop} {v : Value} {bs : List Int} (h : BRow w L v bs) {g : Nat} (hc : w.cell? ⟨g, 0, none⟩ = some v) (p n : Nat) (h1 : 1 ≤ n) (h8 : n ≤ 8) (hl : p + n ≤ bs.length) : Calls Try.prog 102 #[.int .i64 p, .int .i64 n, .pointer (some ⟨g, 0, none⟩)] w (SameV w (.int .u64 (getL bs p n))) := by
  have HG := Lib.hid (get_ok h h1 h8 hl)
  obtain ⟨⟨A, c, rfl, -⟩, -⟩ := h
  rw [List.length_map] at hc HG
  generalize getL bs p n = x at HG ⊢
  go_enter Try.func102, Try.ntmps102
  go_wp2_with (first | (go_at_call 103; refine HG.out.mono ?_; rintro e w1 ⟨rfl, rfl⟩) | fail)
  go_ret
  exact ⟨rfl, rfl⟩
end Go.Proofs.Ytnagpianaghjeaa.Sl
namespace Go.Proofs.Ytnagpianaghjeaa.Sl
open Go Go.RowKit Go.Proofs

def zeroB : Blk := ⟨0, ⟨0, 0, 0⟩, 0, 0, 0⟩
theorem encS_byte (crc : List Int → Int) (b : Blk) : ∀ x ∈ encS crc b, 0 ≤ x ∧ x < 256 := by
  unfold encS sealL
  refine putL_byte (fun x hx => ?_) _ _ _
  rcases List.mem_append.1 hx with h | h
  · rw [← putAll_end] at h
    exact putAll_byte b 8 x h
  · rw [(List.mem_replicate.1 h).2]
    exact ⟨by decide, by decide⟩
theorem set7 {w : World} {g : Nat} {z0 z1 z2 z3 z4 z5 z6 a0 a1 a2 a3 a4 a5 a6 : Value} {t : TypeId} (h : w.heap[g]? = some (.cells #[z0, z1, z2, z3, z4, z5, z6] t (0, 0))) :
    (((((((w.setCell ⟨g, 0, none⟩ a0).setCell ⟨g, 1, none⟩ a1).setCell ⟨g, 2, none⟩ a2).setCell ⟨g, 3, none⟩ a3).setCell ⟨g, 4, none⟩ a4).setCell ⟨g, 5, none⟩ a5).setCell ⟨g, 6, none⟩ a6).heap[g]? = some (.cells #[a0, a1, a2, a3, a4, a5, a6] t (0, 0)) := by
  simp [World.setCell, Array.getElem?_modify, h]
set_option maxRecDepth 100000 in
set_option maxHeartbeats 4000000 in
theorem decode_bad {w : World} {A : Option Addr} {n c : Nat} {x0 x1 x2 x3 x4 x5 x6 : Int} (hn : 64 ≤ (n : Int)) (hm : (n : Int) ≤ 1000000) (b1 : 0 ≤ x1 ∧ x1 < 4294967296) (b2 : 0 ≤ x2 ∧ x2 < 4294967296) (b3 : 0 ≤ x3 ∧ x3 < 4294967296) (b4 : 0 ≤ x4 ∧ x4 < 4294967296) (b5 : 0 ≤ x5 ∧ x5 < 4294967296) (r0 : ∀ W (g : Nat), Moves (fun _ => False) w W → W.cell? ⟨g, 0, none⟩ = some (.slice A n c) → Calls Try.prog 102 #[.int .i64 8, .int .i64 8, .pointer (some ⟨g, 0, none⟩)] W (SameV W (.int .u64 x0))) (r1 : ∀ W (g : Nat), Moves (fun _ => False) w W → W.cell? ⟨g, 0, none⟩ = some (.slice A n c) → Calls Try.prog 102 #[.int .i64 16, .int .i64 4, .pointer (some ⟨g, 0, none⟩)] W (SameV W (.int .u64 x1))) (r2 : ∀ W (g : Nat), Moves (fun _ => False) w W → W.cell? ⟨g, 0, none⟩ = some (.slice A n c) → Calls Try.prog 102 #[.int .i64 20, .int .i64 4, .pointer (some ⟨g, 0, none⟩)] W (SameV W (.int .u64 x2))) (r3 : ∀ W (g : Nat), Moves (fun _ => False) w W → W.cell? ⟨g, 0, none⟩ = some (.slice A n c) → Calls Try.prog 102 #[.int .i64 24, .int .i64 4, .pointer (some ⟨g, 0, none⟩)] W (SameV W (.int .u64 x3))) (r4 : ∀ W (g : Nat), Moves (fun _ => False) w W → W.cell? ⟨g, 0, none⟩ = some (.slice A n c) → Calls Try.prog 102 #[.int .i64 28, .int .i64 4, .pointer (some ⟨g, 0, none⟩)] W (SameV W (.int .u64 x4))) (r5 : ∀ W (g : Nat), Moves (fun _ => False) w W → W.cell? ⟨g, 0, none⟩ = some (.slice A n c) → Calls Try.prog 102 #[.int .i64 32, .int .i64 4, .pointer (some ⟨g, 0, none⟩)] W (SameV W (.int .u64 x5))) (r6 : ∀ W (g : Nat), Moves (fun _ => False) w W → W.cell? ⟨g, 0, none⟩ = some (.slice A n c) → Calls Try.prog 102 #[.int .i64 36, .int .i64 8, .pointer (some ⟨g, 0, none⟩)] W (SameV W (.int .u64 x6))) (hE : ∀ W, Moves (fun _ => False) w W → Calls Try.prog 56 #[blkV ⟨x0, ⟨x1, x2, x3⟩, x4, x5, x6⟩] W (fun e w' => ∃ v', e = .returned (.tuple #[v', .int .i64 1]) ∧ Moves (fun _ => False) W w')) : Calls Try.prog 63 #[.slice A n c] w (fun e w' => e = .returned (.tuple #[blkV zeroB, .int .i64 2]) ∧ Moves (fun _ => False) w w') := by
  have R0 := Lib.hid r0
  have R1 := Lib.hid r1
  have R2 := Lib.hid r2
  have R3 := Lib.hid r3
  have R4 := Lib.hid r4
  have R5 := Lib.hid r5
  have R6 := Lib.hid r6
  have HE := Lib.hid hE
  obtain ⟨b1a, b1b⟩ := b1
  obtain ⟨b2a, b2b⟩ := b2
  obtain ⟨b3a, b3b⟩ := b3
  obtain ⟨b4a, b4b⟩ := b4
  obtain ⟨b5a, b5b⟩ := b5
  clear r0 r1 r2 r3 r4 r5 r6 hE
  have M0 := Lib.hid (((Moves.refl (fun _ => False) w).alloc (.cells #[.slice A n c] 55)).alloc (.cells #[.int .u64 0, .int .i64 0, .int .i64 0, .int .i64 0, .int .i64 0, .int .i64 0, .int .u64 0] 32))
  have B1 := Lib.hid (show ((w.alloc (.cells #[.slice A n c] 55)).alloc (.cells #[.int .u64 0, .int .i64 0, .int .i64 0, .int .i64 0, .int .i64 0, .int .i64 0, .int .u64 0] 32)).heap[w.heap.size]? = some (.cells #[.slice A n c] 55 (0, 0)) from (Below.heap_alloc _ _ _ (by simp)).trans (heap_alloc_new w _))
  have B2 := Lib.hid (show ((w.alloc (.cells #[.slice A n c] 55)).alloc (.cells #[.int .u64 0, .int .i64 0, .int .i64 0, .int .i64 0, .int .i64 0, .int .i64 0, .int .u64 0] 32)).heap[w.heap.size + 1]? = some (.cells #[.int .u64 0, .int .i64 0, .int .i64 0, .int .i64 0, .int .i64 0, .int .i64 0, .int .u64 0] 32 (0, 0)) from alloc_at (by simp))
  go_enter Try.func63, Try.ntmps63
  go_wp2_with fail
  generalize (w.alloc (.cells #[.slice A n c] 55)).alloc (.cells #[.int .u64 0, .int .i64 0, .int .i64 0, .int .i64 0, .int .i64 0, .int .i64 0, .int .u64 0] 32) = W0 at M0 B1 B2 ⊢
  have c0 := cell_of_one B1.out
  have gs := lt_of_block B1.out
  have gr := lt_of_block B2.out
  obtain ⟨gb, hgb⟩ : ∃ gb, gb = w.heap.size := ⟨_, rfl⟩
  rw [← hgb] at B1 B2 c0 gs gr ⊢
  have HGB := Lib.hid hgb
  clear hgb
  refine (R0.out W0 gb M0.out c0).mono ?_
  rintro e w1 ⟨rfl, rfl⟩
  go_wp2_with fail
  refine (R1.out W0 gb M0.out c0).mono ?_
  rintro e w1 ⟨rfl, rfl⟩
  go_wp2_with fail
  refine (R2.out W0 gb M0.out c0).mono ?_
  rintro e w1 ⟨rfl, rfl⟩
  go_wp2_with fail
  refine (R3.out W0 gb M0.out c0).mono ?_
  rintro e w1 ⟨rfl, rfl⟩
  go_wp2_with fail
  refine (R4.out W0 gb M0.out c0).mono ?_
  rintro e w1 ⟨rfl, rfl⟩
  go_wp2_with fail
  refine (R5.out W0 gb M0.out c0).mono ?_
  rintro e w1 ⟨rfl, rfl⟩
  go_wp2_with fail
  refine (R6.out W0 gb M0.out c0).mono ?_
  rintro e w1 ⟨rfl, rfl⟩
  go_wp2_with fail
  have c5 := cells7 (alloc_at (w := W0) (o := .cells #[.int .u64 x0, .int .i64 x1, .int .i64 x2, .int .i64 x3, .int .i64 x4, .int .i64 x5, .int .u64 x6] 32) rfl)
  have M1 := Lib.hid (M0.out.alloc (.cells #[.int .u64 x0, .int .i64 x1, .int .i64 x2, .int .i64 x3, .int .i64 x4, .int .i64 x5, .int .u64 x6] 32))
  have M01 := Lib.hid ((Moves.refl (fun _ => False) W0).alloc (.cells #[.int .u64 x0, .int .i64 x1, .int .i64 x2, .int .i64 x3, .int .i64 x4, .int .i64 x5, .int .u64 x6] 32))
  have g5 : W0.heap.size < (W0.alloc (.cells #[.int .u64 x0, .int .i64 x1, .int .i64 x2, .int .i64 x3, .int .i64 x4, .int .i64 x5, .int .u64 x6] 32)).heap.size := by simp
  generalize W0.alloc (.cells #[.int .u64 x0, .int .i64 x1, .int .i64 x2, .int .i64 x3, .int .i64 x4, .int .i64 x5, .int .u64 x6] 32) = W1 at M1 M01 c5 g5 ⊢
  refine (HE.out W1 M1.out).mono ?_
  rintro e w2 ⟨v', rfl, hm2⟩
  have M02 := M01.out.trans hm2
  have k0 := (M02.cell (p := ⟨gb, 0, none⟩) gs (fun e => e)).trans c0
  have B2' := (M02.block (gb + 1) gr (fun e => e)).trans B2.out
  obtain ⟨s0, s1, s2, s3, s4, s5, s6⟩ := cells7 B2'
  have f0 : ∀ j, w2.frozen? ⟨gb + 1, j, none⟩ = false := fun j => by simp [World.frozen?, B2']
  have B2h := Lib.hid B2'
  have z2 : gb + 1 < w2.heap.size := lt_of_block B2'
  have c5' : w2.cell? ⟨W0.heap.size, 0, none⟩ = some (.int .u64 x0) ∧ w2.cell? ⟨W0.heap.size, 1, none⟩ = some (.int .i64 x1) ∧ w2.cell? ⟨W0.heap.size, 2, none⟩ = some (.int .i64 x2) ∧ w2.cell? ⟨W0.heap.size, 3, none⟩ = some (.int .i64 x3) ∧ w2.cell? ⟨W0.heap.size, 4, none⟩ = some (.int .i64 x4) ∧ w2.cell? ⟨W0.heap.size, 5, none⟩ = some (.int .i64 x5) ∧ w2.cell? ⟨W0.heap.size, 6, none⟩ = some (.int .u64 x6) :=
    ⟨(hm2.cell g5 (fun e => e)).trans c5.1, (hm2.cell g5 (fun e => e)).trans c5.2.1, (hm2.cell g5 (fun e => e)).trans c5.2.2.1, (hm2.cell g5 (fun e => e)).trans c5.2.2.2.1, (hm2.cell g5 (fun e => e)).trans c5.2.2.2.2.1, (hm2.cell g5 (fun e => e)).trans c5.2.2.2.2.2.1, (hm2.cell g5 (fun e => e)).trans c5.2.2.2.2.2.2⟩
  have M2 := Lib.hid (M1.out.trans hm2)
  have gW : gb + 1 < W0.heap.size := gr
  clear c0 c5 hm2 M02 B2'
  obtain ⟨t0, t1, t2, t3, t4, t5, t6⟩ := c5'
  generalize W0.heap.size = g2 at t0 t1 t2 t3 t4 t5 t6 g5 gW gs gr ⊢
  go_wp2
  have e7 := cells7 (set7 (a0 := .int .u64 0) (a1 := .int .i64 0) (a2 := .int .i64 0) (a3 := .int .i64 0) (a4 := .int .i64 0) (a5 := .int .i64 0) (a6 := .int .u64 0) B2h.out)
  have M3 : Moves (fun _ => False) w (((((((w2.setCell ⟨gb + 1, 0, none⟩ (.int .u64 0)).setCell ⟨gb + 1, 1, none⟩ (.int .i64 0)).setCell ⟨gb + 1, 2, none⟩ (.int .i64 0)).setCell ⟨gb + 1, 3, none⟩ (.int .i64 0)).setCell ⟨gb + 1, 4, none⟩ (.int .i64 0)).setCell ⟨gb + 1, 5, none⟩ (.int .i64 0)).setCell ⟨gb + 1, 6, none⟩ (.int .u64 0)) := by
    repeat (refine Moves.setCell ?_ (fun (e : gb + 1 < w.heap.size) => absurd e (by have := HGB.out; omega)) _)
    exact M2.out
  generalize (((((((w2.setCell ⟨gb + 1, 0, none⟩ (.int .u64 0)).setCell ⟨gb + 1, 1, none⟩ (.int .i64 0)).setCell ⟨gb + 1, 2, none⟩ (.int .i64 0)).setCell ⟨gb + 1, 3, none⟩ (.int .i64 0)).setCell ⟨gb + 1, 4, none⟩ (.int .i64 0)).setCell ⟨gb + 1, 5, none⟩ (.int .i64 0)).setCell ⟨gb + 1, 6, none⟩ (.int .u64 0)) = W3 at e7 M3 ⊢
  obtain ⟨e0, e1, e2, e3, e4, e5, e6⟩ := e7
  exact bodyPost_ret (v := .tuple #[blkV zeroB, .int .i64 2]) (by simp [results, Try.results63, go_sem, e0, e1, e2, e3, e4, e5, e6, zeroB]) rfl ⟨rfl, M3⟩
set_option maxRecDepth 100000 in
set_option maxHeartbeats 4000000 in
theorem decode_ne {w : World} {A : Option Addr} {n c : Nat} {x0 x1 x2 x3 x4 x5 x6 : Int} (hn : 64 ≤ (n : Int)) (hm : (n : Int) ≤ 1000000) (b1 : 0 ≤ x1 ∧ x1 < 4294967296) (b2 : 0 ≤ x2 ∧ x2 < 4294967296) (b3 : 0 ≤ x3 ∧ x3 < 4294967296) (b4 : 0 ≤ x4 ∧ x4 < 4294967296) (b5 : 0 ≤ x5 ∧ x5 < 4294967296) (r0 : ∀ W (g : Nat), Moves (fun _ => False) w W → W.cell? ⟨g, 0, none⟩ = some (.slice A n c) → Calls Try.prog 102 #[.int .i64 8, .int .i64 8, .pointer (some ⟨g, 0, none⟩)] W (SameV W (.int .u64 x0))) (r1 : ∀ W (g : Nat), Moves (fun _ => False) w W → W.cell? ⟨g, 0, none⟩ = some (.slice A n c) → Calls Try.prog 102 #[.int .i64 16, .int .i64 4, .pointer (some ⟨g, 0, none⟩)] W (SameV W (.int .u64 x1))) (r2 : ∀ W (g : Nat), Moves (fun _ => False) w W → W.cell? ⟨g, 0, none⟩ = some (.slice A n c) → Calls Try.prog 102 #[.int .i64 20, .int .i64 4, .pointer (some ⟨g, 0, none⟩)] W (SameV W (.int .u64 x2))) (r3 : ∀ W (g : Nat), Moves (fun _ => False) w W → W.cell? ⟨g, 0, none⟩ = some (.slice A n c) → Calls Try.prog 102 #[.int .i64 24, .int .i64 4, .pointer (some ⟨g, 0, none⟩)] W (SameV W (.int .u64 x3))) (r4 : ∀ W (g : Nat), Moves (fun _ => False) w W → W.cell? ⟨g, 0, none⟩ = some (.slice A n c) → Calls Try.prog 102 #[.int .i64 28, .int .i64 4, .pointer (some ⟨g, 0, none⟩)] W (SameV W (.int .u64 x4))) (r5 : ∀ W (g : Nat), Moves (fun _ => False) w W → W.cell? ⟨g, 0, none⟩ = some (.slice A n c) → Calls Try.prog 102 #[.int .i64 32, .int .i64 4, .pointer (some ⟨g, 0, none⟩)] W (SameV W (.int .u64 x5))) (r6 : ∀ W (g : Nat), Moves (fun _ => False) w W → W.cell? ⟨g, 0, none⟩ = some (.slice A n c) → Calls Try.prog 102 #[.int .i64 36, .int .i64 8, .pointer (some ⟨g, 0, none⟩)] W (SameV W (.int .u64 x6))) (hE : ∀ W, Moves (fun _ => False) w W → Calls Try.prog 56 #[blkV ⟨x0, ⟨x1, x2, x3⟩, x4, x5, x6⟩] W (fun e w' => ∃ v', e = .returned (.tuple #[v', .int .i64 0]) ∧ Moves (fun _ => False) W w' ∧ Calls Try.prog 104 #[v', .slice A n c] w' (SameV w' (.bool false)))) : Calls Try.prog 63 #[.slice A n c] w (fun e w' => e = .returned (.tuple #[blkV zeroB, .int .i64 2]) ∧ Moves (fun _ => False) w w') := by
  have R0 := Lib.hid r0
  have R1 := Lib.hid r1
  have R2 := Lib.hid r2
  have R3 := Lib.hid r3
  have R4 := Lib.hid r4
  have R5 := Lib.hid r5
  have R6 := Lib.hid r6
  have HE := Lib.hid hE
  obtain ⟨b1a, b1b⟩ := b1
  obtain ⟨b2a, b2b⟩ := b2
  obtain ⟨b3a, b3b⟩ := b3
  obtain ⟨b4a, b4b⟩ := b4
  obtain ⟨b5a, b5b⟩ := b5
  clear r0 r1 r2 r3 r4 r5 r6 hE
  have M0 := Lib.hid (((Moves.refl (fun _ => False) w).alloc (.cells #[.slice A n c] 55)).alloc (.cells #[.int .u64 0, .int .i64 0, .int .i64 0, .int .i64 0, .int .i64 0, .int .i64 0, .int .u64 0] 32))
  have B1 := Lib.hid (show ((w.alloc (.cells #[.slice A n c] 55)).alloc (.cells #[.int .u64 0, .int .i64 0, .int .i64 0, .int .i64 0, .int .i64 0, .int .i64 0, .int .u64 0] 32)).heap[w.heap.size]? = some (.cells #[.slice A n c] 55 (0, 0)) from (Below.heap_alloc _ _ _ (by simp)).trans (heap_alloc_new w _))
  have B2 := Lib.hid (show ((w.alloc (.cells #[.slice A n c] 55)).alloc (.cells #[.int .u64 0, .int .i64 0, .int .i64 0, .int .i64 0, .int .i64 0, .int .i64 0, .int .u64 0] 32)).heap[w.heap.size + 1]? = some (.cells #[.int .u64 0, .int .i64 0, .int .i64 0, .int .i64 0, .int .i64 0, .int .i64 0, .int .u64 0] 32 (0, 0)) from alloc_at (by simp))
  go_enter Try.func63, Try.ntmps63
  go_wp2_with fail
  generalize (w.alloc (.cells #[.slice A n c] 55)).alloc (.cells #[.int .u64 0, .int .i64 0, .int .i64 0, .int .i64 0, .int .i64 0, .int .i64 0, .int .u64 0] 32) = W0 at M0 B1 B2 ⊢
  have c0 := cell_of_one B1.out
  have gs := lt_of_block B1.out
  have gr := lt_of_block B2.out
  obtain ⟨gb, hgb⟩ : ∃ gb, gb = w.heap.size := ⟨_, rfl⟩
  rw [← hgb] at B1 B2 c0 gs gr ⊢
  have HGB := Lib.hid hgb
  clear hgb
  refine (R0.out W0 gb M0.out c0).mono ?_
  rintro e w1 ⟨rfl, rfl⟩
  go_wp2_with fail
  refine (R1.out W0 gb M0.out c0).mono ?_
  rintro e w1 ⟨rfl, rfl⟩
  go_wp2_with fail
  refine (R2.out W0 gb M0.out c0).mono ?_
  rintro e w1 ⟨rfl, rfl⟩
  go_wp2_with fail
  refine (R3.out W0 gb M0.out c0).mono ?_
  rintro e w1 ⟨rfl, rfl⟩
  go_wp2_with fail
  refine (R4.out W0 gb M0.out c0).mono ?_
  rintro e w1 ⟨rfl, rfl⟩
  go_wp2_with fail
  refine (R5.out W0 gb M0.out c0).mono ?_
  rintro e w1 ⟨rfl, rfl⟩
  go_wp2_with fail
  refine (R6.out W0 gb M0.out c0).mono ?_
  rintro e w1 ⟨rfl, rfl⟩
  go_wp2_with fail
  have c5 := cells7 (alloc_at (w := W0) (o := .cells #[.int .u64 x0, .int .i64 x1, .int .i64 x2, .int .i64 x3, .int .i64 x4, .int .i64 x5, .int .u64 x6] 32) rfl)
  have M1 := Lib.hid (M0.out.alloc (.cells #[.int .u64 x0, .int .i64 x1, .int .i64 x2, .int .i64 x3, .int .i64 x4, .int .i64 x5, .int .u64 x6] 32))
  have M01 := Lib.hid ((Moves.refl (fun _ => False) W0).alloc (.cells #[.int .u64 x0, .int .i64 x1, .int .i64 x2, .int .i64 x3, .int .i64 x4, .int .i64 x5, .int .u64 x6] 32))
  have g5 : W0.heap.size < (W0.alloc (.cells #[.int .u64 x0, .int .i64 x1, .int .i64 x2, .int .i64 x3, .int .i64 x4, .int .i64 x5, .int .u64 x6] 32)).heap.size := by simp
  generalize W0.alloc (.cells #[.int .u64 x0, .int .i64 x1, .int .i64 x2, .int .i64 x3, .int .i64 x4, .int .i64 x5, .int .u64 x6] 32) = W1 at M1 M01 c5 g5 ⊢
  refine (HE.out W1 M1.out).mono ?_
  rintro e w2 ⟨v', rfl, hm2, hEq⟩
  have M02 := M01.out.trans hm2
  have k0 := (M02.cell (p := ⟨gb, 0, none⟩) gs (fun e => e)).trans c0
  have B2' := (M02.block (gb + 1) gr (fun e => e)).trans B2.out
  obtain ⟨s0, s1, s2, s3, s4, s5, s6⟩ := cells7 B2'
  have f0 : ∀ j, w2.frozen? ⟨gb + 1, j, none⟩ = false := fun j => by simp [World.frozen?, B2']
  have B2h := Lib.hid B2'
  have z2 : gb + 1 < w2.heap.size := lt_of_block B2'
  have c5' : w2.cell? ⟨W0.heap.size, 0, none⟩ = some (.int .u64 x0) ∧ w2.cell? ⟨W0.heap.size, 1, none⟩ = some (.int .i64 x1) ∧ w2.cell? ⟨W0.heap.size, 2, none⟩ = some (.int .i64 x2) ∧ w2.cell? ⟨W0.heap.size, 3, none⟩ = some (.int .i64 x3) ∧ w2.cell? ⟨W0.heap.size, 4, none⟩ = some (.int .i64 x4) ∧ w2.cell? ⟨W0.heap.size, 5, none⟩ = some (.int .i64 x5) ∧ w2.cell? ⟨W0.heap.size, 6, none⟩ = some (.int .u64 x6) :=
    ⟨(hm2.cell g5 (fun e => e)).trans c5.1, (hm2.cell g5 (fun e => e)).trans c5.2.1, (hm2.cell g5 (fun e => e)).trans c5.2.2.1, (hm2.cell g5 (fun e => e)).trans c5.2.2.2.1, (hm2.cell g5 (fun e => e)).trans c5.2.2.2.2.1, (hm2.cell g5 (fun e => e)).trans c5.2.2.2.2.2.1, (hm2.cell g5 (fun e => e)).trans c5.2.2.2.2.2.2⟩
  have M2 := Lib.hid (M1.out.trans hm2)
  have gW : gb + 1 < W0.heap.size := gr
  clear c0 c5 hm2 M02 B2'
  obtain ⟨t0, t1, t2, t3, t4, t5, t6⟩ := c5'
  generalize W0.heap.size = g2 at t0 t1 t2 t3 t4 t5 t6 g5 gW gs gr ⊢
  have HQ := Lib.hid hEq
  clear hEq
  go_wp2_with (first | (go_at_call 104; refine HQ.out.mono ?_; rintro e w3 ⟨rfl, rfl⟩) | fail)
  have e7 := cells7 (set7 (a0 := .int .u64 0) (a1 := .int .i64 0) (a2 := .int .i64 0) (a3 := .int .i64 0) (a4 := .int .i64 0) (a5 := .int .i64 0) (a6 := .int .u64 0) B2h.out)
  have M3 : Moves (fun _ => False) w (((((((w2.setCell ⟨gb + 1, 0, none⟩ (.int .u64 0)).setCell ⟨gb + 1, 1, none⟩ (.int .i64 0)).setCell ⟨gb + 1, 2, none⟩ (.int .i64 0)).setCell ⟨gb + 1, 3, none⟩ (.int .i64 0)).setCell ⟨gb + 1, 4, none⟩ (.int .i64 0)).setCell ⟨gb + 1, 5, none⟩ (.int .i64 0)).setCell ⟨gb + 1, 6, none⟩ (.int .u64 0)) := by
    repeat (refine Moves.setCell ?_ (fun (e : gb + 1 < w.heap.size) => absurd e (by have := HGB.out; omega)) _)
    exact M2.out
  generalize (((((((w2.setCell ⟨gb + 1, 0, none⟩ (.int .u64 0)).setCell ⟨gb + 1, 1, none⟩ (.int .i64 0)).setCell ⟨gb + 1, 2, none⟩ (.int .i64 0)).setCell ⟨gb + 1, 3, none⟩ (.int .i64 0)).setCell ⟨gb + 1, 4, none⟩ (.int .i64 0)).setCell ⟨gb + 1, 5, none⟩ (.int .i64 0)).setCell ⟨gb + 1, 6, none⟩ (.int .u64 0)) = W3 at e7 M3 ⊢
  obtain ⟨e0, e1, e2, e3, e4, e5, e6⟩ := e7
  exact bodyPost_ret (v := .tuple #[blkV zeroB, .int .i64 2]) (by simp [results, Try.results63, go_sem, e0, e1, e2, e3, e4, e5, e6, zeroB]) rfl ⟨rfl, M3⟩
set_option maxRecDepth 100000 in
set_option maxHeartbeats 4000000 in
theorem decode_eq {w : World} {A : Option Addr} {n c : Nat} {x0 x1 x2 x3 x4 x5 x6 : Int} (hn : 64 ≤ (n : Int)) (hm : (n : Int) ≤ 1000000) (b1 : 0 ≤ x1 ∧ x1 < 4294967296) (b2 : 0 ≤ x2 ∧ x2 < 4294967296) (b3 : 0 ≤ x3 ∧ x3 < 4294967296) (b4 : 0 ≤ x4 ∧ x4 < 4294967296) (b5 : 0 ≤ x5 ∧ x5 < 4294967296) (r0 : ∀ W (g : Nat), Moves (fun _ => False) w W → W.cell? ⟨g, 0, none⟩ = some (.slice A n c) → Calls Try.prog 102 #[.int .i64 8, .int .i64 8, .pointer (some ⟨g, 0, none⟩)] W (SameV W (.int .u64 x0))) (r1 : ∀ W (g : Nat), Moves (fun _ => False) w W → W.cell? ⟨g, 0, none⟩ = some (.slice A n c) → Calls Try.prog 102 #[.int .i64 16, .int .i64 4, .pointer (some ⟨g, 0, none⟩)] W (SameV W (.int .u64 x1))) (r2 : ∀ W (g : Nat), Moves (fun _ => False) w W → W.cell? ⟨g, 0, none⟩ = some (.slice A n c) → Calls Try.prog 102 #[.int .i64 20, .int .i64 4, .pointer (some ⟨g, 0, none⟩)] W (SameV W (.int .u64 x2))) (r3 : ∀ W (g : Nat), Moves (fun _ => False) w W → W.cell? ⟨g, 0, none⟩ = some (.slice A n c) → Calls Try.prog 102 #[.int .i64 24, .int .i64 4, .pointer (some ⟨g, 0, none⟩)] W (SameV W (.int .u64 x3))) (r4 : ∀ W (g : Nat), Moves (fun _ => False) w W → W.cell? ⟨g, 0, none⟩ = some (.slice A n c) → Calls Try.prog 102 #[.int .i64 28, .int .i64 4, .pointer (some ⟨g, 0, none⟩)] W (SameV W (.int .u64 x4))) (r5 : ∀ W (g : Nat), Moves (fun _ => False) w W → W.cell? ⟨g, 0, none⟩ = some (.slice A n c) → Calls Try.prog 102 #[.int .i64 32, .int .i64 4, .pointer (some ⟨g, 0, none⟩)] W (SameV W (.int .u64 x5))) (r6 : ∀ W (g : Nat), Moves (fun _ => False) w W → W.cell? ⟨g, 0, none⟩ = some (.slice A n c) → Calls Try.prog 102 #[.int .i64 36, .int .i64 8, .pointer (some ⟨g, 0, none⟩)] W (SameV W (.int .u64 x6))) (hE : ∀ W, Moves (fun _ => False) w W → Calls Try.prog 56 #[blkV ⟨x0, ⟨x1, x2, x3⟩, x4, x5, x6⟩] W (fun e w' => ∃ v', e = .returned (.tuple #[v', .int .i64 0]) ∧ Moves (fun _ => False) W w' ∧ Calls Try.prog 104 #[v', .slice A n c] w' (SameV w' (.bool true)))) : Calls Try.prog 63 #[.slice A n c] w (fun e w' => e = .returned (.tuple #[blkV ⟨x0, ⟨x1, x2, x3⟩, x4, x5, x6⟩, .int .i64 0]) ∧ Moves (fun _ => False) w w') := by
  have R0 := Lib.hid r0
  have R1 := Lib.hid r1
  have R2 := Lib.hid r2
  have R3 := Lib.hid r3
  have R4 := Lib.hid r4
  have R5 := Lib.hid r5
  have R6 := Lib.hid r6
  have HE := Lib.hid hE
  obtain ⟨b1a, b1b⟩ := b1
  obtain ⟨b2a, b2b⟩ := b2
  obtain ⟨b3a, b3b⟩ := b3
  obtain ⟨b4a, b4b⟩ := b4
  obtain ⟨b5a, b5b⟩ := b5
  clear r0 r1 r2 r3 r4 r5 r6 hE
  have M0 := Lib.hid (((Moves.refl (fun _ => False) w).alloc (.cells #[.slice A n c] 55)).alloc (.cells #[.int .u64 0, .int .i64 0, .int .i64 0, .int .i64 0, .int .i64 0, .int .i64 0, .int .u64 0] 32))
  have B1 := Lib.hid (show ((w.alloc (.cells #[.slice A n c] 55)).alloc (.cells #[.int .u64 0, .int .i64 0, .int .i64 0, .int .i64 0, .int .i64 0, .int .i64 0, .int .u64 0] 32)).heap[w.heap.size]? = some (.cells #[.slice A n c] 55 (0, 0)) from (Below.heap_alloc _ _ _ (by simp)).trans (heap_alloc_new w _))
  have B2 := Lib.hid (show ((w.alloc (.cells #[.slice A n c] 55)).alloc (.cells #[.int .u64 0, .int .i64 0, .int .i64 0, .int .i64 0, .int .i64 0, .int .i64 0, .int .u64 0] 32)).heap[w.heap.size + 1]? = some (.cells #[.int .u64 0, .int .i64 0, .int .i64 0, .int .i64 0, .int .i64 0, .int .i64 0, .int .u64 0] 32 (0, 0)) from alloc_at (by simp))
  go_enter Try.func63, Try.ntmps63
  go_wp2_with fail
  generalize (w.alloc (.cells #[.slice A n c] 55)).alloc (.cells #[.int .u64 0, .int .i64 0, .int .i64 0, .int .i64 0, .int .i64 0, .int .i64 0, .int .u64 0] 32) = W0 at M0 B1 B2 ⊢
  have c0 := cell_of_one B1.out
  have gs := lt_of_block B1.out
  have gr := lt_of_block B2.out
  obtain ⟨gb, hgb⟩ : ∃ gb, gb = w.heap.size := ⟨_, rfl⟩
  rw [← hgb] at B1 B2 c0 gs gr ⊢
  have HGB := Lib.hid hgb
  clear hgb
  refine (R0.out W0 gb M0.out c0).mono ?_
  rintro e w1 ⟨rfl, rfl⟩
  go_wp2_with fail
  refine (R1.out W0 gb M0.out c0).mono ?_
  rintro e w1 ⟨rfl, rfl⟩
  go_wp2_with fail
  refine (R2.out W0 gb M0.out c0).mono ?_
  rintro e w1 ⟨rfl, rfl⟩
  go_wp2_with fail
  refine (R3.out W0 gb M0.out c0).mono ?_
  rintro e w1 ⟨rfl, rfl⟩
  go_wp2_with fail
  refine (R4.out W0 gb M0.out c0).mono ?_
  rintro e w1 ⟨rfl, rfl⟩
  go_wp2_with fail
  refine (R5.out W0 gb M0.out c0).mono ?_
  rintro e w1 ⟨rfl, rfl⟩
  go_wp2_with fail
  refine (R6.out W0 gb M0.out c0).mono ?_
  rintro e w1 ⟨rfl, rfl⟩
  go_wp2_with fail
  have c5 := cells7 (alloc_at (w := W0) (o := .cells #[.int .u64 x0, .int .i64 x1, .int .i64 x2, .int .i64 x3, .int .i64 x4, .int .i64 x5, .int .u64 x6] 32) rfl)
  have M1 := Lib.hid (M0.out.alloc (.cells #[.int .u64 x0, .int .i64 x1, .int .i64 x2, .int .i64 x3, .int .i64 x4, .int .i64 x5, .int .u64 x6] 32))
  have M01 := Lib.hid ((Moves.refl (fun _ => False) W0).alloc (.cells #[.int .u64 x0, .int .i64 x1, .int .i64 x2, .int .i64 x3, .int .i64 x4, .int .i64 x5, .int .u64 x6] 32))
  have g5 : W0.heap.size < (W0.alloc (.cells #[.int .u64 x0, .int .i64 x1, .int .i64 x2, .int .i64 x3, .int .i64 x4, .int .i64 x5, .int .u64 x6] 32)).heap.size := by simp
  generalize W0.alloc (.cells #[.int .u64 x0, .int .i64 x1, .int .i64 x2, .int .i64 x3, .int .i64 x4, .int .i64 x5, .int .u64 x6] 32) = W1 at M1 M01 c5 g5 ⊢
  refine (HE.out W1 M1.out).mono ?_
  rintro e w2 ⟨v', rfl, hm2, hEq⟩
  have M02 := M01.out.trans hm2
  have k0 := (M02.cell (p := ⟨gb, 0, none⟩) gs (fun e => e)).trans c0
  have B2' := (M02.block (gb + 1) gr (fun e => e)).trans B2.out
  obtain ⟨s0, s1, s2, s3, s4, s5, s6⟩ := cells7 B2'
  have f0 : ∀ j, w2.frozen? ⟨gb + 1, j, none⟩ = false := fun j => by simp [World.frozen?, B2']
  have B2h := Lib.hid B2'
  have z2 : gb + 1 < w2.heap.size := lt_of_block B2'
  have c5' : w2.cell? ⟨W0.heap.size, 0, none⟩ = some (.int .u64 x0) ∧ w2.cell? ⟨W0.heap.size, 1, none⟩ = some (.int .i64 x1) ∧ w2.cell? ⟨W0.heap.size, 2, none⟩ = some (.int .i64 x2) ∧ w2.cell? ⟨W0.heap.size, 3, none⟩ = some (.int .i64 x3) ∧ w2.cell? ⟨W0.heap.size, 4, none⟩ = some (.int .i64 x4) ∧ w2.cell? ⟨W0.heap.size, 5, none⟩ = some (.int .i64 x5) ∧ w2.cell? ⟨W0.heap.size, 6, none⟩ = some (.int .u64 x6) :=
    ⟨(hm2.cell g5 (fun e => e)).trans c5.1, (hm2.cell g5 (fun e => e)).trans c5.2.1, (hm2.cell g5 (fun e => e)).trans c5.2.2.1, (hm2.cell g5 (fun e => e)).trans c5.2.2.2.1, (hm2.cell g5 (fun e => e)).trans c5.2.2.2.2.1, (hm2.cell g5 (fun e => e)).trans c5.2.2.2.2.2.1, (hm2.cell g5 (fun e => e)).trans c5.2.2.2.2.2.2⟩
  have M2 := Lib.hid (M1.out.trans hm2)
  have gW : gb + 1 < W0.heap.size := gr
  clear c0 c5 hm2 M02 B2'
  obtain ⟨t0, t1, t2, t3, t4, t5, t6⟩ := c5'
  generalize W0.heap.size = g2 at t0 t1 t2 t3 t4 t5 t6 g5 gW gs gr ⊢
  have HQ := Lib.hid hEq
  clear hEq
  go_wp2_with (first | (go_at_call 104; refine HQ.out.mono ?_; rintro e w3 ⟨rfl, rfl⟩) | fail)
  have e7 := cells7 (set7 (a0 := .int .u64 x0) (a1 := .int .i64 x1) (a2 := .int .i64 x2) (a3 := .int .i64 x3) (a4 := .int .i64 x4) (a5 := .int .i64 x5) (a6 := .int .u64 x6) B2h.out)
  have M3 : Moves (fun _ => False) w (((((((w2.setCell ⟨gb + 1, 0, none⟩ (.int .u64 x0)).setCell ⟨gb + 1, 1, none⟩ (.int .i64 x1)).setCell ⟨gb + 1, 2, none⟩ (.int .i64 x2)).setCell ⟨gb + 1, 3, none⟩ (.int .i64 x3)).setCell ⟨gb + 1, 4, none⟩ (.int .i64 x4)).setCell ⟨gb + 1, 5, none⟩ (.int .i64 x5)).setCell ⟨gb + 1, 6, none⟩ (.int .u64 x6)) := by
    repeat (refine Moves.setCell ?_ (fun (e : gb + 1 < w.heap.size) => absurd e (by have := HGB.out; omega)) _)
    exact M2.out
  generalize (((((((w2.setCell ⟨gb + 1, 0, none⟩ (.int .u64 x0)).setCell ⟨gb + 1, 1, none⟩ (.int .i64 x1)).setCell ⟨gb + 1, 2, none⟩ (.int .i64 x2)).setCell ⟨gb + 1, 3, none⟩ (.int .i64 x3)).setCell ⟨gb + 1, 4, none⟩ (.int .i64 x4)).setCell ⟨gb + 1, 5, none⟩ (.int .i64 x5)).setCell ⟨gb + 1, 6, none⟩ (.int .u64 x6)) = W3 at e7 M3 ⊢
  obtain ⟨e0, e1, e2, e3, e4, e5, e6⟩ := e7
  exact bodyPost_ret (v := .tuple #[blkV ⟨x0, ⟨x1, x2, x3⟩, x4, x5, x6⟩, .int .i64 0]) (by simp [results, Try.results63, go_sem, e0, e1, e2, e3, e4, e5, e6]) rfl ⟨rfl, M3⟩
end Go.Proofs.Ytnagpianaghjeaa.Sl
namespace Go.Proofs.Ytnagpianaghjeaa.Sl
open Go Go.RowKit Go.Proofs

def DecPost (w : World) (r : Option Blk) (e : Ending) (w' : World) : Prop := e = .returned (.tuple #[blkV (r.getD zeroB), .int .i64 (if r.isSome then 0 else 2)]) ∧ Moves (fun _ => False) w w'
/-- What Decode answers of a row of bytes. -/
theorem decode_any {w : World} {L : Nat → Prop} {v : Value} {s : List Int} (h : BRow w L v s) (hl : 64 ≤ s.length) : Calls Try.prog 63 #[v] w (DecPost w (decS crcL s)) := by
  have hr := fun (W : World) (g : Nat) (hW : Moves (fun _ => False) w W) (hc : W.cell? ⟨g, 0, none⟩ = some v) (p n : Nat) (h1 : 1 ≤ n) (h8 : n ≤ 8) (hp : p + n ≤ 44) => reader_ok (h.moves hW (fun _ _ _ e => e)) hc p n h1 h8 (by omega)
  have hx : ∀ p, 0 ≤ getL s p 4 ∧ getL s p 4 < 4294967296 := fun p => getL_lt h.2.1 p 4
  have hlen := h.2.2
  have hB := h
  obtain ⟨⟨A, c, rfl, -⟩, -⟩ := h
  rw [List.length_map] at hr hB ⊢
  by_cases hg : GoodB (readS s)
  · have hE := fun W (hW : Moves (fun _ => False) w W) => (encode_ok hg W).mono (R' := fun e w' => ∃ v', e = .returned (.tuple #[v', .int .i64 0]) ∧ Moves (fun _ => False) W w' ∧ Calls Try.prog 104 #[v', .slice A s.length c] w' (SameV w' (.bool (decide (encS crcL (readS s) = s))))) (fun e w' ⟨v', he, hn⟩ => ⟨v', he, hn.2, equal_any (hn.row (encS_byte _ _) (by have := encS_len crcL hg.1.1.1; have := hg.1.1.2.1; omega)) (hB.moves (hW.trans hn.2) (fun _ _ _ e => e))⟩)
    by_cases hq : encS crcL (readS s) = s
    · have hd : decS crcL s = some (readS s) := by unfold decS; rw [if_pos ⟨hl, hg, hq⟩]
      rw [hd]
      rw [decide_eq_true hq] at hE
      exact decode_eq (by omega) (by omega) (hx 16) (hx 20) (hx 24) (hx 28) (hx 32) (fun W g hW hc => hr W g hW hc 8 8 (by decide) (by decide) (by decide)) (fun W g hW hc => hr W g hW hc 16 4 (by decide) (by decide) (by decide)) (fun W g hW hc => hr W g hW hc 20 4 (by decide) (by decide) (by decide)) (fun W g hW hc => hr W g hW hc 24 4 (by decide) (by decide) (by decide)) (fun W g hW hc => hr W g hW hc 28 4 (by decide) (by decide) (by decide)) (fun W g hW hc => hr W g hW hc 32 4 (by decide) (by decide) (by decide)) (fun W g hW hc => hr W g hW hc 36 8 (by decide) (by decide) (by decide)) hE
    · have hd : decS crcL s = none := by unfold decS; rw [if_neg (fun e => hq e.2.2)]
      rw [hd]
      rw [decide_eq_false hq] at hE
      exact decode_ne (by omega) (by omega) (hx 16) (hx 20) (hx 24) (hx 28) (hx 32) (fun W g hW hc => hr W g hW hc 8 8 (by decide) (by decide) (by decide)) (fun W g hW hc => hr W g hW hc 16 4 (by decide) (by decide) (by decide)) (fun W g hW hc => hr W g hW hc 20 4 (by decide) (by decide) (by decide)) (fun W g hW hc => hr W g hW hc 24 4 (by decide) (by decide) (by decide)) (fun W g hW hc => hr W g hW hc 28 4 (by decide) (by decide) (by decide)) (fun W g hW hc => hr W g hW hc 32 4 (by decide) (by decide) (by decide)) (fun W g hW hc => hr W g hW hc 36 8 (by decide) (by decide) (by decide)) hE
  · have hd : decS crcL s = none := by unfold decS; rw [if_neg (fun e => hg e.2.1)]
    rw [hd]
    have hE := fun W (_ : Moves (fun _ => False) w W) => (encode_bad hg W).mono (R' := fun e w' => ∃ v', e = .returned (.tuple #[v', .int .i64 1]) ∧ Moves (fun _ => False) W w') (fun e w' ⟨he, hm⟩ => ⟨_, he, hm⟩)
    exact decode_bad (by omega) (by omega) (hx 16) (hx 20) (hx 24) (hx 28) (hx 32) (fun W g hW hc => hr W g hW hc 8 8 (by decide) (by decide) (by decide)) (fun W g hW hc => hr W g hW hc 16 4 (by decide) (by decide) (by decide)) (fun W g hW hc => hr W g hW hc 20 4 (by decide) (by decide) (by decide)) (fun W g hW hc => hr W g hW hc 24 4 (by decide) (by decide) (by decide)) (fun W g hW hc => hr W g hW hc 28 4 (by decide) (by decide) (by decide)) (fun W g hW hc => hr W g hW hc 32 4 (by decide) (by decide) (by decide)) (fun W g hW hc => hr W g hW hc 36 8 (by decide) (by decide) (by decide)) hE
end Go.Proofs.Ytnagpianaghjeaa.Sl
namespace Go.Proofs.Ytnagpianaghjeaa.Sl
open Go Go.RowKit Go.Proofs
open Pl (DS IsDisk DOwn DPost)

def fitsB (S : DS) (g : Geo) : Bool := decide (g.sector = S.size) && decide (secsG g ≤ S.kept.length)
set_option maxRecDepth 100000 in
set_option maxHeartbeats 2000000 in
theorem fits_any {w : World} {base d : Nat} {S : DS} (h : IsDisk w base d S) {g : Geo} (hn : NearG g) : Calls Try.prog 57 #[.pointer (some ⟨d, 0, none⟩), geoV g] w (MovV w (.bool (fitsB S g))) := by
  have HS := Lib.hid (fun W (hW : Moves (fun _ => False) w W) => Pl.shape_any (h.moves0 hW))
  have HC := Lib.hid (fun W => sectors_ok hn W)
  have hf : fitsB S g = (decide (g.sector = S.size) && decide (secsG g ≤ S.kept.length)) := rfl
  have HF := Lib.hid hf
  clear hf h hn
  generalize fitsB S g = r at HF ⊢
  obtain ⟨s, l, n⟩ := g
  dsimp only at HF
  generalize secsG ⟨s, l, n⟩ = q at HF HC
  generalize S.size = z at HF HS
  generalize S.kept.length = k at HF HS
  have hm0 := (Moves.refl (fun _ => False) w).alloc (.cells #[.int .i64 s, .int .i64 l, .int .i64 n] 25)
  have hb0 := heap_alloc_new w (.cells #[.int .i64 s, .int .i64 l, .int .i64 n] 25)
  have hgl : w.heap.size < (w.alloc (.cells #[.int .i64 s, .int .i64 l, .int .i64 n] 25)).heap.size := by simp
  by_cases h1 : s = (z : Int)
  · have e1 : (s == (z : Int)) = true := by simpa using h1
    rw [decide_eq_true h1, Bool.true_and] at HF
    clear h1
    go_enter Try.func57, Try.ntmps57
    go_wp2_with fail
    generalize w.alloc (.cells #[.int .i64 s, .int .i64 l, .int .i64 n] 25) = W0 at hm0 hb0 hgl ⊢
    refine (HS.out W0 hm0).mono ?_
    rintro e w1 ⟨rfl, hm1⟩
    have hb1 := (hm1.block _ hgl (fun e => e)).trans hb0
    obtain ⟨c0, c1, c2⟩ := cells3 hb1
    have hM := Lib.hid (hm0.trans hm1)
    clear hm0 hb0 hgl hm1 hb1
    go_wp2_with fail
    refine (HC.out _).mono ?_
    rintro e w2 ⟨rfl, hm2⟩
    go_wp2
    go_ret
    exact ⟨congrArg (fun x => Ending.returned (.bool x)) HF.out.symm, hM.out.trans hm2⟩
  · have e1 : (s == (z : Int)) = false := by simpa using h1
    rw [decide_eq_false h1, Bool.false_and] at HF
    clear h1
    go_enter Try.func57, Try.ntmps57
    go_wp2_with fail
    generalize w.alloc (.cells #[.int .i64 s, .int .i64 l, .int .i64 n] 25) = W0 at hm0 hb0 hgl ⊢
    refine (HS.out W0 hm0).mono ?_
    rintro e w1 ⟨rfl, hm1⟩
    have hb1 := (hm1.block _ hgl (fun e => e)).trans hb0
    obtain ⟨c0, c1, c2⟩ := cells3 hb1
    have hM := Lib.hid (hm0.trans hm1)
    clear hm0 hb0 hgl hm1 hb1
    go_wp2
    go_ret
    exact ⟨congrArg (fun x => Ending.returned (.bool x)) HF.out.symm, hM.out⟩
/-- A disk on which nothing waits, the power on. -/
def calmS (z : Nat) (K : List (List Int)) (armed : Bool) (left : Int) (keep : List Bool) (writes : Int) : DS := { size := z, kept := K, secs := [], data := [], off := false, armed := armed, left := left, keep := keep, writes := writes }
theorem calm_settle (z : Nat) (K : List (List Int)) (a : Bool) (l : Int) (k : List Bool) (w : Int) (f : Nat → Bool) : Pl.settleS (calmS z K a l k w) f = calmS z K a l k w := rfl
theorem calm_put_settle (z : Nat) (K : List (List Int)) (a : Bool) (l : Int) (k : List Bool) (w : Int) (i : Int) (b : List Int) : Pl.settleS (Pl.putS (calmS z K a l k w) i b) (fun _ => true) = calmS z (K.set i.toNat b) a l k (w + 1) := rfl
theorem calm_cut (z : Nat) (K : List (List Int)) (a : Bool) (l : Int) (k : List Bool) (w : Int) (bs : List Bool) : Pl.cutS (calmS z K a l k w) bs = { calmS z K false l [] w with off := true } := rfl
theorem calm_left (z : Nat) (K : List (List Int)) (a : Bool) (l : Int) (k : List Bool) (w : Int) (x : Int) : { calmS z K a l k w with left := x } = calmS z K a x k w := rfl
theorem calm_on (z : Nat) (K : List (List Int)) (a : Bool) (l : Int) (k : List Bool) (w : Int) : ({ ({ calmS z K a l k w with off := true } : DS) with off := false } : DS) = calmS z K a l k w := rfl
end Go.Proofs.Ytnagpianaghjeaa.Sl
namespace Go.Proofs.Ytnagpianaghjeaa.Sl
open Go Go.RowKit Go.Proofs
open Pl (DS IsDisk DOwn DPost DMv DKeep)

theorem NewB.form {w w' : World} {v : Value} {bs : List Int} (h : NewB w v bs w') (h0 : 0 < bs.length) : ∃ g c cur, v = .slice (some ⟨g, 0, none⟩) bs.length c ∧ w'.heap[g]? = some (.cells cur 5 (0, 0)) := by
  rcases h.1.2 with ⟨-, h1⟩ | ⟨g, cap, cur, hv, -, hg, -⟩
  · omega
  · exact ⟨g, cap, cur, hv, hg⟩
theorem BRow.at {w : World} {L : Nat → Prop} {g o n c : Nat} {bs : List Int} (h : BRow w L (.slice (some ⟨g, o, none⟩) n c) bs) : BRow w (fun k => k = g) (.slice (some ⟨g, o, none⟩) n c) bs := by
  obtain ⟨⟨A, c', hv, hc, hx⟩, hr⟩ := h
  refine ⟨⟨A, c', hv, hc, fun h0 => ?_⟩, hr⟩
  obtain ⟨g', o', hA, -, hlt, hcell⟩ := hx h0
  refine ⟨g', o', hA, ?_, hlt, hcell⟩
  rw [hA] at hv
  injection hv with hv
  injection hv with hv
  injection hv with hv
  exact hv.symm
/-- A block that is none of a disk's. -/
theorem apart' {w : World} {base d g : Nat} {S : DS} {cs : Array Value} {t : TypeId} {fr : Nat × Nat} (h : IsDisk w base d S) (hg : w.heap[g]? = some (.cells cs t fr)) (h1 : t ≠ 105) (h2 : t ≠ 55) : ¬ DOwn w d g := h.apart hg h1 h2
def WPost (w : World) (base d : Nat) (S : DS) (v : Value) (e : Ending) (w' : World) : Prop := e = .returned v ∧ IsDisk w' base d S ∧ DMv w d w'
set_option maxRecDepth 100000 in
set_option maxHeartbeats 4000000 in
theorem write_done {w : World} {base d : Nat} {S : DS} (h : IsDisk w base d S) {b : Blk} (hg : GoodB b) (hwf : WfB b) (hfit : fitsB S b.geom = true) (hoff : S.off = false) (hst : Pl.settleS S (fun _ => true) = S) {S1 : DS} (hW : ∀ W (L : Nat → Prop), IsDisk W base d S → ∀ {v : Value}, Row W L v ((encS crcL b).map encX) → (∀ k, L k → k < W.heap.size → k ≠ d) → Calls Try.prog 59 #[.pointer (some ⟨d, 0, none⟩), .int .i64 (b.epoch % 2), v] W (DPost W base d S1 (.int .i64 0))) {S2 : DS} (hoff1 : S1.off = false) (hst1 : Pl.settleS S1 (fun _ => true) = S2) : Calls Try.prog 14 #[.pointer (some ⟨d, 0, none⟩), blkV b] w (WPost w base d S2 (.int .i64 0)) := by
  have HD0 := Lib.hid h
  have HE := Lib.hid (fun W => encode_ok hg W)
  have HBYTE := Lib.hid (encS_byte crcL b)
  have hel := encS_len crcL hg.1.1.1
  have hnear := hg.1.near
  have HLEN : Hid (0 < (encS crcL b).length) := Lib.hid (by have := hnear.1.1; omega)
  have HLEN2 : Hid ((encS crcL b).length ≤ 1000000) := Lib.hid (by have := hnear.1.2; omega)
  have HF0 := Lib.hid (fun W (hW : Moves (fun _ => False) w W) => fits_any (h.moves0 hW) hnear)
  rw [hfit] at HF0
  have HSLOT0 := Lib.hid (fun W => slot_any b.epoch hwf.1 hwf.2.1 W)
  have HOFF := Lib.hid hoff
  have HST := Lib.hid hst
  have HW := Lib.hid hW
  clear h hfit hoff hst hnear hel hwf hg
  have HOFF1 := Lib.hid hoff1
  have HST1 := Lib.hid hst1
  clear hoff1 hst1 hW
  obtain ⟨ep, ⟨s, l, n⟩, sp, wd, lg⟩ := b
  dsimp only at HE HSLOT0 HF0
  have HF := HF0
  have HSLOT := HSLOT0
  clear HF0 HSLOT0
  have hm0 := (Moves.refl (fun _ => False) w).alloc (.cells (blkCells ⟨ep, ⟨s, l, n⟩, sp, wd, lg⟩) 32)
  have hb0 := heap_alloc_new w (.cells (blkCells ⟨ep, ⟨s, l, n⟩, sp, wd, lg⟩) 32)
  have hgl : w.heap.size < (w.alloc (.cells (blkCells ⟨ep, ⟨s, l, n⟩, sp, wd, lg⟩) 32)).heap.size := by simp
  have hdl : d < w.heap.size := HD0.out.lt
  go_enter Try.func14, Try.ntmps14
  go_wp2_with fail
  generalize w.alloc (.cells (blkCells ⟨ep, ⟨s, l, n⟩, sp, wd, lg⟩) 32) = W0 at hm0 hb0 hgl ⊢
  obtain ⟨gb, hgb⟩ : ∃ gb, gb = w.heap.size := ⟨_, rfl⟩
  rw [← hgb] at hb0 hgl ⊢
  clear hgb
  refine (HE.out W0).mono ?_
  rintro e w1 ⟨v', rfl, hnew⟩
  have hb1 := (hnew.2.block _ hgl (fun e => e)).trans hb0
  have hm1 := hm0.trans hnew.2
  obtain ⟨gv, cv, cur, rfl, hvb⟩ := hnew.form HLEN.out
  have hvr := (hnew.row HBYTE.out HLEN2.out).at
  obtain ⟨c0, c1, c2, c3, c4, c5, c6⟩ := cells7 hb1
  clear hb0 hgl hm0 hnew
  go_wp2_with fail
  refine (HF.out w1 hm1).mono ?_
  rintro e w2 ⟨rfl, hm2⟩
  have hb2 := (hm2.block _ (lt_of_block hb1) (fun e => e)).trans hb1
  have hvb2 := (hm2.block _ (lt_of_block hvb) (fun e => e)).trans hvb
  have hvr2 := hvr.moves hm2 (fun _ _ _ e => e)
  have hm02 := hm1.trans hm2
  clear c0 c1 c2 c3 c4 c5 c6 hm1 hm2 hb1 hvb hvr
  have hD2 := HD0.out.moves0 hm02
  have hv2 := DMv.of0 hm02 hdl
  go_wp2_with fail
  refine (Pl.sync_on hD2 HOFF.out).mono ?_
  rintro e w3 ⟨rfl, hd3, hm3, hk3⟩
  rw [HST.out] at hd3
  have hnd := apart' hD2 hb2 (by decide) (by decide)
  have hndv := apart' hD2 hvb2 (by decide) (by decide)
  have hb3 := (hm3.block _ (lt_of_block hb2) hnd).trans hb2
  have hvb3 := (hm3.block _ (lt_of_block hvb2) hndv).trans hvb2
  have hvr3 := hvr2.moves hm3 (fun i hi _ => by rw [hi]; exact hndv)
  obtain ⟨c0, c1, c2, c3, c4, c5, c6⟩ := cells7 hb3
  have hv3 := hv2.trans ⟨hm3, hk3⟩
  clear hb2 hvb2 hvr2 hnd hndv hm3 hk3 hm02 hb3 hv2 hD2
  go_wp2_with fail
  refine (HSLOT.out _).mono ?_
  rintro e w3' ⟨rfl, rfl⟩
  go_wp2_with fail
  have hap : ∀ k, k = gv → k < w3.heap.size → k ≠ d := fun k e _ e2 => (apart' hd3 hvb3 (by decide) (by decide)) (.inl (by rw [← e]; exact e2))
  refine (HW.out w3 _ hd3 hvr3.1 hap).mono ?_
  rintro e w4 ⟨rfl, hd4, hm4, hk4⟩
  have hv4 := hv3.trans ⟨hm4, hk4⟩
  clear c0 c1 c2 c3 c4 c5 c6 hvb3 hvr3 hap hm4 hk4 hv3 hd3
  go_wp2_with fail
  refine (Pl.sync_on hd4 HOFF1.out).mono ?_
  rintro e w5 ⟨rfl, hd5, hm5, hk5⟩
  rw [HST1.out] at hd5
  have hv5 := hv4.trans ⟨hm5, hk5⟩
  clear hd4 hm5 hk5 hv4
  go_wp2
  go_ret
  exact ⟨rfl, hd5, hv5⟩
set_option maxRecDepth 100000 in
set_option maxHeartbeats 4000000 in
theorem write_gone {w : World} {base d : Nat} {S : DS} (h : IsDisk w base d S) {b : Blk} (hg : GoodB b) (hwf : WfB b) (hfit : fitsB S b.geom = true) (hoff : S.off = false) (hst : Pl.settleS S (fun _ => true) = S) {S1 : DS} (hW : ∀ W (L : Nat → Prop), IsDisk W base d S → ∀ {v : Value}, Row W L v ((encS crcL b).map encX) → (∀ k, L k → k < W.heap.size → k ≠ d) → Calls Try.prog 59 #[.pointer (some ⟨d, 0, none⟩), .int .i64 (b.epoch % 2), v] W (DPost W base d S1 (.int .i64 7))) : Calls Try.prog 14 #[.pointer (some ⟨d, 0, none⟩), blkV b] w (WPost w base d S1 (.int .i64 7)) := by
  have HD0 := Lib.hid h
  have HE := Lib.hid (fun W => encode_ok hg W)
  have HBYTE := Lib.hid (encS_byte crcL b)
  have hel := encS_len crcL hg.1.1.1
  have hnear := hg.1.near
  have HLEN : Hid (0 < (encS crcL b).length) := Lib.hid (by have := hnear.1.1; omega)
  have HLEN2 : Hid ((encS crcL b).length ≤ 1000000) := Lib.hid (by have := hnear.1.2; omega)
  have HF0 := Lib.hid (fun W (hW : Moves (fun _ => False) w W) => fits_any (h.moves0 hW) hnear)
  rw [hfit] at HF0
  have HSLOT0 := Lib.hid (fun W => slot_any b.epoch hwf.1 hwf.2.1 W)
  have HOFF := Lib.hid hoff
  have HST := Lib.hid hst
  have HW := Lib.hid hW
  clear h hfit hoff hst hnear hel hwf hg
  clear hW
  obtain ⟨ep, ⟨s, l, n⟩, sp, wd, lg⟩ := b
  dsimp only at HE HSLOT0 HF0
  have HF := HF0
  have HSLOT := HSLOT0
  clear HF0 HSLOT0
  have hm0 := (Moves.refl (fun _ => False) w).alloc (.cells (blkCells ⟨ep, ⟨s, l, n⟩, sp, wd, lg⟩) 32)
  have hb0 := heap_alloc_new w (.cells (blkCells ⟨ep, ⟨s, l, n⟩, sp, wd, lg⟩) 32)
  have hgl : w.heap.size < (w.alloc (.cells (blkCells ⟨ep, ⟨s, l, n⟩, sp, wd, lg⟩) 32)).heap.size := by simp
  have hdl : d < w.heap.size := HD0.out.lt
  go_enter Try.func14, Try.ntmps14
  go_wp2_with fail
  generalize w.alloc (.cells (blkCells ⟨ep, ⟨s, l, n⟩, sp, wd, lg⟩) 32) = W0 at hm0 hb0 hgl ⊢
  obtain ⟨gb, hgb⟩ : ∃ gb, gb = w.heap.size := ⟨_, rfl⟩
  rw [← hgb] at hb0 hgl ⊢
  clear hgb
  refine (HE.out W0).mono ?_
  rintro e w1 ⟨v', rfl, hnew⟩
  have hb1 := (hnew.2.block _ hgl (fun e => e)).trans hb0
  have hm1 := hm0.trans hnew.2
  obtain ⟨gv, cv, cur, rfl, hvb⟩ := hnew.form HLEN.out
  have hvr := (hnew.row HBYTE.out HLEN2.out).at
  obtain ⟨c0, c1, c2, c3, c4, c5, c6⟩ := cells7 hb1
  clear hb0 hgl hm0 hnew
  go_wp2_with fail
  refine (HF.out w1 hm1).mono ?_
  rintro e w2 ⟨rfl, hm2⟩
  have hb2 := (hm2.block _ (lt_of_block hb1) (fun e => e)).trans hb1
  have hvb2 := (hm2.block _ (lt_of_block hvb) (fun e => e)).trans hvb
  have hvr2 := hvr.moves hm2 (fun _ _ _ e => e)
  have hm02 := hm1.trans hm2
  clear c0 c1 c2 c3 c4 c5 c6 hm1 hm2 hb1 hvb hvr
  have hD2 := HD0.out.moves0 hm02
  have hv2 := DMv.of0 hm02 hdl
  go_wp2_with fail
  refine (Pl.sync_on hD2 HOFF.out).mono ?_
  rintro e w3 ⟨rfl, hd3, hm3, hk3⟩
  rw [HST.out] at hd3
  have hnd := apart' hD2 hb2 (by decide) (by decide)
  have hndv := apart' hD2 hvb2 (by decide) (by decide)
  have hb3 := (hm3.block _ (lt_of_block hb2) hnd).trans hb2
  have hvb3 := (hm3.block _ (lt_of_block hvb2) hndv).trans hvb2
  have hvr3 := hvr2.moves hm3 (fun i hi _ => by rw [hi]; exact hndv)
  obtain ⟨c0, c1, c2, c3, c4, c5, c6⟩ := cells7 hb3
  have hv3 := hv2.trans ⟨hm3, hk3⟩
  clear hb2 hvb2 hvr2 hnd hndv hm3 hk3 hm02 hb3 hv2 hD2
  go_wp2_with fail
  refine (HSLOT.out _).mono ?_
  rintro e w3' ⟨rfl, rfl⟩
  go_wp2_with fail
  have hap : ∀ k, k = gv → k < w3.heap.size → k ≠ d := fun k e _ e2 => (apart' hd3 hvb3 (by decide) (by decide)) (.inl (by rw [← e]; exact e2))
  refine (HW.out w3 _ hd3 hvr3.1 hap).mono ?_
  rintro e w4 ⟨rfl, hd4, hm4, hk4⟩
  have hv4 := hv3.trans ⟨hm4, hk4⟩
  clear c0 c1 c2 c3 c4 c5 c6 hvb3 hvr3 hap hm4 hk4 hv3 hd3
  go_wp2
  go_ret
  exact ⟨rfl, hd4, hv4⟩
set_option maxRecDepth 100000 in
set_option maxHeartbeats 4000000 in
theorem write_nofit {w : World} {base d : Nat} {S : DS} (h : IsDisk w base d S) {b : Blk} (hg : GoodB b) (hfit : fitsB S b.geom = false) : Calls Try.prog 14 #[.pointer (some ⟨d, 0, none⟩), blkV b] w (MovV w (.int .i64 1)) := by
  have HD0 := Lib.hid h
  have HE := Lib.hid (fun W => encode_ok hg W)
  have HBYTE := Lib.hid (encS_byte crcL b)
  have hel := encS_len crcL hg.1.1.1
  have hnear := hg.1.near
  have HLEN : Hid (0 < (encS crcL b).length) := Lib.hid (by have := hnear.1.1; omega)
  have HLEN2 : Hid ((encS crcL b).length ≤ 1000000) := Lib.hid (by have := hnear.1.2; omega)
  have HF := Lib.hid (fun W (hW : Moves (fun _ => False) w W) => fits_any (h.moves0 hW) hnear)
  rw [hfit] at HF
  clear h hfit hnear hel hg
  obtain ⟨ep, ⟨s, l, n⟩, sp, wd, lg⟩ := b
  dsimp only at HE HF
  have hm0 := (Moves.refl (fun _ => False) w).alloc (.cells (blkCells ⟨ep, ⟨s, l, n⟩, sp, wd, lg⟩) 32)
  have hb0 := heap_alloc_new w (.cells (blkCells ⟨ep, ⟨s, l, n⟩, sp, wd, lg⟩) 32)
  have hgl : w.heap.size < (w.alloc (.cells (blkCells ⟨ep, ⟨s, l, n⟩, sp, wd, lg⟩) 32)).heap.size := by simp
  have hdl : d < w.heap.size := HD0.out.lt
  go_enter Try.func14, Try.ntmps14
  go_wp2_with fail
  generalize w.alloc (.cells (blkCells ⟨ep, ⟨s, l, n⟩, sp, wd, lg⟩) 32) = W0 at hm0 hb0 hgl ⊢
  obtain ⟨gb, hgb⟩ : ∃ gb, gb = w.heap.size := ⟨_, rfl⟩
  rw [← hgb] at hb0 hgl ⊢
  clear hgb
  refine (HE.out W0).mono ?_
  rintro e w1 ⟨v', rfl, hnew⟩
  have hb1 := (hnew.2.block _ hgl (fun e => e)).trans hb0
  have hm1 := hm0.trans hnew.2
  obtain ⟨gv, cv, cur, rfl, hvb⟩ := hnew.form HLEN.out
  have hvr := (hnew.row HBYTE.out HLEN2.out).at
  obtain ⟨c0, c1, c2, c3, c4, c5, c6⟩ := cells7 hb1
  clear hb0 hgl hm0 hnew
  go_wp2_with fail
  refine (HF.out w1 hm1).mono ?_
  rintro e w2 ⟨rfl, hm2⟩
  have hb2 := (hm2.block _ (lt_of_block hb1) (fun e => e)).trans hb1
  have hvb2 := (hm2.block _ (lt_of_block hvb) (fun e => e)).trans hvb
  have hvr2 := hvr.moves hm2 (fun _ _ _ e => e)
  have hm02 := hm1.trans hm2
  clear c0 c1 c2 c3 c4 c5 c6 hm1 hm2 hb1 hvb hvr
  go_wp2
  go_ret
  exact ⟨rfl, hm02⟩
set_option maxRecDepth 100000 in
set_option maxHeartbeats 4000000 in
theorem write_noform {w : World} {base d : Nat} {S : DS} (h : IsDisk w base d S) {b : Blk} (hg : ¬ GoodB b) : Calls Try.prog 14 #[.pointer (some ⟨d, 0, none⟩), blkV b] w (MovV w (.int .i64 1)) := by
  have HD0 := Lib.hid h
  have HE := Lib.hid (fun W => encode_bad hg W)
  clear h hg
  obtain ⟨ep, ⟨s, l, n⟩, sp, wd, lg⟩ := b
  have hm0 := (Moves.refl (fun _ => False) w).alloc (.cells (blkCells ⟨ep, ⟨s, l, n⟩, sp, wd, lg⟩) 32)
  have hb0 := heap_alloc_new w (.cells (blkCells ⟨ep, ⟨s, l, n⟩, sp, wd, lg⟩) 32)
  have hgl : w.heap.size < (w.alloc (.cells (blkCells ⟨ep, ⟨s, l, n⟩, sp, wd, lg⟩) 32)).heap.size := by simp
  have hdl : d < w.heap.size := HD0.out.lt
  go_enter Try.func14, Try.ntmps14
  go_wp2_with fail
  generalize w.alloc (.cells (blkCells ⟨ep, ⟨s, l, n⟩, sp, wd, lg⟩) 32) = W0 at hm0 hb0 hgl ⊢
  obtain ⟨gb, hgb⟩ : ∃ gb, gb = w.heap.size := ⟨_, rfl⟩
  rw [← hgb] at hb0 hgl ⊢
  clear hgb
  refine (HE.out W0).mono ?_
  rintro e w1 ⟨rfl, hm1⟩
  go_wp2
  go_ret
  exact ⟨rfl, hm0.trans hm1⟩
end Go.Proofs.Ytnagpianaghjeaa.Sl
