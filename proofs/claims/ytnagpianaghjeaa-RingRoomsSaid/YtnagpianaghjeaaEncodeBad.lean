/-
  sup.Encode of what may not be; bytes as a text; bytes.Equal; the reader inside Decode.
-/
import Derived.Test.YtnagpianaghjeaaEncode
import Derived.Laws.BytesArg
import Derived.Laws.BytesString
import Derived.Lib.BufferRead
namespace Go.Proofs.Ytnagpianaghjeaa.Sl
open Go Go.RowKit Go.Proofs

def BadPost (w : World) (e : Ending) (w' : World) : Prop := e = .returned (.tuple #[.slice none 0 0, .int .i64 1]) ∧ Moves (fun _ => False) w w'
set_option maxRecDepth 100000 in
set_option maxHeartbeats 4000000 in
theorem encode_bad {b : Blk} (h : ¬ GoodB b) (w : World) : Calls Try.prog 56 #[blkV b] w (BadPost w) := by
  have HB := Lib.hid h
  have HC0 := Lib.hid (fun W (hg : ¬ GoodG b.geom) => check_bad hg W)
  have HC1 := Lib.hid (fun W (hg : GoodG b.geom) => check_ok hg W)
  clear h
  obtain ⟨ep, ⟨s, l, n⟩, sp, wd, lg⟩ := b
  dsimp only at HC0 HC1
  have hm0 := (Moves.refl (fun _ => False) w).alloc (.cells (blkCells ⟨ep, ⟨s, l, n⟩, sp, wd, lg⟩) 32)
  have hb0 := heap_alloc_new w (.cells (blkCells ⟨ep, ⟨s, l, n⟩, sp, wd, lg⟩) 32)
  have hgb : w.heap.size < (w.alloc (.cells (blkCells ⟨ep, ⟨s, l, n⟩, sp, wd, lg⟩) 32)).heap.size := by simp
  by_cases hg : GoodG ⟨s, l, n⟩
  · have HC := Lib.hid (fun W => HC1.out W hg)
    have HG := Lib.hid hg
    have HB0 : Hid (∀ W, Moves (fun _ => False) (w.alloc (.cells (blkCells ⟨ep, ⟨s, l, n⟩, sp, wd, lg⟩) 32)) W → _) := Lib.hid fun W hW => cells7 ((hW.block w.heap.size hgb (fun e => e)).trans hb0)
    clear hg HC0 HC1 hb0 hgb
    have HM0 := Lib.hid hm0
    clear hm0
    by_cases h1 : 0 ≤ sp
    · by_cases h2 : sp ≤ 1
      · by_cases h3 : 0 ≤ wd
        · have h4 : n < wd := by
            by_cases q : n < wd
            · exact q
            · exact absurd ⟨HG.out, h1, h2, h3, Int.not_lt.1 q⟩ HB.out
          go_enter Try.func56, Try.ntmps56
          go_wp2_with fail
          refine (HC.out _).mono ?_
          rintro e w1' ⟨rfl, hm1⟩
          obtain ⟨c0, c1, c2, c3, c4, c5, c6⟩ := HB0.out _ hm1
          go_wp2
          go_ret2
          exact ⟨rfl, HM0.out.trans hm1⟩
        · go_enter Try.func56, Try.ntmps56
          go_wp2_with fail
          refine (HC.out _).mono ?_
          rintro e w1' ⟨rfl, hm1⟩
          obtain ⟨c0, c1, c2, c3, c4, c5, c6⟩ := HB0.out _ hm1
          go_wp2
          go_ret2
          exact ⟨rfl, HM0.out.trans hm1⟩
      · go_enter Try.func56, Try.ntmps56
        go_wp2_with fail
        refine (HC.out _).mono ?_
        rintro e w1' ⟨rfl, hm1⟩
        obtain ⟨c0, c1, c2, c3, c4, c5, c6⟩ := HB0.out _ hm1
        go_wp2
        go_ret2
        exact ⟨rfl, HM0.out.trans hm1⟩
    · go_enter Try.func56, Try.ntmps56
      go_wp2_with fail
      refine (HC.out _).mono ?_
      rintro e w1' ⟨rfl, hm1⟩
      obtain ⟨c0, c1, c2, c3, c4, c5, c6⟩ := HB0.out _ hm1
      go_wp2
      go_ret2
      exact ⟨rfl, HM0.out.trans hm1⟩
  · have HC := Lib.hid (fun W => HC0.out W hg)
    clear hg HC0 HC1 hb0 hgb
    have HM0 := Lib.hid hm0
    clear hm0
    go_enter Try.func56, Try.ntmps56
    go_wp2_with fail
    refine (HC.out _).mono ?_
    rintro e w1' ⟨rfl, hm1⟩
    go_wp2
    go_ret2
    exact ⟨rfl, HM0.out.trans hm1⟩
theorem conv_rowS {w : World} {L : Nat → Prop} {v : Value} {bs : List Int} (h : Row w L v (bs.map encX)) : (convert 55 9 v).run Try.prog w = .ok (.string (strOfNums bs)) w := by
  obtain ⟨A, c, rfl, hc, hx⟩ := h
  rw [List.length_map] at hx hc ⊢
  cases A with
  | none =>
    have hb : bs = [] := by
      cases bs with
      | nil => rfl
      | cons a r => obtain ⟨g, o, e, -⟩ := hx (by simp); cases e
    subst hb
    exact Lib.run_convert_nil_bytes w _ _ 5 c Try.underlying55 Try.underlying5 Try.underlying9
  | some a =>
    by_cases h0 : 0 < bs.length
    · obtain ⟨g, o, e, -, -, hcell⟩ := hx h0
      cases e
      exact run_convert_bytes_arg w _ 5 Try.underlying55 Try.underlying5 g o bs.length c bs rfl (fun i hi => hcell i _ (by
        rw [List.getElem?_map, List.getElem?_eq_getElem hi, List.getD_eq_getElem?_getD, List.getElem?_eq_getElem hi]; rfl)) _ Try.underlying9
    · have hb : bs = [] := List.eq_nil_of_length_eq_zero (by omega)
      subst hb
      obtain ⟨g, o, s⟩ := a
      show (convert 55 9 (.slice (some ⟨g, o, s⟩) 0 c)).run Try.prog w = _
      rw [run_convert_bytes_string w _ _ 5 _ 0 c Try.underlying55 Try.underlying5 Try.underlying9]
      have hl : (loadCells ⟨g, o, s⟩ 0).run Try.prog w = .ok ([].map encX).toArray w := run_loadCells_list (P := Try.prog) w ⟨g, o, s⟩ [] (fun j v hj => by simp at hj)
      rw [run_bytesToString w _ 0 c [] hl, foldl_push_bytes]
      rfl
theorem nums_back {a : List Int} (h : ∀ x ∈ a, 0 ≤ x ∧ x < 256) : (strOfNums a).data.toList.map (fun b => (b.toNat : Int)) = a := by
  rw [strOfNums_data, List.map_map]
  conv => rhs; rw [← List.map_id a]
  refine List.map_congr_left fun x hx => ?_
  obtain ⟨h0, h1⟩ := h x hx
  show (((UInt8.ofNat x.toNat).toNat : Nat) : Int) = x
  rw [UInt8.toNat_ofNat_of_lt' (by show x.toNat < 256; omega)]
  omega
theorem str_eq {a b : List Int} (ha : ∀ x ∈ a, 0 ≤ x ∧ x < 256) (hb : ∀ x ∈ b, 0 ≤ x ∧ x < 256) : ((strOfNums a).toList == (strOfNums b).toList) = decide (a = b) := by
  rw [Bool.eq_iff_iff, beq_iff_eq, decide_eq_true_eq]
  constructor
  · intro h
    rw [ByteArray.toList_eq, ByteArray.toList_eq] at h
    rw [← nums_back ha, ← nums_back hb, h]
  · intro h
    rw [h]
set_option maxRecDepth 100000 in
set_option maxHeartbeats 2000000 in
theorem equal_any {w : World} {L L' : Nat → Prop} {v u : Value} {a b : List Int} (ha : BRow w L v a) (hb : BRow w L' u b) : Calls Try.prog 104 #[v, u] w (SameV w (.bool (decide (a = b)))) := by
  have h1 := conv_rowS ha.1
  have h2 := conv_rowS hb.1
  have he := str_eq ha.2.1 hb.2.1
  generalize decide (a = b) = r at he ⊢
  generalize strOfNums a = s at h1 he
  generalize strOfNums b = t at h2 he
  have HE := Lib.hid he
  clear he
  obtain ⟨⟨A, c, rfl, -⟩, -⟩ := ha
  obtain ⟨⟨A', c', rfl, -⟩, -⟩ := hb
  rw [List.length_map] at h1 h2 ⊢
  rw [List.length_map]
  go_enter Try.func104, Try.ntmps104
  go_wp2
  go_ret
  exact ⟨congrArg (fun x => Ending.returned (.bool x)) HE.out, rfl⟩
set_option maxRecDepth 100000 in
set_option maxHeartbeats 2000000 in
theorem reader_ok {w : World} {L : Nat → Prop} {v : Value} {bs : List Int} (h : BRow w L v bs) {g : Nat} (hc : w.cell? ⟨g, 0, none⟩ = some v) (p n : Nat) (h1 : 1 ≤ n) (h8 : n ≤ 8) (hl : p + n ≤ bs.length) : Calls Try.prog 102 #[.int .i64 p, .int .i64 n, .pointer (some ⟨g, 0, none⟩)] w (SameV w (.int .u64 (getL bs p n))) := by
  have HG := Lib.hid (get_ok h h1 h8 hl)
  obtain ⟨⟨A, c, rfl, -⟩, -⟩ := h
  rw [List.length_map] at hc HG
  generalize getL bs p n = x at HG ⊢
  go_enter Try.func102, Try.ntmps102
  go_wp2_with (first | (go_at_call 103; refine HG.out.mono ?_; rintro e w1 ⟨rfl, rfl⟩) | fail)
  go_ret
  exact ⟨rfl, rfl⟩
end Go.Proofs.Ytnagpianaghjeaa.Sl
