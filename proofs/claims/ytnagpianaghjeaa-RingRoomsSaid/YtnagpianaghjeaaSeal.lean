/-
  crc.Seal.
-/
import Derived.Test.YtnagpianaghjeaaSum
import Derived.Test.YtnagpianaghjeaaSupPlain
import Derived.Laws.OwnMore
import Derived.Laws.MakeOwn
namespace Go.Proofs.Ytnagpianaghjeaa.Sl
open Go Go.RowKit Go.Proofs

theorem BRow.moves {S L : Nat → Prop} {w w' : World} {v : Value} {bs : List Int} (h : BRow w L v bs) (hm : Moves S w w') (hs : ∀ i, L i → i < w.heap.size → ¬ S i) : BRow w' L v bs := ⟨h.1.moves hm hs, h.2⟩
theorem BRow.below {L : Nat → Prop} {w w' : World} {v : Value} {bs : List Int} (h : BRow w L v bs) (hm : Below w.heap.size w w') : BRow w' L v bs := h.moves (S := fun _ => False) (Moves.of_below hm) (fun _ _ _ e => e)
theorem BRow.mono {L L' : Nat → Prop} {w : World} {v : Value} {bs : List Int} (h : BRow w L v bs) (hl : ∀ i, L i → i < w.heap.size → L' i) : BRow w L' v bs := ⟨h.1.mono hl, h.2⟩
/-- A whole block of bytes as a row. -/
theorem BRow.of_block {w : World} {g n : Nat} {bs : List Int} (hn : bs.length = n) (hg : w.heap[g]? = some (.cells (bs.map encX).toArray 5 (0, 0))) (hb : ∀ x ∈ bs, 0 ≤ x ∧ x < 256) (hl : bs.length ≤ 1000000) : BRow w (fun k => k = g) (.slice (some ⟨g, 0, none⟩) n n) bs := by
  subst hn
  refine ⟨⟨some ⟨g, 0, none⟩, bs.length, by rw [List.length_map], by rw [List.length_map]; exact Nat.le_refl _, fun _ => ⟨g, 0, rfl, rfl, (Array.getElem?_eq_some_iff.1 hg).1, fun j u hu => ?_⟩⟩, hb, hl⟩
  simp only [World.cell?, hg, Nat.zero_add, Option.isSome_none, Bool.false_eq_true, if_false]
  rw [List.getElem?_toArray]
  exact hu
theorem own_weakS {w : World} {base base' : Nat} {e : TypeId} {size n : Nat} {v : Value} {xs : List Value} (hb : base' ≤ base) (h : w.ownsRow base e size v n xs) : w.ownsRow base' e size v n xs := by
  refine ⟨h.1, ?_⟩
  rcases h.2 with hn | ⟨g, cap, cur, rfl, hb', r⟩
  · exact .inl hn
  · exact .inr ⟨g, cap, cur, rfl, Nat.le_trans hb hb', r⟩
theorem NewB.row {w w' : World} {v : Value} {bs : List Int} (h : NewB w v bs w') (hb : ∀ x ∈ bs, 0 ≤ x ∧ x < 256) (hl : bs.length ≤ 1000000) : BRow w' (fun k => w.heap.size ≤ k) v bs := ⟨Row.of_owns h.1, hb, hl⟩
theorem NewB.after {w0 w w' : World} {v : Value} {bs : List Int} (h : NewB w v bs w') (h0 : Moves (fun _ => False) w0 w) : NewB w0 v bs w' := ⟨own_weakS h0.size h.1, h0.trans h.2⟩
theorem crcL_u32 (l : List Int) : 0 ≤ crcL l ∧ crcL l < 4294967296 := by
  unfold crcL
  have := (~~~ (crcAll (~~~ 0#32) l)).isLt
  omega
def OneB (w : World) (bs : List Int) (e : Ending) (w' : World) : Prop := ∃ v', e = .returned v' ∧ NewB w v' bs w'
theorem made_zero (n : Nat) : madeCells #[.int .u8 0] n = ((List.replicate n (0 : Int)).map encX).toArray := by
  have h := toList_madeCells_one (.int .u8 0) n
  rw [List.map_replicate]
  rw [← h]
theorem splice_map (bs : List Int) (m : Nat) : splice ((List.replicate (bs.length + m) (0 : Int)).map encX) 0 (bs.map encX) = (bs ++ List.replicate m 0).map encX := by
  unfold splice
  rw [List.length_map, Nat.zero_add, List.take_zero, List.nil_append, List.map_append, ← List.map_drop, List.drop_replicate, Nat.add_sub_cancel_left]
set_option maxRecDepth 100000 in
set_option maxHeartbeats 2000000 in
theorem seal_any {w : World} {L : Nat → Prop} {v : Value} {bs : List Int} (h : BRow w L v bs) (h0 : 0 < bs.length) (hl : bs.length ≤ 900000) : Calls Try.prog 98 #[v] w (OneB w (sealL crcL bs)) := by
  have HR := Lib.hid h
  obtain ⟨⟨A, c, rfl, hc, hx'⟩, hb, hlen⟩ := h
  rw [List.length_map] at hc hx' HR ⊢
  obtain ⟨g, o, rfl, -, hgl, hcell⟩ := hx' (by omega)
  obtain ⟨i5, hi5, hp0, hp1, hp2⟩ := info_parts infoX
  have hmk := fun W => run_make_row (P := Try.prog) 55 5 i5 _ Try.underlying55 hi5 hp0 hp1 rfl .i64 .i64 (bs.length + 4) (by rw [hp2]; omega) (by omega) W
  rw [show (((bs.length + 4 : Nat)) : Int) = (bs.length : Int) + 4 from rfl, made_zero] at hmk
  have hsrc : ∀ j v, (bs.map encX)[j]? = some v → (w.alloc (.cells ((List.replicate (bs.length + 4) (0 : Int)).map encX).toArray 5)).cell? ((⟨g, o, none⟩ : Addr).add j) = some v := fun j v hv => by
    have e : (⟨g, o, none⟩ : Addr).add j = ⟨g, o + j, none⟩ := by
      unfold Addr.add
      by_cases hj : j = 0
      · subst hj; simp
      · simp [hj]
    rw [e]
    exact (World.cell?_alloc_lt w _ ⟨g, o + j, none⟩ hgl).trans (hcell j v hv)
  have hone : ∀ v ∈ bs.map encX, v.oneCell' = true := fun v hv => by obtain ⟨y, -, rfl⟩ := List.mem_map.1 hv; rfl
  have b3 : (bs.length : Int) ≤ 900000 := by omega
  have HB := Lib.hid hb
  have HC := Lib.hid hcell
  have hz := crcL_u32 bs
  obtain ⟨hz0, hz1⟩ := hz
  clear hx' hcell hb
  generalize hzz : crcL bs = z at hz0 hz1
  have HZ := Lib.hid hzz
  clear hzz
  generalize hX : (List.replicate (bs.length + 4) (0 : Int)).map encX = X at hmk hsrc
  have HX := Lib.hid hX
  have hXl : X.length = bs.length + 4 := by rw [← hX, List.length_map, List.length_replicate]
  have HXL := Lib.hid hXl
  clear hX hXl
  go_enter Try.func98, Try.ntmps98
  have HSum : Hid (∀ W, Below w.heap.size w W → Calls Try.prog 120 #[.slice (some ⟨W.heap.size, 0, none⟩) 1 1] (W.alloc (.cells #[.slice (some ⟨g, o, none⟩) bs.length c] 55)) (SameV (W.alloc (.cells #[.slice (some ⟨g, o, none⟩) bs.length c] 55)) (.int .u32 z))) := Lib.hid fun W hW => by
    have := sum_one (w := W.alloc (.cells #[.slice (some ⟨g, o, none⟩) bs.length c] 55)) (k := W.heap.size) (HR.out.below (hW.alloc hW.size _)) (cell_of_one (heap_alloc_new W _))
    rwa [HZ.out] at this
  have HPut : Hid (∀ W, w.heap.size ≤ W.heap.size → W.heap[w.heap.size]? = some (.cells (splice X 0 (bs.map encX)).toArray 5 (0, 0)) → Calls Try.prog 75 #[.slice (some ⟨w.heap.size, 0, none⟩) (bs.length + 4) (bs.length + 4), .int .i64 bs.length, .int .i64 4, .int .u64 z] W (PutPost W (sealL crcL bs))) := Lib.hid fun W _ hg => by
    rw [← HX.out, splice_map] at hg
    have hz0 : ∀ x ∈ bs ++ List.replicate 4 (0 : Int), 0 ≤ x ∧ x < 256 := fun x hx => by
      rcases List.mem_append.1 hx with hx | hx
      · exact HB.out x hx
      · rw [(List.mem_replicate.1 hx).2]; exact ⟨by decide, by decide⟩
    have hr := BRow.of_block (n := bs.length + 4) (by rw [List.length_append, List.length_replicate]) hg hz0 (by rw [List.length_append, List.length_replicate]; omega)
    have := put_ok hr (p := bs.length) (n := 4) (by decide) (by decide) (by rw [List.length_append, List.length_replicate]; omega) z
    unfold sealL
    rw [HZ.out]
    exact this
  clear HR
  go_wp2_with (first
    | (with_reducible refine wpList_copy_splice rfl (.tmp 8) (.tmp 9) 55 55 rfl 5 Try.underlying55 sizeX (some ⟨w.heap.size, 0, none⟩) (some ⟨g, o, none⟩) (bs.length + 4) (bs.length + 4) bs.length c rfl rfl w.heap.size 0 X 5 (heap_alloc_new w _) (bs.map encX) ?_ (fun _ => ⟨rfl, ⟨g, o, none⟩, rfl, hsrc⟩) ?_ hone w.heap.size w ((Below.refl _ _).alloc (Nat.le_refl _) _) (Nat.le_refl _) ?_
       focus (rw [List.length_map]; exact (Nat.min_eq_left (Nat.le_add_right _ _)).symm)
       focus (rw [List.length_map, HXL.out]; omega)
       intro w2 HG2 hB2)
    | (go_at_call 120
       refine (HSum.out _ hB2).mono ?_
       rintro e w1 ⟨rfl, rfl⟩)
    | (go_at_call 75
       refine (HPut.out _ (by have := lt_of_block HG2.out; simp; omega) ((Below.heap_alloc _ _ _ (lt_of_block HG2.out)).trans HG2.out)).mono ?_
       rintro e w1 ⟨v', rfl, hnew⟩)
    | fail)
  go_ret
  exact ⟨v', rfl, hnew.after ((Moves.of_below hB2).alloc _)⟩
end Go.Proofs.Ytnagpianaghjeaa.Sl
