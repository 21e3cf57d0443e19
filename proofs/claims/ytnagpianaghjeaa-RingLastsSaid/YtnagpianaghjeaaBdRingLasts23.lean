/-
  Bytes laid behind a row of one's own: append as one law; the document's numbers and sums in bytes (loamref1.Low, loamref2.Low, Sum, Seal).
-/
import Derived.Test.YtnagpianaghjeaaBdRingLasts6
import Derived.Test.YtnagpianaghjeaaBdRingLasts17
namespace Go.Proofs.Ytnagpianaghjeaa.Sl
open Go Go.RowKit Go.Proofs

/-- A row of bytes of one's own. -/
def OB (base : Nat) (w : World) (v : Value) (bs : List Int) : Prop := w.ownsRow base 5 1 v bs.length (bs.map encX)
theorem OB.nil (base : Nat) (w : World) : OB base w (.slice none 0 0) [] := World.ownsRow_nil _ _ _ _
theorem OB.row {base : Nat} {w : World} {v : Value} {bs : List Int} (h : OB base w v bs) (hb : ∀ x ∈ bs, 0 ≤ x ∧ x < 256) (hl : bs.length ≤ 1000000) : BRow w (fun k => base ≤ k) v bs := ⟨Row.of_owns h, hb, hl⟩
theorem OB.moves {base : Nat} {w w' : World} {v : Value} {bs : List Int} (h : OB base w v bs) (hm : Moves (fun _ => False) w w') : OB base w' v bs := own_moves h hm (fun _ _ e => e)
theorem OB.form {base : Nat} {w : World} {v : Value} {bs : List Int} (h : OB base w v bs) : ∃ A c, v = .slice A bs.length c := by
  obtain ⟨A, c, e, -⟩ := own_form h
  exact ⟨A, c, e⟩
theorem OB.newB {w w' : World} {v : Value} {bs : List Int} (h : OB w.heap.size w' v bs) (hm : Moves (fun _ => False) w w') : NewB w v bs w' := ⟨h, hm⟩
theorem NewB.ob {w w' : World} {v : Value} {bs : List Int} (h : NewB w v bs w') {base : Nat} (hb : base ≤ w.heap.size) : OB base w' v bs := own_weakS hb h.1
/-- Blocks of another type than bytes stay. -/
def Stay (w w' : World) : Prop := ∀ (g : Nat) (cs : Array Value) (t : TypeId) (fr : Nat × Nat), w.heap[g]? = some (.cells cs t fr) → t ≠ 5 → w'.heap[g]? = some (.cells cs t fr)
theorem Stay.of {w w' : World} (h : Moves (fun _ => False) w w') : Stay w w' := fun g _ _ _ hg _ => (h.block g (lt_of_block hg) (fun e => e)).trans hg
theorem Stay.trans {w w1 w2 : World} (h : Stay w w1) (k : Stay w1 w2) : Stay w w2 := fun g cs t fr hg ht => k g cs t fr (h g cs t fr hg ht) ht
theorem Stay.grown {w w' : World} {base : Nat} {v : Value} {bs : List Int} (h : OB base w v bs) (hg : w.grownBy w' v.ownBlock) : Stay w w' := fun g cs t fr hb ht => by
  refine (hg.block g (lt_of_block hb) (fun e => ?_)).trans hb
  obtain ⟨cur, hc⟩ := own_block h e.symm
  rw [hb] at hc
  injection hc with hc
  injection hc with _ hc _
  exact ht hc
structure App (w0 w w' : World) (v : Value) (bs : List Int) : Prop where
  ob : OB w0.heap.size w' v bs
  mv : Moves (fun _ => False) w0 w'
  st : Stay w w'
  sz : w.heap.size ≤ w'.heap.size
theorem wpList_appB {w0 w : World} {ops : Array Oper} {rest : List Oper} {o : Oper} {a : Act} {Q : Exit → Act → World → Prop} (hgd : o.guard = none) (s x : Operand) (ho : o.op = .call { callee := .builtin .append, args := #[s, x], argTypes := #[55, 55] })
    {v u : Value} {bs ys : List Int} {L : Nat → Prop} (hv : a.eval s = v) (hx : a.eval x = u) (hown : OB w0.heap.size w v bs) (hsrc : BRow w L u ys) (h0 : Moves (fun _ => False) w0 w) (hlen : bs.length + ys.length ≤ 1000000)
    (h : ∀ v' w', App w0 w w' v' (bs ++ ys) → wpList Try.prog ops Q rest (a.put o.dst v') w') : wpList Try.prog ops Q (o :: rest) a w := by
  obtain ⟨i5, hi5, hp0, hp1, hp2⟩ := info_parts infoX
  obtain ⟨⟨A, c, rfl, hc, hxx⟩, hb, hl⟩ := hsrc
  refine wpList_append_src w hgd s x 55 ho w0.heap.size 5 i5 _ 1 1 Try.underlying55 hi5 hp0 hp1 hp2 rfl (by decide) v bs.length (bs.map encX) hv hown A (ys.map encX).length c (ys.map encX) hx (by rw [Nat.mul_one]) ?_ ?_ ?_ ?_ h0.size ?_
  · intro hpos
    obtain ⟨g, o', e, -, -, hcell⟩ := hxx hpos
    refine ⟨_, e, fun j u hu => ?_⟩
    have := hcell j u hu
    unfold Addr.add
    by_cases hj : j = 0
    · subst hj; simpa using this
    · simpa [hj] using this
  · intro u hu
    obtain ⟨y, -, rfl⟩ := List.mem_map.1 hu
    rfl
  · rw [List.length_map]; unfold maxLen; omega
  · rw [List.length_map]; omega
  · intro v' w' hown' hgrow hblk
    refine h v' w' ⟨?_, ?_, Stay.grown hown hgrow, hgrow.size⟩
    · unfold OB
      rw [List.length_append, List.map_append]
      rw [List.length_map] at hown'
      exact hown'
    · exact h0.grown hgrow (fun k e hk => absurd (hown.lt k e).1 (by omega))
theorem brow_cells {w : World} {L : Nat → Prop} {A : Option Addr} {n c : Nat} {bs : List Int} (h : BRow w L (.slice A n c) bs) : n = bs.length ∧ ∀ b, A = some b → ∀ j u, (bs.map encX)[j]? = some u → w.cell? (b.add j) = some u := by
  obtain ⟨⟨A', c', hv, hc, hx⟩, -⟩ := h
  rw [List.length_map] at hv hx
  injection hv with h1 h2 h3
  subst h1 h2 h3
  refine ⟨rfl, fun b hb j u hj => ?_⟩
  have hj' : j < bs.length := by have := (List.getElem?_eq_some_iff.1 hj).1; rwa [List.length_map] at this
  obtain ⟨g, o', e, -, -, hcell⟩ := hx (by omega)
  rw [hb] at e
  cases e
  have := hcell j u hj
  unfold Addr.add
  by_cases h0 : j = 0
  · subst h0; simpa using this
  · simpa [h0] using this
/-- Onto a row that is full (its capacity its length): a new row. -/
theorem wpList_appFull {w0 w : World} {ops : Array Oper} {rest : List Oper} {o : Oper} {a : Act} {Q : Exit → Act → World → Prop} (hgd : o.guard = none) (s x : Operand) (ho : o.op = .call { callee := .builtin .append, args := #[s, x], argTypes := #[55, 55] })
    {ad : Addr} {n : Nat} {u : Value} {bs ys : List Int} {L L' : Nat → Prop} (hv : a.eval s = .slice (some ad) n n) (hx : a.eval x = u) (hown : BRow w L (.slice (some ad) n n) bs) (hsrc : BRow w L' u ys) (h0 : Moves (fun _ => False) w0 w) (hpos : 0 < ys.length) (hlen : bs.length + ys.length ≤ 1000000)
    (h : ∀ v' w', App w0 w w' v' (bs ++ ys) → wpList Try.prog ops Q rest (a.put o.dst v') w') : wpList Try.prog ops Q (o :: rest) a w := by
  obtain ⟨i5, hi5, hp0, hp1, hp2⟩ := info_parts infoX
  obtain ⟨hn, hcells⟩ := brow_cells hown
  have hsrc' := hsrc
  obtain ⟨⟨A, c, rfl, hc, hxx⟩, hb, hl⟩ := hsrc'
  obtain ⟨hm, hnews⟩ := brow_cells hsrc
  rw [List.length_map] at hx hxx
  obtain ⟨g, o', rfl, -⟩ := hxx hpos
  refine wpList_append_grows w hgd s x 55 ho 5 i5 _ 1 1 Try.underlying55 hi5 hp0 hp1 hp2 rfl (by decide) (some ad) n n (bs.map encX) hv (fun e => by cases e) (by rw [List.length_map, hn, Nat.mul_one]) hcells ⟨g, o', none⟩ ys.length c (ys.map encX) hx (by rw [List.length_map, Nat.mul_one]) (hnews _ rfl) ?_ (by omega) (by unfold maxLen; omega) (by omega) ?_
  · intro u hu
    obtain ⟨y, -, rfl⟩ := List.mem_map.1 hu
    rfl
  · intro v' w' hown' hgrow
    have hm' : Moves (fun _ => False) w w' := ⟨hgrow.os, hgrow.tape, hgrow.output, hgrow.size, fun k hk _ => hgrow.block k hk (fun e => by cases e)⟩
    refine h v' w' ⟨?_, h0.trans hm', Stay.of hm', hgrow.size⟩
    unfold OB
    rw [List.length_append, List.map_append, ← hn]
    exact own_weakS h0.size hown'
theorem BRow.of_const {w : World} {g n : Nat} {fr : Nat × Nat} {bs : List Int} (hn : bs.length = n) (hg : w.heap[g]? = some (.cells (bs.map encX).toArray 5 fr)) (hb : ∀ x ∈ bs, 0 ≤ x ∧ x < 256) (hl : bs.length ≤ 1000000) : BRow w (fun k => k = g) (.slice (some ⟨g, 0, none⟩) n n) bs := by
  subst hn
  refine ⟨⟨some ⟨g, 0, none⟩, bs.length, by rw [List.length_map], by rw [List.length_map]; exact Nat.le_refl _, fun _ => ⟨g, 0, rfl, rfl, (Array.getElem?_eq_some_iff.1 hg).1, fun j u hu => ?_⟩⟩, hb, hl⟩
  simp only [World.cell?, hg, Nat.zero_add, Option.isSome_none, Bool.false_eq_true, if_false]
  rw [List.getElem?_toArray]
  exact hu
theorem OB.one {w : World} (x : Int) : (w.alloc (.cells #[.int .u8 x] 5)).heap[w.heap.size]? = some (.cells ([x].map encX).toArray 5 (0, 0)) := heap_alloc_new w _
theorem lowL_succ (n : Nat) (v : Int) : lowL (n + 1) v = lowL n v ++ [bI v n] := by unfold lowL; rw [List.range_succ, List.map_append]; rfl
theorem lowL_byte (n : Nat) (v : Int) : ∀ x ∈ lowL n v, 0 ≤ x ∧ x < 256 := by
  intro x hx
  unfold lowL at hx
  obtain ⟨i, -, rfl⟩ := List.mem_map.1 hx
  exact bI_byte v i
set_option maxRecDepth 100000 in
set_option maxHeartbeats 2000000 in
theorem low_any {n : Nat} (hn : n ≤ 8) (x : Int) (w : World) : Calls Try.prog 106 #[.int .u64 x, .int .i64 n] w (OneB w (lowL n x)) := by
  have hn8 : (n : Int) ≤ 8 := by omega
  go_enter Try.func106, Try.ntmps106
  go_wp2_with fail
  go_loopg [5, 6] n (fun gg s5 s6 wr => ∃ (i : Nat) (v : Value), i ≤ n ∧ gg = n - i ∧ s6 = .int .i64 i ∧ v = s5 ∧ Hid (OB w.heap.size wr v (lowL i x) ∧ Moves (fun _ => False) w wr))
  case atStart => exact ⟨0, _, Nat.zero_le _, rfl, rfl, rfl, Lib.hid ⟨OB.nil _ _, Moves.refl _ _⟩⟩
  case round =>
    obtain ⟨i, v, hi, hgg, rfl, rfl, HI⟩ := hrel
    have d0 : (0 : Int) ≤ (i : Int) := by omega
    by_cases hlt : i < n
    · have d1 : (i : Int) < (n : Int) := by omega
      go_wp2_with (first
        | (refine wpList_appB rfl (.tmp 12) (.tmp 19) rfl (by rfl) (by rfl) (HI.out.1.moves ((Moves.refl _ wr).alloc _)) (BRow.of_block (bs := [x / 2 ^ (8 * i) % 256]) rfl (OB.one _) (fun y hy => by rw [List.mem_singleton.1 hy, div_byte]; exact bI_byte x i) (by show 1 ≤ 1000000; decide)) (HI.out.2.alloc _) ?_ ?_
           focus (show _ ≤ _; rw [lowL_len]; show i + 1 ≤ 1000000; omega)
           intro v' w' happ)
        | fail)
      go_roundg (n - (i + 1))
      case measure => omega
      case rel =>
        refine ⟨i + 1, v', by omega, rfl, by go_num, rfl, ?_⟩
        have h1 := happ.ob
        rw [div_byte, ← lowL_succ] at h1
        exact Lib.hid ⟨h1, happ.mv⟩
    · obtain rfl : i = n := by omega
      go_wp2_with fail
      go_ret
      exact ⟨_, rfl, HI.out.1, HI.out.2⟩
theorem low4_eq {x : Int} (h0 : 0 ≤ x) (h1 : x < 4294967296) : lowL 4 x = [x % 256, x / 256 % 256, x / 65536 % 256, x / 16777216] := by
  have h : lowL 4 x = [bI x 0, bI x 1, bI x 2, bI x 3] := rfl
  have e : x / 16777216 = x / 16777216 % 256 := by omega
  rw [h, e]
  unfold bI
  simp
set_option maxRecDepth 100000 in
set_option maxHeartbeats 2000000 in
theorem low2_any {x : Int} (h0 : 0 ≤ x) (h1 : x < 4294967296) (w : World) : Calls Try.prog 124 #[.int .u32 x] w (OneB w (lowL 4 x)) := by
  have hb := lowL_byte 4 x
  have hl := lowL_len 4 x
  rw [low4_eq h0 h1] at hb hl ⊢
  go_enter Try.func124, Try.ntmps124
  go_wp2
  go_ret
  exact ⟨_, rfl, own_of_block (bs := [x % 256, x / 256 % 256, x / 65536 % 256, x / 16777216]) rfl (heap_alloc_new w _) (Nat.le_refl _) (by decide), (Moves.refl _ w).alloc _⟩
set_option maxRecDepth 100000 in
set_option maxHeartbeats 2000000 in
theorem sum2_any {w : World} {L : Nat → Prop} {v : Value} {bs : List Int} (h : BRow w L v bs) : Calls Try.prog 125 #[v] w (SameV w (.int .u32 (crcL bs))) := by
  obtain ⟨⟨A, c, rfl, hc, hx⟩, hb, hlen⟩ := h
  rw [List.length_map] at hc hx ⊢
  have HX : Hid (0 < bs.length → ∃ g o, A = some ⟨g, o, none⟩ ∧ ∀ j (hj : j < bs.length), w.cell? ⟨g, o + j, none⟩ = some (.int .u8 bs[j])) := Lib.hid (fun h0 => by
    obtain ⟨g, o, e, -, -, hcell⟩ := hx h0
    exact ⟨g, o, e, fun j hj => hcell j _ (by rw [List.getElem?_map, List.getElem?_eq_getElem hj]; rfl)⟩)
  have HB := Lib.hid hb
  have HN1 : Hid ((((~~~ (0#32 : BitVec 32)).toNat : Nat) : Int) = 4294967295) := Lib.hid rfl
  have HZ : Hid (crcL bs = ((~~~ (crcAll (~~~ 0#32) bs)).toNat : Int)) := Lib.hid rfl
  generalize hs : ~~~ (0#32 : BitVec 32) = s1 at HN1 HZ
  generalize crcL bs = z at HZ ⊢
  clear hx hb hs
  go_enter Try.func125, Try.ntmps125
  go_wp2_with fail
  go_loopg [3, 4] bs.length (fun gg s0 s12 wr => ∃ i : Nat, i ≤ bs.length ∧ gg = bs.length - i ∧ s12 = .int .i64 i ∧ s0 = .int .u32 ((crcAll s1 (bs.take i)).toNat : Int) ∧ wr = w)
  case atStart => exact ⟨0, Nat.zero_le _, rfl, rfl, congrArg (fun x => Value.int .u32 x) HN1.out.symm, rfl⟩
  case round =>
    obtain ⟨i, hi, hg, rfl, rfl, rfl⟩ := hrel
    have b0 : (0 : Int) ≤ (i : Int) := by omega
    have b3 : (bs.length : Int) ≤ 1000000 := by omega
    by_cases hlt : i < bs.length
    · have b1 : (i : Int) < (bs.length : Int) := by omega
      obtain ⟨g, o, rfl, hcell⟩ := HX.out (by omega)
      have q := hcell i hlt
      have hbx := HB.out _ (List.getElem_mem hlt)
      have HE := Lib.hid (crcAll_succ s1 bs hlt)
      clear hcell
      generalize crcAll s1 (bs.take i) = c0 at HE ⊢
      generalize bs[i] = x at q hbx HE
      have HXO := Lib.hid (bits_x c0 hbx.1 hbx.2)
      go_wp2_with fail
      go_loopg [3, 5] 8 (fun gg s0 s20 wq => ∃ k : Nat, k ≤ 8 ∧ gg = 8 - k ∧ s20 = .int .i64 k ∧ s0 = .int .u32 ((crcBits k (c0 ^^^ BitVec.ofInt 32 x)).toNat : Int) ∧ wq = wr)
      case atStart => exact ⟨0, by omega, rfl, rfl, by rw [HXO.out]; rfl, rfl⟩
      case round =>
        obtain ⟨k, hk, hgk, rfl, rfl, rfl⟩ := hrel
        have d0 : (0 : Int) ≤ (k : Int) := by omega
        by_cases hk8 : k < 8
        · have d1 : (k : Int) < 8 := by omega
          obtain ⟨d, hd⟩ : ∃ d, d = crcBits k (c0 ^^^ BitVec.ofInt 32 x) := ⟨_, rfl⟩
          have HD : Hid (crcBits (k + 1) (c0 ^^^ BitVec.ofInt 32 x) = crcBit d) := Lib.hid (by rw [hd]; rfl)
          rw [← hd]
          clear hd
          have hlow := bits_low d
          by_cases hl : d &&& 1#32 = 1#32
          · have HL : Hid (bits .xor .u32 ((d.toNat : Int) / (2 : Int)) 3988292384 = ((crcBit d).toNat : Int)) := Lib.hid (by unfold crcBit; rw [if_pos hl]; exact bits_poly d)
            rw [decide_eq_true hl] at hlow
            clear hl
            go_wp2_with fail
            go_roundg (8 - (k + 1))
            case measure => omega
            case rel => exact ⟨k + 1, by omega, rfl, by go_num, by rw [HL.out, HD.out], rfl⟩
          · have HL : Hid ((d.toNat : Int) / (2 : Int) = ((crcBit d).toNat : Int)) := Lib.hid (by unfold crcBit; rw [if_neg hl]; exact shr_i d)
            rw [decide_eq_false hl] at hlow
            clear hl
            go_wp2_with fail
            go_roundg (8 - (k + 1))
            case measure => omega
            case rel => exact ⟨k + 1, by omega, rfl, by go_num, by rw [HL.out, HD.out], rfl⟩
        · obtain rfl : k = 8 := by omega
          have HZ2 : Hid (crcBits 8 (c0 ^^^ BitVec.ofInt 32 x) = crcAll s1 (bs.take (i + 1))) := Lib.hid (by rw [HE.out]; rfl)
          rw [HZ2.out]
          go_wp2_with fail
          go_roundg (bs.length - (i + 1))
          case measure => omega
          case rel => exact ⟨i + 1, by omega, rfl, by go_num, rfl, rfl⟩
    · obtain rfl : i = bs.length := by omega
      have HN2 := Lib.hid (bits_not (crcAll s1 bs))
      rw [List.take_length]
      go_wp2_with fail
      go_ret
      exact ⟨by rw [HZ.out, ← HN2.out]; rfl, rfl⟩
set_option maxRecDepth 100000 in
set_option maxHeartbeats 2000000 in
theorem seal2_any {w : World} {L : Nat → Prop} {v : Value} {bs : List Int} (h : BRow w L v bs) (hl : bs.length ≤ 900000) : Calls Try.prog 107 #[v] w (OneB w (sealL crcL bs)) := by
  have HR := Lib.hid h
  have HS : Hid (sealL crcL bs = bs ++ lowL 4 (crcL bs)) := Lib.hid (sealL_row crcL bs)
  have hz := crcL_u32 bs
  obtain ⟨hz0, hz1⟩ := hz
  have HSum := Lib.hid (fun W (hW : Moves (fun _ => False) w W) => sum2_any (h.moves hW (fun _ _ _ e => e)))
  have HLow := Lib.hid (fun W => low2_any hz0 hz1 W)
  rw [HS.out]
  clear h HS
  generalize crcL bs = z at hz0 hz1 HSum HLow ⊢
  have hb4 := lowL_byte 4 z
  have hl4 := lowL_len 4 z
  generalize lowL 4 z = ys at HLow hb4 hl4 ⊢
  have HB4 := Lib.hid hb4
  have HL4 := Lib.hid hl4
  clear hb4 hl4
  go_enter Try.func107, Try.ntmps107
  go_wp2_with (first
    | (refine wpList_appB (w0 := w) (bs := []) rfl (.tmp 3) (.tmp 4) rfl (by rfl) (by rfl) (own_of_block (bs := []) rfl (heap_alloc_new w _) (Nat.le_refl _) (by decide)) (HR.out.moves ((Moves.refl _ w).alloc _) (fun _ _ _ e => e)) ((Moves.refl _ w).alloc _) ?_ ?_
       focus (show 0 + bs.length ≤ _; omega)
       intro v1 w1 h1
       rw [List.nil_append] at h1
       have H1 := Lib.hid h1
       clear h1)
    | (go_at_call 125
       refine (HSum.out _ H1.out.mv).mono ?_
       rintro e w2 ⟨rfl, rfl⟩)
    | (go_at_call 124
       refine (HLow.out _).mono ?_
       rintro e w3 ⟨v3, rfl, hn3⟩
       have HN3 := Lib.hid hn3
       clear hn3)
    | (refine wpList_appB (w0 := w) (bs := bs) (ys := ys) rfl (.tmp 5) (.tmp 8) rfl (by rfl) (by rfl) (H1.out.ob.moves HN3.out.2) (HN3.out.row HB4.out (by rw [HL4.out]; decide)) (H1.out.mv.trans HN3.out.2) ?_ ?_
       focus (rw [HL4.out]; omega)
       intro v4 w4 h4
       have H4 := Lib.hid h4
       clear h4)
    | fail)
  go_ret
  exact ⟨_, rfl, H4.out.ob, H4.out.mv⟩
end Go.Proofs.Ytnagpianaghjeaa.Sl
