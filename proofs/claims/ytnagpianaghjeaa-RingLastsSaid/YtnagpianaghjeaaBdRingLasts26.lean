/-
  loamlaw9.logOf: what a log told, as words.
  loamlaw9.same: a log that tells what was told.
  What was appended to a log of sectors is what Open finds: plain law, for records of one sector.
-/
import Derived.Test.YtnagpianaghjeaaBdRingLasts25
import Derived.Deep.RegionLaw
namespace Go.Proofs.Ytnagpianaghjeaa.Rg
open Go Go.RowKit Go.Proofs Go.Proofs.Ytnagpianaghjeaa.Sl
open Pl (DS IsDisk DOwn DPost DMv DKeep Clear DiskAt All2)

theorem infoStr : (Try.prog.info? 9).map (fun i => (i.zero, i.size, i.bytes)) = some (some (.string ByteArray.empty), 1, 16) := by kernel_rfl
def strs (L : List (List Int)) : List Value := L.map (fun b => .string (strOfNums b))
def LogPost (w : World) (first next : Int) (L : List (List Int)) (e : Ending) (w' : World) : Prop := ∃ sv, e = .returned (.agg #[.int .u64 first, .int .u64 next, sv]) ∧ w'.ownsRow w.heap.size 9 1 sv L.length (strs L) ∧ Moves (fun _ => False) w w'
/-- Between two rounds. -/
structure LgS (w : World) (n0 : Nat) (first next : Int) (sv : Value) (M : List (List Int)) (W : World) : Prop where
  b0 : W.heap[n0]? = some (.cells #[.int .u64 0, .int .u64 0, .slice none 0 0] 81 (0, 0))
  b1 : W.heap[n0 + 1]? = some (.cells #[.int .u64 first, .int .u64 next, sv] 81 (0, 0))
  own : W.ownsRow n0 9 1 sv M.length (strs M)
  mv : Moves (fun _ => False) w W
theorem LgS.cell {w W : World} {n0 : Nat} {first next : Int} {sv : Value} {M : List (List Int)} (H : LgS w n0 first next sv M W) : W.cell? ⟨n0 + 1, 2, none⟩ = some sv ∧ W.frozen? ⟨n0 + 1, 2, none⟩ = false ∧ n0 + 1 < W.heap.size := by
  refine ⟨?_, ?_, lt_of_block H.b1⟩
  · simp [World.cell?, H.b1]
  · simp [World.frozen?, H.b1]
theorem LgS.cells {w W : World} {n0 : Nat} {first next : Int} {sv : Value} {M : List (List Int)} (H : LgS w n0 first next sv M W) : W.cell? ⟨n0 + 1, 0, none⟩ = some (.int .u64 first) ∧ W.cell? ⟨n0 + 1, 1, none⟩ = some (.int .u64 next) ∧ W.cell? ⟨n0 + 1, 2, none⟩ = some sv ∧ W.frozen? ⟨n0, 0, none⟩ = false ∧ W.frozen? ⟨n0, 1, none⟩ = false ∧ W.frozen? ⟨n0, 2, none⟩ = false ∧ W.cell? ⟨n0, 0, none⟩ = some (.int .u64 0) ∧ W.cell? ⟨n0, 1, none⟩ = some (.int .u64 0) ∧ W.cell? ⟨n0, 2, none⟩ = some (.slice none 0 0) := by
  refine ⟨?_, ?_, ?_, ?_, ?_, ?_, ?_, ?_, ?_⟩ <;> simp [World.cell?, World.frozen?, H.b0, H.b1]
theorem LgS.ns {w W : World} {n0 : Nat} {first next : Int} {sv : Value} {M : List (List Int)} (H : LgS w n0 first next sv M W) : sv.ownBlock ≠ some (n0 + 1) ∧ sv.ownBlock ≠ some n0 := by
  refine ⟨fun e => ?_, fun e => ?_⟩
  · obtain ⟨cur, hc⟩ := own_block H.own e
    rw [H.b1] at hc
    cases hc
  · obtain ⟨cur, hc⟩ := own_block H.own e
    rw [H.b0] at hc
    cases hc
theorem LgS.moves {w W W' : World} {n0 : Nat} {first next : Int} {sv : Value} {M : List (List Int)} (H : LgS w n0 first next sv M W) (hm : Moves (fun _ => False) W W') : LgS w n0 first next sv M W' :=
  ⟨(hm.block _ (lt_of_block H.b0) (fun e => e)).trans H.b0, (hm.block _ (lt_of_block H.b1) (fun e => e)).trans H.b1, own_moves H.own hm (fun _ _ e => e), H.mv.trans hm⟩
theorem LgS.push {w W W8 : World} {n0 : Nat} {first next : Int} {sv sv' : Value} {M : List (List Int)} {b : List Int} (H : LgS w n0 first next sv M W) (h0 : w.heap.size ≤ n0) (hn : W8.ownsRow n0 9 1 sv' (M.length + 1) (strs M ++ [.string (strOfNums b)])) (hg : W.grownBy W8 sv.ownBlock) : LgS w n0 first next sv' (M ++ [b]) (W8.setCell ⟨n0 + 1, 2, none⟩ sv') := by
  have hns := H.ns
  have m1 : Moves (fun k => sv.ownBlock = some k) W W8 := Moves.of_grown hg (fun k e => e)
  have c1 : W8.heap[n0 + 1]? = some (.cells #[.int .u64 first, .int .u64 next, sv] 81 (0, 0)) := (m1.block _ (lt_of_block H.b1) hns.1).trans H.b1
  have c0 : W8.heap[n0]? = some (.cells #[.int .u64 0, .int .u64 0, .slice none 0 0] 81 (0, 0)) := (m1.block _ (lt_of_block H.b0) hns.2).trans H.b0
  have m2 : Moves (fun k => k = n0 + 1) W8 (W8.setCell ⟨n0 + 1, 2, none⟩ sv') := (Moves.refl (fun k => k = n0 + 1) W8).setCell (p := ⟨n0 + 1, 2, none⟩) (fun _ => rfl) _
  refine ⟨?_, ?_, ?_, ?_⟩
  · simp [World.setCell, Array.getElem?_modify, c0]
  · simp [World.setCell, Array.getElem?_modify, c1]
  · have : strs (M ++ [b]) = strs M ++ [.string (strOfNums b)] := by simp [strs]
    rw [this, List.length_append, List.length_singleton]
    refine own_moves hn m2 (fun k e q => ?_)
    subst q
    obtain ⟨cur, hc⟩ := own_block hn e
    rw [c1] at hc
    cases hc
  · refine H.mv.andThen ((m1.mono (fun k e => ?_) : Moves (fun k => n0 ≤ k) W W8).trans (m2.mono (fun k e => ?_))) (fun k e hk => ?_)
    · exact (H.own.lt k e).1
    · subst e; exact Nat.le_succ _
    · exact absurd e (by omega)
theorem two_new (w : World) (a b : Obj) : ((w.alloc a).alloc b).heap[w.heap.size]? = (w.alloc a).heap[w.heap.size]? ∧ ((w.alloc a).alloc b).heap[w.heap.size + 1]? = ((w.alloc a).alloc b).heap[(w.alloc a).heap.size]? := by
  have h : (w.alloc a).heap.size = w.heap.size + 1 := by simp
  refine ⟨Below.heap_alloc _ _ _ (by omega), by rw [h]⟩
theorem lgs0 (w : World) (first next : Int) : LgS w w.heap.size first next (.slice none 0 0) [] ((w.alloc (.cells #[.int .u64 0, .int .u64 0, .slice none 0 0] 81)).alloc (.cells #[.int .u64 first, .int .u64 next, .slice none 0 0] 81)) :=
  ⟨(two_new _ _ _).1.trans (heap_alloc_new _ _), (two_new _ _ _).2.trans (heap_alloc_new _ _), World.ownsRow_nil _ _ _ _, ((Moves.refl (fun _ => False) w).alloc _).alloc _⟩
theorem lgfin {w W : World} {first next : Int} {sv : Value} {M : List (List Int)} (H : LgS w w.heap.size first next sv M W) : (((W.setCell ⟨w.heap.size, 0, none⟩ (.int .u64 first)).setCell ⟨w.heap.size, 1, none⟩ (.int .u64 next)).setCell ⟨w.heap.size, 2, none⟩ sv).cell? ⟨w.heap.size, 0, none⟩ = some (.int .u64 first) ∧ (((W.setCell ⟨w.heap.size, 0, none⟩ (.int .u64 first)).setCell ⟨w.heap.size, 1, none⟩ (.int .u64 next)).setCell ⟨w.heap.size, 2, none⟩ sv).cell? ⟨w.heap.size, 1, none⟩ = some (.int .u64 next) ∧ (((W.setCell ⟨w.heap.size, 0, none⟩ (.int .u64 first)).setCell ⟨w.heap.size, 1, none⟩ (.int .u64 next)).setCell ⟨w.heap.size, 2, none⟩ sv).cell? ⟨w.heap.size, 2, none⟩ = some sv ∧ (((W.setCell ⟨w.heap.size, 0, none⟩ (.int .u64 first)).setCell ⟨w.heap.size, 1, none⟩ (.int .u64 next)).setCell ⟨w.heap.size, 2, none⟩ sv).ownsRow w.heap.size 9 1 sv M.length (strs M) ∧ Moves (fun _ => False) w (((W.setCell ⟨w.heap.size, 0, none⟩ (.int .u64 first)).setCell ⟨w.heap.size, 1, none⟩ (.int .u64 next)).setCell ⟨w.heap.size, 2, none⟩ sv) := by
  have hb := H.b0
  have m1 : Moves (fun k => k = w.heap.size) W (((W.setCell ⟨w.heap.size, 0, none⟩ (.int .u64 first)).setCell ⟨w.heap.size, 1, none⟩ (.int .u64 next)).setCell ⟨w.heap.size, 2, none⟩ sv) := (((Moves.refl (fun k => k = w.heap.size) W).setCell (p := ⟨w.heap.size, 0, none⟩) (fun _ => rfl) _).setCell (p := ⟨w.heap.size, 1, none⟩) (fun _ => rfl) _).setCell (p := ⟨w.heap.size, 2, none⟩) (fun _ => rfl) _
  refine ⟨?_, ?_, ?_, own_moves H.own m1 (fun k e q => by subst q; exact H.ns.2 e), H.mv.andThen m1 (fun k e hk => absurd e (by omega))⟩
  all_goals simp [World.setCell, World.cell?, Array.getElem?_modify, hb]
set_option maxRecDepth 100000 in
set_option maxHeartbeats 4000000 in
theorem logof_any {w w0 : World} {lv : Value} {vals : List Value} {L : List (List Int)} {first next : Int} {B : Nat → Prop} (hrow : Row w B lv vals) (hr : RowsB w0 w vals L) (hL : L.length ≤ 100000) : Calls Try.prog 41 #[.int .u64 first, lv, .int .u64 next] w (LogPost w first next L) := by
  have hvl := hr.1
  obtain ⟨A, c, rfl, hc, hx⟩ := hrow
  have HXB := Lib.hid hx
  have HRR := Lib.hid hr
  have HVL : Hid (vals.length = L.length ∧ L.length ≤ 100000) := Lib.hid ⟨hvl, hL⟩
  have b0 : (vals.length : Int) ≤ 100000 := by omega
  have b1 : (vals.length : Int) ≤ (c : Int) := by omega
  obtain ⟨i4, hi4, p0, p1, p2⟩ := info_parts infoStr
  have p3 : (Value.slice none 0 0).cells.size = 1 := rfl
  have p4 : (0 : Nat) < 1 := by decide
  have HQ : Hid (∀ sv w', w'.ownsRow w.heap.size 9 1 sv L.length (strs L) → Moves (fun _ => False) w w' → LogPost w first next L (.returned (.agg #[.int .u64 first, .int .u64 next, sv])) w') := Lib.hid (fun sv w' h1 h2 => ⟨sv, rfl, h1, h2⟩)
  generalize LogPost w first next L = Q at HQ ⊢
  have M0 := Lib.hid (lgs0 w first next)
  clear hr hvl hL hc hx
  go_enter Try.func41, Try.ntmps41
  go_wp2_with fail
  go_loopg [8] (vals.length) (fun gg s8 wr => ∃ (i : Nat) (sv : Value), i ≤ vals.length ∧ gg = vals.length - i ∧ s8 = .int .i64 i ∧ Hid (LgS w w.heap.size first next sv (L.take i) wr))
  case atStart => exact ⟨0, _, Nat.zero_le _, rfl, rfl, M0⟩
  case round =>
    obtain ⟨i, sv, hi, hgg, rfl, HI⟩ := hrel
    have i0 : (0 : Int) ≤ (i : Int) := by omega
    by_cases hil : i < vals.length
    · have i1 : (i : Int) < (vals.length : Int) := by omega
      obtain ⟨u, hu⟩ : ∃ u, vals[i]? = some u := ⟨_, List.getElem?_eq_getElem hil⟩
      obtain ⟨b, hb⟩ : ∃ b, L[i]? = some b := ⟨_, List.getElem?_eq_getElem (by have := HVL.out.1; omega)⟩
      have hub : RB w0 w u b := by
        have h := HRR.out.2 i hil (by have := HVL.out.1; omega)
        have h1 := List.getElem?_eq_some_iff.1 hu
        have h2 := List.getElem?_eq_some_iff.1 hb
        rw [← h1.2, ← h2.2]
        exact h
      obtain ⟨g, o, rfl, -, hgl, hcell⟩ := HXB.out (by omega)
      have hm := HI.out.mv
      have e1 : wr.cell? ⟨g, o + i, none⟩ = some u := (hm.cell (p := ⟨g, o + i, none⟩) hgl (fun e => e)).trans (hcell i u hu)
      obtain ⟨e2, f2, HL2⟩ := HI.out.cell
      have HL2 := Lib.hid HL2
      obtain ⟨Al, cl, rfl, -, -, -, -, -⟩ := own_form HI.out.own
      have HUB := Lib.hid (RB.moves hub hm (fun _ _ _ e => e))
      have hcv := conv_rowS (RB.moves HUB.out (Moves.refl (fun _ => False) wr).drew (fun _ _ _ e => e)).1
      have HT1 : Hid (L.take (i + 1) = L.take i ++ [b]) := Lib.hid (by rw [List.take_add_one, hb]; rfl)
      have HTL : Hid ((L.take i).length = i) := Lib.hid (by rw [List.length_take]; have := HVL.out.1; omega)
      have hHI := HI.out
      rw [HTL.out] at hHI e2
      have HI2 := Lib.hid hHI
      have HOW : Hid (wr.ownsRow w.heap.size 9 1 (.slice Al i cl) i (strs (L.take i))) := Lib.hid (by have h := hHI.own; rw [HTL.out] at h; exact h)
      clear hub hm hcell hgl hHI HI
      have h63 : Hid (i + 1 ≤ maxLen ∧ (i + 1) * 16 ≤ 140737488355328) := Lib.hid (by have h1 := HVL.out; unfold maxLen; omega)
      have hbs : Hid (∀ o, w.heap.size ≤ (wr.alloc o).heap.size) := Lib.hid (fun o => by have h1 := HL2.out; simp; omega)
      have e2a := (World.cell?_alloc_lt wr (.cells #[.string (strOfNums b)] 9) ⟨w.heap.size + 1, 2, none⟩ HL2.out).trans e2
      go_wp2_with fail
      go_region_law (first
        | (refine step_append_src _ rfl (.tmp 19) (.tmp 25) 72 rfl w.heap.size 9 i4 _ 1 16 Try.underlying72 hi4 p0 p1 p2 p3 p4 (.slice Al i cl) i (strs (L.take i)) rfl (HOW.out.alloc _) (some ⟨wr.heap.size, 0, none⟩) 1 1 [.string (strOfNums b)] rfl (by rfl) (fun _ => ⟨_, rfl, World.news_of_block (cs := #[.string (strOfNums b)]) (t := 9) (fr := (0, 0)) (heap_alloc_new _ _)⟩) (by simp [Value.oneCell']) h63.out.1 h63.out.2 (hbs.out _) ?_
           intro v1 w8 hn8 hg8 hl8
           have hmD : Moves (fun _ => False) wr (wr.alloc (.cells #[.string (strOfNums b)] 9)).drew := ((Moves.refl _ wr).alloc _).drew
           have HI3 := HI2.out.moves hmD
           have m8 : Moves (fun k => (Value.slice Al i cl).ownBlock = some k) (wr.alloc (.cells #[.string (strOfNums b)] 9)).drew w8 := Moves.of_grown hg8 (fun k e => e)
           have e11 := (m8.cell (p := ⟨w.heap.size + 1, 2, none⟩) HI3.cell.2.2 HI3.ns.1).trans HI3.cell.1
           have f11 := (World.frozen?_of_block (m8.block (w.heap.size + 1) HI3.cell.2.2 HI3.ns.1)).trans HI3.cell.2.1
           obtain ⟨A1, c1, rfl, -, -, -, -, -⟩ := own_form hn8)
        | fail)
      all_goals
        have hp := HI3.push (b := b) (Nat.le_refl _) (by rw [HTL.out]; exact hn8) hg8
        rw [← HT1.out] at hp
        have HP := Lib.hid hp
        clear hp hmD HI3 m8 e11 f11 hn8 hg8 hl8
        go_wp2_with fail
        go_roundg (vals.length - (i + 1))
        case measure => omega
        case rel => exact ⟨i + 1, _, by omega, rfl, by go_num, HP⟩
    · have i1 : ¬ (i : Int) < (vals.length : Int) := by omega
      obtain rfl : i = vals.length := by omega
      obtain ⟨Al, cl, rfl, -, -, -, -, -⟩ := own_form HI.out.own
      obtain ⟨e0, e1, e2, f0, f1, f2, o0, o1, o2⟩ := HI.out.cells
      generalize hll : (L.take vals.length).length = ll at e2
      go_wp2_with fail
      have h := lgfin HI.out
      rw [hll] at h
      generalize ((wr.setCell ⟨w.heap.size, 0, none⟩ (.int .u64 first)).setCell ⟨w.heap.size, 1, none⟩ (.int .u64 next)).setCell ⟨w.heap.size, 2, none⟩ (.slice Al ll cl) = Y at h ⊢
      obtain ⟨n0, n1, n2, h3, h4⟩ := h
      exact bodyPost_ret (v := .agg #[.int .u64 first, .int .u64 next, .slice Al ll cl]) (by simp [results, Try.results41, go_sem, n0, n1, n2]) rfl (HQ.out _ _ (by have e := HVL.out.1; rw [e, List.take_length] at h3 hll; rw [hll]; exact h3) h4)
end Go.Proofs.Ytnagpianaghjeaa.Rg
namespace Go.Proofs.Ytnagpianaghjeaa.Rg
open Go Go.RowKit Go.Proofs Go.Proofs.Ytnagpianaghjeaa.Sl
open Pl (DS IsDisk DOwn DPost DMv DKeep Clear DiskAt All2)

set_option maxRecDepth 100000 in
set_option maxHeartbeats 4000000 in
theorem same_any {w : World} {base b1 r d s n z : Nat} {D : DS} {h : Hd} {lv sv : Value} {vals : List Value} {L : List (List Int)} {first next : Int} (H : RingAt w base d r s n z D h lv vals L) (hsv : w.ownsRow b1 9 1 sv L.length (strs L)) (hL : L.length ≤ 100000) (hf : h.first = first) (hx : IntKind.u64.wrap (first + vals.length) = next) : Calls Try.prog 40 #[.pointer (some ⟨r, 0, none⟩), .agg #[.int .u64 first, .int .u64 next, sv]] w (TrueQ w) := by
  obtain ⟨Al, cl, rfl, hlc, -, -, -, hxs⟩ := own_form hsv
  have HXS := Lib.hid hxs
  obtain ⟨lA, lc, rfl, -, -, -, -, -⟩ := own_form H.own
  have hvl := H.len
  have HLN : Hid (vals.length = L.length ∧ L.length ≤ 100000) := Lib.hid ⟨hvl, hL⟩
  have HREC : Hid (∀ W, Moves (fun _ => False) w W → Calls Try.prog 38 #[.pointer (some ⟨r, 0, none⟩)] W (RecsPost W h L)) := Lib.hid (fun W hm => recs_any (H.moves0 hm) (by omega))
  have HNX : Hid (∀ W, Moves (fun _ => False) w W → Calls Try.prog 34 #[.pointer (some ⟨r, 0, none⟩)] W (MovV W (.int .u64 next))) := Lib.hid (fun W hm => by
    have h1 := next_any (H.rb.moves0 hm) (by omega)
    rw [hf, hx] at h1
    exact h1)
  have HF := Lib.hid hf
  have b0 : (L.length : Int) ≤ 100000 := by omega
  have HM0 := Lib.hid ((Moves.refl (fun _ => False) w).alloc (.cells #[.int .u64 first, .int .u64 next, .slice Al L.length cl] 81))
  have HB0 : Hid ((w.alloc (.cells #[.int .u64 first, .int .u64 next, .slice Al L.length cl] 81)).heap[w.heap.size]? = some (.cells #[.int .u64 first, .int .u64 next, .slice Al L.length cl] 81 (0, 0)) ∧ w.heap.size < (w.alloc (.cells #[.int .u64 first, .int .u64 next, .slice Al L.length cl] 81)).heap.size) := Lib.hid ⟨heap_alloc_new _ _, by simp⟩
  have HREC0 := HREC.out _ HM0.out
  clear H hsv hlc hxs hvl hL hf hx
  go_enter Try.func40, Try.ntmps40
  go_wp2_with fail
  refine HREC0.mono ?_
  rintro e w2 ⟨lv2, vals2, rfl, hown2, hrow2, hm2⟩
  rw [HF.out]
  obtain ⟨A2, c2, rfl, -, -, -, -, hx2⟩ := own_form hown2
  have HX2 := Lib.hid hx2
  have HR2 := Lib.hid hrow2
  have HM2 := Lib.hid (HM0.out.trans hm2)
  have HB2 := Lib.hid ((hm2.block _ HB0.out.2 (fun e => e)).trans HB0.out.1)
  have hv2 : vals2.length = L.length := hrow2.1
  clear hown2 hrow2 hm2 hx2 HREC0
  generalize vals2.length = l2 at hv2 HX2
  subst hv2
  obtain ⟨c0, c1, c2'⟩ := cells3 HB2.out
  have HKP : Hid (∀ w', KpS w2 w' → KpS w2 w' ∧ w'.cell? ⟨w.heap.size, 0, none⟩ = some (.int .u64 first) ∧ w'.cell? ⟨w.heap.size, 1, none⟩ = some (.int .u64 next) ∧ w'.cell? ⟨w.heap.size, 2, none⟩ = some (.slice Al L.length cl)) := Lib.hid (fun w' hk => ⟨hk, hk.cell c0, hk.cell c1, hk.cell c2'⟩)
  have hK0 := HKP.out _ (KpS.refl w2)
  have hK1 := HKP.out _ (KpS.of (Moves.refl (fun _ => False) w2).drew)
  go_wp2_with fail
  go_region_held3 (fun w' => KpS w2 w' ∧ w'.cell? ⟨w.heap.size, 0, none⟩ = some (.int .u64 first) ∧ w'.cell? ⟨w.heap.size, 1, none⟩ = some (.int .u64 next) ∧ w'.cell? ⟨w.heap.size, 2, none⟩ = some (.slice Al L.length cl))
    (first | with_reducible exact hS' | with_reducible exact hK0 | with_reducible exact hK1 | assumption)
    (first
      | (go_at_call 34
         refine (HNX.out _ (HM2.out.trans (Moves.refl (fun _ => False) w2).drew)).mono ?_
         rintro e w' ⟨rfl, hl⟩
         have hS' := HKP.out w' (KpS.of ((Moves.refl (fun _ => False) w2).drew.trans hl)))
      | fail)
  all_goals
    have HK := Lib.hid (KpS.moves hS'.1)
    clear hS' hK0 hK1 hl c0 c1 c2'
    go_wp2_with fail
    go_loopg [7] (L.length) (fun gg s7 wr => ∃ (i : Nat), i ≤ L.length ∧ gg = L.length - i ∧ s7 = .int .i64 i ∧ Hid (Moves (fun _ => False) w2 wr))
    case atStart => exact ⟨0, Nat.zero_le _, rfl, rfl, HK⟩
    case round =>
      obtain ⟨i, hi, hgg, rfl, HI⟩ := hrel
      have i0 : (0 : Int) ≤ (i : Int) := by omega
      by_cases hil : i < L.length
      · have i1 : (i : Int) < (L.length : Int) := by omega
        obtain ⟨b, hb⟩ : ∃ b, L[i]? = some b := ⟨_, List.getElem?_eq_getElem hil⟩
        obtain ⟨ga, rfl, -, hga, hca⟩ := HXS.out (by omega)
        obtain ⟨g2, rfl, -, hg2, hc2⟩ := HX2.out (by omega)
        have hvi : i < vals2.length := by rw [HR2.out.1]; exact hil
        have hu := List.getElem?_eq_getElem hvi
        have hrb := HR2.out.2 i hvi hil
        rw [(List.getElem?_eq_some_iff.1 hb).2] at hrb
        generalize vals2[i] = u at hu hrb
        have hcv := conv_rowS (RB.moves hrb (HI.out.trans (Moves.refl (fun _ => False) wr).drew) (fun _ _ _ e => e)).1
        have hsb : (strs L)[i]? = some (.string (strOfNums b)) := by simp [strs, hb]
        have e1 : wr.cell? ⟨g2, i, none⟩ = some u := (HI.out.cell (p := ⟨g2, i, none⟩) hg2 (fun e => e)).trans (hc2 i u hu)
        have e2 : wr.cell? ⟨ga, i, none⟩ = some (.string (strOfNums b)) := ((HM2.out.trans HI.out).cell (p := ⟨ga, i, none⟩) hga (fun e => e)).trans (hca i _ hsb)
        obtain ⟨-, -, -, e3⟩ := HKP.out wr (KpS.of HI.out)
        clear hca hc2 hvi hrb hu hsb hb
        go_wp2_with fail
        go_region
        go_wp2_with fail
        go_roundg (L.length - (i + 1))
        case measure => omega
        case rel => exact ⟨i + 1, by omega, rfl, by go_num, Lib.hid (HI.out.trans (Moves.refl (fun _ => False) wr).drew)⟩
      · have i1 : ¬ (i : Int) < (L.length : Int) := by omega
        go_wp2_with fail
        go_ret
        exact ⟨rfl, HM2.out.trans HI.out⟩
end Go.Proofs.Ytnagpianaghjeaa.Rg
namespace Go.Proofs.Ytnagpianaghjeaa.Rg
open Go.Proofs.Ytnagpianaghjeaa.Sl

theorem headN_get {z : Nat} {h : Hd} (hz : 48 ≤ z) {i j : Nat} (hj : j < i) (hi : i ≤ 6) (hw : ∀ q, q < 6 → 0 ≤ (numsL h).getD q 0 ∧ (numsL h).getD q 0 < 18446744073709551616) : getL (headN z h i) (8 * j) 8 = (numsL h).getD j 0 := by
  induction i with
  | zero => omega
  | succ i ih =>
    unfold headN
    by_cases e : j = i
    · subst e
      have h1 := hw j (by omega)
      exact getL_put (by rw [headN_len]; omega) h1.1 h1.2
    · rw [getL_putOther (by omega)]
      exact ih (by omega) (by omega)
theorem hdS_head {z : Nat} {h : Hd} (hz : 48 ≤ z) (hw : WfH h) : getL (headB z h) 0 8 = 1196312914 ∧ hdS (headB z h) = h := by
  obtain ⟨w1, w2, w3, w4, w5⟩ := hw
  have hq : ∀ q, q < 6 → 0 ≤ (numsL h).getD q 0 ∧ (numsL h).getD q 0 < 18446744073709551616 := fun q hq => by
    have : q = 0 ∨ q = 1 ∨ q = 2 ∨ q = 3 ∨ q = 4 ∨ q = 5 := by omega
    rcases this with rfl | rfl | rfl | rfl | rfl | rfl
    · exact ⟨by show (0 : Int) ≤ 1196312914; decide, by show (1196312914 : Int) < 18446744073709551616; decide⟩
    · exact w1
    · exact w2
    · exact w3
    · exact w4
    · exact w5
  have g := fun j (hj : j < 6) => headN_get (z := z) (h := h) (i := 6) hz hj (Nat.le_refl 6) hq
  refine ⟨g 0 (by decide), ?_⟩
  have g1 := g 1 (by decide)
  have g2 := g 2 (by decide)
  have g3 := g 3 (by decide)
  have g4 := g 4 (by decide)
  have g5 := g 5 (by decide)
  unfold hdS headB
  show Hd.mk _ _ _ _ _ = _
  rw [show getL (headN z h 6) 8 8 = h.gen from g1, show getL (headN z h 6) 16 8 = h.first from g2, show getL (headN z h 6) 24 8 = h.count from g3, show getL (headN z h 6) 32 8 = h.start from g4, show getL (headN z h 6) 40 8 = h.used from g5]
theorem putL_drop (b : List Int) (p n : Nat) (v : Int) {m : Nat} (h : p + n ≤ m) : (putL b p n v).drop m = b.drop m := by
  induction n with
  | zero => rfl
  | succ n ih =>
    unfold putL
    rw [List.drop_set_of_lt (by omega)]
    exact ih (by omega)
theorem rec_get {z : Nat} {bs : List Int} (hl : bs.length < 4294967296) : getL (recB z bs) 0 4 = bs.length := by
  unfold recB
  refine getL_put ?_ (by omega) ?_
  · simp
  · show (bs.length : Int) < 4294967296; omega
theorem rec_data (z : Nat) (bs : List Int) : ((recB z bs).drop 4).take bs.length = bs := by
  unfold recB
  rw [putL_drop _ _ _ _ (Nat.le_refl 4), List.append_assoc, List.drop_left' List.length_replicate]
  exact List.take_left' rfl
theorem need_one {x : Nat} (h : x ≤ 60) : needN 64 x = 1 := by unfold needN; omega
theorem whole_one (F : Nat → List Int) (p : Nat) : wholeN F p 1 = F p := by simp [wholeN]
/-- A log of records of one sector each, none was truncated. -/
structure LastS (K : List (List Int)) (gen i : Nat) (L : List (List Int)) : Prop where
  len : K.length = 60
  sec : ∀ j, j < K.length → (K.getD j []).length = 64 ∧ ∀ x ∈ K.getD j [], 0 ≤ x ∧ x < 256
  ll : L.length = i
  hd : K.getD (gen % 2) [] = headB 64 ⟨gen, 1, i, 0, i⟩
  new : newestH 58 (K.getD 0 []) (K.getD 1 []) = some ⟨gen, 1, i, 0, i⟩
  recs : ∀ j, j < i → K.getD (2 + j) [] = recB 64 (L.getD j [])
  short : ∀ j, j < i → (L.getD j []).length ≤ 30
theorem load_last {K : List (List Int)} {gen i : Nat} {L : List (List Int)} (H : LastS K gen i L) (hi : i ≤ 20) : ∀ c p, p + c = i → loadN (secF K 0 58 0) 64 i c p (L.take p) = some L := by
  intro c
  induction c with
  | zero =>
    intro p hp
    unfold loadN
    rw [if_pos (by omega), List.take_of_length_le (by have := H.ll; omega)]
  | succ c ih =>
    intro p hp
    have hF : secF K 0 58 0 p = recB 64 (L.getD p []) := by
      unfold secF
      rw [show 0 + 2 + (0 + p) % 58 = 2 + p by rw [Nat.zero_add, Nat.zero_add, Nat.mod_eq_of_lt (by omega)]]
      exact H.recs p (by omega)
    have hs := H.short p (by omega)
    have hg : getL (secF K 0 58 0 p) 0 4 = ((L.getD p []).length : Int) := by rw [hF]; exact rec_get (by omega)
    unfold loadN
    rw [if_neg (by omega), hg, if_neg (by omega)]
    simp only [Int.toNat_natCast]
    rw [need_one (by omega), if_neg (by omega), whole_one, hF, rec_data]
    have e : L.take p ++ [L.getD p []] = L.take (p + 1) := by
      rw [List.take_add_one, List.getD_eq_getElem?_getD, List.getElem?_eq_getElem (by have := H.ll; omega)]
      rfl
    rw [e]
    exact ih (p + 1) (by omega)
theorem open_last {K : List (List Int)} {gen i : Nat} {L : List (List Int)} (H : LastS K gen i L) (hi : i ≤ 20) : openN K 0 60 64 = some (⟨gen, 1, i, 0, i⟩, L) := by
  have h := load_last H hi i 0 (by omega)
  rw [List.take_zero] at h
  unfold openN
  rw [show 60 - 2 = 58 from rfl, H.new]
  show (loadN (secF K 0 58 (0 : Int).toNat) 64 (i : Int).toNat (i : Int).toNat 0 []).map _ = _
  rw [show (0 : Int).toNat = 0 from rfl, Int.toNat_natCast, h]
  rfl
theorem getD_set_ne {A : Type} (K : List A) (a b : Nat) (x d : A) (h : a ≠ b) : (K.set a x).getD b d = K.getD b d := by
  rw [List.getD_eq_getElem?_getD, List.getElem?_set, if_neg h, ← List.getD_eq_getElem?_getD]
theorem getD_set_eq {A : Type} (K : List A) (a : Nat) (x d : A) (h : a < K.length) : (K.set a x).getD a d = x := by
  rw [List.getD_eq_getElem?_getD, List.getElem?_set, if_pos rfl, if_pos h]
  rfl
theorem wf_small {gen i : Nat} (hg : gen ≤ 1000) (hi : i ≤ 1000) : WfH ⟨gen, 1, i, 0, i⟩ := by
  unfold WfH
  refine ⟨⟨?_, ?_⟩, ⟨?_, ?_⟩, ⟨?_, ?_⟩, ⟨?_, ?_⟩, ?_, ?_⟩ <;> dsimp only <;> omega
theorem ok_small {gen i q : Nat} (hg : gen ≤ 1000) (hi : i ≤ 20) (hq : gen % 2 = q) : okS 58 q (headB 64 ⟨gen, 1, i, 0, i⟩) := by
  obtain ⟨e0, e1⟩ := hdS_head (z := 64) (h := ⟨gen, 1, i, 0, i⟩) (by decide) (wf_small hg (by omega))
  unfold okS
  rw [e0, e1]
  refine ⟨rfl, ?_, ?_, ?_, ?_, ?_⟩ <;> dsimp only <;> omega
theorem new_zero : newestH 58 (List.replicate 64 0) (headB 64 ⟨1, 1, 0, 0, 0⟩) = some ⟨1, 1, 0, 0, 0⟩ := by decide +kernel
/-- A log that was just made. -/
theorem last0 : LastS ((List.replicate 60 (List.replicate 64 (0 : Int))).set 1 (headB 64 ⟨1, 1, 0, 0, 0⟩)) 1 0 [] := by
  refine ⟨by simp, ?_, rfl, by decide +kernel, by decide +kernel, fun j hj => by omega, fun j hj => by omega⟩
  decide +kernel
/-- A record more. -/
theorem LastS.push {K : List (List Int)} {gen i : Nat} {L : List (List Int)} (H : LastS K gen i L) (hi : i < 20) (hg : gen ≤ 100) {bs : List Int} (hb : ∀ x ∈ bs, 0 ≤ x ∧ x < 256) (hl : bs.length ≤ 30) :
    LastS ((writeN K 0 58 (0 + i) 64 (recB 64 bs) 1).set (0 + (((gen + 1 : Nat) : Int) % 2).toNat) (headB 64 ⟨(gen + 1 : Nat), 1, (i + 1 : Nat), 0, (i + 1 : Nat)⟩)) (gen + 1) (i + 1) (L ++ [bs]) := by
  have hrl : (recB 64 bs).length = 64 := by rw [recB_len (by decide), need_one (by omega)]
  have hK1 : writeN K 0 58 (0 + i) 64 (recB 64 bs) 1 = K.set (2 + i) (recB 64 bs) := by
    show K.set (idxN 0 58 (0 + i) 0) (chunkN 64 (recB 64 bs) 0) = _
    unfold idxN chunkN
    rw [show 0 + 2 + (0 + i + 0) % 58 = 2 + i by rw [Nat.zero_add, Nat.zero_add, Nat.add_zero, Nat.mod_eq_of_lt (by omega)], Nat.zero_mul, List.drop_zero, List.take_of_length_le (by omega)]
  have hsl : 0 + (((gen + 1 : Nat) : Int) % 2).toNat = (gen + 1) % 2 := by omega
  rw [hK1, hsl]
  have hlen := H.len
  have hm : (gen + 1) % 2 < 2 := Nat.mod_lt _ (by decide)
  have hhd : ((K.set (2 + i) (recB 64 bs)).set ((gen + 1) % 2) (headB 64 ⟨(gen + 1 : Nat), 1, (i + 1 : Nat), 0, (i + 1 : Nat)⟩)).getD ((gen + 1) % 2) [] = headB 64 ⟨(gen + 1 : Nat), 1, (i + 1 : Nat), 0, (i + 1 : Nat)⟩ := getD_set_eq _ _ _ _ (by rw [List.length_set]; omega)
  have hold : ((K.set (2 + i) (recB 64 bs)).set ((gen + 1) % 2) (headB 64 ⟨(gen + 1 : Nat), 1, (i + 1 : Nat), 0, (i + 1 : Nat)⟩)).getD (gen % 2) [] = headB 64 ⟨gen, 1, i, 0, i⟩ := by
    rw [getD_set_ne _ _ _ _ _ (by omega), getD_set_ne _ _ _ _ _ (by omega)]
    exact H.hd
  refine ⟨by simp [hlen], fun j hj => ?_, by rw [List.length_append, H.ll]; rfl, hhd, ?_, fun j hj => ?_, fun j hj => ?_⟩
  · rw [List.length_set, List.length_set] at hj
    by_cases e : (gen + 1) % 2 = j
    · subst e
      rw [hhd]
      exact ⟨headN_len _ _ _, headN_byte _ _ _⟩
    · rw [getD_set_ne _ _ _ _ _ e]
      by_cases e2 : 2 + i = j
      · subst e2
        rw [getD_set_eq _ _ _ _ hj]
        exact ⟨hrl, recB_byte 64 hb⟩
      · rw [getD_set_ne _ _ _ _ _ e2]
        exact H.sec j hj
  · have o1 := ok_small (gen := gen) (i := i) (by omega) (by omega) rfl
    have o2 := ok_small (gen := gen + 1) (i := i + 1) (by omega) (by omega) rfl
    have e1 := (hdS_head (z := 64) (h := ⟨gen, 1, i, 0, i⟩) (by decide) (wf_small (by omega) (by omega))).2
    have e2 := (hdS_head (z := 64) (h := ⟨(gen + 1 : Nat), 1, (i + 1 : Nat), 0, (i + 1 : Nat)⟩) (by decide) (wf_small (by omega) (by omega))).2
    generalize ((K.set (2 + i) (recB 64 bs)).set ((gen + 1) % 2) (headB 64 ⟨(gen + 1 : Nat), 1, (i + 1 : Nat), 0, (i + 1 : Nat)⟩)) = M at hhd hold
    rw [← hhd] at o2 e2
    rw [← hold] at o1 e1
    unfold newestH newerH w64u
    by_cases hp : gen % 2 = 0
    · have hp1 : (gen + 1) % 2 = 1 := by omega
      rw [hp1] at o2 e2
      rw [hp] at o1 e1
      have o1 : okS 58 0 (M.getD 0 []) := o1
      have o2 : okS 58 1 (M.getD 1 []) := o2
      rw [if_pos ⟨o2, .inr (by rw [e1, e2]; dsimp only; omega)⟩, e2]
    · have hp0 : gen % 2 = 1 := by omega
      have hp1 : (gen + 1) % 2 = 0 := by omega
      rw [hp1] at o2 e2
      rw [hp0] at o1 e1
      have o1 : okS 58 1 (M.getD 1 []) := o1
      have o2 : okS 58 0 (M.getD 0 []) := o2
      rw [if_neg (fun h => by
        rcases h.2 with h | h
        · exact h o2
        · rw [e1, e2] at h; dsimp only at h; omega), if_pos o2, e2]
  · rw [getD_set_ne _ _ _ _ _ (by omega)]
    by_cases e : j = i
    · subst e
      rw [getD_set_eq _ _ _ _ (by omega), List.getD_eq_getElem?_getD, List.getElem?_append_right (by have := H.ll; omega), H.ll, Nat.sub_self]
      rfl
    · rw [getD_set_ne _ _ _ _ _ (by omega), H.recs j (by omega), List.getD_eq_getElem?_getD, List.getD_eq_getElem?_getD, List.getElem?_append_left (by have := H.ll; omega)]
  · by_cases e : j = i
    · subst e
      rw [List.getD_eq_getElem?_getD, List.getElem?_append_right (by have := H.ll; omega), H.ll, Nat.sub_self]
      exact hl
    · rw [List.getD_eq_getElem?_getD, List.getElem?_append_left (by have := H.ll; omega), ← List.getD_eq_getElem?_getD]
      exact H.short j (by omega)
end Go.Proofs.Ytnagpianaghjeaa.Rg
