/-
  loamlaw9.logOf: what a log told, as words.
  loamlaw9.same: a log that tells what was told.
-/
import Derived.Test.YtnagpianaghjeaaBdRingBytes25
import Derived.Deep.RegionLaw
namespace Go.Proofs.Ytnagpianaghjeaa.Rg
open Go Go.RowKit Go.Proofs Go.Proofs.Ytnagpianaghjeaa.Sl
open Pl (DS IsDisk DOwn DPost DMv DKeep Clear DiskAt All2)

theorem infoStr : (Try.prog.info? 9).map (fun i => (i.zero, i.size, i.bytes)) = some (some (.string ByteArray.empty), 1, 16) := by kernel_rfl
def strs (L : List (List Int)) : List Value := L.map (fun b => .string (strOfNums b))
def LogPost (w : World) (first next : Int) (L : List (List Int)) (e : Ending) (w' : World) : Prop := ∃ sv, e = .returned (.agg #[.int .u64 first, .int .u64 next, sv]) ∧ w'.ownsRow w.heap.size 9 1 sv L.length (strs L) ∧ Moves (fun _ => False) w w'
/-- Between two rounds. -/
structure LgS (w : World) (n0 : Nat) (first next : Int) (sv : Value) (M : List (List Int)) (W : World) : Prop where
  b0 : W.heap[n0]? = some (.cells #[.int .u64 0, .int .u64 0, .slice none 0 0] 81 (0, 0))
  b1 : W.heap[n0 + 1]? = some (.cells #[.int .u64 first, .int .u64 next, sv] 81 (0, 0))
  own : W.ownsRow n0 9 1 sv M.length (strs M)
  mv : Moves (fun _ => False) w W
theorem LgS.cell {w W : World} {n0 : Nat} {first next : Int} {sv : Value} {M : List (List Int)} (H : LgS w n0 first next sv M W) : W.cell? ⟨n0 + 1, 2, none⟩ = some sv ∧ W.frozen? ⟨n0 + 1, 2, none⟩ = false ∧ n0 + 1 < W.heap.size := by
  refine ⟨?_, ?_, lt_of_block H.b1⟩
  · simp [World.cell?, H.b1]
  · simp [World.frozen?, H.b1]
theorem LgS.cells {w W : World} {n0 : Nat} {first next : Int} {sv : Value} {M : List (List Int)} (H : LgS w n0 first next sv M W) : W.cell? ⟨n0 + 1, 0, none⟩ = some (.int .u64 first) ∧ W.cell? ⟨n0 + 1, 1, none⟩ = some (.int .u64 next) ∧ W.cell? ⟨n0 + 1, 2, none⟩ = some sv ∧ W.frozen? ⟨n0, 0, none⟩ = false ∧ W.frozen? ⟨n0, 1, none⟩ = false ∧ W.frozen? ⟨n0, 2, none⟩ = false ∧ W.cell? ⟨n0, 0, none⟩ = some (.int .u64 0) ∧ W.cell? ⟨n0, 1, none⟩ = some (.int .u64 0) ∧ W.cell? ⟨n0, 2, none⟩ = some (.slice none 0 0) := by
  refine ⟨?_, ?_, ?_, ?_, ?_, ?_, ?_, ?_, ?_⟩ <;> simp [World.cell?, World.frozen?, H.b0, H.b1]
theorem LgS.ns {w W : World} {n0 : Nat} {first next : Int} {sv : Value} {M : List (List Int)} (H : LgS w n0 first next sv M W) : sv.ownBlock ≠ some (n0 + 1) ∧ sv.ownBlock ≠ some n0 := by
  refine ⟨fun e => ?_, fun e => ?_⟩
  · obtain ⟨cur, hc⟩ := own_block H.own e
    rw [H.b1] at hc
    cases hc
  · obtain ⟨cur, hc⟩ := own_block H.own e
    rw [H.b0] at hc
    cases hc
theorem LgS.moves {w W W' : World} {n0 : Nat} {first next : Int} {sv : Value} {M : List (List Int)} (H : LgS w n0 first next sv M W) (hm : Moves (fun _ => False) W W') : LgS w n0 first next sv M W' :=
  ⟨(hm.block _ (lt_of_block H.b0) (fun e => e)).trans H.b0, (hm.block _ (lt_of_block H.b1) (fun e => e)).trans H.b1, own_moves H.own hm (fun _ _ e => e), H.mv.trans hm⟩
theorem LgS.push {w W W8 : World} {n0 : Nat} {first next : Int} {sv sv' : Value} {M : List (List Int)} {b : List Int} (H : LgS w n0 first next sv M W) (h0 : w.heap.size ≤ n0) (hn : W8.ownsRow n0 9 1 sv' (M.length + 1) (strs M ++ [.string (strOfNums b)])) (hg : W.grownBy W8 sv.ownBlock) : LgS w n0 first next sv' (M ++ [b]) (W8.setCell ⟨n0 + 1, 2, none⟩ sv') := by
  have hns := H.ns
  have m1 : Moves (fun k => sv.ownBlock = some k) W W8 := Moves.of_grown hg (fun k e => e)
  have c1 : W8.heap[n0 + 1]? = some (.cells #[.int .u64 first, .int .u64 next, sv] 81 (0, 0)) := (m1.block _ (lt_of_block H.b1) hns.1).trans H.b1
  have c0 : W8.heap[n0]? = some (.cells #[.int .u64 0, .int .u64 0, .slice none 0 0] 81 (0, 0)) := (m1.block _ (lt_of_block H.b0) hns.2).trans H.b0
  have m2 : Moves (fun k => k = n0 + 1) W8 (W8.setCell ⟨n0 + 1, 2, none⟩ sv') := (Moves.refl (fun k => k = n0 + 1) W8).setCell (p := ⟨n0 + 1, 2, none⟩) (fun _ => rfl) _
  refine ⟨?_, ?_, ?_, ?_⟩
  · simp [World.setCell, Array.getElem?_modify, c0]
  · simp [World.setCell, Array.getElem?_modify, c1]
  · have : strs (M ++ [b]) = strs M ++ [.string (strOfNums b)] := by simp [strs]
    rw [this, List.length_append, List.length_singleton]
    refine own_moves hn m2 (fun k e q => ?_)
    subst q
    obtain ⟨cur, hc⟩ := own_block hn e
    rw [c1] at hc
    cases hc
  · refine H.mv.andThen ((m1.mono (fun k e => ?_) : Moves (fun k => n0 ≤ k) W W8).trans (m2.mono (fun k e => ?_))) (fun k e hk => ?_)
    · exact (H.own.lt k e).1
    · subst e; exact Nat.le_succ _
    · exact absurd e (by omega)
theorem two_new (w : World) (a b : Obj) : ((w.alloc a).alloc b).heap[w.heap.size]? = (w.alloc a).heap[w.heap.size]? ∧ ((w.alloc a).alloc b).heap[w.heap.size + 1]? = ((w.alloc a).alloc b).heap[(w.alloc a).heap.size]? := by
  have h : (w.alloc a).heap.size = w.heap.size + 1 := by simp
  refine ⟨Below.heap_alloc _ _ _ (by omega), by rw [h]⟩
theorem lgs0 (w : World) (first next : Int) : LgS w w.heap.size first next (.slice none 0 0) [] ((w.alloc (.cells #[.int .u64 0, .int .u64 0, .slice none 0 0] 81)).alloc (.cells #[.int .u64 first, .int .u64 next, .slice none 0 0] 81)) :=
  ⟨(two_new _ _ _).1.trans (heap_alloc_new _ _), (two_new _ _ _).2.trans (heap_alloc_new _ _), World.ownsRow_nil _ _ _ _, ((Moves.refl (fun _ => False) w).alloc _).alloc _⟩
theorem lgfin {w W : World} {first next : Int} {sv : Value} {M : List (List Int)} (H : LgS w w.heap.size first next sv M W) : (((W.setCell ⟨w.heap.size, 0, none⟩ (.int .u64 first)).setCell ⟨w.heap.size, 1, none⟩ (.int .u64 next)).setCell ⟨w.heap.size, 2, none⟩ sv).cell? ⟨w.heap.size, 0, none⟩ = some (.int .u64 first) ∧ (((W.setCell ⟨w.heap.size, 0, none⟩ (.int .u64 first)).setCell ⟨w.heap.size, 1, none⟩ (.int .u64 next)).setCell ⟨w.heap.size, 2, none⟩ sv).cell? ⟨w.heap.size, 1, none⟩ = some (.int .u64 next) ∧ (((W.setCell ⟨w.heap.size, 0, none⟩ (.int .u64 first)).setCell ⟨w.heap.size, 1, none⟩ (.int .u64 next)).setCell ⟨w.heap.size, 2, none⟩ sv).cell? ⟨w.heap.size, 2, none⟩ = some sv ∧ (((W.setCell ⟨w.heap.size, 0, none⟩ (.int .u64 first)).setCell ⟨w.heap.size, 1, none⟩ (.int .u64 next)).setCell ⟨w.heap.size, 2, none⟩ sv).ownsRow w.heap.size 9 1 sv M.length (strs M) ∧ Moves (fun _ => False) w (((W.setCell ⟨w.heap.size, 0, none⟩ (.int .u64 first)).setCell ⟨w.heap.size, 1, none⟩ (.int .u64 next)).setCell ⟨w.heap.size, 2, none⟩ sv) := by
  have hb := H.b0
  have m1 : Moves (fun k => k = w.heap.size) W (((W.setCell ⟨w.heap.size, 0, none⟩ (.int .u64 first)).setCell ⟨w.heap.size, 1, none⟩ (.int .u64 next)).setCell ⟨w.heap.size, 2, none⟩ sv) := (((Moves.refl (fun k => k = w.heap.size) W).setCell (p := ⟨w.heap.size, 0, none⟩) (fun _ => rfl) _).setCell (p := ⟨w.heap.size, 1, none⟩) (fun _ => rfl) _).setCell (p := ⟨w.heap.size, 2, none⟩) (fun _ => rfl) _
  refine ⟨?_, ?_, ?_, own_moves H.own m1 (fun k e q => by subst q; exact H.ns.2 e), H.mv.andThen m1 (fun k e hk => absurd e (by omega))⟩
  all_goals simp [World.setCell, World.cell?, Array.getElem?_modify, hb]
set_option maxRecDepth 100000 in
set_option maxHeartbeats 4000000 in
theorem logof_any {w w0 : World} {lv : Value} {vals : List Value} {L : List (List Int)} {first next : Int} {B : Nat → Prop} (hrow : Row w B lv vals) (hr : RowsB w0 w vals L) (hL : L.length ≤ 100000) : Calls Try.prog 41 #[.int .u64 first, lv, .int .u64 next] w (LogPost w first next L) := by
  have hvl := hr.1
  obtain ⟨A, c, rfl, hc, hx⟩ := hrow
  have HXB := Lib.hid hx
  have HRR := Lib.hid hr
  have HVL : Hid (vals.length = L.length ∧ L.length ≤ 100000) := Lib.hid ⟨hvl, hL⟩
  have b0 : (vals.length : Int) ≤ 100000 := by omega
  have b1 : (vals.length : Int) ≤ (c : Int) := by omega
  obtain ⟨i4, hi4, p0, p1, p2⟩ := info_parts infoStr
  have p3 : (Value.slice none 0 0).cells.size = 1 := rfl
  have p4 : (0 : Nat) < 1 := by decide
  have HQ : Hid (∀ sv w', w'.ownsRow w.heap.size 9 1 sv L.length (strs L) → Moves (fun _ => False) w w' → LogPost w first next L (.returned (.agg #[.int .u64 first, .int .u64 next, sv])) w') := Lib.hid (fun sv w' h1 h2 => ⟨sv, rfl, h1, h2⟩)
  generalize LogPost w first next L = Q at HQ ⊢
  have M0 := Lib.hid (lgs0 w first next)
  clear hr hvl hL hc hx
  go_enter Try.func41, Try.ntmps41
  go_wp2_with fail
  go_loopg [8] (vals.length) (fun gg s8 wr => ∃ (i : Nat) (sv : Value), i ≤ vals.length ∧ gg = vals.length - i ∧ s8 = .int .i64 i ∧ Hid (LgS w w.heap.size first next sv (L.take i) wr))
  case atStart => exact ⟨0, _, Nat.zero_le _, rfl, rfl, M0⟩
  case round =>
    obtain ⟨i, sv, hi, hgg, rfl, HI⟩ := hrel
    have i0 : (0 : Int) ≤ (i : Int) := by omega
    by_cases hil : i < vals.length
    · have i1 : (i : Int) < (vals.length : Int) := by omega
      obtain ⟨u, hu⟩ : ∃ u, vals[i]? = some u := ⟨_, List.getElem?_eq_getElem hil⟩
      obtain ⟨b, hb⟩ : ∃ b, L[i]? = some b := ⟨_, List.getElem?_eq_getElem (by have := HVL.out.1; omega)⟩
      have hub : RB w0 w u b := by
        have h := HRR.out.2 i hil (by have := HVL.out.1; omega)
        have h1 := List.getElem?_eq_some_iff.1 hu
        have h2 := List.getElem?_eq_some_iff.1 hb
        rw [← h1.2, ← h2.2]
        exact h
      obtain ⟨g, o, rfl, -, hgl, hcell⟩ := HXB.out (by omega)
      have hm := HI.out.mv
      have e1 : wr.cell? ⟨g, o + i, none⟩ = some u := (hm.cell (p := ⟨g, o + i, none⟩) hgl (fun e => e)).trans (hcell i u hu)
      obtain ⟨e2, f2, HL2⟩ := HI.out.cell
      have HL2 := Lib.hid HL2
      obtain ⟨Al, cl, rfl, -, -, -, -, -⟩ := own_form HI.out.own
      have HUB := Lib.hid (RB.moves hub hm (fun _ _ _ e => e))
      have hcv := conv_rowS (RB.moves HUB.out (Moves.refl (fun _ => False) wr).drew (fun _ _ _ e => e)).1
      have HT1 : Hid (L.take (i + 1) = L.take i ++ [b]) := Lib.hid (by rw [List.take_add_one, hb]; rfl)
      have HTL : Hid ((L.take i).length = i) := Lib.hid (by rw [List.length_take]; have := HVL.out.1; omega)
      have hHI := HI.out
      rw [HTL.out] at hHI e2
      have HI2 := Lib.hid hHI
      have HOW : Hid (wr.ownsRow w.heap.size 9 1 (.slice Al i cl) i (strs (L.take i))) := Lib.hid (by have h := hHI.own; rw [HTL.out] at h; exact h)
      clear hub hm hcell hgl hHI HI
      have h63 : Hid (i + 1 ≤ maxLen ∧ (i + 1) * 16 ≤ 140737488355328) := Lib.hid (by have h1 := HVL.out; unfold maxLen; omega)
      have hbs : Hid (∀ o, w.heap.size ≤ (wr.alloc o).heap.size) := Lib.hid (fun o => by have h1 := HL2.out; simp; omega)
      have e2a := (World.cell?_alloc_lt wr (.cells #[.string (strOfNums b)] 9) ⟨w.heap.size + 1, 2, none⟩ HL2.out).trans e2
      go_wp2_with fail
      go_region_law (first
        | (refine step_append_src _ rfl (.tmp 19) (.tmp 25) 72 rfl w.heap.size 9 i4 _ 1 16 Try.underlying72 hi4 p0 p1 p2 p3 p4 (.slice Al i cl) i (strs (L.take i)) rfl (HOW.out.alloc _) (some ⟨wr.heap.size, 0, none⟩) 1 1 [.string (strOfNums b)] rfl (by rfl) (fun _ => ⟨_, rfl, World.news_of_block (cs := #[.string (strOfNums b)]) (t := 9) (fr := (0, 0)) (heap_alloc_new _ _)⟩) (by simp [Value.oneCell']) h63.out.1 h63.out.2 (hbs.out _) ?_
           intro v1 w8 hn8 hg8 hl8
           have hmD : Moves (fun _ => False) wr (wr.alloc (.cells #[.string (strOfNums b)] 9)).drew := ((Moves.refl _ wr).alloc _).drew
           have HI3 := HI2.out.moves hmD
           have m8 : Moves (fun k => (Value.slice Al i cl).ownBlock = some k) (wr.alloc (.cells #[.string (strOfNums b)] 9)).drew w8 := Moves.of_grown hg8 (fun k e => e)
           have e11 := (m8.cell (p := ⟨w.heap.size + 1, 2, none⟩) HI3.cell.2.2 HI3.ns.1).trans HI3.cell.1
           have f11 := (World.frozen?_of_block (m8.block (w.heap.size + 1) HI3.cell.2.2 HI3.ns.1)).trans HI3.cell.2.1
           obtain ⟨A1, c1, rfl, -, -, -, -, -⟩ := own_form hn8)
        | fail)
      all_goals
        have hp := HI3.push (b := b) (Nat.le_refl _) (by rw [HTL.out]; exact hn8) hg8
        rw [← HT1.out] at hp
        have HP := Lib.hid hp
        clear hp hmD HI3 m8 e11 f11 hn8 hg8 hl8
        go_wp2_with fail
        go_roundg (vals.length - (i + 1))
        case measure => omega
        case rel => exact ⟨i + 1, _, by omega, rfl, by go_num, HP⟩
    · have i1 : ¬ (i : Int) < (vals.length : Int) := by omega
      obtain rfl : i = vals.length := by omega
      obtain ⟨Al, cl, rfl, -, -, -, -, -⟩ := own_form HI.out.own
      obtain ⟨e0, e1, e2, f0, f1, f2, o0, o1, o2⟩ := HI.out.cells
      generalize hll : (L.take vals.length).length = ll at e2
      go_wp2_with fail
      have h := lgfin HI.out
      rw [hll] at h
      generalize ((wr.setCell ⟨w.heap.size, 0, none⟩ (.int .u64 first)).setCell ⟨w.heap.size, 1, none⟩ (.int .u64 next)).setCell ⟨w.heap.size, 2, none⟩ (.slice Al ll cl) = Y at h ⊢
      obtain ⟨n0, n1, n2, h3, h4⟩ := h
      exact bodyPost_ret (v := .agg #[.int .u64 first, .int .u64 next, .slice Al ll cl]) (by simp [results, Try.results41, go_sem, n0, n1, n2]) rfl (HQ.out _ _ (by have e := HVL.out.1; rw [e, List.take_length] at h3 hll; rw [hll]; exact h3) h4)
end Go.Proofs.Ytnagpianaghjeaa.Rg
namespace Go.Proofs.Ytnagpianaghjeaa.Rg
open Go Go.RowKit Go.Proofs Go.Proofs.Ytnagpianaghjeaa.Sl
open Pl (DS IsDisk DOwn DPost DMv DKeep Clear DiskAt All2)

set_option maxRecDepth 100000 in
set_option maxHeartbeats 4000000 in
theorem same_any {w : World} {base b1 r d s n z : Nat} {D : DS} {h : Hd} {lv sv : Value} {vals : List Value} {L : List (List Int)} {first next : Int} (H : RingAt w base d r s n z D h lv vals L) (hsv : w.ownsRow b1 9 1 sv L.length (strs L)) (hL : L.length ≤ 100000) (hf : h.first = first) (hx : IntKind.u64.wrap (first + vals.length) = next) : Calls Try.prog 40 #[.pointer (some ⟨r, 0, none⟩), .agg #[.int .u64 first, .int .u64 next, sv]] w (TrueQ w) := by
  obtain ⟨Al, cl, rfl, hlc, -, -, -, hxs⟩ := own_form hsv
  have HXS := Lib.hid hxs
  obtain ⟨lA, lc, rfl, -, -, -, -, -⟩ := own_form H.own
  have hvl := H.len
  have HLN : Hid (vals.length = L.length ∧ L.length ≤ 100000) := Lib.hid ⟨hvl, hL⟩
  have HREC : Hid (∀ W, Moves (fun _ => False) w W → Calls Try.prog 38 #[.pointer (some ⟨r, 0, none⟩)] W (RecsPost W h L)) := Lib.hid (fun W hm => recs_any (H.moves0 hm) (by omega))
  have HNX : Hid (∀ W, Moves (fun _ => False) w W → Calls Try.prog 34 #[.pointer (some ⟨r, 0, none⟩)] W (MovV W (.int .u64 next))) := Lib.hid (fun W hm => by
    have h1 := next_any (H.rb.moves0 hm) (by omega)
    rw [hf, hx] at h1
    exact h1)
  have HF := Lib.hid hf
  have b0 : (L.length : Int) ≤ 100000 := by omega
  have HM0 := Lib.hid ((Moves.refl (fun _ => False) w).alloc (.cells #[.int .u64 first, .int .u64 next, .slice Al L.length cl] 81))
  have HB0 : Hid ((w.alloc (.cells #[.int .u64 first, .int .u64 next, .slice Al L.length cl] 81)).heap[w.heap.size]? = some (.cells #[.int .u64 first, .int .u64 next, .slice Al L.length cl] 81 (0, 0)) ∧ w.heap.size < (w.alloc (.cells #[.int .u64 first, .int .u64 next, .slice Al L.length cl] 81)).heap.size) := Lib.hid ⟨heap_alloc_new _ _, by simp⟩
  have HREC0 := HREC.out _ HM0.out
  clear H hsv hlc hxs hvl hL hf hx
  go_enter Try.func40, Try.ntmps40
  go_wp2_with fail
  refine HREC0.mono ?_
  rintro e w2 ⟨lv2, vals2, rfl, hown2, hrow2, hm2⟩
  rw [HF.out]
  obtain ⟨A2, c2, rfl, -, -, -, -, hx2⟩ := own_form hown2
  have HX2 := Lib.hid hx2
  have HR2 := Lib.hid hrow2
  have HM2 := Lib.hid (HM0.out.trans hm2)
  have HB2 := Lib.hid ((hm2.block _ HB0.out.2 (fun e => e)).trans HB0.out.1)
  have hv2 : vals2.length = L.length := hrow2.1
  clear hown2 hrow2 hm2 hx2 HREC0
  generalize vals2.length = l2 at hv2 HX2
  subst hv2
  obtain ⟨c0, c1, c2'⟩ := cells3 HB2.out
  have HKP : Hid (∀ w', KpS w2 w' → KpS w2 w' ∧ w'.cell? ⟨w.heap.size, 0, none⟩ = some (.int .u64 first) ∧ w'.cell? ⟨w.heap.size, 1, none⟩ = some (.int .u64 next) ∧ w'.cell? ⟨w.heap.size, 2, none⟩ = some (.slice Al L.length cl)) := Lib.hid (fun w' hk => ⟨hk, hk.cell c0, hk.cell c1, hk.cell c2'⟩)
  have hK0 := HKP.out _ (KpS.refl w2)
  have hK1 := HKP.out _ (KpS.of (Moves.refl (fun _ => False) w2).drew)
  go_wp2_with fail
  go_region_held3 (fun w' => KpS w2 w' ∧ w'.cell? ⟨w.heap.size, 0, none⟩ = some (.int .u64 first) ∧ w'.cell? ⟨w.heap.size, 1, none⟩ = some (.int .u64 next) ∧ w'.cell? ⟨w.heap.size, 2, none⟩ = some (.slice Al L.length cl))
    (first | with_reducible exact hS' | with_reducible exact hK0 | with_reducible exact hK1 | assumption)
    (first
      | (go_at_call 34
         refine (HNX.out _ (HM2.out.trans (Moves.refl (fun _ => False) w2).drew)).mono ?_
         rintro e w' ⟨rfl, hl⟩
         have hS' := HKP.out w' (KpS.of ((Moves.refl (fun _ => False) w2).drew.trans hl)))
      | fail)
  all_goals
    have HK := Lib.hid (KpS.moves hS'.1)
    clear hS' hK0 hK1 hl c0 c1 c2'
    go_wp2_with fail
    go_loopg [7] (L.length) (fun gg s7 wr => ∃ (i : Nat), i ≤ L.length ∧ gg = L.length - i ∧ s7 = .int .i64 i ∧ Hid (Moves (fun _ => False) w2 wr))
    case atStart => exact ⟨0, Nat.zero_le _, rfl, rfl, HK⟩
    case round =>
      obtain ⟨i, hi, hgg, rfl, HI⟩ := hrel
      have i0 : (0 : Int) ≤ (i : Int) := by omega
      by_cases hil : i < L.length
      · have i1 : (i : Int) < (L.length : Int) := by omega
        obtain ⟨b, hb⟩ : ∃ b, L[i]? = some b := ⟨_, List.getElem?_eq_getElem hil⟩
        obtain ⟨ga, rfl, -, hga, hca⟩ := HXS.out (by omega)
        obtain ⟨g2, rfl, -, hg2, hc2⟩ := HX2.out (by omega)
        have hvi : i < vals2.length := by rw [HR2.out.1]; exact hil
        have hu := List.getElem?_eq_getElem hvi
        have hrb := HR2.out.2 i hvi hil
        rw [(List.getElem?_eq_some_iff.1 hb).2] at hrb
        generalize vals2[i] = u at hu hrb
        have hcv := conv_rowS (RB.moves hrb (HI.out.trans (Moves.refl (fun _ => False) wr).drew) (fun _ _ _ e => e)).1
        have hsb : (strs L)[i]? = some (.string (strOfNums b)) := by simp [strs, hb]
        have e1 : wr.cell? ⟨g2, i, none⟩ = some u := (HI.out.cell (p := ⟨g2, i, none⟩) hg2 (fun e => e)).trans (hc2 i u hu)
        have e2 : wr.cell? ⟨ga, i, none⟩ = some (.string (strOfNums b)) := ((HM2.out.trans HI.out).cell (p := ⟨ga, i, none⟩) hga (fun e => e)).trans (hca i _ hsb)
        obtain ⟨-, -, -, e3⟩ := HKP.out wr (KpS.of HI.out)
        clear hca hc2 hvi hrb hu hsb hb
        go_wp2_with fail
        go_region
        go_wp2_with fail
        go_roundg (L.length - (i + 1))
        case measure => omega
        case rel => exact ⟨i + 1, by omega, rfl, by go_num, Lib.hid (HI.out.trans (Moves.refl (fun _ => False) wr).drew)⟩
      · have i1 : ¬ (i : Int) < (L.length : Int) := by omega
        go_wp2_with fail
        go_ret
        exact ⟨rfl, HM2.out.trans HI.out⟩
end Go.Proofs.Ytnagpianaghjeaa.Rg
