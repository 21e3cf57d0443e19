/-
  The statement's own disk: its cut.
-/
import Derived.Test.YtbfnmgjpkieaoaaDModel
import Derived.StillTailTactics
namespace Go.Proofs.Ytbfnmgjpkieaoaa.Pl
open Go Go.RowKit Go.Maps Go.Sort Go.Proofs

/-- Behind a cut: the slice of what a cut keeps is the one that it was. -/
def CutK (w : World) (base mb : Nat) (L : Nat → Prop) (S : DS) (kpv : Value) (e : Ending) (w' : World) : Prop := e = .returned (.tuple #[]) ∧ (∃ kv wv, ModelAt w' base mb L S kv wv kpv) ∧ Moves (fun k => k = mb) w w'
theorem src_own {w : World} {base n : Nat} {e : TypeId} {size : Nat} {A : Option Addr} {c : Nat} {xs : List Value} (h : w.ownsRow base e size (.slice A n c) n xs) : Src w A n xs := src_of_own h rfl

set_option maxRecDepth 100000 in
set_option maxHeartbeats 4000000 in
theorem m_cutK {w : World} {base mb : Nat} {L Lk : Nat → Prop} {S : DS} {kv wv kpv : Value} (h : ModelAt w base mb L S kv wv kpv) {v : Value} {bs : List Bool} (hr : Row w Lk v (bs.map .bool)) (hLk : ∀ k, Lk k → k < w.heap.size → k ≠ mb) (hL : ∀ k, L k → k < base) (hl : bs.length ≤ 1000) :
    Calls Try.prog 37 #[.pointer (some ⟨mb, 0, none⟩), v] w (CutK w base mb L (cutS S bs) kpv) := by
  have hmbl : mb < w.heap.size := (Array.getElem?_eq_some_iff.1 h.blk).1
  obtain ⟨-, c1, c2, -⟩ := h.cells
  obtain ⟨Ak, ck, rfl, -⟩ := own_form h.kept
  obtain ⟨Aw, cw, rfl, -, -, -, -, hxw⟩ := own_form h.wait
  obtain ⟨A, c, rfl, hc, hx⟩ := hr
  rw [List.length_map] at hc hx ⊢
  obtain ⟨i4, hi4, hq0, hq1, hq2⟩ := info_parts infoStr
  have hq3 : (Value.string ⟨#[]⟩).cells.size = 1 := rfl
  have hq4 : (0 : Nat) < 1 := by decide
  have hf := h.few
  have hmi : w.cell? ⟨mb, 0, none⟩ = some (.int .i64 S.size) := h.cells.1
  have hsrc : Src (w.alloc (.cells #[] 9)) Ak S.kept.length (S.kept.map str) := src_own (h.kept.alloc _)
  have h1 : 0 + S.kept.length ≤ maxLen := by unfold maxLen; omega
  have h2 : (0 + S.kept.length) * 16 ≤ 140737488355328 := by omega
  have h3 : w.heap.size ≤ (w.alloc (.cells #[] 9)).heap.size := by simp
  have hown : (w.alloc (.cells #[] 9)).ownsRow w.heap.size 9 1 (.slice (some ⟨w.heap.size, 0, none⟩) 0 0) 0 [] := World.ownsRow_made w #[] 0 (Nat.le_refl _) (by unfold maxLen; omega) (by simp)
  have HQ : Hid ((S.kept.map str).length = S.kept.length * 1 ∧ (∀ u ∈ S.kept.map str, u.oneCell' = true) ∧ Src (w.alloc (.cells #[] 9)) Ak S.kept.length (S.kept.map str) ∧ 0 + S.kept.length ≤ maxLen ∧ (0 + S.kept.length) * 16 ≤ 140737488355328 ∧ w.heap.size ≤ (w.alloc (.cells #[] 9)).heap.size ∧ (w.alloc (.cells #[] 9)).ownsRow w.heap.size 9 1 (.slice (some ⟨w.heap.size, 0, none⟩) 0 0) 0 []) := Lib.hid ⟨by simp, fun u hu => by obtain ⟨b, _, rfl⟩ := List.mem_map.1 hu; rfl, hsrc, h1, h2, h3, hown⟩
  have H := Lib.hid h
  have HXW := Lib.hid hxw
  have HX := Lib.hid hx
  have HLK := Lib.hid hLk
  clear h hsrc h1 h2 h3 hown hxw hx hLk hmi
  go_enter Try.func37, Try.ntmps37
  go_wp2_with (first
    | (at_builtin; go_must (refine wpList_append_src _ rfl (.tmp 6) (.tmp 10) 58 rfl w.heap.size 9 i4 _ 1 16 Try.underlying58 hi4 hq0 hq1 hq2 hq3 hq4 (.slice (some ⟨w.heap.size, 0, none⟩) 0 0) 0 [] rfl HQ.out.2.2.2.2.2.2 Ak S.kept.length ck (S.kept.map str) rfl HQ.out.1 HQ.out.2.2.1 HQ.out.2.1 HQ.out.2.2.2.1 HQ.out.2.2.2.2.1 HQ.out.2.2.2.2.2.1 ?_)
       intro v4 w1 hn1 hg1 hl1
       have H1 : Hid (w1.ownsRow w.heap.size 9 1 v4 S.kept.length (S.kept.map str) ∧ Moves (fun _ => False) w w1) := Lib.hid ⟨by simpa using hn1, ((Moves.refl _ w).alloc _).grown hg1 (fun k hk hlt => by simp [Value.ownBlock] at hk; omega)⟩
       clear hn1 hg1 hl1)
    | fail)
  obtain ⟨A4, c4, rfl, -⟩ := own_form H1.out.1
  go_loopg [5] S.secs.length (fun gg s5 wr => ∃ k : Nat, k ≤ S.secs.length ∧ gg = S.secs.length - k ∧ s5 = .int .i64 k ∧ Hid (wr.ownsRow w.heap.size 9 1 (.slice A4 S.kept.length c4) S.kept.length ((putN S.kept S.secs S.data (fun i => bs.getD i false) k).map str) ∧ Moves (fun _ => False) w wr))
  case atStart => exact ⟨0, Nat.zero_le _, rfl, rfl, Lib.hid ⟨by rw [putN_zero]; exact H1.out.1, H1.out.2⟩⟩
  case round =>
    clear c1 c2
    obtain ⟨k, hk, rfl, rfl, HI⟩ := hrel
    have hD := H.out.moves0 HI.out.2
    obtain ⟨-, c1, c2, -⟩ := hD.cells
    by_cases hlt : k < S.secs.length
    · have hkz : (k : Int) < (S.secs.length : Int) := by omega
      have hk0 : (0 : Int) ≤ (k : Int) := by omega
      have hkm : S.secs[k] ∈ S.secs := List.getElem_mem hlt
      have hsk : sF S.secs k = S.secs[k] := by unfold sF; rw [List.getD_eq_getElem?_getD, List.getElem?_eq_getElem hlt]; rfl
      have hw := hD.wfs _ hkm
      rw [← hsk] at hw
      obtain ⟨gw, rfl, -, hgwl, hcw⟩ := HXW.out (by omega)
      have hg := cells2_get (l := wl S.secs S.data) (k := k) (by rw [wl_len]; exact hlt)
      rw [wl_get] at hg
      have HSK := Lib.hid (putN_succ S.kept S.secs S.data (fun i => bs.getD i false) k)
      have r0 : wr.cell? ⟨gw, k * 2, none⟩ = some (.int .i64 (sF S.secs k)) := (HI.out.2.cell (p := ⟨gw, k * 2, none⟩) hgwl (fun h => h)).trans (hcw _ _ hg.1)
      have r1 : wr.cell? ⟨gw, k * 2 + 1, none⟩ = some (str (S.data.getD k [])) := (HI.out.2.cell (p := ⟨gw, k * 2 + 1, none⟩) hgwl (fun h => h)).trans (hcw _ _ hg.2)
      obtain ⟨g4, hA4, hg4b, hg4l, -⟩ : ∃ g4, A4 = some ⟨g4, 0, none⟩ ∧ w.heap.size ≤ g4 ∧ g4 < wr.heap.size ∧ True := by
        obtain ⟨A4', c4', e4, -, -, -, -, hx4⟩ := own_form HI.out.1
        cases e4
        obtain ⟨g4, e, hb, hlt4, -⟩ := hx4 (by omega)
        exact ⟨g4, e, hb, hlt4, trivial⟩
      subst hA4
      clear hcw hg hkm hsk hgwl hD
      generalize sF S.secs k = x at r0 HSK hw
      obtain ⟨sx, rfl⟩ : ∃ sx : Nat, x = sx := ⟨x.toNat, by omega⟩
      generalize hdk : S.data.getD k [] = dk at r1 HSK
      clear hdk
      obtain ⟨sd, hsd⟩ : ∃ sd, strOfNums dk = sd := ⟨_, rfl⟩
      have hsd : str dk = .string sd := by unfold str; rw [hsd]
      rw [hsd] at r1
      have HSD := Lib.hid hsd
      clear hsd
      have hx1 : (sx : Int) < (S.kept.length : Int) := hw.2
      have hx0 : (0 : Int) ≤ (sx : Int) := hw.1
      have hx2 : sx < S.kept.length := by omega
      obtain ⟨old, q4, f4⟩ : ∃ old, wr.cell? ⟨g4, sx, none⟩ = some old ∧ wr.frozen? ⟨g4, sx, none⟩ = false := by
        obtain ⟨A4', c4', e4, -, -, -, -, hx4⟩ := own_form HI.out.1
        cases e4
        obtain ⟨g4', e, -, -, hc4⟩ := hx4 (by omega)
        cases e
        obtain ⟨cur, hcur⟩ := own_block HI.out.1 rfl
        exact ⟨_, hc4 sx _ (List.getElem?_eq_getElem (by rw [List.length_map, putN_len]; exact hx2)), by simp [World.frozen?, hcur]⟩
      by_cases hkb : k < bs.length
      · have hkb1 : (k : Int) < (bs.length : Int) := by omega
        obtain ⟨gb, ob, rfl, hLb, hgbl, hcb⟩ := HX.out (by omega)
        have hv := (HI.out.2.cell (p := ⟨gb, ob + k, none⟩) hgbl (fun h => h)).trans (hcb k (.bool bs[k]) (by simp [hkb]))
        have e : bs.getD k false = bs[k] := by simp [List.getD_eq_getElem?_getD, hkb]
        rw [e] at HSK
        generalize bs[k] = b at hv HSK
        clear hcb e hgbl hLb
        cases b with
        | true =>
          have hset : (putN S.kept S.secs S.data (fun i => bs.getD i false) (k + 1)).map str = ((putN S.kept S.secs S.data (fun i => bs.getD i false) k).map str).set sx (.string sd) := by
            rw [HSK.out, if_pos rfl, List.map_set, HSD.out]
            simp
          have HSET := Lib.hid hset
          clear hset
          go_upto_region 5 with fail
          go_still_tail 18, (by kernel_rfl)
          change wpList _ _ _ _ _ wr.drew
          go_wp2
          have HN : Hid ((wr.setCell ⟨g4, sx, none⟩ (.string sd)).drew.ownsRow w.heap.size 9 1 (.slice (some ⟨g4, 0, none⟩) S.kept.length c4) S.kept.length ((putN S.kept S.secs S.data (fun i => bs.getD i false) (k + 1)).map str) ∧ Moves (fun _ => False) w (wr.setCell ⟨g4, sx, none⟩ (.string sd)).drew) := by
            rw [HSET.out]
            exact Lib.hid ⟨own_moves (own_set HI.out.1 (i := sx) (.string sd)) ((Moves.refl (fun _ => False) _).drew) (fun _ _ h => h), (HI.out.2.setCell (p := ⟨g4, sx, none⟩) (fun (e : g4 < w.heap.size) => by omega) _).drew⟩
          go_roundg (S.secs.length - (k + 1))
          case measure => omega
          case rel => exact ⟨k + 1, by omega, rfl, by go_num, HN⟩
        | false =>
          go_wp2
          go_roundg (S.secs.length - (k + 1))
          case measure => omega
          case rel => exact ⟨k + 1, by omega, rfl, by go_num, by rw [HSK.out]; exact HI⟩
      · have hkb1 : ¬ (k : Int) < (bs.length : Int) := by omega
        have e : bs.getD k false = false := by rw [List.getD_eq_getElem?_getD, List.getElem?_eq_none (by omega)]; rfl
        rw [e] at HSK
        clear e
        go_wp2
        go_roundg (S.secs.length - (k + 1))
        case measure => omega
        case rel => exact ⟨k + 1, by omega, rfl, by go_num, by rw [HSK.out]; exact HI⟩
    · obtain rfl : k = S.secs.length := by omega
      have hkz : ¬ (S.secs.length : Int) < (S.secs.length : Int) := by omega
      obtain ⟨-, -, -, c3, c4', -⟩ := hD.cells
      have f1 := hD.fr 1
      have f2 := hD.fr 2
      have f3 := hD.fr 3
      have f4 := hD.fr 4
      have HD := Lib.hid hD
      clear hD
      go_wp2
      go_end0
      have h := HD.out
      have hm : Moves (fun k => k = mb) wr ((((wr.setCell ⟨mb, 1, none⟩ (.slice A4 S.kept.length c4)).setCell ⟨mb, 2, none⟩ (.slice none 0 0)).setCell ⟨mb, 3, none⟩ (.bool true)).setCell ⟨mb, 4, none⟩ (.bool false)) := Moves.setCell (p := ⟨mb, 4, none⟩) (Moves.setCell (p := ⟨mb, 3, none⟩) (Moves.setCell (p := ⟨mb, 2, none⟩) (Moves.setCell (p := ⟨mb, 1, none⟩) (Moves.refl (fun k => k = mb) wr) (fun _ => rfl) _) (fun _ => rfl) _) (fun _ => rfl) _) (fun _ => rfl) _
      refine ⟨rfl, ⟨.slice A4 S.kept.length c4, .slice none 0 0, h.put (S' := cutS S bs) (kv' := .slice A4 S.kept.length c4) (wv' := .slice none 0 0) (kpv' := kpv) hm (fun k hk _ e => by have := hL k hk; have := h.hb; omega) (by simp [World.setCell, Array.getElem?_modify, h.blk, cutS, settleS]) ?_ (World.ownsRow_nil _ _ _ _) h.form (fun ha => by cases ha) rfl (by simp [cutS, settleS]) ⟨by simp [cutS, settleS], by simp only [cutS, settleS, putN_len]; exact hf.2⟩⟩, (HI.out.2.none _).trans hm⟩
      have hk' : (cutS S bs).kept = putN S.kept S.secs S.data (fun i => bs.getD i false) S.secs.length := rfl
      rw [hk', putN_len]
      exact own_weak (by have := h.hb; omega) HI.out.1
theorem m_cut {w : World} {base mb : Nat} {L Lk : Nat → Prop} {S : DS} (h : IsModel w base mb L S) {v : Value} {bs : List Bool} (hr : Row w Lk v (bs.map .bool)) (hLk : ∀ k, Lk k → k < w.heap.size → k ≠ mb) (hL : ∀ k, L k → k < base) (hl : bs.length ≤ 1000) :
    Calls Try.prog 37 #[.pointer (some ⟨mb, 0, none⟩), v] w (MdPost w base mb L (cutS S bs) (.tuple #[])) := by
  obtain ⟨kv, wv, kpv, h⟩ := h
  refine (m_cutK h hr hLk hL hl).mono ?_
  rintro e w' ⟨he, ⟨kv', wv', h'⟩, hm⟩
  exact ⟨he, ⟨kv', wv', kpv, h'⟩, hm⟩
end Go.Proofs.Ytbfnmgjpkieaoaa.Pl
