/-
  The contracts of a set of keys: Remove.
-/
import Derived.Test.YtmennobdgfgjaaaKeySet2
namespace Go.Proofs.Ytmennobdgfgjaaa
open Go Go.RowKit Go.Maps Go.Sort Go.Proofs

set_option maxRecDepth 100000 in
set_option maxHeartbeats 2000000 in
theorem remove_some {w : World} {base p m : Nat} {D : DataW Unit} {M M' ks : List Pr} {n : Int} {L : Nat → Prop} {v : Value} (h : MapAt w base p m D M) (hr : KRow w L v ks) (hwf : ∀ q ∈ ks, wf2 q) (hlen : M.length + ks.length ≤ 1000000) (hM : delL M ks = M') (hn : (M.length : Int) - M'.length = n) :
    Calls Try.prog 32 #[.pointer (some ⟨p, 0, none⟩), v] w (SetPost w base p M' n (fun k => k = m)) := by
  have c0 := h.c0
  have hs := h.of.size
  have hown := h.own
  obtain ⟨A, c, rfl, hc, hx⟩ := hr
  have H := Lib.hid h
  have Hn := Lib.hid hn
  have HM' := Lib.hid hM
  clear h hn hM
  go_enter Try.func32, Try.ntmps32
  go_wp2_with (first
    | (at_len; refine wpList_len_own _ rfl _ 60 rfl 49 4 Try.underlying60 _ m M.length D rfl hown ?_)
    | fail)
  go_loopw [15] (fun t wr => ∃ (i : Nat) (D' : DataW Unit), i ≤ ks.length ∧ t = .int .i64 i ∧ MapAt wr base p m D' (delL M (ks.take i)) ∧ Moves (fun k => k = m) w wr) (fun t _ => ks.length - (zOf t).toNat)
  case atStart => exact ⟨0, D, Nat.zero_le _, rfl, H.out, Moves.refl _ _⟩
  case round =>
    obtain ⟨i, D', hi, rfl, hA, hMv⟩ := hrel
    clear c0 hs hown
    have c0 := hA.c0
    have hown := hA.own
    have hs := hA.of.size
    have hl := delL_len M (ks.take i)
    have HA := Lib.hid hA
    clear hA
    by_cases hik : i < ks.length
    · obtain ⟨g, o, rfl, hg, hgl, hcell⟩ := hx (by omega)
      have ne0 := row_ne H.out.blk H.out.own (hcell _ _ (cellsP_get hik).1)
      have hv0 : wr.cell? ⟨g, o + i * 2, none⟩ = some (.int .i64 ks[i].1) := (hMv.cell (p := ⟨g, o + i * 2, none⟩) hgl ne0.2).trans (hcell _ _ (cellsP_get hik).1)
      have hv1 : wr.cell? ⟨g, o + i * 2 + 1, none⟩ = some (.int .i64 ks[i].2) := (hMv.cell (p := ⟨g, o + i * 2 + 1, none⟩) hgl ne0.2).trans (hcell _ _ (cellsP_get hik).2)
      have Hst := Lib.hid (delL_step M hik)
      have hq := hwf _ (List.getElem_mem hik)
      clear hcell hx ne0
      generalize ks[i] = q at hv0 hv1 Hst hq
      go_wp2_with (first
        | (at_len; refine wpList_len_own _ rfl _ 60 rfl 49 4 Try.underlying60 _ m _ D' rfl hown ?_)
        | fail)
      have hW := ((Moves.refl (fun _ => False) wr).alloc (.cells #[.int .i64 q.1, .int .i64 q.2] 49))
      have hb1 := heap_alloc_new wr (.cells #[.int .i64 q.1, .int .i64 q.2] 49)
      have hwl := hMv.size
      generalize wr.heap.size = kb at hb1 ⊢
      generalize wr.alloc (.cells #[.int .i64 q.1, .int .i64 q.2] 49) = W at hW hb1 ⊢
      have hA3 := HA.out.moves hW (fun h => h) (fun h => h)
      have c3 := hA3.c0
      have k0 : W.cell? ⟨kb, 0, none⟩ = some (.int .i64 q.1) := by simp [World.cell?, hb1]
      have k1 : W.cell? ⟨kb, 1, none⟩ = some (.int .i64 q.2) := by simp [World.cell?, hb1]
      have HA3 := Lib.hid hA3
      clear hA3
      have HM3 := Lib.hid (hMv.trans (hW.none _))
      clear hW hb1 hv0 hv1 c0 hown hs hMv hwl
      go_still_tail 5, (by kernel_rfl)
      change wpList _ _ _ _ _ W.drew
      have hown3 := HA3.out.own.drew
      have hkey := keyOf_K hq
      refine wpList_delete_own _ rfl _ _ 60 49 rfl 4 lawK Try.underlying60 _ m _ D' rfl hown3 _ _ rfl hkey ?_
      intro w5 hown5 hturn5
      have HA5 := Lib.hid ((HA3.out.moves (Moves.refl (fun _ => False) W).drew (fun h => h) (fun h => h)).turned hturn5 hown5 (HA3.out.of.del (hown3.tidy lawK) hq))
      have HM5 := Lib.hid (HM3.out.drew.turned hturn5 (fun _ => rfl))
      clear c3 k0 k1 hown3 hkey hown5 hturn5
      go_frame
      go_wp2
      go_roundw
      case rel => exact ⟨i + 1, _, by omega, by go_num, by rw [Hst.out]; exact HA5.out, HM5.out⟩
      case measure => simp [zOf]; omega
    · obtain rfl : i = ks.length := by omega
      rw [List.take_length] at hl
      have hA := HA.out
      rw [List.take_length, HM'.out] at hA
      have hs5 := hA.of.size
      have hown5 := hA.own
      have hml := HM'.out ▸ hl
      clear hx hs hown
      go_wp2_with (first
        | (at_len; refine wpList_len_own _ rfl _ 60 rfl 49 4 Try.underlying60 _ m M'.length D' rfl hown5 ?_)
        | fail)
      go_ret
      exact ⟨by rw [← Hn.out]; rfl, hA.set, hMv⟩

set_option maxRecDepth 100000 in
set_option maxHeartbeats 2000000 in
theorem remove_nil {w : World} {p : Nat} {ks : List Pr} {L : Nat → Prop} {v : Value} (hblk : w.heap[p]? = some (.cells #[.map none] 62 (0, 0))) (hr : KRow w L v ks) (hwf : ∀ q ∈ ks, wf2 q) (hlen : ks.length ≤ 1000000) :
    Calls Try.prog 32 #[.pointer (some ⟨p, 0, none⟩), v] w (fun e w' => e = .returned (.int .i64 0) ∧ Moves (fun _ => False) w w') := by
  have c0 : w.cell? ⟨p, 0, none⟩ = some (.map none) := by simp [World.cell?, hblk]
  have hpl : p < w.heap.size := (Array.getElem?_eq_some_iff.1 hblk).1
  obtain ⟨A, c, rfl, hc, hx⟩ := hr
  have hl := fun (W : World) ty => Maps.len_nil (P := Try.prog) (w := W) Try.underlying60 ty
  go_enter Try.func32, Try.ntmps32
  go_wp2_with fail
  go_loopw [15] (fun t wr => ∃ i : Nat, i ≤ ks.length ∧ t = .int .i64 i ∧ Moves (fun _ => False) w wr) (fun t _ => ks.length - (zOf t).toNat)
  case atStart => exact ⟨0, Nat.zero_le _, rfl, Moves.refl _ _⟩
  case round =>
    obtain ⟨i, hi, rfl, hMv⟩ := hrel
    have c3 : wr.cell? ⟨p, 0, none⟩ = some (.map none) := (hMv.cell (p := ⟨p, 0, none⟩) hpl (fun h => h)).trans c0
    clear c0
    by_cases hik : i < ks.length
    · obtain ⟨g, o, rfl, hg, hgl, hcell⟩ := hx (by omega)
      have hv0 : wr.cell? ⟨g, o + i * 2, none⟩ = some (.int .i64 ks[i].1) := (hMv.cell (p := ⟨g, o + i * 2, none⟩) hgl (fun h => h)).trans (hcell _ _ (cellsP_get hik).1)
      have hv1 : wr.cell? ⟨g, o + i * 2 + 1, none⟩ = some (.int .i64 ks[i].2) := (hMv.cell (p := ⟨g, o + i * 2 + 1, none⟩) hgl (fun h => h)).trans (hcell _ _ (cellsP_get hik).2)
      have hq := hwf _ (List.getElem_mem hik)
      clear hcell hx
      generalize ks[i] = q at hv0 hv1 hq
      go_wp2_with fail
      have hW := ((Moves.refl (fun _ => False) wr).alloc (.cells #[.int .i64 q.1, .int .i64 q.2] 49))
      have hb1 := heap_alloc_new wr (.cells #[.int .i64 q.1, .int .i64 q.2] 49)
      have hpl3 := Nat.lt_of_lt_of_le hpl hMv.size
      generalize wr.heap.size = kb at hb1 hpl3 ⊢
      have c4 : (wr.alloc (.cells #[.int .i64 q.1, .int .i64 q.2] 49)).cell? ⟨p, 0, none⟩ = some (.map none) := (hW.cell (p := ⟨p, 0, none⟩) (Nat.lt_of_lt_of_le hpl hMv.size) (fun h => h)).trans c3
      generalize wr.alloc (.cells #[.int .i64 q.1, .int .i64 q.2] 49) = W at hW hb1 c4 ⊢
      have k0 : W.cell? ⟨kb, 0, none⟩ = some (.int .i64 q.1) := by simp [World.cell?, hb1]
      have k1 : W.cell? ⟨kb, 1, none⟩ = some (.int .i64 q.2) := by simp [World.cell?, hb1]
      have HM3 := Lib.hid (hMv.trans hW)
      have hkey := keyOf_K hq
      have hdr := fun (V : World) ty => Maps.drop_nil (P := Try.prog) (w := V) lawK Try.underlying60 hkey ty
      clear hW hb1 hv0 hv1 c3 hMv hpl3 hkey
      go_still_tail 5, (by kernel_rfl)
      go_wp2
      go_roundw
      case rel => exact ⟨i + 1, by omega, by go_num, HM3.out.drewN _⟩
      case measure => simp [zOf]; omega
    · obtain rfl : i = ks.length := by omega
      clear hx
      go_wp2
      go_ret
      exact ⟨rfl, hMv⟩

theorem remove_any {w : World} {base p : Nat} {M M' ks : List Pr} {n : Int} {L : Nat → Prop} {v : Value} (h : SetAt w base p M) (hr : KRow w L v ks) (hwf : ∀ q ∈ ks, wf2 q) (hlen : M.length + ks.length ≤ 1000000) (hM : delL M ks = M') (hn : (M.length : Int) - M'.length = n) :
    Calls Try.prog 32 #[.pointer (some ⟨p, 0, none⟩), v] w (SetPost w base p M' n (SetOwn w p)) := by
  have h' := h
  obtain ⟨mv, hb, hp, hx⟩ := h
  rcases hx with ⟨rfl, rfl⟩ | ⟨m, D, rfl, hbm, hown, hk⟩
  · have e1 : delL [] ks = [] := by
      have := delL_len [] ks
      exact List.eq_nil_of_length_eq_zero (by simpa using this)
    rw [e1] at hM
    subst hM
    exact (remove_nil hb hr hwf (by simpa using hlen)).mono fun e w' ⟨he, hm⟩ => ⟨by rw [he, ← hn]; rfl, h'.moves0 hm, hm.none _⟩
  · exact (remove_some ⟨hb, hp, hbm, hown, hk⟩ hr hwf hlen hM hn).mono fun e w' ⟨he, hs, hm⟩ => ⟨he, hs, hm.mono fun i hi => .inr (by rw [hi]; exact hb)⟩
end Go.Proofs.Ytmennobdgfgjaaa
