/-
  The contracts of a set of keys: Add, Remove, Len, Has.
-/
import Derived.Test.YtmennobdgfgjaaaKeyData
import Derived.Maps.OwnSet
import Derived.StillTailTactics
import Derived.Deep.DeepMust
import Derived.Shelf.SlIter.Collect
import Derived.WalkSpells
import Derived.Deep.RegionHeld3
namespace Go.Proofs.Ytmennobdgfgjaaa
open Go Go.RowKit Go.Maps Go.Sort Go.Proofs

/-- A slice that reads as keys, its cells in a block of which L holds. -/
def KRow (w : World) (L : Nat → Prop) (v : Value) (ks : List Pr) : Prop :=
  ∃ A c, v = .slice A ks.length c ∧ ks.length ≤ c ∧ (0 < ks.length → ∃ g o, A = some ⟨g, o, none⟩ ∧ L g ∧ g < w.heap.size ∧ ∀ j u, (cellsP ks)[j]? = some u → w.cell? ⟨g, o + j, none⟩ = some u)

theorem KRow.moves {S L : Nat → Prop} {w w' : World} {v : Value} {ks : List Pr} (h : KRow w L v ks) (hm : Moves S w w') (hs : ∀ i, L i → i < w.heap.size → ¬ S i) : KRow w' L v ks := by
  obtain ⟨A, c, hv, hc, hx⟩ := h
  refine ⟨A, c, hv, hc, fun h0 => ?_⟩
  obtain ⟨g, o, hA, hL, hg, hcell⟩ := hx h0
  exact ⟨g, o, hA, hL, Nat.lt_of_lt_of_le hg hm.size, fun j u hu => (hm.cell (p := ⟨g, o + j, none⟩) hg (hs g hL hg)).trans (hcell j u hu)⟩
theorem KRow.mono {L L' : Nat → Prop} {w : World} {v : Value} {ks : List Pr} (h : KRow w L v ks) (hl : ∀ i, L i → i < w.heap.size → L' i) : KRow w L' v ks := by
  obtain ⟨A, c, hv, hc, hx⟩ := h
  refine ⟨A, c, hv, hc, fun h0 => ?_⟩
  obtain ⟨g, o, hA, hL, hg, hcell⟩ := hx h0
  exact ⟨g, o, hA, hl g hL hg, hg, hcell⟩

/-- The set's block p: its map, or nil, holds just these keys. -/
def SetAt (w : World) (base p : Nat) (M : List Pr) : Prop :=
  ∃ mv, w.heap[p]? = some (.cells #[mv] 62 (0, 0)) ∧ base ≤ p ∧ ((mv = .map none ∧ M = []) ∨ ∃ m D, mv = .map (some m) ∧ base ≤ m ∧ w.ownsMap Try.prog 49 RB m M.length D ∧ KOf D M)
/-- The set's own two blocks. -/
def SetOwn (w : World) (p k : Nat) : Prop := k = p ∨ w.heap[p]? = some (.cells #[.map (some k)] 62 (0, 0))

theorem SetAt.moves {S : Nat → Prop} {w w' : World} {base p : Nat} {M : List Pr} (h : SetAt w base p M) (hm : Moves S w w') (hs : ∀ k, SetOwn w p k → ¬ S k) : SetAt w' base p M := by
  obtain ⟨mv, hb, hp, hx⟩ := h
  refine ⟨mv, (hm.block p (Array.getElem?_eq_some_iff.1 hb).1 (hs p (.inl rfl))).trans hb, hp, ?_⟩
  rcases hx with hx | ⟨m, D, rfl, hbm, hown, hk⟩
  · exact .inl hx
  · exact .inr ⟨m, D, rfl, hbm, hm.ownsMap hown (hs m (.inr hb)), hk⟩
theorem SetAt.moves0 {w w' : World} {base p : Nat} {M : List Pr} (h : SetAt w base p M) (hm : Moves (fun _ => False) w w') : SetAt w' base p M := h.moves hm (fun _ _ h => h)
theorem SetAt.low {w : World} {base p : Nat} {M : List Pr} (h : SetAt w base p M) : ∀ k, SetOwn w p k → base ≤ k := by
  obtain ⟨mv, hb, hp, hx⟩ := h
  rintro k (rfl | hk)
  · exact hp
  · rw [hb] at hk
    injection hk with hk
    injection hk with hk
    rcases hx with ⟨rfl, _⟩ | ⟨m, D, rfl, hbm, _⟩
    · simp at hk
    · simp at hk
      omega
/-- Behind a call on the set, in a world that began at w0. -/
theorem SetAt.under {w0 w w' : World} {p : Nat} {M : List Pr} (h : SetAt w w0.heap.size p M) (h0 : Moves (fun _ => False) w0 w) (hm : Moves (SetOwn w p) w w') : Moves (fun _ => False) w0 w' :=
  h0.andThen hm (fun i hi hlt => absurd (h.low i hi) (by omega))

theorem row_ne {w : World} {p m g o : Nat} {M : List Pr} {D : DataW Unit} {x : Int} (hb : w.heap[p]? = some (.cells #[.map (some m)] 62 (0, 0))) (hown : w.ownsMap Try.prog 49 RB m M.length D) (hc : w.cell? ⟨g, o, none⟩ = some (.int .i64 x)) : g ≠ p ∧ g ≠ m := by
  constructor
  · rintro rfl
    simp only [World.cell?, hb] at hc
    simp at hc
    rcases o with _ | o <;> simp at hc
  · rintro rfl
    obtain ⟨es, ck, hbm, _⟩ := hown
    simp [World.cell?, hbm] at hc

def LenPost (w : World) (n : Int) (e : Ending) (w' : World) : Prop := e = .returned (.int .i64 n) ∧ w = w'

set_option maxHeartbeats 400000 in
theorem len_any {w : World} {base p : Nat} {M : List Pr} (h : SetAt w base p M) : Calls Try.prog 33 #[.pointer (some ⟨p, 0, none⟩)] w (LenPost w M.length) := by
  obtain ⟨mv, hb, hp, hx⟩ := h
  rcases hx with ⟨rfl, rfl⟩ | ⟨m, D, rfl, hbm, hown, hk⟩
  · have c0 : w.cell? ⟨p, 0, none⟩ = some (.map none) := by simp [World.cell?, hb]
    have hl := fun ty => Maps.len_nil (P := Try.prog) (w := w) Try.underlying60 ty
    go_enter Try.func33, Try.ntmps33
    go_wp2
    go_ret
    exact ⟨rfl, rfl⟩
  · have c0 : w.cell? ⟨p, 0, none⟩ = some (.map (some m)) := by simp [World.cell?, hb]
    have hs := hk.size
    go_enter Try.func33, Try.ntmps33
    go_wp2_with (first
      | (at_len; refine wpList_len_own _ rfl _ 60 rfl 49 4 Try.underlying60 _ m M.length D rfl hown ?_)
      | go_in)
    go_ret
    exact ⟨rfl, rfl⟩

theorem size_setCell0 (w : World) (a : Addr) (v : Value) : (w.setCell a v).heap.size = w.heap.size := by simp [World.setCell]
def zOf : Value → Int | .int _ q => q | _ => 0
def addL (M ks : List Pr) : List Pr := ks.foldl addM M
def delM (M : List Pr) (p : Pr) : List Pr := M.filter (fun q => !(q == p))
def delL (M ks : List Pr) : List Pr := ks.foldl delM M
theorem addL_step (M : List Pr) {ks : List Pr} {i : Nat} (h : i < ks.length) : addL M (ks.take (i + 1)) = addM (addL M (ks.take i)) ks[i] := by
  unfold addL
  rw [List.take_succ_eq_append_getElem h, List.foldl_append]
  rfl
theorem delL_step (M : List Pr) {ks : List Pr} {i : Nat} (h : i < ks.length) : delL M (ks.take (i + 1)) = delM (delL M (ks.take i)) ks[i] := by
  unfold delL
  rw [List.take_succ_eq_append_getElem h, List.foldl_append]
  rfl
theorem addM_len (M : List Pr) (p : Pr) : (addM M p).length ≤ M.length + 1 := by unfold addM; split <;> simp
theorem delM_len (M : List Pr) (p : Pr) : (delM M p).length ≤ M.length := List.length_filter_le _ _
theorem addL_len (M : List Pr) (ks : List Pr) : (addL M ks).length ≤ M.length + ks.length := by
  unfold addL
  induction ks generalizing M with
  | nil => simp
  | cons a r ih => have := ih (addM M a); have := addM_len M a; simp; omega
theorem delL_len (M : List Pr) (ks : List Pr) : (delL M ks).length ≤ M.length := by
  unfold delL
  induction ks generalizing M with
  | nil => simp
  | cons a r ih => have := ih (delM M a); have := delM_len M a; simp; omega

/-- The set's block holds this map, the map these keys. -/
structure MapAt (w : World) (base p m : Nat) (D : DataW Unit) (M : List Pr) : Prop where
  blk : w.heap[p]? = some (.cells #[.map (some m)] 62 (0, 0))
  hp : base ≤ p
  hm : base ≤ m
  own : w.ownsMap Try.prog 49 RB m M.length D
  of : KOf D M

theorem MapAt.set {w : World} {base p m : Nat} {D : DataW Unit} {M : List Pr} (h : MapAt w base p m D M) : SetAt w base p M := ⟨_, h.blk, h.hp, .inr ⟨m, D, rfl, h.hm, h.own, h.of⟩⟩
theorem MapAt.c0 {w : World} {base p m : Nat} {D : DataW Unit} {M : List Pr} (h : MapAt w base p m D M) : w.cell? ⟨p, 0, none⟩ = some (.map (some m)) := by simp [World.cell?, h.blk]
theorem MapAt.moves {S : Nat → Prop} {w w' : World} {base p m : Nat} {D : DataW Unit} {M : List Pr} (h : MapAt w base p m D M) (hm : Moves S w w') (hp : ¬ S p) (hb : ¬ S m) : MapAt w' base p m D M :=
  ⟨(hm.block p (Array.getElem?_eq_some_iff.1 h.blk).1 hp).trans h.blk, h.hp, h.hm, hm.ownsMap h.own hb, h.of⟩
theorem MapAt.ne {w : World} {base p m : Nat} {D : DataW Unit} {M : List Pr} (h : MapAt w base p m D M) : m ≠ p := by
  intro e
  obtain ⟨es, clock, hb, _⟩ := h.own
  rw [e, h.blk] at hb
  cases hb
theorem MapAt.turned {w w' : World} {base p m n : Nat} {D D' : DataW Unit} {M M' : List Pr} (h : MapAt w base p m D M) (ht : w.mapTurned w' m) (hown : w'.ownsMap Try.prog 49 RB m n D') (hk : KOf D' M') : MapAt w' base p m D' M' :=
  ⟨(ht.grown.block p (Array.getElem?_eq_some_iff.1 h.blk).1 (fun e => h.ne (by cases e; rfl))).trans h.blk, h.hp, h.hm, by rw [← hk.size]; exact ownsMap_tight hown, hk⟩

def SetPost (w : World) (base p : Nat) (M : List Pr) (n : Int) (S : Nat → Prop) (e : Ending) (w' : World) : Prop := e = .returned (.int .i64 n) ∧ SetAt w' base p M ∧ Moves S w w'

set_option maxRecDepth 100000 in
set_option maxHeartbeats 2000000 in
theorem add_some {w : World} {base p m : Nat} {D : DataW Unit} {M M' ks : List Pr} {n : Int} {L : Nat → Prop} {v : Value} (h : MapAt w base p m D M) (hr : KRow w L v ks) (hwf : ∀ q ∈ ks, wf2 q) (hlen : M.length + ks.length ≤ 1000000) (hM : addL M ks = M') (hn : (M'.length : Int) - M.length = n) :
    Calls Try.prog 31 #[.pointer (some ⟨p, 0, none⟩), v] w (SetPost w base p M' n (fun k => k = m)) := by
  have c0 := h.c0
  have hs := h.of.size
  have hown := h.own
  obtain ⟨A, c, rfl, hc, hx⟩ := hr
  have H := Lib.hid h
  have Hn := Lib.hid hn
  have HM' := Lib.hid hM
  clear h hn hM
  have qT : ∀ (w : World) (r : Option Nat), (binOp .eql 60 (.map r) (.map none)).run Try.prog w = .ok (.bool r.isNone) w := fun w r => run_eql_map_nil w _ _ _ r Try.underlying60
  go_enter Try.func31, Try.ntmps31
  go_wp2_with (first
    | (at_len; refine wpList_len_own _ rfl _ 60 rfl 49 4 Try.underlying60 _ m M.length D rfl hown ?_)
    | fail)
  go_loopw [24] (fun t wr => ∃ (i : Nat) (D' : DataW Unit), i ≤ ks.length ∧ t = .int .i64 i ∧ MapAt wr base p m D' (addL M (ks.take i)) ∧ Moves (fun k => k = m) w wr) (fun t _ => ks.length - (zOf t).toNat)
  case atStart => exact ⟨0, D, Nat.zero_le _, rfl, H.out, Moves.refl _ _⟩
  case round =>
    obtain ⟨i, D', hi, rfl, hA, hMv⟩ := hrel
    clear c0 hs hown
    have c0 := hA.c0
    have hown := hA.own
    have hs := hA.of.size
    have hl := addL_len M (ks.take i)
    have HA := Lib.hid hA
    clear hA
    by_cases hik : i < ks.length
    · obtain ⟨g, o, rfl, hg, hgl, hcell⟩ := hx (by omega)
      have ne0 := row_ne H.out.blk H.out.own (hcell _ _ (cellsP_get hik).1)
      have hv0 : wr.cell? ⟨g, o + i * 2, none⟩ = some (.int .i64 ks[i].1) := (hMv.cell (p := ⟨g, o + i * 2, none⟩) hgl ne0.2).trans (hcell _ _ (cellsP_get hik).1)
      have hv1 : wr.cell? ⟨g, o + i * 2 + 1, none⟩ = some (.int .i64 ks[i].2) := (hMv.cell (p := ⟨g, o + i * 2 + 1, none⟩) hgl ne0.2).trans (hcell _ _ (cellsP_get hik).2)
      have Hst := Lib.hid (addL_step M hik)
      have hq := hwf _ (List.getElem_mem hik)
      have htl : (ks.take i).length = i := by simp; omega
      clear hcell hx ne0
      generalize ks[i] = q at hv0 hv1 Hst hq
      go_wp2_with (first
        | (at_len; refine wpList_len_own _ rfl _ 60 rfl 49 4 Try.underlying60 _ m _ D' rfl hown ?_)
        | fail)
      have hW := ((Moves.refl (fun _ => False) wr).alloc (.cells #[.int .i64 q.1, .int .i64 q.2] 49))
      have hb1 := heap_alloc_new wr (.cells #[.int .i64 q.1, .int .i64 q.2] 49)
      have hwl := hMv.size
      generalize wr.heap.size = kb at hb1 ⊢
      generalize wr.alloc (.cells #[.int .i64 q.1, .int .i64 q.2] 49) = W at hW hb1 ⊢
      have hA3 := HA.out.moves hW (fun h => h) (fun h => h)
      have c3 := hA3.c0
      have k0 : W.cell? ⟨kb, 0, none⟩ = some (.int .i64 q.1) := by simp [World.cell?, hb1]
      have k1 : W.cell? ⟨kb, 1, none⟩ = some (.int .i64 q.2) := by simp [World.cell?, hb1]
      have HA3 := Lib.hid hA3
      clear hA3
      have HM3 := Lib.hid (hMv.trans (hW.none _))
      clear hW hb1 hv0 hv1 c0 hown hs hMv hwl
      go_still_tail 5, (by kernel_rfl)
      change wpList _ _ _ _ _ W.drew
      have hown3 := HA3.out.own.drew
      have hkey := keyOf_K hq
      refine wpList_mapUpdate_in _ rfl _ _ _ 60 rfl 49 4 lawK Try.underlying60 _ m _ D' rfl hown3 (by unfold maxLen; omega) _ _ _ rfl rfl hkey TT [] (plainElem_bool Try.underlying4 true) ?_
      intro w5 hown5 hturn5
      have HA5 := Lib.hid ((HA3.out.moves (Moves.refl (fun _ => False) W).drew (fun h => h) (fun h => h)).turned hturn5 hown5 (HA3.out.of.add (hown3.tidy lawK) hq))
      have HM5 := Lib.hid (HM3.out.drew.turned hturn5 (fun _ => rfl))
      clear c3 k0 k1 hown3 hkey hown5 hturn5
      go_frame
      go_wp2
      go_roundw
      case rel => exact ⟨i + 1, _, by omega, by go_num, by rw [Hst.out]; exact HA5.out, HM5.out⟩
      case measure => simp [zOf]; omega
    · obtain rfl : i = ks.length := by omega
      rw [List.take_length] at hl
      have hA := HA.out
      rw [List.take_length, HM'.out] at hA
      have hs5 := hA.of.size
      have hown5 := hA.own
      have hml := HM'.out ▸ hl
      clear hx hs hown
      go_wp2_with (first
        | (at_len; refine wpList_len_own _ rfl _ 60 rfl 49 4 Try.underlying60 _ m M'.length D' rfl hown5 ?_)
        | fail)
      go_ret
      exact ⟨by rw [← Hn.out]; rfl, hA.set, hMv⟩

set_option maxRecDepth 100000 in
set_option maxHeartbeats 2000000 in
theorem add_nil {w : World} {base p : Nat} {M' ks : List Pr} {n : Int} {L : Nat → Prop} {v : Value} (hblk : w.heap[p]? = some (.cells #[.map none] 62 (0, 0))) (hp : base ≤ p) (hr : KRow w L v ks) (hwf : ∀ q ∈ ks, wf2 q) (hlen : ks.length ≤ 1000000) (hM : addL [] ks = M') (hn : (M'.length : Int) = n) :
    Calls Try.prog 31 #[.pointer (some ⟨p, 0, none⟩), v] w (SetPost w base p M' n (fun k => k = p)) := by
  have c0 : w.cell? ⟨p, 0, none⟩ = some (.map none) := by simp [World.cell?, hblk]
  have f0 : w.frozen? ⟨p, 0, none⟩ = false := by simp [World.frozen?, hblk]
  have hpl : p < w.heap.size := (Array.getElem?_eq_some_iff.1 hblk).1
  have hr' := hr
  obtain ⟨A, c, rfl, hc, hx⟩ := hr'
  have Hn := Lib.hid hn
  have HM' := Lib.hid hM
  clear hn hM
  have hmm := @run_makeMap Try.prog
  have qT : ∀ (w : World) (r : Option Nat), (binOp .eql 60 (.map r) (.map none)).run Try.prog w = .ok (.bool r.isNone) w := fun w r => run_eql_map_nil w _ _ _ r Try.underlying60
  go_enter Try.func31, Try.ntmps31
  have hown1 : ((w.setCell ⟨p, 0, none⟩ (.map (some w.heap.size))).alloc (.map #[] 0)).ownsMap Try.prog 49 RB w.heap.size 0 (.map []) := by
    have := World.ownsMap_made (H := Unit) (w.setCell ⟨p, 0, none⟩ (.map (some w.heap.size))) Try.prog 49 RB
    rwa [size_setCell0] at this
  have hb1 : ((w.setCell ⟨p, 0, none⟩ (.map (some w.heap.size))).alloc (.map #[] 0)).heap[p]? = some (.cells #[.map (some w.heap.size)] 62 (0, 0)) := (Below.heap_alloc _ _ _ (by rw [size_setCell0]; exact hpl)).trans (heap_setCell_box_a _ hblk)
  have hM1 : Moves (fun k => k = p) w ((w.setCell ⟨p, 0, none⟩ (.map (some w.heap.size))).alloc (.map #[] 0)) := (Moves.setCell (p := ⟨p, 0, none⟩) (Moves.refl (fun k => k = p) w) (fun _ => rfl) _).alloc _
  have hs1 : Maps.size (.map [] : DataW Unit) = 0 := rfl
  go_wp2_with (first
    | (at_len; refine wpList_len_own _ rfl _ 60 rfl 49 4 Try.underlying60 _ w.heap.size 0 (.map []) rfl hown1 ?_)
    | fail)
  have hbm : base ≤ w.heap.size := by omega
  generalize hwz : w.heap.size = m at hown1 hb1 hbm hM1 ⊢
  generalize hw1 : (w.setCell ⟨p, 0, none⟩ (.map (some m))).alloc (.map #[] 0) = w1 at hown1 hb1 hM1 ⊢
  have H : Hid (MapAt w1 base p m (.map []) []) := Lib.hid ⟨hb1, hp, hbm, hown1, KOf.nil⟩
  have hx1 : 0 < ks.length → ∃ g o, A = some ⟨g, o, none⟩ ∧ L g ∧ g < w1.heap.size ∧ ∀ j u, (cellsP ks)[j]? = some u → w1.cell? ⟨g, o + j, none⟩ = some u := fun h0 => by
    obtain ⟨g, o, hA, hL, hg, hcell⟩ := hx h0
    have hgp : g ≠ p := by
      have h1 := hcell _ _ (cellsP_get (k := 0) h0).1
      rintro rfl
      simp only [World.cell?, hblk] at h1
      simp at h1
      rcases o with _ | o <;> simp at h1
    exact ⟨g, o, hA, hL, Nat.lt_of_lt_of_le hg hM1.size, fun j u hu => (hM1.cell (p := ⟨g, o + j, none⟩) hg hgp).trans (hcell j u hu)⟩
  clear hx
  have hx := hx1
  clear hx1
  clear c0 f0 hown1 hb1 hw1 hs1
  have HWZ := Lib.hid hwz
  clear hwz
  go_loopw [24] (fun t wr => ∃ (i : Nat) (D' : DataW Unit), i ≤ ks.length ∧ t = .int .i64 i ∧ MapAt wr base p m D' (addL [] (ks.take i)) ∧ Moves (fun k => k = m) w1 wr) (fun t _ => ks.length - (zOf t).toNat)
  case atStart => exact ⟨0, .map [], Nat.zero_le _, rfl, H.out, Moves.refl _ _⟩
  case round =>
    obtain ⟨i, D', hi, rfl, hA, hMv⟩ := hrel
    have c0 := hA.c0
    have hown := hA.own
    have hs := hA.of.size
    have hl := addL_len [] (ks.take i)
    have HA := Lib.hid hA
    clear hA
    by_cases hik : i < ks.length
    · obtain ⟨g, o, rfl, hg, hgl, hcell⟩ := hx (by omega)
      have ne0 := row_ne H.out.blk H.out.own (hcell _ _ (cellsP_get hik).1)
      have hv0 : wr.cell? ⟨g, o + i * 2, none⟩ = some (.int .i64 ks[i].1) := (hMv.cell (p := ⟨g, o + i * 2, none⟩) hgl ne0.2).trans (hcell _ _ (cellsP_get hik).1)
      have hv1 : wr.cell? ⟨g, o + i * 2 + 1, none⟩ = some (.int .i64 ks[i].2) := (hMv.cell (p := ⟨g, o + i * 2 + 1, none⟩) hgl ne0.2).trans (hcell _ _ (cellsP_get hik).2)
      have Hst := Lib.hid (addL_step [] hik)
      have hq := hwf _ (List.getElem_mem hik)
      have htl : (ks.take i).length = i := by simp; omega
      clear hcell hx ne0
      generalize ks[i] = q at hv0 hv1 Hst hq
      go_wp2_with (first
        | (at_len; refine wpList_len_own _ rfl _ 60 rfl 49 4 Try.underlying60 _ m _ D' rfl hown ?_)
        | fail)
      have hW := ((Moves.refl (fun _ => False) wr).alloc (.cells #[.int .i64 q.1, .int .i64 q.2] 49))
      have hb1 := heap_alloc_new wr (.cells #[.int .i64 q.1, .int .i64 q.2] 49)
      have hwl := hMv.size
      generalize wr.heap.size = kb at hb1 ⊢
      generalize wr.alloc (.cells #[.int .i64 q.1, .int .i64 q.2] 49) = W at hW hb1 ⊢
      have hA3 := HA.out.moves hW (fun h => h) (fun h => h)
      have c3 := hA3.c0
      have k0 : W.cell? ⟨kb, 0, none⟩ = some (.int .i64 q.1) := by simp [World.cell?, hb1]
      have k1 : W.cell? ⟨kb, 1, none⟩ = some (.int .i64 q.2) := by simp [World.cell?, hb1]
      have HA3 := Lib.hid hA3
      clear hA3
      have HM3 := Lib.hid (hMv.trans (hW.none _))
      clear hW hb1 hv0 hv1 c0 hown hs hMv hwl
      go_still_tail 5, (by kernel_rfl)
      change wpList _ _ _ _ _ W.drew
      have hown3 := HA3.out.own.drew
      have hkey := keyOf_K hq
      refine wpList_mapUpdate_in _ rfl _ _ _ 60 rfl 49 4 lawK Try.underlying60 _ m _ D' rfl hown3 (by unfold maxLen; simp at hl; omega) _ _ _ rfl rfl hkey TT [] (plainElem_bool Try.underlying4 true) ?_
      intro w5 hown5 hturn5
      have HA5 := Lib.hid ((HA3.out.moves (Moves.refl (fun _ => False) W).drew (fun h => h) (fun h => h)).turned hturn5 hown5 (HA3.out.of.add (hown3.tidy lawK) hq))
      have HM5 := Lib.hid (HM3.out.drew.turned hturn5 (fun _ => rfl))
      clear c3 k0 k1 hown3 hkey hown5 hturn5
      go_frame
      go_wp2
      go_roundw
      case rel => exact ⟨i + 1, _, by omega, by go_num, by rw [Hst.out]; exact HA5.out, HM5.out⟩
      case measure => simp [zOf]; omega
    · obtain rfl : i = ks.length := by omega
      rw [List.take_length] at hl
      simp only [List.length_nil, Nat.zero_add] at hl
      have hA := HA.out
      rw [List.take_length, HM'.out] at hA
      have hs5 := hA.of.size
      have hown5 := hA.own
      have hml := HM'.out ▸ hl
      clear hx hs hown
      go_wp2_with (first
        | (at_len; refine wpList_len_own _ rfl _ 60 rfl 49 4 Try.underlying60 _ m M'.length D' rfl hown5 ?_)
        | fail)
      go_ret
      exact ⟨by rw [← Hn.out]; first | rfl | simp, hA.set, hM1.andThen hMv (fun k hk hlt => by have := HWZ.out; omega)⟩
end Go.Proofs.Ytmennobdgfgjaaa

