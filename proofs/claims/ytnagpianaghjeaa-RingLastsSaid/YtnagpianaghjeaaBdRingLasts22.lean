/-
  The newest head of two. (Printed by gen_newest.py.)
  A log made over sectors; a sector of its area.
  A sector of the log's area.
  A log with its records; what its calls may write to.
-/
import Derived.Test.YtnagpianaghjeaaBdRingLasts20
import Derived.Test.YtnagpianaghjeaaBdRingLasts21
namespace Go.Proofs.Ytnagpianaghjeaa.Rg
open Go Go.RowKit Go.Proofs Go.Proofs.Ytnagpianaghjeaa.Sl
open Pl (DS IsDisk DOwn DPost DMv DKeep Clear)

/-- The disk stays when a block of a type that is none of its own is written to. -/
theorem asideD {w w' : World} {base d g : Nat} {S : DS} {cs : Array Value} {t : TypeId} {fr : Nat × Nat} (h : IsDisk w base d S) (hg : w.heap[g]? = some (.cells cs t fr)) (t1 : t ≠ 105) (t2 : t ≠ 55) (t3 : t ≠ 5) (t4 : t ≠ 4) (hm : Moves (fun k => k = g) w w') : IsDisk w' base d S := by
  obtain ⟨kv, kvs, m, D, pvs, kpv, h⟩ := h
  have ty : ∀ (k : Nat) (cs' : Array Value) (t' : TypeId) (fr' : Nat × Nat), w.heap[k]? = some (.cells cs' t' fr') → t ≠ t' → k ≠ g := fun k cs' t' fr' hk ht e => by
    rw [e, hg] at hk
    injection hk with hk
    injection hk with _ h1
    exact ht h1
  have hc : Clear w base d S (fun k => k = g) kv kvs m D pvs kpv := by
    refine ⟨h, ty d _ _ _ h.blk t1, fun k hk e => ?_, fun e => ?_, fun k cs' hk e => ty k cs' _ _ hk t3 e, fun k cs' hk e => ty k cs' _ _ hk t4 e⟩
    · obtain ⟨cur, hc⟩ := own_block h.kept hk
      exact ty k cur _ _ hc t2 e
    · obtain ⟨es, ck, hb, _⟩ := h.map
      have e : m = g := e
      rw [e, hg] at hb
      cases hb
  exact ⟨kv, kvs, m, D, pvs, kpv, hc.moves hm⟩
abbrev put5 (W : World) (r : Nat) (h : Hd) : World := ((((W.setCell ⟨r, 4, none⟩ (.int .u64 h.gen)).setCell ⟨r, 5, none⟩ (.int .u64 h.first)).setCell ⟨r, 6, none⟩ (.int .u64 h.count)).setCell ⟨r, 7, none⟩ (.int .u64 h.start)).setCell ⟨r, 8, none⟩ (.int .u64 h.used)
theorem put5_moves (W : World) (r : Nat) (h : Hd) : Moves (fun k => k = r) W (put5 W r h) :=
  (((((Moves.refl (fun k => k = r) W).setCell (p := ⟨r, 4, none⟩) (fun _ => rfl) _).setCell (p := ⟨r, 5, none⟩) (fun _ => rfl) _).setCell (p := ⟨r, 6, none⟩) (fun _ => rfl) _).setCell (p := ⟨r, 7, none⟩) (fun _ => rfl) _).setCell (p := ⟨r, 8, none⟩) (fun _ => rfl) _
theorem RingB.put {W : World} {r d s n z : Nat} {h : Hd} {lv : Value} (hb : RingB W r d s n z h lv) (h' : Hd) : RingB (put5 W r h') r d s n z h' lv := by
  unfold RingB at hb ⊢
  simp [World.setCell, Array.getElem?_modify, hb]
theorem RingB.aside {W W' : World} {r d s n z base : Nat} {h : Hd} {lv : Value} (hb : RingB W r d s n z h lv) {S : DS} (hD : IsDisk W base d S) (hm : Moves (fun k => k = r) W W') : IsDisk W' base d S :=
  asideD hD hb (by decide) (by decide) (by decide) (by decide) hm
/-- The log, its disk, and what has turned since. -/
def NSt (w : World) (base d r s n z : Nat) (lv : Value) (D : DS) (h : Hd) (W : World) : Prop := RingB W r d s n z h lv ∧ IsDisk W base d D ∧ Moves (fun k => k = r) w W
theorem NSt.moves0 {w W W' : World} {base d r s n z : Nat} {lv : Value} {D : DS} {h : Hd} (H : NSt w base d r s n z lv D h W) (hm : Moves (fun _ => False) W W') : NSt w base d r s n z lv D h W' :=
  ⟨H.1.moves0 hm, H.2.1.moves0 hm, H.2.2.trans (hm.none _)⟩
theorem NSt.put {w W : World} {base d r s n z : Nat} {lv : Value} {D : DS} {h : Hd} (H : NSt w base d r s n z lv D h W) (h' : Hd) : NSt w base d r s n z lv D h' (put5 W r h') :=
  ⟨H.1.put h', H.1.aside H.2.1 (put5_moves W r h'), H.2.2.trans (put5_moves W r h')⟩
def NewestPost (w : World) (base d r s n z : Nat) (lv : Value) (D : DS) (h : Hd) (o : Option Hd) (e : Ending) (w' : World) : Prop := e = .returned (.bool o.isSome) ∧ NSt w base d r s n z lv D (o.getD h) w'
theorem newest_eq (a : Nat) (s0 s1 : List Int) : newestH a s0 s1 = if decide (okS a 1 s1) && (!decide (okS a 0 s0) || decide (newerH (hdS s1) (hdS s0))) then some (hdS s1) else if decide (okS a 0 s0) then some (hdS s0) else none := by
  unfold newestH
  simp
set_option maxRecDepth 100000 in
set_option maxHeartbeats 8000000 in
theorem newest_any {w : World} {base d r s n z : Nat} {h : Hd} {lv : Value} {K : List (List Int)} {a : Bool} {l : Int} {k : List Bool} {wr : Int} (hD : IsDisk w base d (calmS z K a l k wr)) (hb : RingB w r d s n z h lv) (hn : 8 ≤ n ∧ n ≤ 16384) (hz : 64 ≤ z ∧ z ≤ 1000000) (hs : s + n ≤ K.length) (hs2 : s ≤ 16384)
    {S0 S1 : List Int} (hS0 : K.getD s [] = S0) (hS1 : K.getD (s + 1) [] = S1) (b0 : ∀ x ∈ S0, 0 ≤ x ∧ x < 256) (b1 : ∀ x ∈ S1, 0 ≤ x ∧ x < 256) (l0 : S0.length = z) (l1 : S1.length = z) :
    Calls Try.prog 72 #[.pointer (some ⟨r, 0, none⟩)] w (NewestPost w base d r s n z lv (calmS z K a l k wr) h (newestH (n - 2) S0 S1)) := by
  have HR0 : Hid (∀ W h', RingB W r d s n z h' lv → IsDisk W base d (calmS z K a l k wr) → Calls Try.prog 110 #[.pointer (some ⟨r, 0, none⟩), .int .i64 0] W (MovV W (.tuple #[hdV (hdS S0), .bool (decide (okS (n - 2) 0 S0))]))) := Lib.hid (fun W h' hb hD => rread_any hD hb hn hz hs hs2 (i := 0) (by omega) hS0 b0 l0)
  have HR1 : Hid (∀ W h', RingB W r d s n z h' lv → IsDisk W base d (calmS z K a l k wr) → Calls Try.prog 110 #[.pointer (some ⟨r, 0, none⟩), .int .i64 1] W (MovV W (.tuple #[hdV (hdS S1), .bool (decide (okS (n - 2) 1 S1))]))) := Lib.hid (fun W h' hb hD => rread_any hD hb hn hz hs hs2 (i := 1) (by omega) hS1 b1 l1)
  have HNW := Lib.hid (fun W => hnewer_any (a := hdS S1) (b := hdS S0) W)
  rw [newest_eq]
  generalize decide (okS (n - 2) 0 S0) = o0 at HR0 ⊢
  generalize decide (okS (n - 2) 1 S1) = o1 at HR1 ⊢
  generalize decide (newerH (hdS S1) (hdS S0)) = nw at HNW ⊢
  generalize hdS S0 = x at HR0 HNW ⊢
  generalize hdS S1 = y at HR1 HNW ⊢
  have HI0 : Hid (NSt w base d r s n z lv (calmS z K a l k wr) h w) := Lib.hid ⟨hb, hD, Moves.refl _ _⟩
  generalize calmS z K a l k wr = D at HR0 HR1 HI0 ⊢
  obtain ⟨x0, x1, x2, x3, x4⟩ := x
  obtain ⟨y0, y1, y2, y3, y4⟩ := y
  have HQ : Hid (∀ e w', e = .returned (.bool (if o1 && (!o0 || nw) then some (Hd.mk y0 y1 y2 y3 y4) else if o0 then some (Hd.mk x0 x1 x2 x3 x4) else none).isSome) → NSt w base d r s n z lv D ((if o1 && (!o0 || nw) then some (Hd.mk y0 y1 y2 y3 y4) else if o0 then some (Hd.mk x0 x1 x2 x3 x4) else none).getD h) w' → NewestPost w base d r s n z lv D h (if o1 && (!o0 || nw) then some (Hd.mk y0 y1 y2 y3 y4) else if o0 then some (Hd.mk x0 x1 x2 x3 x4) else none) e w') := Lib.hid fun e w' h1 h2 => ⟨h1, h2⟩
  generalize NewestPost w base d r s n z lv D h (if o1 && (!o0 || nw) then some (Hd.mk y0 y1 y2 y3 y4) else if o0 then some (Hd.mk x0 x1 x2 x3 x4) else none) = Q at HQ ⊢
  clear hD hb hS0 hS1 b0 b1 l0 l1 hn hz hs hs2
  go_enter Try.func72, Try.ntmps72
  go_wp2_with fail
  go_loopg [3, 7] 2 (fun gg s3 s7 wr => (gg = 2 ∧ s7 = .int .i64 0 ∧ s3 = .bool false ∧ Hid (NSt w base d r s n z lv D h wr)) ∨ (gg = 1 ∧ s7 = .int .i64 1 ∧ s3 = .bool o0 ∧ Hid (NSt w base d r s n z lv D (if o0 then (Hd.mk x0 x1 x2 x3 x4) else h) wr)) ∨ (gg = 0 ∧ s7 = .int .i64 2 ∧ s3 = .bool (o0 || o1 && (!o0 || nw)) ∧ Hid (NSt w base d r s n z lv D (if o1 && (!o0 || nw) then (Hd.mk y0 y1 y2 y3 y4) else if o0 then (Hd.mk x0 x1 x2 x3 x4) else h) wr)))
  case atStart => exact .inl ⟨rfl, rfl, rfl, HI0⟩
  case round =>
    clear HI0
    rcases hrel with ⟨rfl, rfl, rfl, HI⟩ | ⟨rfl, rfl, rfl, HI⟩ | ⟨rfl, rfl, rfl, HI⟩
    · go_wp2_with fail
      refine (HR0.out wr _ HI.out.1 HI.out.2.1).mono ?_
      rintro e w3 ⟨rfl, hm3⟩
      have MA := hm3.alloc (.cells #[.int .u64 x0, .int .u64 x1, .int .u64 x2, .int .u64 x3, .int .u64 x4] 118)
      have HS := Lib.hid (HI.out.moves0 MA)
      have BA := Lib.hid (heap_alloc_new w3 (.cells #[.int .u64 x0, .int .u64 x1, .int .u64 x2, .int .u64 x3, .int .u64 x4] 118))
      clear MA hm3 HI
      go_upto_region 6 with fail
      generalize w3.alloc (.cells #[.int .u64 x0, .int .u64 x1, .int .u64 x2, .int .u64 x3, .int .u64 x4] 118) = W3 at HS BA ⊢
      generalize w3.heap.size = ga at BA ⊢
      go_cut [28] from 8 to 33 (fun s28 wc => s28 = .bool o0 ∧ Hid (NSt w base d r s n z lv D h wc ∧ wc.heap[ga]? = some (.cells #[.int .u64 x0, .int .u64 x1, .int .u64 x2, .int .u64 x3, .int .u64 x4] 118 (0, 0))))
      case first =>
        cases o0 with
        | false =>
          go_quiet (fail)
          go_wp2_with fail
          go_meet
          case rel => exact ⟨by simp, Lib.hid ⟨HS.out.moves0 ((Moves.refl _ _).drewN _), BA.out⟩⟩
        | true =>
          go_quiet (fail)
          go_wp2_with fail
          go_meet
          case rel => exact ⟨by simp, Lib.hid ⟨HS.out.moves0 ((Moves.refl _ _).drewN _), BA.out⟩⟩
      case rest =>
        obtain ⟨rfl, HC⟩ := hcut
        clear HS BA
        have hf := HC.out.1.1.fr
        have f4 := hf 4
        have f5 := hf 5
        have f6 := hf 6
        have f7 := hf 7
        have f8 := hf 8
        have u := HC.out.1.1.cells
        obtain ⟨-, -, -, -, g4, g5, g6, g7, g8, -⟩ := u
        obtain ⟨q0, q1, q2, q3, q4⟩ := cells5 HC.out.2
        clear hf
        cases o0 with
        | false =>
          go_wp2_with fail
          go_roundg 1
          case measure => omega
          case rel => exact .inr (.inl ⟨rfl, by go_num, rfl, Lib.hid HC.out.1⟩)
        | true =>
          go_wp2_with fail
          go_roundg 1
          case measure => omega
          case rel => exact .inr (.inl ⟨rfl, by go_num, rfl, Lib.hid (HC.out.1.put (Hd.mk x0 x1 x2 x3 x4))⟩)
    · go_wp2_with fail
      refine (HR1.out wr _ HI.out.1 HI.out.2.1).mono ?_
      rintro e w3 ⟨rfl, hm3⟩
      have MA := hm3.alloc (.cells #[.int .u64 y0, .int .u64 y1, .int .u64 y2, .int .u64 y3, .int .u64 y4] 118)
      have HS := Lib.hid (HI.out.moves0 MA)
      have BA := Lib.hid (heap_alloc_new w3 (.cells #[.int .u64 y0, .int .u64 y1, .int .u64 y2, .int .u64 y3, .int .u64 y4] 118))
      clear MA hm3 HI
      go_upto_region 6 with fail
      generalize w3.alloc (.cells #[.int .u64 y0, .int .u64 y1, .int .u64 y2, .int .u64 y3, .int .u64 y4] 118) = W3 at HS BA ⊢
      generalize w3.heap.size = ga at BA ⊢
      go_cut [28] from 8 to 33 (fun s28 wc => s28 = .bool (o1 && (!o0 || nw)) ∧ Hid (NSt w base d r s n z lv D (if o0 then (Hd.mk x0 x1 x2 x3 x4) else h) wc ∧ wc.heap[ga]? = some (.cells #[.int .u64 y0, .int .u64 y1, .int .u64 y2, .int .u64 y3, .int .u64 y4] 118 (0, 0))))
      case first =>
        cases o1 with
        | false =>
          go_quiet (fail)
          go_wp2_with fail
          go_meet
          case rel => exact ⟨by simp, Lib.hid ⟨HS.out.moves0 ((Moves.refl _ _).drewN _), BA.out⟩⟩
        | true =>
          cases o0 with
          | false =>
            go_quiet (fail)
            go_wp2_with fail
            go_meet
            case rel => exact ⟨by simp, Lib.hid ⟨HS.out.moves0 ((Moves.refl _ _).drewN _), BA.out⟩⟩
          | true =>
            have HNN : Hid (∀ w', KpS W3 w' → KpS W3 w' ∧ w'.cell? ⟨ga, 0, none⟩ = some (.int .u64 y0) ∧ w'.cell? ⟨ga, 1, none⟩ = some (.int .u64 y1) ∧ w'.cell? ⟨ga, 2, none⟩ = some (.int .u64 y2) ∧ w'.cell? ⟨ga, 3, none⟩ = some (.int .u64 y3) ∧ w'.cell? ⟨ga, 4, none⟩ = some (.int .u64 y4) ∧ w'.cell? ⟨r, 4, none⟩ = some (.int .u64 x0) ∧ w'.cell? ⟨r, 5, none⟩ = some (.int .u64 x1) ∧ w'.cell? ⟨r, 6, none⟩ = some (.int .u64 x2) ∧ w'.cell? ⟨r, 7, none⟩ = some (.int .u64 x3) ∧ w'.cell? ⟨r, 8, none⟩ = some (.int .u64 x4)) := Lib.hid (fun w' hk => by
              have q := cells5 BA.out
              have u := HS.out.1.cells
              exact ⟨hk, hk.cell q.1, hk.cell q.2.1, hk.cell q.2.2.1, hk.cell q.2.2.2.1, hk.cell q.2.2.2.2, hk.cell u.2.2.2.2.1, hk.cell u.2.2.2.2.2.1, hk.cell u.2.2.2.2.2.2.1, hk.cell u.2.2.2.2.2.2.2.1, hk.cell u.2.2.2.2.2.2.2.2.1⟩)
            have hK0 := HNN.out _ (KpS.refl W3)
            have hK1 := HNN.out W3.drew (KpS.of (Moves.refl (fun _ => False) W3).drew)
            have HNW : Hid (∀ W, Calls Try.prog 111 #[.agg #[.int .u64 y0, .int .u64 y1, .int .u64 y2, .int .u64 y3, .int .u64 y4], .agg #[.int .u64 x0, .int .u64 x1, .int .u64 x2, .int .u64 x3, .int .u64 x4]] W (MovV W (.bool nw))) := HNW
            go_region_held3 (fun w' => KpS W3 w' ∧ w'.cell? ⟨ga, 0, none⟩ = some (.int .u64 y0) ∧ w'.cell? ⟨ga, 1, none⟩ = some (.int .u64 y1) ∧ w'.cell? ⟨ga, 2, none⟩ = some (.int .u64 y2) ∧ w'.cell? ⟨ga, 3, none⟩ = some (.int .u64 y3) ∧ w'.cell? ⟨ga, 4, none⟩ = some (.int .u64 y4) ∧ w'.cell? ⟨r, 4, none⟩ = some (.int .u64 x0) ∧ w'.cell? ⟨r, 5, none⟩ = some (.int .u64 x1) ∧ w'.cell? ⟨r, 6, none⟩ = some (.int .u64 x2) ∧ w'.cell? ⟨r, 7, none⟩ = some (.int .u64 x3) ∧ w'.cell? ⟨r, 8, none⟩ = some (.int .u64 x4)) (first | with_reducible exact hS' | with_reducible exact hK0 | with_reducible exact hK1 | assumption)
              (first
                | (go_at_call 111; (with_reducible refine (HNW.out _).mono ?_); rintro e w' ⟨rfl, hl⟩; have hS' := HNN.out _ (KpS.of ((KpS.moves (And.left (by assumption))).trans hl)))
                | fail)
            all_goals
              go_wp2_with fail
              go_meet
              case rel => exact ⟨by simp, Lib.hid ⟨HS.out.moves0 (KpS.moves (And.left hS')), (hS'.1.2.2.2.2 _ (lt_of_block BA.out)).trans BA.out⟩⟩
      case rest =>
        obtain ⟨rfl, HC⟩ := hcut
        clear HS BA
        have hf := HC.out.1.1.fr
        have f4 := hf 4
        have f5 := hf 5
        have f6 := hf 6
        have f7 := hf 7
        have f8 := hf 8
        have u := HC.out.1.1.cells
        obtain ⟨-, -, -, -, g4, g5, g6, g7, g8, -⟩ := u
        obtain ⟨q0, q1, q2, q3, q4⟩ := cells5 HC.out.2
        clear hf
        cases hv : (o1 && (!o0 || nw)) with
        | false =>
          go_wp2_with fail
          go_roundg 0
          case measure => omega
          case rel => exact .inr (.inr ⟨rfl, by go_num, by rw [hv]; simp, by rw [hv]; exact Lib.hid HC.out.1⟩)
        | true =>
          go_wp2_with fail
          go_roundg 0
          case measure => omega
          case rel => exact .inr (.inr ⟨rfl, by go_num, by rw [hv]; simp, by rw [hv]; exact Lib.hid (HC.out.1.put (Hd.mk y0 y1 y2 y3 y4))⟩)
    · go_wp2
      refine HQ.out _ _ ?_ ?_
      · cases o0 <;> cases o1 <;> cases nw <;> rfl
      · have h := HI.out
        cases o0 <;> cases o1 <;> cases nw <;> exact h
end Go.Proofs.Ytnagpianaghjeaa.Rg
namespace Go.Proofs.Ytnagpianaghjeaa.Rg
open Go Go.RowKit Go.Proofs Go.Proofs.Ytnagpianaghjeaa.Sl
open Pl (DS IsDisk DOwn DPost DMv DKeep)

set_option maxRecDepth 100000 in
set_option maxHeartbeats 2000000 in
theorem ron_bad {w : World} {base d : Nat} {S : DS} (hD : IsDisk w base d S) {s n : Int} (hb : s < 0 ∨ n < 8 ∨ (S.kept.length : Int) < n ∨ (S.kept.length : Int) - n < s) (hm : S.kept.length ≤ 16384) : Calls Try.prog 71 #[.pointer (some ⟨d, 0, none⟩), .int .i64 s, .int .i64 n] w (MovV w (.tuple #[.pointer none, .int .i64 1])) := by
  have HSH := Lib.hid (Pl.shape_any hD)
  clear hD
  generalize S.kept.length = m at HSH hb hm
  have b0 : (0 : Int) ≤ (m : Int) := by omega
  have b1 : (m : Int) ≤ 16384 := by omega
  by_cases h1 : n < 8
  · clear hb
    go_enter Try.func71, Try.ntmps71
    go_wp2_with fail
    refine HSH.out.mono ?_
    rintro e w1 ⟨rfl, hm1⟩
    go_wp2
    go_ret2
    exact ⟨rfl, hm1⟩
  by_cases h2 : (m : Int) < n
  · clear hb
    go_enter Try.func71, Try.ntmps71
    go_wp2_with fail
    refine HSH.out.mono ?_
    rintro e w1 ⟨rfl, hm1⟩
    go_wp2
    go_ret2
    exact ⟨rfl, hm1⟩
  by_cases h3 : s < 0
  · clear hb
    go_enter Try.func71, Try.ntmps71
    go_wp2_with fail
    refine HSH.out.mono ?_
    rintro e w1 ⟨rfl, hm1⟩
    go_wp2
    go_ret2
    exact ⟨rfl, hm1⟩
  have h4 : (m : Int) - n < s := by omega
  have hw : IntKind.i64.wrap ((m : Int) - n) = (m : Int) - n := IntWalk.i64_in _ (by omega)
  have hw2 : wrap64 ((m : Int) - n) = (m : Int) - n := w64 (by omega) (by omega)
  clear hb
  go_enter Try.func71, Try.ntmps71
  go_wp2_with fail
  refine HSH.out.mono ?_
  rintro e w1 ⟨rfl, hm1⟩
  go_wp2
  go_ret2
  exact ⟨rfl, hm1⟩
def OnPost (w : World) (d s n z : Nat) (e : Ending) (w' : World) : Prop := ∃ r, e = .returned (.tuple #[.pointer (some ⟨r, 0, none⟩), .int .i64 0]) ∧ w.heap.size ≤ r ∧ RingB w' r d s n z hd0 (.slice none 0 0) ∧ Moves (fun _ => False) w w'
set_option maxRecDepth 100000 in
set_option maxHeartbeats 2000000 in
theorem ron_ok {w : World} {base d : Nat} {S : DS} (hD : IsDisk w base d S) (ho : S.off = false) {s n m z : Nat} (hz : S.size = z) (hm : S.kept.length = m) (hn : 8 ≤ n) (hs : s + n ≤ m) (hm2 : m ≤ 16384) : Calls Try.prog 71 #[.pointer (some ⟨d, 0, none⟩), .int .i64 s, .int .i64 n] w (OnPost w d s n z) := by
  have HSH := Lib.hid (Pl.shape_any hD)
  have HOF := Lib.hid (fun W (hW : Moves (fun _ => False) w W) => Pl.off_any (hD.moves0 hW))
  rw [hm, hz] at HSH
  rw [ho] at HOF
  have b0 : (8 : Int) ≤ (n : Int) := by omega
  have b1 : (m : Int) ≤ 16384 := by omega
  have b2 : (n : Int) ≤ (m : Int) := by omega
  have b3 : (0 : Int) ≤ (s : Int) := by omega
  have b4 : (s : Int) ≤ (m : Int) - (n : Int) := by omega
  have HQ : Hid (∀ e w' r, e = .returned (.tuple #[.pointer (some ⟨r, 0, none⟩), .int .i64 0]) → w.heap.size ≤ r → RingB w' r d s n z hd0 (.slice none 0 0) → Moves (fun _ => False) w w' → OnPost w d s n z e w') := Lib.hid fun e w' r h1 h2 h3 h4 => ⟨r, h1, h2, h3, h4⟩
  generalize OnPost w d s n z = Q at HQ ⊢
  clear hD ho hm hz hn hs hm2
  go_enter Try.func71, Try.ntmps71
  go_wp2_with fail
  refine HSH.out.mono ?_
  rintro e w1 ⟨rfl, hm1⟩
  go_wp2_with fail
  refine (HOF.out w1 hm1).mono ?_
  rintro e w2 ⟨rfl, rfl⟩
  go_wp2
  exact HQ.out _ _ _ rfl hm1.size (alloc_at rfl) (hm1.alloc _)
end Go.Proofs.Ytnagpianaghjeaa.Rg
namespace Go.Proofs.Ytnagpianaghjeaa.Rg
open Go Go.RowKit Go.Proofs Go.Proofs.Ytnagpianaghjeaa.Sl
open Pl (DS IsDisk DOwn DPost DMv DKeep)

def SecPost (w : World) (z : Nat) (s : List Int) (e : Ending) (w' : World) : Prop := ∃ g, e = .returned (.slice (some ⟨g, 0, none⟩) z z) ∧ w.heap.size ≤ g ∧ BRow w' (fun k => k = g) (.slice (some ⟨g, 0, none⟩) z z) s ∧ Moves (fun _ => False) w w'
set_option maxRecDepth 100000 in
set_option maxHeartbeats 4000000 in
theorem sector_any {w : World} {base d r s n z : Nat} {h : Hd} {lv : Value} {K : List (List Int)} {a : Bool} {l : Int} {k : List Bool} {wr : Int} (hD : IsDisk w base d (calmS z K a l k wr)) (hb : RingB w r d s n z h lv) (hn : 8 ≤ n ∧ n ≤ 16384) (hz : 64 ≤ z ∧ z ≤ 1000000) (hs : s + n ≤ K.length) (hs2 : s ≤ 16384)
    {x p : Nat} (hx : x ≤ 1000000) (hp : x % (n - 2) = p) {S : List Int} (hS : K.getD (s + 2 + p) [] = S) (hSb : ∀ x ∈ S, 0 ≤ x ∧ x < 256) (hSl : S.length = z) :
    Calls Try.prog 114 #[.pointer (some ⟨r, 0, none⟩), .int .u64 x] w (SecPost w z S) := by
  have hpl : p < n - 2 := by rw [← hp]; exact Nat.mod_lt _ (by omega)
  have HRD := Lib.hid (fun W (hW : Moves (fun _ => False) w W) => sec_read (hD.moves0 hW) (by omega) (i := s + 2 + p) (by omega) hS hSb hSl)
  have e0 : ((s + 2 + p : Nat) : Int) = (s : Int) + 2 + (p : Int) := by omega
  rw [e0] at HRD
  have HRG := Lib.hid (fun W (hW : Moves (fun _ => False) w W) => area_any (hb.moves0 hW) hn)
  obtain ⟨c0, c1, -⟩ := hb.cells
  have hrl := lt_of_block hb
  have b0 : (0 : Int) ≤ (s : Int) := by omega
  have b1 : (s : Int) ≤ 16384 := by omega
  have b2 : (0 : Int) ≤ (p : Int) := by omega
  have b3 : (p : Int) ≤ 16384 := by omega
  have b4 : (0 : Int) < ((n - 2 : Nat) : Int) := by omega
  have b5 : ((n - 2 : Nat) : Int) ≤ 16384 := by omega
  have b6 : (((n - 2 : Nat) : Int) == 0) = false := by simp; omega
  have b9 : ¬ ((n - 2 : Nat) : Int) = 0 := by omega
  have b7 : (0 : Int) ≤ (x : Int) := by omega
  have b8 : (x : Int) ≤ 1000000 := by omega
  have wm : IntKind.u64.wrap ((n - 2 : Nat) : Int) = ((n - 2 : Nat) : Int) := IntWalk.u64_in _ (by omega)
  have wt : Int.tmod (x : Int) ((n - 2 : Nat) : Int) = (p : Int) := by rw [← hp]; exact (Int.ofNat_tmod _ _).symm
  have wp : IntKind.i64.wrap (p : Int) = (p : Int) := IntWalk.i64_in _ (by omega)
  have wp2 : IntKind.u64.wrap (p : Int) = (p : Int) := IntWalk.u64_in _ (by omega)
  have ws2 : IntKind.i64.wrap ((s : Int) + 2) = (s : Int) + 2 := IntWalk.i64_in _ (by omega)
  have ws3 : IntKind.i64.wrap ((s : Int) + 2 + (p : Int)) = (s : Int) + 2 + (p : Int) := IntWalk.i64_in _ (by omega)
  generalize ((n - 2 : Nat) : Int) = m at HRG b4 b5 b6 b9 wm wt
  have HNN : Hid (∀ w', KpS w w' → KpS w w' ∧ w'.cell? ⟨r, 0, none⟩ = some (.pointer (some ⟨d, 0, none⟩)) ∧ w'.cell? ⟨r, 1, none⟩ = some (.int .i64 s)) := Lib.hid (fun w' hk => ⟨hk, hk.cell c0, hk.cell c1⟩)
  have HQ : Hid (∀ g w', w.heap.size ≤ g → BRow w' (fun k => k = g) (.slice (some ⟨g, 0, none⟩) z z) S → Moves (fun _ => False) w w' → SecPost w z S (.returned (.slice (some ⟨g, 0, none⟩) z z)) w') := Lib.hid fun g w' h1 h2 h3 => ⟨g, rfl, h1, h2, h3⟩
  generalize SecPost w z S = Q at HQ ⊢
  have hK0 := HNN.out _ (KpS.refl w)
  have hK1 := HNN.out w.drew (KpS.of (Moves.refl (fun _ => False) w).drew)
  clear hD hb hn hz hs hs2 hx hp hS hSb hSl hpl e0 c0 c1
  go_enter Try.func114, Try.ntmps114
  go_wp2_with fail
  go_region_held3 (fun w' => KpS w w' ∧ w'.cell? ⟨r, 0, none⟩ = some (.pointer (some ⟨d, 0, none⟩)) ∧ w'.cell? ⟨r, 1, none⟩ = some (.int .i64 s))
    (first | with_reducible exact hS' | with_reducible exact hK0 | with_reducible exact hK1 | assumption)
    (first
      | (go_at_call 76
         with_reducible refine (HRG.out _ ?hm).mono ?_
         focus (with_reducible exact KpS.moves hK1.1)
         rintro e w6 ⟨rfl, rfl⟩)
      | (go_at_call 62
         with_reducible refine (HRD.out _ ?hm).mono ?_
         focus (with_reducible exact KpS.moves hK1.1)
         rintro e w6 ⟨gv, rfl, hgv, hrow, hm6⟩
         have hS' := HNN.out w6 (KpS.of ((KpS.moves hK1.1).trans hm6)))
      | (go_at_call 62
         have hm : Moves (fun _ => False) w w.drew := KpS.moves hK1.1
         refine (HRD.out _ hm).mono ?_
         rintro e w6 ⟨gv, rfl, hgv, hrow, hm6⟩
         have hS' := HNN.out w6 (KpS.of (hm.trans hm6))))
  all_goals
    go_wp2
    exact HQ.out _ _ hgv hrow (KpS.moves hS'.1)
end Go.Proofs.Ytnagpianaghjeaa.Rg
namespace Go.Proofs.Ytnagpianaghjeaa.Rg
open Go Go.RowKit Go.Proofs Go.Proofs.Ytnagpianaghjeaa.Sl
open Pl (DS IsDisk DOwn DPost DMv DKeep Clear DiskAt All2)

theorem down_same {w w' : World} {d : Nat} (h : w'.heap[d]? = w.heap[d]?) (k : Nat) : DOwn w' d k ↔ DOwn w d k := by
  unfold DOwn
  rw [h]
theorem down_lt {w : World} {base d k : Nat} {D : DS} (h : IsDisk w base d D) (hk : DOwn w d k) : k < w.heap.size := by
  obtain ⟨kv, kvs, m, E, pvs, kpv, h⟩ := h
  rcases h.own hk with rfl | e | rfl
  · exact lt_of_block h.blk
  · exact (h.kept.lt _ e).2
  · obtain ⟨es, ck, hb, _⟩ := h.map
    exact lt_of_block hb
/-- The disk stays when blocks are written to that are none of its own. -/
theorem asideS {w w' : World} {base d : Nat} {D : DS} {T : Nat → Prop} (h : IsDisk w base d D) (hm : Moves T w w') (hT : ∀ g, T g → g < w.heap.size → ¬ DOwn w d g ∧ ∃ cs t fr, w.heap[g]? = some (.cells cs t fr) ∧ t ≠ 5 ∧ t ≠ 4) : IsDisk w' base d D := by
  have hlt := fun k (hk : DOwn w d k) => down_lt h hk
  obtain ⟨kv, kvs, m, E, pvs, kpv, h⟩ := h
  have hd : DOwn w d d := .inl rfl
  have hk : ∀ k, kv.ownBlock = some k → DOwn w d k := fun k e => .inr ⟨_, h.blk, .inl ⟨kv, rfl, e⟩⟩
  have hmm : DOwn w d m := .inr ⟨_, h.blk, .inr rfl⟩
  have hc : Clear w base d D T kv kvs m E pvs kpv := by
    refine ⟨h, fun e => (hT d e (hlt d hd)).1 hd, fun k e1 e2 => (hT k e2 (hlt k (hk k e1))).1 (hk k e1), fun e => (hT m e (hlt m hmm)).1 hmm, fun g cs hg e => ?_, fun g cs hg e => ?_⟩
    · obtain ⟨-, cs', t, fr, h1, h2, -⟩ := hT g e (lt_of_block hg)
      rw [h1] at hg
      injection hg with hg
      injection hg with _ hg
      exact h2 hg
    · obtain ⟨-, cs', t, fr, h1, -, h2⟩ := hT g e (lt_of_block hg)
      rw [h1] at hg
      injection hg with hg
      injection hg with _ hg
      exact h2 hg
  exact ⟨kv, kvs, m, E, pvs, kpv, hc.moves hm⟩
/-- The blocks that a call on the log may write to. -/
def ROwn (w : World) (r d : Nat) (lv : Value) (k : Nat) : Prop := k = r ∨ lv.ownBlock = some k ∨ DOwn w d k
structure RingAt (w : World) (base d r s n z : Nat) (D : DS) (h : Hd) (lv : Value) (vals : List Value) (L : List (List Int)) : Prop where
  rb : RingB w r d s n z h lv
  dk : IsDisk w base d D
  hr : base ≤ r
  own : w.ownsRow base 55 1 lv vals.length vals
  nd : ∀ k, lv.ownBlock = some k → ¬ DOwn w d k
  recs : All2 (fun v bs => BRow w (fun g => ¬ ROwn w r d lv g) v bs) vals L
/-- What has turned: blocks of the log's own, and new ones. -/
structure RMv (w : World) (r d : Nat) (lv : Value) (w' : World) (lv' : Value) : Prop where
  mv : Moves (ROwn w r d lv) w w'
  kp : ∀ k, ROwn w' r d lv' k → ROwn w r d lv k ∨ w.heap.size ≤ k
theorem RMv.trans {w w1 w2 : World} {r d : Nat} {lv lv1 lv2 : Value} (h : RMv w r d lv w1 lv1) (k : RMv w1 r d lv1 w2 lv2) : RMv w r d lv w2 lv2 :=
  ⟨h.mv.andThen k.mv (fun i hi hlt => by
    rcases h.kp i hi with e | e
    · exact e
    · omega), fun i hi => by
    rcases k.kp i hi with e | e
    · exact h.kp i e
    · have := h.mv.size; exact .inr (by omega)⟩
variable {w w' : World} {base d r s n z : Nat} {D : DS} {h : Hd} {lv : Value} {vals : List Value} {L : List (List Int)}
theorem RingAt.low (H : RingAt w base d r s n z D h lv vals L) {k : Nat} (hk : ROwn w r d lv k) : base ≤ k := by
  rcases hk with rfl | e | e
  · exact H.hr
  · exact (H.own.lt _ e).1
  · exact H.dk.low k e
theorem RingAt.lt (H : RingAt w base d r s n z D h lv vals L) {k : Nat} (hk : ROwn w r d lv k) : k < w.heap.size := by
  rcases hk with rfl | e | e
  · exact lt_of_block H.rb
  · exact (H.own.lt _ e).2
  · exact down_lt H.dk e
theorem RingAt.nr (H : RingAt w base d r s n z D h lv vals L) : lv.ownBlock ≠ some r := fun e => by
  obtain ⟨cur, hc⟩ := own_block H.own e
  have h1 := H.rb
  unfold RingB at h1
  rw [h1] at hc
  cases hc
theorem RingAt.rd (H : RingAt w base d r s n z D h lv vals L) : ¬ DOwn w d r := H.dk.apart H.rb (by decide) (by decide)
theorem RingAt.len (H : RingAt w base d r s n z D h lv vals L) : vals.length = L.length := H.recs.1
theorem rmv_of0 (H : RingAt w base d r s n z D h lv vals L) (hm : Moves (fun _ => False) w w') : RMv w r d lv w' lv := by
  have hd : w'.heap[d]? = w.heap[d]? := hm.block d (H.lt (.inr (.inr (.inl rfl)))) (fun e => e)
  refine ⟨hm.none _, fun k hk => .inl ?_⟩
  rcases hk with e | e | e
  · exact .inl e
  · exact .inr (.inl e)
  · exact .inr (.inr ((down_same hd k).1 e))
theorem rown0 (H : RingAt w base d r s n z D h lv vals L) (hm : Moves (fun _ => False) w w') {k : Nat} (hk : ROwn w' r d lv k) : ROwn w r d lv k := by
  have hd : w'.heap[d]? = w.heap[d]? := hm.block d (H.lt (.inr (.inr (.inl rfl)))) (fun e => e)
  rcases hk with e | e | e
  · exact .inl e
  · exact .inr (.inl e)
  · exact .inr (.inr ((down_same hd k).1 e))
/-- A row of bytes that is none of the log's own stays. -/
theorem RMv.row {lv' : Value} (hm : RMv w r d lv w' lv') {v : Value} {bs : List Int} (hb : BRow w (fun g => ¬ ROwn w r d lv g) v bs) : BRow w' (fun g => ¬ ROwn w' r d lv' g) v bs := by
  obtain ⟨⟨A, c, hv, hc, hx⟩, h1, h2⟩ := hb
  refine ⟨⟨A, c, hv, hc, fun h0 => ?_⟩, h1, h2⟩
  obtain ⟨g, o, hA, hg, hlt, hcell⟩ := hx h0
  have hs := hm.mv.size
  refine ⟨g, o, hA, fun e => ?_, by omega, fun j u hu => (hm.mv.cell (p := ⟨g, o + j, none⟩) hlt hg).trans (hcell j u hu)⟩
  rcases hm.kp g e with q | q
  · exact hg q
  · omega
theorem recs_turn {lv' : Value} (hm : RMv w r d lv w' lv') (hr : All2 (fun v bs => BRow w (fun g => ¬ ROwn w r d lv g) v bs) vals L) : All2 (fun v bs => BRow w' (fun g => ¬ ROwn w' r d lv' g) v bs) vals L :=
  hr.mono fun _ _ q => hm.row q
theorem RingAt.moves0 (H : RingAt w base d r s n z D h lv vals L) (hm : Moves (fun _ => False) w w') : RingAt w' base d r s n z D h lv vals L := by
  have hd : w'.heap[d]? = w.heap[d]? := hm.block d (H.lt (.inr (.inr (.inl rfl)))) (fun e => e)
  exact ⟨H.rb.moves0 hm, H.dk.moves0 hm, H.hr, own_moves H.own hm (fun _ _ e => e), fun k e q => H.nd k e ((down_same hd k).1 q), recs_turn (rmv_of0 H hm) H.recs⟩
/-- A row's part. -/
theorem sub_row {w : World} {gb ob cb x : Nat} {bs : List Int} (hcell : ∀ q u, (bs.map fun y => Value.int .u8 y)[q]? = some u → w.cell? ⟨gb, ob + q, none⟩ = some u) (hlt : gb < w.heap.size) (hx : 4 + x ≤ bs.length) (hcb : bs.length ≤ cb) (hb : ∀ y ∈ bs, 0 ≤ y ∧ y < 256) (hbl : bs.length ≤ 1000000) {P : Nat → Prop} (hP : P gb) :
    BRow w P (.slice (some ⟨gb, ob + 4, none⟩) x (cb - 4)) ((bs.drop 4).take x) := by
  have hl : ((bs.drop 4).take x).length = x := by rw [List.length_take, List.length_drop]; omega
  refine ⟨⟨some ⟨gb, ob + 4, none⟩, cb - 4, by rw [List.length_map, hl], by rw [List.length_map, hl]; omega, fun _ => ⟨gb, ob + 4, rfl, hP, hlt, fun q u hu => ?_⟩⟩, fun y hy => hb y (List.mem_of_mem_drop (List.mem_of_mem_take hy)), by rw [hl]; omega⟩
  have hq : q < x := by have := (List.getElem?_eq_some_iff.1 hu).1; rw [List.length_map, hl] at this; exact this
  have e : ob + 4 + q = ob + (4 + q) := by omega
  rw [e]
  refine hcell (4 + q) u ?_
  rw [List.getElem?_map] at hu ⊢
  rw [List.getElem?_take_of_lt hq, List.getElem?_drop] at hu
  exact hu
/-- A call on the disk. -/
theorem rmv_disk (hm : DMv w d w') : RMv w r d lv w' lv :=
  ⟨hm.mv.mono (fun k e => .inr (.inr e)), fun k hk => by
    rcases hk with e | e | e
    · exact .inl (.inl e)
    · exact .inl (.inr (.inl e))
    · rcases hm.kp k e with q | q
      · exact .inl (.inr (.inr q))
      · exact .inr q⟩
theorem RingAt.disk (H : RingAt w base d r s n z D h lv vals L) {D' : DS} (hD : IsDisk w' base d D') (hm : DMv w d w') : RingAt w' base d r s n z D' h lv vals L := by
  refine ⟨H.rb.moves hm.mv H.rd, hD, H.hr, own_moves H.own hm.mv (fun k e => H.nd k e), fun k e q => ?_, recs_turn (rmv_disk hm) H.recs⟩
  rcases hm.kp k q with q | q
  · exact H.nd k e q
  · have := (H.own.lt k e).2; omega
theorem rmv_r (H : RingAt w base d r s n z D h lv vals L) (hm : Moves (fun k => k = r) w w') : RMv w r d lv w' lv := by
  have hd : w'.heap[d]? = w.heap[d]? := hm.block d (H.lt (.inr (.inr (.inl rfl)))) (fun e => by subst e; exact H.rd (.inl rfl))
  refine ⟨hm.mono (fun k e => .inl e), fun k hk => .inl ?_⟩
  rcases hk with e | e | e
  · exact .inl e
  · exact .inr (.inl e)
  · exact .inr (.inr ((down_same hd k).1 e))
/-- The head is laid anew. -/
theorem RingAt.head (H : RingAt w base d r s n z D h lv vals L) (h' : Hd) : RingAt (put5 w r h') base d r s n z D h' lv vals L := by
  have hm := put5_moves w r h'
  have hd : (put5 w r h').heap[d]? = w.heap[d]? := hm.block d (H.lt (.inr (.inr (.inl rfl)))) (fun e => by subst e; exact H.rd (.inl rfl))
  exact ⟨H.rb.put h', H.rb.aside H.dk hm, H.hr, own_moves H.own hm (fun k e q => by subst q; exact H.nr e), fun k e q => H.nd k e ((down_same hd k).1 q), recs_turn (rmv_r H hm) H.recs⟩
/-- A record is laid behind the others. -/
theorem RingAt.push (H : RingAt w base d r s n z D h lv vals L) {v : Value} {bs : List Int} (hv : BRow w (fun g => ¬ ROwn w r d lv g) v bs) {w5 : World} {lv' : Value} {m : Nat} (hlen : vals.length + 1 = m) (hown : w5.ownsRow base 55 1 lv' m (vals ++ [v])) (hg : w.grownBy w5 lv.ownBlock) (hl : lv'.ownBlock = lv.ownBlock ∨ ∃ q, lv'.ownBlock = some q ∧ w.heap.size ≤ q) :
    RingAt (w5.setCell ⟨r, 9, none⟩ lv') base d r s n z D h lv' (vals ++ [v]) (L ++ [bs]) ∧ RMv w r d lv (w5.setCell ⟨r, 9, none⟩ lv') lv' ∧ Moves (fun k => k = r ∨ lv.ownBlock = some k) w (w5.setCell ⟨r, 9, none⟩ lv') := by
  subst hlen
  have m1 : Moves (fun k => lv.ownBlock = some k) w w5 := Moves.of_grown hg (fun k e => e)
  have m2 : Moves (fun k => k = r) w5 (w5.setCell ⟨r, 9, none⟩ lv') := (Moves.refl (fun k => k = r) w5).setCell (p := ⟨r, 9, none⟩) (fun _ => rfl) _
  have mm : Moves (fun k => k = r ∨ lv.ownBlock = some k) w (w5.setCell ⟨r, 9, none⟩ lv') := (m1.mono (fun k e => .inr e)).andThen m2 (fun k e _ => .inl e)
  have hdl : d < w.heap.size := H.lt (.inr (.inr (.inl rfl)))
  have hdn : ¬ (d = r ∨ lv.ownBlock = some d) := fun e => by
    rcases e with e | e
    · subst e; exact H.rd (.inl rfl)
    · exact H.nd d e (.inl rfl)
  have hd : (w5.setCell ⟨r, 9, none⟩ lv').heap[d]? = w.heap[d]? := mm.block d hdl hdn
  have hM : RMv w r d lv (w5.setCell ⟨r, 9, none⟩ lv') lv' := ⟨mm.mono (fun k e => by rcases e with e | e; exact .inl e; exact .inr (.inl e)), fun k hk => by
    rcases hk with e | e | e
    · exact .inl (.inl e)
    · rcases hl with q | ⟨j, q, hj⟩
      · rw [q] at e; exact .inl (.inr (.inl e))
      · rw [q] at e; cases e; exact .inr hj
    · exact .inl (.inr (.inr ((down_same hd k).1 e)))⟩
  have hr5 : w5.heap[r]? = w.heap[r]? := m1.block r (lt_of_block H.rb) H.nr
  have hrb : RingB (w5.setCell ⟨r, 9, none⟩ lv') r d s n z h lv' := by
    have h0 := H.rb
    unfold RingB at h0 ⊢
    simp [World.setCell, Array.getElem?_modify, hr5, h0]
  have hnr : lv'.ownBlock ≠ some r := fun e => by
    obtain ⟨cur, hc⟩ := own_block hown e
    have h0 := H.rb
    unfold RingB at h0
    rw [hr5, h0] at hc
    cases hc
  refine ⟨⟨hrb, asideS H.dk mm (fun g hg _ => ?_), H.hr, ?_, fun k e q => ?_, (recs_turn hM H.recs).append (hM.row hv)⟩, hM, mm⟩
  · rcases hg with rfl | e
    · exact ⟨H.rd, _, _, _, H.rb, by decide, by decide⟩
    · obtain ⟨cur, hc⟩ := own_block H.own e
      exact ⟨H.nd g e, _, _, _, hc, by decide, by decide⟩
  · rw [List.length_append, List.length_singleton]
    exact own_moves hown m2 (fun k e q => by subst q; exact hnr e)
  · have q := (down_same hd k).1 q
    rcases hl with e1 | ⟨j, e1, hj⟩
    · rw [e1] at e; exact H.nd k e q
    · rw [e1] at e; cases e
      have := down_lt H.dk q
      omega
end Go.Proofs.Ytnagpianaghjeaa.Rg
