/-
  The newest head of two. (Printed by gen_newest.py.)
-/
import Derived.Test.YtnagpianaghjeaaRingRead
import Derived.Test.YtnagpianaghjeaaDiskClear
namespace Go.Proofs.Ytnagpianaghjeaa.Rg
open Go Go.RowKit Go.Proofs Go.Proofs.Ytnagpianaghjeaa.Sl
open Pl (DS IsDisk DOwn DPost DMv DKeep Clear)

/-- The disk stays when a block of a type that is none of its own is written to. -/
theorem asideD {w w' : World} {base d g : Nat} {S : DS} {cs : Array Value} {t : TypeId} {fr : Nat × Nat} (h : IsDisk w base d S) (hg : w.heap[g]? = some (.cells cs t fr)) (t1 : t ≠ 105) (t2 : t ≠ 55) (t3 : t ≠ 5) (t4 : t ≠ 4) (hm : Moves (fun k => k = g) w w') : IsDisk w' base d S := by
  obtain ⟨kv, kvs, m, D, pvs, kpv, h⟩ := h
  have ty : ∀ (k : Nat) (cs' : Array Value) (t' : TypeId) (fr' : Nat × Nat), w.heap[k]? = some (.cells cs' t' fr') → t ≠ t' → k ≠ g := fun k cs' t' fr' hk ht e => by
    rw [e, hg] at hk
    injection hk with hk
    injection hk with _ h1
    exact ht h1
  have hc : Clear w base d S (fun k => k = g) kv kvs m D pvs kpv := by
    refine ⟨h, ty d _ _ _ h.blk t1, fun k hk e => ?_, fun e => ?_, fun k cs' hk e => ty k cs' _ _ hk t3 e, fun k cs' hk e => ty k cs' _ _ hk t4 e⟩
    · obtain ⟨cur, hc⟩ := own_block h.kept hk
      exact ty k cur _ _ hc t2 e
    · obtain ⟨es, ck, hb, _⟩ := h.map
      have e : m = g := e
      rw [e, hg] at hb
      cases hb
  exact ⟨kv, kvs, m, D, pvs, kpv, hc.moves hm⟩
abbrev put5 (W : World) (r : Nat) (h : Hd) : World := ((((W.setCell ⟨r, 4, none⟩ (.int .u64 h.gen)).setCell ⟨r, 5, none⟩ (.int .u64 h.first)).setCell ⟨r, 6, none⟩ (.int .u64 h.count)).setCell ⟨r, 7, none⟩ (.int .u64 h.start)).setCell ⟨r, 8, none⟩ (.int .u64 h.used)
theorem put5_moves (W : World) (r : Nat) (h : Hd) : Moves (fun k => k = r) W (put5 W r h) :=
  (((((Moves.refl (fun k => k = r) W).setCell (p := ⟨r, 4, none⟩) (fun _ => rfl) _).setCell (p := ⟨r, 5, none⟩) (fun _ => rfl) _).setCell (p := ⟨r, 6, none⟩) (fun _ => rfl) _).setCell (p := ⟨r, 7, none⟩) (fun _ => rfl) _).setCell (p := ⟨r, 8, none⟩) (fun _ => rfl) _
theorem RingB.put {W : World} {r d s n z : Nat} {h : Hd} {lv : Value} (hb : RingB W r d s n z h lv) (h' : Hd) : RingB (put5 W r h') r d s n z h' lv := by
  unfold RingB at hb ⊢
  simp [World.setCell, Array.getElem?_modify, hb]
theorem RingB.aside {W W' : World} {r d s n z base : Nat} {h : Hd} {lv : Value} (hb : RingB W r d s n z h lv) {S : DS} (hD : IsDisk W base d S) (hm : Moves (fun k => k = r) W W') : IsDisk W' base d S :=
  asideD hD hb (by decide) (by decide) (by decide) (by decide) hm
/-- The log, its disk, and what has turned since. -/
def NSt (w : World) (base d r s n z : Nat) (lv : Value) (D : DS) (h : Hd) (W : World) : Prop := RingB W r d s n z h lv ∧ IsDisk W base d D ∧ Moves (fun k => k = r) w W
theorem NSt.moves0 {w W W' : World} {base d r s n z : Nat} {lv : Value} {D : DS} {h : Hd} (H : NSt w base d r s n z lv D h W) (hm : Moves (fun _ => False) W W') : NSt w base d r s n z lv D h W' :=
  ⟨H.1.moves0 hm, H.2.1.moves0 hm, H.2.2.trans (hm.none _)⟩
theorem NSt.put {w W : World} {base d r s n z : Nat} {lv : Value} {D : DS} {h : Hd} (H : NSt w base d r s n z lv D h W) (h' : Hd) : NSt w base d r s n z lv D h' (put5 W r h') :=
  ⟨H.1.put h', H.1.aside H.2.1 (put5_moves W r h'), H.2.2.trans (put5_moves W r h')⟩
def NewestPost (w : World) (base d r s n z : Nat) (lv : Value) (D : DS) (h : Hd) (o : Option Hd) (e : Ending) (w' : World) : Prop := e = .returned (.bool o.isSome) ∧ NSt w base d r s n z lv D (o.getD h) w'
theorem newest_eq (a : Nat) (s0 s1 : List Int) : newestH a s0 s1 = if decide (okS a 1 s1) && (!decide (okS a 0 s0) || decide (newerH (hdS s1) (hdS s0))) then some (hdS s1) else if decide (okS a 0 s0) then some (hdS s0) else none := by
  unfold newestH
  simp
set_option maxRecDepth 100000 in
set_option maxHeartbeats 8000000 in
theorem newest_any {w : World} {base d r s n z : Nat} {h : Hd} {lv : Value} {K : List (List Int)} {a : Bool} {l : Int} {k : List Bool} {wr : Int} (hD : IsDisk w base d (calmS z K a l k wr)) (hb : RingB w r d s n z h lv) (hn : 8 ≤ n ∧ n ≤ 16384) (hz : 64 ≤ z ∧ z ≤ 1000000) (hs : s + n ≤ K.length) (hs2 : s ≤ 16384)
    {S0 S1 : List Int} (hS0 : K.getD s [] = S0) (hS1 : K.getD (s + 1) [] = S1) (b0 : ∀ x ∈ S0, 0 ≤ x ∧ x < 256) (b1 : ∀ x ∈ S1, 0 ≤ x ∧ x < 256) (l0 : S0.length = z) (l1 : S1.length = z) :
    Calls Try.prog 72 #[.pointer (some ⟨r, 0, none⟩)] w (NewestPost w base d r s n z lv (calmS z K a l k wr) h (newestH (n - 2) S0 S1)) := by
  have HR0 : Hid (∀ W h', RingB W r d s n z h' lv → IsDisk W base d (calmS z K a l k wr) → Calls Try.prog 110 #[.pointer (some ⟨r, 0, none⟩), .int .i64 0] W (MovV W (.tuple #[hdV (hdS S0), .bool (decide (okS (n - 2) 0 S0))]))) := Lib.hid (fun W h' hb hD => rread_any hD hb hn hz hs hs2 (i := 0) (by omega) hS0 b0 l0)
  have HR1 : Hid (∀ W h', RingB W r d s n z h' lv → IsDisk W base d (calmS z K a l k wr) → Calls Try.prog 110 #[.pointer (some ⟨r, 0, none⟩), .int .i64 1] W (MovV W (.tuple #[hdV (hdS S1), .bool (decide (okS (n - 2) 1 S1))]))) := Lib.hid (fun W h' hb hD => rread_any hD hb hn hz hs hs2 (i := 1) (by omega) hS1 b1 l1)
  have HNW := Lib.hid (fun W => hnewer_any (a := hdS S1) (b := hdS S0) W)
  rw [newest_eq]
  generalize decide (okS (n - 2) 0 S0) = o0 at HR0 ⊢
  generalize decide (okS (n - 2) 1 S1) = o1 at HR1 ⊢
  generalize decide (newerH (hdS S1) (hdS S0)) = nw at HNW ⊢
  generalize hdS S0 = x at HR0 HNW ⊢
  generalize hdS S1 = y at HR1 HNW ⊢
  have HI0 : Hid (NSt w base d r s n z lv (calmS z K a l k wr) h w) := Lib.hid ⟨hb, hD, Moves.refl _ _⟩
  generalize calmS z K a l k wr = D at HR0 HR1 HI0 ⊢
  obtain ⟨x0, x1, x2, x3, x4⟩ := x
  obtain ⟨y0, y1, y2, y3, y4⟩ := y
  have HQ : Hid (∀ e w', e = .returned (.bool (if o1 && (!o0 || nw) then some (Hd.mk y0 y1 y2 y3 y4) else if o0 then some (Hd.mk x0 x1 x2 x3 x4) else none).isSome) → NSt w base d r s n z lv D ((if o1 && (!o0 || nw) then some (Hd.mk y0 y1 y2 y3 y4) else if o0 then some (Hd.mk x0 x1 x2 x3 x4) else none).getD h) w' → NewestPost w base d r s n z lv D h (if o1 && (!o0 || nw) then some (Hd.mk y0 y1 y2 y3 y4) else if o0 then some (Hd.mk x0 x1 x2 x3 x4) else none) e w') := Lib.hid fun e w' h1 h2 => ⟨h1, h2⟩
  generalize NewestPost w base d r s n z lv D h (if o1 && (!o0 || nw) then some (Hd.mk y0 y1 y2 y3 y4) else if o0 then some (Hd.mk x0 x1 x2 x3 x4) else none) = Q at HQ ⊢
  clear hD hb hS0 hS1 b0 b1 l0 l1 hn hz hs hs2
  go_enter Try.func72, Try.ntmps72
  go_wp2_with fail
  go_loopg [3, 7] 2 (fun gg s3 s7 wr => (gg = 2 ∧ s7 = .int .i64 0 ∧ s3 = .bool false ∧ Hid (NSt w base d r s n z lv D h wr)) ∨ (gg = 1 ∧ s7 = .int .i64 1 ∧ s3 = .bool o0 ∧ Hid (NSt w base d r s n z lv D (if o0 then (Hd.mk x0 x1 x2 x3 x4) else h) wr)) ∨ (gg = 0 ∧ s7 = .int .i64 2 ∧ s3 = .bool (o0 || o1 && (!o0 || nw)) ∧ Hid (NSt w base d r s n z lv D (if o1 && (!o0 || nw) then (Hd.mk y0 y1 y2 y3 y4) else if o0 then (Hd.mk x0 x1 x2 x3 x4) else h) wr)))
  case atStart => exact .inl ⟨rfl, rfl, rfl, HI0⟩
  case round =>
    clear HI0
    rcases hrel with ⟨rfl, rfl, rfl, HI⟩ | ⟨rfl, rfl, rfl, HI⟩ | ⟨rfl, rfl, rfl, HI⟩
    · go_wp2_with fail
      refine (HR0.out wr _ HI.out.1 HI.out.2.1).mono ?_
      rintro e w3 ⟨rfl, hm3⟩
      have MA := hm3.alloc (.cells #[.int .u64 x0, .int .u64 x1, .int .u64 x2, .int .u64 x3, .int .u64 x4] 118)
      have HS := Lib.hid (HI.out.moves0 MA)
      have BA := Lib.hid (heap_alloc_new w3 (.cells #[.int .u64 x0, .int .u64 x1, .int .u64 x2, .int .u64 x3, .int .u64 x4] 118))
      clear MA hm3 HI
      go_upto_region 6 with fail
      generalize w3.alloc (.cells #[.int .u64 x0, .int .u64 x1, .int .u64 x2, .int .u64 x3, .int .u64 x4] 118) = W3 at HS BA ⊢
      generalize w3.heap.size = ga at BA ⊢
      go_cut [28] from 8 to 33 (fun s28 wc => s28 = .bool o0 ∧ Hid (NSt w base d r s n z lv D h wc ∧ wc.heap[ga]? = some (.cells #[.int .u64 x0, .int .u64 x1, .int .u64 x2, .int .u64 x3, .int .u64 x4] 118 (0, 0))))
      case first =>
        cases o0 with
        | false =>
          go_quiet (fail)
          go_wp2_with fail
          go_meet
          case rel => exact ⟨by simp, Lib.hid ⟨HS.out.moves0 ((Moves.refl _ _).drewN _), BA.out⟩⟩
        | true =>
          go_quiet (fail)
          go_wp2_with fail
          go_meet
          case rel => exact ⟨by simp, Lib.hid ⟨HS.out.moves0 ((Moves.refl _ _).drewN _), BA.out⟩⟩
      case rest =>
        obtain ⟨rfl, HC⟩ := hcut
        clear HS BA
        have hf := HC.out.1.1.fr
        have f4 := hf 4
        have f5 := hf 5
        have f6 := hf 6
        have f7 := hf 7
        have f8 := hf 8
        have u := HC.out.1.1.cells
        obtain ⟨-, -, -, -, g4, g5, g6, g7, g8, -⟩ := u
        obtain ⟨q0, q1, q2, q3, q4⟩ := cells5 HC.out.2
        clear hf
        cases o0 with
        | false =>
          go_wp2_with fail
          go_roundg 1
          case measure => omega
          case rel => exact .inr (.inl ⟨rfl, by go_num, rfl, Lib.hid HC.out.1⟩)
        | true =>
          go_wp2_with fail
          go_roundg 1
          case measure => omega
          case rel => exact .inr (.inl ⟨rfl, by go_num, rfl, Lib.hid (HC.out.1.put (Hd.mk x0 x1 x2 x3 x4))⟩)
    · go_wp2_with fail
      refine (HR1.out wr _ HI.out.1 HI.out.2.1).mono ?_
      rintro e w3 ⟨rfl, hm3⟩
      have MA := hm3.alloc (.cells #[.int .u64 y0, .int .u64 y1, .int .u64 y2, .int .u64 y3, .int .u64 y4] 118)
      have HS := Lib.hid (HI.out.moves0 MA)
      have BA := Lib.hid (heap_alloc_new w3 (.cells #[.int .u64 y0, .int .u64 y1, .int .u64 y2, .int .u64 y3, .int .u64 y4] 118))
      clear MA hm3 HI
      go_upto_region 6 with fail
      generalize w3.alloc (.cells #[.int .u64 y0, .int .u64 y1, .int .u64 y2, .int .u64 y3, .int .u64 y4] 118) = W3 at HS BA ⊢
      generalize w3.heap.size = ga at BA ⊢
      go_cut [28] from 8 to 33 (fun s28 wc => s28 = .bool (o1 && (!o0 || nw)) ∧ Hid (NSt w base d r s n z lv D (if o0 then (Hd.mk x0 x1 x2 x3 x4) else h) wc ∧ wc.heap[ga]? = some (.cells #[.int .u64 y0, .int .u64 y1, .int .u64 y2, .int .u64 y3, .int .u64 y4] 118 (0, 0))))
      case first =>
        cases o1 with
        | false =>
          go_quiet (fail)
          go_wp2_with fail
          go_meet
          case rel => exact ⟨by simp, Lib.hid ⟨HS.out.moves0 ((Moves.refl _ _).drewN _), BA.out⟩⟩
        | true =>
          cases o0 with
          | false =>
            go_quiet (fail)
            go_wp2_with fail
            go_meet
            case rel => exact ⟨by simp, Lib.hid ⟨HS.out.moves0 ((Moves.refl _ _).drewN _), BA.out⟩⟩
          | true =>
            have HNN : Hid (∀ w', KpS W3 w' → KpS W3 w' ∧ w'.cell? ⟨ga, 0, none⟩ = some (.int .u64 y0) ∧ w'.cell? ⟨ga, 1, none⟩ = some (.int .u64 y1) ∧ w'.cell? ⟨ga, 2, none⟩ = some (.int .u64 y2) ∧ w'.cell? ⟨ga, 3, none⟩ = some (.int .u64 y3) ∧ w'.cell? ⟨ga, 4, none⟩ = some (.int .u64 y4) ∧ w'.cell? ⟨r, 4, none⟩ = some (.int .u64 x0) ∧ w'.cell? ⟨r, 5, none⟩ = some (.int .u64 x1) ∧ w'.cell? ⟨r, 6, none⟩ = some (.int .u64 x2) ∧ w'.cell? ⟨r, 7, none⟩ = some (.int .u64 x3) ∧ w'.cell? ⟨r, 8, none⟩ = some (.int .u64 x4)) := Lib.hid (fun w' hk => by
              have q := cells5 BA.out
              have u := HS.out.1.cells
              exact ⟨hk, hk.cell q.1, hk.cell q.2.1, hk.cell q.2.2.1, hk.cell q.2.2.2.1, hk.cell q.2.2.2.2, hk.cell u.2.2.2.2.1, hk.cell u.2.2.2.2.2.1, hk.cell u.2.2.2.2.2.2.1, hk.cell u.2.2.2.2.2.2.2.1, hk.cell u.2.2.2.2.2.2.2.2.1⟩)
            have hK0 := HNN.out _ (KpS.refl W3)
            have hK1 := HNN.out W3.drew (KpS.of (Moves.refl (fun _ => False) W3).drew)
            have HNW : Hid (∀ W, Calls Try.prog 111 #[.agg #[.int .u64 y0, .int .u64 y1, .int .u64 y2, .int .u64 y3, .int .u64 y4], .agg #[.int .u64 x0, .int .u64 x1, .int .u64 x2, .int .u64 x3, .int .u64 x4]] W (MovV W (.bool nw))) := HNW
            go_region_held3 (fun w' => KpS W3 w' ∧ w'.cell? ⟨ga, 0, none⟩ = some (.int .u64 y0) ∧ w'.cell? ⟨ga, 1, none⟩ = some (.int .u64 y1) ∧ w'.cell? ⟨ga, 2, none⟩ = some (.int .u64 y2) ∧ w'.cell? ⟨ga, 3, none⟩ = some (.int .u64 y3) ∧ w'.cell? ⟨ga, 4, none⟩ = some (.int .u64 y4) ∧ w'.cell? ⟨r, 4, none⟩ = some (.int .u64 x0) ∧ w'.cell? ⟨r, 5, none⟩ = some (.int .u64 x1) ∧ w'.cell? ⟨r, 6, none⟩ = some (.int .u64 x2) ∧ w'.cell? ⟨r, 7, none⟩ = some (.int .u64 x3) ∧ w'.cell? ⟨r, 8, none⟩ = some (.int .u64 x4)) (first | with_reducible exact hS' | with_reducible exact hK0 | with_reducible exact hK1 | assumption)
              (first
                | (go_at_call 111; (with_reducible refine (HNW.out _).mono ?_); rintro e w' ⟨rfl, hl⟩; have hS' := HNN.out _ (KpS.of ((KpS.moves (And.left (by assumption))).trans hl)))
                | fail)
            all_goals
              go_wp2_with fail
              go_meet
              case rel => exact ⟨by simp, Lib.hid ⟨HS.out.moves0 (KpS.moves (And.left hS')), (hS'.1.2.2.2.2 _ (lt_of_block BA.out)).trans BA.out⟩⟩
      case rest =>
        obtain ⟨rfl, HC⟩ := hcut
        clear HS BA
        have hf := HC.out.1.1.fr
        have f4 := hf 4
        have f5 := hf 5
        have f6 := hf 6
        have f7 := hf 7
        have f8 := hf 8
        have u := HC.out.1.1.cells
        obtain ⟨-, -, -, -, g4, g5, g6, g7, g8, -⟩ := u
        obtain ⟨q0, q1, q2, q3, q4⟩ := cells5 HC.out.2
        clear hf
        cases hv : (o1 && (!o0 || nw)) with
        | false =>
          go_wp2_with fail
          go_roundg 0
          case measure => omega
          case rel => exact .inr (.inr ⟨rfl, by go_num, by rw [hv]; simp, by rw [hv]; exact Lib.hid HC.out.1⟩)
        | true =>
          go_wp2_with fail
          go_roundg 0
          case measure => omega
          case rel => exact .inr (.inr ⟨rfl, by go_num, by rw [hv]; simp, by rw [hv]; exact Lib.hid (HC.out.1.put (Hd.mk y0 y1 y2 y3 y4))⟩)
    · go_wp2
      refine HQ.out _ _ ?_ ?_
      · cases o0 <;> cases o1 <;> cases nw <;> rfl
      · have h := HI.out
        cases o0 <;> cases o1 <;> cases nw <;> exact h
end Go.Proofs.Ytnagpianaghjeaa.Rg
