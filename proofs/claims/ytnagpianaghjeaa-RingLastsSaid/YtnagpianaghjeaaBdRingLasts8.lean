/-
  geom: up, sectors, Sectors, Check.
  sup: fields, Slot, Newer.
-/
import Derived.Test.YtnagpianaghjeaaBdRingLasts6
import Derived.Test.YtnagpianaghjeaaBdRingLasts7
namespace Go.Proofs.Ytnagpianaghjeaa.Sl
open Go Go.RowKit Go.Proofs

abbrev geoV (g : Geo) : Value := .agg #[.int .i64 g.sector, .int .i64 g.log, .int .i64 g.words]
def LayV (w : World) (v : Value) (e : Ending) (w' : World) : Prop := e = .returned v ∧ Lays w w'
theorem w64 {x : Int} (h0 : -9223372036854775808 ≤ x) (h1 : x ≤ 9223372036854775807) : wrap64 x = x := by
  unfold wrap64
  omega
set_option maxHeartbeats 1000000 in
theorem up_any (n b : Int) (h0 : 0 ≤ n) (h1 : n ≤ 1000000000) (h2 : 1 ≤ b) (h3 : b ≤ 10000000) (w : World) : Calls Try.prog 105 #[.int .i64 n, .int .i64 b] w (SameV w (.int .i64 ((n + b - 1) / b))) := by
  have h4 : 0 ≤ n + b - 1 := by omega
  go_enter Try.func105, Try.ntmps105
  go_wp2
  go_ret
  exact ⟨rfl, rfl⟩
theorem up_q (n b : Int) (h0 : 0 ≤ n) (h1 : n ≤ 1000000000) (h2 : 1 ≤ b) (h3 : b ≤ 10000000) (w : World) : Calls Try.prog 105 #[.int .i64 n, .int .i64 b] w (fun e w' => e = .returned (.int .i64 ((n + b - 1) / b)) ∧ w' = w) := (up_any n b h0 h1 h2 h3 w).mono fun _ _ h => ⟨h.1, h.2.symm⟩
/-- What Check has looked at ahead of its last question. -/
def NearG (g : Geo) : Prop := (64 ≤ g.sector ∧ g.sector ≤ 1024) ∧ (0 ≤ g.log ∧ g.log ≤ 1024) ∧ (0 ≤ g.words ∧ g.words ≤ 8192)
theorem GoodG.near {g : Geo} (h : GoodG g) : NearG g := by
  obtain ⟨⟨a, b, _⟩, ⟨c, d, e, f⟩, _⟩ := h
  exact ⟨⟨a, b⟩, ⟨by omega, d⟩, by omega, f⟩
theorem div_64 {n b : Int} (h0 : 0 ≤ n) (h1 : n ≤ 1000000) (h2 : 1 ≤ b) (h3 : b ≤ 10000) : 0 ≤ (n + b - 1) / b ∧ (n + b - 1) / b ≤ 1000000 + 10000 := by
  constructor
  · exact Int.ediv_nonneg (by omega) (by omega)
  · refine Int.le_trans (Int.ediv_le_self _ (by omega)) (by omega)
theorem oneG_le {g : Geo} (h : NearG g) : 0 ≤ oneG g ∧ oneG g ≤ 2100000 := by
  obtain ⟨⟨a, b⟩, ⟨c, d⟩, e, f⟩ := h
  have h1 := div_64 (n := g.words * 8) (b := g.sector) (by omega) (by omega) (by omega) (by omega)
  have h2 := div_64 (n := g.words) (b := 32) (by omega) (by omega) (by omega) (by omega)
  unfold oneG
  have e : g.words + 31 = g.words + 32 - 1 := by omega
  rw [e]
  omega
set_option maxRecDepth 100000 in
set_option maxHeartbeats 2000000 in
theorem gsectors_ok {g : Geo} (h : NearG g) (w : World) : Calls Try.prog 64 #[geoV g] w (LayV w (.int .i64 (oneG g))) := by
  have HO := Lib.hid (oneG_le h)
  obtain ⟨s, l, n⟩ := g
  obtain ⟨⟨a, b⟩, ⟨c, d⟩, e, f⟩ := h
  dsimp only at a b c d e f ⊢
  have h1 := div_64 (n := n * 8) (b := s) (by omega) (by omega) (by omega) (by omega)
  have h2 := div_64 (n := n) (b := 32) (by omega) (by omega) (by omega) (by omega)
  have HE : Hid (wrap64 ((n * 8 + s - 1) / s + (n + 32 - 1) / 32) = oneG ⟨s, l, n⟩) := by
    rw [w64 (by omega) (by omega)]
    unfold oneG
    have e : n + 31 = n + 32 - 1 := by omega
    rw [e]
    rfl
  have e8 : IntKind.i64.wrap (n * 8) = n * 8 := IntWalk.i64_in _ (by omega)
  generalize hz : oneG ⟨s, l, n⟩ = z at HE ⊢
  clear h1 h2 hz
  go_enter Try.func64, Try.ntmps64
  go_wp2
  go_quiet ((go_at_call 105; exact Calls.quiet_of_same (up_q _ _ (by omega) (by omega) (by omega) (by omega) _)))
  go_wp2
  go_ret
  exact ⟨congrArg (fun x => Ending.returned (.int .i64 x)) HE.out, ((Lays.refl w).alloc _).drewN _⟩

/-- Nothing but new blocks, and draws: said so that a draw leaves it as it is. -/
def KpS (W w' : World) : Prop := w'.os = W.os ∧ w'.tape = W.tape ∧ w'.output = W.output ∧ W.heap.size ≤ w'.heap.size ∧ ∀ i, i < W.heap.size → w'.heap[i]? = W.heap[i]?
theorem KpS.of {W w' : World} (h : Moves (fun _ => False) W w') : KpS W w' := ⟨h.os, h.tape, h.output, h.size, fun i hi => h.block i hi (fun e => e)⟩
theorem KpS.moves {W w' : World} (h : KpS W w') : Moves (fun _ => False) W w' := ⟨h.1, h.2.1, h.2.2.1, h.2.2.2.1, fun i hi _ => h.2.2.2.2 i hi⟩
theorem KpS.refl (W : World) : KpS W W := KpS.of (Moves.refl _ _)
theorem KpS.cell {W w' : World} (h : KpS W w') {p : Addr} {v : Value} (hc : W.cell? p = some v) : w'.cell? p = some v := by
  have hlt : p.block < W.heap.size := by
    rcases Nat.lt_or_ge p.block W.heap.size with h | h
    · exact h
    · unfold World.cell? at hc
      rw [Array.getElem?_eq_none h] at hc
      cases hc
  exact (h.moves.cell hlt (fun e => e)).trans hc
/-- What a call leaves that lays blocks and draws. -/
def MovV (w : World) (v : Value) (e : Ending) (w' : World) : Prop := e = .returned v ∧ Moves (fun _ => False) w w'
theorem LayV.mov {w w' : World} {v : Value} {e : Ending} (h : LayV w v e w') : MovV w v e w' := ⟨h.1, h.2.moves _⟩
/-- The cells of a block that is known whole. -/
theorem cells3 {w : World} {g : Nat} {a b c : Value} {t : TypeId} (h : w.heap[g]? = some (.cells #[a, b, c] t (0, 0))) : w.cell? ⟨g, 0, none⟩ = some a ∧ w.cell? ⟨g, 1, none⟩ = some b ∧ w.cell? ⟨g, 2, none⟩ = some c := by
  refine ⟨?_, ?_, ?_⟩ <;> simp [World.cell?, h]
set_option maxRecDepth 100000 in
set_option maxHeartbeats 2000000 in
theorem sectors_ok {g : Geo} (h : NearG g) (w : World) : Calls Try.prog 18 #[geoV g] w (MovV w (.int .i64 (secsG g))) := by
  have hO := oneG_le h
  have hlog := h.2.1
  have HC := Lib.hid (fun W => gsectors_ok h W)
  have HE : Hid (IntKind.i64.wrap (IntKind.i64.wrap (2 + g.log) + IntKind.i64.wrap (2 * oneG g)) = secsG g) := by
    have e1 : IntKind.i64.wrap (2 + g.log) = 2 + g.log := IntWalk.i64_in _ (by omega)
    have e2 : IntKind.i64.wrap (2 * oneG g) = 2 * oneG g := IntWalk.i64_in _ (by omega)
    rw [e1, e2]
    exact IntWalk.i64_in _ (by omega)
  obtain ⟨s, l, n⟩ := g
  dsimp only at hlog HE hO
  generalize oneG ⟨s, l, n⟩ = x at HE hO HC
  generalize secsG ⟨s, l, n⟩ = z at HE ⊢
  go_enter Try.func18, Try.ntmps18
  go_wp2
  have hm := (Moves.refl (fun _ => False) w).alloc (.cells #[.int .i64 s, .int .i64 l, .int .i64 n] 25)
  have hb := cells3 (heap_alloc_new w (.cells #[.int .i64 s, .int .i64 l, .int .i64 n] 25))
  generalize w.alloc (.cells #[.int .i64 s, .int .i64 l, .int .i64 n] 25) = W at hm hb ⊢
  obtain ⟨hb0, hb1, hb2⟩ := hb
  generalize w.heap.size = gb at hb0 hb1 hb2 ⊢
  have HN : Hid (∀ w', KpS W w' → KpS W w' ∧ w'.cell? ⟨gb, 0, none⟩ = some (.int .i64 s) ∧ w'.cell? ⟨gb, 1, none⟩ = some (.int .i64 l) ∧ w'.cell? ⟨gb, 2, none⟩ = some (.int .i64 n)) := Lib.hid fun w' hk => ⟨hk, hk.cell hb0, hk.cell hb1, hk.cell hb2⟩
  have HM := Lib.hid hm
  have hK0 := KpS.refl W
  clear hm
  go_region_held3 (fun w' => KpS W w' ∧ w'.cell? ⟨gb, 0, none⟩ = some (.int .i64 s) ∧ w'.cell? ⟨gb, 1, none⟩ = some (.int .i64 l) ∧ w'.cell? ⟨gb, 2, none⟩ = some (.int .i64 n)) (first | exact hS' | exact HN.out _ hK0 | assumption | go_keep)
    (first
      | (go_at_call 64; refine (HC.out _).mono ?_; rintro e w' ⟨rfl, hl⟩; have hS' := HN.out _ (KpS.of ((KpS.moves (And.left (by assumption))).trans (hl.moves _))))
      | fail)
  go_wp2
  go_ret
  exact ⟨congrArg (fun x => Ending.returned (.int .i64 x)) HE.out, HM.out.drew.trans (hl.moves _)⟩
set_option maxRecDepth 100000 in
set_option maxHeartbeats 2000000 in
theorem check_bad {g : Geo} (h : ¬ GoodG g) (w : World) : Calls Try.prog 96 #[geoV g] w (MovV w (.int .i64 1)) := by
  have HB := Lib.hid h
  have HS := Lib.hid (fun W hn => sectors_ok (g := g) hn W)
  obtain ⟨s, l, n⟩ := g
  by_cases h1 : 64 ≤ s
  · by_cases h2 : s ≤ 1024
    · by_cases h3 : s % 8 = 0
      · by_cases h4 : 8 ≤ l
        · by_cases h5 : l ≤ 1024
          · by_cases h6 : 64 ≤ n
            · by_cases h7 : n ≤ 8192
              · have hb : 16384 < secsG ⟨s, l, n⟩ := by
                  by_cases q : 16384 < secsG ⟨s, l, n⟩
                  · exact q
                  · exact absurd ⟨⟨h1, h2, h3⟩, ⟨h4, h5, h6, h7⟩, Int.not_lt.1 q⟩ HB.out
                have HSS := Lib.hid (fun W => HS.out W ⟨⟨h1, h2⟩, ⟨by show 0 ≤ l; omega, h5⟩, by show 0 ≤ n; omega, h7⟩)
                have h3' : (s % 8 != 0) = false := by simpa using h3
                clear h3 HS
                generalize secsG ⟨s, l, n⟩ = z at hb HSS
                go_enter Try.func96, Try.ntmps96
                go_wp2_with (first | (go_at_call 18; refine (HSS.out _).mono ?_; rintro e w1 ⟨rfl, hm⟩) | fail)
                go_ret
                exact ⟨rfl, ((Moves.refl _ w).alloc _).trans hm⟩
              · have h3' : (s % 8 != 0) = false := by simpa using h3
                clear h3
                go_enter Try.func96, Try.ntmps96
                go_wp2
                go_ret
                exact ⟨rfl, (Moves.refl _ w).alloc _⟩
            · have h3' : (s % 8 != 0) = false := by simpa using h3
              clear h3
              go_enter Try.func96, Try.ntmps96
              go_wp2
              go_ret
              exact ⟨rfl, (Moves.refl _ w).alloc _⟩
          · have h3' : (s % 8 != 0) = false := by simpa using h3
            clear h3
            go_enter Try.func96, Try.ntmps96
            go_wp2
            go_ret
            exact ⟨rfl, (Moves.refl _ w).alloc _⟩
        · have h3' : (s % 8 != 0) = false := by simpa using h3
          clear h3
          go_enter Try.func96, Try.ntmps96
          go_wp2
          go_ret
          exact ⟨rfl, (Moves.refl _ w).alloc _⟩
      · have h3' : (s % 8 != 0) = true := by simpa using h3
        clear h3
        go_enter Try.func96, Try.ntmps96
        go_wp2
        go_ret
        exact ⟨rfl, (Moves.refl _ w).alloc _⟩
    · go_enter Try.func96, Try.ntmps96
      go_wp2
      go_ret
      exact ⟨rfl, (Moves.refl _ w).alloc _⟩
  · go_enter Try.func96, Try.ntmps96
    go_wp2
    go_ret
    exact ⟨rfl, (Moves.refl _ w).alloc _⟩
set_option maxRecDepth 100000 in
set_option maxHeartbeats 2000000 in
theorem check_ok {g : Geo} (h : GoodG g) (w : World) : Calls Try.prog 96 #[geoV g] w (MovV w (.int .i64 0)) := by
  have HSS := Lib.hid (fun W => sectors_ok h.near W)
  obtain ⟨s, l, n⟩ := g
  obtain ⟨⟨h1, h2, h3⟩, ⟨h4, h5, h6, h7⟩, hb⟩ := h
  dsimp only at h1 h2 h3 h4 h5 h6 h7
  have h3' : (s % 8 != 0) = false := by simpa using h3
  clear h3
  generalize secsG ⟨s, l, n⟩ = z at hb HSS
  go_enter Try.func96, Try.ntmps96
  go_wp2_with (first | (go_at_call 18; refine (HSS.out _).mono ?_; rintro e w1 ⟨rfl, hm⟩) | fail)
  go_ret
  exact ⟨rfl, ((Moves.refl _ w).alloc _).trans hm⟩
end Go.Proofs.Ytnagpianaghjeaa.Sl
namespace Go.Proofs.Ytnagpianaghjeaa.Sl
open Go Go.RowKit Go.Proofs

theorem alloc_at {w : World} {o : Obj} {k : Nat} (hk : k = w.heap.size) : (w.alloc o).heap[k]? = some o := by subst hk; exact heap_alloc_new w o
abbrev blkCells (b : Blk) : Array Value := #[.int .u64 b.epoch, .int .i64 b.geom.sector, .int .i64 b.geom.log, .int .i64 b.geom.words, .int .i64 b.space, .int .i64 b.words, .int .u64 b.log]
abbrev blkV (b : Blk) : Value := .agg (blkCells b)
abbrev fld (p n : Nat) (x : Int) : List Value := [.int .i64 p, .int .i64 n, .int .u64 x]
def fieldCells (b : Blk) : List Value := fld 4 4 1 ++ (fld 8 8 b.epoch ++ (fld 16 4 b.geom.sector ++ (fld 20 4 b.geom.log ++ (fld 24 4 b.geom.words ++ (fld 28 4 b.space ++ (fld 32 4 b.words ++ fld 36 8 b.log))))))
def FieldsPost (w : World) (b : Blk) (e : Ending) (w' : World) : Prop := ∃ k, e = .returned (.slice (some ⟨k, 0, none⟩) 8 8) ∧ w.heap.size ≤ k ∧ w'.heap[k]? = some (.cells (fieldCells b).toArray 142 (0, 0)) ∧ Moves (fun _ => False) w w'
theorem fieldCells_eq (b : Blk) : (fieldCells b).toArray = #[.int .i64 4, .int .i64 4, .int .u64 1, .int .i64 8, .int .i64 8, .int .u64 b.epoch, .int .i64 16, .int .i64 4, .int .u64 b.geom.sector, .int .i64 20, .int .i64 4, .int .u64 b.geom.log, .int .i64 24, .int .i64 4, .int .u64 b.geom.words, .int .i64 28, .int .i64 4, .int .u64 b.space, .int .i64 32, .int .i64 4, .int .u64 b.words, .int .i64 36, .int .i64 8, .int .u64 b.log] := rfl
set_option maxRecDepth 100000 in
set_option maxHeartbeats 4000000 in
theorem fields_ok {b : Blk} (hg : NearG b.geom) (hs : 0 ≤ b.space ∧ b.space ≤ 1) (hw : 0 ≤ b.words ∧ b.words ≤ 8192) (w : World) : Calls Try.prog 97 #[blkV b] w (FieldsPost w b) := by
  have HE := Lib.hid (fieldCells_eq b)
  obtain ⟨ep, ⟨s, l, n⟩, sp, wd, lg⟩ := b
  obtain ⟨⟨a1, a2⟩, ⟨a3, a4⟩, a5, a6⟩ := hg
  dsimp only at hs hw a1 a2 a3 a4 a5 a6 HE
  obtain ⟨s1, s2⟩ := hs
  obtain ⟨w1, w2⟩ := hw
  have a0 : 0 ≤ s := by omega
  generalize fieldCells ⟨ep, ⟨s, l, n⟩, sp, wd, lg⟩ = F at HE
  have HF : Hid (∀ k e w', e = .returned (.slice (some ⟨k, 0, none⟩) 8 8) → w.heap.size ≤ k → w'.heap[k]? = some (.cells F.toArray 142 (0, 0)) → Moves (fun _ => False) w w' → FieldsPost w ⟨ep, ⟨s, l, n⟩, sp, wd, lg⟩ e w') := Lib.hid fun k e w' he hk hc hm => ⟨k, he, hk, by rw [hc, HE.out]; rfl, hm⟩
  generalize FieldsPost w ⟨ep, ⟨s, l, n⟩, sp, wd, lg⟩ = Q at HF ⊢
  go_enter Try.func97, Try.ntmps97
  go_wp2
  exact HF.out _ _ _ rfl (by simp) (by rw [HE.out]; exact alloc_at (by simp)) (((Moves.refl _ w).alloc _).alloc _)
theorem and_one {e : Int} (h0 : 0 ≤ e) (h1 : e < 18446744073709551616) : wrap64 (bits .and .u64 e 1) = e % 2 := by
  obtain ⟨n, rfl⟩ := Int.eq_ofNat_of_zero_le h0
  have e1 : bits .and .u64 (n : Int) 1 = ((n % 2 : Nat) : Int) := by
    show IntKind.u64.wrap ((BitVec.ofInt 64 (n : Int) &&& BitVec.ofInt 64 ((1 : Nat) : Int)).toNat : Int) = _
    rw [BitVec.ofInt_natCast, BitVec.ofInt_natCast, BitVec.toNat_and, BitVec.toNat_ofNat, BitVec.toNat_ofNat, Nat.mod_eq_of_lt (by omega), show (1 % 2 ^ 64 : Nat) = 1 from rfl, Nat.and_one_is_mod]
    exact IntWalk.u64_in _ (by omega)
  rw [e1, w64 (by omega) (by omega)]
  omega
set_option maxHeartbeats 2000000 in
theorem slot_any (e : Int) (h0 : 0 ≤ e) (h1 : e < 18446744073709551616) (w : World) : Calls Try.prog 17 #[.int .u64 e] w (SameV w (.int .i64 (e % 2))) := by
  go_enter Try.func17, Try.ntmps17
  go_wp2
  go_ret
  exact ⟨congrArg (fun x => Ending.returned (.int .i64 x)) (and_one h0 h1), rfl⟩
set_option maxHeartbeats 2000000 in
theorem newer_any (a b : Blk) (w : World) : Calls Try.prog 60 #[blkV a, blkV b] w (MovV w (.bool (decide (b.epoch < a.epoch)))) := by
  obtain ⟨ep, ⟨s, l, n⟩, sp, wd, lg⟩ := a
  obtain ⟨ep', ⟨s', l', n'⟩, sp', wd', lg'⟩ := b
  go_enter Try.func60, Try.ntmps60
  go_wp2
  go_ret
  exact ⟨rfl, ((Moves.refl _ w).alloc _).alloc _⟩
end Go.Proofs.Ytnagpianaghjeaa.Sl
