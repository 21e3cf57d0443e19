/-
  The records that a head tells, read.
-/
import Derived.Test.YtnagpianaghjeaaBdRingLasts22
import Derived.Test.YtnagpianaghjeaaBdRingLasts23
import Derived.Deep.RegionLaw
import Derived.Deep.RegionHeld3
import Derived.Deep.CutRange
import Derived.BigQuiet
namespace Go.Proofs.Ytnagpianaghjeaa.Rg
open Go Go.RowKit Go.Proofs Go.Proofs.Ytnagpianaghjeaa.Sl
open Pl (DS IsDisk DOwn DPost DMv DKeep Clear DiskAt All2 infoBS)

/-- Bytes that are the call's own: a row that may grow, or a full one. -/
def BB (w0 w : World) (v : Value) (bs : List Int) : Prop := OB w0.heap.size w v bs ∨ ∃ g, v = .slice (some ⟨g, 0, none⟩) bs.length bs.length ∧ w0.heap.size ≤ g ∧ BRow w (fun k => k = g) v bs
theorem BB.row {w0 w : World} {v : Value} {bs : List Int} (h : BB w0 w v bs) (hb : ∀ x ∈ bs, 0 ≤ x ∧ x < 256) (hl : bs.length ≤ 1000000) : BRow w (fun k => w0.heap.size ≤ k) v bs := by
  rcases h with h | ⟨g, -, hg, h⟩
  · exact h.row hb hl
  · obtain ⟨⟨A, c, hv, hc, hx⟩, h1, h2⟩ := h
    exact ⟨⟨A, c, hv, hc, fun h0 => by
      obtain ⟨g', o, hA, hg', h3, h4⟩ := hx h0
      exact ⟨g', o, hA, by subst hg'; exact hg, h3, h4⟩⟩, h1, h2⟩
theorem BB.moves {w0 w w' : World} {v : Value} {bs : List Int} (h : BB w0 w v bs) (hm : Moves (fun _ => False) w w') : BB w0 w' v bs := by
  rcases h with h | ⟨g, hv, hg, h⟩
  · exact .inl (h.moves hm)
  · exact .inr ⟨g, hv, hg, h.moves hm (fun _ _ _ e => e)⟩
/-- The state between two records. -/
def LSt (w : World) (base d r s n z : Nat) (D : DS) (h : Hd) (lv : Value) (vals : List Value) (L : List (List Int)) (W : World) : Prop := RingAt W base d r s n z D h lv vals L ∧ Moves (fun k => k = r) w W ∧ (∀ k, lv.ownBlock = some k → w.heap.size ≤ k)
theorem LSt.moves0 {w W W' : World} {base d r s n z : Nat} {D : DS} {h : Hd} {lv : Value} {vals : List Value} {L : List (List Int)} (H : LSt w base d r s n z D h lv vals L W) (hm : Moves (fun _ => False) W W') : LSt w base d r s n z D h lv vals L W' :=
  ⟨H.1.moves0 hm, H.2.1.trans (hm.none _), H.2.2⟩
def LoadPost (w : World) (base d r s n z : Nat) (D : DS) (h : Hd) (o : Option (List (List Int))) (e : Ending) (w' : World) : Prop :=
  e = .returned (.bool o.isSome) ∧ Moves (fun k => k = r) w w' ∧ IsDisk w' base d D ∧ ∀ L, o = some L → ∃ lv vals, LSt w base d r s n z D h lv vals L w'
theorem loadN_stop {F : Nat → List Int} {z u c p : Nat} {L : List (List Int)} (h : u ≤ p) : loadN F z u (c + 1) p L = none := by
  unfold loadN
  exact if_pos h
theorem loadN_long {F : Nat → List Int} {z u c p : Nat} {L : List (List Int)} (h : ¬ u ≤ p) (hx : 4096 < getL (F p) 0 4) : loadN F z u (c + 1) p L = none := by
  unfold loadN
  rw [if_neg h, if_pos hx]
theorem loadN_wide {F : Nat → List Int} {z u c p x : Nat} {L : List (List Int)} (h : ¬ u ≤ p) (hx : getL (F p) 0 4 = x) (h1 : ¬ 4096 < (x : Int)) (h2 : u - p < needN z x) : loadN F z u (c + 1) p L = none := by
  unfold loadN
  rw [if_neg h, hx, if_neg h1]
  dsimp only
  rw [Int.toNat_natCast, if_pos h2]
theorem loadN_next {F : Nat → List Int} {z u c p x : Nat} {L : List (List Int)} (h : ¬ u ≤ p) (hx : getL (F p) 0 4 = x) (h1 : ¬ 4096 < (x : Int)) (h2 : ¬ u - p < needN z x) : loadN F z u (c + 1) p L = loadN F z u c (p + needN z x) (L ++ [((wholeN F p (needN z x)).drop 4).take x]) := by
  conv => lhs; unfold loadN
  rw [if_neg h, hx, if_neg h1]
  dsimp only
  rw [Int.toNat_natCast, if_neg h2]
theorem needN_le {z x : Nat} (hz : 64 ≤ z) (hx : x ≤ 4096) : needN z x ≤ 66 ∧ needN z x * z ≤ x + 4 + z := by
  unfold needN
  have h := Nat.div_mul_le_self (x + 4 + z - 1) z
  refine ⟨?_, by omega⟩
  have : (x + 4 + z - 1) / z < 67 := by
    rw [Nat.div_lt_iff_lt_mul (by omega)]
    omega
  omega
theorem jz_le {j k z x : Nat} (hj : j < k) (h2 : k * z ≤ x + 4 + z) (hx : x ≤ 4096) (hz : z ≤ 100000) : j * z + z ≤ 1000000 := by
  have h1 : (j + 1) * z ≤ k * z := Nat.mul_le_mul_right z hj
  rw [Nat.succ_mul] at h1
  omega
theorem pk_in {p j u : Nat} (h : p + j ≤ u) (hu : u ≤ 16384) : 0 ≤ (p : Int) + (j : Int) ∧ (p : Int) + (j : Int) ≤ 18446744073709551615 := by omega
theorem tp_in {t p u : Nat} (h0 : (0 : Int) ≤ (t : Int)) (h1 : (0 : Int) ≤ (p : Int)) (h2 : (t : Int) ≤ 16384) (h3 : (u : Int) ≤ 16384) (h4 : (p : Int) ≤ (u : Int)) : 0 ≤ (t : Int) + (p : Int) ∧ (t : Int) + (p : Int) ≤ 18446744073709551615 := by omega
theorem tpj_in {t p u j k : Nat} (h0 : (0 : Int) ≤ (t : Int)) (h1 : (0 : Int) ≤ (p : Int)) (h5 : (0 : Int) ≤ (j : Int)) (h2 : (t : Int) ≤ 16384) (h3 : (u : Int) ≤ 16384) (h4 : (p : Int) ≤ (u : Int)) (h6 : (j : Int) < (k : Int)) (h7 : (k : Int) ≤ 66) : 0 ≤ (t : Int) + (p : Int) + (j : Int) ∧ (t : Int) + (p : Int) + (j : Int) ≤ 18446744073709551615 := by omega
theorem tpj_nat {t p u j k : Nat} (h2 : t ≤ 16384) (h3 : u ≤ 16384) (h4 : p ≤ u) (h6 : j < k) (h7 : k ≤ 66) : t + p + j ≤ 100000 := by omega
set_option maxRecDepth 100000 in
set_option maxHeartbeats 8000000 in
theorem load_any {w : World} {base d r s n z : Nat} {gen first : Int} {c t u : Nat} {K : List (List Int)} {a : Bool} {l : Int} {k : List Bool} {wr : Int} (hR : RingAt w base d r s n z (calmS z K a l k wr) ⟨gen, first, c, t, u⟩ (.slice none 0 0) [] []) (hn : 8 ≤ n ∧ n ≤ 16384) (hz : 64 ≤ z ∧ z ≤ 100000) (hs : s + n ≤ K.length) (hs2 : s ≤ 16384) (ht : t < n - 2) (hu : u ≤ n - 2) (hc : c ≤ u)
    (hK : ∀ q, q < n - 2 → (K.getD (s + 2 + q) []).length = z ∧ ∀ x ∈ K.getD (s + 2 + q) [], 0 ≤ x ∧ x < 256) {o : Option (List (List Int))} (ho : loadN (secF K s (n - 2) t) z u c 0 [] = o) :
    Calls Try.prog 80 #[.pointer (some ⟨r, 0, none⟩)] w (LoadPost w base d r s n z (calmS z K a l k wr) ⟨gen, first, c, t, u⟩ o) := by
  have ha : 0 < n - 2 := by omega
  have HKQ : Hid (∀ p, (secF K s (n - 2) t p).length = z ∧ ∀ x ∈ secF K s (n - 2) t p, 0 ≤ x ∧ x < 256) := Lib.hid (fun p => hK _ (Nat.mod_lt _ ha))
  have HSEC : Hid (∀ W lv, RingB W r d s n z ⟨gen, first, c, t, u⟩ lv → IsDisk W base d (calmS z K a l k wr) → ∀ p q : Nat, q = t + p → q ≤ 100000 → Calls Try.prog 114 #[.pointer (some ⟨r, 0, none⟩), .int .u64 q] W (SecPost W z (secF K s (n - 2) t p))) := Lib.hid (fun W lv hb hD p q hq hq2 => by
    subst hq
    have hh := hK ((t + p) % (n - 2)) (Nat.mod_lt _ ha)
    exact sector_any hD hb hn ⟨hz.1, by omega⟩ hs hs2 (x := t + p) (by omega) rfl rfl hh.2 hh.1)
  have HND : Hid (∀ W lv (x : Nat), RingB W r d s n z ⟨gen, first, c, t, u⟩ lv → x ≤ 4096 → Calls Try.prog 74 #[.pointer (some ⟨r, 0, none⟩), .int .i64 x] W (MovV W (.int .i64 (needN z x)))) := Lib.hid (fun W lv x hb hx => need_any hb ⟨by omega, by omega⟩ (by omega))
  have HNL : Hid (∀ x, x ≤ 4096 → needN z x ≤ 66 ∧ needN z x * z ≤ x + 4 + z ∧ 1 ≤ needN z x ∧ x + 4 ≤ needN z x * z) := Lib.hid (fun x hx => ⟨(needN_le hz.1 hx).1, (needN_le hz.1 hx).2, needN_pos (by omega), needN_room (by omega)⟩)
  have HI0 : Hid (LSt w base d r s n z (calmS z K a l k wr) ⟨gen, first, c, t, u⟩ (.slice none 0 0) [] [] w) := Lib.hid ⟨hR, Moves.refl _ _, fun k e => by cases e⟩
  generalize calmS z K a l k wr = D at HSEC HI0 ⊢
  generalize secF K s (n - 2) t = F at HKQ HSEC ho
  have HO := Lib.hid ho
  have HZ := Lib.hid hz
  have q0 : (t : Int) ≤ 16384 := by omega
  have q1 : (u : Int) ≤ 16384 := by omega
  have q2 : (c : Int) ≤ 16384 := by omega
  have q3 : (0 : Int) ≤ (t : Int) := by omega
  have q4 : (0 : Int) ≤ (u : Int) := by omega
  have q5 : (0 : Int) ≤ (c : Int) := by omega
  have HB : Hid (t ≤ 16384 ∧ u ≤ 16384 ∧ c ≤ 16384) := Lib.hid (by omega)
  have HQ : Hid (∀ b w', b = o.isSome → Moves (fun k => k = r) w w' → IsDisk w' base d D → (∀ L, o = some L → ∃ lv vals, LSt w base d r s n z D ⟨gen, first, c, t, u⟩ lv vals L w') → LoadPost w base d r s n z D ⟨gen, first, c, t, u⟩ o (.returned (.bool b)) w') := Lib.hid fun b w' h1 h2 h3 h4 => ⟨by rw [h1], h2, h3, h4⟩
  generalize LoadPost w base d r s n z D ⟨gen, first, c, t, u⟩ o = Q at HQ ⊢
  obtain ⟨i4, hi4, p0, p1, p2⟩ := info_parts infoBS
  have p3 : (Value.slice none 0 0).cells.size = 1 := rfl
  have p4 : (0 : Nat) < 1 := by decide
  obtain ⟨-, -, -, -, -, -, e2, e3, e4, e5⟩ := HI0.out.1.rb.cells
  clear hR hn hz hs hs2 ht hu hc hK ho ha
  go_enter Try.func80, Try.ntmps80
  go_wp2_with fail
  clear e2 e3 e4 e5
  go_loopg [3, 13] c (fun gg s3 s13 wr => ∃ (i p : Nat) (lv : Value) (vals : List Value) (L : List (List Int)), i ≤ c ∧ gg = c - i ∧ s13 = .int .u64 i ∧ s3 = .int .u64 p ∧ p ≤ u ∧ L.length = i ∧ loadN F z u (c - i) p L = o ∧ Hid (LSt w base d r s n z D ⟨gen, first, c, t, u⟩ lv vals L wr))
  case atStart => exact ⟨0, 0, _, [], [], Nat.zero_le _, rfl, rfl, rfl, Nat.zero_le _, rfl, HO.out, HI0⟩
  case round =>
    obtain ⟨wr0, rfl⟩ : ∃ x, x = wr := ⟨wr, rfl⟩
    obtain ⟨i, p, lv, vals, L, hi, hgg, rfl, rfl, hp, hli, hl, HI⟩ := hrel
    have HLI := Lib.hid hli
    clear hli
    have HL := Lib.hid hl
    clear hl
    have d0 : (0 : Int) ≤ (i : Int) := by omega
    have d1 : (0 : Int) ≤ (p : Int) := by omega
    have d2 : (p : Int) ≤ (u : Int) := by omega
    obtain ⟨-, -, -, -, -, -, e2, e3, e4, e5⟩ := HI.out.1.rb.cells
    by_cases hic : i < c
    · have d3 : (i : Int) < (c : Int) := by omega
      obtain ⟨c', hc'⟩ : ∃ c', c - i = c' + 1 := ⟨c - i - 1, by omega⟩
      by_cases hup : u ≤ p
      · have d4 : (u : Int) ≤ (p : Int) := by omega
        go_wp2
        refine HQ.out _ _ ?_ HI.out.2.1 HI.out.1.dk (fun L' hL' => ?_)
        · have h := HL.out
          rw [hc', loadN_stop hup] at h
          rw [← h]
          rfl
        · have h := HL.out
          rw [hc', loadN_stop hup, hL'] at h
          cases h
      · have d4 : ¬ (u : Int) ≤ (p : Int) := by omega
        have wtp : IntKind.u64.wrap ((t : Int) + (p : Int)) = (t : Int) + (p : Int) := IntWalk.u64_in _ (by omega)
        have HS1 := Lib.hid (HSEC.out wr0 lv HI.out.1.rb HI.out.1.dk p (t + p) rfl (by have := HB.out; omega))
        rw [Int.natCast_add] at HS1
        go_wp2_with fail
        refine HS1.out.mono ?_
        rintro e w5 ⟨g, rfl, hg, hrow, hm5⟩
        have HI5 := Lib.hid (HI.out.moves0 hm5)
        have HM5 := Lib.hid hm5
        have hk4 := HKQ.out p
        have HG := Lib.hid (get_ok hrow (p := 0) (n := 4) (by omega) (by omega) (by have := HZ.out; omega))
        obtain ⟨x, hx⟩ : ∃ x : Nat, getL (F p) 0 4 = x := ⟨(getL (F p) 0 4).toNat, by have := (getL_nonneg hk4.2 0 4).1; omega⟩
        have hx32 : (x : Int) < 4294967296 := by rw [← hx]; exact (getL_nonneg hk4.2 0 4).2
        rw [hx] at HG
        have HX := Lib.hid hx
        have HROW := Lib.hid hrow
        have HGL := Lib.hid hg
        clear hg hrow hm5 hk4 hx HS1 wtp e2 e3 e4 e5
        obtain ⟨-, -, -, -, -, -, e2, e3, e4, e5⟩ := HI5.out.1.rb.cells
        have x0 : (0 : Int) ≤ (x : Int) := by omega
        go_wp2_with fail
        refine HG.out.mono ?_
        rintro e w6 ⟨rfl, rfl⟩
        by_cases hx4 : 4096 < (x : Int)
        · go_wp2_with fail
          go_quiet (fail)
          go_wp2
          refine HQ.out _ _ ?_ (HI5.out.moves0 ((Moves.refl _ _).drewN _)).2.1 (HI5.out.moves0 ((Moves.refl _ _).drewN _)).1.dk (fun L' hL' => ?_)
          · have h := HL.out
            rw [hc', loadN_long hup (by rw [HX.out]; exact hx4)] at h
            rw [← h]
            rfl
          · have h := HL.out
            rw [hc', loadN_long hup (by rw [HX.out]; exact hx4), hL'] at h
            cases h
        · have hx5 : x ≤ 4096 := by omega
          have x1 : (x : Int) ≤ 4096 := by omega
          have xd : decide (4096 < (x : Int)) = false := decide_eq_false hx4
          have HN1 := Lib.hid (HNL.out x hx5)
          have HND1 : Hid (∀ W lv, RingB W r d s n z ⟨gen, first, c, t, u⟩ lv → Calls Try.prog 74 #[.pointer (some ⟨r, 0, none⟩), .int .i64 x] W (MovV W (.int .i64 (needN z x)))) := Lib.hid (fun W lv hb => HND.out W lv x hb hx5)
          have hwide : u - p < needN z x → loadN F z u (c' + 1) p L = none := fun h2 => loadN_wide hup HX.out hx4 h2
          have hnext : ¬ u - p < needN z x → loadN F z u (c' + 1) p L = loadN F z u c' (p + needN z x) (L ++ [((wholeN F p (needN z x)).drop 4).take x]) := fun h2 => loadN_next hup HX.out hx4 h2
          have HWD := Lib.hid hwide
          have HNX := Lib.hid hnext
          clear hwide hnext
          generalize hk : needN z x = k at HN1 HND1 HWD HNX
          clear hk
          have k0 : (0 : Int) ≤ (k : Int) := by omega
          have k1 : (k : Int) ≤ 66 := by have := HN1.out.1; omega
          have wk : IntKind.u64.wrap (k : Int) = (k : Int) := IntWalk.u64_in _ ⟨k0, Int.le_trans k1 (by decide)⟩
          have wup : IntKind.u64.wrap ((u : Int) - (p : Int)) = (u : Int) - (p : Int) := IntWalk.u64_in _ (by omega)
          have wx : wrap64 (x : Int) = (x : Int) := w64 (Int.le_trans (by decide) x0) (Int.le_trans x1 (by decide))
          have wx2 : IntKind.i64.wrap (x : Int) = (x : Int) := IntWalk.i64_in _ ⟨Int.le_trans (by decide) x0, Int.le_trans x1 (by decide)⟩
          have HWR : Hid (IntKind.u64.wrap (k : Int) = (k : Int) ∧ IntKind.u64.wrap ((u : Int) - (p : Int)) = (u : Int) - (p : Int) ∧ wrap64 (x : Int) = (x : Int) ∧ IntKind.i64.wrap (x : Int) = (x : Int)) := Lib.hid ⟨wk, wup, wx, wx2⟩
          have HNN : Hid (∀ w', KpS w5 w' → KpS w5 w' ∧ w'.cell? ⟨r, 8, none⟩ = some (.int .u64 u)) := Lib.hid (fun w' hk => ⟨hk, hk.cell HI5.out.1.rb.cells.2.2.2.2.2.2.2.2.1⟩)
          have hK0 := HNN.out _ (KpS.refl w5)
          have hK1 := HNN.out w5.drew (KpS.of (Moves.refl (fun _ => False) w5).drew)
          have HRB : Hid (RingB w5.drew r d s n z ⟨gen, first, c, t, u⟩ lv) := Lib.hid (HI5.out.1.rb.moves0 (Moves.refl (fun _ => False) w5).drew)
          go_wp2_with fail
          go_cut [52] from 14 to 95 (fun s52 wc => s52 = .bool (decide (u - p < k)) ∧ Hid (KpS w5 wc))
          case first =>
            go_region_held3 (fun w' => KpS w5 w' ∧ w'.cell? ⟨r, 8, none⟩ = some (.int .u64 u))
              (first | with_reducible exact hS' | with_reducible exact hK0 | with_reducible exact hK1 | assumption)
              (first
                | (go_at_call 74
                   refine (HND1.out _ _ HRB.out).mono ?_
                   rintro e w' ⟨rfl, hl⟩
                   have hS' := HNN.out w' (KpS.of ((Moves.refl (fun _ => False) w5).drew.trans hl)))
                | fail)
            all_goals
              go_wp2_with fail
              go_meet
              case rel =>
                clear wk wup wx wx2
                refine ⟨?_, Lib.hid (And.left hS')⟩
                have e : decide ((u : Int) - (p : Int) < (k : Int)) = decide (u - p < k) := decide_eq_decide.2 (by omega)
                rw [← e]
          case rest =>
            obtain ⟨rfl, HKC⟩ := hcut
            clear hK0 hK1 HNN HRB e2 e3 e4 e5 HG hx4 wk wup wx wx2
            have HMC : Hid (Moves (fun _ => False) wr0 wc) := Lib.hid (HM5.out.trans (KpS.moves HKC.out))
            have hlz : (F p).length = z := (HKQ.out p).1
            have HBB0 : Hid (BB wr0 wc (.slice (some ⟨g, 0, none⟩) z z) (wholeN F p 1)) := Lib.hid (by
              rw [wholeN_one]
              exact .inr ⟨g, by rw [hlz], HGL.out, HROW.out.moves (KpS.moves HKC.out) (fun _ _ _ e => e)⟩)
            clear hlz
            by_cases hkw : u - p < k
            · have hkd : decide (u - p < k) = true := decide_eq_true hkw
              rw [hkd]
              go_wp2
              refine HQ.out _ _ ?_ (HI5.out.moves0 (KpS.moves HKC.out)).2.1 (HI5.out.moves0 (KpS.moves HKC.out)).1.dk (fun L' hL' => ?_)
              · have h := HL.out
                rw [hc', HWD.out hkw] at h
                rw [← h]
                rfl
              · have h := HL.out
                rw [hc', HWD.out hkw, hL'] at h
                cases h
            · have hkd : decide (u - p < k) = false := decide_eq_false hkw
              rw [hkd]
              have HKP : Hid (p + k ≤ u) := Lib.hid (by omega)
              have HNX2 : Hid (loadN F z u c' (p + k) (L ++ [((wholeN F p k).drop 4).take x]) = o) := Lib.hid (by rw [← HNX.out hkw, ← hc']; exact HL.out)
              have HWL : Hid (∀ j, (wholeN F p j).length = j * z) := Lib.hid (fun j => wholeN_len (fun i _ => (HKQ.out (p + i)).1))
              have HWB : Hid (∀ j, ∀ x ∈ wholeN F p j, 0 ≤ x ∧ x < 256) := Lib.hid (fun j y hy => by
                unfold wholeN at hy
                obtain ⟨q, -, hq⟩ := List.mem_flatMap.1 hy
                exact (HKQ.out (p + q)).2 y hq)
              clear hkd hkw
              have HPK : Hid (c - i = c' + 1 ∧ i < c) := Lib.hid ⟨hc', hic⟩
              go_wp2_with fail
              go_loopg [4, 7] k (fun gg s4 s7 wq => ∃ (j : Nat) (v : Value), 1 ≤ j ∧ j ≤ k ∧ gg = k + 1 - j ∧ v = s4 ∧ s7 = .int .i64 j ∧ Hid (BB wr0 wq v (wholeN F p j) ∧ Moves (fun _ => False) wr0 wq))
              case atStart => exact ⟨1, _, Nat.le_refl _, HN1.out.2.2.1, rfl, rfl, rfl, Lib.hid ⟨HBB0.out, HMC.out⟩⟩
              case round =>
                obtain ⟨j, v, hj1, hjk, hgk, rfl, rfl, HJ⟩ := hrel
                have j0 : (0 : Int) ≤ (j : Int) := by omega
                have HRW := Lib.hid ((HI.out.moves0 HJ.out.2).1.rb)
                by_cases hjl : j < k
                · have j1 : (j : Int) < (k : Int) := by omega
                  have HJK := Lib.hid hjl
                  have HJZ : Hid (j * z + z ≤ 1000000) := Lib.hid (jz_le hjl HN1.out.2.1 hx5 HZ.out.2)
                  clear hjl
                  have HB7 : Hid (t + p + j = t + (p + j) ∧ t + p + j ≤ 100000) := Lib.hid ⟨Nat.add_assoc _ _ _, tpj_nat HB.out.1 HB.out.2.1 hp HJK.out HN1.out.1⟩
                  have HGK := Lib.hid hgk
                  clear hgk
                  have wj : IntKind.u64.wrap (j : Int) = (j : Int) := IntWalk.u64_in _ ⟨j0, Int.le_trans (Int.le_of_lt j1) (Int.le_trans k1 (by decide))⟩
                  have wtp : IntKind.u64.wrap ((t : Int) + (p : Int)) = (t : Int) + (p : Int) := IntWalk.u64_in _ (tp_in q3 d1 q0 q1 d2)
                  have wtpj : IntKind.u64.wrap ((t : Int) + (p : Int) + (j : Int)) = (t : Int) + (p : Int) + (j : Int) := IntWalk.u64_in _ (tpj_in q3 d1 j0 q0 q1 d2 j1 k1)
                  go_wp2_with fail
                  refine (HND1.out _ _ HRW.out).mono ?_
                  rintro e w6 ⟨rfl, hm6⟩
                  obtain ⟨-, -, -, -, -, -, e2, e3, e4, e5⟩ := (HRW.out.moves0 hm6).cells
                  have HS7 := HSEC.out w6 lv (HRW.out.moves0 hm6) ((HI.out.moves0 (HJ.out.2.trans hm6)).1.dk) (p + j) (t + p + j) HB7.out.1 HB7.out.2
                  rw [Int.natCast_add, Int.natCast_add] at HS7
                  have HS7 := Lib.hid HS7
                  have HM6 := Lib.hid hm6
                  clear hm6
                  go_wp2_with fail
                  refine HS7.out.mono ?_
                  rintro e w7 ⟨g7, rfl, hg7, hrow7, hm7⟩
                  have HROW7 := Lib.hid hrow7
                  have HM7 := Lib.hid (HJ.out.2.trans (HM6.out.trans hm7))
                  have HMW7 := Lib.hid (HM6.out.trans hm7)
                  clear hg7 hrow7 hm7 e2 e3 e4 e5 wj wtp wtpj
                  rcases HJ.out.1 with hob | ⟨gf, rfl, hgf, hfull⟩
                  · have HOB := Lib.hid (hob.moves HMW7.out)
                    clear hob
                    go_wp2_with (first
                      | (refine wpList_appB (w0 := wr0) (bs := wholeN F p j) (ys := F (p + j)) rfl (.tmp 61) (.tmp 73) rfl (by rfl) (by rfl) HOB.out HROW7.out HM7.out ?_ ?_
                         focus (have h1 := HWL.out j; have h2 := (HKQ.out (p + j)).1; have h3 := HJZ.out; omega)
                         intro v8 w8 h8
                         rw [← wholeN_succ] at h8
                         have H8 := Lib.hid h8
                         clear h8)
                      | fail)
                    go_roundg (k + 1 - (j + 1))
                    case measure => have := HGK.out; have := HJK.out; omega
                    case rel => exact ⟨j + 1, v8, by omega, by have := HJK.out; omega, rfl, rfl, by go_num, Lib.hid ⟨.inl H8.out.ob, H8.out.mv⟩⟩
                  · have HFU := Lib.hid (hfull.moves HMW7.out (fun _ _ _ e => e))
                    clear hfull
                    go_wp2_with (first
                      | (refine wpList_appFull (w0 := wr0) (bs := wholeN F p j) (ys := F (p + j)) rfl (.tmp 61) (.tmp 73) rfl (by rfl) (by rfl) HFU.out HROW7.out HM7.out ?_ ?_ ?_
                         focus (have h := (HKQ.out (p + j)).1; have := HZ.out; omega)
                         focus (have h1 := HWL.out j; have h2 := (HKQ.out (p + j)).1; have h3 := HJZ.out; omega)
                         intro v8 w8 h8
                         rw [← wholeN_succ] at h8
                         have H8 := Lib.hid h8
                         clear h8)
                      | fail)
                    go_roundg (k + 1 - (j + 1))
                    case measure => have := HGK.out; have := HJK.out; omega
                    case rel => exact ⟨j + 1, v8, by omega, by have := HJK.out; omega, rfl, rfl, by go_num, Lib.hid ⟨.inl H8.out.ob, H8.out.mv⟩⟩
                · have j1 : ¬ (j : Int) < (k : Int) := by omega
                  obtain rfl : j = k := by omega
                  have HLEN := Lib.hid (HWL.out j)
                  have hrow := HJ.out.1.row (HWB.out j) (by rw [HWL.out j]; have := HN1.out.2.1; have := HZ.out; omega)
                  obtain ⟨⟨A, cb, rfl, hcb, hxb⟩, hby, hbl⟩ := hrow
                  rw [List.length_map, HWL.out j] at hcb hxb HJ ⊢
                  obtain ⟨gb, ob, rfl, hgb, hgbl, hcellb⟩ := hxb (by have := HN1.out.2.2.2; omega)
                  have HCELL := Lib.hid hcellb
                  have HCB := Lib.hid hcb
                  have HGB : Hid (wr0.heap.size ≤ gb ∧ gb < wr.heap.size) := Lib.hid ⟨hgb, hgbl⟩
                  have s1 : (4 : Int) ≤ 4 + (x : Int) := by omega
                  have s2 : 4 + (x : Int) ≤ (cb : Int) := by have := HN1.out.2.2.2; omega
                  have s3 : IntKind.u64.wrap (4 + (x : Int)) = 4 + (x : Int) := IntWalk.u64_in _ (by omega)
                  have hRA := (HI.out.moves0 HJ.out.2)
                  have HRA := Lib.hid hRA
                  have e9 := hRA.1.rb.cells.2.2.2.2.2.2.2.2.2
                  have f9 := hRA.1.rb.fr 9
                  clear hRA hby hbl hcellb hgb hgbl hxb hcb hjk hgk hj1 j1 hjl
                  go_wp2_with fail
                  refine (HND1.out _ _ HRW.out).mono ?_
                  rintro e w6 ⟨rfl, hm6⟩
                  have e10 := (HRW.out.moves0 hm6).cells.2.2.2.2.2.2.2.2.2
                  have f10 := (HRW.out.moves0 hm6).fr 9
                  have HM6 := Lib.hid hm6
                  clear hm6 e9 f9
                  go_wp2_with fail
                  have HR6 := Lib.hid (HRA.out.moves0 HM6.out)
                  obtain ⟨Al, cl, rfl, -, -, -, -, -⟩ := own_form HRA.out.1.own
                  have HK : Hid (w6.ownsRow base 55 1 (.slice Al vals.length cl) vals.length vals) := Lib.hid HR6.out.1.own
                  have h63 : Hid (vals.length + 1 ≤ maxLen ∧ (vals.length + 1) * 24 ≤ 140737488355328) := Lib.hid (by have h1 := HR6.out.1.len; have h2 := HPK.out; have h3 := HB.out; rw [h1, HLI.out]; unfold maxLen; omega)
                  have hbs : Hid (∀ o, base ≤ (w6.alloc o).heap.size) := Lib.hid (fun o => by have h1 := HR6.out.1.hr; have h2 := lt_of_block HR6.out.1.rb; simp; omega)
                  have sx : (4 + (x : Int)).toNat = 4 + x := by omega
                  have sc : ¬ cb = 4 := by have h1 := HN1.out.2.2.1; have h2 := HZ.out; have h3 : 1 * z ≤ j * z := Nat.mul_le_mul_right z h1; have h4 := HCB.out; omega
                  have HRL := Lib.hid (lt_of_block HR6.out.1.rb)
                  have HNR := Lib.hid HR6.out.1.nr
                  have e10a := (World.cell?_alloc_lt w6 (.cells #[.slice (some ⟨gb, ob + 4, none⟩) x (cb - 4)] 55) ⟨r, 9, none⟩ HRL.out).trans e10
                  go_region_law (first
                    | (refine step_append_src _ rfl (.tmp 79) (.tmp 84) 71 rfl base 55 i4 _ 1 24 Try.underlying71 hi4 p0 p1 p2 p3 p4 (.slice Al vals.length cl) vals.length vals rfl (HK.out.alloc _) (some ⟨w6.heap.size, 0, none⟩) 1 1 [.slice (some ⟨gb, ob + 4, none⟩) x (cb - 4)] rfl (by rfl) (fun _ => ⟨_, rfl, World.news_of_block (cs := #[.slice (some ⟨gb, ob + 4, none⟩) x (cb - 4)]) (t := 55) (fr := (0, 0)) (heap_alloc_new _ _)⟩) (by simp [Value.oneCell']) h63.out.1 h63.out.2 (hbs.out _) ?_
                       intro v1 w8 hn8 hg8 hl8
                       have hb8 := hg8.block r (by simp; have := HRL.out; omega) (fun e => HNR.out e.symm)
                       have e11 : w8.cell? ⟨r, 9, none⟩ = some (.slice Al vals.length cl) := (World.cell?_of_block hb8).trans ((World.cell?_alloc_lt _ _ ⟨r, 9, none⟩ HRL.out).trans e10)
                       have f11 : w8.frozen? ⟨r, 9, none⟩ = false := (World.frozen?_of_block hb8).trans ((World.frozen?_of_block (Below.heap_alloc _ _ _ HRL.out)).trans f10)
                       obtain ⟨A1, c1, rfl, -, -, -, -, -⟩ := own_form hn8)
                    | fail)
                  all_goals
                    have hmD : Moves (fun _ => False) w6 (w6.alloc (.cells #[.slice (some ⟨gb, ob + 4, none⟩) x (cb - 4)] 55)).drew := ((Moves.refl _ w6).alloc _).drew
                    have hmW : Moves (fun _ => False) wr (w6.alloc (.cells #[.slice (some ⟨gb, ob + 4, none⟩) x (cb - 4)] 55)).drew := HM6.out.trans hmD
                    have hRD := HR6.out.1.moves0 hmD
                    have hbs2 := HWL.out j
                    have hrec := sub_row (w := (w6.alloc (.cells #[.slice (some ⟨gb, ob + 4, none⟩) x (cb - 4)] 55)).drew) (gb := gb) (ob := ob) (cb := cb) (x := x) (bs := wholeN F p j) (fun q u hu => (hmW.cell (p := ⟨gb, ob + q, none⟩) HGB.out.2 (fun e => e)).trans (HCELL.out q u hu)) (by have h1 := hmW.size; have h2 := HGB.out.2; omega) (by rw [hbs2]; have h1 := HN1.out.2.2.2; omega) (by rw [hbs2]; exact HCB.out) (HWB.out j) (by rw [hbs2]; have h1 := HN1.out.2.1; have h2 := HZ.out; omega) (P := fun g => ¬ ROwn (w6.alloc (.cells #[.slice (some ⟨gb, ob + 4, none⟩) x (cb - 4)] 55)).drew r d (.slice Al vals.length cl) g) (fun e => by
                      have h1 := HI.out.1.lt (rown0 HI.out.1 (HJ.out.2.trans hmW) e)
                      have h2 := HGB.out.1
                      omega)
                    have hp := hRD.push hrec rfl hn8 hg8 (hl8.imp id (fun e => ⟨_, e, Nat.le_refl _⟩))
                    have hmm : Moves (fun k => k = r) w (w8.setCell ⟨r, 9, none⟩ (.slice A1 (vals.length + 1) c1)) := (HR6.out.2.1.trans (hmD.none _)).andThen hp.2.2 (fun k e hk => by
                      rcases e with e | e
                      · exact e
                      · have := HR6.out.2.2 k e; omega)
                    have how : ∀ k, (Value.slice A1 (vals.length + 1) c1).ownBlock = some k → w.heap.size ≤ k := fun k e => by
                      rcases hl8 with q | q
                      · rw [q] at e; exact HR6.out.2.2 k e
                      · rw [q] at e
                        injection e with e
                        have h1 := HR6.out.2.1.size
                        have h2 := hmD.size
                        omega
                    have HPP : Hid (LSt w base d r s n z D ⟨gen, first, c, t, u⟩ (.slice A1 (vals.length + 1) c1) (vals ++ [.slice (some ⟨gb, ob + 4, none⟩) x (cb - 4)]) (L ++ [((wholeN F p j).drop 4).take x]) (w8.setCell ⟨r, 9, none⟩ (.slice A1 (vals.length + 1) c1))) := Lib.hid ⟨hp.1, hmm, how⟩
                    clear hmD hmW hRD hbs2 hrec hp hmm how hn8 hg8 hl8 hb8 e11 f11 e10 e10a f10 sx sc s1 s2 s3
                    have wpk : IntKind.u64.wrap ((p : Int) + (j : Int)) = (p : Int) + (j : Int) := IntWalk.u64_in _ (pk_in HKP.out HB.out.2.1)
                    go_wp2_with fail
                    refine (HND1.out _ _ HPP.out.1.rb).mono ?_
                    rintro e w9 ⟨rfl, hm9⟩
                    have HM9 := Lib.hid hm9
                    clear hm9
                    go_wp2_with fail
                    go_roundg (c - (i + 1))
                    case measure => have := HPK.out; omega
                    case rel =>
                      clear wpk
                      have h1 := HPK.out
                      have h2 : c - (i + 1) = c' := by omega
                      exact ⟨i + 1, p + j, _, _, L ++ [((wholeN F p j).drop 4).take x], by omega, rfl, by go_num, by go_num, HKP.out, by rw [List.length_append, HLI.out]; rfl, by rw [h2]; exact HNX2.out, Lib.hid (HPP.out.moves0 HM9.out)⟩
    · have d3 : ¬ (i : Int) < (c : Int) := by omega
      obtain rfl : i = c := by omega
      go_wp2
      have h := HL.out
      rw [Nat.sub_self] at h
      unfold loadN at h
      refine HQ.out _ _ ?_ HI.out.2.1 HI.out.1.dk (fun L' hL' => ?_)
      · rw [← h]
        by_cases hpu : p = u
        · rw [if_pos hpu]; simp [hpu]
        · rw [if_neg hpu]
          have : ¬ (p : Int) = (u : Int) := by omega
          simp [this]
      · rw [hL'] at h
        by_cases hpu : p = u
        · rw [if_pos hpu] at h; cases h; exact ⟨lv, vals, HI.out⟩
        · rw [if_neg hpu] at h; cases h
end Go.Proofs.Ytnagpianaghjeaa.Rg
