/-
  The walk of KeySets: any keys added and removed.
-/
import Derived.Test.YtmennobdgfgjaaaKeySetsRegs
import Derived.Test.YtmennobdgfgjaaaKeyLawRow
import Derived.Test.YtmennobdgfgjaaaKeySteps
import Derived.Test.YtmennobdgfgjaaaKeyKnown
import Derived.Test.YtmennobdgfgjaaaKeysSortWalk
namespace Go.Proofs.Ytmennobdgfgjaaa
open Go Go.RowKit Go.Maps Go.Sort Go.Proofs

/-- Where a key was found last. -/
def FoundAt (M : List Pr) (x : Pr) (h : Nat) (s : Value) : Prop :=
  (s = .int .i64 (-1) ∧ ∀ t (ht : t < M.length), t < h → M[t] ≠ x) ∨ ∃ t : Nat, ∃ ht : t < M.length, M[t] = x ∧ s = .int .i64 t
theorem found_succ {M : List Pr} {x : Pr} {h : Nat} (hh : h < M.length) {s : Value} (hf : FoundAt M x h s) (hne : M[h] ≠ x) : FoundAt M x (h + 1) s := by
  rcases hf with ⟨h1, h2⟩ | h1
  · refine .inl ⟨h1, fun t ht hlt => ?_⟩
    by_cases e : t = h
    · subst e; exact hne
    · exact h2 t ht (by omega)
  · exact .inr h1
theorem own_apart {w : World} {base p n b : Nat} {v : Value} {M : List Pr} {xs : List Value} (hS : SetAt w b p M) (h : w.ownsRow base 52 2 v n xs) : ∀ g, v.ownBlock = some g → ¬ SetOwn w p g := fun g hg => by
  obtain ⟨cur, hc⟩ := own_block h hg
  exact hS.apart hc (by decide)
theorem mem_take_succ {M : List Pr} {x : Pr} {h : Nat} (hh : h < M.length) : decide (x ∈ M.take (h + 1)) = (decide (x ∈ M.take h) || decide (M[h] = x)) := by
  rw [List.take_succ_eq_append_getElem hh, Bool.eq_iff_iff]
  simp only [decide_eq_true_eq, List.mem_append, List.mem_singleton, Bool.or_eq_true]
  exact or_congr Iff.rfl ⟨Eq.symm, Eq.symm⟩
theorem KP.trans {a b c : World} (h : KP a b) (k : KP b c) : KP a c := KP.of (h.moves.trans k.moves)

set_option maxRecDepth 100000 in
set_option maxHeartbeats 8000000 in
theorem keys_sets (w : World) {v : Value} {l : List StepD} {k : Pr} (hl : Steps w v l) (hk : wf2 k) : Calls Try.prog 8 #[v, encK k] w (TruePost w) := by
  obtain ⟨A, c, rfl, hc, hx⟩ := hl
  obtain ⟨k1, k2⟩ := k
  by_cases h1 : 40 < l.length
  · have e1 : (40 : Int) < l.length := by omega
    clear hx
    go_enter Try.func8, Try.ntmps8
    go_wp2_with fail
    refine (key_known _).mono ?_
    rintro e w1 ⟨rfl, hM⟩
    have HM := Lib.hid (((Moves.refl (fun _ => False) w).alloc (.cells #[.int .i64 k1, .int .i64 k2] 49)).trans hM)
    clear hM
    go_wp2
    go_ret
    exact ⟨rfl, HM.out⟩
  have e1 : ¬ (40 : Int) < l.length := by omega
  have h40 : l.length ≤ 40 := by omega
  clear h1
  have HWF := Lib.hid hk
  have HX := Lib.hid hx
  clear hx hk
  obtain ⟨i4, hi4, hq0, hq1, hq2⟩ := info_parts infoR
  have hq3 : (Value.agg #[.int .i64 0, .int .i64 0]).cells.size = 2 := rfl
  have hq4 : (0 : Nat) < 2 := by decide
  go_enter Try.func8, Try.ntmps8
  go_wp2_with fail
  refine (key_known _).mono ?_
  rintro e w1 ⟨rfl, hM⟩
  have hkb : w1.heap[w.heap.size]? = some (.cells #[.int .i64 k1, .int .i64 k2] 49 (0, 0)) := (hM.block w.heap.size (by simp) (fun h => h)).trans (heap_alloc_new w _)
  have hM1 := ((Moves.refl (fun _ => False) w).alloc (.cells #[.int .i64 k1, .int .i64 k2] 49)).trans hM
  clear hM
  go_wp2_with fail
  have hS : SetAt (w1.alloc (.cells #[.map none] 62)) w.heap.size w1.heap.size [] := ⟨_, heap_alloc_new w1 _, hM1.size, .inl ⟨rfl, rfl⟩⟩
  have hkb2 := (heap_alloc_old w1 (.cells #[.map none] 62) w.heap.size (Array.getElem?_eq_some_iff.1 hkb).1).trans hkb
  have hM2 := hM1.alloc (.cells #[.map none] 62)
  obtain ⟨kb, hkbe⟩ : ∃ kb, w.heap.size = kb := ⟨_, rfl⟩
  simp only [hkbe] at hkb2 ⊢
  clear hkb hkbe hM1
  generalize hpe : w1.heap.size = p at hS ⊢
  clear hpe
  generalize w1.alloc (.cells #[.map none] 62) = W2 at hS hkb2 hM2 ⊢
  go_wp2_with fail
  go_loopg [6, 7] l.length (fun g s6 s7 wr => ∃ (i : Nat) (M : List Pr), i ≤ l.length ∧ g = l.length - i ∧ s7 = .int .i64 i ∧ M.length ≤ 40 * i ∧ M.Nodup ∧ wr.ownsRow w.heap.size 52 2 s6 M.length (cellsP M) ∧ SetAt wr w.heap.size p M ∧ wr.heap[kb]? = some (.cells #[.int .i64 k1, .int .i64 k2] 49 (0, 0)) ∧ Moves (fun _ => False) w wr)
  case atStart => exact ⟨0, [], Nat.zero_le _, rfl, rfl, by simp, List.nodup_nil, World.ownsRow_nil _ _ _ _, hS, hkb2, hM2⟩
  case round =>
    clear hS hkb2 hM2
    obtain ⟨i, M, hi, hg, rfl, hMl, hMn, hown, hS, hkb, hm⟩ := hrel
    obtain ⟨wo, rfl⟩ : ∃ x, x = wr := ⟨wr, rfl⟩
    by_cases hil : i < l.length
    · obtain ⟨g, o, rfl, hgl, hst⟩ := HX.out (by omega)
      have hat := hst i hil
      clear hst
      generalize l[i] = a at hat
      obtain ⟨op, lv, ks⟩ := a
      have hwk := Lib.hid hat.wk
      have hro := Lib.hid hat.row
      have HC : Hid (∀ W, Moves (fun _ => False) w W → W.cell? ⟨g, o + i * 2, none⟩ = some (.int .i64 op) ∧ W.cell? ⟨g, o + i * 2 + 1, none⟩ = some lv) := Lib.hid (fun W h => ⟨(h.cell (p := ⟨g, o + i * 2, none⟩) hgl (fun h => h)).trans hat.op, (h.cell (p := ⟨g, o + i * 2 + 1, none⟩) hgl (fun h => h)).trans hat.lv⟩)
      clear hat
      obtain ⟨Al, cl, hlv, hcl, hxl⟩ := hro.out
      simp only at hlv
      subst hlv
      have HXL := Lib.hid hxl
      obtain ⟨c0, c1⟩ := HC.out _ hm
      have b0 : (0 : Int) ≤ (i : Int) := by omega
      have b1 : (i : Int) < (l.length : Int) := by omega
      clear hxl
      by_cases hk40 : 40 < ks.length
      · have e2 : (40 : Int) < ks.length := by omega
        have HM := Lib.hid hm
        clear hown hS hkb hm
        go_wp2
        go_ret
        exact ⟨rfl, HM.out⟩
      have e2 : ¬ (40 : Int) < ks.length := by omega
      have hk40' : ks.length ≤ 40 := by omega
      have HOWN := Lib.hid hown
      have HSET := Lib.hid hS
      have HKB := Lib.hid hkb
      have HM := Lib.hid hm
      have HMN := Lib.hid hMn
      clear hk40 hown hS hkb hm hMn
      go_wp2_with fail
      go_loopg [6, 8, 9] ks.length (fun g s6 s8 s9 wr => ∃ (j : Nat) (M' : List Pr), j ≤ ks.length ∧ g = ks.length - j ∧ s9 = .int .i64 j ∧ stepL op M (ks.take j) = M' ∧ s8 = .int .i64 (cntZ op M M') ∧ wr.ownsRow w.heap.size 52 2 s6 M'.length (cellsP M') ∧ KP wo wr)
      case atStart => exact ⟨0, M, Nat.zero_le _, rfl, rfl, by simp [stepL, addL, delL], by simp [cntZ], HOWN.out, KP.of (Moves.refl _ _)⟩
      case round =>
        obtain ⟨j, M', hj, hgj, rfl, hM', rfl, hown', hK⟩ := hrel
        obtain ⟨wi, rfl⟩ : ∃ x, x = wr := ⟨wr, rfl⟩
        have hmi := HM.out.trans hK.moves
        have hMn' : M'.Nodup := by rw [← hM']; exact stepL_nodup HMN.out _
        have hMl' : M'.length ≤ 1700 := by
          have := stepL_len op M (ks.take j)
          rw [hM'] at this
          simp at this
          omega
        have HMN' := Lib.hid hMn'
        clear hMn' c0 c1
        obtain ⟨c0, c1⟩ := HC.out _ hmi
        have HMI := Lib.hid hmi
        have HKI := Lib.hid hK
        clear hmi hK
        by_cases hjk : j < ks.length
        · have HST := Lib.hid (stepL_succ op M hjk)
          rw [hM'] at HST
          obtain ⟨gl, ol, rfl, hgl1, hgl2, hcell⟩ := HXL.out (by omega)
          have hv0 : wi.cell? ⟨gl, ol + j * 2, none⟩ = some (.int .i64 ks[j].1) := (HMI.out.cell (p := ⟨gl, ol + j * 2, none⟩) hgl2 (fun h => h)).trans (hcell _ _ (cellsP_get hjk).1)
          have hv1 : wi.cell? ⟨gl, ol + j * 2 + 1, none⟩ = some (.int .i64 ks[j].2) := (HMI.out.cell (p := ⟨gl, ol + j * 2 + 1, none⟩) hgl2 (fun h => h)).trans (hcell _ _ (cellsP_get hjk).2)
          clear hcell
          generalize ks[j] = x at hv0 hv1 HST
          obtain ⟨x1, x2⟩ := x
          have b2 : (0 : Int) ≤ (j : Int) := by omega
          have b3 : (j : Int) < (ks.length : Int) := by omega
          obtain ⟨A6, c6, rfl, hc6, -, -, -, hx6⟩ := own_form hown'
          have HOWN' := Lib.hid hown'
          have HX6 := Lib.hid hx6
          have hz1 : -2000 ≤ cntZ op M M' ∧ cntZ op M M' ≤ 2000 := by unfold cntZ; split <;> omega
          have HCZ : Hid (cntZ op M M' = cntZ op M M') := Lib.hid rfl
          generalize hcz : cntZ op M M' = z at hz1 ⊢
          have HZ := Lib.hid hcz
          have hzw : IntKind.i64.wrap (z + 1) = z + 1 := IntWalk.i64_in _ (by omega)
          clear hown' hM' hx6 hz1 hcz HCZ
          go_wp2_with fail
          refine (of_any (x1, x2) _).mono ?_
          rintro e w2 ⟨rfl, hm2⟩
          have HM2 := Lib.hid hm2
          clear hv0 hv1 hm2 c0 c1
          go_wp2_with fail
          have hxc := cell2 w2 (.int .i64 x1) (.int .i64 x2) 52
          have hxl : w2.heap.size < (w2.alloc (.cells #[.int .i64 x1, .int .i64 x2] 52)).heap.size := by simp
          have HWK : Hid (KP wi (w2.alloc (.cells #[.int .i64 x1, .int .i64 x2] 52))) := Lib.hid (KP.of (HM2.out.alloc _))
          generalize w2.heap.size = xb at hxc hxl ⊢
          generalize w2.alloc (.cells #[.int .i64 x1, .int .i64 x2] 52) = W at hxc hxl HWK ⊢
          clear HM2
          have HXC := Lib.hid hxc
          clear hxc
          go_loopg [11, 12] M'.length (fun g s11 s12 wr => ∃ h : Nat, h ≤ M'.length ∧ g = M'.length - h ∧ s12 = .int .i64 h ∧ FoundAt M' (x1, x2) h s11 ∧ KP W wr)
          case atStart => exact ⟨0, Nat.zero_le _, rfl, rfl, .inl ⟨rfl, fun t ht h => by omega⟩, KP.of (Moves.refl _ _)⟩
          case round =>
            obtain ⟨h, hh, hgh, rfl, hf, hKW⟩ := hrel
            obtain ⟨wy, rfl⟩ : ∃ x, x = wr := ⟨wr, rfl⟩
            by_cases hhl : h < M'.length
            · obtain ⟨g6, rfl, -, hgl6, hcell6⟩ := HX6.out (by omega)
              have HG : Hid (∀ w', KP W w' → KP W w' ∧ (w'.cell? ⟨g6, h * 2, none⟩ = some (.int .i64 M'[h].1) ∧ w'.cell? ⟨g6, h * 2 + 1, none⟩ = some (.int .i64 M'[h].2)) ∧ (w'.cell? ⟨xb, 0, none⟩ = some (.int .i64 x1) ∧ w'.cell? ⟨xb, 1, none⟩ = some (.int .i64 x2))) := Lib.hid (fun w' hk => by
                have h0 := hk.moves
                have h1 := HWK.out.moves.trans h0
                exact ⟨hk, ⟨(h1.cell (p := ⟨g6, h * 2, none⟩) hgl6 (fun h => h)).trans (hcell6 _ _ (cellsP_get hhl).1), (h1.cell (p := ⟨g6, h * 2 + 1, none⟩) hgl6 (fun h => h)).trans (hcell6 _ _ (cellsP_get hhl).2)⟩, (h0.cell (p := ⟨xb, 0, none⟩) hxl (fun h => h)).trans HXC.out.1, (h0.cell (p := ⟨xb, 1, none⟩) hxl (fun h => h)).trans HXC.out.2⟩)
              have HZ2 := Lib.hid (HG.out _ hKW)
              have HMISS := Lib.hid (fun hne => found_succ hhl hf hne)
              have HHIT : Hid (M'[h] = (x1, x2) → FoundAt M' (x1, x2) (h + 1) (.int .i64 h)) := Lib.hid (fun e => .inr ⟨h, hhl, e, rfl⟩)
              have hb4 : (0 : Int) ≤ (h : Int) := by omega
              have hb5 : (h : Int) < (M'.length : Int) := by omega
              have hzw' := hzw
              clear hcell6 hf hKW hzw
              generalize M'[h] = y at HG HZ2 HMISS HHIT
              by_cases e : y = (x1, x2)
              · subst e
                have RQ := fun W => refcmp_any (p := (x1, x2)) (q := (x1, x2)) (c := 0) ((cmpK_zero _ _).2 rfl) W
                have HF := Lib.hid (HHIT.out rfl)
                clear HMISS HHIT
                go_wp2_with fail
                go_region_held3 (fun w' => KP W w' ∧ (w'.cell? ⟨g6, h * 2, none⟩ = some (.int .i64 x1) ∧ w'.cell? ⟨g6, h * 2 + 1, none⟩ = some (.int .i64 x2)) ∧ (w'.cell? ⟨xb, 0, none⟩ = some (.int .i64 x1) ∧ w'.cell? ⟨xb, 1, none⟩ = some (.int .i64 x2))) (first | exact hS' | exact HZ2.out | assumption | go_keep)
                  (first | (go_at_call 26; refine (RQ _).mono ?_; rintro e w' ⟨rfl, hl⟩; have hS' := HG.out _ (KP.of ((KP.moves (And.left (by assumption))).trans (hl.moves _)))) | fail)
                go_wp2_with fail
                go_roundg (M'.length - (h + 1))
                case measure => omega
                case rel => exact ⟨h + 1, by omega, rfl, by go_num, HF.out, And.left (by assumption)⟩
              · have hne : cmpK y (x1, x2) ≠ 0 := fun h => e ((cmpK_zero _ _).1 h)
                have HF := Lib.hid (HMISS.out e)
                obtain ⟨y1, y2⟩ := y
                have RQ := fun W => refcmp_any (p := (y1, y2)) (q := (x1, x2)) rfl W
                generalize cmpK (y1, y2) (x1, x2) = cc at hne RQ
                have hcc : (cc == 0) = false := by simpa using hne
                clear HMISS HHIT e
                go_wp2_with fail
                go_region_held3 (fun w' => KP W w' ∧ (w'.cell? ⟨g6, h * 2, none⟩ = some (.int .i64 y1) ∧ w'.cell? ⟨g6, h * 2 + 1, none⟩ = some (.int .i64 y2)) ∧ (w'.cell? ⟨xb, 0, none⟩ = some (.int .i64 x1) ∧ w'.cell? ⟨xb, 1, none⟩ = some (.int .i64 x2))) (first | exact hS' | exact HZ2.out | assumption | go_keep)
                  (first | (go_at_call 26; refine (RQ _).mono ?_; rintro e w' ⟨rfl, hl⟩; have hS' := HG.out _ (KP.of ((KP.moves (And.left (by assumption))).trans (hl.moves _)))) | fail)
                go_wp2_with fail
                go_roundg (M'.length - (h + 1))
                case measure => omega
                case rel => exact ⟨h + 1, by omega, rfl, by go_num, HF.out, And.left (by assumption)⟩
            · obtain rfl : h = M'.length := by omega
              have hky := KP.trans HWK.out hKW
              have HKY := Lib.hid hky
              have HOY := Lib.hid (own_moves HOWN'.out hky.moves (fun _ _ h => h))
              obtain ⟨c0, c1⟩ := HC.out _ (HMI.out.trans hky.moves)
              have hxy : wy.cell? ⟨xb, 0, none⟩ = some (.int .i64 x1) ∧ wy.cell? ⟨xb, 1, none⟩ = some (.int .i64 x2) := ⟨(hKW.moves.cell (p := ⟨xb, 0, none⟩) hxl (fun h => h)).trans HXC.out.1, (hKW.moves.cell (p := ⟨xb, 1, none⟩) hxl (fun h => h)).trans HXC.out.2⟩
              have HXY := Lib.hid hxy
              have hxl2 := Nat.lt_of_lt_of_le hxl hKW.moves.size
              clear hxl hKW hky hxy hh
              by_cases hop : op = 1
              · subst hop
                rcases hf with ⟨rfl, hno⟩ | ⟨t, ht, e, rfl⟩
                · have hnm : (x1, x2) ∉ M' := fun hm => by
                    obtain ⟨t, ht, e⟩ := List.getElem_of_mem hm
                    exact hno t ht ht e
                  have HNM := Lib.hid hnm
                  clear hno hnm
                  have HFIN : Hid (stepL 1 M (ks.take (j + 1)) = M' ++ [(x1, x2)] ∧ cntZ 1 M (M' ++ [(x1, x2)]) = z + 1) := Lib.hid ⟨by rw [HST.out, if_pos rfl]; unfold addM; rw [if_neg HNM.out], by rw [← HZ.out]; unfold cntZ; rw [if_pos rfl, if_pos rfl]; simp; omega⟩
                  clear HST HZ
                  go_wp2_with fail
                  refine sets24 (by kernel_rfl) HOY.out rfl hc6 (by omega) HXY.out hxl2 ?_
                  intro u77 u78 u79 u80 u81 u82 v6 w5 ho5 hm5
                  have hk5 := HKY.out.trans (KP.of hm5)
                  have HK5 := Lib.hid (HKI.out.trans hk5)
                  clear c0 c1
                  obtain ⟨c0, c1⟩ := HC.out _ (HMI.out.trans hk5.moves)
                  have HO5 : Hid (w5.ownsRow w.heap.size 52 2 v6 (M' ++ [(x1, x2)]).length (cellsP (M' ++ [(x1, x2)]))) := Lib.hid (own_weak (Nat.le_trans HMI.out.size HKY.out.moves.size) (by rw [List.take_length] at ho5; rw [List.length_append]; exact ho5))
                  clear hk5 ho5 hm5
                  go_wp2_with fail
                  all_goals
                    go_roundg (ks.length - (j + 1))
                    case measure => omega
                    case rel => exact ⟨j + 1, M' ++ [(x1, x2)], by omega, rfl, by go_num, HFIN.out.1, by rw [HFIN.out.2], HO5.out, HK5.out⟩
                · have HE := Lib.hid e
                  have ht0 : ¬ (t : Int) < 0 := by omega
                  have ht1 : (0 : Int) ≤ (t : Int) := by omega
                  clear e
                  have HFIN : Hid (stepL 1 M (ks.take (j + 1)) = M' ∧ cntZ 1 M (M') = z) := Lib.hid ⟨by rw [HST.out, if_pos rfl]; unfold addM; rw [if_pos (mem_at ht HE.out)], by exact HZ.out⟩
                  clear HST HZ
                  go_wp2_with fail
                  all_goals
                    go_roundg (ks.length - (j + 1))
                    case measure => omega
                    case rel => exact ⟨j + 1, M', by omega, rfl, by go_num, HFIN.out.1, by rw [HFIN.out.2], HOY.out, KP.trans HKI.out HKY.out⟩
              · have hop1 : (op == 1) = false := by simpa using hop
                have hop2 : (op != 1) = true := by simpa using hop
                rcases hf with ⟨rfl, hno⟩ | ⟨t, ht, e, rfl⟩
                · have hnm : (x1, x2) ∉ M' := fun hm => by
                    obtain ⟨t, ht, e⟩ := List.getElem_of_mem hm
                    exact hno t ht ht e
                  have HNM := Lib.hid hnm
                  clear hno hnm
                  have HFIN : Hid (stepL op M (ks.take (j + 1)) = M' ∧ cntZ op M (M') = z) := Lib.hid ⟨by rw [HST.out, if_neg hop, delM_miss HNM.out], by exact HZ.out⟩
                  clear HST HZ
                  go_wp2_with fail
                  all_goals
                    go_roundg (ks.length - (j + 1))
                    case measure => omega
                    case rel => exact ⟨j + 1, M', by omega, rfl, by go_num, HFIN.out.1, by rw [HFIN.out.2], HOY.out, KP.trans HKI.out HKY.out⟩
                · have HE := Lib.hid e
                  have ht0 : ¬ (t : Int) < 0 := by omega
                  have ht1 : (0 : Int) ≤ (t : Int) := by omega
                  clear e
                  have HFIN : Hid (stepL op M (ks.take (j + 1)) = M'.take t ++ M'.drop (t + 1) ∧ cntZ op M (M'.take t ++ M'.drop (t + 1)) = z + 1) := Lib.hid ⟨by rw [HST.out, if_neg hop, delM_hit HMN'.out ht HE.out], by rw [← HZ.out]; unfold cntZ; rw [if_neg hop, if_neg hop]; simp; omega⟩
                  clear HST HZ
                  go_wp2_with fail
                  obtain ⟨g6, rfl, -, hgl6, -⟩ := HX6.out (by omega)
                  refine sets27 (by kernel_rfl) HOY.out ht hc6 (by omega) ?_
                  intro u95 u96 u97 u98 u99 u100 u101 u102 u103 u104 v6 w5 ho5 hm5
                  have hk5 := HKY.out.trans (KP.of hm5)
                  have HK5 := Lib.hid (HKI.out.trans hk5)
                  clear c0 c1
                  obtain ⟨c0, c1⟩ := HC.out _ (HMI.out.trans hk5.moves)
                  have HO5 : Hid (w5.ownsRow w.heap.size 52 2 v6 (M'.take t ++ M'.drop (t + 1)).length (cellsP (M'.take t ++ M'.drop (t + 1)))) := Lib.hid (own_weak (Nat.le_trans HMI.out.size HKY.out.moves.size) (by
                    have e : (M'.take t ++ M'.drop (t + 1)).length = t + (M'.length - (t + 1)) := by simp; omega
                    rw [e]
                    exact ho5))
                  clear hk5 ho5 hm5
                  go_wp2_with fail
                  all_goals
                    go_roundg (ks.length - (j + 1))
                    case measure => omega
                    case rel => exact ⟨j + 1, M'.take t ++ M'.drop (t + 1), by omega, rfl, by go_num, HFIN.out.1, by rw [HFIN.out.2], HO5.out, HK5.out⟩
        · obtain rfl : j = ks.length := by omega
          rw [List.take_length] at hM'
          obtain ⟨A6, c6, rfl, hc6, -, -, -, -⟩ := own_form hown'
          have HL := Lib.hid hM'
          have HOWN' := Lib.hid hown'
          have HSI := Lib.hid (HSET.out.moves0 HKI.out.moves)
          have HKBI := Lib.hid ((HKI.out.moves.block kb (Array.getElem?_eq_some_iff.1 HKB.out).1 (fun h => h)).trans HKB.out)
          have HLN : Hid (M'.length ≤ 40 * (i + 1)) := Lib.hid (by
            have := stepL_len op M ks
            rw [hM'] at this
            omega)
          generalize hcz : cntZ op M M' = z
          have HZ := Lib.hid hcz
          clear hM' hown' hcz hj hgj
          by_cases hop : op = 1
          · subst hop
            have HCALL := Lib.hid (add_any (M' := M') (n := z) HSI.out (hro.out.moves HMI.out (fun _ _ _ h => h)) hwk.out (by omega) (by have h := HL.out; unfold stepL at h; first | exact h | (rw [if_pos rfl] at h; exact h) | (rw [if_neg hop] at h; exact h)) (by have h := HZ.out; unfold cntZ at h; first | exact h | (rw [if_pos rfl] at h; exact h) | (rw [if_neg hop] at h; exact h)))
            go_wp2_with fail
            refine HCALL.out.mono ?_
            rintro e w7 ⟨rfl, hS7, hm7⟩
            have hMw7 := HSI.out.under HMI.out hm7
            have ho7 := own_moves HOWN'.out hm7 (own_apart HSI.out HOWN'.out)
            have hkb7 := (hm7.block kb (Array.getElem?_eq_some_iff.1 HKBI.out).1 (HSI.out.apart HKBI.out (by decide))).trans HKBI.out
            have HLEN := Lib.hid (len_any hS7)
            have HROW := Lib.hid (row_any hS7 (by omega) (rfl : sortK M' = sortK M'))
            have HS7 := Lib.hid hS7
            have HM7 := Lib.hid hMw7
            have HO7 := Lib.hid ho7
            have HKB7 := Lib.hid hkb7
            clear hS7 hm7 hMw7 ho7 hkb7 HCALL c0 c1
            go_wp2_with fail
            refine HLEN.out.mono ?_
            rintro e w8 ⟨rfl, rfl⟩
            go_wp2_with fail
            refine HROW.out.mono ?_
            rintro e w9 ⟨v9, rfl, hk9, hm9⟩
            have HK9 := Lib.hid hk9
            have HM9 := Lib.hid hm9
            have HSRT := Lib.hid (refsorted_any (own_krow (own_moves HO7.out hm9 (fun _ _ h => h)) rfl) (by omega) (rfl : sortK M' = sortK M'))
            clear hk9 hm9 HLEN HROW
            go_wp2_with fail
            refine HSRT.out.mono ?_
            rintro e w10 ⟨v10, rfl, ho10, hm10⟩
            have HSAME := Lib.hid (row_same (HK9.out.moves hm10 (fun _ _ _ h => h)) (own_krow ho10 rfl) (by rw [sortK_len]; omega))
            have HM10 := Lib.hid (HM9.out.trans hm10)
            clear ho10 hm10 HSRT HK9 HM9
            go_wp2_with fail
            refine HSAME.out.mono ?_
            rintro e w11 ⟨rfl, hm11⟩
            have HM11 := Lib.hid (HM10.out.trans hm11)
            clear hm11 HSAME HM10
            go_wp2_with fail
            go_roundg (l.length - (i + 1))
            case measure => omega
            case rel => exact ⟨i + 1, M', by omega, rfl, by go_num, HLN.out, HMN'.out, own_moves HO7.out HM11.out (fun _ _ h => h), HS7.out.moves0 HM11.out, (HM11.out.block kb (Array.getElem?_eq_some_iff.1 HKB7.out).1 (fun h => h)).trans HKB7.out, HM7.out.trans HM11.out⟩
          · have hop1 : (op == 1) = false := by simpa using hop
            have HCALL := Lib.hid (remove_any (M' := M') (n := z) HSI.out (hro.out.moves HMI.out (fun _ _ _ h => h)) hwk.out (by omega) (by have h := HL.out; unfold stepL at h; first | exact h | (rw [if_pos rfl] at h; exact h) | (rw [if_neg hop] at h; exact h)) (by have h := HZ.out; unfold cntZ at h; first | exact h | (rw [if_pos rfl] at h; exact h) | (rw [if_neg hop] at h; exact h)))
            go_wp2_with fail
            refine HCALL.out.mono ?_
            rintro e w7 ⟨rfl, hS7, hm7⟩
            have hMw7 := HSI.out.under HMI.out hm7
            have ho7 := own_moves HOWN'.out hm7 (own_apart HSI.out HOWN'.out)
            have hkb7 := (hm7.block kb (Array.getElem?_eq_some_iff.1 HKBI.out).1 (HSI.out.apart HKBI.out (by decide))).trans HKBI.out
            have HLEN := Lib.hid (len_any hS7)
            have HROW := Lib.hid (row_any hS7 (by omega) (rfl : sortK M' = sortK M'))
            have HS7 := Lib.hid hS7
            have HM7 := Lib.hid hMw7
            have HO7 := Lib.hid ho7
            have HKB7 := Lib.hid hkb7
            clear hS7 hm7 hMw7 ho7 hkb7 HCALL c0 c1
            go_wp2_with fail
            refine HLEN.out.mono ?_
            rintro e w8 ⟨rfl, rfl⟩
            go_wp2_with fail
            refine HROW.out.mono ?_
            rintro e w9 ⟨v9, rfl, hk9, hm9⟩
            have HK9 := Lib.hid hk9
            have HM9 := Lib.hid hm9
            have HSRT := Lib.hid (refsorted_any (own_krow (own_moves HO7.out hm9 (fun _ _ h => h)) rfl) (by omega) (rfl : sortK M' = sortK M'))
            clear hk9 hm9 HLEN HROW
            go_wp2_with fail
            refine HSRT.out.mono ?_
            rintro e w10 ⟨v10, rfl, ho10, hm10⟩
            have HSAME := Lib.hid (row_same (HK9.out.moves hm10 (fun _ _ _ h => h)) (own_krow ho10 rfl) (by rw [sortK_len]; omega))
            have HM10 := Lib.hid (HM9.out.trans hm10)
            clear ho10 hm10 HSRT HK9 HM9
            go_wp2_with fail
            refine HSAME.out.mono ?_
            rintro e w11 ⟨rfl, hm11⟩
            have HM11 := Lib.hid (HM10.out.trans hm11)
            clear hm11 HSAME HM10
            go_wp2_with fail
            go_roundg (l.length - (i + 1))
            case measure => omega
            case rel => exact ⟨i + 1, M', by omega, rfl, by go_num, HLN.out, HMN'.out, own_moves HO7.out HM11.out (fun _ _ h => h), HS7.out.moves0 HM11.out, (HM11.out.block kb (Array.getElem?_eq_some_iff.1 HKB7.out).1 (fun h => h)).trans HKB7.out, HM7.out.trans HM11.out⟩
    · obtain rfl : i = l.length := by omega
      obtain ⟨A6, c6, rfl, hc6, -, -, -, hx6⟩ := own_form hown
      have HX6 := Lib.hid hx6
      have HSET := Lib.hid hS
      have HKB := Lib.hid hkb
      have HM := Lib.hid hm
      have hM16 : M.length ≤ 1600 := by omega
      clear hx6 hS hkb hm hown hMl hMn
      go_wp2_with fail
      go_loopg [14, 15] M.length (fun g s14 s15 wr => ∃ (h : Nat) (b : Bool), h ≤ M.length ∧ g = M.length - h ∧ s15 = .int .i64 h ∧ s14 = .bool b ∧ decide ((k1, k2) ∈ M.take h) = b ∧ KP wo wr)
      case atStart => exact ⟨0, false, Nat.zero_le _, rfl, rfl, rfl, by simp, KP.of (Moves.refl _ _)⟩
      case round =>
        obtain ⟨h, b, hh, hgh, rfl, rfl, hb, hK⟩ := hrel
        obtain ⟨wy, rfl⟩ : ∃ x, x = wr := ⟨wr, rfl⟩
        have HB := Lib.hid hb
        clear hb
        by_cases hhl : h < M.length
        · obtain ⟨g6, rfl, -, hgl6, hcell6⟩ := HX6.out (by omega)
          have hklt := (Array.getElem?_eq_some_iff.1 HKB.out).1
          have HG : Hid (∀ w', KP wo w' → KP wo w' ∧ (w'.cell? ⟨g6, h * 2, none⟩ = some (.int .i64 M[h].1) ∧ w'.cell? ⟨g6, h * 2 + 1, none⟩ = some (.int .i64 M[h].2)) ∧ (w'.cell? ⟨kb, 0, none⟩ = some (.int .i64 k1) ∧ w'.cell? ⟨kb, 1, none⟩ = some (.int .i64 k2))) := Lib.hid (fun w' hk => by
            have h0 := hk.moves
            exact ⟨hk, ⟨(h0.cell (p := ⟨g6, h * 2, none⟩) hgl6 (fun h => h)).trans (hcell6 _ _ (cellsP_get hhl).1), (h0.cell (p := ⟨g6, h * 2 + 1, none⟩) hgl6 (fun h => h)).trans (hcell6 _ _ (cellsP_get hhl).2)⟩, KeyBlk.cells ((h0.block kb hklt (fun h => h)).trans HKB.out)⟩)
          have HZ2 := Lib.hid (HG.out _ hK)
          have HKD : Hid (∀ n, KP wo (wy.drewN n)) := Lib.hid (fun n => hK)
          have HNX : Hid (decide ((k1, k2) ∈ M.take (h + 1)) = (decide ((k1, k2) ∈ M.take h) || decide (M[h] = (k1, k2)))) := Lib.hid (mem_take_succ hhl)
          have hb4 : (0 : Int) ≤ (h : Int) := by omega
          have hb5 : (h : Int) < (M.length : Int) := by omega
          clear hcell6 hK hklt
          generalize M[h] = y at HG HZ2 HNX
          cases b with
          | true =>
            have HF : Hid (decide ((k1, k2) ∈ M.take (h + 1)) = true) := Lib.hid (by rw [HNX.out, HB.out]; rfl)
            go_wp2_with fail
            go_quiet (fail)
            go_wp2
            go_roundg (M.length - (h + 1))
            case measure => omega
            case rel => exact ⟨h + 1, true, by omega, rfl, by go_num, rfl, HF.out, HKD.out _⟩
          | false =>
            by_cases e : y = (k1, k2)
            · subst e
              have HF : Hid (decide ((k1, k2) ∈ M.take (h + 1)) = true) := Lib.hid (by rw [HNX.out]; simp)
              have RQ := fun W => refcmp_any (p := (k1, k2)) (q := (k1, k2)) (c := 0) ((cmpK_zero _ _).2 rfl) W
              have OQ := fun W => of_any (k1, k2) W
              go_wp2_with fail
              go_region_held3 (fun w' => KP wo w' ∧ (w'.cell? ⟨g6, h * 2, none⟩ = some (.int .i64 k1) ∧ w'.cell? ⟨g6, h * 2 + 1, none⟩ = some (.int .i64 k2)) ∧ (w'.cell? ⟨kb, 0, none⟩ = some (.int .i64 k1) ∧ w'.cell? ⟨kb, 1, none⟩ = some (.int .i64 k2))) (first | exact hS' | exact HZ2.out | assumption | go_keep)
                (first
                  | (go_at_call 27; refine (OQ _).mono ?_; rintro e w' ⟨rfl, hl⟩; have hS' := HG.out _ (KP.of ((KP.moves (And.left (by assumption))).trans hl)))
                  | (go_at_call 26; refine (RQ _).mono ?_; rintro e w' ⟨rfl, hl⟩; have hS' := HG.out _ (KP.of ((KP.moves (And.left (by assumption))).trans (hl.moves _))))
                  | fail)
              go_wp2_with fail
              go_roundg (M.length - (h + 1))
              case measure => omega
              case rel => exact ⟨h + 1, true, by omega, rfl, by go_num, rfl, HF.out, And.left (by assumption)⟩
            · have HF : Hid (decide ((k1, k2) ∈ M.take (h + 1)) = false) := Lib.hid (by rw [HNX.out, HB.out]; simpa using e)
              have hne : cmpK y (k1, k2) ≠ 0 := fun h => e ((cmpK_zero _ _).1 h)
              obtain ⟨y1, y2⟩ := y
              have RQ := fun W => refcmp_any (p := (y1, y2)) (q := (k1, k2)) rfl W
              have OQ := fun W => of_any (k1, k2) W
              generalize cmpK (y1, y2) (k1, k2) = cc at hne RQ
              have hcc : (cc == 0) = false := by simpa using hne
              clear e HNX
              go_wp2_with fail
              go_region_held3 (fun w' => KP wo w' ∧ (w'.cell? ⟨g6, h * 2, none⟩ = some (.int .i64 y1) ∧ w'.cell? ⟨g6, h * 2 + 1, none⟩ = some (.int .i64 y2)) ∧ (w'.cell? ⟨kb, 0, none⟩ = some (.int .i64 k1) ∧ w'.cell? ⟨kb, 1, none⟩ = some (.int .i64 k2))) (first | exact hS' | exact HZ2.out | assumption | go_keep)
                (first
                  | (go_at_call 27; refine (OQ _).mono ?_; rintro e w' ⟨rfl, hl⟩; have hS' := HG.out _ (KP.of ((KP.moves (And.left (by assumption))).trans hl)))
                  | (go_at_call 26; refine (RQ _).mono ?_; rintro e w' ⟨rfl, hl⟩; have hS' := HG.out _ (KP.of ((KP.moves (And.left (by assumption))).trans (hl.moves _))))
                  | fail)
              go_wp2_with fail
              go_roundg (M.length - (h + 1))
              case measure => omega
              case rel => exact ⟨h + 1, false, by omega, rfl, by go_num, rfl, HF.out, And.left (by assumption)⟩
        · obtain rfl : h = M.length := by omega
          have hbb := HB.out
          rw [List.take_length] at hbb
          have HH := Lib.hid (has_any (HSET.out.moves0 hK.moves) HWF.out hbb)
          obtain ⟨ca0, ca1⟩ := KeyBlk.cells ((hK.moves.block kb (Array.getElem?_eq_some_iff.1 HKB.out).1 (fun h => h)).trans HKB.out)
          have HMY := Lib.hid (HM.out.trans hK.moves)
          clear hK hbb
          go_wp2_with fail
          refine HH.out.mono ?_
          rintro e w' ⟨rfl, hm'⟩
          have HMZ := Lib.hid (HMY.out.trans hm')
          clear hm' ca0 ca1
          go_wp2
          go_ret
          exact ⟨by simp, HMZ.out⟩

theorem keys_sets_any (w : World) {v v1 : Value} {l : List StepD} (hl : Steps w v l) (hk : ∃ k : Pr, v1 = encK k ∧ wf2 k) : Calls Try.prog 8 #[v, v1] w (TruePost w) := by
  obtain ⟨k, rfl, hw⟩ := hk
  exact keys_sets w hl hw
end Go.Proofs.Ytmennobdgfgjaaa
