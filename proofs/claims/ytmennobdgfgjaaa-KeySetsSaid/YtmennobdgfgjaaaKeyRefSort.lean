/-
  The document's Sorted: an insertion sort of keys.
-/
import Derived.Test.YtmennobdgfgjaaaKeyRef8
namespace Go.Proofs.Ytmennobdgfgjaaa
open Go Go.RowKit Go.Maps Go.Sort Go.Proofs

theorem own_weak {w : World} {base base' : Nat} {e : TypeId} {size n : Nat} {v : Value} {xs : List Value} (hb : base' ≤ base) (h : w.ownsRow base e size v n xs) : w.ownsRow base' e size v n xs := by
  refine ⟨h.1, ?_⟩
  rcases h.2 with hn | ⟨g, cap, cur, rfl, hb', r⟩
  · exact .inl hn
  · exact .inr ⟨g, cap, cur, rfl, Nat.le_trans hb hb', r⟩
theorem mids {wr w3 w5 w : World} (h5 : Moves (fun _ => False) w3 w5) (hk : KP wr w3) (hm : Moves (fun _ => False) w wr) : Moves (fun _ => False) wr w5 ∧ Moves (fun _ => False) w w5 ∧ w.heap.size ≤ w3.heap.size :=
  ⟨hk.moves.trans h5, hm.trans (hk.moves.trans h5), Nat.le_trans hm.size hk.moves.size⟩
theorem src_drop {w : World} {base k c3 g3 : Nat} {e : TypeId} {M : List Pr} (h : w.ownsRow base e 2 (.slice (some ⟨g3, 0, none⟩) M.length c3) M.length (cellsP M)) (hc : M.length ≤ c3) : Src w (if c3 = k then some ⟨g3, 0, none⟩ else some ⟨g3, k * 2, none⟩) (M.length - k) (cellsP (M.drop k)) := fun h0 => by
  obtain ⟨A, c, hv, _, _, _, _, hx⟩ := own_form h
  cases hv
  obtain ⟨g, hg, _, _, hcell⟩ := hx (by omega)
  cases hg
  refine ⟨⟨g3, k * 2, none⟩, if_neg (by omega), fun j u hu => ?_⟩
  rw [← cellsP_drop, List.getElem?_drop] at hu
  have := hcell _ _ hu
  unfold Addr.add
  by_cases hj : j = 0
  · subst hj; simpa using this
  · simpa [hj] using this

set_option maxRecDepth 100000 in
set_option maxHeartbeats 4000000 in
theorem refsorted_any {w : World} {L : Nat → Prop} {v : Value} {ks ks' : List Pr} (hr : KRow w L v ks) (hlen : ks.length ≤ 5000) (hs : sortK ks = ks') :
    Calls Try.prog 36 #[v] w (fun e w' => ∃ v', e = .returned v' ∧ w'.ownsRow w.heap.size 52 2 v' ks'.length (cellsP ks') ∧ Moves (fun _ => False) w w') := by
  obtain ⟨A, c, rfl, hc, hx⟩ := hr
  have HS := Lib.hid hs
  clear hs
  obtain ⟨i4, hi4, hq0, hq1, hq2⟩ := info_parts infoR
  have hq3 : (Value.agg #[.int .i64 0, .int .i64 0]).cells.size = 2 := rfl
  have hq4 : (0 : Nat) < 2 := by decide
  have RC := fun (p q : Pr) (W : World) => refcmp_any (p := p) (q := q) rfl W
  go_enter Try.func36, Try.ntmps36
  go_wp2_with fail
  go_loopg [3, 4] ks.length (fun g s3 s4 wr => ∃ (i : Nat) (M : List Pr), i ≤ ks.length ∧ g = ks.length - i ∧ sortK (ks.take i) = M ∧ s4 = .int .i64 i ∧ wr.ownsRow w.heap.size 52 2 s3 M.length (cellsP M) ∧ Moves (fun _ => False) w wr)
  case atStart => exact ⟨0, [], Nat.zero_le _, rfl, by simp [sortK], rfl, World.ownsRow_nil _ _ _ _, Moves.refl _ _⟩
  case round =>
    obtain ⟨i, M, hi, hg, hM, rfl, hown, hm⟩ := hrel
    have hMl : M.length = (ks.take i).length := by rw [← hM, sortK_len]
    have hMs : M.Pairwise leK := by rw [← hM]; exact sortK_pairwise _
    by_cases hik : i < ks.length
    · obtain ⟨wo, rfl⟩ : ∃ x, x = wr := ⟨wr, rfl⟩
      obtain ⟨A3, c3, rfl, hc3, hcm3, hA3, hB3, hx3⟩ := own_form hown
      obtain ⟨g, o, rfl, -, hgl, hcell⟩ := hx (by omega)
      have hMi : M.length ≤ 5000 := by rw [hMl]; simp; omega
      have hMi' : M.length = i := by rw [hMl]; simp; omega
      have hlc : wo.cell? ⟨g, o + i * 2, none⟩ = some (.int .i64 ks[i].1) ∧ wo.cell? ⟨g, o + i * 2 + 1, none⟩ = some (.int .i64 ks[i].2) := ⟨(hm.cell (p := ⟨g, o + i * 2, none⟩) hgl (fun h => h)).trans (hcell _ _ (cellsP_get hik).1), (hm.cell (p := ⟨g, o + i * 2 + 1, none⟩) hgl (fun h => h)).trans (hcell _ _ (cellsP_get hik).2)⟩
      have hgr := Nat.lt_of_lt_of_le hgl hm.size
      have HINS : Hid (∀ k, k ≤ M.length → (∀ j (hj : j < M.length), k ≤ j → 0 < cmpK M[j] ks[i]) → (∀ j (hj : j < M.length), j < k → ¬ 0 < cmpK M[j] ks[i]) → sortK (ks.take (i + 1)) = M.take k ++ [ks[i]] ++ M.drop k) := Lib.hid (fun k hk h1 h2 => by
        rw [← ins_sorted hMs hk h1 h2, List.take_succ_eq_append_getElem hik, ← hM]
        exact sortK_perm ((sortK_isPerm _).symm.append_right _))
      have HMS := Lib.hid hMs
      have HMI := Lib.hid hMi'
      clear hx hcell hM hMl hMs hgl hMi'
      generalize ks[i] = x at hlc HINS
      obtain ⟨x1, x2⟩ := x
      have HA3 : Hid ((A3 = none ∧ M.length = 0 ∧ c3 = 0) ∨ ∃ g3, A3 = some ⟨g3, 0, none⟩) := Lib.hid (by
        cases A3 with
        | none => have := hA3 rfl; exact .inl ⟨rfl, by omega, this⟩
        | some a => exact .inr ⟨a.block, congrArg some (hB3 a rfl).1⟩)
      clear hA3 hB3 hcm3
      go_wp2_with fail
      go_loopg [5] M.length (fun g s5 wr => ∃ k : Nat, k ≤ M.length ∧ g = k ∧ s5 = .int .i64 k ∧ (∀ j (hj : j < M.length), k ≤ j → 0 < cmpK M[j] (x1, x2)) ∧ KP wo wr)
      case atStart => exact ⟨M.length, Nat.le_refl _, rfl, rfl, fun j hj h => by omega, KP.of (Moves.refl _ _)⟩
      case round =>
        obtain ⟨k, hk, hgk, rfl, hgt, hmz⟩ := hrel
        have HGT := Lib.hid hgt
        have hb2 : (0 : Int) ≤ (i : Int) := by omega
        have hb3 : (i : Int) < (ks.length : Int) := by omega
        have HZ : Hid (KP wo wr ∧ (wr.cell? ⟨g, o + i * 2, none⟩ = some (.int .i64 x1) ∧ wr.cell? ⟨g, o + i * 2 + 1, none⟩ = some (.int .i64 x2)) ∧ True) := Lib.hid ⟨hmz, ⟨(hmz.moves.cell (p := ⟨g, o + i * 2, none⟩) hgr (fun h => h)).trans hlc.1, (hmz.moves.cell (p := ⟨g, o + i * 2 + 1, none⟩) hgr (fun h => h)).trans hlc.2⟩, trivial⟩
        have HZD : Hid (∀ n, KP wo (wr.drewN n) ∧ ((wr.drewN n).cell? ⟨g, o + i * 2, none⟩ = some (.int .i64 x1) ∧ (wr.drewN n).cell? ⟨g, o + i * 2 + 1, none⟩ = some (.int .i64 x2)) ∧ True) := Lib.hid (fun n => HZ.out)
        clear hgt hmz
        by_cases hk0 : k = 0
        · subst hk0
          have HLO : ∀ j (hj : j < M.length), j < 0 → ¬ 0 < cmpK M[j] (x1, x2) := fun j hj h => by omega
          rcases HA3.out with ⟨rfl, hM0, rfl⟩ | ⟨g3, rfl⟩
          · obtain rfl : M = [] := List.length_eq_zero_iff.1 hM0
            clear hM0
            go_wp2_with fail
            go_quiet (fail)
            have hHd := HZD.out
            go_wp2_with fail
            refine ref8 (by kernel_rfl) (own_moves hown (KP.moves (And.left (by assumption))) (fun _ _ h => h)) (show 0 ≤ ([] : List Pr).length by omega) hc3 (by omega) rfl (by first | rfl | go_num) hik (And.left (And.right (by assumption))) (Nat.lt_of_lt_of_le hgr (KP.moves (And.left (by assumption))).size) ?_
            intro u32 u33 u34 u35 u36 u37 u38 u39 u40 u41 u42 v6 w5 ho5 hm5
            obtain ⟨hmw, hmw5, hb0⟩ := mids hm5 (And.left (by assumption)) hm
            have hsl := own_moves hown hmw (fun _ _ h => h)
            have HB := Lib.hid hb0
            have HM5 := Lib.hid hmw5
            have hs9 : Src w5 none 0 (cellsP (([] : List Pr).drop 0)) := fun h0 => by simp at h0
            have hfin := HINS.out 0 (by omega) HGT.out HLO
            have h63 : 0 + 1 + 0 ≤ maxLen ∧ (0 + 1 + 0) * 16 ≤ 140737488355328 := by unfold maxLen; omega
            have HFIN := Lib.hid hfin
            have H63 := Lib.hid h63
            have b6 : (0 : Int) ≤ (([] : List Pr).length : Int) := by omega
            have b7 : (0 : Int) ≤ (0 : Int) := by omega

            clear hx3 hfin hb0 hmw hmw5 h63
            go_wp2_with (first
              | (at_builtin; go_must (refine wpList_append_src _ rfl (.tmp 43) (.tmp 46) 63 rfl _ 52 i4 _ 2 16 Try.underlying63 hi4 hq0 hq1 hq2 hq3 hq4 v6 (0 + 1) (cellsP (([] : List Pr).take 0 ++ [(x1, x2)])) rfl ho5 none 0 _ (cellsP (([] : List Pr).drop 0)) rfl (by rw [cellsP_len]; simp) hs9 (cellsP_one _) H63.out.1 H63.out.2 hm5.size ?_)
                 intro v1 w6 hn6 hg6 hl6)
              | fail)
            all_goals
              go_roundg (ks.length - (i + 1))
              case measure => omega
              case rel => exact ⟨i + 1, _, by omega, rfl, HFIN.out, by go_num, own_weak HB.out (by rw [← cellsP_append] at hn6; have e : (([] : List Pr).take 0 ++ [(x1, x2)] ++ ([] : List Pr).drop 0).length = 0 + 1 + 0 := (by simp <;> omega); rw [e]; exact hn6), HM5.out.grown hg6 (fun b hb hlt => by have := (ho5.lt b hb).1; have := HB.out; omega)⟩
          · go_wp2_with fail
            go_quiet (fail)
            have hHd := HZD.out
            go_wp2_with fail
            refine ref8 (by kernel_rfl) (own_moves hown (KP.moves (And.left (by assumption))) (fun _ _ h => h)) (show 0 ≤ M.length by omega) hc3 (by omega) rfl (by first | rfl | go_num) hik (And.left (And.right (by assumption))) (Nat.lt_of_lt_of_le hgr (KP.moves (And.left (by assumption))).size) ?_
            intro u32 u33 u34 u35 u36 u37 u38 u39 u40 u41 u42 v6 w5 ho5 hm5
            obtain ⟨hmw, hmw5, hb0⟩ := mids hm5 (And.left (by assumption)) hm
            have hsl := own_moves hown hmw (fun _ _ h => h)
            have HB := Lib.hid hb0
            have HM5 := Lib.hid hmw5
            have hs9 : Src w5 (some ⟨g3, 0, none⟩) M.length (cellsP (M.drop 0)) := by simpa using src_of_own hsl rfl
            have hfin := HINS.out 0 (by omega) HGT.out HLO
            have h63 : 0 + 1 + M.length ≤ maxLen ∧ (0 + 1 + M.length) * 16 ≤ 140737488355328 := by unfold maxLen; omega
            have HFIN := Lib.hid hfin
            have H63 := Lib.hid h63
            have b6 : (0 : Int) ≤ (M.length : Int) := by omega
            have b7 : (0 : Int) ≤ (0 : Int) := by omega
            have b8 : (M.length : Int) ≤ (c3 : Int) := by omega
            clear hx3 hfin hb0 hmw hmw5 h63
            go_wp2_with (first
              | (at_builtin; go_must (refine wpList_append_src _ rfl (.tmp 43) (.tmp 46) 63 rfl _ 52 i4 _ 2 16 Try.underlying63 hi4 hq0 hq1 hq2 hq3 hq4 v6 (0 + 1) (cellsP (M.take 0 ++ [(x1, x2)])) rfl ho5 (some ⟨g3, 0, none⟩) M.length _ (cellsP (M.drop 0)) rfl (by rw [cellsP_len]; simp) hs9 (cellsP_one _) H63.out.1 H63.out.2 hm5.size ?_)
                 intro v1 w6 hn6 hg6 hl6)
              | fail)
            all_goals
              go_roundg (ks.length - (i + 1))
              case measure => omega
              case rel => exact ⟨i + 1, _, by omega, rfl, HFIN.out, by go_num, own_weak HB.out (by rw [← cellsP_append] at hn6; have e : (M.take 0 ++ [(x1, x2)] ++ M.drop 0).length = 0 + 1 + M.length := (by simp <;> omega); rw [e]; exact hn6), HM5.out.grown hg6 (fun b hb hlt => by have := (ho5.lt b hb).1; have := HB.out; omega)⟩
        · obtain ⟨k', rfl⟩ : ∃ k', k = k' + 1 := ⟨k - 1, by omega⟩
          obtain ⟨g3, rfl, -, hgl3, hcell3⟩ := hx3 (by omega)
          have hkl : k' < M.length := by omega
          have hv0 := hcell3 _ _ (cellsP_get hkl).1
          have hv1 := hcell3 _ _ (cellsP_get hkl).2
          have HLW := Lib.hid (fun h => low_not (x := (x1, x2)) HMS.out hkl h)
          have HGE : Hid (0 < cmpK M[k'] (x1, x2) → ∀ j (hj : j < M.length), k' ≤ j → 0 < cmpK M[j] (x1, x2)) := Lib.hid (fun h j hj hkj => by
            by_cases e : j = k'
            · subst e; exact h
            · exact HGT.out j hj (by omega))
          have RQ := fun W => RC M[k'] (x1, x2) W
          have HG : Hid (∀ wc w', Moves (fun _ => False) wc w' → KP wo wc → KP wo w' ∧ (w'.cell? ⟨g, o + i * 2, none⟩ = some (.int .i64 x1) ∧ w'.cell? ⟨g, o + i * 2 + 1, none⟩ = some (.int .i64 x2)) ∧ (w'.cell? ⟨g3, k' * 2, none⟩ = some (.int .i64 M[k'].1) ∧ w'.cell? ⟨g3, k' * 2 + 1, none⟩ = some (.int .i64 M[k'].2))) := Lib.hid (fun wc w' h hk => by
            have h := hk.moves.trans h
            exact ⟨KP.of h, ⟨(h.cell (p := ⟨g, o + i * 2, none⟩) hgr (fun h => h)).trans hlc.1, (h.cell (p := ⟨g, o + i * 2 + 1, none⟩) hgr (fun h => h)).trans hlc.2⟩, (h.cell (p := ⟨g3, k' * 2, none⟩) hgl3 (fun h => h)).trans hv0, (h.cell (p := ⟨g3, k' * 2 + 1, none⟩) hgl3 (fun h => h)).trans hv1⟩)
          have HZ2 := Lib.hid (HG.out _ _ (Moves.refl _ _) HZ.out.1)
          clear hcell3 hv0 hv1 hx3 HA3 RC
          generalize hcc : cmpK M[k'] (x1, x2) = cc at HLW HGE RQ
          generalize M[k'] = y at HG HZ2 RQ hcc
          obtain ⟨y1, y2⟩ := y
          clear hcc
          have hb4 : (0 : Int) ≤ (k' : Int) := by omega
          have hb5 : (k' : Int) < (M.length : Int) := by omega
          have hb6 : IntKind.i64.wrap (k' : Int) = (k' : Int) := IntWalk.i64_in _ (by omega)
          have hx3 : True := trivial
          by_cases hc : 0 < cc
          · go_wp2_with fail
            go_region_held3 (fun w' => KP wo w' ∧ (w'.cell? ⟨g, o + i * 2, none⟩ = some (.int .i64 x1) ∧ w'.cell? ⟨g, o + i * 2 + 1, none⟩ = some (.int .i64 x2)) ∧ (w'.cell? ⟨g3, k' * 2, none⟩ = some (.int .i64 y1) ∧ w'.cell? ⟨g3, k' * 2 + 1, none⟩ = some (.int .i64 y2))) (first | exact hS' | exact HZ2.out | assumption | go_keep)
              (first | (go_at_call 26; refine (RQ _).mono ?_; rintro e w' ⟨rfl, hl⟩; have hS' := HG.out _ _ (hl.moves _) (And.left (by assumption))) | fail)
            go_wp2_with fail
            go_roundg k'
            case measure => omega
            case rel => exact ⟨k', by omega, rfl, by go_num, HGE.out hc, And.left (by assumption)⟩
          · have HLO := HLW.out hc
            go_wp2_with fail
            go_region_held3 (fun w' => KP wo w' ∧ (w'.cell? ⟨g, o + i * 2, none⟩ = some (.int .i64 x1) ∧ w'.cell? ⟨g, o + i * 2 + 1, none⟩ = some (.int .i64 x2)) ∧ (w'.cell? ⟨g3, k' * 2, none⟩ = some (.int .i64 y1) ∧ w'.cell? ⟨g3, k' * 2 + 1, none⟩ = some (.int .i64 y2))) (first | exact hS' | exact HZ2.out | assumption | go_keep)
              (first | (go_at_call 26; refine (RQ _).mono ?_; rintro e w' ⟨rfl, hl⟩; have hS' := HG.out _ _ (hl.moves _) (And.left (by assumption))) | fail)
            go_wp2_with fail
            refine ref8 (by kernel_rfl) (own_moves hown (KP.moves (And.left (by assumption))) (fun _ _ h => h)) (show (k' + 1) ≤ M.length by omega) hc3 (by omega) rfl (by first | rfl | go_num) hik (And.left (And.right (by assumption))) (Nat.lt_of_lt_of_le hgr (KP.moves (And.left (by assumption))).size) ?_
            intro u32 u33 u34 u35 u36 u37 u38 u39 u40 u41 u42 v6 w5 ho5 hm5
            obtain ⟨hmw, hmw5, hb0⟩ := mids hm5 (And.left (by assumption)) hm
            have hsl := own_moves hown hmw (fun _ _ h => h)
            have HB := Lib.hid hb0
            have HM5 := Lib.hid hmw5
            have hs9 : Src w5 (if c3 = k' + 1 then some ⟨g3, 0, none⟩ else some ⟨g3, (k' + 1) * 2, none⟩) (M.length - (k' + 1)) (cellsP (M.drop (k' + 1))) := src_drop hsl hc3
            have hfin := HINS.out (k' + 1) (by omega) HGT.out HLO
            have h63 : (k' + 1) + 1 + (M.length - (k' + 1)) ≤ maxLen ∧ ((k' + 1) + 1 + (M.length - (k' + 1))) * 16 ≤ 140737488355328 := by unfold maxLen; omega
            have HFIN := Lib.hid hfin
            have H63 := Lib.hid h63
            have b6 : ((k' + 1) : Int) ≤ (M.length : Int) := by omega
            have b7 : (0 : Int) ≤ ((k' + 1) : Int) := by omega
            have b8 : (M.length : Int) ≤ (c3 : Int) := by omega
            clear hx3 hfin hb0 hmw hmw5 h63
            go_wp2_with (first
              | (at_builtin; go_must (refine wpList_append_src _ rfl (.tmp 43) (.tmp 46) 63 rfl _ 52 i4 _ 2 16 Try.underlying63 hi4 hq0 hq1 hq2 hq3 hq4 v6 ((k' + 1) + 1) (cellsP (M.take (k' + 1) ++ [(x1, x2)])) rfl ho5 (if c3 = k' + 1 then some ⟨g3, 0, none⟩ else some ⟨g3, (k' + 1) * 2, none⟩) (M.length - (k' + 1)) _ (cellsP (M.drop (k' + 1))) rfl (by rw [cellsP_len]; simp) hs9 (cellsP_one _) H63.out.1 H63.out.2 hm5.size ?_)
                 intro v1 w6 hn6 hg6 hl6)
              | fail)
            all_goals
              go_roundg (ks.length - (i + 1))
              case measure => omega
              case rel => exact ⟨i + 1, _, by omega, rfl, HFIN.out, by go_num, own_weak HB.out (by rw [← cellsP_append] at hn6; have e : (M.take (k' + 1) ++ [(x1, x2)] ++ M.drop (k' + 1)).length = (k' + 1) + 1 + (M.length - (k' + 1)) := (by simp <;> omega); rw [e]; exact hn6), HM5.out.grown hg6 (fun b hb hlt => by have := (ho5.lt b hb).1; have := HB.out; omega)⟩
    · obtain rfl : i = ks.length := by omega
      rw [List.take_length, HS.out] at hM
      subst hM
      clear hx
      go_wp2
      go_ret
      exact ⟨_, rfl, hown, hm⟩
end Go.Proofs.Ytmennobdgfgjaaa
