/-
  TablePlays: the statement's own 'rising': an insertion sort of roots by their names.
-/
import Derived.Test.YtbfnmgjpkieaoaaTabRis8
import Derived.Laws.Cover1
namespace Go.Proofs.Ytbfnmgjpkieaoaa.Tb
open Go Go.RowKit Go.Maps Go.Sort Go.Proofs Go.Shelf

theorem own_weak {w : World} {base base' : Nat} {e : TypeId} {size n : Nat} {v : Value} {xs : List Value} (hb : base' ≤ base) (h : w.ownsRow base e size v n xs) : w.ownsRow base' e size v n xs := by
  refine ⟨h.1, ?_⟩
  rcases h.2 with hn | ⟨g, cap, cur, rfl, hb', r⟩
  · exact .inl hn
  · exact .inr ⟨g, cap, cur, rfl, Nat.le_trans hb hb', r⟩
theorem mids {wr w3 w5 w : World} (h5 : Moves (fun _ => False) w3 w5) (hk : KP wr w3) (hm : Moves (fun _ => False) w wr) : Moves (fun _ => False) wr w5 ∧ Moves (fun _ => False) w w5 ∧ w.heap.size ≤ w3.heap.size :=
  ⟨hk.moves.trans h5, hm.trans (hk.moves.trans h5), Nat.le_trans hm.size hk.moves.size⟩
theorem src_dropR {w : World} {base k c3 g3 : Nat} {e : TypeId} {M : List (ByteArray × Int)} (h : w.ownsRow base e 2 (.slice (some ⟨g3, 0, none⟩) M.length c3) M.length (cellsR M)) (hc : M.length ≤ c3) : Src w (if c3 = k then some ⟨g3, 0, none⟩ else some ⟨g3, k * 2, none⟩) (M.length - k) (cellsR (M.drop k)) := fun h0 => by
  obtain ⟨A, c, hv, _, _, _, _, hx⟩ := own_form h
  cases hv
  obtain ⟨g, hg, _, _, hcell⟩ := hx (by omega)
  cases hg
  refine ⟨⟨g3, k * 2, none⟩, if_neg (by omega), fun j u hu => ?_⟩
  rw [← cellsR_drop, List.getElem?_drop] at hu
  have := hcell _ _ hu
  unfold Addr.add
  by_cases hj : j = 0
  · subst hj; simpa using this
  · simpa [hj] using this

/-- Which name is the greater. -/
def gtR (a b : ByteArray × Int) : Prop := b.1.data.toList < a.1.data.toList
theorem gtR_yes {a b : ByteArray × Int} (h : gtR a b) : Op.bytesLess a.1.toList b.1.toList = false ∧ (a.1.toList == b.1.toList) = false := by
  unfold gtR at h
  constructor
  · rw [bytesLess_eq, Lib.toList_data, Lib.toList_data]
    exact decide_eq_false (List.lt_asymm h)
  · rw [beq_eq_false_iff_ne, Lib.toList_data, Lib.toList_data]
    intro e
    rw [e] at h
    exact List.lt_irrefl _ h
theorem gtR_no {a b : ByteArray × Int} (h : ¬ gtR a b) : Op.bytesLess a.1.toList b.1.toList = true ∨ (Op.bytesLess a.1.toList b.1.toList = false ∧ (a.1.toList == b.1.toList) = true) := by
  unfold gtR at h
  rw [bytesLess_eq, Lib.toList_data, Lib.toList_data]
  by_cases hlt : a.1.data.toList < b.1.data.toList
  · exact .inl (decide_eq_true hlt)
  · exact .inr ⟨decide_eq_false hlt, beq_iff_eq.2 (List.le_antisymm (List.not_lt.1 h) (List.not_lt.1 hlt))⟩
theorem gtR_trans {a b c : ByteArray × Int} (h1 : ¬ gtR a b) (h2 : ¬ gtR b c) : ¬ gtR a c := by
  unfold gtR at *
  rw [List.not_lt] at *
  exact List.le_trans h1 h2
theorem gtR_le {a b : ByteArray × Int} (h : gtR a b) : ¬ gtR b a := by
  unfold gtR at *
  exact List.lt_asymm h
theorem lowR {M : List (ByteArray × Int)} {x : ByteArray × Int} (hM : M.Pairwise (fun a b => ¬ gtR a b)) {k : Nat} (hk : k < M.length) (h : ¬ gtR M[k] x) : ∀ j (hj : j < M.length), j < k + 1 → ¬ gtR M[j] x := fun j hj hjk => by
  by_cases e : j = k
  · subst e; exact h
  · exact gtR_trans (List.pairwise_iff_getElem.1 hM j k hj hk (by omega)) h
theorem insR {M : List (ByteArray × Int)} {x : ByteArray × Int} (hM : M.Pairwise (fun a b => ¬ gtR a b)) {k : Nat} (hk : k ≤ M.length) (h1 : ∀ j (hj : j < M.length), k ≤ j → gtR M[j] x) (h2 : ∀ j (hj : j < M.length), j < k → ¬ gtR M[j] x) :
    (M.take k ++ [x] ++ M.drop k).Pairwise (fun a b => ¬ gtR a b) := by
  rw [List.append_assoc]
  refine List.pairwise_append.2 ⟨hM.sublist (List.take_sublist _ _), List.pairwise_append.2 ⟨List.pairwise_singleton _ _, hM.sublist (List.drop_sublist _ _), fun a ha b hb => ?_⟩, fun a ha b hb => ?_⟩
  · rw [List.mem_singleton] at ha
    subst ha
    obtain ⟨j, hj, rfl⟩ := List.mem_iff_getElem.1 hb
    rw [List.getElem_drop]
    exact gtR_le (h1 _ (by simp at hj; omega) (by omega))
  · obtain ⟨j, hj, rfl⟩ := List.mem_iff_getElem.1 ha
    rw [List.getElem_take]
    have hjk : j < k := by simp at hj; omega
    have hjl : j < M.length := by simp at hj; omega
    rcases List.mem_append.1 hb with hb | hb
    · rw [List.mem_singleton] at hb
      subst hb
      exact h2 j hjl hjk
    · obtain ⟨q, hq, rfl⟩ := List.mem_iff_getElem.1 hb
      rw [List.getElem_drop]
      exact List.pairwise_iff_getElem.1 hM j (k + q) hjl (by simp at hq; omega) (by omega)
theorem permR {M l : List (ByteArray × Int)} {x : ByteArray × Int} (h : M.Perm l) (k : Nat) : (M.take k ++ [x] ++ M.drop k).Perm (l ++ [x]) := by
  have h1 : (M.take k ++ [x] ++ M.drop k).Perm (M.take k ++ M.drop k ++ [x]) := by
    rw [List.append_assoc, List.append_assoc]
    exact List.Perm.append_left _ List.perm_append_comm
  rw [List.take_append_drop] at h1
  exact h1.trans (h.append_right _)
def RisPost (w : World) (ks : List (ByteArray × Int)) (e : Ending) (w' : World) : Prop := ∃ (v' : Value) (ks' : List (ByteArray × Int)), e = .returned v' ∧ ks'.Perm ks ∧ ks'.Pairwise (fun a b => ¬ gtR a b) ∧ w'.ownsRow w.heap.size 100 2 v' ks'.length (cellsR ks') ∧ Moves (fun _ => False) w w'
set_option maxRecDepth 100000 in
set_option maxHeartbeats 4000000 in
theorem rising_any {w : World} {L : Nat → Prop} {v : Value} {ks : List (ByteArray × Int)} (hr : RRow w L v ks) (hlen : ks.length ≤ 5000) : Calls Try.prog 54 #[v] w (RisPost w ks) := by
  obtain ⟨A, c, rfl, hc, hx⟩ := hr
  obtain ⟨i4, hi4, hq0, hq1, hq2⟩ := info_parts infoR
  have hq3 : (Value.agg #[.string ByteArray.empty, .int .i64 0]).cells.size = 2 := rfl
  have hq4 : (0 : Nat) < 2 := by decide
  go_enter Try.func54, Try.ntmps54
  go_wp2_with fail
  go_loopg [3, 4] ks.length (fun g s3 s4 wr => ∃ (i : Nat) (M : List (ByteArray × Int)), i ≤ ks.length ∧ g = ks.length - i ∧ M.Perm (ks.take i) ∧ M.Pairwise (fun a b => ¬ gtR a b) ∧ s4 = .int .i64 i ∧ wr.ownsRow w.heap.size 100 2 s3 M.length (cellsR M) ∧ Moves (fun _ => False) w wr)
  case atStart => exact ⟨0, [], Nat.zero_le _, rfl, List.Perm.refl _, List.Pairwise.nil, rfl, World.ownsRow_nil _ _ _ _, Moves.refl _ _⟩
  case round =>
    obtain ⟨i, M, hi, hg, hM, hMs, rfl, hown, hm⟩ := hrel
    have hMl : M.length = (ks.take i).length := hM.length_eq
    by_cases hik : i < ks.length
    · obtain ⟨wo, rfl⟩ : ∃ x, x = wr := ⟨wr, rfl⟩
      obtain ⟨A3, c3, rfl, hc3, hcm3, hA3, hB3, hx3⟩ := own_form hown
      obtain ⟨g, o, rfl, -, hgl, hcell⟩ := hx (by omega)
      have hMi : M.length ≤ 5000 := by rw [hMl]; simp; omega
      have hMi' : M.length = i := by rw [hMl]; simp; omega
      have hlc : wo.cell? ⟨g, o + i * 2, none⟩ = some (.string (ks[i]).1) ∧ wo.cell? ⟨g, o + i * 2 + 1, none⟩ = some (.int .i64 (ks[i]).2) := ⟨(hm.cell (p := ⟨g, o + i * 2, none⟩) hgl (fun h => h)).trans (hcell _ _ (cellsR_get ks i hik).1), (hm.cell (p := ⟨g, o + i * 2 + 1, none⟩) hgl (fun h => h)).trans (hcell _ _ (cellsR_get ks i hik).2)⟩
      have hgr := Nat.lt_of_lt_of_le hgl hm.size
      have HINS : Hid (∀ k, k ≤ M.length → (∀ j (hj : j < M.length), k ≤ j → gtR M[j] ks[i]) → (∀ j (hj : j < M.length), j < k → ¬ gtR M[j] ks[i]) → (M.take k ++ [ks[i]] ++ M.drop k).Perm (ks.take (i + 1)) ∧ (M.take k ++ [ks[i]] ++ M.drop k).Pairwise (fun a b => ¬ gtR a b)) := Lib.hid (fun k hk h1 h2 => by
        rw [List.take_succ_eq_append_getElem hik]
        exact ⟨permR hM k, insR hMs hk h1 h2⟩)
      have HMS := Lib.hid hMs
      have HMI := Lib.hid hMi'
      clear hx hcell hM hMl hMs hgl hMi'
      generalize ks[i] = x at hlc HINS
      obtain ⟨x1, x2⟩ := x
      have HA3 : Hid ((A3 = none ∧ M.length = 0 ∧ c3 = 0) ∨ ∃ g3, A3 = some ⟨g3, 0, none⟩) := Lib.hid (by
        cases A3 with
        | none => have := hA3 rfl; exact .inl ⟨rfl, by omega, this⟩
        | some a => exact .inr ⟨a.block, congrArg some (hB3 a rfl).1⟩)
      clear hA3 hB3 hcm3
      go_wp2_with fail
      go_loopg [5] M.length (fun g s5 wr => ∃ k : Nat, k ≤ M.length ∧ g = k ∧ s5 = .int .i64 k ∧ (∀ j (hj : j < M.length), k ≤ j → gtR M[j] (x1, x2)) ∧ KP wo wr)
      case atStart => exact ⟨M.length, Nat.le_refl _, rfl, rfl, fun j hj h => by omega, KP.of (Moves.refl _ _)⟩
      case round =>
        obtain ⟨k, hk, hgk, rfl, hgt, hmz⟩ := hrel
        have HGT := Lib.hid hgt
        have hb2 : (0 : Int) ≤ (i : Int) := by omega
        have hb3 : (i : Int) < (ks.length : Int) := by omega
        have HZ : Hid (KP wo wr ∧ (wr.cell? ⟨g, o + i * 2, none⟩ = some (.string x1) ∧ wr.cell? ⟨g, o + i * 2 + 1, none⟩ = some (.int .i64 x2)) ∧ True) := Lib.hid ⟨hmz, ⟨(hmz.moves.cell (p := ⟨g, o + i * 2, none⟩) hgr (fun h => h)).trans hlc.1, (hmz.moves.cell (p := ⟨g, o + i * 2 + 1, none⟩) hgr (fun h => h)).trans hlc.2⟩, trivial⟩
        have HZD : Hid (∀ n, KP wo (wr.drewN n) ∧ ((wr.drewN n).cell? ⟨g, o + i * 2, none⟩ = some (.string x1) ∧ (wr.drewN n).cell? ⟨g, o + i * 2 + 1, none⟩ = some (.int .i64 x2)) ∧ True) := Lib.hid (fun n => HZ.out)
        clear hgt hmz
        by_cases hk0 : k = 0
        · subst hk0
          have HLO : ∀ j (hj : j < M.length), j < 0 → ¬ gtR M[j] (x1, x2) := fun j hj h => by omega
          rcases HA3.out with ⟨rfl, hM0, rfl⟩ | ⟨g3, rfl⟩
          · obtain rfl : M = [] := List.length_eq_zero_iff.1 hM0
            clear hM0
            go_wp2_with fail
            go_quiet (fail)
            have hHd := HZD.out
            go_wp2_with fail
            refine ris8 (by kernel_rfl) (own_moves hown (KP.moves (And.left (by assumption))) (fun _ _ h => h)) (show 0 ≤ ([] : List (ByteArray × Int)).length by omega) hc3 (by omega) rfl (by first | rfl | go_num) hik (And.left (And.right (by assumption))) (Nat.lt_of_lt_of_le hgr (KP.moves (And.left (by assumption))).size) ?_
            intro u33 u34 u35 u36 u37 u38 u39 u40 u41 u42 u43 v6 w5 ho5 hm5
            obtain ⟨hmw, hmw5, hb0⟩ := mids hm5 (And.left (by assumption)) hm
            have hsl := own_moves hown hmw (fun _ _ h => h)
            have HB := Lib.hid hb0
            have HM5 := Lib.hid hmw5
            have hs9 : Src w5 none 0 (cellsR (([] : List (ByteArray × Int)).drop 0)) := fun h0 => by simp at h0
            have hfin := HINS.out 0 (by omega) HGT.out HLO
            have h63 : 0 + 1 + 0 ≤ maxLen ∧ (0 + 1 + 0) * 24 ≤ 140737488355328 := by unfold maxLen; omega
            have HFIN := Lib.hid hfin
            have H63 := Lib.hid h63
            have b6 : (0 : Int) ≤ (([] : List (ByteArray × Int)).length : Int) := by omega
            have b7 : (0 : Int) ≤ (0 : Int) := by omega

            clear hx3 hfin hb0 hmw hmw5 h63
            go_wp2_with (first
              | (at_builtin; go_must (refine wpList_append_src _ rfl (.tmp 44) (.tmp 47) 93 rfl _ 100 i4 _ 2 24 Try.underlying93 hi4 hq0 hq1 hq2 hq3 hq4 v6 (0 + 1) (cellsR (([] : List (ByteArray × Int)).take 0 ++ [(x1, x2)])) rfl ho5 none 0 _ (cellsR (([] : List (ByteArray × Int)).drop 0)) rfl (by rw [cellsR_len]; simp) hs9 (cellsR_one _) H63.out.1 H63.out.2 hm5.size ?_)
                 intro v1 w6 hn6 hg6 hl6)
              | fail)
            all_goals
              go_roundg (ks.length - (i + 1))
              case measure => omega
              case rel => exact ⟨i + 1, _, by omega, rfl, HFIN.out.1, HFIN.out.2, by go_num, own_weak HB.out (by rw [← cellsR_append] at hn6; have e : (([] : List (ByteArray × Int)).take 0 ++ [(x1, x2)] ++ ([] : List (ByteArray × Int)).drop 0).length = 0 + 1 + 0 := (by simp <;> omega); rw [e]; exact hn6), HM5.out.grown hg6 (fun b hb hlt => by have := (ho5.lt b hb).1; have := HB.out; omega)⟩
          · go_wp2_with fail
            go_quiet (fail)
            have hHd := HZD.out
            go_wp2_with fail
            refine ris8 (by kernel_rfl) (own_moves hown (KP.moves (And.left (by assumption))) (fun _ _ h => h)) (show 0 ≤ M.length by omega) hc3 (by omega) rfl (by first | rfl | go_num) hik (And.left (And.right (by assumption))) (Nat.lt_of_lt_of_le hgr (KP.moves (And.left (by assumption))).size) ?_
            intro u33 u34 u35 u36 u37 u38 u39 u40 u41 u42 u43 v6 w5 ho5 hm5
            obtain ⟨hmw, hmw5, hb0⟩ := mids hm5 (And.left (by assumption)) hm
            have hsl := own_moves hown hmw (fun _ _ h => h)
            have HB := Lib.hid hb0
            have HM5 := Lib.hid hmw5
            have hs9 : Src w5 (some ⟨g3, 0, none⟩) M.length (cellsR (M.drop 0)) := by simpa using src_of_own hsl rfl
            have hfin := HINS.out 0 (by omega) HGT.out HLO
            have h63 : 0 + 1 + M.length ≤ maxLen ∧ (0 + 1 + M.length) * 24 ≤ 140737488355328 := by unfold maxLen; omega
            have HFIN := Lib.hid hfin
            have H63 := Lib.hid h63
            have b6 : (0 : Int) ≤ (M.length : Int) := by omega
            have b7 : (0 : Int) ≤ (0 : Int) := by omega
            have b8 : (M.length : Int) ≤ (c3 : Int) := by omega
            clear hx3 hfin hb0 hmw hmw5 h63
            go_wp2_with (first
              | (at_builtin; go_must (refine wpList_append_src _ rfl (.tmp 44) (.tmp 47) 93 rfl _ 100 i4 _ 2 24 Try.underlying93 hi4 hq0 hq1 hq2 hq3 hq4 v6 (0 + 1) (cellsR (M.take 0 ++ [(x1, x2)])) rfl ho5 (some ⟨g3, 0, none⟩) M.length _ (cellsR (M.drop 0)) rfl (by rw [cellsR_len]; simp) hs9 (cellsR_one _) H63.out.1 H63.out.2 hm5.size ?_)
                 intro v1 w6 hn6 hg6 hl6)
              | fail)
            all_goals
              go_roundg (ks.length - (i + 1))
              case measure => omega
              case rel => exact ⟨i + 1, _, by omega, rfl, HFIN.out.1, HFIN.out.2, by go_num, own_weak HB.out (by rw [← cellsR_append] at hn6; have e : (M.take 0 ++ [(x1, x2)] ++ M.drop 0).length = 0 + 1 + M.length := (by simp <;> omega); rw [e]; exact hn6), HM5.out.grown hg6 (fun b hb hlt => by have := (ho5.lt b hb).1; have := HB.out; omega)⟩
        · obtain ⟨k', rfl⟩ : ∃ k', k = k' + 1 := ⟨k - 1, by omega⟩
          obtain ⟨g3, rfl, -, hgl3, hcell3⟩ := hx3 (by omega)
          have hkl : k' < M.length := by omega
          have hv0 := hcell3 _ _ (cellsR_get M k' hkl).1
          have hv1 := hcell3 _ _ (cellsR_get M k' hkl).2
          have HLW := Lib.hid (fun h => lowR (x := (x1, x2)) HMS.out hkl h)
          have HGE : Hid (gtR M[k'] (x1, x2) → ∀ j (hj : j < M.length), k' ≤ j → gtR M[j] (x1, x2)) := Lib.hid (fun h j hj hkj => by
            by_cases e : j = k'
            · subst e; exact h
            · exact HGT.out j hj (by omega))
          have HG : Hid (∀ wc w', Moves (fun _ => False) wc w' → KP wo wc → KP wo w' ∧ (w'.cell? ⟨g, o + i * 2, none⟩ = some (.string x1) ∧ w'.cell? ⟨g, o + i * 2 + 1, none⟩ = some (.int .i64 x2)) ∧ (w'.cell? ⟨g3, k' * 2, none⟩ = some (.string (M[k']).1) ∧ w'.cell? ⟨g3, k' * 2 + 1, none⟩ = some (.int .i64 (M[k']).2))) := Lib.hid (fun wc w' h hk => by
            have h := hk.moves.trans h
            exact ⟨KP.of h, ⟨(h.cell (p := ⟨g, o + i * 2, none⟩) hgr (fun h => h)).trans hlc.1, (h.cell (p := ⟨g, o + i * 2 + 1, none⟩) hgr (fun h => h)).trans hlc.2⟩, (h.cell (p := ⟨g3, k' * 2, none⟩) hgl3 (fun h => h)).trans hv0, (h.cell (p := ⟨g3, k' * 2 + 1, none⟩) hgl3 (fun h => h)).trans hv1⟩)
          have HZ2 := Lib.hid (HG.out _ _ (Moves.refl _ _) HZ.out.1)
          clear hcell3 hv0 hv1 hx3 HA3
          have hcase : gtR M[k'] (x1, x2) ∨ ¬ gtR M[k'] (x1, x2) := Classical.em _
          have HY := Lib.hid (@gtR_yes M[k'] (x1, x2))
          have HN := Lib.hid (@gtR_no M[k'] (x1, x2))
          generalize M[k'] = y at HG HZ2 HLW HGE hcase HY HN
          obtain ⟨y1, y2⟩ := y
          have hb4 : (0 : Int) ≤ (k' : Int) := by omega
          have hb5 : (k' : Int) < (M.length : Int) := by omega
          have hb6 : IntKind.i64.wrap (k' : Int) = (k' : Int) := IntWalk.i64_in _ (by omega)
          have hx3 : True := trivial
          have HQ := Lib.hid (fun n => HG.out wr (wr.drewN n) ((Moves.refl _ _).drewN n) HZ.out.1)
          obtain ⟨-, ⟨z0, z1⟩, z2, z3⟩ := HZ2.out
          rcases hcase with hc | hc
          · obtain ⟨e1, e2⟩ := HY.out hc
            dsimp only at e1 e2
            have HC := Lib.hid hc
            clear hc
            go_wp2_with fail
            go_quiet (fail)
            go_wp2_with fail
            go_roundg k'
            case measure => omega
            case rel => exact ⟨k', by omega, rfl, by go_num, HGE.out HC.out, (HQ.out _).1⟩
          · have HLO := HLW.out hc
            have HE := Lib.hid (HN.out hc)
            clear hc
            rcases HE.out with e1 | ⟨e1, e2⟩
            · dsimp only at e1
              go_wp2_with fail
              go_quiet (fail)
              have hHd := HQ.out nq
              go_wp2_with fail
              refine ris8 (by kernel_rfl) (own_moves hown (KP.moves (And.left (by assumption))) (fun _ _ h => h)) (show (k' + 1) ≤ M.length by omega) hc3 (by omega) rfl (by first | rfl | go_num) hik (And.left (And.right (by assumption))) (Nat.lt_of_lt_of_le hgr (KP.moves (And.left (by assumption))).size) ?_
              intro u33 u34 u35 u36 u37 u38 u39 u40 u41 u42 u43 v6 w5 ho5 hm5
              obtain ⟨hmw, hmw5, hb0⟩ := mids hm5 (And.left (by assumption)) hm
              have hsl := own_moves hown hmw (fun _ _ h => h)
              have HB := Lib.hid hb0
              have HM5 := Lib.hid hmw5
              have hs9 : Src w5 (if c3 = k' + 1 then some ⟨g3, 0, none⟩ else some ⟨g3, (k' + 1) * 2, none⟩) (M.length - (k' + 1)) (cellsR (M.drop (k' + 1))) := src_dropR hsl hc3
              have hfin := HINS.out (k' + 1) (by omega) HGT.out HLO
              have h63 : (k' + 1) + 1 + (M.length - (k' + 1)) ≤ maxLen ∧ ((k' + 1) + 1 + (M.length - (k' + 1))) * 24 ≤ 140737488355328 := by unfold maxLen; omega
              have HFIN := Lib.hid hfin
              have H63 := Lib.hid h63
              have b6 : ((k' + 1) : Int) ≤ (M.length : Int) := by omega
              have b7 : (0 : Int) ≤ ((k' + 1) : Int) := by omega
              have b8 : (M.length : Int) ≤ (c3 : Int) := by omega
              clear hx3 hfin hb0 hmw hmw5 h63
              go_wp2_with (first
                | (at_builtin; go_must (refine wpList_append_src _ rfl (.tmp 44) (.tmp 47) 93 rfl _ 100 i4 _ 2 24 Try.underlying93 hi4 hq0 hq1 hq2 hq3 hq4 v6 ((k' + 1) + 1) (cellsR (M.take (k' + 1) ++ [(x1, x2)])) rfl ho5 (if c3 = k' + 1 then some ⟨g3, 0, none⟩ else some ⟨g3, (k' + 1) * 2, none⟩) (M.length - (k' + 1)) _ (cellsR (M.drop (k' + 1))) rfl (by rw [cellsR_len]; simp) hs9 (cellsR_one _) H63.out.1 H63.out.2 hm5.size ?_)
                   intro v1 w6 hn6 hg6 hl6)
                | fail)
              all_goals
                go_roundg (ks.length - (i + 1))
                case measure => omega
                case rel => exact ⟨i + 1, _, by omega, rfl, HFIN.out.1, HFIN.out.2, by go_num, own_weak HB.out (by rw [← cellsR_append] at hn6; have e : (M.take (k' + 1) ++ [(x1, x2)] ++ M.drop (k' + 1)).length = (k' + 1) + 1 + (M.length - (k' + 1)) := (by simp <;> omega); rw [e]; exact hn6), HM5.out.grown hg6 (fun b hb hlt => by have := (ho5.lt b hb).1; have := HB.out; omega)⟩
            · dsimp only at e1 e2
              go_wp2_with fail
              go_quiet (fail)
              have hHd := HQ.out nq
              go_wp2_with fail
              refine ris8 (by kernel_rfl) (own_moves hown (KP.moves (And.left (by assumption))) (fun _ _ h => h)) (show (k' + 1) ≤ M.length by omega) hc3 (by omega) rfl (by first | rfl | go_num) hik (And.left (And.right (by assumption))) (Nat.lt_of_lt_of_le hgr (KP.moves (And.left (by assumption))).size) ?_
              intro u33 u34 u35 u36 u37 u38 u39 u40 u41 u42 u43 v6 w5 ho5 hm5
              obtain ⟨hmw, hmw5, hb0⟩ := mids hm5 (And.left (by assumption)) hm
              have hsl := own_moves hown hmw (fun _ _ h => h)
              have HB := Lib.hid hb0
              have HM5 := Lib.hid hmw5
              have hs9 : Src w5 (if c3 = k' + 1 then some ⟨g3, 0, none⟩ else some ⟨g3, (k' + 1) * 2, none⟩) (M.length - (k' + 1)) (cellsR (M.drop (k' + 1))) := src_dropR hsl hc3
              have hfin := HINS.out (k' + 1) (by omega) HGT.out HLO
              have h63 : (k' + 1) + 1 + (M.length - (k' + 1)) ≤ maxLen ∧ ((k' + 1) + 1 + (M.length - (k' + 1))) * 24 ≤ 140737488355328 := by unfold maxLen; omega
              have HFIN := Lib.hid hfin
              have H63 := Lib.hid h63
              have b6 : ((k' + 1) : Int) ≤ (M.length : Int) := by omega
              have b7 : (0 : Int) ≤ ((k' + 1) : Int) := by omega
              have b8 : (M.length : Int) ≤ (c3 : Int) := by omega
              clear hx3 hfin hb0 hmw hmw5 h63
              go_wp2_with (first
                | (at_builtin; go_must (refine wpList_append_src _ rfl (.tmp 44) (.tmp 47) 93 rfl _ 100 i4 _ 2 24 Try.underlying93 hi4 hq0 hq1 hq2 hq3 hq4 v6 ((k' + 1) + 1) (cellsR (M.take (k' + 1) ++ [(x1, x2)])) rfl ho5 (if c3 = k' + 1 then some ⟨g3, 0, none⟩ else some ⟨g3, (k' + 1) * 2, none⟩) (M.length - (k' + 1)) _ (cellsR (M.drop (k' + 1))) rfl (by rw [cellsR_len]; simp) hs9 (cellsR_one _) H63.out.1 H63.out.2 hm5.size ?_)
                   intro v1 w6 hn6 hg6 hl6)
                | fail)
              all_goals
                go_roundg (ks.length - (i + 1))
                case measure => omega
                case rel => exact ⟨i + 1, _, by omega, rfl, HFIN.out.1, HFIN.out.2, by go_num, own_weak HB.out (by rw [← cellsR_append] at hn6; have e : (M.take (k' + 1) ++ [(x1, x2)] ++ M.drop (k' + 1)).length = (k' + 1) + 1 + (M.length - (k' + 1)) := (by simp <;> omega); rw [e]; exact hn6), HM5.out.grown hg6 (fun b hb hlt => by have := (ho5.lt b hb).1; have := HB.out; omega)⟩
    · obtain rfl : i = ks.length := by omega
      rw [List.take_length] at hM
      clear hx
      go_wp2
      go_ret
      exact ⟨_, M, rfl, hM, hMs, hown, hm⟩
end Go.Proofs.Ytbfnmgjpkieaoaa.Tb
