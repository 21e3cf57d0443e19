/-
  The table: Bind.
-/
import Derived.Test.YtbfnmgjpkieaoaaTabUnbind
import Derived.WalkSpells
import Derived.Shelf.SlIter.Collect
namespace Go.Proofs.Ytbfnmgjpkieaoaa.Tb
open Go Go.RowKit Go.Maps Go.Sort Go.Proofs

/-- What Bind answers. -/
def bindE (M : List (Nm × Int)) (n : Nm) (to : Int) : Int := if to < 1 then 1 else if goodN n = false then 4 else if hasN M n = false ∧ 64 ≤ M.length then 6 else 0
def bindV (M : List (Nm × Int)) (n : Nm) (to : Int) : Int := if bindE M n to = 0 then getZ M n else 0
def bindM (M : List (Nm × Int)) (n : Nm) (to : Int) : List (Nm × Int) := if bindE M n to = 0 then putM M n to else M
def BindPost (w : World) (base p : Nat) (M : List (Nm × Int)) (v r : Int) (e : Ending) (w' : World) : Prop := e = .returned (.tuple #[.int .i64 v, .int .i64 r]) ∧ TabAt w' base p M ∧ Moves (TabOwn w p) w w'
set_option maxRecDepth 100000 in
set_option maxHeartbeats 4000000 in
theorem bind_any {w : World} {base p : Nat} {M M' : List (Nm × Int)} (h : TabAt w base p M) (hL : LenCell w) (n : Nm) {to : Int} (hto : (Lit.int .i64 to).wf = true) (hbase : base ≤ w.heap.size) (hlen : M.length ≤ 1000000) {v r : Int} (hr : bindE M n to = r) (hv : bindV M n to = v) (hM' : bindM M n to = M') :
    Calls Try.prog 46 #[.pointer (some ⟨p, 0, none⟩), .agg (encM n).toArray, .int .i64 to] w (BindPost w base p M' v r) := by
  have h0 := h
  have hW := (Moves.refl (fun _ => False) w).alloc (.cells (encM n).toArray 77)
  have hbk : (w.alloc (.cells (encM n).toArray 77)).heap[w.heap.size]? = some (.cells (encM n).toArray 77 (0, 0)) := heap_alloc_new _ _
  have h1 := h.moves0 hW
  obtain ⟨mb, hbl, hp, hx⟩ := h1
  have hr0 := range_of hbk
  have c0 : (w.alloc (.cells (encM n).toArray 77)).cell? ⟨p, 0, none⟩ = some (.map mb) := by simp only [World.cell?, hbl]; rfl
  have hsz : w.heap.size < (w.alloc (.cells (encM n).toArray 77)).heap.size := by simp
  have hpl := h.lt
  have HR := Lib.hid (And.intro hr (And.intro hv hM'))
  have HL := Lib.hid (hL.moves0 hW)
  have HT := Lib.hid hto
  clear h hbk hL hr hv hM' hto
  have qT : ∀ (w : World) (r : Option Nat), (binOp .eql 82 (.map r) (.map none)).run Try.prog w = .ok (.bool r.isNone) w := fun w r => run_eql_map_nil w _ _ _ r Try.underlying82
  have hmm := @run_makeMap Try.prog
  go_enter Try.func46, Try.ntmps46
  go_wp2_with fail
  generalize w.alloc (.cells (encM n).toArray 77) = W at hW hx hr0 c0 hbl hsz HL ⊢
  have hrun := fun q => (hx.drewN q).look n rfl rfl
  have hld : ∀ q, (Instr.loadAt 77 (.pointer (some ⟨w.heap.size, 0, none⟩))).run Try.prog (W.drewN q) = .ok (.agg (encM n).toArray) (W.drewN q) := fun q =>
    run_loadAt_mid (W.drewN q) w.heap.size 0 77 (encM n) _ (fun j v hv => (World.cell?_drewN _ _ _).trans (hr0 j v hv)) undN rfl (sizeM n)
  have HM := Lib.hid hW
  have HX := Lib.hid hx
  have HB := Lib.hid hbl
  have hkey := keyOf_N n
  rw [encN_ints] at hkey
  have HK := Lib.hid hkey
  have HRt := Lib.hid (fun (V : World) (hV : LenCell V) => right_any n hV (b := goodN n) rfl)
  have HR0 := Lib.hid hr0
  clear hx hr0 hW hbl hkey
  generalize hXe : (encM n).toArray = X at hrun hld HK HRt ⊢
  have HE := Lib.hid hXe
  have HD := Lib.hid hld
  clear hld hXe
  obtain ⟨gz, hgz⟩ : ∃ z, getZ M n = z := ⟨_, rfl⟩
  obtain ⟨gb, hgb⟩ : ∃ z, hasN M n = z := ⟨_, rfl⟩
  rw [hgz, hgb] at hrun
  have HG := Lib.hid (And.intro hgz hgb)
  clear hgz hgb
  refine wp_region_quiet_lit (by kernel_rfl) (by kernel_rfl) ?_
  repeat (first
    | (refine wpQuiet_load_mid rfl 77 (.tmp 4) rfl _ (.agg X) rfl (fun w5 hw5 => by obtain ⟨q, rfl⟩ := hw5; exact HD.out q) ?_)
    | quiet_step (fail))
  refine wpQuiet_nil ?_
  intro _ hw'
  obtain ⟨nq, hw''⟩ := hw'
  subst hw''
  clear hrun
  have c2 : (W.drewN nq).cell? ⟨p, 0, none⟩ = some (.map mb) := by rw [World.cell?_drewN]; exact c0
  have HM2 := Lib.hid (HM.out.drewN nq)
  have HX2 := Lib.hid (HX.out.drewN nq)
  have HL2 := Lib.hid (HL.out.moves0 ((Moves.refl _ W).drewN nq))
  have HR2 := Lib.hid (rangeAt_moves HR0.out ((Moves.refl (fun _ => False) W).drewN nq) hsz (fun h => h))
  have HB2 : Hid ((W.drewN nq).heap[p]? = some (.cells #[.map mb] 84 (0, 0))) := Lib.hid HB.out
  rw [show encM n = (encM n).toArray.toList from rfl, HE.out] at HR2
  have hXs : X.toList.length = 32 := by rw [← HE.out]; exact encM_len n
  have HXs := Lib.hid hXs
  have hs2 : w.heap.size < (W.drewN nq).heap.size := hsz
  clear HM HX HL HR0 HB HD c0 hXs hsz
  generalize W.drewN nq = W2 at c2 HM2 HX2 HL2 HR2 HB2 hs2 ⊢
  by_cases h1 : to < 1
  · have hE : bindE M n to = 1 := by unfold bindE; rw [if_pos h1]
    have e1 : r = 1 := by rw [← HR.out.1, hE]
    have e2 : v = 0 := by rw [← HR.out.2.1]; unfold bindV; rw [hE, if_neg (by decide)]
    have e3 : M' = M := by rw [← HR.out.2.2]; unfold bindM; rw [hE, if_neg (by decide)]
    subst e1 e2
    have HR := Lib.hid e3
    clear e3 hE
    go_wp2_with fail
    go_ret2
    rw [HR.out]
    exact ⟨rfl, h0.moves0 HM2.out, HM2.out.none _⟩
  cases hgd : goodN n
  · have hE : bindE M n to = 4 := by unfold bindE; rw [if_neg h1, if_pos hgd]
    have e1 : r = 4 := by rw [← HR.out.1, hE]
    have e2 : v = 0 := by rw [← HR.out.2.1]; unfold bindV; rw [hE, if_neg (by decide)]
    have e3 : M' = M := by rw [← HR.out.2.2]; unfold bindM; rw [hE, if_neg (by decide)]
    subst e1 e2
    have HR := Lib.hid e3
    rw [hgd] at HRt
    clear e3 hE hgd
    go_wp2_with (first
      | (refine wpList_load_midg rfl 77 (.tmp 4) rfl w.heap.size 0 rfl X.toList _ HR2.out undN rfl (by rw [HXs.out]; exact sizeN) ?_)
      | (go_at_call 74
         refine (HRt.out _ HL2.out).mono ?_
         rintro e w3 ⟨rfl, hm3⟩)
      | fail)
    go_ret2
    have := HM2.out.trans hm3
    rw [HR.out]
    exact ⟨rfl, h0.moves0 this, this.none _⟩
  -- TAIL
  rw [hgd] at HRt
  go_upto_region 6 with (first
    | (refine wpList_load_midg rfl 77 (.tmp 4) rfl w.heap.size 0 rfl X.toList _ HR2.out undN rfl (by rw [HXs.out]; exact sizeN) ?_)
    | (go_at_call 74
       refine (HRt.out _ HL2.out).mono ?_
       rintro e w3 ⟨rfl, hm3⟩)
    | fail)
  have c3 : w3.cell? ⟨p, 0, none⟩ = some (.map mb) := (hm3.cell (p := ⟨p, 0, none⟩) (Nat.lt_of_lt_of_le hpl HM2.out.size) (fun h => h)).trans c2
  have HM3 := Lib.hid (HM2.out.trans hm3)
  have HX3 := Lib.hid (HX2.out.moves hm3 (fun _ _ h => h))
  have HB3 : Hid (w3.heap[p]? = some (.cells #[.map mb] 84 (0, 0))) := Lib.hid ((hm3.block p (Nat.lt_of_lt_of_le hpl HM2.out.size) (fun h => h)).trans HB2.out)
  have HR3 := Lib.hid (rangeAt_moves HR2.out hm3 hs2 (fun h => h))
  have hs3 : w.heap.size < w3.heap.size := Nat.lt_of_lt_of_le hs2 hm3.size
  clear c2 HM2 HX2 HB2 HR2 hs2 hm3 HL2 HRt
  by_cases h6 : gb = false ∧ 64 ≤ M.length
  · obtain ⟨rfl, h64⟩ := h6
    have hE : bindE M n to = 6 := by unfold bindE; rw [if_neg (by omega), hgd, if_neg (by decide), if_pos ⟨HG.out.2, h64⟩]
    have e1 : r = 6 := by rw [← HR.out.1, hE]
    have e2 : v = 0 := by rw [← HR.out.2.1]; unfold bindV; rw [hE, if_neg (by decide)]
    have e3 : M' = M := by rw [← HR.out.2.2]; unfold bindM; rw [hE, if_neg (by decide)]
    subst e1 e2
    have HR := Lib.hid e3
    clear e3 hE hgd
    rcases HX3.out with ⟨rfl, rfl⟩ | ⟨m, D, rfl, hbm, hown, hk⟩
    · simp at h64
    · have hl := fun ty => hown.len Try.underlying82 ty
      rw [hk.size] at hl
      clear hown hk
      go_wp2_with fail
      go_ret2
      rw [HR.out]
      exact ⟨rfl, h0.moves0 HM3.out, HM3.out.none _⟩
  have hE : bindE M n to = 0 := by unfold bindE; rw [if_neg (by omega), hgd, if_neg (by decide), HG.out.2, if_neg h6]
  have e1 : r = 0 := by rw [← HR.out.1, hE]
  have e2 : v = gz := by rw [← HR.out.2.1]; unfold bindV; rw [hE, if_pos rfl]; exact HG.out.1
  have e3 : M' = putM M n to := by rw [← HR.out.2.2]; unfold bindM; rw [hE, if_pos rfl]
  subst e1 e2
  clear HR
  have HR := Lib.hid e3
  clear e3 hE hgd HG
  have pI := fun (hw : (Lit.int .i64 to).wf = true) => plainElem_int (H := Unit) (P := Try.prog) Try.underlying3 hw
  have hl0 := fun ty => Maps.len_nil (P := Try.prog) (w := w3) Try.underlying82 ty
  rcases HX3.out with ⟨rfl, rfl⟩ | ⟨m, D, rfl, hbm, hown, hk⟩
  · have f3 : w3.frozen? ⟨p, 0, none⟩ = false := by simp [World.frozen?, HB3.out]
    have hp3 : p < w3.heap.size := Nat.lt_trans hpl hs3
    cases gb
    all_goals
      go_upto_region 10 with fail
      have hb5 : ((w3.setCell ⟨p, 0, none⟩ (.map (some w3.heap.size))).alloc (.map #[] 0)).heap[p]? = some (.cells #[.map (some w3.heap.size)] 84 (0, 0)) := (Below.heap_alloc _ _ _ (by simpa [World.setCell] using hp3)).trans (heap_setCell_box_a _ HB3.out)
      have hown5 : ((w3.setCell ⟨p, 0, none⟩ (.map (some w3.heap.size))).alloc (.map #[] 0)).ownsMap Try.prog 77 RI w3.heap.size 0 (.map []) := by
        have := World.ownsMap_made (H := Unit) (w3.setCell ⟨p, 0, none⟩ (.map (some w3.heap.size))) Try.prog 77 RI
        rwa [show (w3.setCell ⟨p, 0, none⟩ (.map (some w3.heap.size))).heap.size = w3.heap.size by simp [World.setCell]] at this
      have hM5 : Moves (TabOwn w p) w ((w3.setCell ⟨p, 0, none⟩ (.map (some w3.heap.size))).alloc (.map #[] 0)) := (Moves.setCell (p := ⟨p, 0, none⟩) (HM3.out.none (TabOwn w p)) (fun _ => .inl rfl) _).alloc _
      have hR5 : ((w3.setCell ⟨p, 0, none⟩ (.map (some w3.heap.size))).alloc (.map #[] 0)).rangeAt w.heap.size 0 X.toList := by
        refine rangeAt_moves (S := fun k => k = p) HR3.out ((Moves.setCell (p := ⟨p, 0, none⟩) (Moves.refl (fun k => k = p) w3) (fun _ => rfl) _).alloc _) hs3 (by omega)
      have c5 : ((w3.setCell ⟨p, 0, none⟩ (.map (some w3.heap.size))).alloc (.map #[] 0)).cell? ⟨p, 0, none⟩ = some (.map (some w3.heap.size)) := by simp only [World.cell?, hb5]; rfl
      have hbm : base ≤ w3.heap.size := by omega
      have HB5 := Lib.hid hb5
      have HO5 := Lib.hid hown5
      have HM5 := Lib.hid hM5
      have HR5 := Lib.hid hR5
      have HK5 : Hid (VOf (.map []) []) := Lib.hid VOf.nil
      have hs5 := hs3
      clear hb5 hown5 hM5 hR5 c3 f3 hl0 HB3
      generalize hmq : w3.heap.size = m at *
      obtain ⟨D, hD⟩ : ∃ D : DataW Unit, D = .map [] := ⟨_, rfl⟩
      rw [← hD] at HO5 HK5
      generalize (w3.setCell ⟨p, 0, none⟩ (.map (some m))).alloc (.map #[] 0) = W5 at HB5 HO5 HM5 HR5 c5 ⊢
      obtain ⟨M, hMe⟩ : ∃ M0 : List (Nm × Int), M0 = [] := ⟨_, rfl⟩
      have HMe := Lib.hid hMe
      rw [← HMe.out] at HR HK5
      have HO5 : Hid (W5.ownsMap Try.prog 77 RI m M.length D) := Lib.hid (by rw [HMe.out]; exact HO5.out)
      clear hMe hD h6 HX3 h0
      have hlen : M.length ≤ 1000000 := by rw [HMe.out]; simp
      have HLD : Hid ((Instr.loadAt 77 (.pointer (some ⟨w.heap.size, 0, none⟩))).run Try.prog W5.drew = .ok (.agg X) W5.drew) := Lib.hid (by
        have h5 := run_loadAt_mid (P := Try.prog) W5.drew w.heap.size 0 77 X.toList _ ((World.rangeAt_drew _ _ _ _).2 HR5.out) undN rfl (by rw [HXs.out]; exact sizeN)
        exact h5)
      refine wp_region_still_tail 6 (by kernel_rfl) (by kernel_rfl) ?_
      simp only [List.take_succ_cons, List.take_zero, List.drop_succ_cons, List.drop_zero]
      repeat (first
        | (refine wpStill_load_mid rfl 77 (.tmp 4) rfl _ (.agg X) rfl HLD.out ?_)
        | still_step)
      refine wpStill_nil ?_
      change wpList _ _ _ _ _ W5.drew
      have hown3 := HO5.out.drew
      have hkey := HK.out
      have hlm : M.length < maxLen := by unfold maxLen; omega
      refine wpList_mapUpdate_in _ rfl _ _ _ 82 rfl 77 3 lawN Try.underlying82 _ m _ D rfl hown3 hlm _ _ _ rfl rfl hkey (dI to) [] (pI HT.out) ?_
      intro w6 hown6 hturn6
      have H6 := Lib.hid (And.intro hown6 hturn6)
      clear hown6 hturn6 hown3 hkey hlm c5 HLD
      go_frame
      go_wp2
      go_ret2
      obtain ⟨hown6, hturn6⟩ := H6.out
      have hk6 := HK5.out.put (HO5.out.tidy lawN) n to
      rw [HR.out]
      have hne : m ≠ p := by
        intro e
        obtain ⟨es, clock, hb, _⟩ := HO5.out
        rw [e, HB5.out] at hb
        cases hb
      have hg := hturn6.grown
      refine ⟨rfl, ⟨some m, (hg.block p (Array.getElem?_eq_some_iff.1 HB5.out).1 (fun e => hne (by cases e; rfl))).trans HB5.out, hp, .inr ⟨m, _, rfl, hbm, ?_, hk6⟩⟩, ?_⟩
      · rw [← hk6.size]
        exact ownsMap_tight hown6
      · exact HM5.out.drew.turned hturn6 (fun hlt => absurd hlt (by have := HM3.out.size; omega))
  · have HMm : Hid (m < w.heap.size → TabOwn w p m) := Lib.hid (fun hlt => .inr (by rw [← HM3.out.block p hpl (fun h => h)]; exact HB3.out))
    have hl := fun ty => hown.len Try.underlying82 ty
    rw [hk.size] at hl
    cases gb
    all_goals
      try (have h64 : ¬ ((M.length : Int) ≥ 64) := fun hh => h6 ⟨rfl, by omega⟩)
      go_upto_region 10 with fail
      have c5 := c3
      have HB5 := HB3
      have HO5 := Lib.hid hown
      have HM5 := Lib.hid (HM3.out.none (TabOwn w p))
      have HR5 := HR3
      have HK5 := Lib.hid hk
      clear c3 HB3 hown hk hl hl0 HX3 HR3 h6 h0
      try clear h64
      generalize w3 = W5 at *
      have HLD : Hid ((Instr.loadAt 77 (.pointer (some ⟨w.heap.size, 0, none⟩))).run Try.prog W5.drew = .ok (.agg X) W5.drew) := Lib.hid (by
        have h5 := run_loadAt_mid (P := Try.prog) W5.drew w.heap.size 0 77 X.toList _ ((World.rangeAt_drew _ _ _ _).2 HR5.out) undN rfl (by rw [HXs.out]; exact sizeN)
        exact h5)
      refine wp_region_still_tail 6 (by kernel_rfl) (by kernel_rfl) ?_
      simp only [List.take_succ_cons, List.take_zero, List.drop_succ_cons, List.drop_zero]
      repeat (first
        | (refine wpStill_load_mid rfl 77 (.tmp 4) rfl _ (.agg X) rfl HLD.out ?_)
        | still_step)
      refine wpStill_nil ?_
      change wpList _ _ _ _ _ W5.drew
      have hown3 := HO5.out.drew
      have hkey := HK.out
      have hlm : M.length < maxLen := by unfold maxLen; omega
      refine wpList_mapUpdate_in _ rfl _ _ _ 82 rfl 77 3 lawN Try.underlying82 _ m _ D rfl hown3 hlm _ _ _ rfl rfl hkey (dI to) [] (pI HT.out) ?_
      intro w6 hown6 hturn6
      have H6 := Lib.hid (And.intro hown6 hturn6)
      clear hown6 hturn6 hown3 hkey hlm c5 HLD
      go_frame
      go_wp2
      go_ret2
      obtain ⟨hown6, hturn6⟩ := H6.out
      have hk6 := HK5.out.put (HO5.out.tidy lawN) n to
      rw [HR.out]
      have hne : m ≠ p := by
        intro e
        obtain ⟨es, clock, hb, _⟩ := HO5.out
        rw [e, HB5.out] at hb
        cases hb
      have hg := hturn6.grown
      refine ⟨rfl, ⟨some m, (hg.block p (Array.getElem?_eq_some_iff.1 HB5.out).1 (fun e => hne (by cases e; rfl))).trans HB5.out, hp, .inr ⟨m, _, rfl, hbm, ?_, hk6⟩⟩, ?_⟩
      · rw [← hk6.size]
        exact ownsMap_tight hown6
      · exact HM5.out.drew.turned hturn6 (fun hlt => HMm.out hlt)
end Go.Proofs.Ytbfnmgjpkieaoaa.Tb
