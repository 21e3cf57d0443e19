/-
  The table: the walk of Roots.
-/
import Derived.Test.YtbfnmgjpkieaoaaTabRoots
import Derived.Deep.RegionHeldLaw
namespace Go.Proofs.Ytbfnmgjpkieaoaa.Tb
open Go Go.RowKit Go.Maps Go.Sort Go.Proofs Go.Shelf

theorem infoR : (Try.prog.info? 100).map (fun i => (i.zero, i.size, i.bytes)) = some (some (.agg #[.string ByteArray.empty, .int .i64 0]), 2, 24) := by kernel_rfl
def zOf : Value → Int | .int _ q => q | _ => 0
theorem MapIs.look1 {w : World} {base : Nat} {mb : Option Nat} {M : List (Nm × Int)} (h : MapIs w base mb M) (n : Nm) {v : Int} (hv : getZ M n = v) :
    (Instr.lookup 82 (.map mb) (.agg (encM n).toArray) false).run Try.prog w = .ok (.int .i64 v) w := by
  have hkey := keyOf_N n
  rw [encN_ints] at hkey
  subst hv
  rcases h with ⟨rfl, rfl⟩ | ⟨m, D, rfl, -, hown, hk⟩
  · exact Maps.look_nil false lawN Try.underlying82 (zeroI w) hkey
  · obtain ⟨v, ps, hrun, hv⟩ := hown.lookup lawN Try.underlying82 (zeroI w) (plainElem_int Try.underlying3 iw0) hkey
    obtain ⟨c, rfl, hz, -⟩ := plainElem_int_inv Try.underlying3 hv
    rw [hrun]
    cases hg : hasN M n
    · obtain ⟨h1, h2⟩ := hasN_false hg
      rw [atKey_of_not_has (hk.get_none h1)] at hz
      have hz1 := congrArg Prod.fst hz
      simp at hz1
      rw [h2, ← hz1]
    · have h1 := hasN_true hg
      obtain ⟨h2, h3⟩ := hk.get_some h1 (.lit (.int .i64 0))
      rw [h3] at hz
      have hz1 := congrArg Prod.fst hz
      simp [dI] at hz1
      rw [← hz1]

theorem string_nm (x : Nm) {w : World} (h : LenCell w) : Calls Try.prog 45 #[.agg (encM x).toArray] w (ValPost w (.string (txt x))) := by
  obtain ⟨m, hm⟩ := h
  have := string_any (ints_len x) w hm
  rw [encN_ints, textOf_ints] at this
  exact this
set_option maxRecDepth 100000 in
set_option maxHeartbeats 4000000 in
theorem roots_any {w : World} {base p : Nat} {M : List (Nm × Int)} (h : TabAt w base p M) (hL : LenCell w) (hlen : M.length ≤ 1000000) : Calls Try.prog 53 #[.pointer (some ⟨p, 0, none⟩)] w (RootsPost w (rootsM M)) := by
  have h0 := h
  obtain ⟨mb, hb, hp, hx⟩ := h
  have hpl := h0.lt
  obtain ⟨N, hN, hseq⟩ : ∃ N, N ≤ 1000000 ∧ SeqGives Fence.wide 2 Try.prog 96 #[.pointer (some ⟨w.heap.size, 0, none⟩)] encA (fun ss => ss.Perm (M.map Prod.fst)) N (w.alloc (.cells #[.map mb] 82)) := by
    rcases hx with ⟨rfl, rfl⟩ | ⟨m, D, rfl, hbm, hown, hk⟩
    · exact ⟨0, by omega, keysK_gives_nil Fence.wide 2 trivial rfl w.heap.size _ (by simp) (by simp)⟩
    · exact ⟨Maps.size D, by rw [hk.size]; exact hlen, keysK_gives Fence.wide 2 trivial rfl (by omega) w.heap.size m _ D hk _ (by simp) (by simp) (hown.alloc _)⟩
  have c0 : w.cell? ⟨p, 0, none⟩ = some (.map mb) := by simp [World.cell?, hb]
  have cK := fun W => (callsIn_wide (n := 5)).1 (keysK_make Fence.wide 5 trivial rfl mb W)
  have cS := (callsIn_wide (n := 5)).1 (sortedFuncN 96 #[.pointer (some ⟨w.heap.size, 0, none⟩)] (enters_of Try.func96 (by kernel_rfl) rfl) hN (by rw [List.length_map]; exact hlen) _ hseq)
  rw [List.length_map] at cS
  have HK := Lib.hid cK
  have HS := Lib.hid cS
  have hLb := hL
  have HX := Lib.hid (And.intro hx (And.intro hLb hb))
  clear hseq cK cS hx hL hLb hb h0
  go_enter Try.func53, Try.ntmps53
  go_wp2_with (first
    | (go_at_call 77
       refine (HK.out _).mono ?_
       rintro e w' ⟨rfl, rfl⟩)
    | (go_at_call 76
       refine HS.out.mono ?_
       rintro e w1 ⟨A, c, rfl, hrow, hbl⟩
       obtain ⟨A', c', hv', hc1, hc2, hc3, -, -⟩ := own_form hrow
       cases hv')
    | fail)
  have hm1 : Moves (fun _ => False) w w1 := Moves.of_below (((Below.refl _ w).alloc (Nat.le_refl _) _).trans (hbl.mono (by simp)))
  have c1 : w1.cell? ⟨p, 0, none⟩ = some (.map mb) := (hm1.cell (p := ⟨p, 0, none⟩) hpl (fun h => h)).trans c0
  have hp1 : p < w1.heap.size := Nat.lt_of_lt_of_le hpl hm1.size
  obtain ⟨ks, hks⟩ : ∃ ks, sortN (M.map Prod.fst) = ks := ⟨_, rfl⟩
  have hkl : ks.length = M.length := by rw [← hks, sortN_len, List.length_map]
  have hrl : rootsM M = ks.map fun n => (txt n, getZ M n) := by rw [← hks]; rfl
  rw [hks] at hrow
  have H1 := Lib.hid (And.intro (HX.out.1.moves hm1 (fun _ _ h => h)) (And.intro (HX.out.2.1.moves0 hm1) (And.intro hm1 (And.intro hkl (And.intro hrl hrow)))))
  have HP1 := Lib.hid ((hm1.block p hpl (fun h => h)).trans HX.out.2.2)
  clear hks hkl hrl hrow hbl HK HS hm1 c0
  obtain ⟨i4, hi4, hq0, hq1, hq2⟩ := info_parts infoR
  have hq3 : (Value.agg #[.string ByteArray.empty, .int .i64 0]).cells.size = 2 := rfl
  have hq4 : (0 : Nat) < 2 := by decide
  have HI := Lib.hid (And.intro hi4 (And.intro hq0 (And.intro hq1 (And.intro hq2 (And.intro hq3 hq4)))))
  clear hi4 hq0 hq1 hq2 hq3 hq4
  go_loopw [3, 13] (fun u3 u13 wr => ∃ (i : Nat) (A1 : Option Addr) (k1 : Nat), i ≤ M.length ∧ u13 = .int .i64 i ∧ u3 = .slice A1 i k1 ∧ wr.ownsRow w1.heap.size 100 2 (.slice A1 i k1) i (cellsR ((rootsM M).take i)) ∧ Moves (fun _ => False) w1 wr) (fun _ u13 _ => M.length - (zOf u13).toNat)
  case atStart => exact ⟨0, none, 0, Nat.zero_le _, rfl, rfl, World.ownsRow_nil _ _ _ _, Moves.refl _ _⟩
  case round =>
    obtain ⟨i, A1, k1, hi, rfl, rfl, hown, hMv⟩ := hrel
    by_cases hin : i < M.length
    · obtain ⟨hmap, hlc, -, hkl, hrl, hrow⟩ := H1.out
      obtain ⟨g, rfl, hgb, hgl, hrg⟩ := name_at hrow hkl (by omega : i < ks.length)
      have hrl1 : (rootsM M).take (i + 1) = (rootsM M).take i ++ [(txt (ks[i]'(by omega)), getZ M (ks[i]'(by omega)))] := by
        rw [List.take_succ_eq_append_getElem (by rw [hrl, List.length_map]; omega)]
        congr 2
        simp only [hrl, List.getElem_map]
      have hrg1 : wr.rangeAt g (i * 32) (encM (ks[i]'(by omega))) := fun j v hv => (hMv.cell (p := ⟨g, i * 32 + j, none⟩) hgl (fun h => h)).trans (hrg j v hv)
      generalize (ks[i]'(by omega)) = x at hrl1 hrg1
      have HRG := Lib.hid hrg1
      have HMV := Lib.hid hMv
      have HO := Lib.hid hown
      have HRL := Lib.hid hrl1
      have i0 : (0 : Int) ≤ (i : Int) := by omega
      have i1 : (i : Int) < (M.length : Int) := by omega
      clear hmap hlc hkl hrl hrow hrg hrl1 hrg1 hMv hown
      have hwr : Moves (fun _ => False) w1 (wr.alloc (.cells (encM x).toArray 77)) := HMV.out.alloc _
      go_upto_region 5 with (first
        | (refine wpList_load_mid (op := ⟨some 16, _, _, _, _, _⟩) rfl 77 (.tmp 15) rfl g (i * 32) rfl (encM x) _ HRG.out undN rfl (sizeM x) ?_
           go_frame)
        | (refine wpList_store_eq (o := ⟨none, .store _ _ _, _, _, _, _⟩) rfl 77 (.tmp 5) (.tmp 16) rfl _ _ rfl rfl _ (store_new32 _ _ rfl x) ?_
           go_frame)
        | fail)
      have hkb : wr.heap.size < (wr.alloc (.cells (encM x).toArray 77)).heap.size := by simp
      have hkr := range_of (heap_alloc_new wr (.cells (encM x).toArray 77))
      have HOW := Lib.hid (own_moves (S := fun _ => False) HO.out ((Moves.refl _ wr).alloc (.cells (encM x).toArray 77)) (fun _ _ h => h))
      have hob : ∀ k, (Value.slice A1 i k1).ownBlock = some k → w1.heap.size ≤ k ∧ k < wr.heap.size := fun k hk => HO.out.lt k hk
      have HOB := Lib.hid hob
      clear hob HRG HMV HO i0 i1
      generalize wr.heap.size = kb at hkb hkr HOB ⊢
      generalize wr.alloc (.cells (encM x).toArray 77) = W at hwr hkb hkr HOW ⊢
      have HKeep : Hid (∀ W', Moves (fun k => (Value.slice A1 i k1).ownBlock = some k) W W' → W'.rangeAt kb 0 (encM x) ∧ W'.cell? ⟨p, 0, none⟩ = some (.map mb) ∧ (Instr.lookup 82 (.map mb) (.agg (encM x).toArray) false).run Try.prog W' = .ok (.int .i64 (getZ M x)) W' ∧ LenCell W') := Lib.hid fun W' hm => by
        have hno : ∀ k, k < w1.heap.size → ¬ ((Value.slice A1 i k1).ownBlock = some k) := fun k hk e => by have := (HOB.out k e).1; omega
        refine ⟨rangeAt_moves hkr hm hkb (fun e => by have := (HOB.out kb e).2; omega), ?_, ?_, ?_⟩
        · exact (hm.cell (p := ⟨p, 0, none⟩) (Nat.lt_of_lt_of_le hp1 hwr.size) (hno p hp1)).trans ((hwr.cell (p := ⟨p, 0, none⟩) hp1 (fun h => h)).trans c1)
        · refine MapIs.look1 (base := base) ?_ x rfl
          refine (H1.out.1.moves hwr (fun _ _ h => h)).moves hm (fun m e => ?_)
          rcases H1.out.1 with ⟨e0, -⟩ | ⟨m', D, e0, -, hown', -⟩
          · rw [e0] at e; cases e
          · have em : m' = m := by rw [e0] at e; exact Option.some.inj e
            exact hno m (em ▸ hown'.lt)
        · refine (H1.out.2.1.moves0 hwr).moves hm ?_
          obtain ⟨q, hq⟩ := H1.out.2.1
          exact hno _ (World.block_lt_of_cell? w1 _ hq)
      obtain ⟨s0, s1, s2, s3⟩ := HKeep.out W (Moves.refl _ W)
      have HWR := Lib.hid hwr
      have HB : Hid (w1.heap.size ≤ W.heap.size) := Lib.hid hwr.size
      have h63 : Hid (i + 1 ≤ maxLen ∧ (i + 1) * 24 ≤ 140737488355328) := Lib.hid (by unfold maxLen; omega)
      have hu77 := undN
      have hi77 := sizeM x
      have hl77 := encM_len x
      have hib : (i : Int) ≤ 1000000 := by omega
      clear hkr hkb hwr hc1 hc2 hc3 hgl hgb hlen hpl hp1 c1 hp
      generalize getZ M x = gz at s2 HRL HKeep
      -- REGION
      refine wp_region_held_drew (S := fun w' => w'.rangeAt kb 0 (encM x) ∧ w'.cell? ⟨p, 0, none⟩ = some (.map mb) ∧ (Instr.lookup 82 (.map mb) (.agg (encM x).toArray) false).run Try.prog w' = .ok (.int .i64 gz) w' ∧ LenCell w') (by kernel_rfl) (HKeep.out _ ((Moves.refl _ W).drew)) (fun hH0 => ?_)
      refine wpAnyH_take (i := 0) (oi := { dst := some 17, op := Op.move (Operand.tmp 3), type := 93, pos := "table.go:77", after := #[], guard := none }) (v := ?_) rfl (by kernel_rfl) (by kernel_rfl) (by kernel_rfl) (fun _ _ _ h => h) (Or.inl ⟨by rfl, ?_⟩) (by assumption) ?_
      rotate_left
      · intro w hSw
        try dsimp only at hSw
        obtain ⟨-, hSw1, hSw2, -⟩ := hSw
        go_simp
        try with_reducible rfl
      try simp only [Act.put, List.setIfInBounds_toArray, List.set_cons_zero, List.set_cons_succ]
      refine wpAnyH_take (i := 1) (oi := { dst := some 18, op := Op.load 77 (Operand.tmp 5), type := 77, pos := "table.go:77", after := #[], guard := none }) (v := .agg (encM x).toArray) rfl (by kernel_rfl) (by kernel_rfl) (by kernel_rfl) (fun _ _ _ h => h) (yieldsIf_load_mid (by rfl) 77 (.tmp 5) rfl kb 0 rfl (encM x) _ (fun w' hS => hS.1) undN rfl (sizeM x)) (by assumption) ?_
      try simp only [Act.put, List.setIfInBounds_toArray, List.set_cons_zero, List.set_cons_succ]
      refine wpAnyH_take (i := 3) (oi := { dst := some 20, op := Op.move (Operand.tmp 0), type := 92, pos := "table.go:77", after := #[], guard := none }) (v := ?_) rfl (by kernel_rfl) (by kernel_rfl) (by kernel_rfl) (fun _ _ _ h => h) (Or.inl ⟨by rfl, ?_⟩) (by assumption) ?_
      rotate_left
      · intro w hSw
        try dsimp only at hSw
        obtain ⟨-, hSw1, hSw2, -⟩ := hSw
        go_simp
        try with_reducible rfl
      try simp only [Act.put, List.setIfInBounds_toArray, List.set_cons_zero, List.set_cons_succ]
      refine wpAnyH_take (i := 4) (oi := { dst := some 21, op := Op.nilCheck (Operand.tmp 20), type := 0, pos := "table.go:77", after := #[{ on := 3, ground := Ground.data }], guard := none }) (v := ?_) rfl (by kernel_rfl) (by kernel_rfl) (by kernel_rfl) (fun _ _ _ h => h) (Or.inl ⟨by rfl, ?_⟩) (by assumption) ?_
      rotate_left
      · intro w hSw
        try dsimp only at hSw
        obtain ⟨-, hSw1, hSw2, -⟩ := hSw
        go_simp
        try with_reducible rfl
      try simp only [Act.put, List.setIfInBounds_toArray, List.set_cons_zero, List.set_cons_succ]
      refine wpAnyH_take (i := 5) (oi := { dst := some 22, op := Op.fieldAddr 84 (Operand.tmp 21) 0, type := 0, pos := "table.go:77", after := #[{ on := 4, ground := Ground.data }], guard := none }) (v := ?_) rfl (by kernel_rfl) (by kernel_rfl) (by kernel_rfl) (fun _ _ _ h => h) (Or.inl ⟨by rfl, ?_⟩) (by assumption) ?_
      rotate_left
      · intro w hSw
        try dsimp only at hSw
        obtain ⟨-, hSw1, hSw2, -⟩ := hSw
        go_simp
        try with_reducible rfl
      try simp only [Act.put, List.setIfInBounds_toArray, List.set_cons_zero, List.set_cons_succ]
      refine wpAnyH_take (i := 6) (oi := { dst := some 23, op := Op.load 82 (Operand.tmp 22), type := 82, pos := "table.go:77", after := #[{ on := 5, ground := Ground.data }], guard := none }) (v := ?_) rfl (by kernel_rfl) (by kernel_rfl) (by kernel_rfl) (fun _ _ _ h => h) (Or.inl ⟨by rfl, ?_⟩) (by assumption) ?_
      rotate_left
      · intro w hSw
        try dsimp only at hSw
        obtain ⟨-, hSw1, hSw2, -⟩ := hSw
        go_simp
        try with_reducible rfl
      try simp only [Act.put, List.setIfInBounds_toArray, List.set_cons_zero, List.set_cons_succ]
      refine wpAnyH_take (i := 7) (oi := { dst := some 24, op := Op.load 77 (Operand.tmp 5), type := 77, pos := "table.go:77", after := #[], guard := none }) (v := .agg (encM x).toArray) rfl (by kernel_rfl) (by kernel_rfl) (by kernel_rfl) (fun _ _ _ h => h) (yieldsIf_load_mid (by rfl) 77 (.tmp 5) rfl kb 0 rfl (encM x) _ (fun w' hS => hS.1) undN rfl (sizeM x)) (by assumption) ?_
      try simp only [Act.put, List.setIfInBounds_toArray, List.set_cons_zero, List.set_cons_succ]
      refine wpAnyH_take (i := 8) (oi := { dst := some 25, op := Op.lookup 82 (Operand.tmp 23) (Operand.tmp 24) false, type := 3, pos := "table.go:77", after := #[{ on := 6, ground := Ground.data }, { on := 7, ground := Ground.data }], guard := none }) (v := ?_) rfl (by kernel_rfl) (by kernel_rfl) (by kernel_rfl) (fun _ _ _ h => h) (Or.inl ⟨by rfl, ?_⟩) (by assumption) ?_
      rotate_left
      · intro w hSw
        try dsimp only at hSw
        obtain ⟨-, hSw1, hSw2, -⟩ := hSw
        go_simp
        try with_reducible rfl
      try simp only [Act.put, List.setIfInBounds_toArray, List.set_cons_zero, List.set_cons_succ]
      refine wpAnyH_ready (rs := [2]) (by kernel_rfl) (by simp) ?_
      refine AllReadyH.cons (o := { dst := some 19, op := Op.call { callee := Callee.value (Operand.func 45), args := #[Operand.tmp 18], argTypes := #[77] }, type := 9, pos := "table.go:77", after := #[{ on := 1, ground := Ground.data }], guard := none }) rfl (fun K hK => ?_) ?_
      · go_simp
        go_at_call 45
        refine (string_nm x hH0.2.2.2).mono ?_
        rintro e w5 ⟨rfl, hm5⟩
        go_wp2_with fail
        refine hK.out _ _ ?_ (fun hH1 => ?_)
        · refine HKeep.out _ ?_
          repeat (first | refine Moves.alloc ?_ _ | refine Moves.drew ?_ | exact Moves.refl _ _ | refine Moves.grown ?_ hg6 (fun k e _ => e) | refine Moves.trans ?_ (hm5.none _))
        clear hK K hH0
        try simp only [Act.put, List.setIfInBounds_toArray, List.set_cons_zero, List.set_cons_succ]
        refine wpAnyH_take (i := 9) (oi := { dst := some 26, op := Op.build 100 #[(0, Operand.tmp 19), (1, Operand.tmp 25)], type := 100, pos := "table.go:77", after := #[{ on := 2, ground := Ground.data }, { on := 8, ground := Ground.data }], guard := none }) (v := ?_) rfl (by kernel_rfl) (by kernel_rfl) (by kernel_rfl) (fun _ _ _ h => h) (Or.inl ⟨by rfl, ?_⟩) (by assumption) ?_
        rotate_left
        · intro w hSw
          try dsimp only at hSw
          obtain ⟨-, hSw1, hSw2, -⟩ := hSw
          go_simp
          try with_reducible rfl
        try simp only [Act.put, List.setIfInBounds_toArray, List.set_cons_zero, List.set_cons_succ]
        refine wpAnyH_ready (rs := [10]) (by kernel_rfl) (by simp) ?_
        refine AllReadyH.cons (o := { dst := some 27, op := Op.buildSlice 93 1 #[(0, Operand.tmp 26)], type := 93, pos := "table.go:77", after := #[{ on := 9, ground := Ground.data }], guard := none }) rfl (fun K hK => ?_) ?_
        · go_simp
          refine hK.out _ _ ?_ (fun hH2 => ?_)
          · refine HKeep.out _ ?_
            repeat (first | refine Moves.alloc ?_ _ | refine Moves.drew ?_ | exact Moves.refl _ _ | refine Moves.grown ?_ hg6 (fun k e _ => e) | refine Moves.trans ?_ (hm5.none _))
          clear hK K hH1
          try simp only [Act.put, List.setIfInBounds_toArray, List.set_cons_zero, List.set_cons_succ]
          refine wpAnyH_ready (rs := [11]) (by kernel_rfl) (by simp) ?_
          refine AllReadyH.cons (o := { dst := some 28, op := Op.call { callee := Callee.builtin Builtin.append, args := #[Operand.tmp 17, Operand.tmp 27], argTypes := #[93, 93] }, type := 93, pos := "table.go:77", after := #[{ on := 0, ground := Ground.data }, { on := 10, ground := Ground.data }, { on := 2, ground := Ground.chain }], guard := none }) rfl (fun K hK => ?_) ?_
          · refine step_append_src _ rfl (.tmp 17) (.tmp 27) 93 rfl w1.heap.size 100 i4 _ 2 24 Try.underlying93 HI.out.1 HI.out.2.1 HI.out.2.2.1 HI.out.2.2.2.1 HI.out.2.2.2.2.1 HI.out.2.2.2.2.2 (.slice A1 i k1) i (cellsR ((rootsM M).take i)) rfl (own_moves (S := fun _ => False) HOW.out (by repeat (first | refine Moves.alloc ?_ _ | refine Moves.drew ?_ | exact Moves.refl _ _ | refine Moves.trans ?_ hm5)) (fun _ _ h => h)) (some ⟨_, 0, none⟩) 1 1 [.string (txt x), .int .i64 gz] (by rfl) (by rfl) (fun _ => ⟨_, rfl, World.news_of_block (cs := #[.string (txt x), .int .i64 gz]) (t := 100) (fr := (0, 0)) (heap_alloc_new _ _)⟩) (by simp [Value.oneCell']) h63.out.1 h63.out.2 (by refine Nat.le_trans HB.out ?_; refine (Moves.size (S := fun _ => False) ?_); repeat (first | refine Moves.alloc ?_ _ | refine Moves.drew ?_ | exact Moves.refl _ _ | refine Moves.trans ?_ hm5)) ?_
            intro v6 w6 hn6 hg6 hl6
            obtain ⟨A6, k6, rfl, -, -, -, -, -⟩ := own_form hn6
            refine hK.out _ _ ?_ (fun hH3 => ?_)
            · refine HKeep.out _ ?_
              repeat (first | refine Moves.alloc ?_ _ | refine Moves.drew ?_ | exact Moves.refl _ _ | refine Moves.grown ?_ hg6 (fun k e _ => e) | refine Moves.trans ?_ (hm5.none _))
            clear hK K hH2
            try simp only [Act.put, List.setIfInBounds_toArray, List.set_cons_zero, List.set_cons_succ]
            refine wpAnyH_take (i := 12) (oi := { dst := some 3, op := Op.assign (Operand.tmp 28), type := 93, pos := "table.go:77", after := #[{ on := 11, ground := Ground.data }, { on := 11, ground := Ground.chain }, { on := 0, ground := Ground.phase }, { on := 1, ground := Ground.phase }, { on := 2, ground := Ground.phase }, { on := 3, ground := Ground.phase }, { on := 4, ground := Ground.phase }, { on := 5, ground := Ground.phase }, { on := 6, ground := Ground.phase }, { on := 7, ground := Ground.phase }, { on := 8, ground := Ground.phase }, { on := 9, ground := Ground.phase }, { on := 10, ground := Ground.phase }, { on := 11, ground := Ground.phase }], guard := none }) (v := ?_) rfl (by kernel_rfl) (by kernel_rfl) (by kernel_rfl) (fun _ _ _ h => h) (Or.inl ⟨by rfl, ?_⟩) (by assumption) ?_
            rotate_left
            · intro w hSw
              try dsimp only at hSw
              obtain ⟨-, hSw1, hSw2, -⟩ := hSw
              go_simp
              try with_reducible rfl
            try simp only [Act.put, List.setIfInBounds_toArray, List.set_cons_zero, List.set_cons_succ]
            refine wpAnyH_done (by kernel_rfl) ?_ _
            have HN6 := Lib.hid hn6
            have HM6 : Hid (Moves (fun _ => False) w1 w6) := Lib.hid (by
              refine Moves.grown ?_ hg6 (fun k e hk => absurd hk (by have := (HOB.out k e).1; omega))
              refine Moves.trans HWR.out ?_
              repeat (first | refine Moves.alloc ?_ _ | refine Moves.drew ?_ | exact Moves.refl _ _ | refine Moves.trans ?_ hm5))
            clear hn6 hg6 hl6 hm5 hH3 s0 s1 s2 s3
            go_wp2
            go_roundw
            case rel => exact ⟨i + 1, A6, k6, by omega, by go_num, by go_num, by rw [HRL.out, cellsR_append]; exact HN6.out, HM6.out⟩
            case measure => simp [zOf]; omega
          exact AllReadyH.nil
        exact AllReadyH.nil
      exact AllReadyH.nil
    · obtain rfl : i = M.length := by omega
      obtain ⟨A9, c9, hv9, h91, h92, h93, -, h94⟩ := own_form hown
      cases hv9
      have HCl := Lib.hid (fun W => clipR W A1 M.length k1 h91 h92 h93)
      have HF := Lib.hid (And.intro h94 (And.intro hMv H1.out.2.2.1))
      clear h91 h92 h93 h94 hown hMv hc1 hc2 hc3 hlen hpl hp1 c1 hp
      go_wp2_with (first
        | (go_at_call 80
           refine (HCl.out _).mono ?_
           rintro e w2 ⟨rfl, rfl⟩)
        | fail)
      have hrl : (rootsM M).length = M.length := rootsM_len M
      refine bodyPost_ret (v := .slice A1 M.length M.length) (by simp [results, Try.results53, go_sem]) rfl ?_
      refine ⟨_, rfl, ⟨A1, M.length, by rw [hrl], by omega, fun h0 => ?_⟩, HF.out.2.2.trans HF.out.2.1⟩
      obtain ⟨g, hA, hbg, hlg, hcells⟩ := HF.out.1 (by omega)
      refine ⟨g, 0, hA, Nat.le_trans HF.out.2.2.size hbg, hlg, fun j u hu => ?_⟩
      rw [Nat.zero_add]
      refine hcells j u ?_
      rw [← hrl, List.take_length]
      exact hu
end Go.Proofs.Ytbfnmgjpkieaoaa.Tb
