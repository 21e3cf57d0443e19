/-
  KeysTwo's walk, a case of four (which of the two keys have 32 bits).
-/
import Derived.Test.YtmennobdgfgjaaaKeysTwoPl
namespace Go.Proofs.Ytmennobdgfgjaaa
open Go Go.RowKit Go.Maps Go.Sort Go.Proofs

set_option maxRecDepth 100000 in
set_option maxHeartbeats 4000000 in
theorem keys_two_ff (w : World) {a1 a2 b1 b2 pa pb cc : Int} {x1 x2 : Int} {y1 y2 : Int} (hsa : shortK (a1, a2) = false) (hsb : shortK (b1, b2) = false) (hpa : packZ (a1, a2) = pa) (hpb : packZ (b1, b2) = pb) (hcc : cmpK (a1, a2) (b1, b2) = cc) (hxa : unpackZ pa = (x1, x2)) (hyb : unpackZ pb = (y1, y2)) :
    Calls Try.prog 7 #[.agg #[.int .i64 a1, .int .i64 a2], .agg #[.int .i64 b1, .int .i64 b2]] w (TruePost w) := by
  have hci := cmpK_in (a1, a2) (b1, b2)
  rw [hcc] at hci
  have hwr : IntKind.i64.wrap (-cc) = -cc := IntWalk.i64_in _ (by omega)
  have hba : cmpK (b1, b2) (a1, a2) = 0 - cc := by rw [← hcc]; exact cmpK_swap _ _
  have PA := fun W => pack_any hpa W
  have PB := fun W => pack_any hpb W
  have UA := fun W => unpack_any hxa W
  have UB := fun W => unpack_any hyb W
  have CM := fun W => compare_any hcc W
  have CB := fun W => compare_any hba W
  have RC := fun W => refcmp_any hcc W
  have SA := fun W => short_any hsa W
  have SB := fun W => short_any hsb W
  clear hsa hsb hpa hpb hcc hxa hyb hba
  go_enter Try.func7, Try.ntmps7
  go_wp2_with fail
  refine (key_known _).mono ?_
  rintro e w1 ⟨rfl, hm1⟩
  have hb0 : w1.heap[w.heap.size]? = some (.cells #[.int .i64 a1, .int .i64 a2] 49 (0, 0)) := (hm1.block w.heap.size (by simp; omega) (fun h => h)).trans (heap_alloc2_old w _ _)
  have hb1 : w1.heap[w.heap.size + 1]? = some (.cells #[.int .i64 b1, .int .i64 b2] 49 (0, 0)) := (hm1.block (w.heap.size + 1) (by simp) (fun h => h)).trans (heap_alloc2_new w _ _)
  have HM := Lib.hid ((((Moves.refl (fun _ => False) w).alloc _).alloc _).trans hm1)
  clear hm1
  obtain ⟨ka, hka⟩ : ∃ ka, w.heap.size = ka := ⟨_, rfl⟩
  simp only [hka] at hb0 hb1 ⊢
  generalize ka + 1 = kb at hb1 ⊢
  clear hka
  obtain ⟨ca0, ca1⟩ := KeyBlk.cells hb0
  obtain ⟨cb0, cb1⟩ := KeyBlk.cells hb1
  have hla := (Array.getElem?_eq_some_iff.1 hb0).1
  have hlb := (Array.getElem?_eq_some_iff.1 hb1).1
  clear hb0 hb1
  go_wp2_with fail
  refine (CM _).mono ?_
  rintro e w2 ⟨rfl, hl2⟩
  have hm := hl2.moves (fun _ => False)
  clear hl2
  have HN : Hid (∀ w', Moves (fun _ => False) w1 w' → w'.cell? ⟨ka, 0, none⟩ = some (.int .i64 a1) ∧ w'.cell? ⟨ka, 1, none⟩ = some (.int .i64 a2) ∧ w'.cell? ⟨kb, 0, none⟩ = some (.int .i64 b1) ∧ w'.cell? ⟨kb, 1, none⟩ = some (.int .i64 b2)) := Lib.hid (fun w' h => ⟨(h.cell (p := ⟨ka, 0, none⟩) hla (fun h => h)).trans ca0, (h.cell (p := ⟨ka, 1, none⟩) hla (fun h => h)).trans ca1, (h.cell (p := ⟨kb, 0, none⟩) hlb (fun h => h)).trans cb0, (h.cell (p := ⟨kb, 1, none⟩) hlb (fun h => h)).trans cb1⟩)
  have hK0 := KP.of hm
  obtain ⟨ca0', ca1', cb0', cb1'⟩ := HN.out _ hm
  have HG : Hid (∀ wc w', Moves (fun _ => False) wc w' → KP w1 wc → KP w1 w' ∧ w'.cell? ⟨ka, 0, none⟩ = some (.int .i64 a1) ∧ w'.cell? ⟨ka, 1, none⟩ = some (.int .i64 a2) ∧ w'.cell? ⟨kb, 0, none⟩ = some (.int .i64 b1) ∧ w'.cell? ⟨kb, 1, none⟩ = some (.int .i64 b2)) := Lib.hid (fun wc w' h hk => ⟨KP.of (hk.moves.trans h), HN.out _ (hk.moves.trans h)⟩)
  clear hm ca0 ca1 cb0 cb1
  go_wp2_with fail
  go_region_held3 (fun w' => KP w1 w' ∧ w'.cell? ⟨ka, 0, none⟩ = some (.int .i64 a1) ∧ w'.cell? ⟨ka, 1, none⟩ = some (.int .i64 a2) ∧ w'.cell? ⟨kb, 0, none⟩ = some (.int .i64 b1) ∧ w'.cell? ⟨kb, 1, none⟩ = some (.int .i64 b2))
    (first | exact hS' | exact ⟨hK0, ca0', ca1', cb0', cb1'⟩ | assumption | go_keep)
    (first
      | (go_at_call_of 27 a1; refine (of_any (a1, a2) _).mono ?_; rintro e w' ⟨rfl, hm⟩; have hS' := HG.out _ _ hm (And.left (by assumption)))
      | (go_at_call_of 27 b1; refine (of_any (b1, b2) _).mono ?_; rintro e w' ⟨rfl, hm⟩; have hS' := HG.out _ _ hm (And.left (by assumption)))
      | (go_at_call 26; refine (RC _).mono ?_; rintro e w' ⟨rfl, hm⟩; have hS' := HG.out _ _ (hm.moves _) (And.left (by assumption)))
      | (go_at_call 25; refine (CB _).mono ?_; rintro e w' ⟨rfl, hm⟩; have hS' := HG.out _ _ (hm.moves _) (And.left (by assumption)))
      | fail)
  all_goals
    have HK3 := Lib.hid (KP.moves (W := w1) (And.left (by assumption)))
    obtain ⟨d0, d1, d2, d3⟩ := HN.out _ HK3.out
    go_wp2_with fail
    refine (PA _).mono ?_
    rintro e w4 ⟨rfl, hm4⟩
    go_wp2_with fail
    refine (UA _).mono ?_
    rintro e w5 ⟨rfl, hm5⟩
    have hmx := (HK3.out.trans (hm4.trans hm5)).alloc (.cells #[.int .i64 x1, .int .i64 x2] 49)
    obtain ⟨cx0, cx1⟩ := cell2 w5 (.int .i64 x1) (.int .i64 x2) 49
    have hkx : w5.heap.size < (w5.alloc (.cells #[.int .i64 x1, .int .i64 x2] 49)).heap.size := by simp
    clear d0 d1 d2 d3 hm4 hm5
    obtain ⟨d0, d1, d2, d3⟩ := HN.out _ hmx
    go_wp2_with fail
    generalize w5.heap.size = kx at cx0 cx1 hkx ⊢
    generalize w5.alloc (.cells #[.int .i64 x1, .int .i64 x2] 49) = wx at hmx cx0 cx1 hkx d0 d1 d2 d3 ⊢
    refine (PB _).mono ?_
    rintro e w6 ⟨rfl, hm6⟩
    go_wp2_with fail
    refine (UB _).mono ?_
    rintro e w7 ⟨rfl, hm7⟩
    have hmy := (hm6.trans hm7).alloc (.cells #[.int .i64 y1, .int .i64 y2] 49)
    obtain ⟨cy0, cy1⟩ := cell2 w7 (.int .i64 y1) (.int .i64 y2) 49
    have hky : w7.heap.size < (w7.alloc (.cells #[.int .i64 y1, .int .i64 y2] 49)).heap.size := by simp
    clear d0 d1 d2 d3 hm6 hm7
    obtain ⟨d0, d1, d2, d3⟩ := HN.out _ (hmx.trans hmy)
    have d4 := (hmy.cell (p := ⟨kx, 0, none⟩) hkx (fun h => h)).trans cx0
    have d5 := (hmy.cell (p := ⟨kx, 1, none⟩) hkx (fun h => h)).trans cx1
    have hkx' := Nat.lt_of_lt_of_le hkx hmy.size
    go_wp2_with fail
    generalize w7.heap.size = ky at cy0 cy1 hky ⊢
    generalize w7.alloc (.cells #[.int .i64 y1, .int .i64 y2] 49) = wy at hmy cy0 cy1 hky d0 d1 d2 d3 d4 d5 hkx' ⊢
    have HK8 := Lib.hid (hmx.trans hmy)
    have H8 : Hid (∀ wc w', Moves (fun _ => False) wc w' → KP wy wc → KP wy w' ∧ w'.cell? ⟨ka, 0, none⟩ = some (.int .i64 a1) ∧ w'.cell? ⟨ka, 1, none⟩ = some (.int .i64 a2) ∧ w'.cell? ⟨kb, 0, none⟩ = some (.int .i64 b1) ∧ w'.cell? ⟨kb, 1, none⟩ = some (.int .i64 b2) ∧ w'.cell? ⟨kx, 0, none⟩ = some (.int .i64 x1) ∧ w'.cell? ⟨kx, 1, none⟩ = some (.int .i64 x2) ∧ w'.cell? ⟨ky, 0, none⟩ = some (.int .i64 y1) ∧ w'.cell? ⟨ky, 1, none⟩ = some (.int .i64 y2)) := Lib.hid (fun wc w' h hk => by
      have h' := hk.moves.trans h
      have h1 := HN.out _ (HK8.out.trans h')
      exact ⟨KP.of h', h1.1, h1.2.1, h1.2.2.1, h1.2.2.2, (h'.cell (p := ⟨kx, 0, none⟩) hkx' (fun h => h)).trans d4, (h'.cell (p := ⟨kx, 1, none⟩) hkx' (fun h => h)).trans d5, (h'.cell (p := ⟨ky, 0, none⟩) hky (fun h => h)).trans cy0, (h'.cell (p := ⟨ky, 1, none⟩) hky (fun h => h)).trans cy1⟩)
    have hK8 : KP wy wy := KP.of (Moves.refl _ _)
    clear cx0 cx1 hkx hmx hmy
    refine wp_region_held_drew (S := fun w' => KP wy w' ∧ w'.cell? ⟨ka, 0, none⟩ = some (.int .i64 a1) ∧ w'.cell? ⟨ka, 1, none⟩ = some (.int .i64 a2) ∧ w'.cell? ⟨kb, 0, none⟩ = some (.int .i64 b1) ∧ w'.cell? ⟨kb, 1, none⟩ = some (.int .i64 b2) ∧ w'.cell? ⟨kx, 0, none⟩ = some (.int .i64 x1) ∧ w'.cell? ⟨kx, 1, none⟩ = some (.int .i64 x2) ∧ w'.cell? ⟨ky, 0, none⟩ = some (.int .i64 y1) ∧ w'.cell? ⟨ky, 1, none⟩ = some (.int .i64 y2)) (by kernel_rfl) ?_ (fun hHeld0 => ?_)
    · try dsimp only
      (first | exact hS' | exact ⟨hK8, d0, d1, d2, d3, d4, d5, cy0, cy1⟩ | assumption | go_keep)
    try simp only [List.size_toArray, List.length_cons, List.length_nil, Nat.reduceAdd]
    refine wpAnyH_take (i := 0) (oi := { dst := some 34, op := Op.load 49 (Operand.tmp 2), type := 49, pos := "law.go:48", after := #[], guard := none }) (v := ?_) rfl (by kernel_rfl) (by kernel_rfl) (by kernel_rfl) (fun _ _ _ h => h) (Or.inl ⟨by rfl, ?_⟩) (by assumption) ?_
    rotate_left
    · intro w hSw
      try dsimp only at hSw
      go_simp
      try with_reducible rfl
    try simp only [Act.put, List.setIfInBounds_toArray, List.set_cons_zero, List.set_cons_succ]
    refine wpAnyH_ready (rs := [1]) (by kernel_rfl) (by simp) ?_
    refine AllReadyH.cons (o := { dst := some 35, op := Op.call { callee := Callee.value (Operand.func 30), args := #[Operand.tmp 34], argTypes := #[49] }, type := 4, pos := "law.go:48", after := #[{ on := 0, ground := Ground.data }], guard := none }) rfl (fun K hK => ?_) ?_
    · go_simp
      (first
        | (go_at_call_of 30 a1; refine (SA _).mono ?_; rintro e w' ⟨rfl, hm⟩; have hS' := H8.out _ _ hm (And.left (by assumption)))
        | (go_at_call_of 30 b1; refine (SB _).mono ?_; rintro e w' ⟨rfl, hm⟩; have hS' := H8.out _ _ hm (And.left (by assumption)))
        | (go_at_call_of 29 a1; refine (PA _).mono ?_; rintro e w' ⟨rfl, hm⟩; have hS' := H8.out _ _ hm (And.left (by assumption)))
        | (go_at_call_of 29 b1; refine (PB _).mono ?_; rintro e w' ⟨rfl, hm⟩; have hS' := H8.out _ _ hm (And.left (by assumption)))
        | fail)
      go_wp2_with fail
      refine hK.out _ _ ?_ (fun hHeld1 => ?_)
      · try dsimp only
        (first | exact hS' | exact ⟨hK8, d0, d1, d2, d3, d4, d5, cy0, cy1⟩ | assumption | go_keep)
      clear hK K hHeld0
      try simp only [Act.put, List.setIfInBounds_toArray, List.set_cons_zero, List.set_cons_succ]
      refine wpAnyH_take (i := 2) (oi := { dst := some 36, op := Op.unOp UnOp.not 4 (Operand.tmp 35), type := 4, pos := "law.go:48", after := #[{ on := 1, ground := Ground.data }], guard := none }) (v := ?_) rfl (by kernel_rfl) (by kernel_rfl) (by kernel_rfl) (fun _ _ _ h => h) (Or.inl ⟨by rfl, ?_⟩) (by assumption) ?_
      rotate_left
      · intro w hSw
        try dsimp only at hSw
        go_simp
        try with_reducible rfl
      try simp only [Act.put, List.setIfInBounds_toArray, List.set_cons_zero, List.set_cons_succ]
      refine wpAnyH_take (i := 3) (oi := { dst := some 37, op := Op.move (Operand.tmp 36), type := 4, pos := "law.go:48", after := #[{ on := 2, ground := Ground.data }, { on := 1, ground := Ground.chain }], guard := none }) (v := ?_) rfl (by kernel_rfl) (by kernel_rfl) (by kernel_rfl) (fun _ _ _ h => h) (Or.inl ⟨by rfl, ?_⟩) (by assumption) ?_
      rotate_left
      · intro w hSw
        try dsimp only at hSw
        go_simp
        try with_reducible rfl
      try simp only [Act.put, List.setIfInBounds_toArray, List.set_cons_zero, List.set_cons_succ]
      refine wpAnyH_take (i := 4) (oi := { dst := some 38, op := Op.load 49 (Operand.tmp 6), type := 49, pos := "law.go:48", after := #[{ on := 3, ground := Ground.guard }], guard := some (3, false) }) (v := undef) rfl (by kernel_rfl) (by kernel_rfl) (by kernel_rfl) (fun _ _ _ h => h) (Or.inr ⟨by kernel_rfl, rfl⟩) (by assumption) ?_
      try simp only [Act.put, List.setIfInBounds_toArray, List.set_cons_zero, List.set_cons_succ]
      refine wpAnyH_take (i := 5) (oi := { dst := some 39, op := Op.load 49 (Operand.tmp 2), type := 49, pos := "law.go:48", after := #[{ on := 3, ground := Ground.guard }], guard := some (3, false) }) (v := undef) rfl (by kernel_rfl) (by kernel_rfl) (by kernel_rfl) (fun _ _ _ h => h) (Or.inr ⟨by kernel_rfl, rfl⟩) (by assumption) ?_
      try simp only [Act.put, List.setIfInBounds_toArray, List.set_cons_zero, List.set_cons_succ]
      refine wpAnyH_take (i := 6) (oi := { dst := some 40, op := Op.binOp BinOp.eql 49 (Operand.tmp 38) (Operand.tmp 39) 49, type := 4, pos := "law.go:48", after := #[{ on := 4, ground := Ground.data }, { on := 5, ground := Ground.data }, { on := 3, ground := Ground.guard }], guard := some (3, false) }) (v := undef) rfl (by kernel_rfl) (by kernel_rfl) (by kernel_rfl) (fun _ _ _ h => h) (Or.inr ⟨by kernel_rfl, rfl⟩) (by assumption) ?_
      try simp only [Act.put, List.setIfInBounds_toArray, List.set_cons_zero, List.set_cons_succ]
      refine wpAnyH_take (i := 7) (oi := { dst := some 41, op := Op.pick (Operand.tmp 37) (Operand.const (Value.bool true)) (Operand.tmp 40), type := 4, pos := "law.go:48", after := #[{ on := 3, ground := Ground.data }, { on := 6, ground := Ground.data }], guard := none }) (v := ?_) rfl (by kernel_rfl) (by kernel_rfl) (by kernel_rfl) (fun _ _ _ h => h) (Or.inl ⟨by rfl, ?_⟩) (by assumption) ?_
      rotate_left
      · intro w hSw
        try dsimp only at hSw
        go_simp
        try with_reducible rfl
      try simp only [Act.put, List.setIfInBounds_toArray, List.set_cons_zero, List.set_cons_succ]
      refine wpAnyH_take (i := 8) (oi := { dst := some 42, op := Op.move (Operand.tmp 41), type := 4, pos := "law.go:48", after := #[{ on := 7, ground := Ground.data }, { on := 3, ground := Ground.chain }], guard := none }) (v := ?_) rfl (by kernel_rfl) (by kernel_rfl) (by kernel_rfl) (fun _ _ _ h => h) (Or.inl ⟨by rfl, ?_⟩) (by assumption) ?_
      rotate_left
      · intro w hSw
        try dsimp only at hSw
        go_simp
        try with_reducible rfl
      try simp only [Act.put, List.setIfInBounds_toArray, List.set_cons_zero, List.set_cons_succ]
      refine wpAnyH_take (i := 9) (oi := { dst := some 43, op := Op.load 49 (Operand.tmp 2), type := 49, pos := "law.go:48", after := #[{ on := 8, ground := Ground.guard }], guard := some (8, true) }) (v := ?_) rfl (by kernel_rfl) (by kernel_rfl) (by kernel_rfl) (fun _ _ _ h => h) (Or.inl ⟨by rfl, ?_⟩) (by assumption) ?_
      rotate_left
      · intro w hSw
        try dsimp only at hSw
        go_simp
        try with_reducible rfl
      try simp only [Act.put, List.setIfInBounds_toArray, List.set_cons_zero, List.set_cons_succ]
      refine wpAnyH_ready (rs := [10]) (by kernel_rfl) (by simp) ?_
      refine AllReadyH.cons (o := { dst := some 44, op := Op.call { callee := Callee.value (Operand.func 30), args := #[Operand.tmp 43], argTypes := #[49] }, type := 4, pos := "law.go:48", after := #[{ on := 9, ground := Ground.data }, { on := 8, ground := Ground.chain }, { on := 8, ground := Ground.guard }], guard := some (8, true) }) rfl (fun K hK => ?_) ?_
      · go_simp
        (first
          | (go_at_call_of 30 a1; refine (SA _).mono ?_; rintro e w' ⟨rfl, hm⟩; have hS' := H8.out _ _ hm (And.left (by assumption)))
          | (go_at_call_of 30 b1; refine (SB _).mono ?_; rintro e w' ⟨rfl, hm⟩; have hS' := H8.out _ _ hm (And.left (by assumption)))
          | (go_at_call_of 29 a1; refine (PA _).mono ?_; rintro e w' ⟨rfl, hm⟩; have hS' := H8.out _ _ hm (And.left (by assumption)))
          | (go_at_call_of 29 b1; refine (PB _).mono ?_; rintro e w' ⟨rfl, hm⟩; have hS' := H8.out _ _ hm (And.left (by assumption)))
          | fail)
        go_wp2_with fail
        refine hK.out _ _ ?_ (fun hHeld2 => ?_)
        · try dsimp only
          (first | exact hS' | exact ⟨hK8, d0, d1, d2, d3, d4, d5, cy0, cy1⟩ | assumption | go_keep)
        clear hK K hHeld1
        try simp only [Act.put, List.setIfInBounds_toArray, List.set_cons_zero, List.set_cons_succ]
        refine wpAnyH_take (i := 11) (oi := { dst := some 45, op := Op.unOp UnOp.not 4 (Operand.tmp 44), type := 4, pos := "law.go:48", after := #[{ on := 10, ground := Ground.data }, { on := 8, ground := Ground.guard }], guard := some (8, true) }) (v := ?_) rfl (by kernel_rfl) (by kernel_rfl) (by kernel_rfl) (fun _ _ _ h => h) (Or.inl ⟨by rfl, ?_⟩) (by assumption) ?_
        rotate_left
        · intro w hSw
          try dsimp only at hSw
          go_simp
          try with_reducible rfl
        try simp only [Act.put, List.setIfInBounds_toArray, List.set_cons_zero, List.set_cons_succ]
        refine wpAnyH_take (i := 12) (oi := { dst := some 46, op := Op.move (Operand.tmp 45), type := 4, pos := "law.go:48", after := #[{ on := 11, ground := Ground.data }, { on := 10, ground := Ground.chain }, { on := 8, ground := Ground.guard }], guard := some (8, true) }) (v := ?_) rfl (by kernel_rfl) (by kernel_rfl) (by kernel_rfl) (fun _ _ _ h => h) (Or.inl ⟨by rfl, ?_⟩) (by assumption) ?_
        rotate_left
        · intro w hSw
          try dsimp only at hSw
          go_simp
          try with_reducible rfl
        try simp only [Act.put, List.setIfInBounds_toArray, List.set_cons_zero, List.set_cons_succ]
        refine wpAnyH_take (i := 13) (oi := { dst := some 47, op := Op.load 49 (Operand.tmp 3), type := 49, pos := "law.go:48", after := #[{ on := 12, ground := Ground.guard }], guard := some (12, false) }) (v := undef) rfl (by kernel_rfl) (by kernel_rfl) (by kernel_rfl) (fun _ _ _ h => h) (Or.inr ⟨by kernel_rfl, rfl⟩) (by assumption) ?_
        try simp only [Act.put, List.setIfInBounds_toArray, List.set_cons_zero, List.set_cons_succ]
        refine wpAnyH_take (i := 14) (oi := { dst := some 48, op := Op.call { callee := Callee.value (Operand.func 30), args := #[Operand.tmp 47], argTypes := #[49] }, type := 4, pos := "law.go:48", after := #[{ on := 13, ground := Ground.data }, { on := 12, ground := Ground.chain }, { on := 12, ground := Ground.guard }], guard := some (12, false) }) (v := undef) rfl (by kernel_rfl) (by kernel_rfl) (by kernel_rfl) (fun _ _ _ h => h) (Or.inr ⟨by kernel_rfl, rfl⟩) (by assumption) ?_
        try simp only [Act.put, List.setIfInBounds_toArray, List.set_cons_zero, List.set_cons_succ]
        refine wpAnyH_take (i := 15) (oi := { dst := some 49, op := Op.unOp UnOp.not 4 (Operand.tmp 48), type := 4, pos := "law.go:48", after := #[{ on := 14, ground := Ground.data }, { on := 12, ground := Ground.guard }], guard := some (12, false) }) (v := undef) rfl (by kernel_rfl) (by kernel_rfl) (by kernel_rfl) (fun _ _ _ h => h) (Or.inr ⟨by kernel_rfl, rfl⟩) (by assumption) ?_
        try simp only [Act.put, List.setIfInBounds_toArray, List.set_cons_zero, List.set_cons_succ]
        refine wpAnyH_take (i := 16) (oi := { dst := some 50, op := Op.pick (Operand.tmp 46) (Operand.const (Value.bool true)) (Operand.tmp 49), type := 4, pos := "law.go:48", after := #[{ on := 12, ground := Ground.data }, { on := 15, ground := Ground.data }, { on := 8, ground := Ground.guard }], guard := some (8, true) }) (v := ?_) rfl (by kernel_rfl) (by kernel_rfl) (by kernel_rfl) (fun _ _ _ h => h) (Or.inl ⟨by rfl, ?_⟩) (by assumption) ?_
        rotate_left
        · intro w hSw
          try dsimp only at hSw
          go_simp
          try with_reducible rfl
        try simp only [Act.put, List.setIfInBounds_toArray, List.set_cons_zero, List.set_cons_succ]
        refine wpAnyH_take (i := 17) (oi := { dst := some 51, op := Op.move (Operand.tmp 50), type := 4, pos := "law.go:48", after := #[{ on := 16, ground := Ground.data }, { on := 14, ground := Ground.chain }, { on := 8, ground := Ground.guard }], guard := some (8, true) }) (v := ?_) rfl (by kernel_rfl) (by kernel_rfl) (by kernel_rfl) (fun _ _ _ h => h) (Or.inl ⟨by rfl, ?_⟩) (by assumption) ?_
        rotate_left
        · intro w hSw
          try dsimp only at hSw
          go_simp
          try with_reducible rfl
        try simp only [Act.put, List.setIfInBounds_toArray, List.set_cons_zero, List.set_cons_succ]
        refine wpAnyH_take (i := 18) (oi := { dst := some 52, op := Op.load 49 (Operand.tmp 2), type := 49, pos := "law.go:48", after := #[{ on := 17, ground := Ground.guard }], guard := some (17, false) }) (v := undef) rfl (by kernel_rfl) (by kernel_rfl) (by kernel_rfl) (fun _ _ _ h => h) (Or.inr ⟨by kernel_rfl, rfl⟩) (by assumption) ?_
        try simp only [Act.put, List.setIfInBounds_toArray, List.set_cons_zero, List.set_cons_succ]
        refine wpAnyH_take (i := 19) (oi := { dst := some 53, op := Op.call { callee := Callee.value (Operand.func 29), args := #[Operand.tmp 52], argTypes := #[49] }, type := 55, pos := "law.go:48", after := #[{ on := 18, ground := Ground.data }, { on := 17, ground := Ground.chain }, { on := 17, ground := Ground.guard }], guard := some (17, false) }) (v := undef) rfl (by kernel_rfl) (by kernel_rfl) (by kernel_rfl) (fun _ _ _ h => h) (Or.inr ⟨by kernel_rfl, rfl⟩) (by assumption) ?_
        try simp only [Act.put, List.setIfInBounds_toArray, List.set_cons_zero, List.set_cons_succ]
        refine wpAnyH_take (i := 20) (oi := { dst := some 54, op := Op.load 49 (Operand.tmp 3), type := 49, pos := "law.go:48", after := #[{ on := 17, ground := Ground.guard }], guard := some (17, false) }) (v := undef) rfl (by kernel_rfl) (by kernel_rfl) (by kernel_rfl) (fun _ _ _ h => h) (Or.inr ⟨by kernel_rfl, rfl⟩) (by assumption) ?_
        try simp only [Act.put, List.setIfInBounds_toArray, List.set_cons_zero, List.set_cons_succ]
        refine wpAnyH_take (i := 21) (oi := { dst := some 55, op := Op.call { callee := Callee.value (Operand.func 29), args := #[Operand.tmp 54], argTypes := #[49] }, type := 55, pos := "law.go:48", after := #[{ on := 20, ground := Ground.data }, { on := 19, ground := Ground.chain }, { on := 17, ground := Ground.guard }], guard := some (17, false) }) (v := undef) rfl (by kernel_rfl) (by kernel_rfl) (by kernel_rfl) (fun _ _ _ h => h) (Or.inr ⟨by kernel_rfl, rfl⟩) (by assumption) ?_
        try simp only [Act.put, List.setIfInBounds_toArray, List.set_cons_zero, List.set_cons_succ]
        refine wpAnyH_take (i := 22) (oi := { dst := some 56, op := Op.binOp BinOp.eql 55 (Operand.tmp 53) (Operand.tmp 55) 55, type := 4, pos := "law.go:48", after := #[{ on := 19, ground := Ground.data }, { on := 21, ground := Ground.data }, { on := 17, ground := Ground.guard }], guard := some (17, false) }) (v := undef) rfl (by kernel_rfl) (by kernel_rfl) (by kernel_rfl) (fun _ _ _ h => h) (Or.inr ⟨by kernel_rfl, rfl⟩) (by assumption) ?_
        try simp only [Act.put, List.setIfInBounds_toArray, List.set_cons_zero, List.set_cons_succ]
        refine wpAnyH_take (i := 23) (oi := { dst := some 57, op := Op.move (Operand.tmp 5), type := 3, pos := "law.go:48", after := #[{ on := 17, ground := Ground.guard }], guard := some (17, false) }) (v := undef) rfl (by kernel_rfl) (by kernel_rfl) (by kernel_rfl) (fun _ _ _ h => h) (Or.inr ⟨by kernel_rfl, rfl⟩) (by assumption) ?_
        try simp only [Act.put, List.setIfInBounds_toArray, List.set_cons_zero, List.set_cons_succ]
        refine wpAnyH_take (i := 24) (oi := { dst := some 58, op := Op.binOp BinOp.eql 3 (Operand.tmp 57) (Operand.const (Value.int IntKind.i64 0)) 3, type := 4, pos := "law.go:48", after := #[{ on := 23, ground := Ground.data }, { on := 17, ground := Ground.guard }], guard := some (17, false) }) (v := undef) rfl (by kernel_rfl) (by kernel_rfl) (by kernel_rfl) (fun _ _ _ h => h) (Or.inr ⟨by kernel_rfl, rfl⟩) (by assumption) ?_
        try simp only [Act.put, List.setIfInBounds_toArray, List.set_cons_zero, List.set_cons_succ]
        refine wpAnyH_take (i := 25) (oi := { dst := some 59, op := Op.binOp BinOp.eql 4 (Operand.tmp 56) (Operand.tmp 58) 4, type := 4, pos := "law.go:48", after := #[{ on := 22, ground := Ground.data }, { on := 24, ground := Ground.data }, { on := 17, ground := Ground.guard }], guard := some (17, false) }) (v := undef) rfl (by kernel_rfl) (by kernel_rfl) (by kernel_rfl) (fun _ _ _ h => h) (Or.inr ⟨by kernel_rfl, rfl⟩) (by assumption) ?_
        try simp only [Act.put, List.setIfInBounds_toArray, List.set_cons_zero, List.set_cons_succ]
        refine wpAnyH_take (i := 26) (oi := { dst := some 60, op := Op.pick (Operand.tmp 51) (Operand.const (Value.bool true)) (Operand.tmp 59), type := 4, pos := "law.go:48", after := #[{ on := 17, ground := Ground.data }, { on := 25, ground := Ground.data }, { on := 8, ground := Ground.guard }], guard := some (8, true) }) (v := ?_) rfl (by kernel_rfl) (by kernel_rfl) (by kernel_rfl) (fun _ _ _ h => h) (Or.inl ⟨by rfl, ?_⟩) (by assumption) ?_
        rotate_left
        · intro w hSw
          try dsimp only at hSw
          go_simp
          try with_reducible rfl
        try simp only [Act.put, List.setIfInBounds_toArray, List.set_cons_zero, List.set_cons_succ]
        refine wpAnyH_take (i := 27) (oi := { dst := some 61, op := Op.pick (Operand.tmp 42) (Operand.tmp 60) (Operand.const (Value.bool false)), type := 4, pos := "law.go:48", after := #[{ on := 8, ground := Ground.data }, { on := 26, ground := Ground.data }], guard := none }) (v := ?_) rfl (by kernel_rfl) (by kernel_rfl) (by kernel_rfl) (fun _ _ _ h => h) (Or.inl ⟨by rfl, ?_⟩) (by assumption) ?_
        rotate_left
        · intro w hSw
          try dsimp only at hSw
          go_simp
          try with_reducible rfl
        try simp only [Act.put, List.setIfInBounds_toArray, List.set_cons_zero, List.set_cons_succ]
        refine wpAnyH_take (i := 28) (oi := { dst := some 62, op := Op.move (Operand.tmp 61), type := 4, pos := "law.go:48", after := #[{ on := 27, ground := Ground.data }, { on := 21, ground := Ground.chain }], guard := none }) (v := ?_) rfl (by kernel_rfl) (by kernel_rfl) (by kernel_rfl) (fun _ _ _ h => h) (Or.inl ⟨by rfl, ?_⟩) (by assumption) ?_
        rotate_left
        · intro w hSw
          try dsimp only at hSw
          go_simp
          try with_reducible rfl
        try simp only [Act.put, List.setIfInBounds_toArray, List.set_cons_zero, List.set_cons_succ]
        refine wpAnyH_take (i := 29) (oi := { dst := some 63, op := Op.load 49 (Operand.tmp 3), type := 49, pos := "law.go:48", after := #[{ on := 28, ground := Ground.guard }], guard := some (28, true) }) (v := ?_) rfl (by kernel_rfl) (by kernel_rfl) (by kernel_rfl) (fun _ _ _ h => h) (Or.inl ⟨by rfl, ?_⟩) (by assumption) ?_
        rotate_left
        · intro w hSw
          try dsimp only at hSw
          go_simp
          try with_reducible rfl
        try simp only [Act.put, List.setIfInBounds_toArray, List.set_cons_zero, List.set_cons_succ]
        refine wpAnyH_ready (rs := [30]) (by kernel_rfl) (by simp) ?_
        refine AllReadyH.cons (o := { dst := some 64, op := Op.call { callee := Callee.value (Operand.func 30), args := #[Operand.tmp 63], argTypes := #[49] }, type := 4, pos := "law.go:48", after := #[{ on := 29, ground := Ground.data }, { on := 28, ground := Ground.chain }, { on := 28, ground := Ground.guard }], guard := some (28, true) }) rfl (fun K hK => ?_) ?_
        · go_simp
          (first
            | (go_at_call_of 30 a1; refine (SA _).mono ?_; rintro e w' ⟨rfl, hm⟩; have hS' := H8.out _ _ hm (And.left (by assumption)))
            | (go_at_call_of 30 b1; refine (SB _).mono ?_; rintro e w' ⟨rfl, hm⟩; have hS' := H8.out _ _ hm (And.left (by assumption)))
            | (go_at_call_of 29 a1; refine (PA _).mono ?_; rintro e w' ⟨rfl, hm⟩; have hS' := H8.out _ _ hm (And.left (by assumption)))
            | (go_at_call_of 29 b1; refine (PB _).mono ?_; rintro e w' ⟨rfl, hm⟩; have hS' := H8.out _ _ hm (And.left (by assumption)))
            | fail)
          go_wp2_with fail
          refine hK.out _ _ ?_ (fun hHeld3 => ?_)
          · try dsimp only
            (first | exact hS' | exact ⟨hK8, d0, d1, d2, d3, d4, d5, cy0, cy1⟩ | assumption | go_keep)
          clear hK K hHeld2
          try simp only [Act.put, List.setIfInBounds_toArray, List.set_cons_zero, List.set_cons_succ]
          refine wpAnyH_take (i := 31) (oi := { dst := some 65, op := Op.unOp UnOp.not 4 (Operand.tmp 64), type := 4, pos := "law.go:48", after := #[{ on := 30, ground := Ground.data }, { on := 28, ground := Ground.guard }], guard := some (28, true) }) (v := ?_) rfl (by kernel_rfl) (by kernel_rfl) (by kernel_rfl) (fun _ _ _ h => h) (Or.inl ⟨by rfl, ?_⟩) (by assumption) ?_
          rotate_left
          · intro w hSw
            try dsimp only at hSw
            go_simp
            try with_reducible rfl
          try simp only [Act.put, List.setIfInBounds_toArray, List.set_cons_zero, List.set_cons_succ]
          refine wpAnyH_take (i := 32) (oi := { dst := some 66, op := Op.move (Operand.tmp 65), type := 4, pos := "law.go:48", after := #[{ on := 31, ground := Ground.data }, { on := 30, ground := Ground.chain }, { on := 28, ground := Ground.guard }], guard := some (28, true) }) (v := ?_) rfl (by kernel_rfl) (by kernel_rfl) (by kernel_rfl) (fun _ _ _ h => h) (Or.inl ⟨by rfl, ?_⟩) (by assumption) ?_
          rotate_left
          · intro w hSw
            try dsimp only at hSw
            go_simp
            try with_reducible rfl
          try simp only [Act.put, List.setIfInBounds_toArray, List.set_cons_zero, List.set_cons_succ]
          refine wpAnyH_take (i := 33) (oi := { dst := some 67, op := Op.load 49 (Operand.tmp 7), type := 49, pos := "law.go:48", after := #[{ on := 32, ground := Ground.guard }], guard := some (32, false) }) (v := undef) rfl (by kernel_rfl) (by kernel_rfl) (by kernel_rfl) (fun _ _ _ h => h) (Or.inr ⟨by kernel_rfl, rfl⟩) (by assumption) ?_
          try simp only [Act.put, List.setIfInBounds_toArray, List.set_cons_zero, List.set_cons_succ]
          refine wpAnyH_take (i := 34) (oi := { dst := some 68, op := Op.load 49 (Operand.tmp 3), type := 49, pos := "law.go:48", after := #[{ on := 32, ground := Ground.guard }], guard := some (32, false) }) (v := undef) rfl (by kernel_rfl) (by kernel_rfl) (by kernel_rfl) (fun _ _ _ h => h) (Or.inr ⟨by kernel_rfl, rfl⟩) (by assumption) ?_
          try simp only [Act.put, List.setIfInBounds_toArray, List.set_cons_zero, List.set_cons_succ]
          refine wpAnyH_take (i := 35) (oi := { dst := some 69, op := Op.binOp BinOp.eql 49 (Operand.tmp 67) (Operand.tmp 68) 49, type := 4, pos := "law.go:48", after := #[{ on := 33, ground := Ground.data }, { on := 34, ground := Ground.data }, { on := 32, ground := Ground.guard }], guard := some (32, false) }) (v := undef) rfl (by kernel_rfl) (by kernel_rfl) (by kernel_rfl) (fun _ _ _ h => h) (Or.inr ⟨by kernel_rfl, rfl⟩) (by assumption) ?_
          try simp only [Act.put, List.setIfInBounds_toArray, List.set_cons_zero, List.set_cons_succ]
          refine wpAnyH_take (i := 36) (oi := { dst := some 70, op := Op.pick (Operand.tmp 66) (Operand.const (Value.bool true)) (Operand.tmp 69), type := 4, pos := "law.go:48", after := #[{ on := 32, ground := Ground.data }, { on := 35, ground := Ground.data }, { on := 28, ground := Ground.guard }], guard := some (28, true) }) (v := ?_) rfl (by kernel_rfl) (by kernel_rfl) (by kernel_rfl) (fun _ _ _ h => h) (Or.inl ⟨by rfl, ?_⟩) (by assumption) ?_
          rotate_left
          · intro w hSw
            try dsimp only at hSw
            go_simp
            try with_reducible rfl
          try simp only [Act.put, List.setIfInBounds_toArray, List.set_cons_zero, List.set_cons_succ]
          refine wpAnyH_take (i := 37) (oi := { dst := some 71, op := Op.pick (Operand.tmp 62) (Operand.tmp 70) (Operand.const (Value.bool false)), type := 4, pos := "law.go:48", after := #[{ on := 28, ground := Ground.data }, { on := 36, ground := Ground.data }], guard := none }) (v := ?_) rfl (by kernel_rfl) (by kernel_rfl) (by kernel_rfl) (fun _ _ _ h => h) (Or.inl ⟨by rfl, ?_⟩) (by assumption) ?_
          rotate_left
          · intro w hSw
            try dsimp only at hSw
            go_simp
            try with_reducible rfl
          try simp only [Act.put, List.setIfInBounds_toArray, List.set_cons_zero, List.set_cons_succ]
          refine wpAnyH_take (i := 38) (oi := { dst := some 4, op := Op.assign (Operand.tmp 71), type := 4, pos := "law.go:48", after := #[{ on := 37, ground := Ground.data }, { on := 32, ground := Ground.chain }, { on := 0, ground := Ground.phase }, { on := 1, ground := Ground.phase }, { on := 2, ground := Ground.phase }, { on := 3, ground := Ground.phase }, { on := 4, ground := Ground.phase }, { on := 5, ground := Ground.phase }, { on := 6, ground := Ground.phase }, { on := 7, ground := Ground.phase }, { on := 8, ground := Ground.phase }, { on := 9, ground := Ground.phase }, { on := 10, ground := Ground.phase }, { on := 11, ground := Ground.phase }, { on := 12, ground := Ground.phase }, { on := 13, ground := Ground.phase }, { on := 14, ground := Ground.phase }, { on := 15, ground := Ground.phase }, { on := 16, ground := Ground.phase }, { on := 17, ground := Ground.phase }, { on := 18, ground := Ground.phase }, { on := 19, ground := Ground.phase }, { on := 20, ground := Ground.phase }, { on := 21, ground := Ground.phase }, { on := 22, ground := Ground.phase }, { on := 23, ground := Ground.phase }, { on := 24, ground := Ground.phase }, { on := 25, ground := Ground.phase }, { on := 26, ground := Ground.phase }, { on := 27, ground := Ground.phase }, { on := 28, ground := Ground.phase }, { on := 29, ground := Ground.phase }, { on := 30, ground := Ground.phase }, { on := 31, ground := Ground.phase }, { on := 32, ground := Ground.phase }, { on := 33, ground := Ground.phase }, { on := 34, ground := Ground.phase }, { on := 35, ground := Ground.phase }, { on := 36, ground := Ground.phase }, { on := 37, ground := Ground.phase }], guard := none }) (v := ?_) rfl (by kernel_rfl) (by kernel_rfl) (by kernel_rfl) (fun _ _ _ h => h) (Or.inl ⟨by rfl, ?_⟩) (by assumption) ?_
          rotate_left
          · intro w hSw
            try dsimp only at hSw
            go_simp
            try with_reducible rfl
          try simp only [Act.put, List.setIfInBounds_toArray, List.set_cons_zero, List.set_cons_succ]
          refine wpAnyH_done (by kernel_rfl) ?_ _
          go_wp2
          go_ret
          exact ⟨rfl, HM.out.trans (HK8.out.trans (KP.moves (And.left (by assumption))))⟩
        exact AllReadyH.nil
      exact AllReadyH.nil
    exact AllReadyH.nil
end Go.Proofs.Ytmennobdgfgjaaa
