/-
  A page put in that is there.
-/
import Derived.Test.YtbfnmgjpkieaoaaCPut3
import Derived.Deep.RegionHeld3
import Derived.BigQuiet
import Derived.Laws.ResultCell
import Derived.Laws.Rows
import Derived.Deep.RegionHeldLaw
import Derived.RegionTactic
import Derived.Orders
namespace Go.Proofs.Ytbfnmgjpkieaoaa
open Go Go.RowKit Go.Maps Go.Sort Go.Proofs

theorem results_row_tmp {P : Program} {fn : Func} {p u : Tmp} {ty : TypeId} (h : fn.results = #[.cell p ty, .tmp u]) (tmps : Array Value) (w : World) (g : Nat) (t : TypeId) (cs : Array Value) (fr : Nat × Nat) (d : TypeDesc)
    (hp : tmps.getD p undef = .pointer (some ⟨g, 0, none⟩)) (hg : w.heap[g]? = some (.cells cs t fr))
    (hu : P.underlying ty = some d) (hd : (match d with | .struct _ | .array _ _ => true | _ => false) = true) (hi : (P.info? ty).map (·.size) = some cs.size) :
    (results fn tmps).run P w = .ok (.tuple #[.agg cs, tmps.getD u undef]) w := by
  have hp' : tmps[p]?.getD undef = .pointer (some ⟨g, 0, none⟩) := by simpa using hp
  rw [results_cell_tmp h]
  simp [hp', asAddr, run_loadVar_row w g t ty cs fr d hg hu hd hi, Result.andThen]
theorem own_weakC {w : World} {base base' : Nat} {e : TypeId} {size n : Nat} {v : Value} {xs : List Value} (hb : base' ≤ base) (h : w.ownsRow base e size v n xs) : w.ownsRow base' e size v n xs := by
  refine ⟨h.1, ?_⟩
  rcases h.2 with hn | ⟨g, cap, cur, rfl, hb', r⟩
  · exact .inl hn
  · exact .inr ⟨g, cap, cur, rfl, Nat.le_trans hb hb', r⟩
theorem out_cells {w : World} {ob : Nat} {a b c d e : Value} {t : TypeId} (hb : w.heap[ob]? = some (.cells #[a, b, c, d, e] t (0, 0))) : w.cell? ⟨ob, 0, none⟩ = some a ∧ w.cell? ⟨ob, 1, none⟩ = some b ∧ w.cell? ⟨ob, 2, none⟩ = some c ∧ w.cell? ⟨ob, 3, none⟩ = some d ∧ w.cell? ⟨ob, 4, none⟩ = some e ∧ w.frozen? ⟨ob, 0, none⟩ = false ∧ w.frozen? ⟨ob, 1, none⟩ = false ∧ w.frozen? ⟨ob, 2, none⟩ = false ∧ w.frozen? ⟨ob, 3, none⟩ = false ∧ w.frozen? ⟨ob, 4, none⟩ = false := by
  unfold World.cell? World.frozen?
  simp only [hb]
  exact ⟨rfl, rfl, rfl, rfl, rfl, rfl, rfl, rfl, rfl, rfl⟩
/-- Writes into a block of another kind leave the cache as it is. -/
theorem IsCache.poke {w w' : World} {base p lb m ob : Nat} {fs : List FrS} {hand : Nat} {cs : Array Value} {t : TypeId} {fr : Nat × Nat} (h : IsCache w base p lb m fs hand) (hb : w.heap[ob]? = some (.cells cs t fr)) (t1 : t ≠ 120) (t2 : t ≠ 124) (t3 : t ≠ 5) (hm : Moves (fun k => k = ob) w w') : IsCache w' base p lb m fs hand := by
  obtain ⟨D, dvs, h⟩ := h
  have hne : ∀ (g : Nat) (cs' : Array Value) (t' : TypeId) (fr' : Nat × Nat), w.heap[g]? = some (.cells cs' t' fr') → t' ≠ t → ¬ (fun k => k = ob) g := fun g cs' t' fr' hg ht e => by
    have e : g = ob := e
    rw [e, hb] at hg
    injection hg with hg
    injection hg with _ h1
    exact ht h1.symm
  obtain ⟨cf, hf, hfl⟩ := h.fr
  refine ⟨D, dvs, (hm.block p (Array.getElem?_eq_some_iff.1 h.blk).1 (hne p _ _ _ h.blk t1.symm)).trans h.blk, h.hp, ⟨cf, (hm.block lb (Array.getElem?_eq_some_iff.1 hf).1 (hne lb _ _ _ hf t2.symm)).trans hf, hfl⟩, h.hlb, h.len, fun i hi hi' => own_moves (h.dat i hi hi') hm (fun g hg => ?_), hm.ownsMap h.map (fun e => ?_), h.by_, h.hm, h.few, h.long, h.hhand⟩
  · obtain ⟨cur, hc⟩ := own_block (h.dat i hi hi') hg
    exact hne g cur _ _ hc t3.symm
  · have e : m = ob := e
    obtain ⟨es, ck, hb', _⟩ := h.map
    rw [e, hb] at hb'
    cases hb'
theorem CacheAt.notOut {w : World} {base p lb m : Nat} {fs : List FrS} {hand : Nat} {D : DataW Unit} {dvs : List Value} {ob : Nat} {cs : Array Value} (h : CacheAt w base p lb m fs hand D dvs) (hb : w.heap[ob]? = some (.cells cs 45 (0, 0))) (e : ob = lb) : False := by
  obtain ⟨cs', hb', -⟩ := h.fr
  rw [← e, hb] at hb'
  injection hb' with hb'
  injection hb' with _ h1
  exact absurd h1 (by decide)
abbrev noOut : Value := .agg #[.int .i64 0, .int .i64 0, .slice none 0 0, .bool false, .bool false]

set_option maxRecDepth 100000 in
set_option maxHeartbeats 1000000 in
theorem put_hit {w : World} {base p lb m : Nat} {fs : List FrS} {hand : Nat} (h : IsCache w base p lb m fs hand) {i : Nat} {f : FrS} (hi : fs[i]? = some f) (hh : f.here = true) {k : Pr} (hk : f.key = k) {v : Value} {bs : List Int} {L : Nat → Prop} (hr : Row w L v (bs.map encB8)) (hl : bs.length ≤ 1000000) {dirty : Bool} :
    Calls Try.prog 27 #[.pointer (some ⟨p, 0, none⟩), encK k, v, .bool dirty] w (CPost w base p lb m (fs.set i { f with data := bs, mark := true, dirty := f.dirty || dirty }) hand (.tuple #[noOut, .int .i64 0])) := by
  obtain ⟨k1, k2⟩ := k
  have hm0 := ((Moves.refl (fun _ => False) w).alloc (.cells #[.int .i64 k1, .int .i64 k2] 43)).alloc (.cells #[.int .i64 0, .int .i64 0, .slice none 0 0, .bool false, .bool false] 45)
  have HF := Lib.hid (find_hit (h.moves0 hm0) hi hh hk)
  have hob := heap_alloc2_new w (.cells #[.int .i64 k1, .int .i64 k2] 43) (.cells #[.int .i64 0, .int .i64 0, .slice none 0 0, .bool false, .bool false] 45)
  have HA := Lib.hid (And.intro (h.moves0 hm0) (And.intro hm0 hob))
  have HR := Lib.hid hr
  obtain ⟨Av, cv, rfl, -, -⟩ := hr
  have hil : i < fs.length := (List.getElem?_eq_some_iff.1 hi).1
  have hfi : fs[i] = f := (List.getElem?_eq_some_iff.1 hi).2
  clear h hm0 hi hk hob
  go_enter Try.func27, Try.ntmps27
  go_wp2_with fail
  refine HF.out.mono ?_
  rintro e w1 ⟨rfl, hm1⟩
  obtain ⟨D, dvs, h1⟩ := HA.out.1.moves0 hm1
  have hdl : i < dvs.length := by rw [h1.len]; exact hil
  obtain ⟨m4, f4⟩ := h1.frame hil (r := 4) (by omega)
  have m4' : w1.cell? ⟨lb, i * 7 + 4, none⟩ = some (.bool f.dirty) := by rw [m4, hfi]; rfl
  have hlbl : lb < w1.heap.size := by obtain ⟨cs, hb, -⟩ := h1.fr; exact (Array.getElem?_eq_some_iff.1 hb).1
  have hrw := HR.out.moves (HA.out.2.1.trans hm1) (fun _ _ _ h => h)
  have HC0 := Lib.hid (Pl.cloneB (w := w1.drew) (L := L) (xs := bs.map encB8) hrw (by intro u hu; obtain ⟨b, _, rfl⟩ := List.mem_map.1 hu; rfl) (by rw [List.length_map]; exact hl))
  have HC : Hid (Calls Try.prog 58 #[.slice Av bs.length cv] w1.drew (Pl.CloneB w1.drew (bs.map encB8))) := Lib.hid (by have h := HC0.out; rw [List.length_map] at h; exact h)
  have HM1 := Lib.hid hm1
  have H1 := Lib.hid h1
  clear m4 h1 hm1 HF hrw HC0
  have HW1 : Hid (∀ w', Moves (fun _ => False) w1 w' → w'.cell? ⟨lb, i * 7 + 2, none⟩ = some (dvs[i]) ∧ w'.cell? ⟨lb, i * 7 + 4, none⟩ = some (.bool f.dirty) ∧ w'.cell? ⟨lb, i * 7 + 5, none⟩ = some (.bool f.mark) ∧ w'.frozen? ⟨lb, i * 7 + 2, none⟩ = false ∧ w'.frozen? ⟨lb, i * 7 + 4, none⟩ = false ∧ w'.frozen? ⟨lb, i * 7 + 5, none⟩ = false) := Lib.hid (fun w' hm => by
    have h := H1.out.moves0 hm
    exact ⟨(h.frame hil (r := 2) (by omega)).1, by rw [(h.frame hil (r := 4) (by omega)).1, hfi]; rfl, by rw [(h.frame hil (r := 5) (by omega)).1, hfi]; rfl, (h.frame hil (r := 2) (by omega)).2, (h.frame hil (r := 4) (by omega)).2, (h.frame hil (r := 5) (by omega)).2⟩)
  generalize hdv : dvs[i] = dvi at HW1
  cases hfd : f.dirty with
  | true =>
    rw [hfd] at HW1 m4'
    go_wp2_with fail
    refine wp_region_held_drew (S := fun _ => True) (by kernel_rfl) ?_ (fun hHeld0 => ?_)
    · try dsimp only
      try trivial
    try simp only [List.size_toArray, List.length_cons, List.length_nil, Nat.reduceAdd]
    refine wpAnyH_take (i := 0) (oi := { dst := some 20, op := Op.move (Operand.tmp 10), type := 121, pos := "cache.go:91", after := #[], guard := none }) (v := ?_) rfl (by kernel_rfl) (by kernel_rfl) (by kernel_rfl) (fun _ _ _ h => h) (Or.inl ⟨by rfl, ?_⟩) (by assumption) ?_
    rotate_left
    · intro w hSw
      try dsimp only at hSw
      go_simp
      try with_reducible rfl
    try simp only [Act.put, List.setIfInBounds_toArray, List.set_cons_zero, List.set_cons_succ]
    refine wpAnyH_take (i := 1) (oi := { dst := some 21, op := Op.move (Operand.tmp 10), type := 121, pos := "cache.go:91", after := #[{ on := 14, ground := Ground.gcOnly Departure.lateStores }], guard := none }) (v := ?_) rfl (by kernel_rfl) (by kernel_rfl) (by kernel_rfl) (fun _ _ _ h => h) (Or.inl ⟨by rfl, ?_⟩) (by assumption) ?_
    rotate_left
    · intro w hSw
      try dsimp only at hSw
      go_simp
      try with_reducible rfl
    try simp only [Act.put, List.setIfInBounds_toArray, List.set_cons_zero, List.set_cons_succ]
    refine wpAnyH_take (i := 2) (oi := { dst := some 22, op := Op.move (Operand.tmp 10), type := 121, pos := "cache.go:91", after := #[{ on := 17, ground := Ground.gcOnly Departure.lateStores }], guard := none }) (v := ?_) rfl (by kernel_rfl) (by kernel_rfl) (by kernel_rfl) (fun _ _ _ h => h) (Or.inl ⟨by rfl, ?_⟩) (by assumption) ?_
    rotate_left
    · intro w hSw
      try dsimp only at hSw
      go_simp
      try with_reducible rfl
    try simp only [Act.put, List.setIfInBounds_toArray, List.set_cons_zero, List.set_cons_succ]
    refine wpAnyH_take (i := 3) (oi := { dst := some 23, op := Op.move (Operand.tmp 2), type := 29, pos := "cache.go:91", after := #[], guard := none }) (v := ?_) rfl (by kernel_rfl) (by kernel_rfl) (by kernel_rfl) (fun _ _ _ h => h) (Or.inl ⟨by rfl, ?_⟩) (by assumption) ?_
    rotate_left
    · intro w hSw
      try dsimp only at hSw
      go_simp
      try with_reducible rfl
    try simp only [Act.put, List.setIfInBounds_toArray, List.set_cons_zero, List.set_cons_succ]
    refine wpAnyH_take (i := 5) (oi := { dst := some 25, op := Op.move (Operand.tmp 10), type := 121, pos := "cache.go:91", after := #[], guard := none }) (v := ?_) rfl (by kernel_rfl) (by kernel_rfl) (by kernel_rfl) (fun _ _ _ h => h) (Or.inl ⟨by rfl, ?_⟩) (by assumption) ?_
    rotate_left
    · intro w hSw
      try dsimp only at hSw
      go_simp
      try with_reducible rfl
    try simp only [Act.put, List.setIfInBounds_toArray, List.set_cons_zero, List.set_cons_succ]
    refine wpAnyH_take (i := 6) (oi := { dst := some 26, op := Op.nilCheck (Operand.tmp 25), type := 0, pos := "cache.go:91", after := #[{ on := 5, ground := Ground.data }], guard := none }) (v := ?_) rfl (by kernel_rfl) (by kernel_rfl) (by kernel_rfl) (fun _ _ _ h => h) (Or.inl ⟨by rfl, ?_⟩) (by assumption) ?_
    rotate_left
    · intro w hSw
      try dsimp only at hSw
      go_simp
      try with_reducible rfl
    try simp only [Act.put, List.setIfInBounds_toArray, List.set_cons_zero, List.set_cons_succ]
    refine wpAnyH_take (i := 7) (oi := { dst := some 27, op := Op.fieldAddr 124 (Operand.tmp 26) 3, type := 0, pos := "cache.go:91", after := #[{ on := 6, ground := Ground.data }], guard := none }) (v := ?_) rfl (by kernel_rfl) (by kernel_rfl) (by kernel_rfl) (fun _ _ _ h => h) (Or.inl ⟨by rfl, ?_⟩) (by assumption) ?_
    rotate_left
    · intro w hSw
      try dsimp only at hSw
      go_simp
      try with_reducible rfl
    try simp only [Act.put, List.setIfInBounds_toArray, List.set_cons_zero, List.set_cons_succ]
    refine wpAnyH_ready (rs := [4, 8]) (by kernel_rfl) (by simp) ?_
    refine AllReadyH.cons (o := { dst := some 24, op := Op.call { callee := Callee.value (Operand.func 58), args := #[Operand.tmp 23], argTypes := #[29] }, type := 29, pos := "cache.go:91", after := #[{ on := 3, ground := Ground.data }], guard := none }) rfl (fun K hK => ?_) ?_
    · go_simp
      (first
      | (go_at_call 58
         go_must (refine HC.out.mono ?_)
         rintro e w' ⟨v', rfl, hown', hm'⟩
         rw [List.length_map] at hown'
         obtain ⟨Ac, cc, rfl, -⟩ := own_form hown'
         have hmw : Moves (fun _ => False) w1 w' := ⟨hm'.os, hm'.tape, hm'.output, hm'.size, hm'.block⟩
         obtain ⟨x2, x4, x5, y2, y4, y5⟩ := HW1.out w' hmw)
      | fail)
      go_wp2_with fail
      refine hK.out _ _ ?_ (fun hHeld1 => ?_)
      · try dsimp only
      clear hK K hHeld0
      try simp only [Act.put, List.setIfInBounds_toArray, List.set_cons_zero, List.set_cons_succ]
      refine wpAnyH_ready (rs := [8]) (by kernel_rfl) (by simp) ?_
      refine AllReadyH.cons (o := { dst := some 28, op := Op.load 4 (Operand.tmp 27), type := 4, pos := "cache.go:91", after := #[{ on := 7, ground := Ground.data }], guard := none }) rfl (fun K hK => ?_) ?_
      · go_simp
        refine hK.out _ _ ?_ (fun hHeld2 => ?_)
        · try dsimp only
        clear hK K hHeld1
        try simp only [Act.put, List.setIfInBounds_toArray, List.set_cons_zero, List.set_cons_succ]
        refine wpAnyH_take (i := 9) (oi := { dst := some 29, op := Op.move (Operand.tmp 28), type := 4, pos := "cache.go:91", after := #[{ on := 8, ground := Ground.data }, { on := 4, ground := Ground.chain }], guard := none }) (v := ?_) rfl (by kernel_rfl) (by kernel_rfl) (by kernel_rfl) (fun _ _ _ h => h) (Or.inl ⟨by rfl, ?_⟩) (by assumption) ?_
        rotate_left
        · intro w hSw
          try dsimp only at hSw
          go_simp
          try with_reducible rfl
        try simp only [Act.put, List.setIfInBounds_toArray, List.set_cons_zero, List.set_cons_succ]
        refine wpAnyH_take (i := 10) (oi := { dst := some 30, op := Op.move (Operand.tmp 3), type := 4, pos := "cache.go:91", after := #[{ on := 9, ground := Ground.guard }], guard := some (9, false) }) (v := undef) rfl (by kernel_rfl) (by kernel_rfl) (by kernel_rfl) (fun _ _ _ h => h) (Or.inr ⟨by kernel_rfl, rfl⟩) (by assumption) ?_
        try simp only [Act.put, List.setIfInBounds_toArray, List.set_cons_zero, List.set_cons_succ]
        refine wpAnyH_take (i := 11) (oi := { dst := some 31, op := Op.pick (Operand.tmp 29) (Operand.const (Value.bool true)) (Operand.tmp 30), type := 4, pos := "cache.go:91", after := #[{ on := 9, ground := Ground.data }, { on := 10, ground := Ground.data }], guard := none }) (v := ?_) rfl (by kernel_rfl) (by kernel_rfl) (by kernel_rfl) (fun _ _ _ h => h) (Or.inl ⟨by rfl, ?_⟩) (by assumption) ?_
        rotate_left
        · intro w hSw
          try dsimp only at hSw
          go_simp
          try with_reducible rfl
        try simp only [Act.put, List.setIfInBounds_toArray, List.set_cons_zero, List.set_cons_succ]
        refine wpAnyH_take (i := 12) (oi := { dst := some 32, op := Op.nilCheck (Operand.tmp 20), type := 0, pos := "cache.go:91", after := #[{ on := 0, ground := Ground.data }, { on := 0, ground := Ground.phase }, { on := 1, ground := Ground.textOnly Departure.lateStores }, { on := 2, ground := Ground.textOnly Departure.lateStores }, { on := 3, ground := Ground.phase }, { on := 4, ground := Ground.phase }, { on := 5, ground := Ground.textOnly Departure.lateStores }, { on := 6, ground := Ground.textOnly Departure.lateStoresUnsure }, { on := 7, ground := Ground.textOnly Departure.lateStoresUnsure }, { on := 8, ground := Ground.phase }, { on := 9, ground := Ground.textOnly Departure.lateStoresUnsure }, { on := 10, ground := Ground.textOnly Departure.lateStores }, { on := 11, ground := Ground.textOnly Departure.lateStoresUnsure }], guard := none }) (v := ?_) rfl (by kernel_rfl) (by kernel_rfl) (by kernel_rfl) (fun _ _ _ h => h) (Or.inl ⟨by rfl, ?_⟩) (by assumption) ?_
        rotate_left
        · intro w hSw
          try dsimp only at hSw
          go_simp
          try with_reducible rfl
        try simp only [Act.put, List.setIfInBounds_toArray, List.set_cons_zero, List.set_cons_succ]
        refine wpAnyH_take (i := 13) (oi := { dst := some 33, op := Op.fieldAddr 124 (Operand.tmp 32) 1, type := 0, pos := "cache.go:91", after := #[{ on := 12, ground := Ground.data }, { on := 0, ground := Ground.phase }, { on := 1, ground := Ground.textOnly Departure.lateStores }, { on := 2, ground := Ground.textOnly Departure.lateStores }, { on := 3, ground := Ground.phase }, { on := 4, ground := Ground.phase }, { on := 5, ground := Ground.textOnly Departure.lateStores }, { on := 6, ground := Ground.textOnly Departure.lateStoresUnsure }, { on := 7, ground := Ground.textOnly Departure.lateStoresUnsure }, { on := 8, ground := Ground.phase }, { on := 9, ground := Ground.textOnly Departure.lateStoresUnsure }, { on := 10, ground := Ground.textOnly Departure.lateStores }, { on := 11, ground := Ground.textOnly Departure.lateStoresUnsure }], guard := none }) (v := ?_) rfl (by kernel_rfl) (by kernel_rfl) (by kernel_rfl) (fun _ _ _ h => h) (Or.inl ⟨by rfl, ?_⟩) (by assumption) ?_
        rotate_left
        · intro w hSw
          try dsimp only at hSw
          go_simp
          try with_reducible rfl
        try simp only [Act.put, List.setIfInBounds_toArray, List.set_cons_zero, List.set_cons_succ]
        refine wpAnyH_ready (rs := [14]) (by kernel_rfl) (by simp) ?_
        refine AllReadyH.cons (o := { dst := none, op := Op.store 29 (Operand.tmp 33) (Operand.tmp 24), type := 0, pos := "cache.go:91", after := #[{ on := 13, ground := Ground.data }, { on := 4, ground := Ground.data }, { on := 9, ground := Ground.chain }, { on := 0, ground := Ground.phase }, { on := 1, ground := Ground.textOnly Departure.lateStores }, { on := 2, ground := Ground.textOnly Departure.lateStores }, { on := 3, ground := Ground.phase }, { on := 4, ground := Ground.phase }, { on := 5, ground := Ground.textOnly Departure.lateStores }, { on := 6, ground := Ground.textOnly Departure.lateStoresUnsure }, { on := 7, ground := Ground.textOnly Departure.lateStoresUnsure }, { on := 8, ground := Ground.phase }, { on := 9, ground := Ground.textOnly Departure.lateStoresUnsure }, { on := 10, ground := Ground.textOnly Departure.lateStores }, { on := 11, ground := Ground.textOnly Departure.lateStoresUnsure }], guard := none }) rfl (fun K hK => ?_) ?_
        · go_simp
          refine hK.out _ _ ?_ (fun hHeld3 => ?_)
          · try dsimp only
          clear hK K hHeld2
          try simp only [Act.put, List.setIfInBounds_toArray, List.set_cons_zero, List.set_cons_succ]
          refine wpAnyH_take (i := 15) (oi := { dst := some 34, op := Op.nilCheck (Operand.tmp 21), type := 0, pos := "cache.go:91", after := #[{ on := 1, ground := Ground.data }, { on := 0, ground := Ground.phase }, { on := 1, ground := Ground.phase }, { on := 2, ground := Ground.textOnly Departure.lateStores }, { on := 3, ground := Ground.phase }, { on := 4, ground := Ground.phase }, { on := 5, ground := Ground.textOnly Departure.lateStores }, { on := 6, ground := Ground.textOnly Departure.lateStoresUnsure }, { on := 7, ground := Ground.textOnly Departure.lateStoresUnsure }, { on := 8, ground := Ground.phase }, { on := 9, ground := Ground.textOnly Departure.lateStoresUnsure }, { on := 10, ground := Ground.textOnly Departure.lateStores }, { on := 11, ground := Ground.textOnly Departure.lateStoresUnsure }, { on := 12, ground := Ground.phase }, { on := 13, ground := Ground.phase }, { on := 14, ground := Ground.phase }], guard := none }) (v := ?_) rfl (by kernel_rfl) (by kernel_rfl) (by kernel_rfl) (fun _ _ _ h => h) (Or.inl ⟨by rfl, ?_⟩) (by assumption) ?_
          rotate_left
          · intro w hSw
            try dsimp only at hSw
            go_simp
            try with_reducible rfl
          try simp only [Act.put, List.setIfInBounds_toArray, List.set_cons_zero, List.set_cons_succ]
          refine wpAnyH_take (i := 16) (oi := { dst := some 35, op := Op.fieldAddr 124 (Operand.tmp 34) 4, type := 0, pos := "cache.go:91", after := #[{ on := 15, ground := Ground.data }, { on := 0, ground := Ground.phase }, { on := 1, ground := Ground.phase }, { on := 2, ground := Ground.textOnly Departure.lateStores }, { on := 3, ground := Ground.phase }, { on := 4, ground := Ground.phase }, { on := 5, ground := Ground.textOnly Departure.lateStores }, { on := 6, ground := Ground.textOnly Departure.lateStoresUnsure }, { on := 7, ground := Ground.textOnly Departure.lateStoresUnsure }, { on := 8, ground := Ground.phase }, { on := 9, ground := Ground.textOnly Departure.lateStoresUnsure }, { on := 10, ground := Ground.textOnly Departure.lateStores }, { on := 11, ground := Ground.textOnly Departure.lateStoresUnsure }, { on := 12, ground := Ground.phase }, { on := 13, ground := Ground.phase }, { on := 14, ground := Ground.phase }], guard := none }) (v := ?_) rfl (by kernel_rfl) (by kernel_rfl) (by kernel_rfl) (fun _ _ _ h => h) (Or.inl ⟨by rfl, ?_⟩) (by assumption) ?_
          rotate_left
          · intro w hSw
            try dsimp only at hSw
            go_simp
            try with_reducible rfl
          try simp only [Act.put, List.setIfInBounds_toArray, List.set_cons_zero, List.set_cons_succ]
          refine wpAnyH_ready (rs := [17]) (by kernel_rfl) (by simp) ?_
          refine AllReadyH.cons (o := { dst := none, op := Op.store 4 (Operand.tmp 35) (Operand.const (Value.bool true)), type := 0, pos := "cache.go:91", after := #[{ on := 16, ground := Ground.data }, { on := 14, ground := Ground.chain }, { on := 0, ground := Ground.phase }, { on := 1, ground := Ground.phase }, { on := 2, ground := Ground.textOnly Departure.lateStores }, { on := 3, ground := Ground.phase }, { on := 4, ground := Ground.phase }, { on := 5, ground := Ground.textOnly Departure.lateStores }, { on := 6, ground := Ground.textOnly Departure.lateStoresUnsure }, { on := 7, ground := Ground.textOnly Departure.lateStoresUnsure }, { on := 8, ground := Ground.phase }, { on := 9, ground := Ground.textOnly Departure.lateStoresUnsure }, { on := 10, ground := Ground.textOnly Departure.lateStores }, { on := 11, ground := Ground.textOnly Departure.lateStoresUnsure }, { on := 12, ground := Ground.phase }, { on := 13, ground := Ground.phase }, { on := 14, ground := Ground.phase }], guard := none }) rfl (fun K hK => ?_) ?_
          · go_simp
            refine hK.out _ _ ?_ (fun hHeld4 => ?_)
            · try dsimp only
            clear hK K hHeld3
            try simp only [Act.put, List.setIfInBounds_toArray, List.set_cons_zero, List.set_cons_succ]
            refine wpAnyH_take (i := 18) (oi := { dst := some 36, op := Op.nilCheck (Operand.tmp 22), type := 0, pos := "cache.go:91", after := #[{ on := 2, ground := Ground.data }, { on := 0, ground := Ground.phase }, { on := 1, ground := Ground.phase }, { on := 2, ground := Ground.phase }, { on := 3, ground := Ground.phase }, { on := 4, ground := Ground.phase }, { on := 5, ground := Ground.phase }, { on := 6, ground := Ground.phase }, { on := 7, ground := Ground.phase }, { on := 8, ground := Ground.phase }, { on := 9, ground := Ground.phase }, { on := 10, ground := Ground.phase }, { on := 11, ground := Ground.phase }, { on := 12, ground := Ground.phase }, { on := 13, ground := Ground.phase }, { on := 14, ground := Ground.phase }, { on := 15, ground := Ground.phase }, { on := 16, ground := Ground.phase }, { on := 17, ground := Ground.phase }], guard := none }) (v := ?_) rfl (by kernel_rfl) (by kernel_rfl) (by kernel_rfl) (fun _ _ _ h => h) (Or.inl ⟨by rfl, ?_⟩) (by assumption) ?_
            rotate_left
            · intro w hSw
              try dsimp only at hSw
              go_simp
              try with_reducible rfl
            try simp only [Act.put, List.setIfInBounds_toArray, List.set_cons_zero, List.set_cons_succ]
            refine wpAnyH_take (i := 19) (oi := { dst := some 37, op := Op.fieldAddr 124 (Operand.tmp 36) 3, type := 0, pos := "cache.go:91", after := #[{ on := 18, ground := Ground.data }, { on := 0, ground := Ground.phase }, { on := 1, ground := Ground.phase }, { on := 2, ground := Ground.phase }, { on := 3, ground := Ground.phase }, { on := 4, ground := Ground.phase }, { on := 5, ground := Ground.phase }, { on := 6, ground := Ground.phase }, { on := 7, ground := Ground.phase }, { on := 8, ground := Ground.phase }, { on := 9, ground := Ground.phase }, { on := 10, ground := Ground.phase }, { on := 11, ground := Ground.phase }, { on := 12, ground := Ground.phase }, { on := 13, ground := Ground.phase }, { on := 14, ground := Ground.phase }, { on := 15, ground := Ground.phase }, { on := 16, ground := Ground.phase }, { on := 17, ground := Ground.phase }], guard := none }) (v := ?_) rfl (by kernel_rfl) (by kernel_rfl) (by kernel_rfl) (fun _ _ _ h => h) (Or.inl ⟨by rfl, ?_⟩) (by assumption) ?_
            rotate_left
            · intro w hSw
              try dsimp only at hSw
              go_simp
              try with_reducible rfl
            try simp only [Act.put, List.setIfInBounds_toArray, List.set_cons_zero, List.set_cons_succ]
            refine wpAnyH_ready (rs := [20]) (by kernel_rfl) (by simp) ?_
            refine AllReadyH.cons (o := { dst := none, op := Op.store 4 (Operand.tmp 37) (Operand.tmp 31), type := 0, pos := "cache.go:91", after := #[{ on := 19, ground := Ground.data }, { on := 11, ground := Ground.data }, { on := 17, ground := Ground.chain }, { on := 0, ground := Ground.phase }, { on := 1, ground := Ground.phase }, { on := 2, ground := Ground.phase }, { on := 3, ground := Ground.phase }, { on := 4, ground := Ground.phase }, { on := 5, ground := Ground.phase }, { on := 6, ground := Ground.phase }, { on := 7, ground := Ground.phase }, { on := 8, ground := Ground.phase }, { on := 9, ground := Ground.phase }, { on := 10, ground := Ground.phase }, { on := 11, ground := Ground.phase }, { on := 12, ground := Ground.phase }, { on := 13, ground := Ground.phase }, { on := 14, ground := Ground.phase }, { on := 15, ground := Ground.phase }, { on := 16, ground := Ground.phase }, { on := 17, ground := Ground.phase }], guard := none }) rfl (fun K hK => ?_) ?_
            · go_simp
              refine hK.out _ _ ?_ (fun hHeld5 => ?_)
              · try dsimp only
              clear hK K hHeld4
              try simp only [Act.put, List.setIfInBounds_toArray, List.set_cons_zero, List.set_cons_succ]
              refine wpAnyH_done (by kernel_rfl) ?_ _
              have h3 := H1.out.moves0 hmw
              have hob := ((HM1.out.trans hmw).block (w.heap.size + 1) (by simp) (fun h => h)).trans HA.out.2.2
              clear x2 x4 x5 y2 y4 y5
              have hT := h3.put3 hil hfi (own_weakC (base := w1.heap.size) (by have := H1.out.hp; have := (Array.getElem?_eq_some_iff.1 H1.out.blk).1; omega) hown') hl true
              have hmS : Moves (fun k => k = lb) w' (((w'.setCell ⟨lb, i * 7 + 2, none⟩ (.slice Ac bs.length cc)).setCell ⟨lb, i * 7 + 5, none⟩ (.bool true)).setCell ⟨lb, i * 7 + 4, none⟩ (.bool true)) := Moves.setCell (p := ⟨lb, i * 7 + 4, none⟩) (Moves.setCell (p := ⟨lb, i * 7 + 5, none⟩) (Moves.setCell (p := ⟨lb, i * 7 + 2, none⟩) (Moves.refl (fun k => k = lb) w') (fun _ => rfl) _) (fun _ => rfl) _) (fun _ => rfl) _
              have hne : ¬ (fun k => k = lb) (w.heap.size + 1) := fun (e : w.heap.size + 1 = lb) => h3.notOut hob e
              have hob3 := (hmS.block (w.heap.size + 1) (Array.getElem?_eq_some_iff.1 hob).1 hne).trans hob
              have HFIN := Lib.hid (And.intro hT (And.intro hob3 (And.intro (HA.out.2.1.trans (HM1.out.trans hmw)) (And.intro hmS (show w.heap.size ≤ w.heap.size + 1 by omega)))))
              generalize ((w'.setCell ⟨lb, i * 7 + 2, none⟩ (.slice Ac bs.length cc)).setCell ⟨lb, i * 7 + 5, none⟩ (.bool true)).setCell ⟨lb, i * 7 + 4, none⟩ (.bool true) = w3 at HFIN ⊢
              obtain ⟨o0, o1, o2, o3, o4, z0, z1, z2, z3, z4⟩ := out_cells HFIN.out.2.1
              clear hT hmS hne hob3 hob h3 hmw hown' hm' HC HW1 HA HR m4' f4 hdv
              generalize w.heap.size + 1 = ob at HFIN o0 o1 o2 o3 o4 z0 z1 z2 z3 z4 ⊢
              go_wp2
              have hb4 : (((((w3.setCell ⟨ob, 0, none⟩ (.int .i64 0)).setCell ⟨ob, 1, none⟩ (.int .i64 0)).setCell ⟨ob, 2, none⟩ (.slice none 0 0)).setCell ⟨ob, 3, none⟩ (.bool false)).setCell ⟨ob, 4, none⟩ (.bool false)).heap[ob]? = some (.cells #[.int .i64 0, .int .i64 0, .slice none 0 0, .bool false, .bool false] 45 (0, 0)) := by
                simp [World.setCell, Array.getElem?_modify, HFIN.out.2.1]
              have hm4 : Moves (fun k => k = ob) w3 (((((w3.setCell ⟨ob, 0, none⟩ (.int .i64 0)).setCell ⟨ob, 1, none⟩ (.int .i64 0)).setCell ⟨ob, 2, none⟩ (.slice none 0 0)).setCell ⟨ob, 3, none⟩ (.bool false)).setCell ⟨ob, 4, none⟩ (.bool false)) :=
                Moves.setCell (p := ⟨ob, 4, none⟩) (Moves.setCell (p := ⟨ob, 3, none⟩) (Moves.setCell (p := ⟨ob, 2, none⟩) (Moves.setCell (p := ⟨ob, 1, none⟩) (Moves.setCell (p := ⟨ob, 0, none⟩) (Moves.refl (fun k => k = ob) w3) (fun _ => rfl) _) (fun _ => rfl) _) (fun _ => rfl) _) (fun _ => rfl) _) (fun _ => rfl) _
              have HC4 := Lib.hid (HFIN.out.1.poke HFIN.out.2.1 (by decide) (by decide) (by decide) hm4)
              refine bodyPost_ret (results_row_tmp rfl _ _ ob _ _ _ _ rfl hb4 Try.underlying45 rfl (by kernel_rfl)) rfl ?_
              refine ⟨rfl, by rw [show (f.dirty || dirty) = true by rw [hfd]; rfl]; exact HC4.out, ?_⟩
              exact ((HFIN.out.2.2.1.none _).andThen HFIN.out.2.2.2.1 (fun k e _ => .inr (.inl e))).andThen hm4 (fun k e hlt => absurd hlt (by have e : k = ob := e; have := HFIN.out.2.2.2.2; omega))
            exact AllReadyH.nil
          exact AllReadyH.nil
        exact AllReadyH.nil
      exact AllReadyH.nil
    refine AllReadyH.cons (o := { dst := some 28, op := Op.load 4 (Operand.tmp 27), type := 4, pos := "cache.go:91", after := #[{ on := 7, ground := Ground.data }], guard := none }) rfl (fun K hK => ?_) ?_
    · go_simp
      refine hK.out _ _ ?_ (fun hHeld1 => ?_)
      · try dsimp only
      clear hK K hHeld0
      try simp only [Act.put, List.setIfInBounds_toArray, List.set_cons_zero, List.set_cons_succ]
      refine wpAnyH_ready (rs := [4]) (by kernel_rfl) (by simp) ?_
      refine AllReadyH.cons (o := { dst := some 24, op := Op.call { callee := Callee.value (Operand.func 58), args := #[Operand.tmp 23], argTypes := #[29] }, type := 29, pos := "cache.go:91", after := #[{ on := 3, ground := Ground.data }], guard := none }) rfl (fun K hK => ?_) ?_
      · go_simp
        (first
        | (go_at_call 58
           go_must (refine HC.out.mono ?_)
           rintro e w' ⟨v', rfl, hown', hm'⟩
           rw [List.length_map] at hown'
           obtain ⟨Ac, cc, rfl, -⟩ := own_form hown'
           have hmw : Moves (fun _ => False) w1 w' := ⟨hm'.os, hm'.tape, hm'.output, hm'.size, hm'.block⟩
           obtain ⟨x2, x4, x5, y2, y4, y5⟩ := HW1.out w' hmw)
        | fail)
        go_wp2_with fail
        refine hK.out _ _ ?_ (fun hHeld2 => ?_)
        · try dsimp only
        clear hK K hHeld1
        try simp only [Act.put, List.setIfInBounds_toArray, List.set_cons_zero, List.set_cons_succ]
        refine wpAnyH_take (i := 9) (oi := { dst := some 29, op := Op.move (Operand.tmp 28), type := 4, pos := "cache.go:91", after := #[{ on := 8, ground := Ground.data }, { on := 4, ground := Ground.chain }], guard := none }) (v := ?_) rfl (by kernel_rfl) (by kernel_rfl) (by kernel_rfl) (fun _ _ _ h => h) (Or.inl ⟨by rfl, ?_⟩) (by assumption) ?_
        rotate_left
        · intro w hSw
          try dsimp only at hSw
          go_simp
          try with_reducible rfl
        try simp only [Act.put, List.setIfInBounds_toArray, List.set_cons_zero, List.set_cons_succ]
        refine wpAnyH_take (i := 10) (oi := { dst := some 30, op := Op.move (Operand.tmp 3), type := 4, pos := "cache.go:91", after := #[{ on := 9, ground := Ground.guard }], guard := some (9, false) }) (v := undef) rfl (by kernel_rfl) (by kernel_rfl) (by kernel_rfl) (fun _ _ _ h => h) (Or.inr ⟨by kernel_rfl, rfl⟩) (by assumption) ?_
        try simp only [Act.put, List.setIfInBounds_toArray, List.set_cons_zero, List.set_cons_succ]
        refine wpAnyH_take (i := 11) (oi := { dst := some 31, op := Op.pick (Operand.tmp 29) (Operand.const (Value.bool true)) (Operand.tmp 30), type := 4, pos := "cache.go:91", after := #[{ on := 9, ground := Ground.data }, { on := 10, ground := Ground.data }], guard := none }) (v := ?_) rfl (by kernel_rfl) (by kernel_rfl) (by kernel_rfl) (fun _ _ _ h => h) (Or.inl ⟨by rfl, ?_⟩) (by assumption) ?_
        rotate_left
        · intro w hSw
          try dsimp only at hSw
          go_simp
          try with_reducible rfl
        try simp only [Act.put, List.setIfInBounds_toArray, List.set_cons_zero, List.set_cons_succ]
        refine wpAnyH_take (i := 12) (oi := { dst := some 32, op := Op.nilCheck (Operand.tmp 20), type := 0, pos := "cache.go:91", after := #[{ on := 0, ground := Ground.data }, { on := 0, ground := Ground.phase }, { on := 1, ground := Ground.textOnly Departure.lateStores }, { on := 2, ground := Ground.textOnly Departure.lateStores }, { on := 3, ground := Ground.phase }, { on := 4, ground := Ground.phase }, { on := 5, ground := Ground.textOnly Departure.lateStores }, { on := 6, ground := Ground.textOnly Departure.lateStoresUnsure }, { on := 7, ground := Ground.textOnly Departure.lateStoresUnsure }, { on := 8, ground := Ground.phase }, { on := 9, ground := Ground.textOnly Departure.lateStoresUnsure }, { on := 10, ground := Ground.textOnly Departure.lateStores }, { on := 11, ground := Ground.textOnly Departure.lateStoresUnsure }], guard := none }) (v := ?_) rfl (by kernel_rfl) (by kernel_rfl) (by kernel_rfl) (fun _ _ _ h => h) (Or.inl ⟨by rfl, ?_⟩) (by assumption) ?_
        rotate_left
        · intro w hSw
          try dsimp only at hSw
          go_simp
          try with_reducible rfl
        try simp only [Act.put, List.setIfInBounds_toArray, List.set_cons_zero, List.set_cons_succ]
        refine wpAnyH_take (i := 13) (oi := { dst := some 33, op := Op.fieldAddr 124 (Operand.tmp 32) 1, type := 0, pos := "cache.go:91", after := #[{ on := 12, ground := Ground.data }, { on := 0, ground := Ground.phase }, { on := 1, ground := Ground.textOnly Departure.lateStores }, { on := 2, ground := Ground.textOnly Departure.lateStores }, { on := 3, ground := Ground.phase }, { on := 4, ground := Ground.phase }, { on := 5, ground := Ground.textOnly Departure.lateStores }, { on := 6, ground := Ground.textOnly Departure.lateStoresUnsure }, { on := 7, ground := Ground.textOnly Departure.lateStoresUnsure }, { on := 8, ground := Ground.phase }, { on := 9, ground := Ground.textOnly Departure.lateStoresUnsure }, { on := 10, ground := Ground.textOnly Departure.lateStores }, { on := 11, ground := Ground.textOnly Departure.lateStoresUnsure }], guard := none }) (v := ?_) rfl (by kernel_rfl) (by kernel_rfl) (by kernel_rfl) (fun _ _ _ h => h) (Or.inl ⟨by rfl, ?_⟩) (by assumption) ?_
        rotate_left
        · intro w hSw
          try dsimp only at hSw
          go_simp
          try with_reducible rfl
        try simp only [Act.put, List.setIfInBounds_toArray, List.set_cons_zero, List.set_cons_succ]
        refine wpAnyH_ready (rs := [14]) (by kernel_rfl) (by simp) ?_
        refine AllReadyH.cons (o := { dst := none, op := Op.store 29 (Operand.tmp 33) (Operand.tmp 24), type := 0, pos := "cache.go:91", after := #[{ on := 13, ground := Ground.data }, { on := 4, ground := Ground.data }, { on := 9, ground := Ground.chain }, { on := 0, ground := Ground.phase }, { on := 1, ground := Ground.textOnly Departure.lateStores }, { on := 2, ground := Ground.textOnly Departure.lateStores }, { on := 3, ground := Ground.phase }, { on := 4, ground := Ground.phase }, { on := 5, ground := Ground.textOnly Departure.lateStores }, { on := 6, ground := Ground.textOnly Departure.lateStoresUnsure }, { on := 7, ground := Ground.textOnly Departure.lateStoresUnsure }, { on := 8, ground := Ground.phase }, { on := 9, ground := Ground.textOnly Departure.lateStoresUnsure }, { on := 10, ground := Ground.textOnly Departure.lateStores }, { on := 11, ground := Ground.textOnly Departure.lateStoresUnsure }], guard := none }) rfl (fun K hK => ?_) ?_
        · go_simp
          refine hK.out _ _ ?_ (fun hHeld3 => ?_)
          · try dsimp only
          clear hK K hHeld2
          try simp only [Act.put, List.setIfInBounds_toArray, List.set_cons_zero, List.set_cons_succ]
          refine wpAnyH_take (i := 15) (oi := { dst := some 34, op := Op.nilCheck (Operand.tmp 21), type := 0, pos := "cache.go:91", after := #[{ on := 1, ground := Ground.data }, { on := 0, ground := Ground.phase }, { on := 1, ground := Ground.phase }, { on := 2, ground := Ground.textOnly Departure.lateStores }, { on := 3, ground := Ground.phase }, { on := 4, ground := Ground.phase }, { on := 5, ground := Ground.textOnly Departure.lateStores }, { on := 6, ground := Ground.textOnly Departure.lateStoresUnsure }, { on := 7, ground := Ground.textOnly Departure.lateStoresUnsure }, { on := 8, ground := Ground.phase }, { on := 9, ground := Ground.textOnly Departure.lateStoresUnsure }, { on := 10, ground := Ground.textOnly Departure.lateStores }, { on := 11, ground := Ground.textOnly Departure.lateStoresUnsure }, { on := 12, ground := Ground.phase }, { on := 13, ground := Ground.phase }, { on := 14, ground := Ground.phase }], guard := none }) (v := ?_) rfl (by kernel_rfl) (by kernel_rfl) (by kernel_rfl) (fun _ _ _ h => h) (Or.inl ⟨by rfl, ?_⟩) (by assumption) ?_
          rotate_left
          · intro w hSw
            try dsimp only at hSw
            go_simp
            try with_reducible rfl
          try simp only [Act.put, List.setIfInBounds_toArray, List.set_cons_zero, List.set_cons_succ]
          refine wpAnyH_take (i := 16) (oi := { dst := some 35, op := Op.fieldAddr 124 (Operand.tmp 34) 4, type := 0, pos := "cache.go:91", after := #[{ on := 15, ground := Ground.data }, { on := 0, ground := Ground.phase }, { on := 1, ground := Ground.phase }, { on := 2, ground := Ground.textOnly Departure.lateStores }, { on := 3, ground := Ground.phase }, { on := 4, ground := Ground.phase }, { on := 5, ground := Ground.textOnly Departure.lateStores }, { on := 6, ground := Ground.textOnly Departure.lateStoresUnsure }, { on := 7, ground := Ground.textOnly Departure.lateStoresUnsure }, { on := 8, ground := Ground.phase }, { on := 9, ground := Ground.textOnly Departure.lateStoresUnsure }, { on := 10, ground := Ground.textOnly Departure.lateStores }, { on := 11, ground := Ground.textOnly Departure.lateStoresUnsure }, { on := 12, ground := Ground.phase }, { on := 13, ground := Ground.phase }, { on := 14, ground := Ground.phase }], guard := none }) (v := ?_) rfl (by kernel_rfl) (by kernel_rfl) (by kernel_rfl) (fun _ _ _ h => h) (Or.inl ⟨by rfl, ?_⟩) (by assumption) ?_
          rotate_left
          · intro w hSw
            try dsimp only at hSw
            go_simp
            try with_reducible rfl
          try simp only [Act.put, List.setIfInBounds_toArray, List.set_cons_zero, List.set_cons_succ]
          refine wpAnyH_ready (rs := [17]) (by kernel_rfl) (by simp) ?_
          refine AllReadyH.cons (o := { dst := none, op := Op.store 4 (Operand.tmp 35) (Operand.const (Value.bool true)), type := 0, pos := "cache.go:91", after := #[{ on := 16, ground := Ground.data }, { on := 14, ground := Ground.chain }, { on := 0, ground := Ground.phase }, { on := 1, ground := Ground.phase }, { on := 2, ground := Ground.textOnly Departure.lateStores }, { on := 3, ground := Ground.phase }, { on := 4, ground := Ground.phase }, { on := 5, ground := Ground.textOnly Departure.lateStores }, { on := 6, ground := Ground.textOnly Departure.lateStoresUnsure }, { on := 7, ground := Ground.textOnly Departure.lateStoresUnsure }, { on := 8, ground := Ground.phase }, { on := 9, ground := Ground.textOnly Departure.lateStoresUnsure }, { on := 10, ground := Ground.textOnly Departure.lateStores }, { on := 11, ground := Ground.textOnly Departure.lateStoresUnsure }, { on := 12, ground := Ground.phase }, { on := 13, ground := Ground.phase }, { on := 14, ground := Ground.phase }], guard := none }) rfl (fun K hK => ?_) ?_
          · go_simp
            refine hK.out _ _ ?_ (fun hHeld4 => ?_)
            · try dsimp only
            clear hK K hHeld3
            try simp only [Act.put, List.setIfInBounds_toArray, List.set_cons_zero, List.set_cons_succ]
            refine wpAnyH_take (i := 18) (oi := { dst := some 36, op := Op.nilCheck (Operand.tmp 22), type := 0, pos := "cache.go:91", after := #[{ on := 2, ground := Ground.data }, { on := 0, ground := Ground.phase }, { on := 1, ground := Ground.phase }, { on := 2, ground := Ground.phase }, { on := 3, ground := Ground.phase }, { on := 4, ground := Ground.phase }, { on := 5, ground := Ground.phase }, { on := 6, ground := Ground.phase }, { on := 7, ground := Ground.phase }, { on := 8, ground := Ground.phase }, { on := 9, ground := Ground.phase }, { on := 10, ground := Ground.phase }, { on := 11, ground := Ground.phase }, { on := 12, ground := Ground.phase }, { on := 13, ground := Ground.phase }, { on := 14, ground := Ground.phase }, { on := 15, ground := Ground.phase }, { on := 16, ground := Ground.phase }, { on := 17, ground := Ground.phase }], guard := none }) (v := ?_) rfl (by kernel_rfl) (by kernel_rfl) (by kernel_rfl) (fun _ _ _ h => h) (Or.inl ⟨by rfl, ?_⟩) (by assumption) ?_
            rotate_left
            · intro w hSw
              try dsimp only at hSw
              go_simp
              try with_reducible rfl
            try simp only [Act.put, List.setIfInBounds_toArray, List.set_cons_zero, List.set_cons_succ]
            refine wpAnyH_take (i := 19) (oi := { dst := some 37, op := Op.fieldAddr 124 (Operand.tmp 36) 3, type := 0, pos := "cache.go:91", after := #[{ on := 18, ground := Ground.data }, { on := 0, ground := Ground.phase }, { on := 1, ground := Ground.phase }, { on := 2, ground := Ground.phase }, { on := 3, ground := Ground.phase }, { on := 4, ground := Ground.phase }, { on := 5, ground := Ground.phase }, { on := 6, ground := Ground.phase }, { on := 7, ground := Ground.phase }, { on := 8, ground := Ground.phase }, { on := 9, ground := Ground.phase }, { on := 10, ground := Ground.phase }, { on := 11, ground := Ground.phase }, { on := 12, ground := Ground.phase }, { on := 13, ground := Ground.phase }, { on := 14, ground := Ground.phase }, { on := 15, ground := Ground.phase }, { on := 16, ground := Ground.phase }, { on := 17, ground := Ground.phase }], guard := none }) (v := ?_) rfl (by kernel_rfl) (by kernel_rfl) (by kernel_rfl) (fun _ _ _ h => h) (Or.inl ⟨by rfl, ?_⟩) (by assumption) ?_
            rotate_left
            · intro w hSw
              try dsimp only at hSw
              go_simp
              try with_reducible rfl
            try simp only [Act.put, List.setIfInBounds_toArray, List.set_cons_zero, List.set_cons_succ]
            refine wpAnyH_ready (rs := [20]) (by kernel_rfl) (by simp) ?_
            refine AllReadyH.cons (o := { dst := none, op := Op.store 4 (Operand.tmp 37) (Operand.tmp 31), type := 0, pos := "cache.go:91", after := #[{ on := 19, ground := Ground.data }, { on := 11, ground := Ground.data }, { on := 17, ground := Ground.chain }, { on := 0, ground := Ground.phase }, { on := 1, ground := Ground.phase }, { on := 2, ground := Ground.phase }, { on := 3, ground := Ground.phase }, { on := 4, ground := Ground.phase }, { on := 5, ground := Ground.phase }, { on := 6, ground := Ground.phase }, { on := 7, ground := Ground.phase }, { on := 8, ground := Ground.phase }, { on := 9, ground := Ground.phase }, { on := 10, ground := Ground.phase }, { on := 11, ground := Ground.phase }, { on := 12, ground := Ground.phase }, { on := 13, ground := Ground.phase }, { on := 14, ground := Ground.phase }, { on := 15, ground := Ground.phase }, { on := 16, ground := Ground.phase }, { on := 17, ground := Ground.phase }], guard := none }) rfl (fun K hK => ?_) ?_
            · go_simp
              refine hK.out _ _ ?_ (fun hHeld5 => ?_)
              · try dsimp only
              clear hK K hHeld4
              try simp only [Act.put, List.setIfInBounds_toArray, List.set_cons_zero, List.set_cons_succ]
              refine wpAnyH_done (by kernel_rfl) ?_ _
              have h3 := H1.out.moves0 hmw
              have hob := ((HM1.out.trans hmw).block (w.heap.size + 1) (by simp) (fun h => h)).trans HA.out.2.2
              clear x2 x4 x5 y2 y4 y5
              have hT := h3.put3 hil hfi (own_weakC (base := w1.heap.size) (by have := H1.out.hp; have := (Array.getElem?_eq_some_iff.1 H1.out.blk).1; omega) hown') hl true
              have hmS : Moves (fun k => k = lb) w' (((w'.setCell ⟨lb, i * 7 + 2, none⟩ (.slice Ac bs.length cc)).setCell ⟨lb, i * 7 + 5, none⟩ (.bool true)).setCell ⟨lb, i * 7 + 4, none⟩ (.bool true)) := Moves.setCell (p := ⟨lb, i * 7 + 4, none⟩) (Moves.setCell (p := ⟨lb, i * 7 + 5, none⟩) (Moves.setCell (p := ⟨lb, i * 7 + 2, none⟩) (Moves.refl (fun k => k = lb) w') (fun _ => rfl) _) (fun _ => rfl) _) (fun _ => rfl) _
              have hne : ¬ (fun k => k = lb) (w.heap.size + 1) := fun (e : w.heap.size + 1 = lb) => h3.notOut hob e
              have hob3 := (hmS.block (w.heap.size + 1) (Array.getElem?_eq_some_iff.1 hob).1 hne).trans hob
              have HFIN := Lib.hid (And.intro hT (And.intro hob3 (And.intro (HA.out.2.1.trans (HM1.out.trans hmw)) (And.intro hmS (show w.heap.size ≤ w.heap.size + 1 by omega)))))
              generalize ((w'.setCell ⟨lb, i * 7 + 2, none⟩ (.slice Ac bs.length cc)).setCell ⟨lb, i * 7 + 5, none⟩ (.bool true)).setCell ⟨lb, i * 7 + 4, none⟩ (.bool true) = w3 at HFIN ⊢
              obtain ⟨o0, o1, o2, o3, o4, z0, z1, z2, z3, z4⟩ := out_cells HFIN.out.2.1
              clear hT hmS hne hob3 hob h3 hmw hown' hm' HC HW1 HA HR m4' f4 hdv
              generalize w.heap.size + 1 = ob at HFIN o0 o1 o2 o3 o4 z0 z1 z2 z3 z4 ⊢
              go_wp2
              have hb4 : (((((w3.setCell ⟨ob, 0, none⟩ (.int .i64 0)).setCell ⟨ob, 1, none⟩ (.int .i64 0)).setCell ⟨ob, 2, none⟩ (.slice none 0 0)).setCell ⟨ob, 3, none⟩ (.bool false)).setCell ⟨ob, 4, none⟩ (.bool false)).heap[ob]? = some (.cells #[.int .i64 0, .int .i64 0, .slice none 0 0, .bool false, .bool false] 45 (0, 0)) := by
                simp [World.setCell, Array.getElem?_modify, HFIN.out.2.1]
              have hm4 : Moves (fun k => k = ob) w3 (((((w3.setCell ⟨ob, 0, none⟩ (.int .i64 0)).setCell ⟨ob, 1, none⟩ (.int .i64 0)).setCell ⟨ob, 2, none⟩ (.slice none 0 0)).setCell ⟨ob, 3, none⟩ (.bool false)).setCell ⟨ob, 4, none⟩ (.bool false)) :=
                Moves.setCell (p := ⟨ob, 4, none⟩) (Moves.setCell (p := ⟨ob, 3, none⟩) (Moves.setCell (p := ⟨ob, 2, none⟩) (Moves.setCell (p := ⟨ob, 1, none⟩) (Moves.setCell (p := ⟨ob, 0, none⟩) (Moves.refl (fun k => k = ob) w3) (fun _ => rfl) _) (fun _ => rfl) _) (fun _ => rfl) _) (fun _ => rfl) _) (fun _ => rfl) _
              have HC4 := Lib.hid (HFIN.out.1.poke HFIN.out.2.1 (by decide) (by decide) (by decide) hm4)
              refine bodyPost_ret (results_row_tmp rfl _ _ ob _ _ _ _ rfl hb4 Try.underlying45 rfl (by kernel_rfl)) rfl ?_
              refine ⟨rfl, by rw [show (f.dirty || dirty) = true by rw [hfd]; rfl]; exact HC4.out, ?_⟩
              exact ((HFIN.out.2.2.1.none _).andThen HFIN.out.2.2.2.1 (fun k e _ => .inr (.inl e))).andThen hm4 (fun k e hlt => absurd hlt (by have e : k = ob := e; have := HFIN.out.2.2.2.2; omega))
            exact AllReadyH.nil
          exact AllReadyH.nil
        exact AllReadyH.nil
      exact AllReadyH.nil
    exact AllReadyH.nil
  | false =>
    rw [hfd] at HW1 m4'
    go_wp2_with fail
    refine wp_region_held_drew (S := fun _ => True) (by kernel_rfl) ?_ (fun hHeld0 => ?_)
    · try dsimp only
      try trivial
    try simp only [List.size_toArray, List.length_cons, List.length_nil, Nat.reduceAdd]
    refine wpAnyH_take (i := 0) (oi := { dst := some 20, op := Op.move (Operand.tmp 10), type := 121, pos := "cache.go:91", after := #[], guard := none }) (v := ?_) rfl (by kernel_rfl) (by kernel_rfl) (by kernel_rfl) (fun _ _ _ h => h) (Or.inl ⟨by rfl, ?_⟩) (by assumption) ?_
    rotate_left
    · intro w hSw
      try dsimp only at hSw
      go_simp
      try with_reducible rfl
    try simp only [Act.put, List.setIfInBounds_toArray, List.set_cons_zero, List.set_cons_succ]
    refine wpAnyH_take (i := 1) (oi := { dst := some 21, op := Op.move (Operand.tmp 10), type := 121, pos := "cache.go:91", after := #[{ on := 14, ground := Ground.gcOnly Departure.lateStores }], guard := none }) (v := ?_) rfl (by kernel_rfl) (by kernel_rfl) (by kernel_rfl) (fun _ _ _ h => h) (Or.inl ⟨by rfl, ?_⟩) (by assumption) ?_
    rotate_left
    · intro w hSw
      try dsimp only at hSw
      go_simp
      try with_reducible rfl
    try simp only [Act.put, List.setIfInBounds_toArray, List.set_cons_zero, List.set_cons_succ]
    refine wpAnyH_take (i := 2) (oi := { dst := some 22, op := Op.move (Operand.tmp 10), type := 121, pos := "cache.go:91", after := #[{ on := 17, ground := Ground.gcOnly Departure.lateStores }], guard := none }) (v := ?_) rfl (by kernel_rfl) (by kernel_rfl) (by kernel_rfl) (fun _ _ _ h => h) (Or.inl ⟨by rfl, ?_⟩) (by assumption) ?_
    rotate_left
    · intro w hSw
      try dsimp only at hSw
      go_simp
      try with_reducible rfl
    try simp only [Act.put, List.setIfInBounds_toArray, List.set_cons_zero, List.set_cons_succ]
    refine wpAnyH_take (i := 3) (oi := { dst := some 23, op := Op.move (Operand.tmp 2), type := 29, pos := "cache.go:91", after := #[], guard := none }) (v := ?_) rfl (by kernel_rfl) (by kernel_rfl) (by kernel_rfl) (fun _ _ _ h => h) (Or.inl ⟨by rfl, ?_⟩) (by assumption) ?_
    rotate_left
    · intro w hSw
      try dsimp only at hSw
      go_simp
      try with_reducible rfl
    try simp only [Act.put, List.setIfInBounds_toArray, List.set_cons_zero, List.set_cons_succ]
    refine wpAnyH_take (i := 5) (oi := { dst := some 25, op := Op.move (Operand.tmp 10), type := 121, pos := "cache.go:91", after := #[], guard := none }) (v := ?_) rfl (by kernel_rfl) (by kernel_rfl) (by kernel_rfl) (fun _ _ _ h => h) (Or.inl ⟨by rfl, ?_⟩) (by assumption) ?_
    rotate_left
    · intro w hSw
      try dsimp only at hSw
      go_simp
      try with_reducible rfl
    try simp only [Act.put, List.setIfInBounds_toArray, List.set_cons_zero, List.set_cons_succ]
    refine wpAnyH_take (i := 6) (oi := { dst := some 26, op := Op.nilCheck (Operand.tmp 25), type := 0, pos := "cache.go:91", after := #[{ on := 5, ground := Ground.data }], guard := none }) (v := ?_) rfl (by kernel_rfl) (by kernel_rfl) (by kernel_rfl) (fun _ _ _ h => h) (Or.inl ⟨by rfl, ?_⟩) (by assumption) ?_
    rotate_left
    · intro w hSw
      try dsimp only at hSw
      go_simp
      try with_reducible rfl
    try simp only [Act.put, List.setIfInBounds_toArray, List.set_cons_zero, List.set_cons_succ]
    refine wpAnyH_take (i := 7) (oi := { dst := some 27, op := Op.fieldAddr 124 (Operand.tmp 26) 3, type := 0, pos := "cache.go:91", after := #[{ on := 6, ground := Ground.data }], guard := none }) (v := ?_) rfl (by kernel_rfl) (by kernel_rfl) (by kernel_rfl) (fun _ _ _ h => h) (Or.inl ⟨by rfl, ?_⟩) (by assumption) ?_
    rotate_left
    · intro w hSw
      try dsimp only at hSw
      go_simp
      try with_reducible rfl
    try simp only [Act.put, List.setIfInBounds_toArray, List.set_cons_zero, List.set_cons_succ]
    refine wpAnyH_ready (rs := [4, 8]) (by kernel_rfl) (by simp) ?_
    refine AllReadyH.cons (o := { dst := some 24, op := Op.call { callee := Callee.value (Operand.func 58), args := #[Operand.tmp 23], argTypes := #[29] }, type := 29, pos := "cache.go:91", after := #[{ on := 3, ground := Ground.data }], guard := none }) rfl (fun K hK => ?_) ?_
    · go_simp
      (first
      | (go_at_call 58
         go_must (refine HC.out.mono ?_)
         rintro e w' ⟨v', rfl, hown', hm'⟩
         rw [List.length_map] at hown'
         obtain ⟨Ac, cc, rfl, -⟩ := own_form hown'
         have hmw : Moves (fun _ => False) w1 w' := ⟨hm'.os, hm'.tape, hm'.output, hm'.size, hm'.block⟩
         obtain ⟨x2, x4, x5, y2, y4, y5⟩ := HW1.out w' hmw)
      | fail)
      go_wp2_with fail
      refine hK.out _ _ ?_ (fun hHeld1 => ?_)
      · try dsimp only
      clear hK K hHeld0
      try simp only [Act.put, List.setIfInBounds_toArray, List.set_cons_zero, List.set_cons_succ]
      refine wpAnyH_ready (rs := [8]) (by kernel_rfl) (by simp) ?_
      refine AllReadyH.cons (o := { dst := some 28, op := Op.load 4 (Operand.tmp 27), type := 4, pos := "cache.go:91", after := #[{ on := 7, ground := Ground.data }], guard := none }) rfl (fun K hK => ?_) ?_
      · go_simp
        refine hK.out _ _ ?_ (fun hHeld2 => ?_)
        · try dsimp only
        clear hK K hHeld1
        try simp only [Act.put, List.setIfInBounds_toArray, List.set_cons_zero, List.set_cons_succ]
        refine wpAnyH_take (i := 9) (oi := { dst := some 29, op := Op.move (Operand.tmp 28), type := 4, pos := "cache.go:91", after := #[{ on := 8, ground := Ground.data }, { on := 4, ground := Ground.chain }], guard := none }) (v := ?_) rfl (by kernel_rfl) (by kernel_rfl) (by kernel_rfl) (fun _ _ _ h => h) (Or.inl ⟨by rfl, ?_⟩) (by assumption) ?_
        rotate_left
        · intro w hSw
          try dsimp only at hSw
          go_simp
          try with_reducible rfl
        try simp only [Act.put, List.setIfInBounds_toArray, List.set_cons_zero, List.set_cons_succ]
        refine wpAnyH_take (i := 10) (oi := { dst := some 30, op := Op.move (Operand.tmp 3), type := 4, pos := "cache.go:91", after := #[{ on := 9, ground := Ground.guard }], guard := some (9, false) }) (v := ?_) rfl (by kernel_rfl) (by kernel_rfl) (by kernel_rfl) (fun _ _ _ h => h) (Or.inl ⟨by rfl, ?_⟩) (by assumption) ?_
        rotate_left
        · intro w hSw
          try dsimp only at hSw
          go_simp
          try with_reducible rfl
        try simp only [Act.put, List.setIfInBounds_toArray, List.set_cons_zero, List.set_cons_succ]
        refine wpAnyH_take (i := 11) (oi := { dst := some 31, op := Op.pick (Operand.tmp 29) (Operand.const (Value.bool true)) (Operand.tmp 30), type := 4, pos := "cache.go:91", after := #[{ on := 9, ground := Ground.data }, { on := 10, ground := Ground.data }], guard := none }) (v := ?_) rfl (by kernel_rfl) (by kernel_rfl) (by kernel_rfl) (fun _ _ _ h => h) (Or.inl ⟨by rfl, ?_⟩) (by assumption) ?_
        rotate_left
        · intro w hSw
          try dsimp only at hSw
          go_simp
          try with_reducible rfl
        try simp only [Act.put, List.setIfInBounds_toArray, List.set_cons_zero, List.set_cons_succ]
        refine wpAnyH_take (i := 12) (oi := { dst := some 32, op := Op.nilCheck (Operand.tmp 20), type := 0, pos := "cache.go:91", after := #[{ on := 0, ground := Ground.data }, { on := 0, ground := Ground.phase }, { on := 1, ground := Ground.textOnly Departure.lateStores }, { on := 2, ground := Ground.textOnly Departure.lateStores }, { on := 3, ground := Ground.phase }, { on := 4, ground := Ground.phase }, { on := 5, ground := Ground.textOnly Departure.lateStores }, { on := 6, ground := Ground.textOnly Departure.lateStoresUnsure }, { on := 7, ground := Ground.textOnly Departure.lateStoresUnsure }, { on := 8, ground := Ground.phase }, { on := 9, ground := Ground.textOnly Departure.lateStoresUnsure }, { on := 10, ground := Ground.textOnly Departure.lateStores }, { on := 11, ground := Ground.textOnly Departure.lateStoresUnsure }], guard := none }) (v := ?_) rfl (by kernel_rfl) (by kernel_rfl) (by kernel_rfl) (fun _ _ _ h => h) (Or.inl ⟨by rfl, ?_⟩) (by assumption) ?_
        rotate_left
        · intro w hSw
          try dsimp only at hSw
          go_simp
          try with_reducible rfl
        try simp only [Act.put, List.setIfInBounds_toArray, List.set_cons_zero, List.set_cons_succ]
        refine wpAnyH_take (i := 13) (oi := { dst := some 33, op := Op.fieldAddr 124 (Operand.tmp 32) 1, type := 0, pos := "cache.go:91", after := #[{ on := 12, ground := Ground.data }, { on := 0, ground := Ground.phase }, { on := 1, ground := Ground.textOnly Departure.lateStores }, { on := 2, ground := Ground.textOnly Departure.lateStores }, { on := 3, ground := Ground.phase }, { on := 4, ground := Ground.phase }, { on := 5, ground := Ground.textOnly Departure.lateStores }, { on := 6, ground := Ground.textOnly Departure.lateStoresUnsure }, { on := 7, ground := Ground.textOnly Departure.lateStoresUnsure }, { on := 8, ground := Ground.phase }, { on := 9, ground := Ground.textOnly Departure.lateStoresUnsure }, { on := 10, ground := Ground.textOnly Departure.lateStores }, { on := 11, ground := Ground.textOnly Departure.lateStoresUnsure }], guard := none }) (v := ?_) rfl (by kernel_rfl) (by kernel_rfl) (by kernel_rfl) (fun _ _ _ h => h) (Or.inl ⟨by rfl, ?_⟩) (by assumption) ?_
        rotate_left
        · intro w hSw
          try dsimp only at hSw
          go_simp
          try with_reducible rfl
        try simp only [Act.put, List.setIfInBounds_toArray, List.set_cons_zero, List.set_cons_succ]
        refine wpAnyH_ready (rs := [14]) (by kernel_rfl) (by simp) ?_
        refine AllReadyH.cons (o := { dst := none, op := Op.store 29 (Operand.tmp 33) (Operand.tmp 24), type := 0, pos := "cache.go:91", after := #[{ on := 13, ground := Ground.data }, { on := 4, ground := Ground.data }, { on := 9, ground := Ground.chain }, { on := 0, ground := Ground.phase }, { on := 1, ground := Ground.textOnly Departure.lateStores }, { on := 2, ground := Ground.textOnly Departure.lateStores }, { on := 3, ground := Ground.phase }, { on := 4, ground := Ground.phase }, { on := 5, ground := Ground.textOnly Departure.lateStores }, { on := 6, ground := Ground.textOnly Departure.lateStoresUnsure }, { on := 7, ground := Ground.textOnly Departure.lateStoresUnsure }, { on := 8, ground := Ground.phase }, { on := 9, ground := Ground.textOnly Departure.lateStoresUnsure }, { on := 10, ground := Ground.textOnly Departure.lateStores }, { on := 11, ground := Ground.textOnly Departure.lateStoresUnsure }], guard := none }) rfl (fun K hK => ?_) ?_
        · go_simp
          refine hK.out _ _ ?_ (fun hHeld3 => ?_)
          · try dsimp only
          clear hK K hHeld2
          try simp only [Act.put, List.setIfInBounds_toArray, List.set_cons_zero, List.set_cons_succ]
          refine wpAnyH_take (i := 15) (oi := { dst := some 34, op := Op.nilCheck (Operand.tmp 21), type := 0, pos := "cache.go:91", after := #[{ on := 1, ground := Ground.data }, { on := 0, ground := Ground.phase }, { on := 1, ground := Ground.phase }, { on := 2, ground := Ground.textOnly Departure.lateStores }, { on := 3, ground := Ground.phase }, { on := 4, ground := Ground.phase }, { on := 5, ground := Ground.textOnly Departure.lateStores }, { on := 6, ground := Ground.textOnly Departure.lateStoresUnsure }, { on := 7, ground := Ground.textOnly Departure.lateStoresUnsure }, { on := 8, ground := Ground.phase }, { on := 9, ground := Ground.textOnly Departure.lateStoresUnsure }, { on := 10, ground := Ground.textOnly Departure.lateStores }, { on := 11, ground := Ground.textOnly Departure.lateStoresUnsure }, { on := 12, ground := Ground.phase }, { on := 13, ground := Ground.phase }, { on := 14, ground := Ground.phase }], guard := none }) (v := ?_) rfl (by kernel_rfl) (by kernel_rfl) (by kernel_rfl) (fun _ _ _ h => h) (Or.inl ⟨by rfl, ?_⟩) (by assumption) ?_
          rotate_left
          · intro w hSw
            try dsimp only at hSw
            go_simp
            try with_reducible rfl
          try simp only [Act.put, List.setIfInBounds_toArray, List.set_cons_zero, List.set_cons_succ]
          refine wpAnyH_take (i := 16) (oi := { dst := some 35, op := Op.fieldAddr 124 (Operand.tmp 34) 4, type := 0, pos := "cache.go:91", after := #[{ on := 15, ground := Ground.data }, { on := 0, ground := Ground.phase }, { on := 1, ground := Ground.phase }, { on := 2, ground := Ground.textOnly Departure.lateStores }, { on := 3, ground := Ground.phase }, { on := 4, ground := Ground.phase }, { on := 5, ground := Ground.textOnly Departure.lateStores }, { on := 6, ground := Ground.textOnly Departure.lateStoresUnsure }, { on := 7, ground := Ground.textOnly Departure.lateStoresUnsure }, { on := 8, ground := Ground.phase }, { on := 9, ground := Ground.textOnly Departure.lateStoresUnsure }, { on := 10, ground := Ground.textOnly Departure.lateStores }, { on := 11, ground := Ground.textOnly Departure.lateStoresUnsure }, { on := 12, ground := Ground.phase }, { on := 13, ground := Ground.phase }, { on := 14, ground := Ground.phase }], guard := none }) (v := ?_) rfl (by kernel_rfl) (by kernel_rfl) (by kernel_rfl) (fun _ _ _ h => h) (Or.inl ⟨by rfl, ?_⟩) (by assumption) ?_
          rotate_left
          · intro w hSw
            try dsimp only at hSw
            go_simp
            try with_reducible rfl
          try simp only [Act.put, List.setIfInBounds_toArray, List.set_cons_zero, List.set_cons_succ]
          refine wpAnyH_ready (rs := [17]) (by kernel_rfl) (by simp) ?_
          refine AllReadyH.cons (o := { dst := none, op := Op.store 4 (Operand.tmp 35) (Operand.const (Value.bool true)), type := 0, pos := "cache.go:91", after := #[{ on := 16, ground := Ground.data }, { on := 14, ground := Ground.chain }, { on := 0, ground := Ground.phase }, { on := 1, ground := Ground.phase }, { on := 2, ground := Ground.textOnly Departure.lateStores }, { on := 3, ground := Ground.phase }, { on := 4, ground := Ground.phase }, { on := 5, ground := Ground.textOnly Departure.lateStores }, { on := 6, ground := Ground.textOnly Departure.lateStoresUnsure }, { on := 7, ground := Ground.textOnly Departure.lateStoresUnsure }, { on := 8, ground := Ground.phase }, { on := 9, ground := Ground.textOnly Departure.lateStoresUnsure }, { on := 10, ground := Ground.textOnly Departure.lateStores }, { on := 11, ground := Ground.textOnly Departure.lateStoresUnsure }, { on := 12, ground := Ground.phase }, { on := 13, ground := Ground.phase }, { on := 14, ground := Ground.phase }], guard := none }) rfl (fun K hK => ?_) ?_
          · go_simp
            refine hK.out _ _ ?_ (fun hHeld4 => ?_)
            · try dsimp only
            clear hK K hHeld3
            try simp only [Act.put, List.setIfInBounds_toArray, List.set_cons_zero, List.set_cons_succ]
            refine wpAnyH_take (i := 18) (oi := { dst := some 36, op := Op.nilCheck (Operand.tmp 22), type := 0, pos := "cache.go:91", after := #[{ on := 2, ground := Ground.data }, { on := 0, ground := Ground.phase }, { on := 1, ground := Ground.phase }, { on := 2, ground := Ground.phase }, { on := 3, ground := Ground.phase }, { on := 4, ground := Ground.phase }, { on := 5, ground := Ground.phase }, { on := 6, ground := Ground.phase }, { on := 7, ground := Ground.phase }, { on := 8, ground := Ground.phase }, { on := 9, ground := Ground.phase }, { on := 10, ground := Ground.phase }, { on := 11, ground := Ground.phase }, { on := 12, ground := Ground.phase }, { on := 13, ground := Ground.phase }, { on := 14, ground := Ground.phase }, { on := 15, ground := Ground.phase }, { on := 16, ground := Ground.phase }, { on := 17, ground := Ground.phase }], guard := none }) (v := ?_) rfl (by kernel_rfl) (by kernel_rfl) (by kernel_rfl) (fun _ _ _ h => h) (Or.inl ⟨by rfl, ?_⟩) (by assumption) ?_
            rotate_left
            · intro w hSw
              try dsimp only at hSw
              go_simp
              try with_reducible rfl
            try simp only [Act.put, List.setIfInBounds_toArray, List.set_cons_zero, List.set_cons_succ]
            refine wpAnyH_take (i := 19) (oi := { dst := some 37, op := Op.fieldAddr 124 (Operand.tmp 36) 3, type := 0, pos := "cache.go:91", after := #[{ on := 18, ground := Ground.data }, { on := 0, ground := Ground.phase }, { on := 1, ground := Ground.phase }, { on := 2, ground := Ground.phase }, { on := 3, ground := Ground.phase }, { on := 4, ground := Ground.phase }, { on := 5, ground := Ground.phase }, { on := 6, ground := Ground.phase }, { on := 7, ground := Ground.phase }, { on := 8, ground := Ground.phase }, { on := 9, ground := Ground.phase }, { on := 10, ground := Ground.phase }, { on := 11, ground := Ground.phase }, { on := 12, ground := Ground.phase }, { on := 13, ground := Ground.phase }, { on := 14, ground := Ground.phase }, { on := 15, ground := Ground.phase }, { on := 16, ground := Ground.phase }, { on := 17, ground := Ground.phase }], guard := none }) (v := ?_) rfl (by kernel_rfl) (by kernel_rfl) (by kernel_rfl) (fun _ _ _ h => h) (Or.inl ⟨by rfl, ?_⟩) (by assumption) ?_
            rotate_left
            · intro w hSw
              try dsimp only at hSw
              go_simp
              try with_reducible rfl
            try simp only [Act.put, List.setIfInBounds_toArray, List.set_cons_zero, List.set_cons_succ]
            refine wpAnyH_ready (rs := [20]) (by kernel_rfl) (by simp) ?_
            refine AllReadyH.cons (o := { dst := none, op := Op.store 4 (Operand.tmp 37) (Operand.tmp 31), type := 0, pos := "cache.go:91", after := #[{ on := 19, ground := Ground.data }, { on := 11, ground := Ground.data }, { on := 17, ground := Ground.chain }, { on := 0, ground := Ground.phase }, { on := 1, ground := Ground.phase }, { on := 2, ground := Ground.phase }, { on := 3, ground := Ground.phase }, { on := 4, ground := Ground.phase }, { on := 5, ground := Ground.phase }, { on := 6, ground := Ground.phase }, { on := 7, ground := Ground.phase }, { on := 8, ground := Ground.phase }, { on := 9, ground := Ground.phase }, { on := 10, ground := Ground.phase }, { on := 11, ground := Ground.phase }, { on := 12, ground := Ground.phase }, { on := 13, ground := Ground.phase }, { on := 14, ground := Ground.phase }, { on := 15, ground := Ground.phase }, { on := 16, ground := Ground.phase }, { on := 17, ground := Ground.phase }], guard := none }) rfl (fun K hK => ?_) ?_
            · go_simp
              refine hK.out _ _ ?_ (fun hHeld5 => ?_)
              · try dsimp only
              clear hK K hHeld4
              try simp only [Act.put, List.setIfInBounds_toArray, List.set_cons_zero, List.set_cons_succ]
              refine wpAnyH_done (by kernel_rfl) ?_ _
              have h3 := H1.out.moves0 hmw
              have hob := ((HM1.out.trans hmw).block (w.heap.size + 1) (by simp) (fun h => h)).trans HA.out.2.2
              clear x2 x4 x5 y2 y4 y5
              have hT := h3.put3 hil hfi (own_weakC (base := w1.heap.size) (by have := H1.out.hp; have := (Array.getElem?_eq_some_iff.1 H1.out.blk).1; omega) hown') hl dirty
              have hmS : Moves (fun k => k = lb) w' (((w'.setCell ⟨lb, i * 7 + 2, none⟩ (.slice Ac bs.length cc)).setCell ⟨lb, i * 7 + 5, none⟩ (.bool true)).setCell ⟨lb, i * 7 + 4, none⟩ (.bool dirty)) := Moves.setCell (p := ⟨lb, i * 7 + 4, none⟩) (Moves.setCell (p := ⟨lb, i * 7 + 5, none⟩) (Moves.setCell (p := ⟨lb, i * 7 + 2, none⟩) (Moves.refl (fun k => k = lb) w') (fun _ => rfl) _) (fun _ => rfl) _) (fun _ => rfl) _
              have hne : ¬ (fun k => k = lb) (w.heap.size + 1) := fun (e : w.heap.size + 1 = lb) => h3.notOut hob e
              have hob3 := (hmS.block (w.heap.size + 1) (Array.getElem?_eq_some_iff.1 hob).1 hne).trans hob
              have HFIN := Lib.hid (And.intro hT (And.intro hob3 (And.intro (HA.out.2.1.trans (HM1.out.trans hmw)) (And.intro hmS (show w.heap.size ≤ w.heap.size + 1 by omega)))))
              generalize ((w'.setCell ⟨lb, i * 7 + 2, none⟩ (.slice Ac bs.length cc)).setCell ⟨lb, i * 7 + 5, none⟩ (.bool true)).setCell ⟨lb, i * 7 + 4, none⟩ (.bool dirty) = w3 at HFIN ⊢
              obtain ⟨o0, o1, o2, o3, o4, z0, z1, z2, z3, z4⟩ := out_cells HFIN.out.2.1
              clear hT hmS hne hob3 hob h3 hmw hown' hm' HC HW1 HA HR m4' f4 hdv
              generalize w.heap.size + 1 = ob at HFIN o0 o1 o2 o3 o4 z0 z1 z2 z3 z4 ⊢
              go_wp2
              have hb4 : (((((w3.setCell ⟨ob, 0, none⟩ (.int .i64 0)).setCell ⟨ob, 1, none⟩ (.int .i64 0)).setCell ⟨ob, 2, none⟩ (.slice none 0 0)).setCell ⟨ob, 3, none⟩ (.bool false)).setCell ⟨ob, 4, none⟩ (.bool false)).heap[ob]? = some (.cells #[.int .i64 0, .int .i64 0, .slice none 0 0, .bool false, .bool false] 45 (0, 0)) := by
                simp [World.setCell, Array.getElem?_modify, HFIN.out.2.1]
              have hm4 : Moves (fun k => k = ob) w3 (((((w3.setCell ⟨ob, 0, none⟩ (.int .i64 0)).setCell ⟨ob, 1, none⟩ (.int .i64 0)).setCell ⟨ob, 2, none⟩ (.slice none 0 0)).setCell ⟨ob, 3, none⟩ (.bool false)).setCell ⟨ob, 4, none⟩ (.bool false)) :=
                Moves.setCell (p := ⟨ob, 4, none⟩) (Moves.setCell (p := ⟨ob, 3, none⟩) (Moves.setCell (p := ⟨ob, 2, none⟩) (Moves.setCell (p := ⟨ob, 1, none⟩) (Moves.setCell (p := ⟨ob, 0, none⟩) (Moves.refl (fun k => k = ob) w3) (fun _ => rfl) _) (fun _ => rfl) _) (fun _ => rfl) _) (fun _ => rfl) _) (fun _ => rfl) _
              have HC4 := Lib.hid (HFIN.out.1.poke HFIN.out.2.1 (by decide) (by decide) (by decide) hm4)
              refine bodyPost_ret (results_row_tmp rfl _ _ ob _ _ _ _ rfl hb4 Try.underlying45 rfl (by kernel_rfl)) rfl ?_
              refine ⟨rfl, by rw [show (f.dirty || dirty) = dirty by rw [hfd]; rfl]; exact HC4.out, ?_⟩
              exact ((HFIN.out.2.2.1.none _).andThen HFIN.out.2.2.2.1 (fun k e _ => .inr (.inl e))).andThen hm4 (fun k e hlt => absurd hlt (by have e : k = ob := e; have := HFIN.out.2.2.2.2; omega))
            exact AllReadyH.nil
          exact AllReadyH.nil
        exact AllReadyH.nil
      exact AllReadyH.nil
    refine AllReadyH.cons (o := { dst := some 28, op := Op.load 4 (Operand.tmp 27), type := 4, pos := "cache.go:91", after := #[{ on := 7, ground := Ground.data }], guard := none }) rfl (fun K hK => ?_) ?_
    · go_simp
      refine hK.out _ _ ?_ (fun hHeld1 => ?_)
      · try dsimp only
      clear hK K hHeld0
      try simp only [Act.put, List.setIfInBounds_toArray, List.set_cons_zero, List.set_cons_succ]
      refine wpAnyH_ready (rs := [4]) (by kernel_rfl) (by simp) ?_
      refine AllReadyH.cons (o := { dst := some 24, op := Op.call { callee := Callee.value (Operand.func 58), args := #[Operand.tmp 23], argTypes := #[29] }, type := 29, pos := "cache.go:91", after := #[{ on := 3, ground := Ground.data }], guard := none }) rfl (fun K hK => ?_) ?_
      · go_simp
        (first
        | (go_at_call 58
           go_must (refine HC.out.mono ?_)
           rintro e w' ⟨v', rfl, hown', hm'⟩
           rw [List.length_map] at hown'
           obtain ⟨Ac, cc, rfl, -⟩ := own_form hown'
           have hmw : Moves (fun _ => False) w1 w' := ⟨hm'.os, hm'.tape, hm'.output, hm'.size, hm'.block⟩
           obtain ⟨x2, x4, x5, y2, y4, y5⟩ := HW1.out w' hmw)
        | fail)
        go_wp2_with fail
        refine hK.out _ _ ?_ (fun hHeld2 => ?_)
        · try dsimp only
        clear hK K hHeld1
        try simp only [Act.put, List.setIfInBounds_toArray, List.set_cons_zero, List.set_cons_succ]
        refine wpAnyH_take (i := 9) (oi := { dst := some 29, op := Op.move (Operand.tmp 28), type := 4, pos := "cache.go:91", after := #[{ on := 8, ground := Ground.data }, { on := 4, ground := Ground.chain }], guard := none }) (v := ?_) rfl (by kernel_rfl) (by kernel_rfl) (by kernel_rfl) (fun _ _ _ h => h) (Or.inl ⟨by rfl, ?_⟩) (by assumption) ?_
        rotate_left
        · intro w hSw
          try dsimp only at hSw
          go_simp
          try with_reducible rfl
        try simp only [Act.put, List.setIfInBounds_toArray, List.set_cons_zero, List.set_cons_succ]
        refine wpAnyH_take (i := 10) (oi := { dst := some 30, op := Op.move (Operand.tmp 3), type := 4, pos := "cache.go:91", after := #[{ on := 9, ground := Ground.guard }], guard := some (9, false) }) (v := ?_) rfl (by kernel_rfl) (by kernel_rfl) (by kernel_rfl) (fun _ _ _ h => h) (Or.inl ⟨by rfl, ?_⟩) (by assumption) ?_
        rotate_left
        · intro w hSw
          try dsimp only at hSw
          go_simp
          try with_reducible rfl
        try simp only [Act.put, List.setIfInBounds_toArray, List.set_cons_zero, List.set_cons_succ]
        refine wpAnyH_take (i := 11) (oi := { dst := some 31, op := Op.pick (Operand.tmp 29) (Operand.const (Value.bool true)) (Operand.tmp 30), type := 4, pos := "cache.go:91", after := #[{ on := 9, ground := Ground.data }, { on := 10, ground := Ground.data }], guard := none }) (v := ?_) rfl (by kernel_rfl) (by kernel_rfl) (by kernel_rfl) (fun _ _ _ h => h) (Or.inl ⟨by rfl, ?_⟩) (by assumption) ?_
        rotate_left
        · intro w hSw
          try dsimp only at hSw
          go_simp
          try with_reducible rfl
        try simp only [Act.put, List.setIfInBounds_toArray, List.set_cons_zero, List.set_cons_succ]
        refine wpAnyH_take (i := 12) (oi := { dst := some 32, op := Op.nilCheck (Operand.tmp 20), type := 0, pos := "cache.go:91", after := #[{ on := 0, ground := Ground.data }, { on := 0, ground := Ground.phase }, { on := 1, ground := Ground.textOnly Departure.lateStores }, { on := 2, ground := Ground.textOnly Departure.lateStores }, { on := 3, ground := Ground.phase }, { on := 4, ground := Ground.phase }, { on := 5, ground := Ground.textOnly Departure.lateStores }, { on := 6, ground := Ground.textOnly Departure.lateStoresUnsure }, { on := 7, ground := Ground.textOnly Departure.lateStoresUnsure }, { on := 8, ground := Ground.phase }, { on := 9, ground := Ground.textOnly Departure.lateStoresUnsure }, { on := 10, ground := Ground.textOnly Departure.lateStores }, { on := 11, ground := Ground.textOnly Departure.lateStoresUnsure }], guard := none }) (v := ?_) rfl (by kernel_rfl) (by kernel_rfl) (by kernel_rfl) (fun _ _ _ h => h) (Or.inl ⟨by rfl, ?_⟩) (by assumption) ?_
        rotate_left
        · intro w hSw
          try dsimp only at hSw
          go_simp
          try with_reducible rfl
        try simp only [Act.put, List.setIfInBounds_toArray, List.set_cons_zero, List.set_cons_succ]
        refine wpAnyH_take (i := 13) (oi := { dst := some 33, op := Op.fieldAddr 124 (Operand.tmp 32) 1, type := 0, pos := "cache.go:91", after := #[{ on := 12, ground := Ground.data }, { on := 0, ground := Ground.phase }, { on := 1, ground := Ground.textOnly Departure.lateStores }, { on := 2, ground := Ground.textOnly Departure.lateStores }, { on := 3, ground := Ground.phase }, { on := 4, ground := Ground.phase }, { on := 5, ground := Ground.textOnly Departure.lateStores }, { on := 6, ground := Ground.textOnly Departure.lateStoresUnsure }, { on := 7, ground := Ground.textOnly Departure.lateStoresUnsure }, { on := 8, ground := Ground.phase }, { on := 9, ground := Ground.textOnly Departure.lateStoresUnsure }, { on := 10, ground := Ground.textOnly Departure.lateStores }, { on := 11, ground := Ground.textOnly Departure.lateStoresUnsure }], guard := none }) (v := ?_) rfl (by kernel_rfl) (by kernel_rfl) (by kernel_rfl) (fun _ _ _ h => h) (Or.inl ⟨by rfl, ?_⟩) (by assumption) ?_
        rotate_left
        · intro w hSw
          try dsimp only at hSw
          go_simp
          try with_reducible rfl
        try simp only [Act.put, List.setIfInBounds_toArray, List.set_cons_zero, List.set_cons_succ]
        refine wpAnyH_ready (rs := [14]) (by kernel_rfl) (by simp) ?_
        refine AllReadyH.cons (o := { dst := none, op := Op.store 29 (Operand.tmp 33) (Operand.tmp 24), type := 0, pos := "cache.go:91", after := #[{ on := 13, ground := Ground.data }, { on := 4, ground := Ground.data }, { on := 9, ground := Ground.chain }, { on := 0, ground := Ground.phase }, { on := 1, ground := Ground.textOnly Departure.lateStores }, { on := 2, ground := Ground.textOnly Departure.lateStores }, { on := 3, ground := Ground.phase }, { on := 4, ground := Ground.phase }, { on := 5, ground := Ground.textOnly Departure.lateStores }, { on := 6, ground := Ground.textOnly Departure.lateStoresUnsure }, { on := 7, ground := Ground.textOnly Departure.lateStoresUnsure }, { on := 8, ground := Ground.phase }, { on := 9, ground := Ground.textOnly Departure.lateStoresUnsure }, { on := 10, ground := Ground.textOnly Departure.lateStores }, { on := 11, ground := Ground.textOnly Departure.lateStoresUnsure }], guard := none }) rfl (fun K hK => ?_) ?_
        · go_simp
          refine hK.out _ _ ?_ (fun hHeld3 => ?_)
          · try dsimp only
          clear hK K hHeld2
          try simp only [Act.put, List.setIfInBounds_toArray, List.set_cons_zero, List.set_cons_succ]
          refine wpAnyH_take (i := 15) (oi := { dst := some 34, op := Op.nilCheck (Operand.tmp 21), type := 0, pos := "cache.go:91", after := #[{ on := 1, ground := Ground.data }, { on := 0, ground := Ground.phase }, { on := 1, ground := Ground.phase }, { on := 2, ground := Ground.textOnly Departure.lateStores }, { on := 3, ground := Ground.phase }, { on := 4, ground := Ground.phase }, { on := 5, ground := Ground.textOnly Departure.lateStores }, { on := 6, ground := Ground.textOnly Departure.lateStoresUnsure }, { on := 7, ground := Ground.textOnly Departure.lateStoresUnsure }, { on := 8, ground := Ground.phase }, { on := 9, ground := Ground.textOnly Departure.lateStoresUnsure }, { on := 10, ground := Ground.textOnly Departure.lateStores }, { on := 11, ground := Ground.textOnly Departure.lateStoresUnsure }, { on := 12, ground := Ground.phase }, { on := 13, ground := Ground.phase }, { on := 14, ground := Ground.phase }], guard := none }) (v := ?_) rfl (by kernel_rfl) (by kernel_rfl) (by kernel_rfl) (fun _ _ _ h => h) (Or.inl ⟨by rfl, ?_⟩) (by assumption) ?_
          rotate_left
          · intro w hSw
            try dsimp only at hSw
            go_simp
            try with_reducible rfl
          try simp only [Act.put, List.setIfInBounds_toArray, List.set_cons_zero, List.set_cons_succ]
          refine wpAnyH_take (i := 16) (oi := { dst := some 35, op := Op.fieldAddr 124 (Operand.tmp 34) 4, type := 0, pos := "cache.go:91", after := #[{ on := 15, ground := Ground.data }, { on := 0, ground := Ground.phase }, { on := 1, ground := Ground.phase }, { on := 2, ground := Ground.textOnly Departure.lateStores }, { on := 3, ground := Ground.phase }, { on := 4, ground := Ground.phase }, { on := 5, ground := Ground.textOnly Departure.lateStores }, { on := 6, ground := Ground.textOnly Departure.lateStoresUnsure }, { on := 7, ground := Ground.textOnly Departure.lateStoresUnsure }, { on := 8, ground := Ground.phase }, { on := 9, ground := Ground.textOnly Departure.lateStoresUnsure }, { on := 10, ground := Ground.textOnly Departure.lateStores }, { on := 11, ground := Ground.textOnly Departure.lateStoresUnsure }, { on := 12, ground := Ground.phase }, { on := 13, ground := Ground.phase }, { on := 14, ground := Ground.phase }], guard := none }) (v := ?_) rfl (by kernel_rfl) (by kernel_rfl) (by kernel_rfl) (fun _ _ _ h => h) (Or.inl ⟨by rfl, ?_⟩) (by assumption) ?_
          rotate_left
          · intro w hSw
            try dsimp only at hSw
            go_simp
            try with_reducible rfl
          try simp only [Act.put, List.setIfInBounds_toArray, List.set_cons_zero, List.set_cons_succ]
          refine wpAnyH_ready (rs := [17]) (by kernel_rfl) (by simp) ?_
          refine AllReadyH.cons (o := { dst := none, op := Op.store 4 (Operand.tmp 35) (Operand.const (Value.bool true)), type := 0, pos := "cache.go:91", after := #[{ on := 16, ground := Ground.data }, { on := 14, ground := Ground.chain }, { on := 0, ground := Ground.phase }, { on := 1, ground := Ground.phase }, { on := 2, ground := Ground.textOnly Departure.lateStores }, { on := 3, ground := Ground.phase }, { on := 4, ground := Ground.phase }, { on := 5, ground := Ground.textOnly Departure.lateStores }, { on := 6, ground := Ground.textOnly Departure.lateStoresUnsure }, { on := 7, ground := Ground.textOnly Departure.lateStoresUnsure }, { on := 8, ground := Ground.phase }, { on := 9, ground := Ground.textOnly Departure.lateStoresUnsure }, { on := 10, ground := Ground.textOnly Departure.lateStores }, { on := 11, ground := Ground.textOnly Departure.lateStoresUnsure }, { on := 12, ground := Ground.phase }, { on := 13, ground := Ground.phase }, { on := 14, ground := Ground.phase }], guard := none }) rfl (fun K hK => ?_) ?_
          · go_simp
            refine hK.out _ _ ?_ (fun hHeld4 => ?_)
            · try dsimp only
            clear hK K hHeld3
            try simp only [Act.put, List.setIfInBounds_toArray, List.set_cons_zero, List.set_cons_succ]
            refine wpAnyH_take (i := 18) (oi := { dst := some 36, op := Op.nilCheck (Operand.tmp 22), type := 0, pos := "cache.go:91", after := #[{ on := 2, ground := Ground.data }, { on := 0, ground := Ground.phase }, { on := 1, ground := Ground.phase }, { on := 2, ground := Ground.phase }, { on := 3, ground := Ground.phase }, { on := 4, ground := Ground.phase }, { on := 5, ground := Ground.phase }, { on := 6, ground := Ground.phase }, { on := 7, ground := Ground.phase }, { on := 8, ground := Ground.phase }, { on := 9, ground := Ground.phase }, { on := 10, ground := Ground.phase }, { on := 11, ground := Ground.phase }, { on := 12, ground := Ground.phase }, { on := 13, ground := Ground.phase }, { on := 14, ground := Ground.phase }, { on := 15, ground := Ground.phase }, { on := 16, ground := Ground.phase }, { on := 17, ground := Ground.phase }], guard := none }) (v := ?_) rfl (by kernel_rfl) (by kernel_rfl) (by kernel_rfl) (fun _ _ _ h => h) (Or.inl ⟨by rfl, ?_⟩) (by assumption) ?_
            rotate_left
            · intro w hSw
              try dsimp only at hSw
              go_simp
              try with_reducible rfl
            try simp only [Act.put, List.setIfInBounds_toArray, List.set_cons_zero, List.set_cons_succ]
            refine wpAnyH_take (i := 19) (oi := { dst := some 37, op := Op.fieldAddr 124 (Operand.tmp 36) 3, type := 0, pos := "cache.go:91", after := #[{ on := 18, ground := Ground.data }, { on := 0, ground := Ground.phase }, { on := 1, ground := Ground.phase }, { on := 2, ground := Ground.phase }, { on := 3, ground := Ground.phase }, { on := 4, ground := Ground.phase }, { on := 5, ground := Ground.phase }, { on := 6, ground := Ground.phase }, { on := 7, ground := Ground.phase }, { on := 8, ground := Ground.phase }, { on := 9, ground := Ground.phase }, { on := 10, ground := Ground.phase }, { on := 11, ground := Ground.phase }, { on := 12, ground := Ground.phase }, { on := 13, ground := Ground.phase }, { on := 14, ground := Ground.phase }, { on := 15, ground := Ground.phase }, { on := 16, ground := Ground.phase }, { on := 17, ground := Ground.phase }], guard := none }) (v := ?_) rfl (by kernel_rfl) (by kernel_rfl) (by kernel_rfl) (fun _ _ _ h => h) (Or.inl ⟨by rfl, ?_⟩) (by assumption) ?_
            rotate_left
            · intro w hSw
              try dsimp only at hSw
              go_simp
              try with_reducible rfl
            try simp only [Act.put, List.setIfInBounds_toArray, List.set_cons_zero, List.set_cons_succ]
            refine wpAnyH_ready (rs := [20]) (by kernel_rfl) (by simp) ?_
            refine AllReadyH.cons (o := { dst := none, op := Op.store 4 (Operand.tmp 37) (Operand.tmp 31), type := 0, pos := "cache.go:91", after := #[{ on := 19, ground := Ground.data }, { on := 11, ground := Ground.data }, { on := 17, ground := Ground.chain }, { on := 0, ground := Ground.phase }, { on := 1, ground := Ground.phase }, { on := 2, ground := Ground.phase }, { on := 3, ground := Ground.phase }, { on := 4, ground := Ground.phase }, { on := 5, ground := Ground.phase }, { on := 6, ground := Ground.phase }, { on := 7, ground := Ground.phase }, { on := 8, ground := Ground.phase }, { on := 9, ground := Ground.phase }, { on := 10, ground := Ground.phase }, { on := 11, ground := Ground.phase }, { on := 12, ground := Ground.phase }, { on := 13, ground := Ground.phase }, { on := 14, ground := Ground.phase }, { on := 15, ground := Ground.phase }, { on := 16, ground := Ground.phase }, { on := 17, ground := Ground.phase }], guard := none }) rfl (fun K hK => ?_) ?_
            · go_simp
              refine hK.out _ _ ?_ (fun hHeld5 => ?_)
              · try dsimp only
              clear hK K hHeld4
              try simp only [Act.put, List.setIfInBounds_toArray, List.set_cons_zero, List.set_cons_succ]
              refine wpAnyH_done (by kernel_rfl) ?_ _
              have h3 := H1.out.moves0 hmw
              have hob := ((HM1.out.trans hmw).block (w.heap.size + 1) (by simp) (fun h => h)).trans HA.out.2.2
              clear x2 x4 x5 y2 y4 y5
              have hT := h3.put3 hil hfi (own_weakC (base := w1.heap.size) (by have := H1.out.hp; have := (Array.getElem?_eq_some_iff.1 H1.out.blk).1; omega) hown') hl dirty
              have hmS : Moves (fun k => k = lb) w' (((w'.setCell ⟨lb, i * 7 + 2, none⟩ (.slice Ac bs.length cc)).setCell ⟨lb, i * 7 + 5, none⟩ (.bool true)).setCell ⟨lb, i * 7 + 4, none⟩ (.bool dirty)) := Moves.setCell (p := ⟨lb, i * 7 + 4, none⟩) (Moves.setCell (p := ⟨lb, i * 7 + 5, none⟩) (Moves.setCell (p := ⟨lb, i * 7 + 2, none⟩) (Moves.refl (fun k => k = lb) w') (fun _ => rfl) _) (fun _ => rfl) _) (fun _ => rfl) _
              have hne : ¬ (fun k => k = lb) (w.heap.size + 1) := fun (e : w.heap.size + 1 = lb) => h3.notOut hob e
              have hob3 := (hmS.block (w.heap.size + 1) (Array.getElem?_eq_some_iff.1 hob).1 hne).trans hob
              have HFIN := Lib.hid (And.intro hT (And.intro hob3 (And.intro (HA.out.2.1.trans (HM1.out.trans hmw)) (And.intro hmS (show w.heap.size ≤ w.heap.size + 1 by omega)))))
              generalize ((w'.setCell ⟨lb, i * 7 + 2, none⟩ (.slice Ac bs.length cc)).setCell ⟨lb, i * 7 + 5, none⟩ (.bool true)).setCell ⟨lb, i * 7 + 4, none⟩ (.bool dirty) = w3 at HFIN ⊢
              obtain ⟨o0, o1, o2, o3, o4, z0, z1, z2, z3, z4⟩ := out_cells HFIN.out.2.1
              clear hT hmS hne hob3 hob h3 hmw hown' hm' HC HW1 HA HR m4' f4 hdv
              generalize w.heap.size + 1 = ob at HFIN o0 o1 o2 o3 o4 z0 z1 z2 z3 z4 ⊢
              go_wp2
              have hb4 : (((((w3.setCell ⟨ob, 0, none⟩ (.int .i64 0)).setCell ⟨ob, 1, none⟩ (.int .i64 0)).setCell ⟨ob, 2, none⟩ (.slice none 0 0)).setCell ⟨ob, 3, none⟩ (.bool false)).setCell ⟨ob, 4, none⟩ (.bool false)).heap[ob]? = some (.cells #[.int .i64 0, .int .i64 0, .slice none 0 0, .bool false, .bool false] 45 (0, 0)) := by
                simp [World.setCell, Array.getElem?_modify, HFIN.out.2.1]
              have hm4 : Moves (fun k => k = ob) w3 (((((w3.setCell ⟨ob, 0, none⟩ (.int .i64 0)).setCell ⟨ob, 1, none⟩ (.int .i64 0)).setCell ⟨ob, 2, none⟩ (.slice none 0 0)).setCell ⟨ob, 3, none⟩ (.bool false)).setCell ⟨ob, 4, none⟩ (.bool false)) :=
                Moves.setCell (p := ⟨ob, 4, none⟩) (Moves.setCell (p := ⟨ob, 3, none⟩) (Moves.setCell (p := ⟨ob, 2, none⟩) (Moves.setCell (p := ⟨ob, 1, none⟩) (Moves.setCell (p := ⟨ob, 0, none⟩) (Moves.refl (fun k => k = ob) w3) (fun _ => rfl) _) (fun _ => rfl) _) (fun _ => rfl) _) (fun _ => rfl) _) (fun _ => rfl) _
              have HC4 := Lib.hid (HFIN.out.1.poke HFIN.out.2.1 (by decide) (by decide) (by decide) hm4)
              refine bodyPost_ret (results_row_tmp rfl _ _ ob _ _ _ _ rfl hb4 Try.underlying45 rfl (by kernel_rfl)) rfl ?_
              refine ⟨rfl, by rw [show (f.dirty || dirty) = dirty by rw [hfd]; rfl]; exact HC4.out, ?_⟩
              exact ((HFIN.out.2.2.1.none _).andThen HFIN.out.2.2.2.1 (fun k e _ => .inr (.inl e))).andThen hm4 (fun k e hlt => absurd hlt (by have e : k = ob := e; have := HFIN.out.2.2.2.2; omega))
            exact AllReadyH.nil
          exact AllReadyH.nil
        exact AllReadyH.nil
      exact AllReadyH.nil
    exact AllReadyH.nil
end Go.Proofs.Ytbfnmgjpkieaoaa
