/-
  Bytes as a disk: the walk.
-/
import Derived.Test.YtbfnmgjpkieaoaaDiskOfOk
import Derived.Test.YtbfnmgjpkieaoaaRoundAny
namespace Go.Proofs.Ytbfnmgjpkieaoaa.Pl
open Go Go.RowKit Go.Maps Go.Sort Go.Proofs Go.Shelf
attribute [local go_sem] Oper.semAt_some

def OfPost (w : World) (z : Nat) (K : List (List Int)) (e : Ending) (w' : World) : Prop := ∃ d, e = .returned (.tuple #[.pointer (some ⟨d, 0, none⟩), .int .i64 0]) ∧ IsDisk w' w.heap.size d (ofS z K) ∧ Moves (fun _ => False) w w'

set_option maxRecDepth 100000 in
set_option maxHeartbeats 8000000 in
theorem of_ok {w : World} {g o c k z N : Nat} {xs : List Int} (hN : N = k * z) (hl : xs.length = N) (hk : 1 ≤ k ∧ k ≤ 62) (hz : 64 ≤ z ∧ z ≤ 1024) (hN4 : N ≤ 4000) (hc : N ≤ c) (hg : g < w.heap.size) (hx : ∀ j u, (xs.map encB)[j]? = some u → w.cell? ⟨g, o + j, none⟩ = some u) :
    Calls Try.prog 41 #[.slice (some ⟨g, o, none⟩) N c, .int .i64 z] w (OfPost w z ((List.finRange k).map fun x => ch xs z x.val)) := by
  refine (callsIn_wide (n := 6)).1 ?_
  have hRT := fun W => callsIn_wide (n := 5) |>.2 (right_any (n := k) (z := z) (b := true) (by unfold rightZ; simp; omega) W)
  have hCH := fun W => callsIn_wide (n := 5) |>.2 (chunk_any (z := z) (by omega) (some ⟨g, o, none⟩) N c W)
  have hfR : Fence.wide.fn 55 := trivial
  have hfC : Fence.wide.fn 71 := trivial
  have hmm := @run_makeMap Try.prog
  have hz0 : ¬ (z : Int) = 0 := by omega
  have t0 : ¬ (z : Int) < 64 := by omega
  have t00 : ¬ (1024 : Int) < (z : Int) := by omega
  have t1 : Int.tmod (N : Int) (z : Int) = 0 := by
    rw [Int.tmod_eq_emod_of_nonneg (by omega), hN]
    simp
  have t2 : Int.tdiv (N : Int) (z : Int) = (k : Int) := by
    rw [Int.tdiv_eq_ediv_of_nonneg (by omega), hN]
    rw [Int.natCast_mul]
    exact Int.mul_ediv_cancel _ (by omega)
  have HH := Lib.hid (And.intro hN (And.intro hl hx))
  clear hN hl hx
  refine callsIn_of_wp_marks Try.func41 rfl trivial ?_ rfl
  simp only [Try.ntmps41, List.size_toArray, List.length_cons, List.length_nil, Nat.reduceAdd, Nat.reduceSub, Array.replicate_succ, Array.replicate_zero, List.push_toArray, List.append_toArray, List.nil_append, List.cons_append]
  gi_wp2_with (first
    | (gi_at_call 55
       refine (hRT _).mono ?_
       rintro e w1 ⟨rfl, rfl⟩)
    | (gi_at_call 71
       refine (hCH _).mono ?_
       rintro e w1 ⟨rfl, rfl⟩)
    | gi_in)
  have hdat : DiskAt (((((w.alloc (.map #[] 0)).alloc (.cells #[.int .i64 z, .slice none 0 0, .map (some w.heap.size), .bool false, .bool false, .int .i64 0, .slice none 0 0, .int .i64 0] 108)).alloc (.cells #[.pointer (some ⟨w.heap.size + 1, 0, none⟩)] 23)).alloc (.cells #[.slice (some ⟨g, o, none⟩) N c] 29)).alloc (.cells #[.int .i64 z] 3)) w.heap.size (w.heap.size + 1) (ofS z []) (.slice none 0 0) [] w.heap.size (.map []) [] (.slice none 0 0) :=
    ⟨(Below.heap_alloc _ _ _ (by simp)).trans ((Below.heap_alloc _ _ _ (by simp)).trans ((Below.heap_alloc _ _ _ (by simp)).trans (heap_alloc2_new w (.map #[] 0) _))), by omega, World.ownsRow_nil _ _ _ _, All2.nil _, Nat.le_refl _, ((((World.ownsMap_made (H := Value) w Try.prog 113 RV).alloc _).alloc _).alloc _).alloc _, VOf.nil, All2.nil _, rfl, World.ownsRow_nil _ _ _ _, by simp [newS, ofS], by simp [newS, ofS], by simp [newS, ofS], by simp [newS, ofS]⟩
  have hinv : InvOf w (((((w.alloc (.map #[] 0)).alloc (.cells #[.int .i64 z, .slice none 0 0, .map (some w.heap.size), .bool false, .bool false, .int .i64 0, .slice none 0 0, .int .i64 0] 108)).alloc (.cells #[.pointer (some ⟨w.heap.size + 1, 0, none⟩)] 23)).alloc (.cells #[.slice (some ⟨g, o, none⟩) N c] 29)).alloc (.cells #[.int .i64 z] 3)).heap.size (w.heap.size + 1 + 1) (w.heap.size + 1) w.heap.size z k xs [] (((((w.alloc (.map #[] 0)).alloc (.cells #[.int .i64 z, .slice none 0 0, .map (some w.heap.size), .bool false, .bool false, .int .i64 0, .slice none 0 0, .int .i64 0] 108)).alloc (.cells #[.pointer (some ⟨w.heap.size + 1, 0, none⟩)] 23)).alloc (.cells #[.slice (some ⟨g, o, none⟩) N c] 29)).alloc (.cells #[.int .i64 z] 3)) (.slice none 0 0) [] :=
    ⟨hdat, World.ownsRow_nil _ _ _ _, (Below.heap_alloc _ _ _ (by simp)).trans ((Below.heap_alloc _ _ _ (by simp)).trans (by have := heap_alloc_new (((w.alloc (.map #[] 0)).alloc (.cells #[.int .i64 z, .slice none 0 0, .map (some w.heap.size), .bool false, .bool false, .int .i64 0, .slice none 0 0, .int .i64 0] 108))) (.cells #[.pointer (some ⟨w.heap.size + 1, 0, none⟩)] 23); simpa using this)), (((((Moves.refl (fun _ => False) w).alloc _).alloc _).alloc _).alloc _).alloc _, by simp; omega⟩
  have hBsb : (((((w.alloc (.map #[] 0)).alloc (.cells #[.int .i64 z, .slice none 0 0, .map (some w.heap.size), .bool false, .bool false, .int .i64 0, .slice none 0 0, .int .i64 0] 108)).alloc (.cells #[.pointer (some ⟨w.heap.size + 1, 0, none⟩)] 23)).alloc (.cells #[.slice (some ⟨g, o, none⟩) N c] 29)).alloc (.cells #[.int .i64 z] 3)).heap[w.heap.size + 1 + 1 + 1]? = some (.cells #[.slice (some ⟨g, o, none⟩) N c] 29 (0, 0)) := (Below.heap_alloc _ _ _ (by simp)).trans (by have := heap_alloc_new (((w.alloc (.map #[] 0)).alloc (.cells #[.int .i64 z, .slice none 0 0, .map (some w.heap.size), .bool false, .bool false, .int .i64 0, .slice none 0 0, .int .i64 0] 108)).alloc (.cells #[.pointer (some ⟨w.heap.size + 1, 0, none⟩)] 23)) (.cells #[.slice (some ⟨g, o, none⟩) N c] 29); simpa using this)
  have hBnb : (((((w.alloc (.map #[] 0)).alloc (.cells #[.int .i64 z, .slice none 0 0, .map (some w.heap.size), .bool false, .bool false, .int .i64 0, .slice none 0 0, .int .i64 0] 108)).alloc (.cells #[.pointer (some ⟨w.heap.size + 1, 0, none⟩)] 23)).alloc (.cells #[.slice (some ⟨g, o, none⟩) N c] 29)).alloc (.cells #[.int .i64 z] 3)).heap[w.heap.size + 1 + 1 + 1 + 1]? = some (.cells #[.int .i64 z] 3 (0, 0)) := by have := heap_alloc_new ((((w.alloc (.map #[] 0)).alloc (.cells #[.int .i64 z, .slice none 0 0, .map (some w.heap.size), .bool false, .bool false, .int .i64 0, .slice none 0 0, .int .i64 0] 108)).alloc (.cells #[.pointer (some ⟨w.heap.size + 1, 0, none⟩)] 23)).alloc (.cells #[.slice (some ⟨g, o, none⟩) N c] 29)) (.cells #[.int .i64 z] 3); simpa using this
  have hBs : (((((w.alloc (.map #[] 0)).alloc (.cells #[.int .i64 z, .slice none 0 0, .map (some w.heap.size), .bool false, .bool false, .int .i64 0, .slice none 0 0, .int .i64 0] 108)).alloc (.cells #[.pointer (some ⟨w.heap.size + 1, 0, none⟩)] 23)).alloc (.cells #[.slice (some ⟨g, o, none⟩) N c] 29)).alloc (.cells #[.int .i64 z] 3)).cell? ⟨w.heap.size + 1 + 1 + 1, 0, none⟩ = some (.slice (some ⟨g, o, none⟩) N c) := by unfold World.cell?; simp only [hBsb]; rfl
  have hBn : (((((w.alloc (.map #[] 0)).alloc (.cells #[.int .i64 z, .slice none 0 0, .map (some w.heap.size), .bool false, .bool false, .int .i64 0, .slice none 0 0, .int .i64 0] 108)).alloc (.cells #[.pointer (some ⟨w.heap.size + 1, 0, none⟩)] 23)).alloc (.cells #[.slice (some ⟨g, o, none⟩) N c] 29)).alloc (.cells #[.int .i64 z] 3)).cell? ⟨w.heap.size + 1 + 1 + 1 + 1, 0, none⟩ = some (.int .i64 z) := by unfold World.cell?; simp only [hBnb]; rfl
  have hsz : (((((w.alloc (.map #[] 0)).alloc (.cells #[.int .i64 z, .slice none 0 0, .map (some w.heap.size), .bool false, .bool false, .int .i64 0, .slice none 0 0, .int .i64 0] 108)).alloc (.cells #[.pointer (some ⟨w.heap.size + 1, 0, none⟩)] 23)).alloc (.cells #[.slice (some ⟨g, o, none⟩) N c] 29)).alloc (.cells #[.int .i64 z] 3)).heap.size = w.heap.size + 1 + 1 + 1 + 1 + 1 := by simp
  have HI0 := Lib.hid (And.intro hinv (And.intro hBs (And.intro hBn hsz)))
  clear hdat hinv hBs hBn hBsb hBnb hsz hRT hCH hmm t1 t2 t0 t00 hz0
  generalize (((((w.alloc (.map #[] 0)).alloc (.cells #[.int .i64 z, .slice none 0 0, .map (some w.heap.size), .bool false, .bool false, .int .i64 0, .slice none 0 0, .int .i64 0] 108)).alloc (.cells #[.pointer (some ⟨w.heap.size + 1, 0, none⟩)] 23)).alloc (.cells #[.slice (some ⟨g, o, none⟩) N c] 29)).alloc (.cells #[.int .i64 z] 3)) = w1 at HI0 ⊢
  generalize hm : w.heap.size = m at HI0 ⊢
  have HM := Lib.hid hm
  clear hm
  have HSZ : Hid (w1.heap.size = m + 1 + 1 + 1 + 1 + 1) := Lib.hid HI0.out.2.2.2
  generalize hd : m + 1 = d at HI0 HSZ ⊢
  generalize hpx : d + 1 = px at HI0 HSZ ⊢
  generalize hbs : px + 1 = Bs at HI0 HSZ ⊢
  generalize hbn : Bs + 1 = Bn at HI0 HSZ ⊢
  have HQ : Hid (m < d ∧ d < px ∧ px < Bs ∧ Bs < Bn ∧ Bn < w1.heap.size) := Lib.hid (by have := HSZ.out; omega)
  clear hd hpx hbs hbn
  have hmx : Try.prog.follows .mixedOrders = true := by kernel_rfl
  obtain ⟨i4, hi4, hq0, hq1, hq2⟩ := info_parts infoBS
  have hq3 : (Value.slice none 0 0).cells.size = 1 := rfl
  have hq4 : (0 : Nat) < 1 := by decide
  refine wpIn_rangeFunc_ownF rfl (by omega) (gf := 91) (lb := #[.pointer (some ⟨Bs, 0, none⟩), .pointer (some ⟨Bn, 0, none⟩)]) rfl trivial (enters_of Try.func91 (by kernel_rfl) rfl)
    (chunk_stops Fence.wide (6 - 1) trivial rfl (by omega) Bs Bn w.heap.size g o c k z (by omega) (by have := HH.out.1; omega) (by have := HH.out.1; omega) w1 (by have := HQ.out; omega) (by have := HQ.out; omega) (by rw [← HH.out.1]; exact HI0.out.2.1) HI0.out.2.2.1)
    kpC_t (kpC_b (by have := HQ.out; have := HM.out; omega) (by have := HQ.out; omega) (by have := HQ.out; omega)) (Below.refl _ _) (fun _ => rfl)
    (fun pre W => ∃ kv kvs, InvOf w w1.heap.size px d m z k xs pre W kv kvs) (fun _ _ _ => False) InvOf.from (fun _ _ _ _ _ hs _ _ => hs) ⟨_, _, HI0.out.1⟩
    (fun x => { tmps := #[.slice (some ⟨g, o, none⟩) N c, .int .i64 z, undef, undef, .pointer none, .int .i64 0, .pointer (some ⟨px, 0, none⟩), .slice (some ⟨g, o + x.val * z, none⟩) z z, .int .i64 z, .bool false, .bool false, .int .i64 z, .bool false, .bool false, .bool false, .slice (some ⟨g, o, none⟩) N c, .int .i64 N, .int .i64 z, .int .i64 0, .bool false, .bool false, .bool false, .slice (some ⟨g, o, none⟩) N c, .int .i64 N, .int .i64 z, .int .i64 k, .int .i64 z, .bool true, .bool false, .bool false, .int .i64 z, .map (some m), .agg #[.int .i64 z, .slice none 0 0, .map (some m), .bool false, .bool false, .int .i64 0, .slice none 0 0, .int .i64 0], .pointer (some ⟨d, 0, none⟩), .slice (some ⟨g, o, none⟩) N c, .int .i64 z, .func (.func 91) #[] #[.pointer (some ⟨Bs, 0, none⟩), .pointer (some ⟨Bn, 0, none⟩)], .slice (some ⟨g, o + x.val * z, none⟩) z z, undef, undef, undef, undef, undef, undef, undef, undef, undef, undef, undef, undef], defers := [] }) ?assign ?body ?done ?stop
  case assign =>
    intro l x W K hK
    gi_wp2
    exact hK
  case body =>
    rintro l pre x W ⟨kv, kvs, hI⟩ hlen
    have HLEN := Lib.hid hlen
    clear hlen
    obtain ⟨Ak, ck, rfl, -⟩ := own_form hI.own
    have hdw := (Array.getElem?_eq_some_iff.1 hI.at_.blk).1
    have hpw := (Array.getElem?_eq_some_iff.1 hI.box).1
    have c6 : W.cell? ⟨px, 0, none⟩ = some (.pointer (some ⟨d, 0, none⟩)) := by unfold World.cell?; simp only [hI.box]; rfl
    obtain ⟨-, cd, -⟩ := hI.at_.cells
    have hcl := ch_len (HH.out.2.1.trans HH.out.1) x.isLt
    have hrow : Row W (fun j => j < w.heap.size) (.slice (some ⟨g, o + x.val * z, none⟩) z z) ((ch xs z x.val).map encB) := by
      refine ⟨_, z, by rw [List.length_map, hcl], by rw [List.length_map, hcl]; exact Nat.le_refl _, fun _ => ⟨g, o + x.val * z, rfl, hg, Nat.lt_of_lt_of_le hg hI.mov.size, fun j u hu => ?_⟩⟩
      have hj : j < z := by have := (List.getElem?_eq_some_iff.1 hu).1; rw [List.length_map, hcl] at this; exact this
      refine (hI.mov.cell (p := ⟨g, o + x.val * z + j, none⟩) hg (fun h => h)).trans ?_
      rw [Nat.add_assoc]
      refine HH.out.2.2 _ _ ?_
      rw [← hu, List.getElem?_map, List.getElem?_map, ch, List.getElem?_take_of_lt hj, List.getElem?_drop]
    have HCL := Lib.hid ((cloneB (hrow.moves (Moves.refl (fun _ => False) W).drew (fun _ _ _ h => h)) (fun u hu => by obtain ⟨b, _, rfl⟩ := List.mem_map.1 hu; rfl) (by rw [List.length_map, hcl]; omega)))
    have HI := Lib.hid hI
    have HKN : Hid (kvs.length + 1 ≤ maxLen ∧ (kvs.length + 1) * 24 ≤ 140737488355328) := Lib.hid (by
      have h1 := hI.at_.secs.1
      have h2 : kvs.length = pre.length := by simpa [ofS] using h1
      have := HLEN.out
      unfold maxLen; omega)
    have HCZ := Lib.hid hcl
    have hfCl : Fence.wide.fn 58 := trivial
    clear hI hrow hcl
    generalize o + x.val * z = ox at HCL ⊢
    -- ROUND
    gi_wp2
    refine region_round (S := fun w' => w'.cell? ⟨px, 0, none⟩ = some (.pointer (some ⟨d, 0, none⟩))) hmx (by kernel_rfl) c6 (fun hH0 => ?_)
    try simp only [List.size_toArray, List.length_cons, List.length_nil, Nat.reduceAdd]
    refine wpAnyH_take (i := 0) (oi := { dst := some 38, op := Op.load 23 (Operand.tmp 6), type := 23, pos := "disk.go:50", after := #[], guard := none }) (v := ?_) rfl (by kernel_rfl) (by kernel_rfl) (by kernel_rfl) (fun _ _ _ h => by cases h.1) (Or.inl ⟨by rfl, ?_⟩) (by assumption) ?_
    rotate_left
    · intro w hSw
      try dsimp only at hSw
      go_simp
      try with_reducible rfl
    try simp only [Act.put, List.setIfInBounds_toArray, List.set_cons_zero, List.set_cons_succ]
    refine wpAnyH_take (i := 1) (oi := { dst := some 39, op := Op.load 23 (Operand.tmp 6), type := 23, pos := "disk.go:50", after := #[], guard := none }) (v := ?_) rfl (by kernel_rfl) (by kernel_rfl) (by kernel_rfl) (fun _ _ _ h => by cases h.1) (Or.inl ⟨by rfl, ?_⟩) (by assumption) ?_
    rotate_left
    · intro w hSw
      try dsimp only at hSw
      go_simp
      try with_reducible rfl
    try simp only [Act.put, List.setIfInBounds_toArray, List.set_cons_zero, List.set_cons_succ]
    refine wpAnyH_take (i := 2) (oi := { dst := some 40, op := Op.nilCheck (Operand.tmp 39), type := 0, pos := "disk.go:50", after := #[{ on := 1, ground := Ground.data }], guard := none }) (v := ?_) rfl (by kernel_rfl) (by kernel_rfl) (by kernel_rfl) (fun _ _ _ h => by cases h.1) (Or.inl ⟨by rfl, ?_⟩) (by assumption) ?_
    rotate_left
    · intro w hSw
      try dsimp only at hSw
      go_simp
      try with_reducible rfl
    try simp only [Act.put, List.setIfInBounds_toArray, List.set_cons_zero, List.set_cons_succ]
    refine wpAnyH_take (i := 3) (oi := { dst := some 41, op := Op.fieldAddr 108 (Operand.tmp 40) 1, type := 0, pos := "disk.go:50", after := #[{ on := 2, ground := Ground.data }], guard := none }) (v := ?_) rfl (by kernel_rfl) (by kernel_rfl) (by kernel_rfl) (fun _ _ _ h => by cases h.1) (Or.inl ⟨by rfl, ?_⟩) (by assumption) ?_
    rotate_left
    · intro w hSw
      try dsimp only at hSw
      go_simp
      try with_reducible rfl
    try simp only [Act.put, List.setIfInBounds_toArray, List.set_cons_zero, List.set_cons_succ]
    refine wpAnyH_take (i := 5) (oi := { dst := some 43, op := Op.move (Operand.tmp 7), type := 29, pos := "disk.go:50", after := #[], guard := none }) (v := ?_) rfl (by kernel_rfl) (by kernel_rfl) (by kernel_rfl) (fun _ _ _ h => by cases h.1) (Or.inl ⟨by rfl, ?_⟩) (by assumption) ?_
    rotate_left
    · intro w hSw
      try dsimp only at hSw
      go_simp
      try with_reducible rfl
    try simp only [Act.put, List.setIfInBounds_toArray, List.set_cons_zero, List.set_cons_succ]
    refine wpAnyH_ready (rs := [4, 6]) (by kernel_rfl) (by simp) ?_
    refine AllReadyH.cons (o := { dst := some 42, op := Op.load 52 (Operand.tmp 41), type := 52, pos := "disk.go:50", after := #[{ on := 3, ground := Ground.data }], guard := none }) rfl (fun K hK => ?_) ?_
    · go_simp
      refine hK.out _ _ ?_ (fun hH1 => ?_)
      · exact hH0
      clear hK K hH0
      try simp only [Act.put, List.setIfInBounds_toArray, List.set_cons_zero, List.set_cons_succ]
      refine wpAnyH_ready (rs := [6]) (by kernel_rfl) (by simp) ?_
      refine AllReadyH.cons (o := { dst := some 44, op := Op.call { callee := Callee.value (Operand.func 58), args := #[Operand.tmp 43], argTypes := #[29] }, type := 29, pos := "disk.go:50", after := #[{ on := 5, ground := Ground.data }], guard := none }) rfl (fun K hK => ?_) ?_
      · go_simp
        go_at_call 58
        refine HCL.out.mono ?_
        rintro e w' ⟨v', rfl, hown', hm'⟩
        rw [List.length_map, HCZ.out] at hown'
        obtain ⟨Ac, cc, rfl, -⟩ := own_form hown'
        have hmw : Moves (fun _ => False) W w' := ⟨hm'.os, hm'.tape, hm'.output, hm'.size, hm'.block⟩
        obtain ⟨v1, w5, hrun, hn5, hg5, hl5⟩ := run_append_src (P := Try.prog) (w'.alloc (.cells #[.slice Ac z cc] 29)) w1.heap.size 52 52 29 i4 _ 1 24 Try.underlying52 hi4 hq0 hq1 hq2 hq3 hq4 (.slice Ak kvs.length ck) kvs.length kvs ((own_moves HI.out.own hmw (fun _ _ h => h)).alloc _) (some ⟨w'.heap.size, 0, none⟩) 1 1 [.slice Ac z cc] rfl (fun _ => ⟨_, rfl, World.news_of_block (cs := #[.slice Ac z cc]) (t := 29) (fr := (0, 0)) (heap_alloc_new _ _)⟩) (by simp [Value.oneCell']) HKN.out.1 HKN.out.2 (by have h1 := HI.out.lo.2.1; have h2 := hmw.size; simp; omega)
        obtain ⟨A1, k1, rfl, -⟩ := own_form hn5
        have hdw' : d < w'.heap.size := Nat.lt_of_lt_of_le hdw hmw.size
        have hpw' : px < w'.heap.size := Nat.lt_of_lt_of_le hpw hmw.size
        have hnd : some d ≠ (Value.slice Ak kvs.length ck).ownBlock := fun e => by have := (HI.out.own.lt d e.symm).1; have := HI.out.lo.2.2.1; omega
        have hnp : some px ≠ (Value.slice Ak kvs.length ck).ownBlock := fun e => by have := (HI.out.own.lt px e.symm).1; have := HI.out.lo.2.2.2.2; omega
        have c6' : w'.cell? ⟨px, 0, none⟩ = some (.pointer (some ⟨d, 0, none⟩)) := (hmw.cell (p := ⟨px, 0, none⟩) hpw (fun h => h)).trans c6
        have cd' : w'.cell? ⟨d, 1, none⟩ = some (.slice Ak kvs.length ck) := (hmw.cell (p := ⟨d, 1, none⟩) hdw (fun h => h)).trans cd
        have c65 : w5.cell? ⟨px, 0, none⟩ = some (.pointer (some ⟨d, 0, none⟩)) := (World.cell?_of_block (hg5.block px (by simp; omega) hnp)).trans ((World.cell?_alloc_lt _ _ ⟨px, 0, none⟩ hpw').trans c6')
        have cd5 : w5.cell? ⟨d, 1, none⟩ = some (.slice Ak kvs.length ck) := (World.cell?_of_block (hg5.block d (by simp; omega) hnd)).trans ((World.cell?_alloc_lt _ _ ⟨d, 1, none⟩ hdw').trans cd')
        have f5 : w5.frozen? ⟨d, 1, none⟩ = false := by
          have h5 : w5.heap[d]? = W.heap[d]? := (hg5.block d (by simp; omega) hnd).trans ((Below.heap_alloc _ _ _ hdw').trans (hmw.block d hdw (fun h => h)))
          simp [World.frozen?, h5, HI.out.at_.blk]
        have HST := Lib.hid (InvOf.step HI.out (HH.out.2.1.trans HH.out.1) hz (by omega) HLEN.out (Bs := Bs) (Bn := Bn) (by have := HQ.out; omega) hmw hown' hn5 hg5)
        clear hown' hm' hmw hn5 hg5 hl5 hnd hnp
        go_wp2_with fail
        refine hK.out _ _ ?_ (fun hH2 => ?_)
        · exact c6'
        clear hK K hH1
        try simp only [Act.put, List.setIfInBounds_toArray, List.set_cons_zero, List.set_cons_succ]
        refine wpAnyH_ready (rs := [7]) (by kernel_rfl) (by simp) ?_
        refine AllReadyH.cons (o := { dst := some 45, op := Op.buildSlice 52 1 #[(0, Operand.tmp 44)], type := 52, pos := "disk.go:50", after := #[{ on := 6, ground := Ground.data }], guard := none }) rfl (fun K hK => ?_) ?_
        · go_simp
          refine hK.out _ _ ?_ (fun hH3 => ?_)
          · exact (World.cell?_alloc_lt _ _ ⟨px, 0, none⟩ hpw').trans c6'
          clear hK K hH2
          try simp only [Act.put, List.setIfInBounds_toArray, List.set_cons_zero, List.set_cons_succ]
          refine wpAnyH_ready (rs := [8]) (by kernel_rfl) (by simp) ?_
          refine AllReadyH.cons (o := { dst := some 46, op := Op.call { callee := Callee.builtin Builtin.append, args := #[Operand.tmp 42, Operand.tmp 45], argTypes := #[52, 52] }, type := 52, pos := "disk.go:50", after := #[{ on := 4, ground := Ground.data }, { on := 7, ground := Ground.data }, { on := 6, ground := Ground.chain }], guard := none }) rfl (fun K hK => ?_) ?_
          · refine step_append_run rfl (.tmp 42) (.tmp 45) 52 rfl rfl rfl hrun ?_
            refine hK.out _ _ ?_ (fun hH4 => ?_)
            · exact c65
            clear hK K hH3
            try simp only [Act.put, List.setIfInBounds_toArray, List.set_cons_zero, List.set_cons_succ]
            refine wpAnyH_take (i := 9) (oi := { dst := some 47, op := Op.nilCheck (Operand.tmp 38), type := 0, pos := "disk.go:50", after := #[{ on := 0, ground := Ground.data }, { on := 0, ground := Ground.phase }, { on := 1, ground := Ground.phase }, { on := 2, ground := Ground.phase }, { on := 3, ground := Ground.phase }, { on := 4, ground := Ground.phase }, { on := 5, ground := Ground.phase }, { on := 6, ground := Ground.phase }, { on := 7, ground := Ground.phase }, { on := 8, ground := Ground.phase }], guard := none }) (v := ?_) rfl (by kernel_rfl) (by kernel_rfl) (by kernel_rfl) (fun _ _ _ h => by cases h.1) (Or.inl ⟨by rfl, ?_⟩) (by assumption) ?_
            rotate_left
            · intro w hSw
              try dsimp only at hSw
              go_simp
              try with_reducible rfl
            try simp only [Act.put, List.setIfInBounds_toArray, List.set_cons_zero, List.set_cons_succ]
            refine wpAnyH_take (i := 10) (oi := { dst := some 48, op := Op.fieldAddr 108 (Operand.tmp 47) 1, type := 0, pos := "disk.go:50", after := #[{ on := 9, ground := Ground.data }, { on := 0, ground := Ground.phase }, { on := 1, ground := Ground.phase }, { on := 2, ground := Ground.phase }, { on := 3, ground := Ground.phase }, { on := 4, ground := Ground.phase }, { on := 5, ground := Ground.phase }, { on := 6, ground := Ground.phase }, { on := 7, ground := Ground.phase }, { on := 8, ground := Ground.phase }], guard := none }) (v := ?_) rfl (by kernel_rfl) (by kernel_rfl) (by kernel_rfl) (fun _ _ _ h => by cases h.1) (Or.inl ⟨by rfl, ?_⟩) (by assumption) ?_
            rotate_left
            · intro w hSw
              try dsimp only at hSw
              go_simp
              try with_reducible rfl
            try simp only [Act.put, List.setIfInBounds_toArray, List.set_cons_zero, List.set_cons_succ]
            refine wpAnyH_ready (rs := [11]) (by kernel_rfl) (by simp) ?_
            refine AllReadyH.cons (o := { dst := none, op := Op.store 52 (Operand.tmp 48) (Operand.tmp 46), type := 0, pos := "disk.go:50", after := #[{ on := 10, ground := Ground.data }, { on := 8, ground := Ground.data }, { on := 8, ground := Ground.chain }, { on := 0, ground := Ground.phase }, { on := 1, ground := Ground.phase }, { on := 2, ground := Ground.phase }, { on := 3, ground := Ground.phase }, { on := 4, ground := Ground.phase }, { on := 5, ground := Ground.phase }, { on := 6, ground := Ground.phase }, { on := 7, ground := Ground.phase }, { on := 8, ground := Ground.phase }], guard := none }) rfl (fun K hK => ?_) ?_
            · go_simp
              refine hK.out _ _ ?_ (fun hH5 => ?_)
              · exact (World.cell?_setCell_far w5 ⟨d, 1, none⟩ ⟨px, 0, none⟩ _ (fun (e : d = px) => by have := HQ.out; omega)).trans c65
              clear hK K hH4
              try simp only [Act.put, List.setIfInBounds_toArray, List.set_cons_zero, List.set_cons_succ]
              refine wpAnyH_done (by kernel_rfl) ?_ _
              refine ⟨rfl, ?_⟩
              exact ⟨HST.out.1, HST.out.2.1, _, _, HST.out.2.2⟩
            exact AllReadyH.nil
          exact AllReadyH.nil
        exact AllReadyH.nil
      exact AllReadyH.nil
    refine AllReadyH.cons (o := { dst := some 44, op := Op.call { callee := Callee.value (Operand.func 58), args := #[Operand.tmp 43], argTypes := #[29] }, type := 29, pos := "disk.go:50", after := #[{ on := 5, ground := Ground.data }], guard := none }) rfl (fun K hK => ?_) ?_
    · go_simp
      go_at_call 58
      refine HCL.out.mono ?_
      rintro e w' ⟨v', rfl, hown', hm'⟩
      rw [List.length_map, HCZ.out] at hown'
      obtain ⟨Ac, cc, rfl, -⟩ := own_form hown'
      have hmw : Moves (fun _ => False) W w' := ⟨hm'.os, hm'.tape, hm'.output, hm'.size, hm'.block⟩
      obtain ⟨v1, w5, hrun, hn5, hg5, hl5⟩ := run_append_src (P := Try.prog) (w'.alloc (.cells #[.slice Ac z cc] 29)) w1.heap.size 52 52 29 i4 _ 1 24 Try.underlying52 hi4 hq0 hq1 hq2 hq3 hq4 (.slice Ak kvs.length ck) kvs.length kvs ((own_moves HI.out.own hmw (fun _ _ h => h)).alloc _) (some ⟨w'.heap.size, 0, none⟩) 1 1 [.slice Ac z cc] rfl (fun _ => ⟨_, rfl, World.news_of_block (cs := #[.slice Ac z cc]) (t := 29) (fr := (0, 0)) (heap_alloc_new _ _)⟩) (by simp [Value.oneCell']) HKN.out.1 HKN.out.2 (by have h1 := HI.out.lo.2.1; have h2 := hmw.size; simp; omega)
      obtain ⟨A1, k1, rfl, -⟩ := own_form hn5
      have hdw' : d < w'.heap.size := Nat.lt_of_lt_of_le hdw hmw.size
      have hpw' : px < w'.heap.size := Nat.lt_of_lt_of_le hpw hmw.size
      have hnd : some d ≠ (Value.slice Ak kvs.length ck).ownBlock := fun e => by have := (HI.out.own.lt d e.symm).1; have := HI.out.lo.2.2.1; omega
      have hnp : some px ≠ (Value.slice Ak kvs.length ck).ownBlock := fun e => by have := (HI.out.own.lt px e.symm).1; have := HI.out.lo.2.2.2.2; omega
      have c6' : w'.cell? ⟨px, 0, none⟩ = some (.pointer (some ⟨d, 0, none⟩)) := (hmw.cell (p := ⟨px, 0, none⟩) hpw (fun h => h)).trans c6
      have cd' : w'.cell? ⟨d, 1, none⟩ = some (.slice Ak kvs.length ck) := (hmw.cell (p := ⟨d, 1, none⟩) hdw (fun h => h)).trans cd
      have c65 : w5.cell? ⟨px, 0, none⟩ = some (.pointer (some ⟨d, 0, none⟩)) := (World.cell?_of_block (hg5.block px (by simp; omega) hnp)).trans ((World.cell?_alloc_lt _ _ ⟨px, 0, none⟩ hpw').trans c6')
      have cd5 : w5.cell? ⟨d, 1, none⟩ = some (.slice Ak kvs.length ck) := (World.cell?_of_block (hg5.block d (by simp; omega) hnd)).trans ((World.cell?_alloc_lt _ _ ⟨d, 1, none⟩ hdw').trans cd')
      have f5 : w5.frozen? ⟨d, 1, none⟩ = false := by
        have h5 : w5.heap[d]? = W.heap[d]? := (hg5.block d (by simp; omega) hnd).trans ((Below.heap_alloc _ _ _ hdw').trans (hmw.block d hdw (fun h => h)))
        simp [World.frozen?, h5, HI.out.at_.blk]
      have HST := Lib.hid (InvOf.step HI.out (HH.out.2.1.trans HH.out.1) hz (by omega) HLEN.out (Bs := Bs) (Bn := Bn) (by have := HQ.out; omega) hmw hown' hn5 hg5)
      clear hown' hm' hmw hn5 hg5 hl5 hnd hnp
      go_wp2_with fail
      refine hK.out _ _ ?_ (fun hH1 => ?_)
      · exact c6'
      clear hK K hH0
      try simp only [Act.put, List.setIfInBounds_toArray, List.set_cons_zero, List.set_cons_succ]
      refine wpAnyH_ready (rs := [4, 7]) (by kernel_rfl) (by simp) ?_
      refine AllReadyH.cons (o := { dst := some 42, op := Op.load 52 (Operand.tmp 41), type := 52, pos := "disk.go:50", after := #[{ on := 3, ground := Ground.data }], guard := none }) rfl (fun K hK => ?_) ?_
      · go_simp
        refine hK.out _ _ ?_ (fun hH2 => ?_)
        · exact hH1
        clear hK K hH1
        try simp only [Act.put, List.setIfInBounds_toArray, List.set_cons_zero, List.set_cons_succ]
        refine wpAnyH_ready (rs := [7]) (by kernel_rfl) (by simp) ?_
        refine AllReadyH.cons (o := { dst := some 45, op := Op.buildSlice 52 1 #[(0, Operand.tmp 44)], type := 52, pos := "disk.go:50", after := #[{ on := 6, ground := Ground.data }], guard := none }) rfl (fun K hK => ?_) ?_
        · go_simp
          refine hK.out _ _ ?_ (fun hH3 => ?_)
          · exact (World.cell?_alloc_lt _ _ ⟨px, 0, none⟩ hpw').trans c6'
          clear hK K hH2
          try simp only [Act.put, List.setIfInBounds_toArray, List.set_cons_zero, List.set_cons_succ]
          refine wpAnyH_ready (rs := [8]) (by kernel_rfl) (by simp) ?_
          refine AllReadyH.cons (o := { dst := some 46, op := Op.call { callee := Callee.builtin Builtin.append, args := #[Operand.tmp 42, Operand.tmp 45], argTypes := #[52, 52] }, type := 52, pos := "disk.go:50", after := #[{ on := 4, ground := Ground.data }, { on := 7, ground := Ground.data }, { on := 6, ground := Ground.chain }], guard := none }) rfl (fun K hK => ?_) ?_
          · refine step_append_run rfl (.tmp 42) (.tmp 45) 52 rfl rfl rfl hrun ?_
            refine hK.out _ _ ?_ (fun hH4 => ?_)
            · exact c65
            clear hK K hH3
            try simp only [Act.put, List.setIfInBounds_toArray, List.set_cons_zero, List.set_cons_succ]
            refine wpAnyH_take (i := 9) (oi := { dst := some 47, op := Op.nilCheck (Operand.tmp 38), type := 0, pos := "disk.go:50", after := #[{ on := 0, ground := Ground.data }, { on := 0, ground := Ground.phase }, { on := 1, ground := Ground.phase }, { on := 2, ground := Ground.phase }, { on := 3, ground := Ground.phase }, { on := 4, ground := Ground.phase }, { on := 5, ground := Ground.phase }, { on := 6, ground := Ground.phase }, { on := 7, ground := Ground.phase }, { on := 8, ground := Ground.phase }], guard := none }) (v := ?_) rfl (by kernel_rfl) (by kernel_rfl) (by kernel_rfl) (fun _ _ _ h => by cases h.1) (Or.inl ⟨by rfl, ?_⟩) (by assumption) ?_
            rotate_left
            · intro w hSw
              try dsimp only at hSw
              go_simp
              try with_reducible rfl
            try simp only [Act.put, List.setIfInBounds_toArray, List.set_cons_zero, List.set_cons_succ]
            refine wpAnyH_take (i := 10) (oi := { dst := some 48, op := Op.fieldAddr 108 (Operand.tmp 47) 1, type := 0, pos := "disk.go:50", after := #[{ on := 9, ground := Ground.data }, { on := 0, ground := Ground.phase }, { on := 1, ground := Ground.phase }, { on := 2, ground := Ground.phase }, { on := 3, ground := Ground.phase }, { on := 4, ground := Ground.phase }, { on := 5, ground := Ground.phase }, { on := 6, ground := Ground.phase }, { on := 7, ground := Ground.phase }, { on := 8, ground := Ground.phase }], guard := none }) (v := ?_) rfl (by kernel_rfl) (by kernel_rfl) (by kernel_rfl) (fun _ _ _ h => by cases h.1) (Or.inl ⟨by rfl, ?_⟩) (by assumption) ?_
            rotate_left
            · intro w hSw
              try dsimp only at hSw
              go_simp
              try with_reducible rfl
            try simp only [Act.put, List.setIfInBounds_toArray, List.set_cons_zero, List.set_cons_succ]
            refine wpAnyH_ready (rs := [11]) (by kernel_rfl) (by simp) ?_
            refine AllReadyH.cons (o := { dst := none, op := Op.store 52 (Operand.tmp 48) (Operand.tmp 46), type := 0, pos := "disk.go:50", after := #[{ on := 10, ground := Ground.data }, { on := 8, ground := Ground.data }, { on := 8, ground := Ground.chain }, { on := 0, ground := Ground.phase }, { on := 1, ground := Ground.phase }, { on := 2, ground := Ground.phase }, { on := 3, ground := Ground.phase }, { on := 4, ground := Ground.phase }, { on := 5, ground := Ground.phase }, { on := 6, ground := Ground.phase }, { on := 7, ground := Ground.phase }, { on := 8, ground := Ground.phase }], guard := none }) rfl (fun K hK => ?_) ?_
            · go_simp
              refine hK.out _ _ ?_ (fun hH5 => ?_)
              · exact (World.cell?_setCell_far w5 ⟨d, 1, none⟩ ⟨px, 0, none⟩ _ (fun (e : d = px) => by have := HQ.out; omega)).trans c65
              clear hK K hH4
              try simp only [Act.put, List.setIfInBounds_toArray, List.set_cons_zero, List.set_cons_succ]
              refine wpAnyH_done (by kernel_rfl) ?_ _
              refine ⟨rfl, ?_⟩
              exact ⟨HST.out.1, HST.out.2.1, _, _, HST.out.2.2⟩
            exact AllReadyH.nil
          exact AllReadyH.nil
        exact AllReadyH.nil
      refine AllReadyH.cons (o := { dst := some 45, op := Op.buildSlice 52 1 #[(0, Operand.tmp 44)], type := 52, pos := "disk.go:50", after := #[{ on := 6, ground := Ground.data }], guard := none }) rfl (fun K hK => ?_) ?_
      · go_simp
        refine hK.out _ _ ?_ (fun hH2 => ?_)
        · exact (World.cell?_alloc_lt _ _ ⟨px, 0, none⟩ hpw').trans c6'
        clear hK K hH1
        try simp only [Act.put, List.setIfInBounds_toArray, List.set_cons_zero, List.set_cons_succ]
        refine wpAnyH_ready (rs := [4]) (by kernel_rfl) (by simp) ?_
        refine AllReadyH.cons (o := { dst := some 42, op := Op.load 52 (Operand.tmp 41), type := 52, pos := "disk.go:50", after := #[{ on := 3, ground := Ground.data }], guard := none }) rfl (fun K hK => ?_) ?_
        · go_simp
          refine hK.out _ _ ?_ (fun hH3 => ?_)
          · exact hH2
          clear hK K hH2
          try simp only [Act.put, List.setIfInBounds_toArray, List.set_cons_zero, List.set_cons_succ]
          refine wpAnyH_ready (rs := [8]) (by kernel_rfl) (by simp) ?_
          refine AllReadyH.cons (o := { dst := some 46, op := Op.call { callee := Callee.builtin Builtin.append, args := #[Operand.tmp 42, Operand.tmp 45], argTypes := #[52, 52] }, type := 52, pos := "disk.go:50", after := #[{ on := 4, ground := Ground.data }, { on := 7, ground := Ground.data }, { on := 6, ground := Ground.chain }], guard := none }) rfl (fun K hK => ?_) ?_
          · refine step_append_run rfl (.tmp 42) (.tmp 45) 52 rfl rfl rfl hrun ?_
            refine hK.out _ _ ?_ (fun hH4 => ?_)
            · exact c65
            clear hK K hH3
            try simp only [Act.put, List.setIfInBounds_toArray, List.set_cons_zero, List.set_cons_succ]
            refine wpAnyH_take (i := 9) (oi := { dst := some 47, op := Op.nilCheck (Operand.tmp 38), type := 0, pos := "disk.go:50", after := #[{ on := 0, ground := Ground.data }, { on := 0, ground := Ground.phase }, { on := 1, ground := Ground.phase }, { on := 2, ground := Ground.phase }, { on := 3, ground := Ground.phase }, { on := 4, ground := Ground.phase }, { on := 5, ground := Ground.phase }, { on := 6, ground := Ground.phase }, { on := 7, ground := Ground.phase }, { on := 8, ground := Ground.phase }], guard := none }) (v := ?_) rfl (by kernel_rfl) (by kernel_rfl) (by kernel_rfl) (fun _ _ _ h => by cases h.1) (Or.inl ⟨by rfl, ?_⟩) (by assumption) ?_
            rotate_left
            · intro w hSw
              try dsimp only at hSw
              go_simp
              try with_reducible rfl
            try simp only [Act.put, List.setIfInBounds_toArray, List.set_cons_zero, List.set_cons_succ]
            refine wpAnyH_take (i := 10) (oi := { dst := some 48, op := Op.fieldAddr 108 (Operand.tmp 47) 1, type := 0, pos := "disk.go:50", after := #[{ on := 9, ground := Ground.data }, { on := 0, ground := Ground.phase }, { on := 1, ground := Ground.phase }, { on := 2, ground := Ground.phase }, { on := 3, ground := Ground.phase }, { on := 4, ground := Ground.phase }, { on := 5, ground := Ground.phase }, { on := 6, ground := Ground.phase }, { on := 7, ground := Ground.phase }, { on := 8, ground := Ground.phase }], guard := none }) (v := ?_) rfl (by kernel_rfl) (by kernel_rfl) (by kernel_rfl) (fun _ _ _ h => by cases h.1) (Or.inl ⟨by rfl, ?_⟩) (by assumption) ?_
            rotate_left
            · intro w hSw
              try dsimp only at hSw
              go_simp
              try with_reducible rfl
            try simp only [Act.put, List.setIfInBounds_toArray, List.set_cons_zero, List.set_cons_succ]
            refine wpAnyH_ready (rs := [11]) (by kernel_rfl) (by simp) ?_
            refine AllReadyH.cons (o := { dst := none, op := Op.store 52 (Operand.tmp 48) (Operand.tmp 46), type := 0, pos := "disk.go:50", after := #[{ on := 10, ground := Ground.data }, { on := 8, ground := Ground.data }, { on := 8, ground := Ground.chain }, { on := 0, ground := Ground.phase }, { on := 1, ground := Ground.phase }, { on := 2, ground := Ground.phase }, { on := 3, ground := Ground.phase }, { on := 4, ground := Ground.phase }, { on := 5, ground := Ground.phase }, { on := 6, ground := Ground.phase }, { on := 7, ground := Ground.phase }, { on := 8, ground := Ground.phase }], guard := none }) rfl (fun K hK => ?_) ?_
            · go_simp
              refine hK.out _ _ ?_ (fun hH5 => ?_)
              · exact (World.cell?_setCell_far w5 ⟨d, 1, none⟩ ⟨px, 0, none⟩ _ (fun (e : d = px) => by have := HQ.out; omega)).trans c65
              clear hK K hH4
              try simp only [Act.put, List.setIfInBounds_toArray, List.set_cons_zero, List.set_cons_succ]
              refine wpAnyH_done (by kernel_rfl) ?_ _
              refine ⟨rfl, ?_⟩
              exact ⟨HST.out.1, HST.out.2.1, _, _, HST.out.2.2⟩
            exact AllReadyH.nil
          exact AllReadyH.nil
        exact AllReadyH.nil
      exact AllReadyH.nil
    exact AllReadyH.nil
  case done =>
    rintro D ys W hD rfl ⟨kv, kvs, hI⟩ hK
    have c6 : W.cell? ⟨px, 0, none⟩ = some (.pointer (some ⟨d, 0, none⟩)) := by unfold World.cell?; simp only [hI.box]; rfl
    obtain ⟨kv2, kvs2, h2⟩ := InvOf.from _ W _ (some D) ⟨kv, kvs, hI⟩ (grownBy_putObj' W D (.deferred none)) (fun r e => by cases e; exact ⟨hD, _, hK, rfl⟩)
    have H2 := Lib.hid h2
    clear h2 hI
    gi_wp2
    refine ⟨by simp, .inl ⟨_, _, rfl, run_takeDeferred hK, ?_⟩⟩
    exact ⟨_, results_tmp2 rfl _ _ _, d, rfl, ⟨_, _, _, _, _, _, H2.out.at_⟩, H2.out.mov⟩
  case stop =>
    rintro D c pre W _ _ h _
    exact h.elim
end Go.Proofs.Ytbfnmgjpkieaoaa.Pl
