/-
  What the statements over the cache hold first: one frame, two pages.
-/
import Derived.Test.YtbfnmgjpkieaoaaCKeys
import Derived.Test.YtbfnmgjpkieaoaaCNew
import Derived.Lib.SlBytesConst
import Derived.Lib.BufferRead
import Derived.Laws.BytesArg
namespace Go.Proofs.Ytbfnmgjpkieaoaa
open Go Go.RowKit Go.Maps Go.Sort Go.Proofs

theorem conv_row {w : World} {L : Nat → Prop} {v : Value} {bs : List Int} (h : Row w L v (bs.map encB8)) : (convert 29 9 v).run Try.prog w = .ok (.string (strOfNums bs)) w := by
  obtain ⟨A, c, rfl, hc, hx⟩ := h
  rw [List.length_map] at hx hc ⊢
  cases A with
  | none =>
    have hb : bs = [] := by
      cases bs with
      | nil => rfl
      | cons a r => obtain ⟨g, o, e, -⟩ := hx (by simp); cases e
    subst hb
    exact Lib.run_convert_nil_bytes w _ _ 5 c Try.underlying29 Try.underlying5 Try.underlying9
  | some a =>
    by_cases h0 : 0 < bs.length
    · obtain ⟨g, o, e, -, -, hcell⟩ := hx h0
      cases e
      exact run_convert_bytes_arg w _ 5 Try.underlying29 Try.underlying5 g o bs.length c bs rfl (fun i hi => hcell i _ (by
        rw [List.getElem?_map, List.getElem?_eq_getElem hi, List.getD_eq_getElem?_getD, List.getElem?_eq_getElem hi]; rfl)) _ Try.underlying9
    · have hb : bs = [] := List.eq_nil_of_length_eq_zero (by omega)
      subst hb
      obtain ⟨g, o, s⟩ := a
      show (convert 29 9 (.slice (some ⟨g, o, s⟩) 0 c)).run Try.prog w = _
      rw [run_convert_bytes_string w _ _ 5 _ 0 c Try.underlying29 Try.underlying5 Try.underlying9]
      have hl : (loadCells ⟨g, o, s⟩ 0).run Try.prog w = .ok ([].map encB8).toArray w := run_loadCells_list (P := Try.prog) w ⟨g, o, s⟩ [] (fun j v hj => by simp at hj)
      rw [run_bytesToString w _ 0 c [] hl, foldl_push_bytes]
      rfl

theorem IsCache.after {w w' : World} {base p lb m : Nat} {fs : List FrS} {hand : Nat} (h : IsCache w base p lb m fs hand) (hm : Moves (COwn p lb m) w w') {g : Nat} {cs : Array Value} {t : TypeId} {fr : Nat × Nat} (hg : w.heap[g]? = some (.cells cs t fr)) (t1 : t ≠ 120) (t2 : t ≠ 124) : w'.heap[g]? = some (.cells cs t fr) := by
  obtain ⟨D, dvs, h⟩ := h
  refine (hm.block g (Array.getElem?_eq_some_iff.1 hg).1 (fun e => ?_)).trans hg
  rcases e with rfl | rfl | rfl
  · rw [h.blk] at hg
    injection hg with hg
    injection hg with _ h2
    exact t1 h2.symm
  · obtain ⟨cf, hf, -⟩ := h.fr
    rw [hf] at hg
    injection hg with hg
    injection hg with _ h2
    exact t2 h2.symm
  · obtain ⟨es, ck, hb', _⟩ := h.map
    rw [hb'] at hg
    cases hg
theorem sweep_one' {fs : List FrS} {h i : Nat} {fs' : List FrS} {h' : Nat} (s : Sweep fs h i fs' h') : fs.length = 1 → h = 0 → (∀ f, fs[0]? = some f → f.pins ≤ 0) → i = 0 ∧ h' = 0 ∧ ∃ f, fs[0]? = some f ∧ fs' = [unmark f] := by
  induction s with
  | stop fs h f hf hp hm =>
    intro h1 h0 _
    subst h0
    refine ⟨rfl, by rw [h1], f, hf, ?_⟩
    obtain ⟨x, rfl⟩ := List.length_eq_one_iff.1 h1
    cases hf
    obtain ⟨k, d, h, di, mk, pi⟩ := f
    cases hm
    rfl
  | pass fs h f i fs' h' hf hp s ih => intro h1 h0 hh; subst h0; have := hh f hf; omega
  | turn fs h f i fs' h' hf hp hm s ih =>
    intro h1 h0 hh
    subst h0
    obtain ⟨x, rfl⟩ := List.length_eq_one_iff.1 h1
    cases hf
    obtain ⟨e1, e2, g, hg, e3⟩ := ih rfl (by simp) (fun g hg => by cases hg; exact hp)
    cases hg
    exact ⟨e1, e2, f, rfl, e3⟩
theorem sweep_one {f : FrS} (hp : f.pins ≤ 0) {i : Nat} {fs' : List FrS} {h' : Nat} (s : Sweep [f] 0 i fs' h') : i = 0 ∧ fs' = [unmark f] ∧ h' = 0 := by
  obtain ⟨h1, h2, g, hg, h3⟩ := sweep_one' s rfl rfl (fun g hg => by cases hg; exact hp)
  cases hg
  exact ⟨h1, h3, h2⟩
abbrev kF0 : FrS := { key := (0, 1), data := [120], here := true, dirty := true, mark := true, pins := 0 }
abbrev kF1 : FrS := { key := (0, 2), data := [121], here := true, dirty := false, mark := true, pins := 0 }
theorem byte_row {W : World} {g : Nat} {b : Int} {t : TypeId} {fr : Nat × Nat} (h : W.heap[g]? = some (.cells #[.int .u8 b] t fr)) : Row W (fun k => k = g) (.slice (some ⟨g, 0, none⟩) 1 1) ([b].map encB8) :=
  ⟨_, 1, rfl, Nat.le_refl _, fun _ => ⟨g, 0, rfl, rfl, (Array.getElem?_eq_some_iff.1 h).1, fun j u hu => by
    simp only [World.cell?, h, Nat.zero_add, Option.isSome_none, Bool.false_eq_true, if_false]
    rw [← Array.getElem?_toList]
    exact hu⟩⟩
theorem IsCache.far {w : World} {base p lb m : Nat} {fs : List FrS} {hand : Nat} (h : IsCache w base p lb m fs hand) {g : Nat} {cs : Array Value} {t : TypeId} {fr : Nat × Nat} (hg : w.heap[g]? = some (.cells cs t fr)) (t1 : t ≠ 120) (t2 : t ≠ 124) : ¬ COwn p lb m g := by
  obtain ⟨D, dvs, h⟩ := h
  rintro (rfl | rfl | rfl)
  · rw [h.blk] at hg
    injection hg with hg
    injection hg with _ h2
    exact t1 h2.symm
  · obtain ⟨cf, hf, -⟩ := h.fr
    rw [hf] at hg
    injection hg with hg
    injection hg with _ h2
    exact t2 h2.symm
  · obtain ⟨es, ck, hb', _⟩ := h.map
    rw [hb'] at hg
    cases hg

set_option maxRecDepth 100000 in
set_option maxHeartbeats 4000000 in
theorem known_c (w : World) : Calls Try.prog 25 #[] w (CVal w (.bool true)) := by
  have HNEW := Lib.hid (new_c (n := 1) (by omega) w)
  have kc := fun (w : World) (C : Array Value) (n c : Nat) => Lib.run_convert_bytes_const (P := Try.prog) w 29 5 C n c Try.underlying29 Try.underlying5
  have HKC := Lib.hid kc
  clear kc
  go_enter Try.func25, Try.ntmps25
  go_wp2_with fail
  refine HNEW.out.mono ?_
  rintro e w1 ⟨p, lb, m, rfl, h1, hm1⟩
  have HA := Lib.hid (And.intro h1 hm1)
  have kx : (convert 29 29 (.slice (some ⟨w1.heap.size + 1 + 1, 0, none⟩) 1 1)).run Try.prog (((w1.alloc (.cells #[.int .i64 0, .int .i64 1] 43)).alloc (.cells #[.int .i64 0, .int .i64 2] 43)).alloc (.cells #[.int .u8 120] 5)) = .ok (.slice (some ⟨w1.heap.size + 1 + 1, 0, none⟩) 1 1) (((w1.alloc (.cells #[.int .i64 0, .int .i64 1] 43)).alloc (.cells #[.int .i64 0, .int .i64 2] 43)).alloc (.cells #[.int .u8 120] 5 (1, 2))) := by
    have h := HKC.out ((w1.alloc (.cells #[.int .i64 0, .int .i64 1] 43)).alloc (.cells #[.int .i64 0, .int .i64 2] 43)) #[.int .u8 120] 1 1
    simpa using h
  clear h1 hm1 HNEW
  go_wp2_with fail
  have hk1 := heap_alloc_new w1 (.cells #[.int .i64 0, .int .i64 1] 43)
  have hm2 := (((Moves.refl (fun _ => False) w1).alloc (.cells #[.int .i64 0, .int .i64 1] 43)).alloc (.cells #[.int .i64 0, .int .i64 2] 43)).alloc (.cells #[.int .u8 120] 5 (1, 2))
  have H2 : Hid (IsCache (((w1.alloc (.cells #[.int .i64 0, .int .i64 1] 43)).alloc (.cells #[.int .i64 0, .int .i64 2] 43)).alloc (.cells #[.int .u8 120] 5 (1, 2))) w.heap.size p lb m (List.replicate 1 zeroF) 0 ∧ Moves (fun _ => False) w (((w1.alloc (.cells #[.int .i64 0, .int .i64 1] 43)).alloc (.cells #[.int .i64 0, .int .i64 2] 43)).alloc (.cells #[.int .u8 120] 5 (1, 2))) ∧ (((w1.alloc (.cells #[.int .i64 0, .int .i64 1] 43)).alloc (.cells #[.int .i64 0, .int .i64 2] 43)).alloc (.cells #[.int .u8 120] 5 (1, 2))).heap[w1.heap.size]? = some (.cells #[.int .i64 0, .int .i64 1] 43 (0, 0)) ∧ (((w1.alloc (.cells #[.int .i64 0, .int .i64 1] 43)).alloc (.cells #[.int .i64 0, .int .i64 2] 43)).alloc (.cells #[.int .u8 120] 5 (1, 2))).heap[w1.heap.size + 1]? = some (.cells #[.int .i64 0, .int .i64 2] 43 (0, 0)) ∧ (((w1.alloc (.cells #[.int .i64 0, .int .i64 1] 43)).alloc (.cells #[.int .i64 0, .int .i64 2] 43)).alloc (.cells #[.int .u8 120] 5 (1, 2))).heap[w1.heap.size + 1 + 1]? = some (.cells #[.int .u8 120] 5 (1, 2))) := by
    refine Lib.hid ⟨HA.out.1.moves0 hm2, HA.out.2.trans hm2, ?_, ?_, ?_⟩
    · exact (Below.heap_alloc _ _ _ (by simp; omega)).trans ((Below.heap_alloc _ _ _ (by simp)).trans hk1)
    · exact (Below.heap_alloc _ _ _ (by simp)).trans (heap_alloc2_new w1 _ _)
    · simpa using heap_alloc_new ((w1.alloc (.cells #[.int .i64 0, .int .i64 1] 43)).alloc (.cells #[.int .i64 0, .int .i64 2] 43)) (.cells #[.int .u8 120] 5 (1, 2))
  have hlt : Hid (w1.heap.size < w1.heap.size + 1) := Lib.hid (by omega)
  clear hk1 hm2 kx HA
  generalize ((w1.alloc (.cells #[.int .i64 0, .int .i64 1] 43)).alloc (.cells #[.int .i64 0, .int .i64 2] 43)).alloc (.cells #[.int .u8 120] 5 (1, 2)) = w2 at H2 ⊢
  generalize w1.heap.size + 1 + 1 = xb at H2 ⊢
  generalize w1.heap.size + 1 = bb at H2 hlt ⊢
  generalize w1.heap.size = ab at H2 hlt ⊢
  have HP1 := Lib.hid (put_c_new (k := (0, 1)) (i := 0) (bs := [120]) (dirty := true) H2.out.1 (by decide) (fun i f hf hh => by
    have := List.eq_of_mem_replicate (List.mem_of_getElem? hf)
    subst this
    cases hh) (by rfl) (byte_row H2.out.2.2.2.2) (by simp) (fun k hk _ => by subst hk; exact H2.out.1.far H2.out.2.2.2.2 (by decide) (by decide)))
  refine HP1.out.mono ?_
  rintro e w3 ⟨rfl, h3, hm3⟩
  have h3' : IsCache w3 w.heap.size p lb m [kF0] 0 := h3
  have hmo := (Moves.refl (fun _ => False) w3).alloc (.cells #[.int .i64 0, .int .i64 0, .slice none 0 0, .bool false, .bool false] 45)
  have hmb := hmo.alloc (.cells #[.int .u8 121] 5 (1, 2))
  have H3 : Hid (IsCache ((w3.alloc (.cells #[.int .i64 0, .int .i64 0, .slice none 0 0, .bool false, .bool false] 45)).alloc (.cells #[.int .u8 121] 5 (1, 2))) w.heap.size p lb m [kF0] 0 ∧ Moves (fun _ => False) w ((w3.alloc (.cells #[.int .i64 0, .int .i64 0, .slice none 0 0, .bool false, .bool false] 45)).alloc (.cells #[.int .u8 121] 5 (1, 2))) ∧ ((w3.alloc (.cells #[.int .i64 0, .int .i64 0, .slice none 0 0, .bool false, .bool false] 45)).alloc (.cells #[.int .u8 121] 5 (1, 2))).heap[ab]? = some (.cells #[.int .i64 0, .int .i64 1] 43 (0, 0)) ∧ ((w3.alloc (.cells #[.int .i64 0, .int .i64 0, .slice none 0 0, .bool false, .bool false] 45)).alloc (.cells #[.int .u8 121] 5 (1, 2))).heap[bb]? = some (.cells #[.int .i64 0, .int .i64 2] 43 (0, 0)) ∧ ((w3.alloc (.cells #[.int .i64 0, .int .i64 0, .slice none 0 0, .bool false, .bool false] 45)).alloc (.cells #[.int .u8 121] 5 (1, 2))).heap[w3.heap.size + 1]? = some (.cells #[.int .u8 121] 5 (1, 2))) := by
    have ka := H2.out.1.after hm3 H2.out.2.2.1 (by decide) (by decide)
    have kb := H2.out.1.after hm3 H2.out.2.2.2.1 (by decide) (by decide)
    refine Lib.hid ⟨h3'.moves0 hmb, (H2.out.1.under H2.out.2.1 hm3).trans hmb, (hmb.block ab (Array.getElem?_eq_some_iff.1 ka).1 (fun h => h)).trans ka, (hmb.block bb (Array.getElem?_eq_some_iff.1 kb).1 (fun h => h)).trans kb, ?_⟩
    simpa using heap_alloc_new (w3.alloc (.cells #[.int .i64 0, .int .i64 0, .slice none 0 0, .bool false, .bool false] 45)) (.cells #[.int .u8 121] 5 (1, 2))
  obtain ⟨c0, c1⟩ : (w3.alloc (.cells #[.int .i64 0, .int .i64 0, .slice none 0 0, .bool false, .bool false] 45)).cell? ⟨bb, 0, none⟩ = some (.int .i64 0) ∧ (w3.alloc (.cells #[.int .i64 0, .int .i64 0, .slice none 0 0, .bool false, .bool false] 45)).cell? ⟨bb, 1, none⟩ = some (.int .i64 2) := by
    have kb0 := H2.out.1.after hm3 H2.out.2.2.2.1 (by decide) (by decide)
    have kb := (hmo.block bb (Array.getElem?_eq_some_iff.1 kb0).1 (fun h => h)).trans kb0
    constructor <;> simp [World.cell?, kb]
  have ky : (convert 29 29 (.slice (some ⟨w3.heap.size + 1, 0, none⟩) 1 1)).run Try.prog ((w3.alloc (.cells #[.int .i64 0, .int .i64 0, .slice none 0 0, .bool false, .bool false] 45)).alloc (.cells #[.int .u8 121] 5)) = .ok (.slice (some ⟨w3.heap.size + 1, 0, none⟩) 1 1) ((w3.alloc (.cells #[.int .i64 0, .int .i64 0, .slice none 0 0, .bool false, .bool false] 45)).alloc (.cells #[.int .u8 121] 5 (1, 2))) := by
    have h := HKC.out (w3.alloc (.cells #[.int .i64 0, .int .i64 0, .slice none 0 0, .bool false, .bool false] 45)) #[.int .u8 121] 1 1
    simpa using h
  clear h3 h3' hm3 hmo hmb HP1 H2
  go_wp2_with fail
  clear c0 c1 ky
  generalize (w3.alloc (.cells #[.int .i64 0, .int .i64 0, .slice none 0 0, .bool false, .bool false] 45)).alloc (.cells #[.int .u8 121] 5 (1, 2)) = w4 at H3 ⊢
  generalize w3.heap.size + 1 = yb at H3 ⊢
  generalize w3.heap.size = ob1
  have HP2 := Lib.hid (put_c_evict (k := (0, 2)) (bs := [121]) (dirty := false) H3.out.1 (by decide) (fun i f hf hh => by
    cases i with
    | zero => cases hf; decide
    | succ i => simp at hf) (by rfl) (u := 0) (by simp) (by rfl) (by simp) (byte_row H3.out.2.2.2.2) (by simp) (fun k hk _ => by subst hk; exact H3.out.1.far H3.out.2.2.2.2 (by decide) (by decide)))
  refine HP2.out.mono ?_
  rintro e w5 ⟨i, fs', h', f, v, hsw, hf, he, hrv, h5, hm5⟩
  obtain ⟨rfl, rfl, rfl⟩ := sweep_one (by decide) hsw
  have hfe : f = unmark kF0 := by cases hf; rfl
  subst hfe
  obtain ⟨Av, cv, hv, -, -⟩ := id hrv
  have hv : v = .slice Av 1 cv := hv
  subst hv
  have he' : e = .returned (.tuple #[.agg #[.int .i64 0, .int .i64 1, .slice Av 1 cv, .bool true, .bool true], .int .i64 0]) := he
  subst he'
  have h5' : IsCache w5 w.heap.size p lb m [kF1] 0 := h5
  have hmo := (Moves.refl (fun _ => False) w5).alloc (.cells #[.int .i64 0, .int .i64 1, .slice Av 1 cv, .bool true, .bool true] 45)
  have H5 : Hid (IsCache (w5.alloc (.cells #[.int .i64 0, .int .i64 1, .slice Av 1 cv, .bool true, .bool true] 45)) w.heap.size p lb m [kF1] 0 ∧ Moves (fun _ => False) w (w5.alloc (.cells #[.int .i64 0, .int .i64 1, .slice Av 1 cv, .bool true, .bool true] 45)) ∧ (w5.alloc (.cells #[.int .i64 0, .int .i64 1, .slice Av 1 cv, .bool true, .bool true] 45)).heap[ab]? = some (.cells #[.int .i64 0, .int .i64 1] 43 (0, 0)) ∧ (w5.alloc (.cells #[.int .i64 0, .int .i64 1, .slice Av 1 cv, .bool true, .bool true] 45)).heap[bb]? = some (.cells #[.int .i64 0, .int .i64 2] 43 (0, 0)) ∧ (w5.alloc (.cells #[.int .i64 0, .int .i64 1, .slice Av 1 cv, .bool true, .bool true] 45)).heap[w5.heap.size]? = some (.cells #[.int .i64 0, .int .i64 1, .slice Av 1 cv, .bool true, .bool true] 45 (0, 0)) ∧ Row (w5.alloc (.cells #[.int .i64 0, .int .i64 1, .slice Av 1 cv, .bool true, .bool true] 45)) (fun k => ¬ COwn p lb m k) (.slice Av 1 cv) ([120].map encB8)) := by
    have ka := H3.out.1.after hm5 H3.out.2.2.1 (by decide) (by decide)
    have kb := H3.out.1.after hm5 H3.out.2.2.2.1 (by decide) (by decide)
    exact Lib.hid ⟨h5'.moves0 hmo, (H3.out.1.under H3.out.2.1 hm5).trans hmo, (hmo.block ab (Array.getElem?_eq_some_iff.1 ka).1 (fun h => h)).trans ka, (hmo.block bb (Array.getElem?_eq_some_iff.1 kb).1 (fun h => h)).trans kb, heap_alloc_new _ _, Row.moves hrv hmo (fun _ _ _ h => h)⟩
  obtain ⟨c0, c1⟩ : (w5.alloc (.cells #[.int .i64 0, .int .i64 1, .slice Av 1 cv, .bool true, .bool true] 45)).cell? ⟨bb, 0, none⟩ = some (.int .i64 0) ∧ (w5.alloc (.cells #[.int .i64 0, .int .i64 1, .slice Av 1 cv, .bool true, .bool true] 45)).cell? ⟨bb, 1, none⟩ = some (.int .i64 2) := by
    constructor <;> simp [World.cell?, H5.out.2.2.2.1]
  clear he hrv h5 h5' hm5 hmo hsw hf HP2 H3
  go_wp2_with fail
  clear c0 c1
  generalize w5.alloc (.cells #[.int .i64 0, .int .i64 1, .slice Av 1 cv, .bool true, .bool true] 45) = w6 at H5 ⊢
  generalize w5.heap.size = o2 at H5 ⊢
  have HG := Lib.hid (get_hit (i := 0) (f := kF1) (k := (0, 2)) H5.out.1 rfl rfl rfl)
  refine HG.out.mono ?_
  rintro e w7 ⟨v7, rfl, hr7, h7, hm7⟩
  have h7' : IsCache w7 w.heap.size p lb m [kF1] 0 := h7
  obtain ⟨A7, c7, hv7, -, -⟩ := id hr7
  have hv7 : v7 = .slice A7 1 c7 := hv7
  subst hv7
  have hr7' : Row w7 (fun k => ¬ COwn p lb m k) (.slice A7 1 c7) ([121].map encB8) := Row.mono hr7 (fun k hk _ e => by
    obtain ⟨D, dvs, h⟩ := H5.out.1
    obtain ⟨cf, hf, -⟩ := h.fr
    obtain ⟨es, ck, hb', _⟩ := h.map
    have := (Array.getElem?_eq_some_iff.1 h.blk).1
    have := (Array.getElem?_eq_some_iff.1 hf).1
    have := (Array.getElem?_eq_some_iff.1 hb').1
    rcases e with e | e | e <;> omega)
  have H7 : Hid ((IsCache w7 w.heap.size p lb m [kF1] 0 ∧ Moves (fun _ => False) w w7 ∧ w7.heap[ab]? = some (.cells #[.int .i64 0, .int .i64 1] 43 (0, 0)) ∧ w7.heap[bb]? = some (.cells #[.int .i64 0, .int .i64 2] 43 (0, 0)) ∧ w7.heap[o2]? = some (.cells #[.int .i64 0, .int .i64 1, .slice Av 1 cv, .bool true, .bool true] 45 (0, 0)) ∧ Row w7 (fun k => ¬ COwn p lb m k) (.slice Av 1 cv) ([120].map encB8)) ∧ Row w7 (fun k => ¬ COwn p lb m k) (.slice A7 1 c7) ([121].map encB8)) := by
    exact Lib.hid ⟨⟨h7', H5.out.1.under H5.out.2.1 hm7, H5.out.1.after hm7 H5.out.2.2.1 (by decide) (by decide), H5.out.1.after hm7 H5.out.2.2.2.1 (by decide) (by decide), H5.out.1.after hm7 H5.out.2.2.2.2.1 (by decide) (by decide), H5.out.2.2.2.2.2.moves hm7 (fun k hk _ e => hk e)⟩, hr7'⟩
  obtain ⟨c0, c1⟩ : w7.cell? ⟨bb, 0, none⟩ = some (.int .i64 0) ∧ w7.cell? ⟨bb, 1, none⟩ = some (.int .i64 2) := by
    constructor <;> simp [World.cell?, H7.out.1.2.2.2.1]
  clear hr7 hr7' h7 h7' hm7 HG H5
  go_wp2_with fail
  clear c0 c1
  have HG := Lib.hid (pin_hit (i := 0) (f := kF1) (k := (0, 2)) H7.out.1.1 rfl rfl rfl (by decide))
  refine HG.out.mono ?_
  rintro e w8 ⟨rfl, h8, hm8⟩
  have h8' : IsCache w8 w.heap.size p lb m [{ kF1 with pins := 1 }] 0 := h8
  have H8 : Hid ((IsCache w8 w.heap.size p lb m [{ kF1 with pins := 1 }] 0 ∧ Moves (fun _ => False) w w8 ∧ w8.heap[ab]? = some (.cells #[.int .i64 0, .int .i64 1] 43 (0, 0)) ∧ w8.heap[bb]? = some (.cells #[.int .i64 0, .int .i64 2] 43 (0, 0)) ∧ w8.heap[o2]? = some (.cells #[.int .i64 0, .int .i64 1, .slice Av 1 cv, .bool true, .bool true] 45 (0, 0)) ∧ Row w8 (fun k => ¬ COwn p lb m k) (.slice Av 1 cv) ([120].map encB8)) ∧ Row w8 (fun k => ¬ COwn p lb m k) (.slice A7 1 c7) ([121].map encB8)) := by
    have H := H7.out.1
    exact Lib.hid ⟨⟨h8', H.1.under H.2.1 hm8, H.1.after hm8 H.2.2.1 (by decide) (by decide), H.1.after hm8 H.2.2.2.1 (by decide) (by decide), H.1.after hm8 H.2.2.2.2.1 (by decide) (by decide), H.2.2.2.2.2.moves hm8 (fun k hk _ e => hk e)⟩, H7.out.2.moves hm8 (fun k hk _ e => hk e)⟩
  obtain ⟨c0, c1⟩ : w8.cell? ⟨ab, 0, none⟩ = some (.int .i64 0) ∧ w8.cell? ⟨ab, 1, none⟩ = some (.int .i64 1) := by
    constructor <;> simp [World.cell?, H8.out.1.2.2.1]
  clear h8 h8' hm8 HG H7
  go_wp2_with fail
  clear c0 c1
  have HG := Lib.hid (put_c_full (k := (0, 1)) (A := none) (n := 0) (c := 0) (dirty := false) H8.out.1.1 (by decide) (fun i f hf hh => by
    cases i with
    | zero => cases hf; decide
    | succ i => simp at hf) (by rfl) (by rfl))
  refine HG.out.mono ?_
  rintro e w9 ⟨rfl, hm9⟩
  have hmo := hm9.alloc (.cells #[.int .i64 0, .int .i64 0, .slice none 0 0, .bool false, .bool false] 45)
  have H9 : Hid ((IsCache (w9.alloc (.cells #[.int .i64 0, .int .i64 0, .slice none 0 0, .bool false, .bool false] 45)) w.heap.size p lb m [{ kF1 with pins := 1 }] 0 ∧ Moves (fun _ => False) w (w9.alloc (.cells #[.int .i64 0, .int .i64 0, .slice none 0 0, .bool false, .bool false] 45)) ∧ (w9.alloc (.cells #[.int .i64 0, .int .i64 0, .slice none 0 0, .bool false, .bool false] 45)).heap[ab]? = some (.cells #[.int .i64 0, .int .i64 1] 43 (0, 0)) ∧ (w9.alloc (.cells #[.int .i64 0, .int .i64 0, .slice none 0 0, .bool false, .bool false] 45)).heap[bb]? = some (.cells #[.int .i64 0, .int .i64 2] 43 (0, 0)) ∧ (w9.alloc (.cells #[.int .i64 0, .int .i64 0, .slice none 0 0, .bool false, .bool false] 45)).heap[o2]? = some (.cells #[.int .i64 0, .int .i64 1, .slice Av 1 cv, .bool true, .bool true] 45 (0, 0)) ∧ Row (w9.alloc (.cells #[.int .i64 0, .int .i64 0, .slice none 0 0, .bool false, .bool false] 45)) (fun k => ¬ COwn p lb m k) (.slice Av 1 cv) ([120].map encB8)) ∧ Row (w9.alloc (.cells #[.int .i64 0, .int .i64 0, .slice none 0 0, .bool false, .bool false] 45)) (fun k => ¬ COwn p lb m k) (.slice A7 1 c7) ([121].map encB8)) := by
    have H := H8.out.1
    have keep : ∀ (g : Nat) (cs : Array Value) (t : TypeId), w8.heap[g]? = some (.cells cs t (0, 0)) → (w9.alloc (.cells #[.int .i64 0, .int .i64 0, .slice none 0 0, .bool false, .bool false] 45)).heap[g]? = some (.cells cs t (0, 0)) := fun g cs t hg => (hmo.block g (Array.getElem?_eq_some_iff.1 hg).1 (fun h => h)).trans hg
    exact Lib.hid ⟨⟨H.1.moves0 hmo, H.2.1.trans hmo, keep _ _ _ H.2.2.1, keep _ _ _ H.2.2.2.1, keep _ _ _ H.2.2.2.2.1, H.2.2.2.2.2.moves hmo (fun _ _ _ h => h)⟩, H8.out.2.moves hmo (fun _ _ _ h => h)⟩
  go_upto_region 11 with fail
  generalize w9.alloc (.cells #[.int .i64 0, .int .i64 0, .slice none 0 0, .bool false, .bool false] 45) = w10 at H9 ⊢
  clear hm9 hmo HG H8
  obtain ⟨c0, c1⟩ : w10.cell? ⟨ab, 0, none⟩ = some (.int .i64 0) ∧ w10.cell? ⟨ab, 1, none⟩ = some (.int .i64 1) := by
    constructor <;> simp [World.cell?, H9.out.1.2.2.1]
  obtain ⟨o0, o1, o2', o3, o4, -⟩ := out_cells H9.out.1.2.2.2.2.1
  have s1 : (convert 29 9 (.slice Av 1 cv)).run Try.prog w10 = .ok (.string ⟨#[120]⟩) w10 := conv_row (bs := [120]) H9.out.1.2.2.2.2.2
  have s2 : (convert 29 9 (.slice A7 1 c7)).run Try.prog w10 = .ok (.string ⟨#[121]⟩) w10 := conv_row (bs := [121]) H9.out.2
  have HL := Lib.hid (len_c H9.out.1.1)
  have HD := Lib.hid (dirty_c H9.out.1.1)
  go_wp2_with fail
  refine HL.out.mono ?_
  rintro e w11 ⟨rfl, rfl⟩
  go_wp2_with fail
  refine HD.out.mono ?_
  rintro e w12 ⟨v12, rfl, ⟨A12, c12, hv12, -, -⟩, hm12⟩
  have hl0 : (sortK (keysOf FrS.dirty [{ kF1 with pins := 1 }])).length = 0 := by rw [sortK_len]; rfl
  rw [hl0] at hv12
  clear hl0
  subst hv12
  have HM := Lib.hid (H9.out.1.2.1.trans hm12)
  clear hm12 HD HL s1 s2
  go_wp2
  go_ret
  exact ⟨rfl, HM.out⟩
end Go.Proofs.Ytbfnmgjpkieaoaa
