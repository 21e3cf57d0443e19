/-
  A page put in where another one has to go.
-/
import Derived.Test.YtbfnmgjpkieaoaaCPutN
namespace Go.Proofs.Ytbfnmgjpkieaoaa
open Go Go.RowKit Go.Maps Go.Sort Go.Proofs

/-- The hand turns marks alone. -/
theorem Sweep.keeps {fs : List FrS} {h i : Nat} {fs' : List FrS} {h' : Nat} (s : Sweep fs h i fs' h') : fs'.length = fs.length ∧ ∀ (j : Nat) (g : FrS), fs'[j]? = some g → ∃ f, fs[j]? = some f ∧ g.key = f.key ∧ g.here = f.here ∧ g.pins = f.pins ∧ g.data = f.data ∧ g.dirty = f.dirty := by
  induction s with
  | stop fs h f hf hp hm => exact ⟨rfl, fun j g hg => ⟨g, hg, rfl, rfl, rfl, rfl, rfl⟩⟩
  | pass fs h f i fs' h' hf hp s ih => exact ih
  | turn fs h f i fs' h' hf hp hm s ih =>
    refine ⟨by rw [ih.1, List.length_set], fun j g hg => ?_⟩
    obtain ⟨x, hx, r⟩ := ih.2 j g hg
    by_cases e : h = j
    · subst e
      rw [List.getElem?_set_self (List.getElem?_eq_some_iff.1 hf).1] at hx
      cases hx
      exact ⟨f, hf, r⟩
    · rw [List.getElem?_set_ne e] at hx
      exact ⟨x, hx, r⟩
theorem Sweep.at_ {fs : List FrS} {h i : Nat} {fs' : List FrS} {h' : Nat} (s : Sweep fs h i fs' h') : ∃ f, fs'[i]? = some f ∧ f.pins ≤ 0 ∧ f.mark = false := by
  induction s with
  | stop fs h f hf hp hm => exact ⟨f, hf, hp, hm⟩
  | pass fs h f i fs' h' hf hp s ih => exact ih
  | turn fs h f i fs' h' hf hp hm s ih => exact ih
theorem idxZ_none {q : FrS → Bool} {fs : List FrS} (h : idxZ (fun f => !q f) fs = -1) : ∀ (j : Nat) (f : FrS), fs[j]? = some f → q f = true := by
  unfold idxZ at h
  split at h
  · rename_i j hj
    omega
  · rename_i hn
    rw [List.findIdx?_eq_none_iff] at hn
    intro j f hf
    simpa using hn f (List.mem_of_getElem? hf)

/-- What a page tells that had to go, and what is there behind. -/
def EvPost (w : World) (base p lb m : Nat) (fs : List FrS) (hand : Nat) (k : Pr) (bs : List Int) (dirty : Bool) (e : Ending) (w' : World) : Prop :=
  ∃ (i : Nat) (fs' : List FrS) (h' : Nat) (f : FrS) (v : Value), Sweep fs hand i fs' h' ∧ fs'[i]? = some f ∧ e = .returned (.tuple #[.agg #[.int .i64 f.key.1, .int .i64 f.key.2, v, .bool f.dirty, .bool true], .int .i64 0]) ∧ Row w' (fun k => ¬ COwn p lb m k) v (f.data.map encB8) ∧ IsCache w' base p lb m (fs'.set i { key := k, data := bs, here := true, dirty := dirty, mark := true, pins := 0 }) h' ∧ Moves (COwn p lb m) w w'

set_option maxRecDepth 100000 in
set_option maxHeartbeats 1000000 in
/-- The hand finds a frame whose page goes. -/
theorem put_c_evict {w : World} {base p lb m : Nat} {fs : List FrS} {hand : Nat} (h : IsCache w base p lb m fs hand) {k : Pr} (hw : wf2 k) (hno : NoKey fs k) (hi : idxZ (fun f => !f.here) fs = -1) {u : Nat} (hu : u < fs.length) (hp : fs[u].pins = 0) (hpn : ∀ f ∈ fs, 0 ≤ f.pins) {v : Value} {bs : List Int} {L : Nat → Prop} (hr : Row w L v (bs.map encB8)) (hl : bs.length ≤ 1000000) (hap : ∀ k, L k → k < w.heap.size → ¬ COwn p lb m k) {dirty : Bool} :
    Calls Try.prog 27 #[.pointer (some ⟨p, 0, none⟩), encK k, v, .bool dirty] w (EvPost w base p lb m fs hand k bs dirty) := by
  obtain ⟨k1, k2⟩ := k
  have hm0 := ((Moves.refl (fun _ => False) w).alloc (.cells #[.int .i64 k1, .int .i64 k2] 43)).alloc (.cells #[.int .i64 0, .int .i64 0, .slice none 0 0, .bool false, .bool false] 45)
  have HF := Lib.hid (find_miss (h.moves0 hm0) hw hno)
  have hob := heap_alloc2_new w (.cells #[.int .i64 k1, .int .i64 k2] 43) (.cells #[.int .i64 0, .int .i64 0, .slice none 0 0, .bool false, .bool false] 45)
  have HA := Lib.hid (And.intro (h.moves0 hm0) (And.intro hm0 hob))
  have HR := Lib.hid hr
  have HI := Lib.hid hi
  have HAP := Lib.hid hap
  have HNO := Lib.hid hno
  obtain ⟨Av, cv, rfl, -, -⟩ := hr
  have HU := Lib.hid (And.intro hp hpn)
  clear h hm0 hob hi hap hno hp hpn
  go_enter Try.func27, Try.ntmps27
  go_wp2_with fail
  refine HF.out.mono ?_
  rintro e w1 ⟨rfl, hm1⟩
  have HV := Lib.hid (vic_sweep (HA.out.1.moves0 hm1) HI.out hu HU.out.1 HU.out.2)
  have HM1 := Lib.hid hm1
  clear hm1 HF
  go_wp2_with fail
  refine HV.out.mono ?_
  rintro e w2 ⟨i, fs', h', hsw, rfl, hc2, hm2⟩
  obtain ⟨f, hf, hfp, hfm⟩ := hsw.at_
  have HSW := Lib.hid (And.intro hsw (And.intro hf (And.intro hfp hfm)))
  have HC2 := Lib.hid hc2
  have HM02 := HA.out.2.1.trans HM1.out
  have HBL : Hid (∀ (g : Nat) (cs : Array Value) (t : TypeId), w1.heap[g]? = some (.cells cs t (0, 0)) → t ≠ 120 → t ≠ 124 → w2.heap[g]? = some (.cells cs t (0, 0))) := by
    obtain ⟨D, dvs, h⟩ := HA.out.1.moves0 HM1.out
    refine Lib.hid fun g cs t hg t1 t2 => (hm2.block g (Array.getElem?_eq_some_iff.1 hg).1 (fun e => ?_)).trans hg
    rcases e with rfl | rfl | rfl
    · rw [h.blk] at hg
      injection hg with hg
      injection hg with _ h2
      exact t1 h2.symm
    · obtain ⟨cf, hf, -⟩ := h.fr
      rw [hf] at hg
      injection hg with hg
      injection hg with _ h2
      exact t2 h2.symm
    · obtain ⟨es, ck, hb', _⟩ := h.map
      rw [hb'] at hg
      cases hg
  have hkb : w2.heap[w.heap.size]? = some (.cells #[.int .i64 k1, .int .i64 k2] 43 (0, 0)) := HBL.out _ _ _ ((HM1.out.block w.heap.size (by simp; omega) (fun h => h)).trans ((Below.heap_alloc _ _ _ (by simp)).trans (heap_alloc_new _ _))) (by decide) (by decide)
  have hobb : w2.heap[w.heap.size + 1]? = some (.cells #[.int .i64 0, .int .i64 0, .slice none 0 0, .bool false, .bool false] 45 (0, 0)) := HBL.out _ _ _ ((HM1.out.block (w.heap.size + 1) (by simp) (fun h => h)).trans HA.out.2.2) (by decide) (by decide)
  have HM2 := Lib.hid ((HM02.none _).trans hm2)
  have hsz2 : w.heap.size + 1 < w2.heap.size := (Array.getElem?_eq_some_iff.1 hobb).1
  have HKB := Lib.hid (And.intro hkb (And.intro hobb hsz2))
  clear hm2 hsw hf hfp hfm hc2 HM02 HBL hkb hobb hsz2 HM1 HV HA HU
  go_upto_region 9 with fail
  have hil : i < fs'.length := (List.getElem?_eq_some_iff.1 HSW.out.2.1).1
  have hfi : fs'[i] = f := (List.getElem?_eq_some_iff.1 HSW.out.2.1).2
  obtain ⟨D, dvs, h2⟩ := HC2.out
  have hm3 := (Moves.refl (fun _ => False) w2).alloc (.cells #[.int .i64 0, .int .i64 0, .slice none 0 0, .bool false, .bool false] 45)
  have htb := heap_alloc_new w2 (.cells #[.int .i64 0, .int .i64 0, .slice none 0 0, .bool false, .bool false] 45)
  have hsz : Hid (w.heap.size + 1 < w2.heap.size ∧ (w2.alloc (.cells #[.int .i64 0, .int .i64 0, .slice none 0 0, .bool false, .bool false] 45)).heap.size = w2.heap.size + 1) := Lib.hid ⟨HKB.out.2.2, by simp⟩
  have H3 : Hid (CacheAt (w2.alloc (.cells #[.int .i64 0, .int .i64 0, .slice none 0 0, .bool false, .bool false] 45)) base p lb m fs' h' D dvs ∧ Moves (COwn p lb m) w (w2.alloc (.cells #[.int .i64 0, .int .i64 0, .slice none 0 0, .bool false, .bool false] 45)) ∧ (w2.alloc (.cells #[.int .i64 0, .int .i64 0, .slice none 0 0, .bool false, .bool false] 45)).heap[w.heap.size]? = some (.cells #[.int .i64 k1, .int .i64 k2] 43 (0, 0)) ∧ (w2.alloc (.cells #[.int .i64 0, .int .i64 0, .slice none 0 0, .bool false, .bool false] 45)).heap[w.heap.size + 1]? = some (.cells #[.int .i64 0, .int .i64 0, .slice none 0 0, .bool false, .bool false] 45 (0, 0)) ∧ (w2.alloc (.cells #[.int .i64 0, .int .i64 0, .slice none 0 0, .bool false, .bool false] 45)).heap[w2.heap.size]? = some (.cells #[.int .i64 0, .int .i64 0, .slice none 0 0, .bool false, .bool false] 45 (0, 0))) := by
    have hs := hsz.out.1
    exact Lib.hid ⟨h2.moves0 hm3, HM2.out.trans (hm3.none _), (hm3.block _ (by omega) (fun h => h)).trans HKB.out.1, (hm3.block _ (by omega) (fun h => h)).trans HKB.out.2.1, htb⟩
  clear hm3 htb HM2 HC2 h2 HKB
  generalize w2.alloc (.cells #[.int .i64 0, .int .i64 0, .slice none 0 0, .bool false, .bool false] 45) = W3 at hsz H3 ⊢
  generalize w2.heap.size = tb at hsz H3 ⊢
  obtain ⟨c0, c1, c2⟩ := H3.out.1.cells
  obtain ⟨Ad, cd, r0, r1, r2, r3, r4, r5, r6, hdv⟩ : ∃ Ad cd, W3.cell? ⟨lb, i * 7, none⟩ = some (.int .i64 f.key.1) ∧ W3.cell? ⟨lb, i * 7 + 1, none⟩ = some (.int .i64 f.key.2) ∧ W3.cell? ⟨lb, i * 7 + 2, none⟩ = some (.slice Ad f.data.length cd) ∧ W3.cell? ⟨lb, i * 7 + 3, none⟩ = some (.bool f.here) ∧ W3.cell? ⟨lb, i * 7 + 4, none⟩ = some (.bool f.dirty) ∧ W3.cell? ⟨lb, i * 7 + 5, none⟩ = some (.bool f.mark) ∧ W3.cell? ⟨lb, i * 7 + 6, none⟩ = some (.int .i64 f.pins) ∧ W3.ownsRow base 5 1 (.slice Ad f.data.length cd) f.data.length (f.data.map encB8) := by
    obtain ⟨dv, r0, r1, r2, r3, r4, r5, r6, ho⟩ := row_cells H3.out.1 hil
    rw [hfi] at r0 r1 r3 r4 r5 r6 ho
    obtain ⟨Ad, cd, rfl, -⟩ := own_form ho
    exact ⟨Ad, cd, r0, r1, r2, r3, r4, r5, r6, ho⟩
  have HDV := Lib.hid hdv
  have hfh : f.here = true := by
    obtain ⟨f0, h1, -, h3, -⟩ := HSW.out.1.keeps.2 i f HSW.out.2.1
    rw [h3]
    exact idxZ_none HI.out i f0 h1
  rw [hfh] at r3
  have hlz : (i : Int) < (fs'.length : Int) := by omega
  have HHF := Lib.hid hfh
  clear hfh hdv
  go_upto_region 11 with fail
  have hm4 := (Moves.refl (fun _ => False) W3).alloc (.cells #[.int .i64 f.key.1, .int .i64 f.key.2, .slice Ad f.data.length cd, .bool true, .bool f.dirty, .bool f.mark, .int .i64 f.pins] 124)
  have hgb := heap_alloc_new W3 (.cells #[.int .i64 f.key.1, .int .i64 f.key.2, .slice Ad f.data.length cd, .bool true, .bool f.dirty, .bool f.mark, .int .i64 f.pins] 124)
  have H4 : Hid (CacheAt (W3.alloc (.cells #[.int .i64 f.key.1, .int .i64 f.key.2, .slice Ad f.data.length cd, .bool true, .bool f.dirty, .bool f.mark, .int .i64 f.pins] 124)) base p lb m fs' h' D dvs ∧ Moves (COwn p lb m) w (W3.alloc (.cells #[.int .i64 f.key.1, .int .i64 f.key.2, .slice Ad f.data.length cd, .bool true, .bool f.dirty, .bool f.mark, .int .i64 f.pins] 124)) ∧ (W3.alloc (.cells #[.int .i64 f.key.1, .int .i64 f.key.2, .slice Ad f.data.length cd, .bool true, .bool f.dirty, .bool f.mark, .int .i64 f.pins] 124)).heap[w.heap.size]? = some (.cells #[.int .i64 k1, .int .i64 k2] 43 (0, 0)) ∧ (W3.alloc (.cells #[.int .i64 f.key.1, .int .i64 f.key.2, .slice Ad f.data.length cd, .bool true, .bool f.dirty, .bool f.mark, .int .i64 f.pins] 124)).heap[w.heap.size + 1]? = some (.cells #[.int .i64 0, .int .i64 0, .slice none 0 0, .bool false, .bool false] 45 (0, 0)) ∧ (W3.alloc (.cells #[.int .i64 f.key.1, .int .i64 f.key.2, .slice Ad f.data.length cd, .bool true, .bool f.dirty, .bool f.mark, .int .i64 f.pins] 124)).heap[tb]? = some (.cells #[.int .i64 0, .int .i64 0, .slice none 0 0, .bool false, .bool false] 45 (0, 0)) ∧ (W3.alloc (.cells #[.int .i64 f.key.1, .int .i64 f.key.2, .slice Ad f.data.length cd, .bool true, .bool f.dirty, .bool f.mark, .int .i64 f.pins] 124)).ownsRow base 5 1 (.slice Ad f.data.length cd) f.data.length (f.data.map encB8)) := by
    have hs := hsz.out
    exact Lib.hid ⟨H3.out.1.moves0 hm4, H3.out.2.1.trans (hm4.none _), (hm4.block w.heap.size (by omega) (fun h => h)).trans H3.out.2.2.1, (hm4.block (w.heap.size + 1) (by omega) (fun h => h)).trans H3.out.2.2.2.1, (hm4.block tb (by omega) (fun h => h)).trans H3.out.2.2.2.2, own_moves HDV.out hm4 (fun g hg h => h)⟩
  have hsz4 : Hid (w.heap.size + 1 < tb ∧ tb < W3.heap.size) := Lib.hid (by have := hsz.out; omega)
  clear hm4 H3 hsz c0 c1 c2 r0 r1 r2 r3 r4 r5 r6 HDV
  generalize W3.alloc (.cells #[.int .i64 f.key.1, .int .i64 f.key.2, .slice Ad f.data.length cd, .bool true, .bool f.dirty, .bool f.mark, .int .i64 f.pins] 124) = W4 at H4 hgb ⊢
  generalize W3.heap.size = gb at hgb hsz4 ⊢
  obtain ⟨g0, g1, g2, g3, g4⟩ : W4.cell? ⟨gb, 0, none⟩ = some (.int .i64 f.key.1) ∧ W4.cell? ⟨gb, 1, none⟩ = some (.int .i64 f.key.2) ∧ W4.cell? ⟨gb, 2, none⟩ = some (.slice Ad f.data.length cd) ∧ W4.cell? ⟨gb, 3, none⟩ = some (.bool true) ∧ W4.cell? ⟨gb, 4, none⟩ = some (.bool f.dirty) := by
    unfold World.cell?
    simp only [hgb]
    exact ⟨rfl, rfl, rfl, rfl, rfl⟩
  obtain ⟨o0, o1, o2, o3, o4, z0, z1, z2, z3, z4⟩ := out_cells H4.out.2.2.2.2.1
  obtain ⟨Ad', cd', hAd, hcd, hcm, hA0, -⟩ := own_form H4.out.2.2.2.2.2
  injection hAd with e1 _ e2
  subst e1 e2
  have HCL := Lib.hid (fun W => Pl.clipB W Ad f.data.length cd hcd hcm hA0)
  have HG := Lib.hid hgb
  have hne : tb ≠ gb := by have := hsz4.out; omega
  clear hcd hcm hA0 hgb
  go_region_held3 (fun w' => w'.cell? ⟨gb, 0, none⟩ = some (.int .i64 f.key.1) ∧ w'.cell? ⟨gb, 1, none⟩ = some (.int .i64 f.key.2) ∧ w'.cell? ⟨gb, 2, none⟩ = some (.slice Ad f.data.length cd) ∧ w'.cell? ⟨gb, 4, none⟩ = some (.bool f.dirty))
    (first | (with_reducible exact ⟨g0, g1, g2, g4⟩) | go_keep)
    (first
      | (go_at_call 63
         go_must (refine (HCL.out _).mono ?_)
         rintro e w' ⟨rfl, rfl⟩)
      | fail)
  go_upto_region 12 with fail
  have hm5 : Moves (fun k => k = tb) W4 (((((W4.setCell ⟨tb, 0, none⟩ (.int .i64 f.key.1)).setCell ⟨tb, 1, none⟩ (.int .i64 f.key.2)).setCell ⟨tb, 2, none⟩ (.slice Ad f.data.length f.data.length)).setCell ⟨tb, 3, none⟩ (.bool f.dirty)).setCell ⟨tb, 4, none⟩ (.bool true)).drew :=
    (Moves.setCell (p := ⟨tb, 4, none⟩) (Moves.setCell (p := ⟨tb, 3, none⟩) (Moves.setCell (p := ⟨tb, 2, none⟩) (Moves.setCell (p := ⟨tb, 1, none⟩) (Moves.setCell (p := ⟨tb, 0, none⟩) (Moves.refl (fun k => k = tb) W4) (fun _ => rfl) _) (fun _ => rfl) _) (fun _ => rfl) _) (fun _ => rfl) _) (fun _ => rfl) _).drew
  have htb5 : (((((W4.setCell ⟨tb, 0, none⟩ (.int .i64 f.key.1)).setCell ⟨tb, 1, none⟩ (.int .i64 f.key.2)).setCell ⟨tb, 2, none⟩ (.slice Ad f.data.length f.data.length)).setCell ⟨tb, 3, none⟩ (.bool f.dirty)).setCell ⟨tb, 4, none⟩ (.bool true)).drew.heap[tb]? = some (.cells #[.int .i64 f.key.1, .int .i64 f.key.2, .slice Ad f.data.length f.data.length, .bool f.dirty, .bool true] 45 (0, 0)) := by
    simp [World.setCell, World.drew, Array.getElem?_modify, H4.out.2.2.2.2.1]
  have hsz := hsz4.out
  have hbare := H4.out.1.bare.poke H4.out.2.2.2.2.1 (by decide) (by decide) (by decide) hm5
  have hdrow : Row (((((W4.setCell ⟨tb, 0, none⟩ (.int .i64 f.key.1)).setCell ⟨tb, 1, none⟩ (.int .i64 f.key.2)).setCell ⟨tb, 2, none⟩ (.slice Ad f.data.length f.data.length)).setCell ⟨tb, 3, none⟩ (.bool f.dirty)).setCell ⟨tb, 4, none⟩ (.bool true)).drew (fun k => ¬ COwn p lb m k ∧ k ≠ w.heap.size + 1) (.slice Ad f.data.length f.data.length) (f.data.map encB8) := by
    have hrow := H4.out.2.2.2.2.2
    obtain ⟨cf, hf, -⟩ := H4.out.1.fr
    obtain ⟨es, ck, hmb, _⟩ := H4.out.1.map
    have hne : ∀ g, (Value.slice Ad f.data.length cd).ownBlock = some g → ¬ COwn p lb m g ∧ g ≠ w.heap.size + 1 ∧ g ≠ tb := fun g hg => by
      obtain ⟨cur, hc⟩ := own_block hrow hg
      refine ⟨fun e => ?_, fun e => ?_, fun e => ?_⟩
      · rcases e with rfl | rfl | rfl
        · rw [H4.out.1.blk] at hc
          injection hc with hc
          injection hc with _ h1
          exact absurd h1 (by decide)
        · rw [hf] at hc
          injection hc with hc
          injection hc with _ h1
          exact absurd h1 (by decide)
        · rw [hmb] at hc
          cases hc
      · rw [e, H4.out.2.2.2.1] at hc
        injection hc with hc
        injection hc with _ h1
        exact absurd h1 (by decide)
      · rw [e, H4.out.2.2.2.2.1] at hc
        injection hc with hc
        injection hc with _ h1
        exact absurd h1 (by decide)
    have h5 := own_moves hrow hm5 (fun g hg e => (hne g hg).2.2 e)
    obtain ⟨A', c', hA', hc1, hc2, hc3, hc4, hx⟩ := own_form h5
    injection hA' with e1 _ e2
    subst e1 e2
    refine ⟨Ad, f.data.length, by rw [List.length_map], by rw [List.length_map]; exact Nat.le_refl _, fun h0 => ?_⟩
    rw [List.length_map] at h0
    obtain ⟨g, hg, hgb, hgl, hcell⟩ := hx h0
    subst hg
    have := hne g rfl
    exact ⟨g, 0, rfl, ⟨this.1, this.2.1⟩, hgl, fun j u hu => by rw [Nat.zero_add]; exact hcell j u hu⟩
  have hkb5 := (hm5.block w.heap.size (Array.getElem?_eq_some_iff.1 H4.out.2.2.1).1 (fun (e : w.heap.size = tb) => by omega)).trans H4.out.2.2.1
  have hob5 := (hm5.block (w.heap.size + 1) (Array.getElem?_eq_some_iff.1 H4.out.2.2.2.1).1 (fun (e : w.heap.size + 1 = tb) => by omega)).trans H4.out.2.2.2.1
  have hgb5 := (hm5.block gb (Array.getElem?_eq_some_iff.1 HG.out).1 (fun (e : gb = tb) => by omega)).trans HG.out
  have hmw5 : Moves (COwn p lb m) w (((((W4.setCell ⟨tb, 0, none⟩ (.int .i64 f.key.1)).setCell ⟨tb, 1, none⟩ (.int .i64 f.key.2)).setCell ⟨tb, 2, none⟩ (.slice Ad f.data.length f.data.length)).setCell ⟨tb, 3, none⟩ (.bool f.dirty)).setCell ⟨tb, 4, none⟩ (.bool true)).drew := H4.out.2.1.andThen hm5 (fun k (e : k = tb) hlt => by omega)
  have H6 := Lib.hid (And.intro hbare (And.intro H4.out.1.by_ (And.intro hmw5 (And.intro hkb5 (And.intro hob5 htb5)))))
  have HROW := Lib.hid hdrow
  have HG5 := Lib.hid hgb5
  have hsm : Maps.size D ≤ 65 := by
    have h1 := H4.out.1.by_.size
    have h2 := List.length_filter_le FrS.here fs'
    have h3 := H4.out.1.few.2
    omega
  have HSM := Lib.hid hsm
  have hiw : (Lit.int .i64 (i : Int)).wf = true := by
    have h3 := H4.out.1.few.2
    simp [Lit.wf, IntKind.min, IntKind.max, IntKind.signed, IntKind.bits]; omega
  clear hsm hsz hm5 htb5 hbare hdrow hkb5 hob5 hgb5 hmw5 H4 HG HCL g0 g1 g2 g3 g4 o0 o1 o2 o3 o4 z0 z1 z2 z3 z4 hne
  generalize (((((W4.setCell ⟨tb, 0, none⟩ (.int .i64 f.key.1)).setCell ⟨tb, 1, none⟩ (.int .i64 f.key.2)).setCell ⟨tb, 2, none⟩ (.slice Ad f.data.length f.data.length)).setCell ⟨tb, 3, none⟩ (.bool f.dirty)).setCell ⟨tb, 4, none⟩ (.bool true)).drew = W6 at H6 HROW HG5 ⊢
  obtain ⟨c0, c1, c2⟩ := H6.out.1.cells
  obtain ⟨g0, g1⟩ : W6.cell? ⟨gb, 0, none⟩ = some (.int .i64 f.key.1) ∧ W6.cell? ⟨gb, 1, none⟩ = some (.int .i64 f.key.2) := by
    unfold World.cell?
    simp only [HG5.out]
    exact ⟨rfl, rfl⟩
  have hown6 := H6.out.1.map.drew
  have hwf := H6.out.2.1.wf i f HSW.out.2.1 HHF.out
  have hkey := keyOf_K hwf
  clear c0 c2
  go_still_tail 6, (by kernel_rfl)
  change wpList _ _ _ _ _ W6.drew
  refine wpList_delete_own _ rfl _ _ 118 43 rfl 3 lawK Try.underlying118 _ m _ D rfl hown6 _ _ rfl hkey ?_
  intro w7 hown7 hturn7
  have hm7 : Moves (fun k => k = m) W6 w7 := (Moves.refl (fun k => k = m) W6).drew.turned hturn7 (fun _ => rfl)
  have hblk : ∀ (g : Nat) (cs : Array Value) (t : TypeId), W6.heap[g]? = some (.cells cs t (0, 0)) → w7.heap[g]? = some (.cells cs t (0, 0)) := fun g cs t hg => by
    refine (hm7.block g (Array.getElem?_eq_some_iff.1 hg).1 (fun (e : g = m) => ?_)).trans hg
    obtain ⟨es, ck, hb', _⟩ := H6.out.1.map
    rw [← e, hg] at hb'
    cases hb'
  have hI1 := H6.out.2.1.del (g := { f with here := false }) (H6.out.1.map.tidy lawK) HSW.out.2.1 HHF.out rfl
  have hno' : NoKey fs' (k1, k2) := fun j x hx hh e => by
    obtain ⟨x0, h1, h2, h3, -⟩ := HSW.out.1.keeps.2 j x hx
    exact HNO.out j x0 h1 (h3 ▸ hh) (h2 ▸ e)
  have hI2 := hI1.put (g := { key := (k1, k2), data := bs, here := true, dirty := dirty, mark := true, pins := 0 }) (hown7.tidy lawK) (List.getElem?_set_self hil) rfl rfl hw (hno'.set rfl)
  rw [List.set_set] at hI2
  have hrow7 := HROW.out.moves hm7 (fun k hk _ (e : k = m) => hk.1 (.inr (.inr e)))
  obtain ⟨D', n8, HT⟩ : ∃ D' n8, Hid (Bare w7 base p lb m fs' h' n8 D' dvs ∧ n8 ≤ 65 ∧ IOf (D'.put (kK (k1, k2)) (.lit (.int .i64 i))) (fs'.set i { key := (k1, k2), data := bs, here := true, dirty := dirty, mark := true, pins := 0 }) ∧ Moves (COwn p lb m) w w7 ∧ w7.heap[w.heap.size]? = some (.cells #[.int .i64 k1, .int .i64 k2] 43 (0, 0)) ∧ w7.heap[w.heap.size + 1]? = some (.cells #[.int .i64 0, .int .i64 0, .slice none 0 0, .bool false, .bool false] 45 (0, 0)) ∧ w7.heap[tb]? = some (.cells #[.int .i64 f.key.1, .int .i64 f.key.2, .slice Ad f.data.length f.data.length, .bool f.dirty, .bool true] 45 (0, 0))) :=
    ⟨_, _, Lib.hid ⟨H6.out.1.remap hm7 hown7, HSM.out, hI2, H6.out.2.2.1.trans (hm7.mono (fun k e => (.inr (.inr e) : COwn p lb m k))), hblk _ _ _ H6.out.2.2.2.1, hblk _ _ _ H6.out.2.2.2.2.1, hblk _ _ _ H6.out.2.2.2.2.2⟩⟩
  have HRW := Lib.hid hrow7
  have hsz5 : Hid (w.heap.size + 1 < tb) := Lib.hid hsz4.out.1
  clear hrow7 hI2 hno' hI1 hblk hm7 hown7 hturn7 hwf hkey hown6 g0 g1 c1 HG5 HROW H6 hsz4 HSM
  have hsz4 := hsz5
  clear hsz5
  go_frame
  go_upto_region 13 with fail
  have hrw := HR.out.moves HT.out.2.2.2.1 HAP.out
  have HC0 := Lib.hid (Pl.cloneB (w := w7.drew) (L := L) (xs := bs.map encB8) hrw (by intro u hu; obtain ⟨b, _, rfl⟩ := List.mem_map.1 hu; rfl) (by rw [List.length_map]; exact hl))
  have HC : Hid (Calls Try.prog 58 #[.slice Av bs.length cv] w7.drew (Pl.CloneB w7.drew (bs.map encB8))) := Lib.hid (by have h := HC0.out; rw [List.length_map] at h; exact h)
  have HS : Hid (∀ w', Moves (fun _ => False) w7 w' → w'.cell? ⟨p, 0, none⟩ = some (.slice (some ⟨lb, 0, none⟩) fs'.length fs'.length) ∧ w'.cell? ⟨w.heap.size, 0, none⟩ = some (.int .i64 k1) ∧ w'.cell? ⟨w.heap.size, 1, none⟩ = some (.int .i64 k2)) := Lib.hid (fun w' hm => by
    have hk := (hm.block w.heap.size (Array.getElem?_eq_some_iff.1 HT.out.2.2.2.2.1).1 (fun h => h)).trans HT.out.2.2.2.2.1
    refine ⟨(HT.out.1.moves0 hm).cells.1, ?_, ?_⟩ <;> simp [World.cell?, hk])
  obtain ⟨s0, s1, s2⟩ := HS.out w7 (Moves.refl _ _)
  have hdl : i < dvs.length := by rw [HT.out.1.len]; exact hil
  have HX : Hid (∃ xk1 xk2 xd xh xdi xm xp, ∀ w', Moves (fun _ => False) w7 w' → (w'.cell? ⟨lb, i * 7, none⟩ = some xk1 ∧ w'.cell? ⟨lb, i * 7 + 1, none⟩ = some xk2 ∧ w'.cell? ⟨lb, i * 7 + 2, none⟩ = some xd ∧ w'.cell? ⟨lb, i * 7 + 3, none⟩ = some xh ∧ w'.cell? ⟨lb, i * 7 + 4, none⟩ = some xdi ∧ w'.cell? ⟨lb, i * 7 + 5, none⟩ = some xm ∧ w'.cell? ⟨lb, i * 7 + 6, none⟩ = some xp) ∧ (w'.frozen? ⟨lb, i * 7, none⟩ = false ∧ w'.frozen? ⟨lb, i * 7 + 1, none⟩ = false ∧ w'.frozen? ⟨lb, i * 7 + 2, none⟩ = false ∧ w'.frozen? ⟨lb, i * 7 + 3, none⟩ = false ∧ w'.frozen? ⟨lb, i * 7 + 4, none⟩ = false ∧ w'.frozen? ⟨lb, i * 7 + 5, none⟩ = false ∧ w'.frozen? ⟨lb, i * 7 + 6, none⟩ = false)) := Lib.hid ⟨_, _, dvs[i], _, _, _, _, fun w' hm => frame_seven (HT.out.1.moves0 hm) hil⟩
  obtain ⟨xk1, xk2, xd, xh, xdi, xm, xp, HX'⟩ := HX.out
  have HX2 := Lib.hid HX'
  have HFAR : Hid ((∀ (W : World) (o : Nat) (v : Value), (W.setCell ⟨lb, o, none⟩ v).cell? ⟨p, 0, none⟩ = W.cell? ⟨p, 0, none⟩) ∧ (∀ (W : World) (o : Nat) (v : Value), (W.setCell ⟨lb, o, none⟩ v).cell? ⟨w.heap.size, 0, none⟩ = W.cell? ⟨w.heap.size, 0, none⟩) ∧ (∀ (W : World) (o : Nat) (v : Value), (W.setCell ⟨lb, o, none⟩ v).cell? ⟨w.heap.size, 1, none⟩ = W.cell? ⟨w.heap.size, 1, none⟩)) := by
    have e1 : lb ≠ p := HT.out.1.lbp
    have e2 : lb ≠ w.heap.size := fun e => by
      obtain ⟨cf, hf, -⟩ := HT.out.1.fr
      rw [e, HT.out.2.2.2.2.1] at hf
      injection hf with hf
      injection hf with _ h2
      exact absurd h2 (by decide)
    exact Lib.hid ⟨fun W o v => World.cell?_setCell_far W ⟨lb, o, none⟩ ⟨p, 0, none⟩ v e1, fun W o v => World.cell?_setCell_far W ⟨lb, o, none⟩ ⟨w.heap.size, 0, none⟩ v e2, fun W o v => World.cell?_setCell_far W ⟨lb, o, none⟩ ⟨w.heap.size, 1, none⟩ v e2⟩
  clear hrw HC0 HX HX'
  go_region_held3 (fun w' => w'.cell? ⟨p, 0, none⟩ = some (.slice (some ⟨lb, 0, none⟩) fs'.length fs'.length) ∧ w'.cell? ⟨w.heap.size, 0, none⟩ = some (.int .i64 k1) ∧ w'.cell? ⟨w.heap.size, 1, none⟩ = some (.int .i64 k2))
    (first | (with_reducible exact hSS) | (refine ⟨?_, ?_, ?_⟩ <;> (simp only [HFAR.out.1, HFAR.out.2.1, HFAR.out.2.2]; first | (with_reducible exact hSS.1) | (with_reducible exact hSS.2.1) | (with_reducible exact hSS.2.2))) | exact ⟨s0, s1, s2⟩)
    (first
      | (go_at_call 58
         go_must (refine HC.out.mono ?_)
         rintro e w' ⟨v', rfl, hown', hm'⟩
         rw [List.length_map] at hown'
         obtain ⟨Ac, cc, rfl, -⟩ := own_form hown'
         have hmw : Moves (fun _ => False) w7 w' := ⟨hm'.os, hm'.tape, hm'.output, hm'.size, hm'.block⟩
         have hSS := HS.out w' hmw
         obtain ⟨⟨x0, x1, x2, x3, x4, x5, x6⟩, y0, y1, y2, y3, y4, y5, y6⟩ := HX2.out w' hmw)
      | fail)
  have hbw := HT.out.1.moves0 hmw
  obtain ⟨hL, hmL⟩ := hbw.lay hil (dv := .slice Ac bs.length cc) (f := { key := (k1, k2), data := bs, here := true, dirty := dirty, mark := true, pins := 0 }) (own_weakC (base := w7.heap.size) (by have := HT.out.1.hp; have := (Array.getElem?_eq_some_iff.1 HT.out.1.blk).1; omega) hown') hl
  have hblk : ∀ (g : Nat) (cs : Array Value) (t : TypeId), w7.heap[g]? = some (.cells cs t (0, 0)) → t ≠ 124 → (((((((w'.setCell ⟨lb, i * 7, none⟩ (.int .i64 k1)).setCell ⟨lb, i * 7 + 1, none⟩ (.int .i64 k2)).setCell ⟨lb, i * 7 + 2, none⟩ (.slice Ac bs.length cc)).setCell ⟨lb, i * 7 + 3, none⟩ (.bool true)).setCell ⟨lb, i * 7 + 4, none⟩ (.bool dirty)).setCell ⟨lb, i * 7 + 5, none⟩ (.bool true)).setCell ⟨lb, i * 7 + 6, none⟩ (.int .i64 0)).heap[g]? = some (.cells cs t (0, 0)) := fun g cs t hg ht => by
    have h1 := (hmw.block g (Array.getElem?_eq_some_iff.1 hg).1 (fun h => h)).trans hg
    refine (hmL.block g (Array.getElem?_eq_some_iff.1 h1).1 (fun (e : g = lb) => ?_)).trans h1
    obtain ⟨cf, hf, -⟩ := hbw.fr
    rw [← e, h1] at hf
    injection hf with hf
    injection hf with _ h2
    exact ht h2
  have H5 := Lib.hid (And.intro hL (And.intro ((HT.out.2.2.2.1.trans (hmw.none _)).trans (hmL.mono (fun k e => (.inr (.inl e) : COwn p lb m k)))) (And.intro (hblk _ _ _ HT.out.2.2.2.2.1 (by decide)) (And.intro (hblk _ _ _ HT.out.2.2.2.2.2.1 (by decide)) (And.intro (hblk _ _ _ HT.out.2.2.2.2.2.2 (by decide)) ((hmw.none _).trans (hmL.mono (fun k e => (.inr (.inl e) : COwn p lb m k)))))))))
  have HIO := Lib.hid (And.intro HT.out.2.1 HT.out.2.2.1)
  clear hbw hL hmL hblk hmw hm' hown' hSS x0 x1 x2 x3 x4 x5 x6 y0 y1 y2 y3 y4 y5 y6 s0 s1 s2 HX2 HS HC HT
  generalize (((((((w'.setCell ⟨lb, i * 7, none⟩ (.int .i64 k1)).setCell ⟨lb, i * 7 + 1, none⟩ (.int .i64 k2)).setCell ⟨lb, i * 7 + 2, none⟩ (.slice Ac bs.length cc)).setCell ⟨lb, i * 7 + 3, none⟩ (.bool true)).setCell ⟨lb, i * 7 + 4, none⟩ (.bool dirty)).setCell ⟨lb, i * 7 + 5, none⟩ (.bool true)).setCell ⟨lb, i * 7 + 6, none⟩ (.int .i64 0)) = W5 at H5 ⊢
  obtain ⟨c0, c1, c2⟩ := H5.out.1.cells
  have q0 : W5.cell? ⟨w.heap.size, 0, none⟩ = some (.int .i64 k1) := by simp [World.cell?, H5.out.2.2.1]
  have q1 : W5.cell? ⟨w.heap.size, 1, none⟩ = some (.int .i64 k2) := by simp [World.cell?, H5.out.2.2.1]
  have hown5 := H5.out.1.map.drew
  have hkey := keyOf_K hw
  clear c0 c2
  go_upto_region 14 with fail
  go_still_tail 6, (by kernel_rfl)
  change wpList _ _ _ _ _ W5.drew
  refine wpList_mapUpdate_in _ rfl _ _ _ 118 rfl 43 3 lawK Try.underlying118 _ m _ D' rfl hown5 (by have := HIO.out.1; unfold maxLen; omega) _ _ _ rfl rfl hkey (.lit (.int .i64 i)) [] (plainElem_int Try.underlying3 hiw) ?_
  intro w6 hown6 hturn6
  have hm6 : Moves (fun k => k = m) W5 w6 := (Moves.refl (fun k => k = m) W5).drew.turned hturn6 (fun _ => rfl)
  have hblk : ∀ (g : Nat) (cs : Array Value) (t : TypeId), W5.heap[g]? = some (.cells cs t (0, 0)) → w6.heap[g]? = some (.cells cs t (0, 0)) := fun g cs t hg => by
    refine (hm6.block g (Array.getElem?_eq_some_iff.1 hg).1 (fun (e : g = m) => ?_)).trans hg
    obtain ⟨es, ck, hb', _⟩ := H5.out.1.map
    rw [← e, hg] at hb'
    cases hb'
  have H6 := Lib.hid (And.intro ((H5.out.1.remap hm6 hown6).whole HIO.out.2) (And.intro (H5.out.2.1.trans (hm6.mono (fun k e => (.inr (.inr e) : COwn p lb m k)))) (And.intro (hblk _ _ _ H5.out.2.2.2.1) (And.intro (hblk _ _ _ H5.out.2.2.2.2.1) (H5.out.2.2.2.2.2.trans (hm6.mono (fun k e => (.inr (.inr e) : COwn p lb m k))))))))
  clear hown6 hturn6 hm6 hblk hown5 hkey c1 q0 q1 H5
  obtain ⟨o0, o1, o2, o3, o4, z0, z1, z2, z3, z4⟩ := out_cells H6.out.2.2.1
  obtain ⟨t0, t1, t2, t3, t4, -⟩ := out_cells H6.out.2.2.2.1
  have hws : Hid (w.heap.size ≤ w.heap.size + 1 ∧ w.heap.size + 1 ≠ tb) := Lib.hid (by have := hsz4.out; omega)
  have hne : w.heap.size + 1 ≠ tb := hws.out.2
  clear hsz4
  generalize w.heap.size + 1 = ob at H6 o0 o1 o2 o3 o4 z0 z1 z2 z3 z4 hws hne HRW ⊢
  go_frame
  go_wp2
  have hb4 : (((((w6.setCell ⟨ob, 0, none⟩ (.int .i64 f.key.1)).setCell ⟨ob, 1, none⟩ (.int .i64 f.key.2)).setCell ⟨ob, 2, none⟩ (.slice Ad f.data.length f.data.length)).setCell ⟨ob, 3, none⟩ (.bool f.dirty)).setCell ⟨ob, 4, none⟩ (.bool true)).heap[ob]? = some (.cells #[.int .i64 f.key.1, .int .i64 f.key.2, .slice Ad f.data.length f.data.length, .bool f.dirty, .bool true] 45 (0, 0)) := by
    simp [World.setCell, Array.getElem?_modify, H6.out.2.2.1]
  have hm4 : Moves (fun k => k = ob) w6 (((((w6.setCell ⟨ob, 0, none⟩ (.int .i64 f.key.1)).setCell ⟨ob, 1, none⟩ (.int .i64 f.key.2)).setCell ⟨ob, 2, none⟩ (.slice Ad f.data.length f.data.length)).setCell ⟨ob, 3, none⟩ (.bool f.dirty)).setCell ⟨ob, 4, none⟩ (.bool true)) :=
    Moves.setCell (p := ⟨ob, 4, none⟩) (Moves.setCell (p := ⟨ob, 3, none⟩) (Moves.setCell (p := ⟨ob, 2, none⟩) (Moves.setCell (p := ⟨ob, 1, none⟩) (Moves.setCell (p := ⟨ob, 0, none⟩) (Moves.refl (fun k => k = ob) w6) (fun _ => rfl) _) (fun _ => rfl) _) (fun _ => rfl) _) (fun _ => rfl) _) (fun _ => rfl) _
  refine bodyPost_ret (results_row_tmp rfl _ _ ob _ _ _ _ rfl hb4 Try.underlying45 rfl (by kernel_rfl)) rfl ?_
  have hmF := (H6.out.2.2.2.2.mono (fun k e => (.inl e : COwn p lb m k ∨ k = ob))).trans (hm4.mono (fun k e => .inr e))
  exact ⟨i, fs', h', f, _, HSW.out.1, HSW.out.2.1, rfl, (HRW.out.moves hmF (fun k hk _ e => e.elim hk.1 hk.2)).mono (fun k hk _ => hk.1), H6.out.1.poke H6.out.2.2.1 (by decide) (by decide) (by decide) hm4, H6.out.2.1.andThen hm4 (fun k e hlt => absurd hlt (by have e : k = ob := e; have := hws.out; omega))⟩
end Go.Proofs.Ytbfnmgjpkieaoaa
