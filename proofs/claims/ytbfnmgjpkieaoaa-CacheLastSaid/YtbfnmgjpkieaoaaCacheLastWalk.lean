/-
  The walk of CacheLast: what was put last is what is read; it is dirty until it is cleaned.
-/
import Derived.Test.YtbfnmgjpkieaoaaCKnown
import Derived.Test.YtbfnmgjpkieaoaaOpenRows
namespace Go.Proofs.Ytbfnmgjpkieaoaa
open Go Go.RowKit Go.Maps Go.Sort Go.Proofs

def lastF (bs : List Int) : FrS := { key := (1, 7), data := bs, here := true, dirty := true, mark := true, pins := 0 }
/-- The frames behind i writes. -/
def lastFs (zss : List (List Int)) (i : Nat) : List FrS := if i = 0 then [zeroF, zeroF, zeroF] else [lastF (zss.getD (i - 1) []), zeroF, zeroF]

theorem moves_set5 {S : Nat → Prop} {w w' : World} (h : Moves S w w') {ob : Nat} (hb : w.heap.size ≤ ob) (v0 v1 v2 v3 v4 : Value) : Moves S w (((((w'.setCell ⟨ob, 0, none⟩ v0).setCell ⟨ob, 1, none⟩ v1).setCell ⟨ob, 2, none⟩ v2).setCell ⟨ob, 3, none⟩ v3).setCell ⟨ob, 4, none⟩ v4) :=
  Moves.setCell (p := ⟨ob, 4, none⟩) (Moves.setCell (p := ⟨ob, 3, none⟩) (Moves.setCell (p := ⟨ob, 2, none⟩) (Moves.setCell (p := ⟨ob, 1, none⟩) (Moves.setCell (p := ⟨ob, 0, none⟩) h (fun (e : ob < w.heap.size) => by omega) _) (fun (e : ob < w.heap.size) => by omega) _) (fun (e : ob < w.heap.size) => by omega) _) (fun (e : ob < w.heap.size) => by omega) _) (fun (e : ob < w.heap.size) => by omega) _
theorem last_put {wr : World} {base p lb m : Nat} {zss : List (List Int)} {i : Nat} (h : IsCache wr base p lb m (lastFs zss i) 0) {v : Value} {L : Nat → Prop} (hi : i < zss.length) (hr : Row wr L v (zss[i].map encB8)) (hl : zss[i].length ≤ 1000000) (hap : ∀ k, L k → k < wr.heap.size → ¬ COwn p lb m k) :
    Calls Try.prog 27 #[.pointer (some ⟨p, 0, none⟩), encK (1, 7), v, .bool ((i : Int) == 0)] wr (CPost wr base p lb m (lastFs zss (i + 1)) 0 (.tuple #[noOut, .int .i64 0])) := by
  have e1 : lastFs zss (i + 1) = [lastF zss[i], zeroF, zeroF] := by
    unfold lastFs
    rw [if_neg (by omega), show i + 1 - 1 = i by omega, List.getD_eq_getElem?_getD, List.getElem?_eq_getElem hi]
    rfl
  rw [e1]
  by_cases h0 : i = 0
  · subst h0
    refine (put_c_new (k := (1, 7)) (i := 0) (dirty := true) (h : IsCache wr base p lb m [zeroF, zeroF, zeroF] 0) (by decide) (fun j f hf hh => ?_) (by rfl) hr hl hap)
    have : f = zeroF := by
      have h : f ∈ [zeroF, zeroF, zeroF] := List.mem_of_getElem? hf
      simpa using h
    subst this
    cases hh
  · have e2 : ((i : Int) == 0) = false := by simp; omega
    have e3 : lastFs zss i = [lastF (zss.getD (i - 1) []), zeroF, zeroF] := by unfold lastFs; rw [if_neg h0]
    rw [e2]
    rw [e3] at h
    exact put_hit (i := 0) (f := lastF (zss.getD (i - 1) [])) (dirty := false) h rfl rfl rfl hr hl

set_option maxRecDepth 100000 in
set_option maxHeartbeats 8000000 in
theorem cache_last {v0 : Value} {zss : List (List Int)} (w : World) (hz : Rows2 .u8 w (fun i => i < w.heap.size) v0 zss) (clean : Bool) : Calls Try.prog 7 #[v0, .bool clean] w (CVal w (.bool true)) := by
  obtain ⟨A, c, vs, rfl, hc, hvl, hx, hrow⟩ := hz
  by_cases h0 : zss.length = 0
  · have HK := Lib.hid (known_c w)
    rw [h0]
    clear hx hrow h0 hvl hc
    go_enter Try.func7, Try.ntmps7
    go_wp2_with fail
    refine HK.out.mono ?_
    rintro e w1 ⟨rfl, hm1⟩
    go_wp2
    go_ret
    exact ⟨rfl, hm1⟩
  by_cases h30 : 30 < zss.length
  · have HK := Lib.hid (known_c w)
    have hn1 : ((zss.length : Int) == 0) = false := by simp; exact fun e => by rw [e] at h0; simp at h0
    have hn2 : (30 : Int) < (zss.length : Int) := by omega
    have hn3 : ¬ zss = [] := fun e => by rw [e] at h0; simp at h0
    clear hx hrow h0 hvl hc
    go_enter Try.func7, Try.ntmps7
    go_wp2_with fail
    refine HK.out.mono ?_
    rintro e w1 ⟨rfl, hm1⟩
    go_wp2
    go_ret
    exact ⟨rfl, hm1⟩
  obtain ⟨g, o, rfl, hgl, -, hcell⟩ := hx (by omega)
  have HK := Lib.hid (known_c w)
  have HROW := Lib.hid hrow
  have HCELL := Lib.hid hcell
  have hn2 : ¬ (30 : Int) < (zss.length : Int) := by omega
  have hn3 : ¬ zss = [] := fun e => by rw [e] at h0; simp at h0
  have hn1 : ((zss.length : Int) == 0) = false := by simpa using hn3
  clear hrow hcell hx
  go_enter Try.func7, Try.ntmps7
  go_wp2_with fail
  refine HK.out.mono ?_
  rintro e w1 ⟨rfl, hm1⟩
  have HNEW := Lib.hid (new_c (n := 3) (by omega) w1)
  have HM1 := Lib.hid hm1
  clear HK hm1
  go_wp2_with fail
  refine HNEW.out.mono ?_
  rintro e w2 ⟨p, lb, m, rfl, h2, hm2⟩
  have hma := (Moves.refl (fun _ => False) w2).alloc (.cells #[.int .i64 1, .int .i64 7] 43)
  have H3 : Hid (IsCache (w2.alloc (.cells #[.int .i64 1, .int .i64 7] 43)) w1.heap.size p lb m (lastFs zss 0) 0 ∧ Moves (fun _ => False) w (w2.alloc (.cells #[.int .i64 1, .int .i64 7] 43)) ∧ (w2.alloc (.cells #[.int .i64 1, .int .i64 7] 43)).heap[w2.heap.size]? = some (.cells #[.int .i64 1, .int .i64 7] 43 (0, 0)) ∧ w.heap.size ≤ w1.heap.size) :=
    Lib.hid ⟨h2.moves0 hma, (HM1.out.trans hm2).trans hma, heap_alloc_new _ _, HM1.out.size⟩
  clear hma h2 hm2 HNEW
  go_upto_region 7 with fail
  generalize w2.alloc (.cells #[.int .i64 1, .int .i64 7] 43) = w3 at H3 ⊢
  generalize w2.heap.size = kb at H3 ⊢
  go_wp2_with fail
  go_loopg [8] zss.length (fun gg s8 wr => ∃ i : Nat, i ≤ zss.length ∧ gg = zss.length - i ∧ s8 = .int .i64 i ∧ Hid (IsCache wr w1.heap.size p lb m (lastFs zss i) 0 ∧ Moves (fun _ => False) w wr ∧ wr.heap[kb]? = some (.cells #[.int .i64 1, .int .i64 7] 43 (0, 0)) ∧ ∀ j (hj : j < zss.length), j < i → zss[j].length ≤ 100))
  case atStart => exact ⟨0, Nat.zero_le _, rfl, rfl, Lib.hid ⟨H3.out.1, H3.out.2.1, H3.out.2.2.1, fun j _ h => absurd h (by omega)⟩⟩
  case round =>
    obtain ⟨i, hi, rfl, rfl, HI⟩ := hrel
    by_cases hlt : i < zss.length
    · have hvi : i < vs.length := by omega
      have hr0 := HROW.out i hlt hvi
      obtain ⟨Ai, ci, hvv, hcc, hxx⟩ := id hr0
      rw [List.length_map] at hvv
      have q0 : wr.cell? ⟨g, o + i, none⟩ = some (.slice Ai zss[i].length ci) := by
        rw [← hvv]
        exact (HI.out.2.1.cell (p := ⟨g, o + i, none⟩) hgl (fun h => h)).trans (HCELL.out i _ (List.getElem?_eq_getElem hvi))
      have hrw := hr0.moves HI.out.2.1 (fun _ _ _ h => h)
      have hlz : (i : Int) < (zss.length : Int) := by omega
      have hiz : (0 : Int) ≤ (i : Int) := by omega
      by_cases h100 : 100 < zss[i].length
      · have hz1 : (100 : Int) < (zss[i].length : Int) := by omega
        clear hxx hrw
        go_wp2
        go_ret
        exact ⟨rfl, HI.out.2.1⟩
      · have hz1 : ¬ (100 : Int) < (zss[i].length : Int) := by omega
        have H100 := Lib.hid h100
        rw [hvv] at hrw
        have HRW := Lib.hid hrw
        clear hxx hr0 hrw hvv hcc h100
        obtain ⟨k0, k1⟩ : wr.cell? ⟨kb, 0, none⟩ = some (.int .i64 1) ∧ wr.cell? ⟨kb, 1, none⟩ = some (.int .i64 7) := by
          constructor <;> simp [World.cell?, HI.out.2.2.1]
        go_upto_region 12 with fail
        have HPUT : Hid (∀ W, Moves (fun _ => False) wr W → Calls Try.prog 27 #[.pointer (some ⟨p, 0, none⟩), .agg #[.int .i64 1, .int .i64 7], .slice Ai zss[i].length ci, .bool ((i : Int) == 0)] W (CPost W w1.heap.size p lb m (lastFs zss (i + 1)) 0 (.tuple #[noOut, .int .i64 0]))) := Lib.hid (fun W hW =>
          last_put (HI.out.1.moves0 hW) hlt (HRW.out.moves hW (fun _ _ _ h => h)) (by have := H100.out; omega) (fun k hk _ e => by
            have h1 := HI.out.1.low
            have h2 := H3.out.2.2.2
            rcases e with e | e | e <;> omega))
        have HS : Hid (∀ W, Moves (COwn p lb m) wr W → W.cell? ⟨kb, 0, none⟩ = some (.int .i64 1) ∧ W.cell? ⟨kb, 1, none⟩ = some (.int .i64 7) ∧ W.cell? ⟨g, o + i, none⟩ = some (.slice Ai zss[i].length ci)) := Lib.hid (fun W hW => by
          have hk := HI.out.1.after hW HI.out.2.2.1 (by decide) (by decide)
          refine ⟨by simp [World.cell?, hk], by simp [World.cell?, hk], ?_⟩
          refine (hW.cell (p := ⟨g, o + i, none⟩) (by have := HI.out.2.1.size; show g < _; omega) (fun e => ?_)).trans q0
          have h1 := HI.out.1.low
          have h2 := H3.out.2.2.2
          rcases e with e | e | e <;> (simp only at e; omega))
        go_region_held3 (fun W => W.cell? ⟨kb, 0, none⟩ = some (.int .i64 1) ∧ W.cell? ⟨kb, 1, none⟩ = some (.int .i64 7) ∧ W.cell? ⟨g, o + i, none⟩ = some (.slice Ai zss[i].length ci))
          (first | (with_reducible exact HS.out _ (Moves.refl _ wr).drew) | (with_reducible exact HS.out _ ((Moves.refl _ wr).alloc _).drew) | (with_reducible exact HS.out _ HMC.out) | (with_reducible exact HS.out _ (HMC.out.alloc _)) | (with_reducible exact HS.out _ (moves_set5 HMC.out (Nat.le_refl _) _ _ _ _ _)))
          (first
            | (go_at_call 27
               go_must (refine (HPUT.out _ (by first | exact (Moves.refl _ wr).drew | exact ((Moves.refl _ wr).alloc _).drew)).mono ?_)
               rintro e w' ⟨rfl, h', hm'⟩
               have HMC : Hid (Moves (COwn p lb m) wr w') := Lib.hid (by first | exact (Moves.refl _ wr).drew.trans hm' | exact ((Moves.refl _ wr).alloc _).drew.trans hm')
               have HC' := Lib.hid h'
               first
                 | (have hob : w'.heap[wr.heap.size]? = some (.cells #[.int .i64 0, .int .i64 0, .slice none 0 0, .bool false, .bool false] 45 (0, 0)) := (HI.out.1.moves0 ((Moves.refl (fun _ => False) wr).alloc (.cells #[.int .i64 0, .int .i64 0, .slice none 0 0, .bool false, .bool false] 45)).drew).after hm' (heap_alloc_new wr _) (by decide) (by decide)
                    obtain ⟨o0, o1, o2, o3, o4, z0, z1, z2, z3, z4⟩ := out_cells hob
                    have HOB := Lib.hid hob
                    clear hob hm' h')
                 | clear hm' h')
            | fail)
        · have HL : Hid (IsCache (w'.alloc (.cells #[.int .i64 0, .int .i64 0, .slice none 0 0, .bool false, .bool false] 45)) w1.heap.size p lb m (lastFs zss (i + 1)) 0 ∧ Moves (COwn p lb m) wr (w'.alloc (.cells #[.int .i64 0, .int .i64 0, .slice none 0 0, .bool false, .bool false] 45)) ∧ (w'.alloc (.cells #[.int .i64 0, .int .i64 0, .slice none 0 0, .bool false, .bool false] 45)).heap[w'.heap.size]? = some (.cells #[.int .i64 0, .int .i64 0, .slice none 0 0, .bool false, .bool false] 45 (0, 0))) :=
            Lib.hid ⟨HC'.out.moves0 ((Moves.refl _ w').alloc _), HMC.out.alloc _, heap_alloc_new _ _⟩
          clear HPUT HS HMC HC' k0 k1 q0
          generalize (w'.alloc (.cells #[.int .i64 0, .int .i64 0, .slice none 0 0, .bool false, .bool false] 45)) = WL at HL ⊢
          generalize w'.heap.size = ob at HL ⊢
          have t3 : WL.cell? ⟨ob, 4, none⟩ = some (.bool false) := (out_cells HL.out.2.2).2.2.2.2.1
          go_wp2
          go_roundg (zss.length - (i + 1))
          case measure => omega
          case rel =>
            have hk := HI.out.1.after HL.out.2.1 HI.out.2.2.1 (by decide) (by decide)
            refine ⟨i + 1, by omega, rfl, by go_num, Lib.hid ⟨HL.out.1, HI.out.2.1.andThen HL.out.2.1 (fun k e hkl => ?_), hk, fun j hj hji => ?_⟩⟩
            · have h1 := HI.out.1.low
              have h2 := H3.out.2.2.2
              rcases e with e | e | e <;> (exfalso; omega)
            · by_cases e : j = i
              · subst e; have := H100.out; omega
              · exact HI.out.2.2.2 j hj (by omega)
        · have hms : Moves (fun k => k = wr.heap.size) w' (((((w'.setCell ⟨wr.heap.size, 0, none⟩ (.int .i64 0)).setCell ⟨wr.heap.size, 1, none⟩ (.int .i64 0)).setCell ⟨wr.heap.size, 2, none⟩ (.slice none 0 0)).setCell ⟨wr.heap.size, 3, none⟩ (.bool false)).setCell ⟨wr.heap.size, 4, none⟩ (.bool false)) := Moves.setCell (p := ⟨wr.heap.size, 4, none⟩) (Moves.setCell (p := ⟨wr.heap.size, 3, none⟩) (Moves.setCell (p := ⟨wr.heap.size, 2, none⟩) (Moves.setCell (p := ⟨wr.heap.size, 1, none⟩) (Moves.setCell (p := ⟨wr.heap.size, 0, none⟩) (Moves.refl (fun k => k = wr.heap.size) w') (fun _ => rfl) _) (fun _ => rfl) _) (fun _ => rfl) _) (fun _ => rfl) _) (fun _ => rfl) _
          have HL : Hid (IsCache (((((w'.setCell ⟨wr.heap.size, 0, none⟩ (.int .i64 0)).setCell ⟨wr.heap.size, 1, none⟩ (.int .i64 0)).setCell ⟨wr.heap.size, 2, none⟩ (.slice none 0 0)).setCell ⟨wr.heap.size, 3, none⟩ (.bool false)).setCell ⟨wr.heap.size, 4, none⟩ (.bool false)) w1.heap.size p lb m (lastFs zss (i + 1)) 0 ∧ Moves (COwn p lb m) wr (((((w'.setCell ⟨wr.heap.size, 0, none⟩ (.int .i64 0)).setCell ⟨wr.heap.size, 1, none⟩ (.int .i64 0)).setCell ⟨wr.heap.size, 2, none⟩ (.slice none 0 0)).setCell ⟨wr.heap.size, 3, none⟩ (.bool false)).setCell ⟨wr.heap.size, 4, none⟩ (.bool false)) ∧ (((((w'.setCell ⟨wr.heap.size, 0, none⟩ (.int .i64 0)).setCell ⟨wr.heap.size, 1, none⟩ (.int .i64 0)).setCell ⟨wr.heap.size, 2, none⟩ (.slice none 0 0)).setCell ⟨wr.heap.size, 3, none⟩ (.bool false)).setCell ⟨wr.heap.size, 4, none⟩ (.bool false)).heap[wr.heap.size]? = some (.cells #[.int .i64 0, .int .i64 0, .slice none 0 0, .bool false, .bool false] 45 (0, 0))) :=
            Lib.hid ⟨HC'.out.poke HOB.out (by decide) (by decide) (by decide) hms, moves_set5 HMC.out (Nat.le_refl _) _ _ _ _ _, by simp [World.setCell, Array.getElem?_modify, HOB.out]⟩
          clear hms o0 o1 o2 o3 o4 z0 z1 z2 z3 z4 HOB
          clear HPUT HS HMC HC' k0 k1 q0
          generalize (((((w'.setCell ⟨wr.heap.size, 0, none⟩ (.int .i64 0)).setCell ⟨wr.heap.size, 1, none⟩ (.int .i64 0)).setCell ⟨wr.heap.size, 2, none⟩ (.slice none 0 0)).setCell ⟨wr.heap.size, 3, none⟩ (.bool false)).setCell ⟨wr.heap.size, 4, none⟩ (.bool false)) = WL at HL ⊢
          generalize wr.heap.size = ob at HL ⊢
          have t3 : WL.cell? ⟨ob, 4, none⟩ = some (.bool false) := (out_cells HL.out.2.2).2.2.2.2.1
          go_wp2
          go_roundg (zss.length - (i + 1))
          case measure => omega
          case rel =>
            have hk := HI.out.1.after HL.out.2.1 HI.out.2.2.1 (by decide) (by decide)
            refine ⟨i + 1, by omega, rfl, by go_num, Lib.hid ⟨HL.out.1, HI.out.2.1.andThen HL.out.2.1 (fun k e hkl => ?_), hk, fun j hj hji => ?_⟩⟩
            · have h1 := HI.out.1.low
              have h2 := H3.out.2.2.2
              rcases e with e | e | e <;> (exfalso; omega)
            · by_cases e : j = i
              · subst e; have := H100.out; omega
              · exact HI.out.2.2.2 j hj (by omega)
    · obtain rfl : i = zss.length := by omega
      have hlz : ¬ (zss.length : Int) < (zss.length : Int) := by omega
      have hvi : zss.length - 1 < vs.length := by omega
      have hr0 := HROW.out (zss.length - 1) (by omega) hvi
      obtain ⟨Al, cl, hvv, hcc, hxx⟩ := id hr0
      rw [List.length_map] at hvv
      have hbs : zss.getD (zss.length - 1) [] = zss[zss.length - 1] := by
        rw [List.getD_eq_getElem?_getD, List.getElem?_eq_getElem (by omega)]; rfl
      have hfs : lastFs zss zss.length = [lastF zss[zss.length - 1], zeroF, zeroF] := by
        unfold lastFs
        rw [if_neg h0, hbs]
      have q0 : w.cell? ⟨g, o + (zss.length - 1), none⟩ = some (.slice Al zss[zss.length - 1].length cl) := by
        rw [← hvv]
        exact HCELL.out (zss.length - 1) _ (List.getElem?_eq_getElem hvi)
      have HL : Hid (IsCache wr w1.heap.size p lb m [lastF zss[zss.length - 1], zeroF, zeroF] 0 ∧ Moves (fun _ => False) w wr ∧ wr.heap[kb]? = some (.cells #[.int .i64 1, .int .i64 7] 43 (0, 0))) := by
        have h := HI.out
        rw [hfs] at h
        exact Lib.hid ⟨h.1, h.2.1, h.2.2.1⟩
      rw [hvv] at hr0
      have HQ0 := Lib.hid (And.intro q0 hr0)
      clear hbs hfs q0 hr0 hvv hcc hxx HI hi hlt
      obtain ⟨k0, k1⟩ : wr.cell? ⟨kb, 0, none⟩ = some (.int .i64 1) ∧ wr.cell? ⟨kb, 1, none⟩ = some (.int .i64 7) := by
        constructor <;> simp [World.cell?, HL.out.2.2]
      generalize zss[zss.length - 1] = bs at HL HQ0
      clear hvi
      obtain ⟨sb, hsb⟩ : ∃ sb, strOfNums bs = sb := ⟨_, rfl⟩
      have HQ : Hid (w.cell? ⟨g, o + (zss.length - 1), none⟩ = some (.slice Al bs.length cl) ∧ Row w (fun i => i < w.heap.size) (.slice Al bs.length cl) (bs.map (Value.int .u8)) ∧ strOfNums bs = sb) := Lib.hid ⟨HQ0.out.1, HQ0.out.2, hsb⟩
      clear hsb HQ0
      have hw1 : IntKind.i64.wrap ((zss.length : Int) - 1) = (zss.length : Int) - 1 := IntWalk.i64_in _ (by omega)
      have hw2 : (0 : Int) ≤ (zss.length : Int) - 1 := by omega
      have hw3 : (zss.length : Int) - 1 < (zss.length : Int) := by omega
      have hw5 : (1 : Int) ≤ (zss.length : Int) := by omega
      have hw6 : 1 ≤ zss.length := by omega
      have hw7 : 0 < zss.length := by omega
      have hw4 : ((zss.length : Int) - 1).toNat = zss.length - 1 := by omega
      cases clean with
      | true =>
        have HCL := Lib.hid (clean_hit (i := 0) (f := lastF bs) (k := (1, 7)) HL.out.1 rfl rfl rfl)
        go_wp2_with fail
        refine HCL.out.mono ?_
        rintro e wc ⟨rfl, hc', hmc⟩
        have HW : Hid (IsCache wc w1.heap.size p lb m [{ lastF bs with dirty := false }, zeroF, zeroF] 0 ∧ Moves (fun _ => False) w wc ∧ wc.heap[kb]? = some (.cells #[.int .i64 1, .int .i64 7] 43 (0, 0))) :=
          Lib.hid ⟨hc', HL.out.2.1.andThen hmc (fun k e hkl => by
            have h1 := HL.out.1.low
            have h2 := H3.out.2.2.2
            rcases e with e | e | e <;> (exfalso; omega)), HL.out.1.after hmc HL.out.2.2 (by decide) (by decide)⟩
        clear k0 k1
        obtain ⟨k0, k1⟩ : wc.cell? ⟨kb, 0, none⟩ = some (.int .i64 1) ∧ wc.cell? ⟨kb, 1, none⟩ = some (.int .i64 7) := by
          constructor <;> simp [World.cell?, HW.out.2.2]
        clear hc' hmc HCL
        have HG := Lib.hid (get_hit (i := 0) (f := { lastF bs with dirty := false }) (k := (1, 7)) HW.out.1 rfl rfl rfl)
        go_wp2_with fail
        refine HG.out.mono ?_
        rintro e w5 ⟨v5, he5, hr5, h5, hm5⟩
        obtain ⟨A5, c5, hv5, -, -⟩ := id hr5
        have hv5' : v5 = .slice A5 bs.length c5 := by rw [hv5, List.length_map]; rfl
        clear hv5
        subst hv5'
        have hr5 : Row w5 (fun k => wc.heap.size ≤ k) (.slice A5 bs.length c5) (bs.map encB8) := hr5
        subst he5
        have hM5 : Moves (fun _ => False) w w5 := HW.out.2.1.andThen hm5 (fun k e hkl => by
          have h1 := HW.out.1.low
          have h2 := H3.out.2.2.2
          rcases e with e | e | e <;> (exfalso; omega))
        have h5' : IsCache w5 w1.heap.size p lb m [{ lastF bs with dirty := false }, zeroF, zeroF] 0 := h5
        have H5 := Lib.hid (And.intro h5' (And.intro hM5 hr5))
        clear h5 h5' hM5 hm5 HG HW k0 k1
        have HD := Lib.hid (fun W (hW : Moves (fun _ => False) w5 W) => dirty_c (H5.out.1.moves0 hW))
        have HLN : Hid (∀ W, Moves (fun _ => False) w5 W → Calls Try.prog 29 #[.pointer (some ⟨p, 0, none⟩)] W (SameP W (.int .i64 1))) := Lib.hid (fun W (hW : Moves (fun _ => False) w5 W) => len_c (H5.out.1.moves0 hW))
        have hcnt : (sortK (keysOf FrS.dirty [{ lastF bs with dirty := false }, zeroF, zeroF])).length = 0 := by rw [sortK_len]; rfl
        have HS : Hid (∀ W, Moves (fun _ => False) w5 W → W.cell? ⟨g, o + (zss.length - 1), none⟩ = some (.slice Al bs.length cl) ∧ (convert 29 9 (.slice A5 bs.length c5)).run Try.prog W = .ok (.string sb) W ∧ (convert 29 9 (.slice Al bs.length cl)).run Try.prog W = .ok (.string sb) W) := Lib.hid (fun W hW =>
          ⟨(hW.cell (p := ⟨g, o + (zss.length - 1), none⟩) (by have := H5.out.2.1.size; show g < _; omega) (fun h => h)).trans ((H5.out.2.1.cell (p := ⟨g, o + (zss.length - 1), none⟩) hgl (fun h => h)).trans HQ.out.1), by rw [← HQ.out.2.2]; exact conv_row (H5.out.2.2.moves hW (fun _ _ _ h => h)), by rw [← HQ.out.2.2]; exact conv_row (HQ.out.2.1.moves (H5.out.2.1.trans hW) (fun _ _ _ h => h))⟩)
        go_upto_region 18 with fail
        go_region_held3 (fun W => W.cell? ⟨g, o + (zss.length - 1), none⟩ = some (.slice Al bs.length cl) ∧ (convert 29 9 (.slice A5 bs.length c5)).run Try.prog W = .ok (.string sb) W ∧ (convert 29 9 (.slice Al bs.length cl)).run Try.prog W = .ok (.string sb) W)
          (first | (with_reducible exact HS.out _ (Moves.refl _ w5).drew) | (with_reducible exact HS.out _ HMC.out))
          (first
            | (go_at_call 33
               go_must (refine (HD.out _ (by first | exact (Moves.refl _ w5).drew | exact HMC.out)).mono ?_)
               rintro e w' ⟨v', rfl, ⟨A', c', hv', -, -⟩, hm'⟩
               rw [hcnt] at hv'
               subst hv'
               have HMC : Hid (Moves (fun _ => False) w5 w') := Lib.hid (by first | exact (Moves.refl _ w5).drew.trans hm' | exact HMC.out.trans hm')
               clear hm')
            | (go_at_call 29
               go_must (refine (HLN.out _ (by first | exact (Moves.refl _ w5).drew | exact HMC.out)).mono ?_)
               rintro e w' ⟨rfl, rfl⟩)
            | fail)
        go_wp2
        go_ret
        exact ⟨rfl, H5.out.2.1.trans HMC.out⟩
      | false =>
        go_upto_region 17 with fail
        obtain ⟨wc, hwc⟩ : ∃ x, x = wr := ⟨wr, rfl⟩
        have HW := HL
        rw [← hwc] at HW k0 k1 ⊢
        clear hwc
        have HG := Lib.hid (get_hit (i := 0) (f := { lastF bs with dirty := true }) (k := (1, 7)) HW.out.1 rfl rfl rfl)
        go_wp2_with fail
        refine HG.out.mono ?_
        rintro e w5 ⟨v5, he5, hr5, h5, hm5⟩
        obtain ⟨A5, c5, hv5, -, -⟩ := id hr5
        have hv5' : v5 = .slice A5 bs.length c5 := by rw [hv5, List.length_map]; rfl
        clear hv5
        subst hv5'
        have hr5 : Row w5 (fun k => wc.heap.size ≤ k) (.slice A5 bs.length c5) (bs.map encB8) := hr5
        subst he5
        have hM5 : Moves (fun _ => False) w w5 := HW.out.2.1.andThen hm5 (fun k e hkl => by
          have h1 := HW.out.1.low
          have h2 := H3.out.2.2.2
          rcases e with e | e | e <;> (exfalso; omega))
        have h5' : IsCache w5 w1.heap.size p lb m [{ lastF bs with dirty := true }, zeroF, zeroF] 0 := h5
        have H5 := Lib.hid (And.intro h5' (And.intro hM5 hr5))
        clear h5 h5' hM5 hm5 HG HW k0 k1
        have HD := Lib.hid (fun W (hW : Moves (fun _ => False) w5 W) => dirty_c (H5.out.1.moves0 hW))
        have HLN : Hid (∀ W, Moves (fun _ => False) w5 W → Calls Try.prog 29 #[.pointer (some ⟨p, 0, none⟩)] W (SameP W (.int .i64 1))) := Lib.hid (fun W (hW : Moves (fun _ => False) w5 W) => len_c (H5.out.1.moves0 hW))
        have hcnt : (sortK (keysOf FrS.dirty [{ lastF bs with dirty := true }, zeroF, zeroF])).length = 1 := by rw [sortK_len]; rfl
        have HS : Hid (∀ W, Moves (fun _ => False) w5 W → W.cell? ⟨g, o + (zss.length - 1), none⟩ = some (.slice Al bs.length cl) ∧ (convert 29 9 (.slice A5 bs.length c5)).run Try.prog W = .ok (.string sb) W ∧ (convert 29 9 (.slice Al bs.length cl)).run Try.prog W = .ok (.string sb) W) := Lib.hid (fun W hW =>
          ⟨(hW.cell (p := ⟨g, o + (zss.length - 1), none⟩) (by have := H5.out.2.1.size; show g < _; omega) (fun h => h)).trans ((H5.out.2.1.cell (p := ⟨g, o + (zss.length - 1), none⟩) hgl (fun h => h)).trans HQ.out.1), by rw [← HQ.out.2.2]; exact conv_row (H5.out.2.2.moves hW (fun _ _ _ h => h)), by rw [← HQ.out.2.2]; exact conv_row (HQ.out.2.1.moves (H5.out.2.1.trans hW) (fun _ _ _ h => h))⟩)
        go_upto_region 18 with fail
        go_region_held3 (fun W => W.cell? ⟨g, o + (zss.length - 1), none⟩ = some (.slice Al bs.length cl) ∧ (convert 29 9 (.slice A5 bs.length c5)).run Try.prog W = .ok (.string sb) W ∧ (convert 29 9 (.slice Al bs.length cl)).run Try.prog W = .ok (.string sb) W)
          (first | (with_reducible exact HS.out _ (Moves.refl _ w5).drew) | (with_reducible exact HS.out _ HMC.out))
          (first
            | (go_at_call 33
               go_must (refine (HD.out _ (by first | exact (Moves.refl _ w5).drew | exact HMC.out)).mono ?_)
               rintro e w' ⟨v', rfl, ⟨A', c', hv', -, -⟩, hm'⟩
               rw [hcnt] at hv'
               subst hv'
               have HMC : Hid (Moves (fun _ => False) w5 w') := Lib.hid (by first | exact (Moves.refl _ w5).drew.trans hm' | exact HMC.out.trans hm')
               clear hm')
            | (go_at_call 29
               go_must (refine (HLN.out _ (by first | exact (Moves.refl _ w5).drew | exact HMC.out)).mono ?_)
               rintro e w' ⟨rfl, rfl⟩)
            | fail)
        go_wp2
        go_ret
        exact ⟨rfl, H5.out.2.1.trans HMC.out⟩
end Go.Proofs.Ytbfnmgjpkieaoaa
