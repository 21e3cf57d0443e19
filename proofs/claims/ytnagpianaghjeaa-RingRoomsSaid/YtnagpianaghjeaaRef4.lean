/-
  loamlaw6.Few, loamlaw4.Of, loamref4: one, Sectors, Check. (Printed by gen_ref4.py.)
-/
import Derived.Test.YtnagpianaghjeaaGeom
namespace Go.Proofs.Ytnagpianaghjeaa.Sl
open Go Go.RowKit Go.Proofs

def FewG (g : Geo) : Prop := (8 ≤ g.sector ∧ g.sector ≤ 1048576) ∧ (-1048576 ≤ g.words ∧ g.words ≤ 1048576) ∧ (-1048576 ≤ g.log ∧ g.log ≤ 1048576)
theorem GoodG.few {g : Geo} (h : GoodG g) : FewG g := by
  obtain ⟨⟨a, b, _⟩, ⟨c, d, e, f⟩, _⟩ := h
  refine ⟨⟨?_, ?_⟩, ⟨?_, ?_⟩, ?_, ?_⟩ <;> omega
set_option maxRecDepth 100000 in
set_option maxHeartbeats 2000000 in
theorem few_ok {g : Geo} (h : FewG g) (w : World) : Calls Try.prog 52 #[geoV g] w (MovV w (.bool true)) := by
  obtain ⟨s, l, n⟩ := g
  obtain ⟨⟨h1, h2⟩, ⟨h3, h4⟩, h5, h6⟩ := h
  dsimp only at h1 h2 h3 h4 h5 h6
  go_enter Try.func52, Try.ntmps52
  go_wp2
  go_ret
  exact ⟨rfl, (Moves.refl _ w).alloc _⟩
set_option maxRecDepth 100000 in
set_option maxHeartbeats 2000000 in
theorem few_bad {g : Geo} (h : ¬ FewG g) (w : World) : Calls Try.prog 52 #[geoV g] w (MovV w (.bool false)) := by
  have HB := Lib.hid h
  clear h
  obtain ⟨s, l, n⟩ := g
  by_cases h1 : 8 ≤ s
  · by_cases h2 : s ≤ 1048576
    · by_cases h3 : -1048576 ≤ n
      · by_cases h4 : n ≤ 1048576
        · by_cases h5 : -1048576 ≤ l
          · by_cases h6 : l ≤ 1048576
            · exact absurd ⟨⟨h1, h2⟩, ⟨h3, h4⟩, h5, h6⟩ HB.out
            · go_enter Try.func52, Try.ntmps52
              go_wp2
              go_ret
              exact ⟨rfl, (Moves.refl _ w).alloc _⟩
          · go_enter Try.func52, Try.ntmps52
            go_wp2
            go_ret
            exact ⟨rfl, (Moves.refl _ w).alloc _⟩
        · go_enter Try.func52, Try.ntmps52
          go_wp2
          go_ret
          exact ⟨rfl, (Moves.refl _ w).alloc _⟩
      · go_enter Try.func52, Try.ntmps52
        go_wp2
        go_ret
        exact ⟨rfl, (Moves.refl _ w).alloc _⟩
    · go_enter Try.func52, Try.ntmps52
      go_wp2
      go_ret
      exact ⟨rfl, (Moves.refl _ w).alloc _⟩
  · go_enter Try.func52, Try.ntmps52
    go_wp2
    go_ret
    exact ⟨rfl, (Moves.refl _ w).alloc _⟩
set_option maxRecDepth 100000 in
set_option maxHeartbeats 2000000 in
theorem of4_any (g : Geo) (w : World) : Calls Try.prog 54 #[geoV g] w (MovV w (geoV g)) := by
  obtain ⟨s, l, n⟩ := g
  go_enter Try.func54, Try.ntmps54
  go_wp2
  exact bodyPost_ret (v := geoV ⟨s, l, n⟩) (by simp [results, Try.results54, go_sem]) rfl ⟨rfl, ((Moves.refl _ w).alloc _).alloc _⟩
theorem per_of {s : Int} (h : s % 8 = 0) (n : Int) : (n * 8 + s - 1) / s = (n + s / 8 - 1) / (s / 8) := by
  obtain ⟨p, hp⟩ : ∃ p, s = p * 8 := ⟨s / 8, by omega⟩
  subst hp
  rw [per_eq, Int.mul_ediv_cancel _ (by decide)]
set_option maxRecDepth 100000 in
set_option maxHeartbeats 2000000 in
theorem rone_ok {g : Geo} (h : NearG g) (h8 : g.sector % 8 = 0) (w : World) : Calls Try.prog 95 #[geoV g] w (MovV w (.int .i64 (oneG g))) := by
  obtain ⟨s, l, n⟩ := g
  obtain ⟨⟨a, b⟩, ⟨c, d⟩, e, f⟩ := h
  dsimp only at a b c d e f h8
  have he := per_of h8 n
  have hp : 8 ≤ s / 8 ∧ s / 8 ≤ 128 := by omega
  obtain ⟨hp1, hp2⟩ := hp
  have hq := div_64 (n := n) (b := s / 8) (by omega) (by omega) (by omega) (by omega)
  have hr : 0 ≤ (n + 31) / 32 ∧ (n + 31) / 32 ≤ 10000 := by omega
  have HE : Hid (wrap64 ((n + s / 8 - 1) / (s / 8) + (n + 31) / 32) = oneG ⟨s, l, n⟩) := by
    rw [w64 (by omega) (by omega)]
    unfold oneG
    rw [he]
    rfl
  have e8 : IntKind.i64.wrap (n + 31) = n + 31 := IntWalk.i64_in _ (by omega)
  have e9 : s.tdiv 8 = s / 8 := Int.tdiv_eq_ediv_of_nonneg (by omega)
  have HE9 := Lib.hid e9
  generalize hy : oneG ⟨s, l, n⟩ = y at HE ⊢
  clear he hq hr h8 hy e9
  go_enter Try.func95, Try.ntmps95
  go_wp2
  generalize s / 8 = q at HE hp1 hp2 ⊢
  have e7 : IntKind.i64.wrap (n + q) = n + q := IntWalk.i64_in _ (by omega)
  have e6 : IntKind.i64.wrap (n + q - 1) = n + q - 1 := IntWalk.i64_in _ (by omega)
  have p1 : 0 ≤ n + q - 1 := by omega
  have p2 : 0 ≤ n + 31 := by omega
  go_quiet (fail)
  go_wp2
  go_ret
  exact ⟨congrArg (fun x => Ending.returned (.int .i64 x)) HE.out, ((Moves.refl _ w).alloc _).drewN _⟩
set_option maxRecDepth 100000 in
set_option maxHeartbeats 2000000 in
theorem rsectors_ok {g : Geo} (h : NearG g) (h8 : g.sector % 8 = 0) (w : World) : Calls Try.prog 55 #[geoV g] w (MovV w (.int .i64 (secsG g))) := by
  have hO := oneG_le h
  have hlog := h.2.1
  have HC := Lib.hid (fun W => rone_ok h h8 W)
  have HE : Hid (IntKind.i64.wrap (IntKind.i64.wrap (2 + g.log) + IntKind.i64.wrap (2 * oneG g)) = secsG g) := by
    have e1 : IntKind.i64.wrap (2 + g.log) = 2 + g.log := IntWalk.i64_in _ (by omega)
    have e2 : IntKind.i64.wrap (2 * oneG g) = 2 * oneG g := IntWalk.i64_in _ (by omega)
    rw [e1, e2]
    exact IntWalk.i64_in _ (by omega)
  obtain ⟨s, l, n⟩ := g
  dsimp only at hlog HE hO
  generalize oneG ⟨s, l, n⟩ = x at HE hO HC
  generalize secsG ⟨s, l, n⟩ = z at HE ⊢
  clear h8
  go_enter Try.func55, Try.ntmps55
  go_wp2
  have hm := (Moves.refl (fun _ => False) w).alloc (.cells #[.int .i64 s, .int .i64 l, .int .i64 n] 47)
  have hb := cells3 (heap_alloc_new w (.cells #[.int .i64 s, .int .i64 l, .int .i64 n] 47))
  generalize w.alloc (.cells #[.int .i64 s, .int .i64 l, .int .i64 n] 47) = W at hm hb ⊢
  obtain ⟨hb0, hb1, hb2⟩ := hb
  generalize w.heap.size = gb at hb0 hb1 hb2 ⊢
  have HN : Hid (∀ w', KpS W w' → KpS W w' ∧ w'.cell? ⟨gb, 0, none⟩ = some (.int .i64 s) ∧ w'.cell? ⟨gb, 1, none⟩ = some (.int .i64 l) ∧ w'.cell? ⟨gb, 2, none⟩ = some (.int .i64 n)) := Lib.hid fun w' hk => ⟨hk, hk.cell hb0, hk.cell hb1, hk.cell hb2⟩
  have HM := Lib.hid hm
  have hK0 := KpS.refl W
  clear hm
  go_region_held3 (fun w' => KpS W w' ∧ w'.cell? ⟨gb, 0, none⟩ = some (.int .i64 s) ∧ w'.cell? ⟨gb, 1, none⟩ = some (.int .i64 l) ∧ w'.cell? ⟨gb, 2, none⟩ = some (.int .i64 n)) (first | exact hS' | exact HN.out _ hK0 | assumption | go_keep)
    (first
      | (go_at_call 95; refine (HC.out _).mono ?_; rintro e w' ⟨rfl, hl⟩; have hS' := HN.out _ (KpS.of ((KpS.moves (And.left (by assumption))).trans hl)))
      | fail)
  go_wp2
  go_ret
  exact ⟨congrArg (fun x => Ending.returned (.int .i64 x)) HE.out, HM.out.drew.trans hl⟩
set_option maxRecDepth 100000 in
set_option maxHeartbeats 2000000 in
theorem rcheck_bad' {g : Geo} (h : ¬ GoodG g) (w : World) : Calls Try.prog 53 #[geoV g] w (MovV w (.int .i64 1)) := by
  have HB := Lib.hid h
  have HS := Lib.hid (fun W hn h8 => rsectors_ok (g := g) hn h8 W)
  clear h
  obtain ⟨s, l, n⟩ := g
  dsimp only at HS
  by_cases h1 : 64 ≤ s
  · by_cases h2 : s ≤ 1024
    · by_cases h3 : s % 8 = 0
      · by_cases h4 : 8 ≤ l
        · by_cases h5 : l ≤ 1024
          · by_cases h6 : 64 ≤ n
            · by_cases h7 : n ≤ 8192
              · have hb : 16384 < secsG ⟨s, l, n⟩ := by
                  by_cases q : 16384 < secsG ⟨s, l, n⟩
                  · exact q
                  · exact absurd ⟨⟨h1, h2, h3⟩, ⟨h4, h5, h6, h7⟩, Int.not_lt.1 q⟩ HB.out
                have HSS := Lib.hid (fun W => HS.out W ⟨⟨h1, h2⟩, ⟨by show 0 ≤ l; omega, h5⟩, by show 0 ≤ n; omega, h7⟩ h3)
                have h3' : (s % 8 != 0) = false := by simpa using h3
                clear h3 HS
                generalize secsG ⟨s, l, n⟩ = z at hb HSS
                go_enter Try.func53, Try.ntmps53
                go_wp2_with (first | (go_at_call 55; refine (HSS.out _).mono ?_; rintro e w1 ⟨rfl, hm⟩) | fail)
                go_ret
                exact ⟨rfl, ((Moves.refl _ w).alloc _).trans hm⟩
              · have h3' : (s % 8 != 0) = false := by simpa using h3
                clear h3
                go_enter Try.func53, Try.ntmps53
                go_wp2
                go_ret
                exact ⟨rfl, (Moves.refl _ w).alloc _⟩
            · have h3' : (s % 8 != 0) = false := by simpa using h3
              clear h3
              go_enter Try.func53, Try.ntmps53
              go_wp2
              go_ret
              exact ⟨rfl, (Moves.refl _ w).alloc _⟩
          · have h3' : (s % 8 != 0) = false := by simpa using h3
            clear h3
            go_enter Try.func53, Try.ntmps53
            go_wp2
            go_ret
            exact ⟨rfl, (Moves.refl _ w).alloc _⟩
        · have h3' : (s % 8 != 0) = false := by simpa using h3
          clear h3
          go_enter Try.func53, Try.ntmps53
          go_wp2
          go_ret
          exact ⟨rfl, (Moves.refl _ w).alloc _⟩
      · have h3' : (s % 8 != 0) = true := by simpa using h3
        clear h3
        go_enter Try.func53, Try.ntmps53
        go_wp2
        go_ret
        exact ⟨rfl, (Moves.refl _ w).alloc _⟩
    · go_enter Try.func53, Try.ntmps53
      go_wp2
      go_ret
      exact ⟨rfl, (Moves.refl _ w).alloc _⟩
  · go_enter Try.func53, Try.ntmps53
    go_wp2
    go_ret
    exact ⟨rfl, (Moves.refl _ w).alloc _⟩
set_option maxRecDepth 100000 in
set_option maxHeartbeats 2000000 in
theorem rcheck_ok {g : Geo} (h : GoodG g) (w : World) : Calls Try.prog 53 #[geoV g] w (MovV w (.int .i64 0)) := by
  have HSS := Lib.hid (fun W => rsectors_ok h.near h.1.2.2 W)
  obtain ⟨s, l, n⟩ := g
  obtain ⟨⟨h1, h2, h3⟩, ⟨h4, h5, h6, h7⟩, hb⟩ := h
  dsimp only at h1 h2 h3 h4 h5 h6 h7
  have h3' : (s % 8 != 0) = false := by simpa using h3
  clear h3
  generalize secsG ⟨s, l, n⟩ = z at hb HSS
  go_enter Try.func53, Try.ntmps53
  go_wp2_with (first | (go_at_call 55; refine (HSS.out _).mono ?_; rintro e w1 ⟨rfl, hm⟩) | fail)
  go_ret
  exact ⟨rfl, ((Moves.refl _ w).alloc _).trans hm⟩
theorem rcheck_bad {g : Geo} (_ : FewG g) (h : ¬ GoodG g) (w : World) : Calls Try.prog 53 #[geoV g] w (MovV w (.int .i64 1)) := rcheck_bad' h w
end Go.Proofs.Ytnagpianaghjeaa.Sl
