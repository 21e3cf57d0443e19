/-
  The walk of CachePins: pages that are pinned never go; when all are, no other one comes; let go, one does.
-/
import Derived.Test.YtbfnmgjpkieaoaaCPinsPlain
import Derived.Test.YtbfnmgjpkieaoaaOpen
namespace Go.Proofs.Ytbfnmgjpkieaoaa
open Go Go.RowKit Go.Maps Go.Sort Go.Proofs

theorem iw_small {x : Int} (h0 : 0 ≤ x) (h1 : x ≤ 10000) : wf2 (0, x) := by
  refine ⟨(by decide : iw 0), ?_⟩
  show (Lit.int .i64 x).wf = true
  simp [Lit.wf, IntKind.min, IntKind.max, IntKind.signed, IntKind.bits]; omega
abbrev pinF (i : Nat) : FrS := { key := (0, (i : Int)), data := [], here := true, dirty := true, mark := true, pins := 0 }
theorem pins_put {wr : World} {base p lb m n i : Nat} {pins : List Bool} {fs : List FrS} (h : IsCache wr base p lb m fs 0) (hk : P1 n i pins fs) (hi : i < n) (hn : n ≤ 64) :
    Calls Try.prog 27 #[.pointer (some ⟨p, 0, none⟩), encK (0, (i : Int)), .slice none 0 0, .bool true] wr (CPost wr base p lb m (fs.set i (pinF i)) 0 (.tuple #[noOut, .int .i64 0])) :=
  put_c_new (k := (0, (i : Int))) (bs := []) (dirty := true) h (iw_small (by omega) (by omega)) hk.fresh (hk.empty hi) (nil_row wr) (by simp) (fun k hk => hk.elim)
theorem pins_full {wr : World} {base p lb m n K hand : Nat} {pins : List Bool} {fs : List FrS} (h : IsCache wr base p lb m fs hand) (g : PG n 0 pins fs) (hn : n ≤ 64) (hall : ∀ j, j < n → pins.getD j false = true) (hK : K ≤ 200) :
    Calls Try.prog 27 #[.pointer (some ⟨p, 0, none⟩), encK (0, 1000 + (K : Int)), .slice none 0 0, .bool false] wr (CVal wr (.tuple #[noOut, .int .i64 6])) :=
  put_c_full (k := (0, 1000 + (K : Int))) h (iw_small (by omega) (by omega)) (g.fresh hn (by simp; omega)) (all_here fun j f hf => (g.all j f hf).1) (List.any_eq_false.2 (fun f hf => by
    obtain ⟨j, hj, rfl⟩ := List.getElem_of_mem hf
    have := ((g.all j _ (List.getElem?_eq_getElem hj)).2.2.1 (hall j (by rw [← g.len]; exact hj))).2.1
    simp [this]))
def PinMore (w : World) (base p lb m n K : Nat) (pins : List Bool) (e : Ending) (w' : World) : Prop := ∃ x z A c l d fs h', e = .returned (.tuple #[.agg #[.int .i64 x, .int .i64 z, .slice A l c, .bool d, .bool true], .int .i64 0]) ∧ ((∃ j : Nat, j < n ∧ z = j ∧ pins.getD j false = false) ∨ 1000 ≤ z) ∧ IsCache w' base p lb m fs h' ∧ PG n (K + 1) pins fs ∧ Prog n (K + 1) pins fs h' ∧ Moves (COwn p lb m) w w'
theorem pins_more {wr : World} {base p lb m n K hand : Nat} {pins : List Bool} {fs : List FrS} (h : IsCache wr base p lb m fs hand) (g : PG n K pins fs) (pr : Prog n K pins fs hand) (hn : n ≤ 64) (hex : ∃ j, j < n ∧ pins.getD j false = false) (hK : K ≤ 200) :
    Calls Try.prog 27 #[.pointer (some ⟨p, 0, none⟩), encK (0, 1000 + (K : Int)), .slice none 0 0, .bool false] wr (PinMore wr base p lb m n K pins) := by
  obtain ⟨u, hu, hup⟩ := hex
  have hul : u < fs.length := by rw [g.len]; exact hu
  refine (put_c_evict (k := (0, 1000 + (K : Int))) (bs := []) (dirty := false) h (iw_small (by omega) (by omega)) (g.fresh hn (by simp)) (all_here fun j f hf => (g.all j f hf).1) (u := u) hul ((g.all u _ (List.getElem?_eq_getElem hul)).2.2.2 hup).1 (fun f hf => ?_) (nil_row wr) (by simp) (fun k hk => hk.elim)).mono ?_
  · obtain ⟨j, hj, rfl⟩ := List.getElem_of_mem hf
    have := g.all j _ (List.getElem?_eq_getElem hj)
    cases hp : pins.getD j false with
    | true => rw [(this.2.2.1 hp).2.1]; decide
    | false => rw [(this.2.2.2 hp).1]; decide
  · rintro e w' ⟨i, fs', h', f, v, hsw, hf, he, ⟨A, c, hv, -⟩, hc, hm⟩
    subst hv
    obtain ⟨f0, hf0, hp0, -⟩ := hsw.at_
    rw [hf] at hf0
    cases hf0
    have g' := g.sweep hsw
    have hpi := g'.free hf hp0
    have hil := (List.getElem?_eq_some_iff.1 hf).1
    refine ⟨f.key.1, f.key.2, A, c, _, f.dirty, _, h', he, ?_, hc, g'.put hpi rfl rfl rfl, pr.next g hsw rfl, hm⟩
    rcases ((g'.all i f hf).2.2.2 hpi).2 with h1 | h1
    · exact .inl ⟨i, by rw [← g'.len]; exact hil, h1, hpi⟩
    · exact .inr h1.1

set_option maxRecDepth 100000 in
set_option maxHeartbeats 4000000 in
theorem pins_off (a0 : Int) {v1 : Value} {asked : List Bool} (w : World) {L : Nat → Prop} (hr : Row w L v1 (asked.map .bool)) (hbad : a0 < 1 ∨ 64 < a0 ∨ (asked.length : Int) < a0 ∨ 100 < asked.length) : Calls Try.prog 6 #[.int .i64 a0, v1] w (CVal w (.bool true)) := by
  obtain ⟨A, c, rfl, -, -⟩ := hr
  rw [List.length_map]
  have HK := Lib.hid (known_c w)
  by_cases h1 : a0 < 1
  · clear hbad
    go_enter Try.func6, Try.ntmps6
    go_wp2_with fail
    refine HK.out.mono ?_
    rintro e w1 ⟨rfl, hm1⟩
    go_wp2
    go_ret
    exact ⟨rfl, hm1⟩
  by_cases h2 : 64 < a0
  · clear hbad
    go_enter Try.func6, Try.ntmps6
    go_wp2_with fail
    refine HK.out.mono ?_
    rintro e w1 ⟨rfl, hm1⟩
    go_wp2
    go_ret
    exact ⟨rfl, hm1⟩
  by_cases h3 : (asked.length : Int) < a0
  · clear hbad
    go_enter Try.func6, Try.ntmps6
    go_wp2_with fail
    refine HK.out.mono ?_
    rintro e w1 ⟨rfl, hm1⟩
    go_wp2
    go_ret
    exact ⟨rfl, hm1⟩
  · have h4 : (100 : Int) < (asked.length : Int) := by omega
    clear hbad
    go_enter Try.func6, Try.ntmps6
    go_wp2_with fail
    refine HK.out.mono ?_
    rintro e w1 ⟨rfl, hm1⟩
    go_wp2
    go_ret
    exact ⟨rfl, hm1⟩

def GonePost (w : World) (p lb m : Nat) (e : Ending) (w' : World) : Prop := ∃ A c l, e = .returned (.tuple #[.agg #[.int .i64 0, .int .i64 0, .slice A l c, .bool true, .bool true], .int .i64 0]) ∧ Moves (COwn p lb m) w w'
/-- One page let go: it is the one that goes. -/
theorem pins_let {wr : World} {base p lb m n : Nat} {pins : List Bool} {fs : List FrS} {f0 : FrS} (h : IsCache wr base p lb m (fs.set 0 { f0 with pins := 0 }) 0) (g : PG n 0 pins fs) (hf0 : fs[0]? = some f0) (hn : n ≤ 64) (hall : ∀ j, j < n → pins.getD j false = true) :
    Calls Try.prog 27 #[.pointer (some ⟨p, 0, none⟩), encK (0, 5000), .slice none 0 0, .bool false] wr (GonePost wr p lb m) := by
  have h0 := (List.getElem?_eq_some_iff.1 hf0).1
  have hl := g.len
  have back : ∀ (j : Nat) (x : FrS), (fs.set 0 { f0 with pins := 0 })[j]? = some x → x.here = true ∧ x.key = (0, (j : Int)) ∧ x.dirty = true ∧ ((j = 0 ∧ x.pins = 0) ∨ (j ≠ 0 ∧ x.pins = 1)) := fun j x hx => by
    by_cases e : 0 = j
    · subst e
      rw [List.getElem?_set_self h0] at hx
      cases hx
      obtain ⟨b1, b2, -, b4⟩ := g.key hf0 (hall 0 (by omega))
      exact ⟨b1, b2, b4, .inl ⟨rfl, rfl⟩⟩
    · rw [List.getElem?_set_ne e] at hx
      have hj := (List.getElem?_eq_some_iff.1 hx).1
      obtain ⟨b1, b2, b3, b4⟩ := g.key hx (hall j (by omega))
      exact ⟨b1, b2, b4, .inr ⟨fun e' => e e'.symm, b3⟩⟩
  have h0' : 0 < (fs.set 0 { f0 with pins := 0 }).length := by rw [List.length_set]; exact h0
  refine (put_c_evict (k := (0, 5000)) (bs := []) (dirty := false) h (by decide) (fun j f hf hh e => ?_) (all_here fun j f hf => (back j f hf).1) (u := 0) h0' (by rw [List.getElem_set_self]) (fun f hf => ?_) (nil_row wr) (by simp) (fun k hk => hk.elim)).mono ?_
  · have hj := (List.getElem?_eq_some_iff.1 hf).1
    rw [List.length_set] at hj
    rw [(back j f hf).2.1] at e
    have := congrArg Prod.snd e
    simp at this
    omega
  · obtain ⟨j, hj, rfl⟩ := List.getElem_of_mem hf
    rcases (back j _ (List.getElem?_eq_getElem hj)).2.2.2 with h | h <;> rw [h.2] <;> decide
  · rintro e w' ⟨i, fs', h', f, v, hsw, hf, he, ⟨A, c, hv, -⟩, hc, hm⟩
    subst hv
    obtain ⟨f1, hf1, hp1, -⟩ := hsw.at_
    rw [hf] at hf1
    cases hf1
    obtain ⟨y, hy, e1, e2, e3, e4, e5⟩ := hsw.keeps.2 i f hf
    obtain ⟨-, c2, c3, c4⟩ := back i y hy
    have hi0 : i = 0 := by
      rcases c4 with h | h
      · exact h.1
      · omega
    subst hi0
    rw [e1, c2, e5, c3] at he
    exact ⟨A, c, _, he, hm⟩

set_option maxRecDepth 100000 in
set_option maxHeartbeats 8000000 in
theorem pins_on {n : Nat} {v1 : Value} {pins : List Bool} (w : World) (hr : Row w (fun i => i < w.heap.size) v1 (pins.map .bool)) (hn : 1 ≤ n ∧ n ≤ 64) (hl : n ≤ pins.length ∧ pins.length ≤ 100) : Calls Try.prog 6 #[.int .i64 n, v1] w (CVal w (.bool true)) := by
  obtain ⟨A, c, rfl, -, hx⟩ := hr
  rw [List.length_map] at hx ⊢
  obtain ⟨g, o, rfl, hgl, -, hcell⟩ := hx (by omega)
  have HK := Lib.hid (known_c w)
  have HCELL : Hid (∀ j, j < pins.length → w.cell? ⟨g, o + j, none⟩ = some (.bool (pins.getD j false))) := Lib.hid (fun j hj => hcell j _ (by
    rw [List.getElem?_map, List.getElem?_eq_getElem hj, List.getD_eq_getElem?_getD, List.getElem?_eq_getElem hj]; rfl))
  have b1 : ¬ (n : Int) < 1 := by omega
  have b2 : ¬ (64 : Int) < (n : Int) := by omega
  have b3 : ¬ (pins.length : Int) < (n : Int) := by omega
  have b4 : ¬ (100 : Int) < (pins.length : Int) := by omega
  clear hcell hx
  go_enter Try.func6, Try.ntmps6
  go_wp2_with fail
  refine HK.out.mono ?_
  rintro e w1 ⟨rfl, hm1⟩
  have HNEW := Lib.hid (new_c (n := n) hn w1)
  have HM1 := Lib.hid hm1
  clear HK hm1
  go_wp2_with fail
  refine HNEW.out.mono ?_
  rintro e w2 ⟨p, lb, m, rfl, h2, hm2⟩
  have H2 := Lib.hid (And.intro h2 (HM1.out.trans hm2))
  have HB : Hid (w.heap.size ≤ w1.heap.size) := Lib.hid HM1.out.size
  clear h2 hm2 HNEW HM1
  go_wp2_with fail
  go_loopg [7, 8] n (fun gg s7 s8 wr => ∃ i : Nat, i ≤ n ∧ gg = n - i ∧ s8 = .int .i64 i ∧ s7 = .int .i64 (cnt pins i : Nat) ∧ Hid (∃ fs, IsCache wr w1.heap.size p lb m fs 0 ∧ P1 n i pins fs ∧ Moves (fun _ => False) w wr))
  case atStart => exact ⟨0, Nat.zero_le _, rfl, rfl, rfl, Lib.hid ⟨_, H2.out.1, P1.start n pins, H2.out.2⟩⟩
  case round =>
    obtain ⟨i, hi, rfl, rfl, rfl, HI⟩ := hrel
    by_cases hlt : i < n
    · have hlz : (i : Int) < (n : Int) := by omega
      have hi0 : (0 : Int) ≤ (i : Int) := by omega
      have hi9 : (i : Int) < (pins.length : Int) := by omega
      obtain ⟨fs, hc, hk, hM⟩ := HI.out
      have hcs := cnt_step pins i
      have hcl := cnt_le pins i
      have HCS := Lib.hid hcs
      have hc64 : (cnt pins i : Int) ≤ 64 := by omega
      have HPUT := Lib.hid (pins_put hc hk hlt hn.2)
      have HC := Lib.hid (And.intro hc (And.intro hk hM))
      clear hc hk hM HI hcs hcl
      go_wp2_with fail
      refine HPUT.out.mono ?_
      rintro e w3 ⟨rfl, hc3, hm3⟩
      have hM3 := HC.out.1.beyond HB.out HC.out.2.2 hm3
      have q0 : w3.cell? ⟨g, o + i, none⟩ = some (.bool (pins.getD i false)) := (hM3.cell (p := ⟨g, o + i, none⟩) hgl (fun h => h)).trans (HCELL.out i (by omega))
      have hil : i < fs.length := by rw [HC.out.2.1.len]; exact hlt
      have H3 := Lib.hid (And.intro hc3 hM3)
      clear hc3 hm3 hM3 HPUT
      cases hp : pins.getD i false with
      | true =>
        rw [hp] at q0 HCS
        have HPIN := Lib.hid (pin_hit (i := i) (f := pinF i) (k := (0, (i : Int))) H3.out.1 (List.getElem?_set_self hil) rfl rfl ⟨Int.le_refl 0, (by decide : (0 : Int) ≤ 1000000)⟩)
        have HP1 := Lib.hid (HC.out.2.1.step (f := { pinF i with pins := (pinF i).pins + 1 }) rfl rfl rfl rfl (by rw [hp]; rfl))
        clear hp hil
        generalize cnt pins i = ci at HCS hc64 ⊢
        go_wp2_with fail
        refine HPIN.out.mono ?_
        rintro e w4 ⟨rfl, hc4, hm4⟩
        rw [List.set_set] at hc4
        have H4 := Lib.hid (And.intro hc4 (And.intro HP1.out (H3.out.1.beyond HB.out H3.out.2 hm4)))
        clear hc4 hm4 HPIN
        go_wp2_with fail
        go_roundg (n - (i + 1))
        case measure => omega
        case rel => exact ⟨i + 1, by omega, rfl, by go_num, congrArg (Value.int IntKind.i64) (by have := HCS.out; simp at this; omega), Lib.hid ⟨_, H4.out.1, H4.out.2.1, H4.out.2.2⟩⟩
      | false =>
        rw [hp] at q0 HCS
        have HP1 := Lib.hid (HC.out.2.1.step (f := pinF i) rfl rfl rfl rfl (by rw [hp]; rfl))
        clear hp hil
        generalize cnt pins i = ci at HCS hc64 ⊢
        go_wp2_with fail
        go_roundg (n - (i + 1))
        case measure => omega
        case rel => exact ⟨i + 1, by omega, rfl, by go_num, congrArg (Value.int IntKind.i64) (by have := HCS.out; simp at this; omega), Lib.hid ⟨_, H3.out.1, HP1.out, H3.out.2⟩⟩
    · obtain rfl : i = n := by omega
      have hlz : ¬ (i : Int) < (i : Int) := by omega
      obtain ⟨fs, hc, hk, hM⟩ := HI.out
      obtain ⟨hg, hpr⟩ := PG.of hk
      have HC := Lib.hid (And.intro hc (And.intro hM (And.intro hg hpr)))
      clear hc hk hM hg hpr HI hi hlt H2
      have hcle := cnt_le pins i
      have hi2 : IntKind.i64.wrap (2 * (i : Int)) = 2 * (i : Int) := IntWalk.i64_in _ (by omega)
      by_cases hci : cnt pins i = i
      · -- all are pinned
        have HALL := Lib.hid (cnt_all hci)
        rw [hci]
        clear hcle hci
        go_wp2_with fail
        go_loopg [9] (2 * i) (fun gg s9 wq => ∃ k : Nat, k ≤ 2 * i ∧ gg = 2 * i - k ∧ s9 = .int .i64 k ∧ Hid (IsCache wq w1.heap.size p lb m fs 0 ∧ Moves (fun _ => False) w wq))
        case atStart => exact ⟨0, Nat.zero_le _, rfl, rfl, Lib.hid ⟨HC.out.1, HC.out.2.1⟩⟩
        case round =>
          obtain ⟨k, hk, rfl, rfl, HI⟩ := hrel
          by_cases hlt : k < 2 * i
          · have hkz : (k : Int) < 2 * (i : Int) := by omega
            have hk0 : (0 : Int) ≤ (k : Int) := by omega
            have hk9 : (k : Int) ≤ 128 := by omega
            have hkw : IntKind.i64.wrap (1000 + (k : Int)) = 1000 + (k : Int) := IntWalk.i64_in _ (by omega)
            have HPUT := Lib.hid (pins_full (K := k) HI.out.1 HC.out.2.2.1 hn.2 HALL.out (by omega))
            go_wp2_with fail
            refine HPUT.out.mono ?_
            rintro e w3 ⟨rfl, hm3⟩
            have H3 := Lib.hid (And.intro (HI.out.1.moves0 (hm3.alloc (.cells #[.int .i64 0, .int .i64 0, .slice none 0 0, .bool false, .bool false] 45))) ((HI.out.2.trans hm3).alloc (.cells #[.int .i64 0, .int .i64 0, .slice none 0 0, .bool false, .bool false] 45)))
            clear hm3 HPUT
            go_wp2_with fail
            go_roundg (2 * i - (k + 1))
            case measure => omega
            case rel => exact ⟨k + 1, by omega, rfl, by go_num, Lib.hid ⟨H3.out.1, H3.out.2⟩⟩
          · obtain rfl : k = 2 * i := by omega
            have hkz : ¬ ((2 * i : Nat) : Int) < 2 * (i : Int) := by omega
            go_wp2_with fail
            go_loopg [12] i (fun gg s12 wq => ∃ k : Nat, k ≤ i ∧ gg = i - k ∧ s12 = .int .i64 k ∧ Hid (∃ fs5, IsCache wq w1.heap.size p lb m fs5 0 ∧ PG i 0 pins fs5 ∧ Moves (fun _ => False) w wq))
            case atStart => exact ⟨0, Nat.zero_le _, rfl, rfl, Lib.hid ⟨fs, HI.out.1, HC.out.2.2.1, HI.out.2⟩⟩
            case round =>
              clear HI
              obtain ⟨k, hk, rfl, rfl, HI⟩ := hrel
              obtain ⟨fs5, hc, hg, hM⟩ := HI.out
              clear HI
              by_cases hlt : k < i
              · have hkz : (k : Int) < (i : Int) := by omega
                have hk0 : (0 : Int) ≤ (k : Int) := by omega
                have hk9 : (k : Int) < (pins.length : Int) := by omega
                have hkl : k < fs5.length := by rw [hg.len]; exact hlt
                have hfk := List.getElem?_eq_getElem hkl
                have hpk := HALL.out k hlt
                have HG := Lib.hid (get_hit (k := (0, (k : Int))) hc hfk (hg.key hfk hpk).1 (hg.key hfk hpk).2.1)
                have HC5 := Lib.hid (And.intro hc (And.intro (hg.mark hfk) (And.intro hM hpk)))
                clear hc hg hM hfk hpk
                go_wp2_with fail
                refine HG.out.mono ?_
                rintro e w5 ⟨v5, rfl, ⟨A5, c5, hv5, -⟩, hc5, hm5⟩
                subst hv5
                have hM5 := HC5.out.1.beyond HB.out HC5.out.2.2.1 hm5
                have q0 : w5.cell? ⟨g, o + k, none⟩ = some (.bool true) := by
                  rw [← HC5.out.2.2.2]
                  exact (hM5.cell (p := ⟨g, o + k, none⟩) hgl (fun h => h)).trans (HCELL.out k (by omega))
                have H5 := Lib.hid (And.intro hc5 hM5)
                clear hc5 hm5 hM5 HG
                go_wp2_with fail
                go_roundg (i - (k + 1))
                case measure => omega
                case rel => exact ⟨k + 1, by omega, rfl, by go_num, Lib.hid ⟨_, H5.out.1, HC5.out.2.1, H5.out.2⟩⟩
              · obtain rfl : k = i := by omega
                have hkz : ¬ (k : Int) < (k : Int) := by omega
                have h0l : 0 < fs5.length := by rw [hg.len]; exact hn.1
                have hf0 := List.getElem?_eq_getElem h0l
                generalize fs5[0] = f0 at hf0
                have hk0 := hg.key hf0 (HALL.out 0 hn.1)
                have hpin := hk0.2.2.1
                have HU := Lib.hid (unpin_hit (i := 0) (f := f0) (k := (0, 0)) hc hf0 hk0.1 hk0.2.1 (by rw [hpin]; decide))
                rw [hpin] at HU
                have HC5 := Lib.hid (And.intro hc (And.intro hg (And.intro hM hf0)))
                clear hc hg hM hf0 hk0 hpin hlt hk h0l
                go_wp2_with fail
                refine HU.out.mono ?_
                rintro e w6 ⟨rfl, hc6, hm6⟩
                have HLET := Lib.hid (pins_let (show IsCache w6 w1.heap.size p lb m (fs5.set 0 { f0 with pins := 0 }) 0 from hc6) HC5.out.2.1 HC5.out.2.2.2 hn.2 HALL.out)
                have H6 := Lib.hid (And.intro hc6 (HC5.out.1.beyond HB.out HC5.out.2.2.1 hm6))
                clear hc6 hm6 HU
                go_wp2_with fail
                refine HLET.out.mono ?_
                rintro e w7 ⟨A7, c7, l7, rfl, hm7⟩
                have HM7 := Lib.hid (H6.out.1.beyond HB.out H6.out.2 hm7)
                clear hm7 HLET
                go_wp2
                go_ret
                exact ⟨rfl, HM7.out.alloc _⟩
      · have HEX := Lib.hid (cnt_some (show cnt pins i < i by omega))
        have hcne : ¬ (cnt pins i : Int) = (i : Int) := by omega
        have hclt : (cnt pins i : Int) < (i : Int) := by omega
        have hcnb : ((cnt pins i : Int) == (i : Int)) = false := by simp; omega
        generalize cnt pins i = ci at hcne hclt hcnb ⊢
        clear hcle hci
        go_wp2_with fail
        go_loopg [9] (2 * i) (fun gg s9 wq => ∃ k : Nat, k ≤ 2 * i ∧ gg = 2 * i - k ∧ s9 = .int .i64 k ∧ Hid (∃ fs5 h5, IsCache wq w1.heap.size p lb m fs5 h5 ∧ PG i k pins fs5 ∧ Prog i k pins fs5 h5 ∧ Moves (fun _ => False) w wq))
        case atStart => exact ⟨0, Nat.zero_le _, rfl, rfl, Lib.hid ⟨fs, 0, HC.out.1, HC.out.2.2.1, HC.out.2.2.2, HC.out.2.1⟩⟩
        case round =>
          obtain ⟨k, hk, rfl, rfl, HI⟩ := hrel
          obtain ⟨fs5, h5, hc, hg, hpr, hM⟩ := HI.out
          clear HI HC
          by_cases hlt : k < 2 * i
          · have hkz : (k : Int) < 2 * (i : Int) := by omega
            have hk0 : (0 : Int) ≤ (k : Int) := by omega
            have hk9 : (k : Int) ≤ 128 := by omega
            have hkw : IntKind.i64.wrap (1000 + (k : Int)) = 1000 + (k : Int) := IntWalk.i64_in _ (by omega)
            have HPUT := Lib.hid (pins_more (K := k) hc hg hpr hn.2 HEX.out (by omega))
            have HC5 := Lib.hid (And.intro hc hM)
            clear hc hg hpr hM
            go_wp2_with fail
            refine HPUT.out.mono ?_
            rintro e w3 ⟨x3, z3, A3, c3, l3, d3, fs6, h6, rfl, hz, hc3, hg3, hp3, hm3⟩
            have hM3 := HC5.out.1.beyond HB.out HC5.out.2 hm3
            have H3 := Lib.hid (And.intro (hc3.moves0 ((Moves.refl _ w3).alloc (.cells #[.int .i64 x3, .int .i64 z3, .slice A3 l3 c3, .bool d3, .bool true] 45))) (And.intro hg3 (And.intro hp3 (hM3.alloc (.cells #[.int .i64 x3, .int .i64 z3, .slice A3 l3 c3, .bool d3, .bool true] 45)))))
            clear hc3 hg3 hp3 hm3 HPUT HC5
            rcases hz with ⟨j, hj, rfl, hpj⟩ | hz
            · have hj1 : (j : Int) < (i : Int) := by omega
              have hj2 : (0 : Int) ≤ (j : Int) := by omega
              have hj3 : (j : Int) < (pins.length : Int) := by omega
              have q0 : (w3.alloc (.cells #[.int .i64 x3, .int .i64 (j : Int), .slice A3 l3 c3, .bool d3, .bool true] 45)).cell? ⟨g, o + j, none⟩ = some (.bool false) := by
                rw [← hpj]
                exact ((hM3.alloc _).cell (p := ⟨g, o + j, none⟩) hgl (fun h => h)).trans (HCELL.out j (by omega))
              clear hM3 hpj
              go_wp2_with fail
              go_roundg (2 * i - (k + 1))
              case measure => omega
              case rel => exact ⟨k + 1, by omega, rfl, by go_num, Lib.hid ⟨fs6, h6, H3.out.1, H3.out.2.1, H3.out.2.2.1, H3.out.2.2.2⟩⟩
            · have hj1 : ¬ z3 < (i : Int) := by omega
              clear hM3
              go_wp2_with fail
              go_roundg (2 * i - (k + 1))
              case measure => omega
              case rel => exact ⟨k + 1, by omega, rfl, by go_num, Lib.hid ⟨fs6, h6, H3.out.1, H3.out.2.1, H3.out.2.2.1, H3.out.2.2.2⟩⟩
          · obtain rfl : k = 2 * i := by omega
            have hkz : ¬ ((2 * i : Nat) : Int) < 2 * (i : Int) := by omega
            have HC5 := Lib.hid (And.intro hc (And.intro hg (And.intro (hpr.done (by omega) hn.1) hM)))
            clear hc hg hpr hM
            go_wp2_with fail
            go_loopg [12] i (fun gg s12 wq => ∃ k : Nat, k ≤ i ∧ gg = i - k ∧ s12 = .int .i64 k ∧ Hid (∃ fs5, IsCache wq w1.heap.size p lb m fs5 h5 ∧ PG i (2 * i) pins fs5 ∧ AllNew pins fs5 ∧ Moves (fun _ => False) w wq))
            case atStart => exact ⟨0, Nat.zero_le _, rfl, rfl, Lib.hid ⟨fs5, HC5.out.1, HC5.out.2.1, HC5.out.2.2.1, HC5.out.2.2.2⟩⟩
            case round =>
              clear HC5
              obtain ⟨k, hk, rfl, rfl, HI⟩ := hrel
              obtain ⟨fs7, hc, hg, hnew, hM⟩ := HI.out
              clear HI
              by_cases hlt : k < i
              · have hkz : (k : Int) < (i : Int) := by omega
                have hk0 : (0 : Int) ≤ (k : Int) := by omega
                have hk9 : (k : Int) < (pins.length : Int) := by omega
                cases hp : pins.getD k false with
                | true =>
                  have hkl : k < fs7.length := by rw [hg.len]; exact hlt
                  have hfk := List.getElem?_eq_getElem hkl
                  have HG := Lib.hid (get_hit (k := (0, (k : Int))) hc hfk (hg.key hfk hp).1 (hg.key hfk hp).2.1)
                  have HC5 := Lib.hid (And.intro hc (And.intro (hg.mark hfk) (And.intro (hnew.mark hfk) (And.intro hM hp))))
                  clear hc hg hnew hM hfk hp
                  go_wp2_with fail
                  refine HG.out.mono ?_
                  rintro e w5 ⟨v5, rfl, ⟨A5, c5, hv5, -⟩, hc5, hm5⟩
                  subst hv5
                  have hM5 := HC5.out.1.beyond HB.out HC5.out.2.2.2.1 hm5
                  have q0 : w5.cell? ⟨g, o + k, none⟩ = some (.bool true) := by
                    rw [← HC5.out.2.2.2.2]
                    exact (hM5.cell (p := ⟨g, o + k, none⟩) hgl (fun h => h)).trans (HCELL.out k (by omega))
                  have H5 := Lib.hid (And.intro hc5 hM5)
                  clear hc5 hm5 hM5 HG
                  go_wp2_with fail
                  go_roundg (i - (k + 1))
                  case measure => omega
                  case rel => exact ⟨k + 1, by omega, rfl, by go_num, Lib.hid ⟨_, H5.out.1, HC5.out.2.1, HC5.out.2.2.1, H5.out.2⟩⟩
                | false =>
                  have HG := Lib.hid (get_miss (k := (0, (k : Int))) hc (iw_small (by omega) (by omega)) (hg.gone hnew hlt hn.2 hp))
                  have HC5 := Lib.hid (And.intro hc (And.intro hg (And.intro hnew (And.intro hM hp))))
                  clear hc hg hnew hM hp
                  go_wp2_with fail
                  refine HG.out.mono ?_
                  rintro e w5 ⟨rfl, hm5⟩
                  have hM5 := HC5.out.2.2.2.1.trans hm5
                  have q0 : w5.cell? ⟨g, o + k, none⟩ = some (.bool false) := by
                    rw [← HC5.out.2.2.2.2]
                    exact (hM5.cell (p := ⟨g, o + k, none⟩) hgl (fun h => h)).trans (HCELL.out k (by omega))
                  have H5 := Lib.hid (And.intro (HC5.out.1.moves0 hm5) hM5)
                  clear hm5 hM5 HG
                  go_wp2_with fail
                  go_roundg (i - (k + 1))
                  case measure => omega
                  case rel => exact ⟨k + 1, by omega, rfl, by go_num, Lib.hid ⟨_, H5.out.1, HC5.out.2.1, HC5.out.2.2.1, H5.out.2⟩⟩
              · obtain rfl : k = i := by omega
                have hkz : ¬ (k : Int) < (k : Int) := by omega
                have HLN : Hid (Calls Try.prog 29 #[.pointer (some ⟨p, 0, none⟩)] wr (SameP wr (.int .i64 k))) := Lib.hid (by
                  have h := len_c hc
                  rw [all_count (fun j f hf => (hg.all j f hf).1), hg.len] at h
                  exact h)
                have HM := Lib.hid hM
                clear hc hg hnew hM hlt hk
                go_wp2_with fail
                refine HLN.out.mono ?_
                rintro e w8 ⟨rfl, rfl⟩
                go_wp2
                go_ret
                exact ⟨rfl, HM.out⟩

theorem cache_pins (a0 : Int) {v1 : Value} {pins : List Bool} (w : World) (hr : Row w (fun i => i < w.heap.size) v1 (pins.map .bool)) : Calls Try.prog 6 #[.int .i64 a0, v1] w (CVal w (.bool true)) := by
  by_cases hbad : a0 < 1 ∨ 64 < a0 ∨ (pins.length : Int) < a0 ∨ 100 < pins.length
  · exact pins_off a0 w hr hbad
  · obtain ⟨n, rfl⟩ : ∃ n : Nat, a0 = n := ⟨a0.toNat, by omega⟩
    exact pins_on w hr (by omega) (by omega)
end Go.Proofs.Ytbfnmgjpkieaoaa
