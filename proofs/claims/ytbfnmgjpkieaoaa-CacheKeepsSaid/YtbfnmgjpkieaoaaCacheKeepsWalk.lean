/-
  The walk of CacheKeeps: as many pages as there are frames are held; one more, and just one goes.
-/
import Derived.Test.YtbfnmgjpkieaoaaCKeepsPlain
import Derived.Test.YtbfnmgjpkieaoaaOpen
namespace Go.Proofs.Ytbfnmgjpkieaoaa
open Go Go.RowKit Go.Maps Go.Sort Go.Proofs

def NewPost (w : World) (base p lb m n i : Nat) (e : Ending) (w' : World) : Prop := ∃ fs, e = .returned (.tuple #[noOut, .int .i64 0]) ∧ IsCache w' base p lb m fs 0 ∧ K1 n i fs ∧ Moves (COwn p lb m) w w'
theorem keeps_put {wr : World} {base p lb m n i : Nat} {fs : List FrS} (h : IsCache wr base p lb m fs 0) (hk : K1 n i fs) (hi : i < n) (hn : n ≤ 64) (b : Int) :
    Calls Try.prog 27 #[.pointer (some ⟨p, 0, none⟩), encK (0, (i : Int)), .slice (some ⟨wr.heap.size, 0, none⟩) 1 1, .bool false] (wr.alloc (.cells #[.int .u8 b] 5)) (NewPost (wr.alloc (.cells #[.int .u8 b] 5)) base p lb m n (i + 1)) := by
  have hm := (Moves.refl (fun _ => False) wr).alloc (.cells #[.int .u8 b] 5)
  have hb := heap_alloc_new wr (.cells #[.int .u8 b] 5)
  have h1 := h.moves0 hm
  refine (put_c_new (k := (0, (i : Int))) (bs := [b]) (dirty := false) h1 ⟨(by decide : iw 0), ?_⟩ (hk.fresh fun j hj e => ?_) (hk.empty hi) (byte_row hb) (by simp) (fun k hk _ => by subst hk; exact h1.far hb (by decide) (by decide))).mono ?_
  · show (Lit.int .i64 (i : Int)).wf = true
    simp [Lit.wf, IntKind.min, IntKind.max, IntKind.signed, IntKind.bits]; omega
  · have := congrArg Prod.snd e
    simp at this
    omega
  · rintro e w' ⟨he, hc, hm'⟩
    exact ⟨_, he, hc, hk.step rfl rfl rfl rfl, hm'⟩

def MorePost (w : World) (base p lb m n : Nat) (asked : List Bool) (e : Ending) (w' : World) : Prop := ∃ A c l d fs, e = .returned (.tuple #[.agg #[.int .i64 0, .int .i64 0, .slice A l c, .bool d, .bool true], .int .i64 0]) ∧ IsCache w' base p lb m fs (1 % n) ∧ K3 n 1 asked fs ∧ Moves (COwn p lb m) w w'
theorem keeps_more {wr : World} {base p lb m n : Nat} {fs : List FrS} (h : IsCache wr base p lb m fs 0) (hk : K1 n n fs) (hn : 1 ≤ n) (asked : List Bool) :
    Calls Try.prog 27 #[.pointer (some ⟨p, 0, none⟩), encK (0, 100), .slice none 0 0, .bool false] wr (MorePost wr base p lb m n asked) := by
  have hl := hk.len
  have hall : ∀ (j : Nat) (f : FrS), fs[j]? = some f → f.here = true ∧ f.pins = 0 := fun j f hf => by
    have := (List.getElem?_eq_some_iff.1 hf).1
    have := hk.lo j f hf (by omega)
    exact ⟨this.1, this.2.2.2⟩
  have h0 : 0 < fs.length := by omega
  have h64 : n ≤ 64 := by obtain ⟨D, dvs, h⟩ := h; have := h.few; omega
  refine (put_c_evict (k := (0, 100)) (bs := []) (dirty := false) h (by decide) (hk.fresh fun j hj e => ?_) (all_here fun j f hf => (hall j f hf).1) (u := 0) h0 (hall 0 _ (List.getElem?_eq_getElem h0)).2 (fun f hf => ?_) (nil_row wr) (by simp) (fun k hk => hk.elim)).mono ?_
  · have := congrArg Prod.snd e
    simp at this
    omega
  · obtain ⟨j, hj, rfl⟩ := List.getElem_of_mem hf
    rw [(hall j _ (List.getElem?_eq_getElem hj)).2]
    exact Int.le_refl _
  · rintro e w' ⟨i, fs', h', f, v, hsw, hf, he, ⟨A, c, hv, -⟩, hc, hm⟩
    obtain ⟨e1, e2, e3⟩ := K3.of hk hn hsw hf (asked := asked) (g := { key := (0, 100), data := [], here := true, dirty := false, mark := true, pins := 0 }) rfl rfl rfl
    subst hv
    rw [e1] at he
    rw [e2] at hc
    exact ⟨A, c, _, f.dirty, _, he, hc, e3, hm⟩
def LastPost (w : World) (base p lb m n : Nat) (want : Int) (e : Ending) (w' : World) : Prop := ∃ x z A c l d fs hh, e = .returned (.tuple #[.agg #[.int .i64 x, .int .i64 z, .slice A l c, .bool d, .bool true], .int .i64 0]) ∧ IsCache w' base p lb m fs hh ∧ (fs.filter FrS.here).length = n ∧ (want < 0 ∨ (z == want) = true) ∧ Moves (COwn p lb m) w w'
theorem keeps_last {wr : World} {base p lb m n : Nat} {fs : List FrS} {asked : List Bool} (h : IsCache wr base p lb m fs (1 % n)) (hk : K3 n n asked fs) (hn : 1 ≤ n) :
    Calls Try.prog 27 #[.pointer (some ⟨p, 0, none⟩), encK (0, 101), .slice none 0 0, .bool false] wr (LastPost wr base p lb m n (wantAt asked n)) := by
  have hl := hk.len
  have hall := hk.here
  have h0 : 0 < fs.length := by omega
  have h64 : n ≤ 64 := by obtain ⟨D, dvs, h⟩ := h; have := h.few; omega
  refine (put_c_evict (k := (0, 101)) (bs := []) (dirty := false) h (by decide) (fun j f hf hh e => ?_) (all_here fun j f hf => (hall j f hf).1) (u := 0) h0 (hall 0 _ (List.getElem?_eq_getElem h0)).2 (fun f hf => ?_) (nil_row wr) (by simp) (fun k hk => hk.elim)).mono ?_
  · have hj := (List.getElem?_eq_some_iff.1 hf).1
    by_cases e0 : j = 0
    · subst e0
      rw [(hk.first f hf).2.1] at e
      exact absurd (congrArg Prod.snd e) (by decide)
    · rw [(hk.rest j f hf (by omega)).2.1] at e
      have := congrArg Prod.snd e
      simp at this
      omega
  · obtain ⟨j, hj, rfl⟩ := List.getElem_of_mem hf
    rw [(hall j _ (List.getElem?_eq_getElem hj)).2]
    exact Int.le_refl _
  · rintro e w' ⟨i, fs', h', f, v, hsw, hf, he, ⟨A, c, hv, -⟩, hc, hm⟩
    subst hv
    have hkp := hsw.keeps
    refine ⟨f.key.1, f.key.2, A, c, _, f.dirty, _, h', he, hc, ?_, ?_, hm⟩
    · rw [all_count, List.length_set, hkp.1, hl]
      intro j x hx
      by_cases e : i = j
      · subst e
        rw [List.getElem?_set] at hx
        simp at hx
        obtain ⟨-, rfl⟩ := hx
        rfl
      · rw [List.getElem?_set_ne e] at hx
        obtain ⟨y, hy, -, e2, -⟩ := hkp.2 j x hx
        rw [e2]
        exact (hall j y hy).1
    · by_cases hw : wantAt asked n < 0
      · exact .inl hw
      · right
        obtain ⟨u, hu⟩ : ∃ u : Nat, wantAt asked n = u := ⟨(wantAt asked n).toNat, by omega⟩
        obtain ⟨u1, u2, u3, u4⟩ := wantAt_some hu
        have hmod : 1 % n = 1 := Nat.mod_eq_of_lt (by omega)
        rw [hmod] at hsw
        have hul : u < fs.length := by omega
        have hfu := List.getElem?_eq_getElem hul
        obtain ⟨c1, c2, c3, c4⟩ := hk.rest u _ hfu u1
        have hiu : i = u := hsw.to u1 hfu (by omega) (by rw [c4, u3]; simp) (fun j x hj hju hx => by
          right
          obtain ⟨-, -, -, d4⟩ := hk.rest j x hx hj
          rw [d4, u4 j hj hju]
          simp
          omega)
        subst hiu
        obtain ⟨y, hy, e1, -⟩ := hkp.2 i f hf
        rw [hfu] at hy
        cases hy
        rw [hu, e1, c2]
        simp

set_option maxRecDepth 100000 in
set_option maxHeartbeats 4000000 in
theorem keeps_off (a0 : Int) {v1 : Value} {asked : List Bool} (w : World) {L : Nat → Prop} (hr : Row w L v1 (asked.map .bool)) (hbad : a0 < 1 ∨ 64 < a0 ∨ (asked.length : Int) < a0 ∨ 100 < asked.length) : Calls Try.prog 5 #[.int .i64 a0, v1] w (CVal w (.bool true)) := by
  obtain ⟨A, c, rfl, -, -⟩ := hr
  rw [List.length_map]
  have HK := Lib.hid (known_c w)
  by_cases h1 : a0 < 1
  · clear hbad
    go_enter Try.func5, Try.ntmps5
    go_wp2_with fail
    refine HK.out.mono ?_
    rintro e w1 ⟨rfl, hm1⟩
    go_wp2
    go_ret
    exact ⟨rfl, hm1⟩
  by_cases h2 : 64 < a0
  · clear hbad
    go_enter Try.func5, Try.ntmps5
    go_wp2_with fail
    refine HK.out.mono ?_
    rintro e w1 ⟨rfl, hm1⟩
    go_wp2
    go_ret
    exact ⟨rfl, hm1⟩
  by_cases h3 : (asked.length : Int) < a0
  · clear hbad
    go_enter Try.func5, Try.ntmps5
    go_wp2_with fail
    refine HK.out.mono ?_
    rintro e w1 ⟨rfl, hm1⟩
    go_wp2
    go_ret
    exact ⟨rfl, hm1⟩
  · have h4 : (100 : Int) < (asked.length : Int) := by omega
    clear hbad
    go_enter Try.func5, Try.ntmps5
    go_wp2_with fail
    refine HK.out.mono ?_
    rintro e w1 ⟨rfl, hm1⟩
    go_wp2
    go_ret
    exact ⟨rfl, hm1⟩

set_option maxRecDepth 100000 in
set_option maxHeartbeats 4000000 in
theorem keeps_on {n : Nat} {v1 : Value} {asked : List Bool} (w : World) (hr : Row w (fun i => i < w.heap.size) v1 (asked.map .bool)) (hn : 1 ≤ n ∧ n ≤ 64) (hl : n ≤ asked.length ∧ asked.length ≤ 100) : Calls Try.prog 5 #[.int .i64 n, v1] w (CVal w (.bool true)) := by
  obtain ⟨A, c, rfl, -, hx⟩ := hr
  rw [List.length_map] at hx ⊢
  obtain ⟨g, o, rfl, hgl, -, hcell⟩ := hx (by omega)
  have HK := Lib.hid (known_c w)
  have HCELL : Hid (∀ j, j < asked.length → w.cell? ⟨g, o + j, none⟩ = some (.bool (asked.getD j false))) := Lib.hid (fun j hj => hcell j _ (by
    rw [List.getElem?_map, List.getElem?_eq_getElem hj, List.getD_eq_getElem?_getD, List.getElem?_eq_getElem hj]; rfl))
  have b1 : ¬ (n : Int) < 1 := by omega
  have b2 : ¬ (64 : Int) < (n : Int) := by omega
  have b3 : ¬ (asked.length : Int) < (n : Int) := by omega
  have b4 : ¬ (100 : Int) < (asked.length : Int) := by omega
  clear hcell hx
  go_enter Try.func5, Try.ntmps5
  go_wp2_with fail
  refine HK.out.mono ?_
  rintro e w1 ⟨rfl, hm1⟩
  have HNEW := Lib.hid (new_c (n := n) hn w1)
  have HM1 := Lib.hid hm1
  clear HK hm1
  go_wp2_with fail
  refine HNEW.out.mono ?_
  rintro e w2 ⟨p, lb, m, rfl, h2, hm2⟩
  have H2 := Lib.hid (And.intro h2 (And.intro (HM1.out.trans hm2) HM1.out.size))
  clear h2 hm2 HNEW HM1
  go_wp2_with fail
  go_loopg [7] n (fun gg s7 wr => ∃ i : Nat, i ≤ n ∧ gg = n - i ∧ s7 = .int .i64 i ∧ Hid (∃ fs, IsCache wr w1.heap.size p lb m fs 0 ∧ K1 n i fs ∧ Moves (fun _ => False) w wr))
  case atStart => exact ⟨0, Nat.zero_le _, rfl, rfl, Lib.hid ⟨_, H2.out.1, K1.start n, H2.out.2.1⟩⟩
  case round =>
    obtain ⟨i, hi, rfl, rfl, HI⟩ := hrel
    by_cases hlt : i < n
    · have hlz : (i : Int) < (n : Int) := by omega
      have hi0 : (0 : Int) ≤ (i : Int) := by omega
      have hi1 : (i : Int) < 64 := by omega
      obtain ⟨fs, hc, hk, hM⟩ := HI.out
      have HPUT := Lib.hid (fun b => keeps_put hc hk hlt hn.2 b)
      have HC := Lib.hid (And.intro hc hM)
      clear hc hk hM HI
      go_wp2_with fail
      refine (HPUT.out _).mono ?_
      rintro e w' ⟨fs', rfl, hc', hk', hm'⟩
      have HN : Hid (IsCache (w'.alloc (.cells #[.int .i64 0, .int .i64 0, .slice none 0 0, .bool false, .bool false] 45)) w1.heap.size p lb m fs' 0 ∧ K1 n (i + 1) fs' ∧ Moves (fun _ => False) w (w'.alloc (.cells #[.int .i64 0, .int .i64 0, .slice none 0 0, .bool false, .bool false] 45))) :=
        Lib.hid ⟨hc'.moves0 ((Moves.refl _ w').alloc _), hk', ((HC.out.1.moves0 ((Moves.refl _ wr).alloc _)).beyond H2.out.2.2 (HC.out.2.alloc _) hm').alloc _⟩
      clear hc' hk' hm' HC HPUT
      go_wp2
      go_roundg (n - (i + 1))
      case measure => omega
      case rel => exact ⟨i + 1, by omega, rfl, by go_num, Lib.hid ⟨fs', HN.out.1, HN.out.2.1, HN.out.2.2⟩⟩
    · obtain rfl : i = n := by omega
      have hlz : ¬ (i : Int) < (i : Int) := by omega
      obtain ⟨fs, hc, hk, hM⟩ := HI.out
      have HPUT := Lib.hid (keeps_more hc hk hn.1 asked)
      have HC := Lib.hid (And.intro hc hM)
      clear hc hk hM HI hi hlt
      go_wp2_with fail
      refine HPUT.out.mono ?_
      rintro e w' ⟨A2, c2, l2, d2, fs2, rfl, hc2, hk2, hm2⟩
      have hM2 := HC.out.1.beyond H2.out.2.2 HC.out.2 hm2
      have HN : Hid (IsCache (w'.alloc (.cells #[.int .i64 0, .int .i64 0, .slice A2 l2 c2, .bool d2, .bool true] 45)) w1.heap.size p lb m fs2 (1 % i) ∧ K3 i 1 asked fs2 ∧ Moves (fun _ => False) w (w'.alloc (.cells #[.int .i64 0, .int .i64 0, .slice A2 l2 c2, .bool d2, .bool true] 45)) ∧ (w'.alloc (.cells #[.int .i64 0, .int .i64 0, .slice A2 l2 c2, .bool d2, .bool true] 45)).heap[w'.heap.size]? = some (.cells #[.int .i64 0, .int .i64 0, .slice A2 l2 c2, .bool d2, .bool true] 45 (0, 0))) :=
        Lib.hid ⟨hc2.moves0 ((Moves.refl _ w').alloc _), hk2, hM2.alloc _, heap_alloc_new _ _⟩
      clear hc2 hk2 hm2 HC HPUT
      go_upto_region 13 with fail
      generalize w'.alloc (.cells #[.int .i64 0, .int .i64 0, .slice A2 l2 c2, .bool d2, .bool true] 45) = w3 at HN ⊢
      have HOBN : Hid (w.heap.size ≤ w'.heap.size) := Lib.hid hM2.size
      clear hM2
      generalize w'.heap.size = ob at HN HOBN ⊢
      obtain ⟨o0, o1, o2, o3, o4, -⟩ := out_cells HN.out.2.2.2
      go_wp2_with fail
      go_loopg [12, 13] (i - 1) (fun gg s12 s13 wq => ∃ k : Nat, 1 ≤ k ∧ k ≤ i ∧ gg = i - k ∧ s13 = .int .i64 k ∧ s12 = .int .i64 (wantAt asked k) ∧ Hid (∃ fs, IsCache wq w1.heap.size p lb m fs (1 % i) ∧ K3 i k asked fs ∧ Moves (fun _ => False) w wq ∧ wq.heap[ob]? = some (.cells #[.int .i64 0, .int .i64 0, .slice A2 l2 c2, .bool d2, .bool true] 45 (0, 0))))
      case atStart => exact ⟨1, Nat.le_refl _, hn.1, rfl, rfl, rfl, Lib.hid ⟨fs2, HN.out.1, HN.out.2.1, HN.out.2.2.1, HN.out.2.2.2⟩⟩
      case round =>
        have HOB : Hid (w.heap.size ≤ w1.heap.size) := Lib.hid H2.out.2.2
        clear o0 o1 o2 o3 o4 HN H2
        obtain ⟨k, hk1, hki, rfl, rfl, rfl, HI⟩ := hrel
        obtain ⟨fs5, hc, hk, hM, hob⟩ := HI.out
        clear HI
        by_cases hlt : k < i
        · have hkz : (k : Int) < (i : Int) := by omega
          have hk0 : (0 : Int) ≤ (k : Int) := by omega
          have hk9 : (k : Int) < (asked.length : Int) := by omega
          have q0 : wr.cell? ⟨g, o + k, none⟩ = some (.bool (asked.getD k false)) := (hM.cell (p := ⟨g, o + k, none⟩) hgl (fun h => h)).trans (HCELL.out k (by omega))
          have hkl : k < fs5.length := by rw [hk.len]; exact hlt
          have HW := Lib.hid (wantAt_step asked hk1)
          cases ha : asked.getD k false with
          | true =>
            rw [ha] at q0
            have HG := Lib.hid (get_hit (k := (0, (k : Int))) hc (List.getElem?_eq_getElem hkl) (hk.rest k _ (List.getElem?_eq_getElem hkl) hk1).1 (hk.rest k _ (List.getElem?_eq_getElem hkl) hk1).2.1)
            have HC := Lib.hid (And.intro hc (And.intro (hk.ask hk1 ha (List.getElem?_eq_getElem hkl)) (And.intro hM hob)))
            have HA := Lib.hid ha
            clear hc hk hM hob ha
            go_wp2_with fail
            refine HG.out.mono ?_
            rintro e w5 ⟨v5, rfl, -, hc5, hm5⟩
            have H5 := Lib.hid (And.intro hc5 (And.intro (HC.out.1.beyond HOB.out HC.out.2.2.1 hm5) (HC.out.1.after hm5 HC.out.2.2.2 (by decide) (by decide))))
            clear hc5 hm5 HG
            go_wp2_with fail
            go_roundg (i - (k + 1))
            case measure => omega
            case rel =>
              refine ⟨k + 1, by omega, by omega, rfl, by go_num, ?_, Lib.hid ⟨_, H5.out.1, HC.out.2.1, H5.out.2.1, H5.out.2.2⟩⟩
              rw [HW.out, if_neg (by rw [HA.out]; simp)]
          | false =>
            rw [ha] at q0
            have HC := Lib.hid (And.intro hc (And.intro (hk.keep hk1 ha) (And.intro hM hob)))
            have HA := Lib.hid ha
            clear hc hk hM hob ha
            by_cases hw0 : wantAt asked k < 0
            · go_wp2_with fail
              go_roundg (i - (k + 1))
              case measure => omega
              case rel =>
                refine ⟨k + 1, by omega, by omega, rfl, by go_num, ?_, Lib.hid ⟨_, HC.out.1, HC.out.2.1, HC.out.2.2.1, HC.out.2.2.2⟩⟩
                rw [HW.out, if_pos ⟨HA.out, hw0⟩]
            · go_wp2_with fail
              go_roundg (i - (k + 1))
              case measure => omega
              case rel =>
                refine ⟨k + 1, by omega, by omega, rfl, by go_num, ?_, Lib.hid ⟨_, HC.out.1, HC.out.2.1, HC.out.2.2.1, HC.out.2.2.2⟩⟩
                rw [HW.out, if_neg (by rintro ⟨-, h⟩; omega)]
        · obtain rfl : k = i := by omega
          have hkz : ¬ (k : Int) < (k : Int) := by omega
          have HL := Lib.hid (keeps_last hc hk hk1)
          have HC := Lib.hid (And.intro hc (And.intro hM hob))
          clear hc hk hM hob hlt hki
          go_wp2_with fail
          refine HL.out.mono ?_
          rintro e w6 ⟨x3, z3, A3, c3, l3, d3, fs6, hh6, rfl, hc6, hlen6, hw6, hm6⟩
          have hob6 := HC.out.1.after hm6 HC.out.2.2 (by decide) (by decide)
          have H6 := Lib.hid (And.intro hc6 (And.intro hlen6 (And.intro (HC.out.1.beyond HOB.out HC.out.2.1 hm6) hob6)))
          obtain ⟨o0, o1, o2, o3, o4, f0, f1, f2, f3, f4⟩ := out_cells hob6
          clear hc6 hlen6 hm6 hob6 HC HL
          have HW6 := Lib.hid hw6
          clear hw6
          go_upto_region 24 with fail
          have hms : Moves (fun k => k = ob) w6 (((((w6.setCell ⟨ob, 0, none⟩ (.int .i64 x3)).setCell ⟨ob, 1, none⟩ (.int .i64 z3)).setCell ⟨ob, 2, none⟩ (.slice A3 l3 c3)).setCell ⟨ob, 3, none⟩ (.bool d3)).setCell ⟨ob, 4, none⟩ (.bool true)) := Moves.setCell (p := ⟨ob, 4, none⟩) (Moves.setCell (p := ⟨ob, 3, none⟩) (Moves.setCell (p := ⟨ob, 2, none⟩) (Moves.setCell (p := ⟨ob, 1, none⟩) (Moves.setCell (p := ⟨ob, 0, none⟩) (Moves.refl (fun k => k = ob) w6) (fun _ => rfl) _) (fun _ => rfl) _) (fun _ => rfl) _) (fun _ => rfl) _) (fun _ => rfl) _
          have H7 : Hid (IsCache (((((w6.setCell ⟨ob, 0, none⟩ (.int .i64 x3)).setCell ⟨ob, 1, none⟩ (.int .i64 z3)).setCell ⟨ob, 2, none⟩ (.slice A3 l3 c3)).setCell ⟨ob, 3, none⟩ (.bool d3)).setCell ⟨ob, 4, none⟩ (.bool true)) w1.heap.size p lb m fs6 hh6 ∧ Moves (fun _ => False) w (((((w6.setCell ⟨ob, 0, none⟩ (.int .i64 x3)).setCell ⟨ob, 1, none⟩ (.int .i64 z3)).setCell ⟨ob, 2, none⟩ (.slice A3 l3 c3)).setCell ⟨ob, 3, none⟩ (.bool d3)).setCell ⟨ob, 4, none⟩ (.bool true)) ∧ (((((w6.setCell ⟨ob, 0, none⟩ (.int .i64 x3)).setCell ⟨ob, 1, none⟩ (.int .i64 z3)).setCell ⟨ob, 2, none⟩ (.slice A3 l3 c3)).setCell ⟨ob, 3, none⟩ (.bool d3)).setCell ⟨ob, 4, none⟩ (.bool true)).heap[ob]? = some (.cells #[.int .i64 x3, .int .i64 z3, .slice A3 l3 c3, .bool d3, .bool true] 45 (0, 0)) ∧ (fs6.filter FrS.here).length = k) :=
            Lib.hid ⟨H6.out.1.poke H6.out.2.2.2 (by decide) (by decide) (by decide) hms, H6.out.2.2.1.andThen hms (fun j (e : j = ob) hlt => absurd HOBN.out (by omega)), by simp [World.setCell, Array.getElem?_modify, H6.out.2.2.2], H6.out.2.1⟩
          clear hms o0 o1 o2 o3 o4 f0 f1 f2 f3 f4 H6
          generalize (((((w6.setCell ⟨ob, 0, none⟩ (.int .i64 x3)).setCell ⟨ob, 1, none⟩ (.int .i64 z3)).setCell ⟨ob, 2, none⟩ (.slice A3 l3 c3)).setCell ⟨ob, 3, none⟩ (.bool d3)).setCell ⟨ob, 4, none⟩ (.bool true)) = w7 at H7 ⊢
          obtain ⟨o0, o1, o2, o3, o4, -⟩ := out_cells H7.out.2.2.1
          have HLN : Hid (Calls Try.prog 29 #[.pointer (some ⟨p, 0, none⟩)] w7 (SameP w7 (.int .i64 k))) := Lib.hid (by have h := len_c H7.out.1; rw [H7.out.2.2.2] at h; exact h)
          go_wp2_with fail
          refine HLN.out.mono ?_
          rintro e w8 ⟨rfl, rfl⟩
          rcases HW6.out with hw | hw
          · go_wp2
            go_ret
            exact ⟨rfl, H7.out.2.1⟩
          · by_cases hw0 : wantAt asked k < 0
            · go_wp2
              go_ret
              exact ⟨rfl, H7.out.2.1⟩
            · go_wp2
              go_ret
              exact ⟨rfl, H7.out.2.1⟩
theorem cache_keeps (a0 : Int) {v1 : Value} {asked : List Bool} (w : World) (hr : Row w (fun i => i < w.heap.size) v1 (asked.map .bool)) : Calls Try.prog 5 #[.int .i64 a0, v1] w (CVal w (.bool true)) := by
  by_cases hbad : a0 < 1 ∨ 64 < a0 ∨ (asked.length : Int) < a0 ∨ 100 < asked.length
  · exact keeps_off a0 w hr hbad
  · obtain ⟨n, rfl⟩ : ∃ n : Nat, a0 = n := ⟨a0.toNat, by omega⟩
    exact keeps_on w hr (by omega) (by omega)
end Go.Proofs.Ytbfnmgjpkieaoaa
