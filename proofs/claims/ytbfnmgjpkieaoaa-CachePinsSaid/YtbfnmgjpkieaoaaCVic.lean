/-
  The frame that a page comes into: the first empty one, or the one that the hand finds.
-/
import Derived.Test.YtbfnmgjpkieaoaaCIdx
namespace Go.Proofs.Ytbfnmgjpkieaoaa
open Go Go.RowKit Go.Maps Go.Sort Go.Proofs

def unmark (f : FrS) : FrS := { f with mark := false }
/-- The hand's way: from the frames fs and the hand h to the frame i, the frames fs', the hand h'. -/
inductive Sweep : List FrS → Nat → Nat → List FrS → Nat → Prop
  | stop (fs : List FrS) (h : Nat) (f : FrS) : fs[h]? = some f → f.pins ≤ 0 → f.mark = false → Sweep fs h h fs ((h + 1) % fs.length)
  | pass (fs : List FrS) (h : Nat) (f : FrS) (i : Nat) (fs' : List FrS) (h' : Nat) : fs[h]? = some f → 0 < f.pins → Sweep fs ((h + 1) % fs.length) i fs' h' → Sweep fs h i fs' h'
  | turn (fs : List FrS) (h : Nat) (f : FrS) (i : Nat) (fs' : List FrS) (h' : Nat) : fs[h]? = some f → f.pins ≤ 0 → f.mark = true → Sweep (fs.set h (unmark f)) ((h + 1) % fs.length) i fs' h' → Sweep fs h i fs' h'

/-- How far the hand has to go to a frame that is free at last. -/
def far (fs : List FrS) (u h : Nat) : Nat := (if (fs[u]?).any FrS.mark then fs.length else 0) + (u + fs.length - h) % fs.length
theorem far_step {n u h : Nat} (hh : h < n) (hu : u < n) (hne : h ≠ u) : (u + n - (h + 1) % n) % n < (u + n - h) % n := by
  by_cases h1 : h + 1 < n
  · rw [Nat.mod_eq_of_lt h1]
    by_cases h2 : h < u
    · rw [show u + n - h = u - h + n by omega, show u + n - (h + 1) = u - (h + 1) + n by omega, Nat.add_mod_right, Nat.add_mod_right, Nat.mod_eq_of_lt (show u - h < n by omega), Nat.mod_eq_of_lt (show u - (h + 1) < n by omega)]
      omega
    · rw [Nat.mod_eq_of_lt (show u + n - h < n by omega), Nat.mod_eq_of_lt (show u + n - (h + 1) < n by omega)]
      omega
  · have : h + 1 = n := by omega
    rw [this, Nat.mod_self, Nat.sub_zero, Nat.add_mod_right, Nat.mod_eq_of_lt hu, Nat.mod_eq_of_lt (show u + n - h < n by omega)]
    omega
theorem far_pass {fs : List FrS} {u h : Nat} (hh : h < fs.length) (hu : u < fs.length) (hne : h ≠ u) : far fs u ((h + 1) % fs.length) < far fs u h := by
  unfold far
  have := far_step hh hu hne
  omega
theorem far_turn {fs : List FrS} {u h : Nat} {f : FrS} (hh : fs[h]? = some f) (hm : f.mark = true) (hu : u < fs.length) : far (fs.set h (unmark f)) u ((h + 1) % fs.length) < far fs u h := by
  have hl : h < fs.length := (List.getElem?_eq_some_iff.1 hh).1
  by_cases hne : h = u
  · subst hne
    unfold far
    rw [List.length_set, List.getElem?_set_self hl, hh]
    simp only [Option.any_some, unmark, hm, if_true, Bool.false_eq_true, if_false]
    have h1 : (h + fs.length - (h + 1) % fs.length) % fs.length < fs.length := Nat.mod_lt _ (by omega)
    omega
  · have := far_pass hl hu hne
    unfold far at this ⊢
    rw [List.length_set, List.getElem?_set_ne hne]
    exact this

section
variable {w : World} {base p lb m : Nat} {fs : List FrS} {hand : Nat}
theorem CacheAt.setHand {D : DataW Unit} {dvs : List Value} (h : CacheAt w base p lb m fs hand D dvs) {x : Nat} (hx : x < fs.length) : CacheAt (w.setCell ⟨p, 2, none⟩ (.int .i64 x)) base p lb m fs x D dvs := by
  have hm : Moves (fun k => k = p) w (w.setCell ⟨p, 2, none⟩ (.int .i64 x)) := Moves.setCell (p := ⟨p, 2, none⟩) (Moves.refl (fun k => k = p) w) (fun _ => rfl) _
  obtain ⟨cs, hb, hcs⟩ := h.fr
  refine ⟨?_, h.hp, ⟨cs, (hm.block lb (Array.getElem?_eq_some_iff.1 hb).1 h.lbp).trans hb, hcs⟩, h.hlb, h.len, fun i hi hi' => own_moves (h.dat i hi hi') hm (fun g hg e => ?_), hm.ownsMap h.map (fun e => ?_), h.by_, h.hm, h.few, h.long, hx⟩
  · simp [World.setCell, Array.getElem?_modify, h.blk]
  · obtain ⟨cur, hc⟩ := own_block (h.dat i hi hi') hg
    have e : g = p := e
    rw [e, h.blk] at hc
    injection hc with hc
    injection hc with _ h1
    exact absurd h1 (by decide)
  · have e : m = p := e
    obtain ⟨es, ck, hb', _⟩ := h.map
    rw [e, h.blk] at hb'
    cases hb'
theorem IsCache.unmark {f : FrS} {i : Nat} (h : IsCache w base p lb m fs hand) (hi : fs[i]? = some f) : IsCache (w.setCell ⟨lb, i * 7 + 5, none⟩ (.bool false)) base p lb m (fs.set i (unmark f)) hand := by
  obtain ⟨D, dvs, h⟩ := h
  have hil : i < fs.length := (List.getElem?_eq_some_iff.1 hi).1
  have hfi : fs[i] = f := (List.getElem?_eq_some_iff.1 hi).2
  have hdl : i < dvs.length := by rw [h.len]; exact hil
  have hown := h.dat i hil hdl
  rw [hfi] at hown
  exact ⟨D, _, h.turn hil (r := 5) (v := .bool false) (dv' := dvs[i]) (f' := Go.Proofs.Ytbfnmgjpkieaoaa.unmark f) (by omega) (by rw [hfi]; rfl) (by rw [hfi]; rfl) (by rw [hfi]; rfl) hown (h.long f (hfi ▸ List.getElem_mem hil))⟩
end

def VicPost (w : World) (base p lb m : Nat) (fs : List FrS) (hand : Nat) (e : Ending) (w' : World) : Prop :=
  ∃ i fs' h', Sweep fs hand i fs' h' ∧ e = .returned (.tuple #[.int .i64 (i : Nat), .bool true]) ∧ IsCache w' base p lb m fs' h' ∧ Moves (COwn p lb m) w w'

set_option maxRecDepth 100000 in
set_option maxHeartbeats 1000000 in
/-- An empty frame. -/
theorem vic_empty {w : World} {base p lb m : Nat} {fs : List FrS} {hand : Nat} (h : IsCache w base p lb m fs hand) {i : Nat} (hi : idxZ (fun f => !f.here) fs = i) :
    Calls Try.prog 65 #[.pointer (some ⟨p, 0, none⟩)] w (CVal w (.tuple #[.int .i64 i, .bool true])) := by
  have HI := Lib.hid (index_c h asks_empty (enters_of Try.func85 rfl rfl))
  obtain ⟨c0, c1, c2⟩ : w.cell? ⟨p, 0, none⟩ = some (.slice (some ⟨lb, 0, none⟩) fs.length fs.length) ∧ w.cell? ⟨p, 1, none⟩ = some (.map (some m)) ∧ w.cell? ⟨p, 2, none⟩ = some (.int .i64 hand) := by
    obtain ⟨D, dvs, h⟩ := h
    exact h.cells
  rw [hi] at HI
  clear hi h
  have hz : (0 : Int) ≤ (i : Int) := by omega
  go_enter Try.func65, Try.ntmps65
  go_wp2_with fail
  refine HI.out.mono ?_
  rintro e w1 ⟨rfl, hm1⟩
  go_wp2
  go_ret2
  exact ⟨rfl, hm1⟩
set_option maxRecDepth 100000 in
set_option maxHeartbeats 1000000 in
/-- All are pinned. -/
theorem vic_full {w : World} {base p lb m : Nat} {fs : List FrS} {hand : Nat} (h : IsCache w base p lb m fs hand) (hi : idxZ (fun f => !f.here) fs = -1) (hp : fs.any (fun f => f.pins == 0) = false) :
    Calls Try.prog 65 #[.pointer (some ⟨p, 0, none⟩)] w (CVal w (.tuple #[.int .i64 0, .bool false])) := by
  have HI := Lib.hid (index_c h asks_empty (enters_of Try.func85 rfl rfl))
  have H := Lib.hid h
  obtain ⟨c0, c1, c2⟩ : w.cell? ⟨p, 0, none⟩ = some (.slice (some ⟨lb, 0, none⟩) fs.length fs.length) ∧ w.cell? ⟨p, 1, none⟩ = some (.map (some m)) ∧ w.cell? ⟨p, 2, none⟩ = some (.int .i64 hand) := by
    obtain ⟨D, dvs, h⟩ := h
    exact h.cells
  rw [hi] at HI
  clear hi h
  go_enter Try.func65, Try.ntmps65
  go_wp2_with fail
  refine HI.out.mono ?_
  rintro e w1 ⟨rfl, hm1⟩
  have H1 := Lib.hid (H.out.moves0 hm1)
  have HM1 := Lib.hid hm1
  have HI2 := Lib.hid (contains_c H1.out asks_free (enters_of Try.func87 rfl rfl))
  rw [hp] at HI2
  obtain ⟨d0, d1, d2⟩ : w1.cell? ⟨p, 0, none⟩ = some (.slice (some ⟨lb, 0, none⟩) fs.length fs.length) ∧ w1.cell? ⟨p, 1, none⟩ = some (.map (some m)) ∧ w1.cell? ⟨p, 2, none⟩ = some (.int .i64 hand) := by
    obtain ⟨D, dvs, h⟩ := H1.out
    exact h.cells
  clear hp hm1
  go_wp2_with fail
  refine HI2.out.mono ?_
  rintro e w2 ⟨rfl, hm2⟩
  go_wp2
  go_ret2
  exact ⟨rfl, HM1.out.trans hm2⟩
set_option maxRecDepth 100000 in
set_option maxHeartbeats 1000000 in
/-- The hand goes. -/
theorem vic_sweep {w : World} {base p lb m : Nat} {fs : List FrS} {hand : Nat} (h : IsCache w base p lb m fs hand) (hi : idxZ (fun f => !f.here) fs = -1) {u : Nat} (hu : u < fs.length) (hp : fs[u].pins = 0) (hpn : ∀ f ∈ fs, 0 ≤ f.pins) :
    Calls Try.prog 65 #[.pointer (some ⟨p, 0, none⟩)] w (VicPost w base p lb m fs hand) := by
  have HI := Lib.hid (index_c h asks_empty (enters_of Try.func85 rfl rfl))
  have H := Lib.hid h
  obtain ⟨c0, c1, c2⟩ : w.cell? ⟨p, 0, none⟩ = some (.slice (some ⟨lb, 0, none⟩) fs.length fs.length) ∧ w.cell? ⟨p, 1, none⟩ = some (.map (some m)) ∧ w.cell? ⟨p, 2, none⟩ = some (.int .i64 hand) := by
    obtain ⟨D, dvs, h⟩ := h
    exact h.cells
  rw [hi] at HI
  have hany : fs.any (fun f => f.pins == 0) = true := List.any_eq_true.2 ⟨_, List.getElem_mem hu, by simpa using hp⟩
  have HPN := Lib.hid hpn
  have HP := Lib.hid hp
  clear hi h hpn hp
  go_enter Try.func65, Try.ntmps65
  go_wp2_with fail
  refine HI.out.mono ?_
  rintro e w1 ⟨rfl, hm1⟩
  have H1 := Lib.hid (H.out.moves0 hm1)
  have HM1 := Lib.hid hm1
  have HI2 := Lib.hid (contains_c H1.out asks_free (enters_of Try.func87 rfl rfl))
  rw [hany] at HI2
  obtain ⟨d0, d1, d2⟩ : w1.cell? ⟨p, 0, none⟩ = some (.slice (some ⟨lb, 0, none⟩) fs.length fs.length) ∧ w1.cell? ⟨p, 1, none⟩ = some (.map (some m)) ∧ w1.cell? ⟨p, 2, none⟩ = some (.int .i64 hand) := by
    obtain ⟨D, dvs, h⟩ := H1.out
    exact h.cells
  clear hany hm1
  go_wp2_with fail
  refine HI2.out.mono ?_
  rintro e w2 ⟨rfl, hm2⟩
  have H2 := Lib.hid (H1.out.moves0 hm2)
  have HM2 := Lib.hid ((HM1.out.trans hm2).none (COwn p lb m))
  clear d0 d1 d2 hm2 HI HI2 H1 HM1
  go_wp2
  go_loopg [] (far fs u hand) (fun gg wr => ∃ (fr : List FrS) (hr : Nat), gg = far fr u hr ∧ fr.length = fs.length ∧ Hid (IsCache wr base p lb m fr hr) ∧ Hid (Moves (COwn p lb m) w wr) ∧ Hid (∀ i fs' h', Sweep fr hr i fs' h' → Sweep fs hand i fs' h') ∧ Hid (∀ f ∈ fr, 0 ≤ f.pins) ∧ Hid (∃ f, fr[u]? = some f ∧ f.pins = 0))
  case atStart => exact ⟨fs, hand, rfl, rfl, H2, HM2, Lib.hid (fun _ _ _ h => h), HPN, Lib.hid ⟨fs[u], List.getElem?_eq_getElem hu, HP.out⟩⟩
  case round =>
    clear H c0 c1 c2 HPN HP H2 HM2
    obtain ⟨fr, hr, rfl, hlen, H, HM, HS, HPN, HU⟩ := hrel
    obtain ⟨c0, c1, c2⟩ : wr.cell? ⟨p, 0, none⟩ = some (.slice (some ⟨lb, 0, none⟩) fr.length fr.length) ∧ wr.cell? ⟨p, 1, none⟩ = some (.map (some m)) ∧ wr.cell? ⟨p, 2, none⟩ = some (.int .i64 hr) := by
      obtain ⟨D, dvs, h⟩ := H.out
      exact h.cells
    obtain ⟨hhl, hle⟩ : hr < fr.length ∧ fr.length ≤ 64 := by
      obtain ⟨D, dvs, h⟩ := H.out
      exact ⟨h.hhand, h.few.2⟩
    obtain ⟨f, hf⟩ : ∃ f, fr[hr]? = some f := ⟨_, List.getElem?_eq_getElem hhl⟩
    have hf' : fr[hr] = f := (List.getElem?_eq_some_iff.1 hf).2
    have HF := Lib.hid hf
    have hv : ((hr : Int) + 1) % (fs.length : Int) = ((hr + 1) % fr.length : Nat) := by rw [hlen]; simp
    have hml : (hr + 1) % fr.length < fr.length := Nat.mod_lt _ (by omega)
    have HX : Hid (IsCache (wr.setCell ⟨p, 2, none⟩ (.int .i64 (((hr : Int) + 1) % (fs.length : Int)))).drew base p lb m fr ((hr + 1) % fr.length)) := by
      obtain ⟨D, dvs, h⟩ := H.out
      rw [hv]
      exact Lib.hid ⟨D, dvs, (h.setHand hml).moves0 ((Moves.refl _ _).drew)⟩
    have HMX : Hid (Moves (COwn p lb m) w (wr.setCell ⟨p, 2, none⟩ (.int .i64 (((hr : Int) + 1) % (fs.length : Int)))).drew) := Lib.hid (HM.out.trans ((Moves.setCell (p := ⟨p, 2, none⟩) (Moves.refl (COwn p lb m) wr) (fun _ => .inl rfl) _).drew))
    have hzp : wr.frozen? ⟨p, 2, none⟩ = false := by
      obtain ⟨D, dvs, h⟩ := H.out
      simp [World.frozen?, h.blk]
    have hnil : ¬ fs = [] := fun e => by rw [hlen, e] at hhl; simp at hhl
    have HH := Lib.hid (And.intro hhl (And.intro hle hml))
    clear hf hml hv
    rw [hlen] at c0 hhl hle
    obtain ⟨x5, x6, z5⟩ : (wr.setCell ⟨p, 2, none⟩ (.int .i64 (((hr : Int) + 1) % (fs.length : Int)))).drew.cell? ⟨lb, hr * 7 + 5, none⟩ = some (.bool f.mark) ∧ (wr.setCell ⟨p, 2, none⟩ (.int .i64 (((hr : Int) + 1) % (fs.length : Int)))).drew.cell? ⟨lb, hr * 7 + 6, none⟩ = some (.int .i64 f.pins) ∧ (wr.setCell ⟨p, 2, none⟩ (.int .i64 (((hr : Int) + 1) % (fs.length : Int)))).drew.frozen? ⟨lb, hr * 7 + 5, none⟩ = false := by
      obtain ⟨D, dvs, h⟩ := HX.out
      obtain ⟨m5, z5⟩ := h.frame HH.out.1 (r := 5) (by omega)
      obtain ⟨m6, z6⟩ := h.frame HH.out.1 (r := 6) (by omega)
      exact ⟨by rw [m5, hf']; rfl, by rw [m6, hf']; rfl, z5⟩
    go_wp2
    go_region
    all_goals
      clear c0 c1 c2 hzp hnil hf'
      by_cases hp : 0 < f.pins
      · go_wp2
        go_roundg (far fr u ((hr + 1) % fr.length))
        case measure =>
          have hne : hr ≠ u := fun e => by
            obtain ⟨g, hg, hg0⟩ := HU.out
            have := HF.out
            rw [e, hg] at this
            cases this
            omega
          exact far_pass HH.out.1 (by rw [hlen]; exact hu) hne
        case rel =>
          exact ⟨fr, (hr + 1) % fr.length, rfl, hlen, HX, HMX, Lib.hid (fun i fs' h' hs => HS.out i fs' h' (.pass fr hr f i fs' h' HF.out hp hs)), HPN, HU⟩
      · have hp' : f.pins ≤ 0 := by omega
        cases hmk : f.mark with
        | true =>
          rw [hmk] at x5
          go_wp2
          have HY := Lib.hid (HX.out.unmark HF.out)
          have HMY := Lib.hid (HMX.out.trans (Moves.setCell (p := ⟨lb, hr * 7 + 5, none⟩) (Moves.refl (COwn p lb m) (wr.setCell ⟨p, 2, none⟩ (.int .i64 (((hr : Int) + 1) % (fs.length : Int)))).drew) (fun _ => .inr (.inl rfl)) (.bool false)))
          go_roundg (far (fr.set hr (unmark f)) u ((hr + 1) % fr.length))
          case measure => exact far_turn HF.out hmk (by rw [hlen]; exact hu)
          case rel =>
            refine ⟨fr.set hr (unmark f), (hr + 1) % fr.length, rfl, by simpa using hlen, HY, HMY, Lib.hid (fun i fs' h' hs => HS.out i fs' h' (.turn fr hr f i fs' h' HF.out hp' hmk hs)), Lib.hid (fun x hx => ?_), ?_⟩
            · rcases List.mem_or_eq_of_mem_set hx with hx | rfl
              · exact HPN.out x hx
              · exact HPN.out f (List.mem_of_getElem? HF.out)
            · obtain ⟨g, hg, hg0⟩ := HU.out
              by_cases e : hr = u
              · have hgf : g = f := by
                  have := HF.out
                  rw [e, hg] at this
                  cases this
                  rfl
                subst hgf
                subst e
                exact Lib.hid ⟨_, List.getElem?_set_self HH.out.1, hg0⟩
              · exact Lib.hid ⟨g, by rw [List.getElem?_set_ne e]; exact hg, hg0⟩
        | false =>
          rw [hmk] at x5
          go_wp2
          go_ret2
          exact ⟨hr, fr, (hr + 1) % fr.length, HS.out _ _ _ (.stop fr hr f HF.out hp' hmk), rfl, HX.out, HMX.out⟩
end Go.Proofs.Ytbfnmgjpkieaoaa
