/-
  A cache's parts while a page comes in: the frames, their pages, the map, which are not yet of one mind.
-/
import Derived.Test.YtbfnmgjpkieaoaaCVic
namespace Go.Proofs.Ytbfnmgjpkieaoaa
open Go Go.RowKit Go.Maps Go.Sort Go.Proofs

abbrev NoKey (fs : List FrS) (k : Pr) : Prop := ∀ (i : Nat) (f : FrS), fs[i]? = some f → f.here = true → f.key ≠ k

theorem here_count (g : FrS) : ∀ (l : List FrS) (i : Nat) (f : FrS), l[i]? = some f → ((l.set i g).filter FrS.here).length + (if f.here then 1 else 0) = (l.filter FrS.here).length + (if g.here then 1 else 0) := by
  intro l
  induction l with
  | nil => intro i f h; simp at h
  | cons a r ih =>
    intro i f hi
    cases i with
    | zero =>
      simp at hi
      subst hi
      simp only [List.set_cons_zero, List.filter_cons]
      split <;> split <;> simp
    | succ i =>
      simp only [List.getElem?_cons_succ] at hi
      have := ih i f hi
      simp only [List.set_cons_succ, List.filter_cons]
      split
      · simp only [List.length_cons]; omega
      · exact this
theorem NoKey.set {fs : List FrS} {k : Pr} (h : NoKey fs k) {i : Nat} {g : FrS} (hg : g.here = false) : NoKey (fs.set i g) k := by
  intro j x hx hxh
  by_cases e : i = j
  · subst e
    rw [List.getElem?_set] at hx
    simp at hx
    obtain ⟨-, rfl⟩ := hx
    rw [hg] at hxh
    cases hxh
  · rw [List.getElem?_set_ne e] at hx
    exact h j x hx hxh
theorem IOf.put {D : DataW Unit} {fs : List FrS} (h : IOf D fs) (hD : Tidy D) {i : Nat} {f g : FrS} (hi : fs[i]? = some f) (hf : f.here = false) (hg : g.here = true) (hw : wf2 g.key) (hno : NoKey fs g.key) : IOf (D.put (kK g.key) (.lit (.int .i64 i))) (fs.set i g) := by
  have hl : i < fs.length := (List.getElem?_eq_some_iff.1 hi).1
  have cases' : ∀ (j : Nat) (x : FrS), (fs.set i g)[j]? = some x → x.here = true → (j = i ∧ x = g) ∨ (j ≠ i ∧ fs[j]? = some x) := fun j x hx _ => by
    by_cases e : i = j
    · subst e
      rw [List.getElem?_set_self hl] at hx
      cases hx
      exact .inl ⟨rfl, rfl⟩
    · rw [List.getElem?_set_ne e] at hx
      exact .inr ⟨fun h => e h.symm, hx⟩
  have hnk : ∀ (j : Nat) (x : FrS), fs[j]? = some x → x.here = true → kK x.key ≠ kK g.key := fun j x hx hh e => hno j x hx hh (kK_inj (h.wf j x hx hh) hw e)
  have hh0 : ¬ Maps.has D (kK g.key) = true := fun e => by
    obtain ⟨j, x, h1, h2, h3⟩ := (h.has _ hw).1 e
    exact hno j x h1 h2 h3
  refine ⟨fun k hk => ?_, fun j x hx hxh z => ?_, ?_, fun j1 j2 x1 x2 hx1 hx2 hh1 hh2 hkk => ?_, fun j x hx hxh => ?_⟩
  · by_cases e : k = g.key
    · subst e
      rw [has_put_same hD.isMap (kK_key _)]
      exact ⟨fun _ => ⟨i, g, List.getElem?_set_self hl, hg, rfl⟩, fun _ => rfl⟩
    · rw [has_put_other (fun e' => e (kK_inj hk hw e')), h.has k hk]
      constructor
      · rintro ⟨j, x, h1, h2, h3⟩
        have hne : i ≠ j := fun e' => by
          subst e'
          rw [hi] at h1
          cases h1
          rw [hf] at h2
          cases h2
        exact ⟨j, x, by rw [List.getElem?_set_ne hne]; exact h1, h2, h3⟩
      · rintro ⟨j, x, h1, h2, h3⟩
        rcases cases' j x h1 h2 with ⟨-, rfl⟩ | ⟨-, h1'⟩
        · exact absurd h3.symm e
        · exact ⟨j, x, h1', h2, h3⟩
  · rcases cases' j x hx hxh with ⟨rfl, rfl⟩ | ⟨-, hx'⟩
    · exact atKey_put_same hD.isMap (kK_key _) _ _
    · rw [atKey_put_other (hnk j x hx' hxh)]
      exact h.val j x hx' hxh z
  · rw [size_put hD, if_neg hh0, h.size]
    have := here_count g fs i f hi
    rw [hf, hg] at this
    simpa using this.symm
  · rcases cases' j1 x1 hx1 hh1 with ⟨rfl, rfl⟩ | ⟨n1, hx1'⟩ <;> rcases cases' j2 x2 hx2 hh2 with ⟨rfl, rfl⟩ | ⟨n2, hx2'⟩
    · rfl
    · exact absurd hkk.symm (hno j2 x2 hx2' hh2)
    · exact absurd hkk (hno j1 x1 hx1' hh1)
    · exact h.uniq j1 j2 x1 x2 hx1' hx2' hh1 hh2 hkk
  · rcases cases' j x hx hxh with ⟨rfl, rfl⟩ | ⟨-, hx'⟩
    · exact hw
    · exact h.wf j x hx' hxh
theorem IOf.del {D : DataW Unit} {fs : List FrS} (h : IOf D fs) (hD : Tidy D) {i : Nat} {f g : FrS} (hi : fs[i]? = some f) (hf : f.here = true) (hg : g.here = false) : IOf (D.del (kK f.key)) (fs.set i g) := by
  have hl : i < fs.length := (List.getElem?_eq_some_iff.1 hi).1
  have hw := h.wf i f hi hf
  have back : ∀ (j : Nat) (x : FrS), (fs.set i g)[j]? = some x → x.here = true → j ≠ i ∧ fs[j]? = some x := fun j x hx hh => by
    by_cases e : i = j
    · subst e
      rw [List.getElem?_set_self hl] at hx
      cases hx
      rw [hg] at hh
      cases hh
    · rw [List.getElem?_set_ne e] at hx
      exact ⟨fun h => e h.symm, hx⟩
  have hne : ∀ (j : Nat) (x : FrS), j ≠ i → fs[j]? = some x → x.here = true → x.key ≠ f.key := fun j x hj hx hh e => hj (h.uniq j i x f hx hi hh hf e)
  refine ⟨fun k hk => ?_, fun j x hx hxh z => ?_, ?_, fun j1 j2 x1 x2 hx1 hx2 hh1 hh2 hkk => ?_, fun j x hx hxh => ?_⟩
  · by_cases e : k = f.key
    · subst e
      rw [has_del_same]
      refine ⟨fun h => by simp at h, fun ⟨j, x, h1, h2, h3⟩ => ?_⟩
      obtain ⟨hj, h1'⟩ := back j x h1 h2
      exact absurd h3 (hne j x hj h1' h2)
    · rw [has_del_other (fun e' => e (kK_inj hk hw e')), h.has k hk]
      constructor
      · rintro ⟨j, x, h1, h2, h3⟩
        have hji : i ≠ j := fun e' => by
          subst e'
          rw [hi] at h1
          cases h1
          exact e h3.symm
        exact ⟨j, x, by rw [List.getElem?_set_ne hji]; exact h1, h2, h3⟩
      · rintro ⟨j, x, h1, h2, h3⟩
        exact ⟨j, x, (back j x h1 h2).2, h2, h3⟩
  · obtain ⟨hj, hx'⟩ := back j x hx hxh
    rw [atKey_del_other (fun e' => hne j x hj hx' hxh (kK_inj (h.wf j x hx' hxh) hw e'))]
    exact h.val j x hx' hxh z
  · have hs := size_del (k := kK f.key) hD
    rw [if_pos ((h.has f.key hw).2 ⟨i, f, hi, hf, rfl⟩), h.size] at hs
    have := here_count g fs i f hi
    rw [hf, hg] at this
    simp at this
    omega
  · exact h.uniq j1 j2 x1 x2 (back j1 x1 hx1 hh1).2 (back j2 x2 hx2 hh2).2 hh1 hh2 hkk
  · exact h.wf j x (back j x hx hxh).2 hxh

/-- A cache's parts. -/
structure Bare (w : World) (base p lb m : Nat) (fs : List FrS) (hand : Nat) (n : Nat) (D : DataW Unit) (dvs : List Value) : Prop where
  blk : w.heap[p]? = some (.cells #[.slice (some ⟨lb, 0, none⟩) fs.length fs.length, .map (some m), .int .i64 hand] 120 (0, 0))
  hp : base ≤ p
  fr : ∃ cs, w.heap[lb]? = some (.cells cs 124 (0, 0)) ∧ cs.toList = flat dvs fs
  hlb : base ≤ lb
  len : dvs.length = fs.length
  dat : ∀ i (h : i < fs.length) (h' : i < dvs.length), w.ownsRow base 5 1 dvs[i] fs[i].data.length (fs[i].data.map encB8)
  map : w.ownsMap Try.prog 43 RI m n D
  hm : base ≤ m
  few : 0 < fs.length ∧ fs.length ≤ 64
  long : ∀ f ∈ fs, f.data.length ≤ 1000000
  hhand : hand < fs.length

section
variable {w : World} {base p lb m : Nat} {fs : List FrS} {hand n : Nat} {D : DataW Unit} {dvs : List Value}
theorem CacheAt.bare (h : CacheAt w base p lb m fs hand D dvs) : Bare w base p lb m fs hand (Maps.size D) D dvs := ⟨h.blk, h.hp, h.fr, h.hlb, h.len, h.dat, h.map, h.hm, h.few, h.long, h.hhand⟩
theorem Bare.lbp (h : Bare w base p lb m fs hand n D dvs) : lb ≠ p := fun e => by
  obtain ⟨cs, hb, -⟩ := h.fr
  rw [e, h.blk] at hb
  cases hb
theorem Bare.lbm (h : Bare w base p lb m fs hand n D dvs) : lb ≠ m := fun e => by
  obtain ⟨cs, hb, -⟩ := h.fr
  obtain ⟨es, ck, hb', _⟩ := h.map
  rw [e, hb'] at hb
  cases hb
theorem Bare.cells (h : Bare w base p lb m fs hand n D dvs) : w.cell? ⟨p, 0, none⟩ = some (.slice (some ⟨lb, 0, none⟩) fs.length fs.length) ∧ w.cell? ⟨p, 1, none⟩ = some (.map (some m)) ∧ w.cell? ⟨p, 2, none⟩ = some (.int .i64 hand) := by
  unfold World.cell?
  simp only [h.blk]
  exact ⟨rfl, rfl, rfl⟩
theorem Bare.moves0 {w' : World} (h : Bare w base p lb m fs hand n D dvs) (hm : Moves (fun _ => False) w w') : Bare w' base p lb m fs hand n D dvs := by
  obtain ⟨cs, hb, hc⟩ := h.fr
  exact ⟨(hm.block p (Array.getElem?_eq_some_iff.1 h.blk).1 (fun h => h)).trans h.blk, h.hp, ⟨cs, (hm.block lb (Array.getElem?_eq_some_iff.1 hb).1 (fun h => h)).trans hb, hc⟩, h.hlb, h.len, fun i hi hi' => own_moves (h.dat i hi hi') hm (fun g hg h => h), hm.ownsMap h.map (fun h => h), h.hm, h.few, h.long, h.hhand⟩
/-- Writes into a block of another kind. -/
theorem Bare.poke {w' : World} {ob : Nat} {cs : Array Value} {t : TypeId} {fr : Nat × Nat} (h : Bare w base p lb m fs hand n D dvs) (hb : w.heap[ob]? = some (.cells cs t fr)) (t1 : t ≠ 120) (t2 : t ≠ 124) (t3 : t ≠ 5) (hm : Moves (fun k => k = ob) w w') : Bare w' base p lb m fs hand n D dvs := by
  have hne : ∀ (g : Nat) (cs' : Array Value) (t' : TypeId) (fr' : Nat × Nat), w.heap[g]? = some (.cells cs' t' fr') → t' ≠ t → ¬ (fun k => k = ob) g := fun g cs' t' fr' hg ht e => by
    have e : g = ob := e
    rw [e, hb] at hg
    injection hg with hg
    injection hg with _ h1
    exact ht h1.symm
  obtain ⟨cf, hf, hfl⟩ := h.fr
  refine ⟨(hm.block p (Array.getElem?_eq_some_iff.1 h.blk).1 (hne p _ _ _ h.blk t1.symm)).trans h.blk, h.hp, ⟨cf, (hm.block lb (Array.getElem?_eq_some_iff.1 hf).1 (hne lb _ _ _ hf t2.symm)).trans hf, hfl⟩, h.hlb, h.len, fun i hi hi' => own_moves (h.dat i hi hi') hm (fun g hg => ?_), hm.ownsMap h.map (fun e => ?_), h.hm, h.few, h.long, h.hhand⟩
  · obtain ⟨cur, hc⟩ := own_block (h.dat i hi hi') hg
    exact hne g cur _ _ hc t3.symm
  · have e : m = ob := e
    obtain ⟨es, ck, hb', _⟩ := h.map
    rw [e, hb] at hb'
    cases hb'
/-- The map turned. -/
theorem Bare.remap {w' : World} {n' : Nat} {D' : DataW Unit} (h : Bare w base p lb m fs hand n D dvs) (hm : Moves (fun k => k = m) w w') (hown : w'.ownsMap Try.prog 43 RI m n' D') : Bare w' base p lb m fs hand n' D' dvs := by
  have hne : ∀ (g : Nat) (cs' : Array Value) (t' : TypeId) (fr' : Nat × Nat), w.heap[g]? = some (.cells cs' t' fr') → ¬ (fun k => k = m) g := fun g cs' t' fr' hg e => by
    have e : g = m := e
    obtain ⟨es, ck, hb', _⟩ := h.map
    rw [e, hb'] at hg
    cases hg
  obtain ⟨cf, hf, hfl⟩ := h.fr
  refine ⟨(hm.block p (Array.getElem?_eq_some_iff.1 h.blk).1 (hne p _ _ _ h.blk)).trans h.blk, h.hp, ⟨cf, (hm.block lb (Array.getElem?_eq_some_iff.1 hf).1 (hne lb _ _ _ hf)).trans hf, hfl⟩, h.hlb, h.len, fun i hi hi' => own_moves (h.dat i hi hi') hm (fun g hg => ?_), hown, h.hm, h.few, h.long, h.hhand⟩
  obtain ⟨cur, hc⟩ := own_block (h.dat i hi hi') hg
  exact hne g cur _ _ hc
theorem flat_set7 {dvs : List Value} {fs : List FrS} (hl : dvs.length = fs.length) {i : Nat} (hi : i < fs.length) (dv : Value) (f : FrS) :
    (((((((flat dvs fs).set (i * 7) (.int .i64 f.key.1)).set (i * 7 + 1) (.int .i64 f.key.2)).set (i * 7 + 2) dv).set (i * 7 + 3) (.bool f.here)).set (i * 7 + 4) (.bool f.dirty)).set (i * 7 + 5) (.bool f.mark)).set (i * 7 + 6) (.int .i64 f.pins) = flat (dvs.set i dv) (fs.set i f) := by
  induction fs generalizing dvs i with
  | nil => simp at hi
  | cons x fs ih =>
    cases dvs with
    | nil => simp at hl
    | cons d dvs =>
      cases i with
      | zero => rfl
      | succ i =>
        have e : ∀ r, (i + 1) * 7 + r = i * 7 + r + 7 := fun r => by omega
        rw [show (i + 1) * 7 = i * 7 + 7 by omega]
        simp only [flat, fcells, List.set_cons_succ, List.cons_append, List.nil_append, Nat.add_right_comm _ 7]
        rw [ih (by simpa using hl) (by simpa using hi)]
/-- A frame laid anew, cell by cell. -/
theorem Bare.lay (h : Bare w base p lb m fs hand n D dvs) {i : Nat} (hi : i < fs.length) {dv : Value} {f : FrS} (hd : w.ownsRow base 5 1 dv f.data.length (f.data.map encB8)) (hlong : f.data.length ≤ 1000000) :
    Bare (((((((w.setCell ⟨lb, i * 7, none⟩ (.int .i64 f.key.1)).setCell ⟨lb, i * 7 + 1, none⟩ (.int .i64 f.key.2)).setCell ⟨lb, i * 7 + 2, none⟩ dv).setCell ⟨lb, i * 7 + 3, none⟩ (.bool f.here)).setCell ⟨lb, i * 7 + 4, none⟩ (.bool f.dirty)).setCell ⟨lb, i * 7 + 5, none⟩ (.bool f.mark)).setCell ⟨lb, i * 7 + 6, none⟩ (.int .i64 f.pins)) base p lb m (fs.set i f) hand n D (dvs.set i dv) ∧
    Moves (fun k => k = lb) w (((((((w.setCell ⟨lb, i * 7, none⟩ (.int .i64 f.key.1)).setCell ⟨lb, i * 7 + 1, none⟩ (.int .i64 f.key.2)).setCell ⟨lb, i * 7 + 2, none⟩ dv).setCell ⟨lb, i * 7 + 3, none⟩ (.bool f.here)).setCell ⟨lb, i * 7 + 4, none⟩ (.bool f.dirty)).setCell ⟨lb, i * 7 + 5, none⟩ (.bool f.mark)).setCell ⟨lb, i * 7 + 6, none⟩ (.int .i64 f.pins)) := by
  have hm : Moves (fun k => k = lb) w (((((((w.setCell ⟨lb, i * 7, none⟩ (.int .i64 f.key.1)).setCell ⟨lb, i * 7 + 1, none⟩ (.int .i64 f.key.2)).setCell ⟨lb, i * 7 + 2, none⟩ dv).setCell ⟨lb, i * 7 + 3, none⟩ (.bool f.here)).setCell ⟨lb, i * 7 + 4, none⟩ (.bool f.dirty)).setCell ⟨lb, i * 7 + 5, none⟩ (.bool f.mark)).setCell ⟨lb, i * 7 + 6, none⟩ (.int .i64 f.pins)) :=
    Moves.setCell (p := ⟨lb, i * 7 + 6, none⟩) (Moves.setCell (p := ⟨lb, i * 7 + 5, none⟩) (Moves.setCell (p := ⟨lb, i * 7 + 4, none⟩) (Moves.setCell (p := ⟨lb, i * 7 + 3, none⟩) (Moves.setCell (p := ⟨lb, i * 7 + 2, none⟩) (Moves.setCell (p := ⟨lb, i * 7 + 1, none⟩) (Moves.setCell (p := ⟨lb, i * 7, none⟩) (Moves.refl (fun k => k = lb) w) (fun _ => rfl) _) (fun _ => rfl) _) (fun _ => rfl) _) (fun _ => rfl) _) (fun _ => rfl) _) (fun _ => rfl) _) (fun _ => rfl) _
  refine ⟨?_, hm⟩
  obtain ⟨cs, hb, hcs⟩ := h.fr
  have hne : ∀ (v : Value) (q : Nat) (xs : List Value), w.ownsRow base 5 1 v q xs → (((((((w.setCell ⟨lb, i * 7, none⟩ (.int .i64 f.key.1)).setCell ⟨lb, i * 7 + 1, none⟩ (.int .i64 f.key.2)).setCell ⟨lb, i * 7 + 2, none⟩ dv).setCell ⟨lb, i * 7 + 3, none⟩ (.bool f.here)).setCell ⟨lb, i * 7 + 4, none⟩ (.bool f.dirty)).setCell ⟨lb, i * 7 + 5, none⟩ (.bool f.mark)).setCell ⟨lb, i * 7 + 6, none⟩ (.int .i64 f.pins)).ownsRow base 5 1 v q xs := fun v q xs ho => own_moves ho hm (fun g hg e => by
    have e : g = lb := e
    obtain ⟨cur, hc⟩ := own_block ho hg
    rw [e, hb] at hc
    injection hc with hc
    injection hc with _ h1
    exact absurd h1 (by decide))
  refine ⟨?_, h.hp, ⟨(((((((cs.setIfInBounds (i * 7) (.int .i64 f.key.1)).setIfInBounds (i * 7 + 1) (.int .i64 f.key.2)).setIfInBounds (i * 7 + 2) dv).setIfInBounds (i * 7 + 3) (.bool f.here)).setIfInBounds (i * 7 + 4) (.bool f.dirty)).setIfInBounds (i * 7 + 5) (.bool f.mark)).setIfInBounds (i * 7 + 6) (.int .i64 f.pins)), ?_, ?_⟩, h.hlb, by simpa using h.len, fun j hj hj' => ?_, hm.ownsMap h.map (fun e => h.lbm e.symm), h.hm, by simpa using h.few, fun x hx => ?_, by simpa using h.hhand⟩
  · rw [List.length_set]
    exact (hm.block p (Array.getElem?_eq_some_iff.1 h.blk).1 (fun e => h.lbp e.symm)).trans h.blk
  · simp [World.setCell, Array.getElem?_modify, hb]
  · simp only [Array.toList_setIfInBounds, hcs]
    exact flat_set7 h.len hi dv f
  · by_cases e : i = j
    · subst e
      simp only [List.getElem_set_self]
      exact hne _ _ _ hd
    · simp only [List.getElem_set_ne e]
      exact hne _ _ _ (h.dat j (by simpa using hj) (by simpa using hj'))
  · rcases List.mem_or_eq_of_mem_set hx with hx | rfl
    · exact h.long x hx
    · exact hlong
end
theorem own_tight {w : World} {m n : Nat} {D : DataW Unit} (h : w.ownsMap Try.prog 43 RI m n D) : w.ownsMap Try.prog 43 RI m (Maps.size D) D := by
  obtain ⟨es, clock, hb, F, hs, rfl⟩ := h
  refine ⟨es, clock, hb, F, ?_, rfl⟩
  have e1 : Maps.size (DataW.map ((es.toList.map (Go.WideElems.rg Try.prog 43 RI)).foldr DataW.insert [])) = es.size := by simp [Maps.size, length_sorted]
  rw [e1]
  exact Nat.le_refl _
theorem Bare.whole {w : World} {base p lb m : Nat} {fs : List FrS} {hand n : Nat} {D : DataW Unit} {dvs : List Value} (h : Bare w base p lb m fs hand n D dvs) (hI : IOf D fs) : IsCache w base p lb m fs hand :=
  ⟨D, dvs, h.blk, h.hp, h.fr, h.hlb, h.len, h.dat, own_tight h.map, hI, h.hm, h.few, h.long, h.hhand⟩
end Go.Proofs.Ytbfnmgjpkieaoaa
