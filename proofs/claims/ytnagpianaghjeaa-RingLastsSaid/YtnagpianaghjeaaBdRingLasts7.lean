/-
  Plain facts on a row of pairs of ints, rising in the first, as the datum of a map from int to int; and what the calls of a table of handles make of such a row.
  Words of the layer of keys in which no function of the program stands: draws and blocks at the end; two numbers compared.
-/
import Derived.Maps.RangeWalk
import Derived.Maps.Ext
import Derived.Lib.SlKeysI
import Derived.Test.YtnagpianaghjeaaChecked
import Derived.Test.YtnagpianaghjeaaBdRingLasts1
import Derived.Sort.Grow
import Derived.Deep.RegionHeld3
import Derived.BigQuiet
import Derived.Deep.QuietTactic
import Derived.WalkKit
import Derived.Lib.Hide
namespace Go.Proofs.Ytnagpianaghjeaa
open Go Go.Maps

abbrev Pr := Int × Int
abbrev iw (a : Int) : Prop := (Lit.int .i64 a).wf = true
abbrev kI (a : Int) : Lit := .int .i64 a

theorem iw_of {a : Int} (h0 : -9223372036854775808 ≤ a) (h1 : a ≤ 9223372036854775807) : iw a := by
  show (Lit.int .i64 a).wf = true
  simp [Lit.wf, IntKind.min, IntKind.max, IntKind.signed, IntKind.bits]
  omega
theorem iw_lo {a : Int} (h : iw a) : -9223372036854775808 ≤ a ∧ a ≤ 9223372036854775807 := by
  have h' : (Lit.int .i64 a).wf = true := h
  simpa [Lit.wf, IntKind.min, IntKind.max, IntKind.signed, IntKind.bits] using h'

section
variable {H : Type}

def ent (p : Pr) : Lit × DataW H := (kI p.1, .lit (kI p.2))
def dat (R : List Pr) : DataW H := .map (R.map ent)

def Rise (R : List Pr) : Prop := R.Pairwise (fun a b => a.1 < b.1)
def look (R : List Pr) (k : Int) : Option Int := (R.find? (fun p => p.1 == k)).map (·.2)
def hasK (R : List Pr) (k : Int) : Bool := R.any (fun p => p.1 == k)

theorem sameKey_kI (a b : Int) : (kI a).sameKey (kI b) = (a == b) := by
  simp only [Lit.sameKey, true_and]
  by_cases h : a = b <;> simp [h]

theorem before_kI (a b : Int) : (kI a).before (kI b) = decide (a < b) := rfl

theorem has_dat (R : List Pr) (k : Int) : has (dat R : DataW H) (kI k) = hasK R k := by
  show (R.map ent).any (fun p : Lit × DataW H => p.1.sameKey (kI k)) = R.any (fun p => p.1 == k)
  rw [List.any_map]
  congr 1
  funext p
  exact sameKey_kI p.1 k

theorem size_dat (R : List Pr) : size (dat R : DataW H) = R.length := by simp [dat, size]

theorem intKeys_dat (R : List Pr) : intKeys (dat R : DataW H) = R.map (·.1) := by
  simp [dat, intKeys, ent, intOf, List.map_map, Function.comp_def]

theorem atKey_dat (R : List Pr) (k : Int) (z : DataW H) : (dat R : DataW H).atKey (kI k) z = match look R k with | some n => .lit (kI n) | none => z := by
  unfold dat DataW.atKey look
  simp only [List.find?_map]
  have : ((fun p : Lit × DataW H => p.1.sameKey (kI k)) ∘ ent) = fun p : Pr => p.1 == k := by
    funext p
    exact sameKey_kI p.1 k
  rw [this]
  cases R.find? (fun p => p.1 == k) <;> rfl

theorem look_isSome (R : List Pr) (k : Int) : (look R k).isSome = hasK R k := by
  unfold look hasK
  rw [Option.isSome_map]
  induction R with
  | nil => rfl
  | cons a r ih =>
    by_cases h : a.1 = k
    · simp [h]
    · have : (a.1 == k) = false := by simpa using h
      rw [List.find?_cons, List.any_cons, this]
      simpa using ih

theorem del_dat (R : List Pr) (k : Int) : (dat R : DataW H).del (kI k) = dat (R.filter (fun p => !(p.1 == k))) := by
  unfold dat DataW.del
  simp only [List.filter_map]
  congr 3
  funext p
  show (!(kI p.1).sameKey (kI k)) = _
  rw [sameKey_kI]

theorem insert_last (x : Lit × DataW H) : ∀ l : List (Lit × DataW H), (∀ p ∈ l, x.1.before p.1 = false) → DataW.insert x l = l ++ [x]
  | [], _ => rfl
  | y :: r, h => by
    unfold DataW.insert
    rw [h y (by simp)]
    simp [insert_last x r (fun p hp => h p (by simp [hp]))]

theorem put_new (R : List Pr) (k n : Int) (h : ∀ p ∈ R, p.1 < k) : (dat R : DataW H).put (kI k) (.lit (kI n)) = dat (R ++ [(k, n)]) := by
  unfold dat DataW.put
  have h1 : (R.map (ent (H := H))).filter (fun p => !p.1.sameKey (kI k)) = R.map ent := by
    rw [List.filter_eq_self]
    intro p hp
    obtain ⟨q, hq, rfl⟩ := List.mem_map.1 hp
    have := h q hq
    show (!(kI q.1).sameKey (kI k)) = true
    rw [sameKey_kI]
    simp
    omega
  simp only [h1]
  rw [insert_last]
  · simp [ent]
  · intro p hp
    obtain ⟨q, hq, rfl⟩ := List.mem_map.1 hp
    have := h q hq
    show (kI k).before (kI q.1) = false
    rw [before_kI]
    simp
    omega

theorem insert_first (x : Lit × DataW H) (l : List (Lit × DataW H)) (h : ∀ p ∈ l, x.1.before p.1 = true) : DataW.insert x l = x :: l := by
  cases l with
  | nil => rfl
  | cons y r => unfold DataW.insert; rw [if_pos (h y (by simp))]

/-- A store at a key that is there. -/
theorem put_there (k n : Int) : ∀ R : List Pr, Rise R → hasK R k = true → (dat R : DataW H).put (kI k) (.lit (kI n)) = dat (R.map (fun p => if p.1 = k then (k, n) else p)) := by
  intro R hR hk
  show DataW.map (DataW.insert (kI k, .lit (kI n)) ((R.map ent).filter fun p => !p.1.sameKey (kI k))) = DataW.map ((R.map (fun p => if p.1 = k then (k, n) else p)).map ent)
  congr 1
  rw [List.filter_map]
  have e1 : ((fun p : Lit × DataW H => !p.1.sameKey (kI k)) ∘ ent) = fun p : Pr => !(p.1 == k) := by
    funext p
    show (!(kI p.1).sameKey (kI k)) = _
    rw [sameKey_kI]
  rw [e1]
  clear e1
  induction R with
  | nil => simp [hasK] at hk
  | cons a r ih =>
    obtain ⟨ha, hr⟩ := List.pairwise_cons.1 hR
    by_cases e : a.1 = k
    · have hf : r.filter (fun p => !(p.1 == k)) = r := by
        rw [List.filter_eq_self]
        intro p hp
        have := ha p hp
        simp
        omega
      have hm : r.map (fun p => if p.1 = k then (k, n) else p) = r := by
        conv => rhs; rw [← List.map_id r]
        refine List.map_congr_left fun p hp => ?_
        have := ha p hp
        rw [if_neg (by omega)]
        rfl
      rw [List.filter_cons, List.map_cons, if_neg (by simp [e]), hf, if_pos e, hm]
      rw [insert_first]
      · rfl
      · intro p hp
        obtain ⟨q, hq, rfl⟩ := List.mem_map.1 hp
        have := ha q hq
        show (kI k).before (kI q.1) = true
        rw [before_kI]
        simp
        omega
    · have hk' : hasK r k = true := by simpa [hasK, e] using hk
      have hlt : a.1 < k := by
        obtain ⟨p, hp, hpk⟩ := List.any_eq_true.1 hk'
        have := ha p hp
        have : p.1 = k := by simpa using hpk
        omega
      rw [List.filter_cons, List.map_cons, if_pos (by simp [e]), if_neg e, List.map_cons, List.map_cons]
      unfold DataW.insert
      rw [if_neg (by show ¬ ((kI k).before (kI a.1) = true); rw [before_kI]; simp; omega)]
      rw [ih hr hk']

theorem Rise.filter {R : List Pr} (h : Rise R) (f : Pr → Bool) : Rise (R.filter f) := List.Pairwise.filter _ h
theorem Rise.snoc {R : List Pr} (h : Rise R) {k n : Int} (hk : ∀ p ∈ R, p.1 < k) : Rise (R ++ [(k, n)]) :=
  List.pairwise_append.2 ⟨h, by simp, fun a ha b hb => by simp at hb; subst hb; exact hk a ha⟩

/-- The keys of a rising row, sorted, are its keys. -/
theorem keys_sorted {R : List Pr} (h : Rise R) {ss : List Int} (hp : ss.Perm (R.map (·.1))) : ss.mergeSort leI = R.map (·.1) := by
  rw [mergeSort_of_perm_i hp]
  refine List.mergeSort_of_pairwise (le := leI) ?_
  refine List.pairwise_map.2 (List.Pairwise.imp (fun {a b} hab => ?_) h)
  simp [leI]
  omega

theorem look_mem {R : List Pr} {k n : Int} (h : look R k = some n) : (k, n) ∈ R := by
  unfold look at h
  obtain ⟨p, hp, rfl⟩ := Option.map_eq_some_iff.1 h
  have h1 := List.find?_some hp
  have h2 := List.mem_of_find?_eq_some hp
  simp at h1
  obtain ⟨a, b⟩ := p
  simp at h1
  subst h1
  exact h2

theorem look_of_mem {R : List Pr} (hR : Rise R) {k n : Int} (h : (k, n) ∈ R) : look R k = some n := by
  unfold look
  induction R with
  | nil => simp at h
  | cons a r ih =>
    obtain ⟨ha, hr⟩ := List.pairwise_cons.1 hR
    rcases List.mem_cons.1 h with e | h'
    · subst e; simp
    · have := ha _ h'
      rw [List.find?_cons_of_neg (by simp; simp at this; omega)]
      exact ih hr h'

end

/-! ### What the calls make of a row -/

/-- A table's row: rising handles from 1 on to the last one, nodes from 1 on, 256 at most. -/
structure Ok (R : List Pr) (last : Int) : Prop where
  rise : Rise R
  key : ∀ p ∈ R, 1 ≤ p.1 ∧ p.1 ≤ last
  node : ∀ p ∈ R, 1 ≤ p.2 ∧ p.2 ≤ 9223372036854775807
  len : R.length ≤ 256
  last0 : 0 ≤ last
  last1 : last ≤ 1000000

theorem Ok.nil : Ok [] 0 := ⟨List.Pairwise.nil, by simp, by simp, by simp, by omega, by omega⟩
theorem Ok.filter {R : List Pr} {last : Int} (h : Ok R last) (f : Pr → Bool) : Ok (R.filter f) last :=
  ⟨h.rise.filter f, fun p hp => h.key p (List.mem_filter.1 hp).1, fun p hp => h.node p (List.mem_filter.1 hp).1, Nat.le_trans (List.length_filter_le _ _) h.len, h.last0, h.last1⟩
theorem Ok.below {R : List Pr} {last : Int} (h : Ok R last) : ∀ p ∈ R, p.1 < last + 1 := fun p hp => by have := h.key p hp; omega
theorem Ok.snoc {R : List Pr} {last n : Int} (h : Ok R last) (hl : R.length < 256) (hn : 1 ≤ n) (hn' : n ≤ 9223372036854775807) (h1 : last < 1000000) : Ok (R ++ [(last + 1, n)]) (last + 1) :=
  ⟨h.rise.snoc h.below, fun p hp => by
    rcases List.mem_append.1 hp with hp | hp
    · have := h.key p hp; omega
    · simp at hp; subst hp; simp; have := h.last0; omega, fun p hp => by
    rcases List.mem_append.1 hp with hp | hp
    · exact h.node p hp
    · simp at hp; subst hp; exact ⟨hn, hn'⟩, by simp; omega, by have := h.last0; omega, by omega⟩
theorem Ok.wf {R : List Pr} {last : Int} (h : Ok R last) {p : Pr} (hp : p ∈ R) : iw p.1 ∧ iw p.2 := by
  have h1 := h.key p hp
  have h2 := h.node p hp
  have h3 := h.last1
  exact ⟨iw_of (by omega) (by omega), iw_of (by omega) (by omega)⟩

theorem filterMap_same {α β : Type} {f g : α → Option β} : ∀ {l : List α}, (∀ p ∈ l, f p = g p) → l.filterMap f = l.filterMap g
  | [], _ => rfl
  | a :: r, h => by
    rw [List.filterMap_cons, List.filterMap_cons, h a (by simp), filterMap_same (fun p hp => h p (by simp [hp]))]

/-- A pair by other numbers, or none. -/
def ren (to : List Int) (p : Pr) : Option Pr := if p.2 ≤ to.length ∧ 1 ≤ to.getD (p.2 - 1).toNat 0 then some (p.1, to.getD (p.2 - 1).toNat 0) else none

/-- A row half renumbered: those that are still to come as they are. -/
def renL (to : List Int) (left : Lit → Bool) (p : Pr) : Option Pr := if left (kI p.1) then some p else ren to p

theorem ren_key {to : List Int} {p q : Pr} (h : ren to p = some q) : q.1 = p.1 := by
  unfold ren at h
  split at h
  · cases h; rfl
  · cases h
theorem renL_key {to : List Int} {left : Lit → Bool} {p q : Pr} (h : renL to left p = some q) : q.1 = p.1 := by
  unfold renL at h
  split at h
  · cases h; rfl
  · exact ren_key h

theorem mem_filterMap_key {f : Pr → Option Pr} (hf : ∀ p q, f p = some q → q.1 = p.1) {R : List Pr} {q : Pr} (h : q ∈ R.filterMap f) : ∃ p ∈ R, p.1 = q.1 ∧ f p = some q := by
  obtain ⟨p, hp, hq⟩ := List.mem_filterMap.1 h
  exact ⟨p, hp, (hf p q hq).symm, hq⟩

theorem Rise.filterMap {R : List Pr} (h : Rise R) {f : Pr → Option Pr} (hf : ∀ p q, f p = some q → q.1 = p.1) : Rise (R.filterMap f) := by
  refine List.Pairwise.filterMap f (fun a b hab q hq r hr => ?_) h
  rw [hf a q hq, hf b r hr]
  exact hab

theorem renL_has0 {H : Type} (to : List Int) (R : List Pr) : R.filterMap (renL to (Maps.has (dat R : DataW H))) = R := by
  have : ∀ p ∈ R, renL to (Maps.has (dat R : DataW H)) p = some p := fun p hp => by
    unfold renL
    rw [has_dat, if_pos]
    exact List.any_eq_true.2 ⟨p, hp, by simp⟩
  rw [filterMap_same this]
  simp

theorem look_of_at {H : Type} {R : List Pr} {k c : Int} (h : ∀ z, (dat R : DataW H).atKey (kI k) z = .lit (kI c)) : look R k = some c := by
  have h1 := h .nil
  rw [atKey_dat] at h1
  cases hl : look R k with
  | none => rw [hl] at h1; cases h1
  | some n => rw [hl] at h1; simpa using h1

theorem renL_congr {to : List Int} {l l' : Lit → Bool} {R : List Pr} (h : ∀ p ∈ R, l (kI p.1) = l' (kI p.1)) : R.filterMap (renL to l) = R.filterMap (renL to l') :=
  filterMap_same fun p hp => by unfold renL; rw [h p hp]

theorem renL_end (to : List Int) {left : Lit → Bool} (h : ∀ k, left k = false) (R : List Pr) : R.filterMap (renL to left) = R.filterMap (ren to) :=
  filterMap_same fun p _ => by unfold renL; rw [h]; simp

/-- The pair (x, c) has come, and goes. -/
theorem renL_gone (to : List Int) (left : Lit → Bool) {R : List Pr} (hR : Rise R) {x c : Int} (hm : (x, c) ∈ R) (hn : ren to (x, c) = none) :
    (R.filterMap (renL to left)).filter (fun p => !(p.1 == x)) = R.filterMap (renL to (fun z => left z && !z.sameKey (kI x))) := by
  rw [List.filter_filterMap]
  refine filterMap_same fun p hp => ?_
  by_cases e : p.1 = x
  · have : p = (x, c) := by
      have h1 := look_of_mem hR hm
      have h2 := look_of_mem hR (show (p.1, p.2) ∈ R from hp)
      rw [e, h1] at h2
      exact Prod.ext e (by simpa using h2.symm)
    subst this
    have h3 : renL to (fun z => left z && !z.sameKey (kI x)) (x, c) = none := by
      unfold renL
      rw [if_neg (by simp [sameKey_kI]), hn]
    rw [h3]
    cases hq : renL to left (x, c) with
    | none => rfl
    | some q =>
      have := renL_key hq
      simp [this]
  · have h3 : renL to (fun z => left z && !z.sameKey (kI x)) p = renL to left p := by
      unfold renL
      simp only [sameKey_kI]
      have : (p.1 == x) = false := by simpa using e
      rw [this]
      simp
    rw [h3]
    cases hq : renL to left p with
    | none => rfl
    | some q =>
      have := renL_key hq
      simp [this, e]

/-- The pair (x, c) has come, and is for another node. -/
theorem renL_turned (to : List Int) (left : Lit → Bool) {R : List Pr} (hR : Rise R) {x c d : Int} (hm : (x, c) ∈ R) (hl : left (kI x) = true) (hn : ren to (x, c) = some (x, d)) :
    (R.filterMap (renL to left)).map (fun p => if p.1 = x then (x, d) else p) = R.filterMap (renL to (fun z => left z && !z.sameKey (kI x))) := by
  rw [List.map_filterMap]
  refine filterMap_same fun p hp => ?_
  by_cases e : p.1 = x
  · have : p = (x, c) := by
      have h1 := look_of_mem hR hm
      have h2 := look_of_mem hR (show (p.1, p.2) ∈ R from hp)
      rw [e, h1] at h2
      exact Prod.ext e (by simpa using h2.symm)
    subst this
    have h3 : renL to (fun z => left z && !z.sameKey (kI x)) (x, c) = some (x, d) := by
      unfold renL
      rw [if_neg (by simp [sameKey_kI]), hn]
    have h4 : renL to left (x, c) = some (x, c) := by
      unfold renL
      rw [if_pos hl]
    rw [h3, h4]
    simp
  · have h3 : renL to (fun z => left z && !z.sameKey (kI x)) p = renL to left p := by
      unfold renL
      simp only [sameKey_kI]
      have : (p.1 == x) = false := by simpa using e
      rw [this]
      simp
    rw [h3]
    cases hq : renL to left p with
    | none => rfl
    | some q =>
      have := renL_key hq
      simp [this, e]

theorem renL_has {to : List Int} {left : Lit → Bool} {R : List Pr} {x c : Int} (hm : (x, c) ∈ R) (hl : left (kI x) = true) : hasK (R.filterMap (renL to left)) x = true :=
  List.any_eq_true.2 ⟨(x, c), List.mem_filterMap.2 ⟨(x, c), hm, by unfold renL; rw [if_pos hl]⟩, by simp⟩

/-- What stands at a key that is still to come. -/
theorem renL_look {to : List Int} {left : Lit → Bool} {R : List Pr} {x c : Int} (hl : left (kI x) = true) (h : look (R.filterMap (renL to left)) x = some c) : (x, c) ∈ R := by
  have h1 := look_mem h
  obtain ⟨p, hp, hk, hq⟩ := mem_filterMap_key (fun _ _ => renL_key) h1
  unfold renL at hq
  rw [show p.1 = x from hk, if_pos hl] at hq
  cases hq
  exact hp

theorem Ok.ren {R : List Pr} {last : Int} (h : Ok R last) {to : List Int} (ht : ∀ x ∈ to, x ≤ 9223372036854775807) : Ok (R.filterMap (ren to)) last := by
  refine ⟨h.rise.filterMap (fun _ _ => ren_key), fun q hq => ?_, fun q hq => ?_, Nat.le_trans (List.length_filterMap_le _ _) h.len, h.last0, h.last1⟩
  · obtain ⟨p, hp, hk, _⟩ := mem_filterMap_key (fun _ _ => ren_key) hq
    rw [← hk]
    exact h.key p hp
  · obtain ⟨p, hp, hk, hr⟩ := mem_filterMap_key (fun _ _ => ren_key) hq
    unfold Go.Proofs.Ytnagpianaghjeaa.ren at hr
    split at hr
    · rename_i hc
      cases hr
      refine ⟨hc.2, ?_⟩
      have hn := h.node p hp
      have hlt : (p.2 - 1).toNat < to.length := by omega
      show to.getD (p.2 - 1).toNat 0 ≤ _
      rw [List.getD_eq_getElem?_getD, List.getElem?_eq_getElem hlt]
      exact ht _ (List.getElem_mem hlt)
    · cases hr

/-- The least handle that is for a node. -/
def least (R : List Pr) (node : Int) : Option Int := (R.find? (fun p => p.2 == node)).map (·.1)

end Go.Proofs.Ytnagpianaghjeaa
namespace Go.Proofs.Ytnagpianaghjeaa
open Go Go.RowKit Go.Maps Go.Sort

/-- Draws and blocks at the end: nothing else has turned. -/
def Lays (w w' : World) : Prop := ∃ q os, w' = grow (w.drewN q) os

theorem Lays.refl (w : World) : Lays w w := ⟨0, #[], by simp; rfl⟩
theorem Lays.alloc {w w' : World} (h : Lays w w') (o : Obj) : Lays w (w'.alloc o) := by
  obtain ⟨q, os, rfl⟩ := h
  exact ⟨q, os ++ #[o], by rw [alloc_eq_grow, grow_grow]⟩
theorem Lays.drewN {w w' : World} (h : Lays w w') (n : Nat) : Lays w (w'.drewN n) := by
  obtain ⟨q, os, rfl⟩ := h
  exact ⟨q + n, os, by rw [← World.drewN_drewN]; rfl⟩
theorem Lays.drew {w w' : World} (h : Lays w w') : Lays w w'.drew := h.drewN 1
theorem Lays.trans {w w' w'' : World} (h : Lays w w') (k : Lays w' w'') : Lays w w'' := by
  obtain ⟨q, os, rfl⟩ := k
  obtain ⟨q', os', e⟩ := h.drewN q
  exact ⟨q', os' ++ os, by rw [e, grow_grow]⟩
theorem Lays.moves {w w' : World} (h : Lays w w') (S : Nat → Prop) : Moves S w w' := by
  obtain ⟨q, os, rfl⟩ := h
  refine ⟨rfl, rfl, rfl, by simp [grow], fun i hi _ => ?_⟩
  show (w.heap ++ os)[i]? = w.heap[i]?
  rw [Array.getElem?_append_left hi]

abbrev encK (p : Pr) : Value := .agg #[.int .i64 p.1, .int .i64 p.2]
def cmpI (x y : Int) : Int := if x < y then -1 else if y < x then 1 else 0
def cmpK (p q : Pr) : Int := if cmpI p.1 q.1 = 0 then cmpI p.2 q.2 else cmpI p.1 q.1

theorem cmpI_lt {x y : Int} (h : x < y) : cmpI x y = -1 := if_pos h
theorem cmpI_gt {x y : Int} (h : y < x) : cmpI x y = 1 := by unfold cmpI; rw [if_neg (by omega), if_pos h]
theorem cmpI_eq (x : Int) : cmpI x x = 0 := by unfold cmpI; rw [if_neg (by omega), if_neg (by omega)]

def SameP (w : World) (v : Value) (e : Ending) (w' : World) : Prop := e = .returned v ∧ w = w'

theorem cell2 (w : World) (a b : Value) (t : TypeId) : (w.alloc (.cells #[a, b] t)).cell? ⟨w.heap.size, 0, none⟩ = some a ∧ (w.alloc (.cells #[a, b] t)).cell? ⟨w.heap.size, 1, none⟩ = some b := by
  have := heap_alloc_new w (.cells #[a, b] t)
  unfold World.cell?
  simp only [this]
  exact ⟨rfl, rfl⟩

def CmpPost (w : World) (c : Int) (e : Ending) (w' : World) : Prop := e = .returned (.int .i64 c) ∧ Lays w w'
end Go.Proofs.Ytnagpianaghjeaa
