/-
  Keys of a map to numbers.
-/
import Derived.Test.YtbfnmgjpkieaoaaChecked
import Derived.Test.YtbfnmgjpkieaoaaHandData
import Derived.Test.YtbfnmgjpkieaoaaMapStore
import Derived.Test.YtbfnmgjpkieaoaaWords
import Derived.WalkKit
import Derived.StillTailTactics
import Derived.Lib.Hide
import Derived.Test.YtbfnmgjpkieaoaaKeyFuncs
import Derived.Test.YtbfnmgjpkieaoaaAppend
import Derived.DeepKeys4
import Derived.MapViews
import Derived.WideKeyPair
namespace Go.Proofs.Ytbfnmgjpkieaoaa
open Go Go.RowKit Go.Maps Go.Sort

def kK (p : Pr) : Lit := .string (keyBytes [.int .i64 p.1, .int .i64 p.2])
abbrev wf2 (p : Pr) : Prop := iw p.1 ∧ iw p.2

theorem lawK : Keyed Try.prog 43 :=
  Keyed.of_law (deep_law_laid (m := 2) (by kernel_rfl) (by omega) (of_decide_eq_true (by kernel_rfl)) (by kernel_rfl) (by rw [Try.underlying43]))

theorem wideK : (match Try.prog.underlying 43 with | some (.array _ _) | some (.struct _) => true | _ => false) = true := by rw [Try.underlying43]
theorem cellsOfK : Try.prog.cellsOf 43 = 2 := by kernel_rfl
theorem cellsOfI : Try.prog.cellsOf 3 = 1 := by kernel_rfl
theorem sizeT : ∃ n, Try.prog.types.size = n + 1 := Nat.exists_eq_succ_of_ne_zero (Nat.pos_iff_ne_zero.1 (of_decide_eq_true (by kernel_rfl)))

theorem lits_at (n : Nat) (u v : Value) : Try.prog.keyLits (n + 2) 43 [u, v] = (Try.prog.keyLits (n + 1) 3 [u]).bind fun a => (Try.prog.keyLits (n + 1) 3 [v]).map fun b => a ++ b := by
  conv => lhs; unfold Program.keyLits
  simp only [Try.underlying43]
  rw [if_pos ⟨by rw [cellsOfK]; rfl, by kernel_rfl⟩]
  simp only [List.mapM_cons, List.mapM_nil, cellsOfI]
  cases h1 : Try.prog.keyLits (n + 1) 3 [u] with
  | none => simp [h1]
  | some a =>
    cases h2 : Try.prog.keyLits (n + 1) 3 [v] with
    | none => simp [h1, h2]
    | some b => simp [h1, h2]
theorem lits_int (n : Nat) {a : Int} (h : iw a) : Try.prog.keyLits (n + 1) 3 [.int .i64 a] = some [.int .i64 a] := by
  unfold Program.keyLits
  simp only [Try.underlying3]
  rw [if_pos ⟨trivial, h⟩]
theorem lits_int_inv {n : Nat} {u : Value} {l : List Lit} (h : Try.prog.keyLits (n + 1) 3 [u] = some l) : ∃ a, u = .int .i64 a ∧ iw a ∧ l = [.int .i64 a] := by
  cases u <;> simp [Program.keyLits, Try.underlying3] at h
  rename_i k a
  obtain ⟨⟨rfl, hw⟩, rfl⟩ := h
  exact ⟨a, rfl, hw, rfl⟩

theorem keyOf_K {p : Pr} (h : wf2 p) : keyOf Try.prog 43 (encK p) = some (kK p) := by
  obtain ⟨n, hn⟩ := sizeT
  unfold keyOf
  simp only [Try.underlying43]
  rw [if_pos (by simp only [Bool.and_eq_true]; exact ⟨by kernel_rfl, by simp [Value.formed, Try.underlying43, cellsOfK]⟩), hn]
  show (Try.prog.keyLits (n + 2) 43 [.int .i64 p.1, .int .i64 p.2]).map _ = _
  rw [lits_at, lits_int _ h.1, lits_int _ h.2]
  rfl

set_option maxRecDepth 100000 in
theorem keyOf_K_inv {v : Value} {l : Lit} (h : keyOf Try.prog 43 v = some l) : ∃ p, v = encK p ∧ wf2 p ∧ l = kK p := by
  obtain ⟨xs, L, rfl, hL, rfl⟩ := keyOf_top wideK h
  obtain ⟨n, hn⟩ := sizeT
  rw [hn] at hL
  have h2 : xs.toList.length = 2 := by
    unfold Program.keyLits at hL
    simp only [Try.underlying43] at hL
    split at hL
    · rename_i h
      rw [h.1, cellsOfK]
    · cases hL
  obtain ⟨u, v, huv⟩ : ∃ u v, xs.toList = [u, v] := by
    match hx : xs.toList, h2 with
    | [u, v], _ => exact ⟨u, v, rfl⟩
  rw [huv, lits_at, Option.bind_eq_some_iff] at hL
  obtain ⟨a, ha, hb⟩ := hL
  obtain ⟨b, hb', rfl⟩ := Option.map_eq_some_iff.1 hb
  obtain ⟨x, rfl, wx, rfl⟩ := lits_int_inv ha
  obtain ⟨y, rfl, wy, rfl⟩ := lits_int_inv hb'
  refine ⟨(x, y), ?_, ⟨wx, wy⟩, rfl⟩
  show Value.agg xs = .agg #[.int .i64 x, .int .i64 y]
  congr 1
  exact Array.ext' huv

theorem kK_inj {p q : Pr} (hp : wf2 p) (hq : wf2 q) (h : kK p = kK q) : p = q := by
  have := lawK.inj (keyOf_K hp) (by rw [h]; exact keyOf_K hq)
  simpa [encK, Prod.ext_iff] using this
theorem kK_key (p : Pr) : WideAt.IsKeyLit (kK p) := trivial

noncomputable abbrev RI : Value → Option (DataW Unit × List MemPlace) := plainElem Try.prog 3

/-- A frame of the cache. -/
structure FrS where
  key : Pr
  data : List Int
  here : Bool
  dirty : Bool
  mark : Bool
  pins : Int
instance : Inhabited FrS := ⟨⟨(0, 0), [], false, false, false, 0⟩⟩
def zeroF : FrS := ⟨(0, 0), [], false, false, false, 0⟩

/-- The datum holds just the keys that are here, each with its place. -/
structure IOf (D : DataW Unit) (fs : List FrS) : Prop where
  has : ∀ k, wf2 k → (Maps.has D (kK k) = true ↔ ∃ (i : Nat) (f : FrS), fs[i]? = some f ∧ f.here = true ∧ f.key = k)
  val : ∀ (i : Nat) (f : FrS), fs[i]? = some f → f.here = true → ∀ z, D.atKey (kK f.key) z = .lit (.int .i64 i)
  size : Maps.size D = (fs.filter FrS.here).length
  uniq : ∀ (i j : Nat) (f g : FrS), fs[i]? = some f → fs[j]? = some g → f.here = true → g.here = true → f.key = g.key → i = j
  wf : ∀ (i : Nat) (f : FrS), fs[i]? = some f → f.here = true → wf2 f.key

theorem IOf.nil (n : Nat) : IOf (.map []) (List.replicate n zeroF) := by
  have h0 : ∀ (i : Nat) (f : FrS), (List.replicate n zeroF)[i]? = some f → f.here = true → False := fun i f h hh => by
    rw [List.getElem?_replicate] at h
    split at h
    · cases h; cases hh
    · cases h
  refine ⟨fun k _ => ⟨fun h => by simp [Maps.has] at h, fun ⟨i, f, h, hh, _⟩ => (h0 i f h hh).elim⟩, fun i f h hh => (h0 i f h hh).elim, ?_, fun i j f g h _ hh => (h0 i f h hh).elim, fun i f h hh => (h0 i f h hh).elim⟩
  have : (List.replicate n zeroF).filter FrS.here = [] := by
    rw [List.filter_eq_nil_iff]
    intro a ha
    have := List.eq_of_mem_replicate ha
    subst this
    simp [zeroF]
  rw [this]
  rfl
/-- A frame turned, its key and whether it is here as they were. -/
theorem IOf.turn {D : DataW Unit} {fs : List FrS} (h : IOf D fs) {i : Nat} {f g : FrS} (hi : fs[i]? = some f) (hk : g.key = f.key) (hh : g.here = f.here) : IOf D (fs.set i g) := by
  have hl : i < fs.length := (List.getElem?_eq_some_iff.1 hi).1
  have back : ∀ (j : Nat) (x : FrS), (fs.set i g)[j]? = some x → ∃ y : FrS, fs[j]? = some y ∧ x.key = y.key ∧ x.here = y.here := fun j x hx => by
    by_cases e : i = j
    · subst e
      rw [List.getElem?_set_self hl] at hx
      cases hx
      exact ⟨f, hi, hk, hh⟩
    · rw [List.getElem?_set_ne e] at hx
      exact ⟨x, hx, rfl, rfl⟩
  have forth : ∀ (j : Nat) (y : FrS), fs[j]? = some y → ∃ x : FrS, (fs.set i g)[j]? = some x ∧ x.key = y.key ∧ x.here = y.here := fun j y hy => by
    by_cases e : i = j
    · subst e
      rw [hi] at hy
      cases hy
      exact ⟨g, List.getElem?_set_self hl, hk, hh⟩
    · exact ⟨y, by rw [List.getElem?_set_ne e]; exact hy, rfl, rfl⟩
  refine ⟨fun k hw => (h.has k hw).trans ⟨?_, ?_⟩, fun j x hx hxh z => ?_, ?_, fun j1 j2 x1 x2 hx1 hx2 hh1 hh2 hkk => ?_, fun j x hx hxh => ?_⟩
  · rintro ⟨j, y, hy, h1, h2⟩
    obtain ⟨x, hx, e1, e2⟩ := forth j y hy
    exact ⟨j, x, hx, e2.trans h1, e1.trans h2⟩
  · rintro ⟨j, x, hx, h1, h2⟩
    obtain ⟨y, hy, e1, e2⟩ := back j x hx
    exact ⟨j, y, hy, e2.symm.trans h1, e1.symm.trans h2⟩
  · obtain ⟨y, hy, e1, e2⟩ := back j x hx
    rw [e1]
    exact h.val j y hy (e2.symm.trans hxh) z
  · rw [h.size]
    have : ∀ (l : List FrS) (i : Nat), l[i]? = some f → ((l.set i g).filter FrS.here).length = (l.filter FrS.here).length := by
      intro l
      induction l with
      | nil => intro i h; simp at h
      | cons a r ih =>
        intro i hi
        cases i with
        | zero =>
          simp at hi
          subst hi
          simp only [List.set_cons_zero, List.filter_cons, hh]
          split <;> simp
        | succ i =>
          simp only [List.getElem?_cons_succ] at hi
          simp only [List.set_cons_succ, List.filter_cons]
          split <;> simp [ih i hi]
    exact (this fs i hi).symm
  · obtain ⟨y1, hy1, e1, e2⟩ := back j1 x1 hx1
    obtain ⟨y2, hy2, e3, e4⟩ := back j2 x2 hx2
    exact h.uniq j1 j2 y1 y2 hy1 hy2 (e2.symm.trans hh1) (e4.symm.trans hh2) (e1.symm.trans (hkk.trans e3))
  · obtain ⟨y, hy, e1, e2⟩ := back j x hx
    rw [e1]
    exact h.wf j y hy (e2.symm.trans hxh)

/-! ### the frames' cells -/
def fcells (dv : Value) (f : FrS) : List Value := [.int .i64 f.key.1, .int .i64 f.key.2, dv, .bool f.here, .bool f.dirty, .bool f.mark, .int .i64 f.pins]
def flat : List Value → List FrS → List Value
  | dv :: dvs, f :: fs => fcells dv f ++ flat dvs fs
  | _, _ => []
theorem flat_get {dvs : List Value} {fs : List FrS} (hl : dvs.length = fs.length) {i : Nat} (hi : i < fs.length) {r : Nat} (hr : r < 7) : (flat dvs fs)[i * 7 + r]? = (fcells (dvs[i]'(by omega)) fs[i])[r]? := by
  induction fs generalizing dvs i with
  | nil => simp at hi
  | cons f fs ih =>
    cases dvs with
    | nil => simp at hl
    | cons dv dvs =>
      have hfl : (fcells dv f).length = 7 := rfl
      cases i with
      | zero =>
        simp only [flat, Nat.zero_mul, Nat.zero_add, List.getElem_cons_zero]
        rw [List.getElem?_append_left (by rw [hfl]; exact hr)]
      | succ i =>
        simp only [flat, List.getElem_cons_succ]
        rw [List.getElem?_append_right (by rw [hfl]; omega), hfl, show (i + 1) * 7 + r - 7 = i * 7 + r by omega]
        exact ih (by simpa using hl) (by simpa using hi)
theorem flat_set {dvs : List Value} {fs : List FrS} (hl : dvs.length = fs.length) {i : Nat} (hi : i < fs.length) {r : Nat} (hr : r < 7) {v dv' : Value} {f' : FrS} (h : (fcells (dvs[i]'(by omega)) fs[i]).set r v = fcells dv' f') :
    (flat dvs fs).set (i * 7 + r) v = flat (dvs.set i dv') (fs.set i f') := by
  induction fs generalizing dvs i with
  | nil => simp at hi
  | cons f fs ih =>
    cases dvs with
    | nil => simp at hl
    | cons dv dvs =>
      have hfl : (fcells dv f).length = 7 := rfl
      cases i with
      | zero =>
        simp only [flat, Nat.zero_mul, Nat.zero_add, List.set_cons_zero] at h ⊢
        rw [List.set_append_left _ _ (by rw [hfl]; exact hr)]
        simp only [List.getElem_cons_zero] at h
        rw [h]
      | succ i =>
        simp only [flat, List.set_cons_succ] at h ⊢
        rw [List.set_append_right _ _ (by rw [hfl]; omega), hfl, show (i + 1) * 7 + r - 7 = i * 7 + r by omega]
        congr 1
        exact ih (by simpa using hl) (by simpa using hi) (by simpa using h)
end Go.Proofs.Ytbfnmgjpkieaoaa
