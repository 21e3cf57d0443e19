/-
  The disk's pending writes as a map's datum.
-/
import Derived.Test.YtnagpianaghjeaaChecked
import Derived.Test.YtnagpianaghjeaaBdRingLasts7
import Derived.Test.YtnagpianaghjeaaBdRingLasts9
import Derived.Test.YtnagpianaghjeaaBdRingLasts1
import Derived.WalkKit
import Derived.StillTailTactics
import Derived.Lib.Hide
import Derived.Test.YtnagpianaghjeaaBdRingLasts5
import Derived.DeepKeys4
import Derived.MapViews
import Derived.WideKeyPair
namespace Go.Proofs.Ytnagpianaghjeaa.Pl
open Go Go.RowKit Go.Maps Go.Sort

def kK (p : Pr) : Lit := .string (keyBytes [.int .i64 p.1, .int .i64 p.2])
abbrev wf2 (p : Pr) : Prop := iw p.1 ∧ iw p.2

theorem lawK : Keyed Try.prog 144 :=
  Keyed.of_law (deep_law_laid (m := 2) (by kernel_rfl) (by omega) (of_decide_eq_true (by kernel_rfl)) (by kernel_rfl) (by rw [Try.underlying144]))

theorem wideK : (match Try.prog.underlying 144 with | some (.array _ _) | some (.struct _) => true | _ => false) = true := by rw [Try.underlying144]
theorem cellsOfK : Try.prog.cellsOf 144 = 2 := by kernel_rfl
theorem cellsOfI : Try.prog.cellsOf 3 = 1 := by kernel_rfl
theorem sizeT : ∃ n, Try.prog.types.size = n + 1 := Nat.exists_eq_succ_of_ne_zero (Nat.pos_iff_ne_zero.1 (of_decide_eq_true (by kernel_rfl)))

theorem lits_at (n : Nat) (u v : Value) : Try.prog.keyLits (n + 2) 144 [u, v] = (Try.prog.keyLits (n + 1) 3 [u]).bind fun a => (Try.prog.keyLits (n + 1) 3 [v]).map fun b => a ++ b := by
  conv => lhs; unfold Program.keyLits
  simp only [Try.underlying144]
  rw [if_pos ⟨by rw [cellsOfK]; rfl, by kernel_rfl⟩]
  simp only [List.mapM_cons, List.mapM_nil, cellsOfI]
  cases h1 : Try.prog.keyLits (n + 1) 3 [u] with
  | none => simp [h1]
  | some a =>
    cases h2 : Try.prog.keyLits (n + 1) 3 [v] with
    | none => simp [h1, h2]
    | some b => simp [h1, h2]
theorem lits_int (n : Nat) {a : Int} (h : iw a) : Try.prog.keyLits (n + 1) 3 [.int .i64 a] = some [.int .i64 a] := by
  unfold Program.keyLits
  simp only [Try.underlying3]
  rw [if_pos ⟨trivial, h⟩]
theorem lits_int_inv {n : Nat} {u : Value} {l : List Lit} (h : Try.prog.keyLits (n + 1) 3 [u] = some l) : ∃ a, u = .int .i64 a ∧ iw a ∧ l = [.int .i64 a] := by
  cases u <;> simp [Program.keyLits, Try.underlying3] at h
  rename_i k a
  obtain ⟨⟨rfl, hw⟩, rfl⟩ := h
  exact ⟨a, rfl, hw, rfl⟩

theorem keyOf_K {p : Pr} (h : wf2 p) : keyOf Try.prog 144 (encK p) = some (kK p) := by
  obtain ⟨n, hn⟩ := sizeT
  unfold keyOf
  simp only [Try.underlying144]
  rw [if_pos (by simp only [Bool.and_eq_true]; exact ⟨by kernel_rfl, by simp [Value.formed, Try.underlying144, cellsOfK]⟩), hn]
  show (Try.prog.keyLits (n + 2) 144 [.int .i64 p.1, .int .i64 p.2]).map _ = _
  rw [lits_at, lits_int _ h.1, lits_int _ h.2]
  rfl

set_option maxRecDepth 100000 in
theorem keyOf_K_inv {v : Value} {l : Lit} (h : keyOf Try.prog 144 v = some l) : ∃ p, v = encK p ∧ wf2 p ∧ l = kK p := by
  obtain ⟨xs, L, rfl, hL, rfl⟩ := keyOf_top wideK h
  obtain ⟨n, hn⟩ := sizeT
  rw [hn] at hL
  have h2 : xs.toList.length = 2 := by
    unfold Program.keyLits at hL
    simp only [Try.underlying144] at hL
    split at hL
    · rename_i h
      rw [h.1, cellsOfK]
    · cases hL
  obtain ⟨u, v, huv⟩ : ∃ u v, xs.toList = [u, v] := by
    match hx : xs.toList, h2 with
    | [u, v], _ => exact ⟨u, v, rfl⟩
  rw [huv, lits_at, Option.bind_eq_some_iff] at hL
  obtain ⟨a, ha, hb⟩ := hL
  obtain ⟨b, hb', rfl⟩ := Option.map_eq_some_iff.1 hb
  obtain ⟨x, rfl, wx, rfl⟩ := lits_int_inv ha
  obtain ⟨y, rfl, wy, rfl⟩ := lits_int_inv hb'
  refine ⟨(x, y), ?_, ⟨wx, wy⟩, rfl⟩
  show Value.agg xs = .agg #[.int .i64 x, .int .i64 y]
  congr 1
  exact Array.ext' huv

theorem kK_inj {p q : Pr} (hp : wf2 p) (hq : wf2 q) (h : kK p = kK q) : p = q := by
  have := lawK.inj (keyOf_K hp) (by rw [h]; exact keyOf_K hq)
  simpa [encK, Prod.ext_iff] using this
theorem kK_key (p : Pr) : WideAt.IsKeyLit (kK p) := trivial

/-- How a slice in a map reads: as itself. -/
def RV : Value → Option (DataW Value × List MemPlace) := fun v => some (.held v, [])

/-- The datum holds just these places, each with its slice. -/
structure VOf (D : DataW Value) (M : List (Pr × Value)) : Prop where
  nodup : (M.map Prod.fst).Nodup
  wf : ∀ p ∈ M, wf2 p.1
  has : ∀ p, wf2 p → (Maps.has D (kK p) = true ↔ p ∈ M.map Prod.fst)
  val : ∀ p ∈ M, ∀ z, D.atKey (kK p.1) z = .held p.2
  size : Maps.size D = M.length

theorem VOf.nil : VOf (.map []) [] := ⟨List.nodup_nil, (by simp), (fun p _ => by simp [Maps.has]), (by simp), rfl⟩
theorem VOf.add {D : DataW Value} {M : List (Pr × Value)} (h : VOf D M) (hD : Tidy D) {p : Pr} (hp : wf2 p) (hm : p ∉ M.map Prod.fst) (v : Value) : VOf (D.put (kK p) (.held v)) (M ++ [(p, v)]) := by
  have hsize := size_put (k := kK p) hD (.held v)
  refine ⟨?_, fun q hq => ?_, fun q hq => ?_, fun q hq z => ?_, ?_⟩
  · rw [List.map_append]
    exact List.nodup_append.2 ⟨h.nodup, by simp, fun a ha b hb => by simp at hb; subst hb; exact fun e => hm (e ▸ ha)⟩
  · rcases List.mem_append.1 hq with hq | hq
    · exact h.wf q hq
    · simp at hq; subst hq; exact hp
  · by_cases e : q = p
    · subst e
      rw [has_put_same hD.isMap (kK_key _)]
      simp
    · rw [has_put_other (fun e' => e (kK_inj hq hp e')), h.has q hq]
      simp [e]
  · rcases List.mem_append.1 hq with hq | hq
    · have e : q.1 ≠ p := fun e => hm (List.mem_map.2 ⟨q, hq, e⟩)
      rw [atKey_put_other (fun e' => e (kK_inj (h.wf q hq) hp e'))]
      exact h.val q hq z
    · simp at hq; subst hq
      exact atKey_put_same hD.isMap (kK_key _) _ _
  · rw [hsize, if_neg (fun e => hm ((h.has p hp).1 e)), h.size]
    simp
end Go.Proofs.Ytnagpianaghjeaa.Pl
