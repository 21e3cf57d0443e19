/-
  A set of keys as a map's datum.
-/
import Derived.Test.YtmennobdgfgjaaaHandCalls
import Derived.Test.YtmennobdgfgjaaaKeyFuncs
import Derived.Test.YtmennobdgfgjaaaAppend
import Derived.DeepKeys4
import Derived.MapViews
import Derived.WideKeyPair
namespace Go.Proofs.Ytmennobdgfgjaaa
open Go Go.RowKit Go.Maps Go.Sort

def kK (p : Pr) : Lit := .string (keyBytes [.int .i64 p.1, .int .i64 p.2])
abbrev wf2 (p : Pr) : Prop := iw p.1 ∧ iw p.2

theorem lawK : Keyed Try.prog 49 :=
  Keyed.of_law (deep_law_laid (m := 2) (by kernel_rfl) (by omega) (of_decide_eq_true (by kernel_rfl)) (by kernel_rfl) (by rw [Try.underlying49]))

theorem wideK : (match Try.prog.underlying 49 with | some (.array _ _) | some (.struct _) => true | _ => false) = true := by rw [Try.underlying49]
theorem cellsOfK : Try.prog.cellsOf 49 = 2 := by kernel_rfl
theorem cellsOfI : Try.prog.cellsOf 3 = 1 := by kernel_rfl
theorem sizeT : ∃ n, Try.prog.types.size = n + 1 := Nat.exists_eq_succ_of_ne_zero (Nat.pos_iff_ne_zero.1 (of_decide_eq_true (by kernel_rfl)))

theorem lits_at (n : Nat) (u v : Value) : Try.prog.keyLits (n + 2) 49 [u, v] = (Try.prog.keyLits (n + 1) 3 [u]).bind fun a => (Try.prog.keyLits (n + 1) 3 [v]).map fun b => a ++ b := by
  conv => lhs; unfold Program.keyLits
  simp only [Try.underlying49]
  rw [if_pos ⟨by rw [cellsOfK]; rfl, by kernel_rfl⟩]
  simp only [List.mapM_cons, List.mapM_nil, cellsOfI]
  cases h1 : Try.prog.keyLits (n + 1) 3 [u] with
  | none => simp [h1]
  | some a =>
    cases h2 : Try.prog.keyLits (n + 1) 3 [v] with
    | none => simp [h1, h2]
    | some b => simp [h1, h2]
theorem lits_int (n : Nat) {a : Int} (h : iw a) : Try.prog.keyLits (n + 1) 3 [.int .i64 a] = some [.int .i64 a] := by
  unfold Program.keyLits
  simp only [Try.underlying3]
  rw [if_pos ⟨trivial, h⟩]
theorem lits_int_inv {n : Nat} {u : Value} {l : List Lit} (h : Try.prog.keyLits (n + 1) 3 [u] = some l) : ∃ a, u = .int .i64 a ∧ iw a ∧ l = [.int .i64 a] := by
  cases u <;> simp [Program.keyLits, Try.underlying3] at h
  rename_i k a
  obtain ⟨⟨rfl, hw⟩, rfl⟩ := h
  exact ⟨a, rfl, hw, rfl⟩

theorem keyOf_K {p : Pr} (h : wf2 p) : keyOf Try.prog 49 (encK p) = some (kK p) := by
  obtain ⟨n, hn⟩ := sizeT
  unfold keyOf
  simp only [Try.underlying49]
  rw [if_pos (by simp only [Bool.and_eq_true]; exact ⟨by kernel_rfl, by simp [Value.formed, Try.underlying49, cellsOfK]⟩), hn]
  show (Try.prog.keyLits (n + 2) 49 [.int .i64 p.1, .int .i64 p.2]).map _ = _
  rw [lits_at, lits_int _ h.1, lits_int _ h.2]
  rfl

set_option maxRecDepth 100000 in
theorem keyOf_K_inv {v : Value} {l : Lit} (h : keyOf Try.prog 49 v = some l) : ∃ p, v = encK p ∧ wf2 p ∧ l = kK p := by
  obtain ⟨xs, L, rfl, hL, rfl⟩ := keyOf_top wideK h
  obtain ⟨n, hn⟩ := sizeT
  rw [hn] at hL
  have h2 : xs.toList.length = 2 := by
    unfold Program.keyLits at hL
    simp only [Try.underlying49] at hL
    split at hL
    · rename_i h
      rw [h.1, cellsOfK]
    · cases hL
  obtain ⟨u, v, huv⟩ : ∃ u v, xs.toList = [u, v] := by
    match hx : xs.toList, h2 with
    | [u, v], _ => exact ⟨u, v, rfl⟩
  rw [huv, lits_at, Option.bind_eq_some_iff] at hL
  obtain ⟨a, ha, hb⟩ := hL
  obtain ⟨b, hb', rfl⟩ := Option.map_eq_some_iff.1 hb
  obtain ⟨x, rfl, wx, rfl⟩ := lits_int_inv ha
  obtain ⟨y, rfl, wy, rfl⟩ := lits_int_inv hb'
  refine ⟨(x, y), ?_, ⟨wx, wy⟩, rfl⟩
  show Value.agg xs = .agg #[.int .i64 x, .int .i64 y]
  congr 1
  exact Array.ext' huv

theorem kK_inj {p q : Pr} (hp : wf2 p) (hq : wf2 q) (h : kK p = kK q) : p = q := by
  have := lawK.inj (keyOf_K hp) (by rw [h]; exact keyOf_K hq)
  simpa [encK, Prod.ext_iff] using this
theorem kK_key (p : Pr) : WideAt.IsKeyLit (kK p) := trivial

noncomputable abbrev RB : Value → Option (DataW Unit × List MemPlace) := plainElem Try.prog 4
abbrev TT : DataW Unit := .lit (.bool true)

/-- The datum holds just these keys, each at true. -/
structure KOf (D : DataW Unit) (M : List Pr) : Prop where
  nodup : M.Nodup
  wf : ∀ p ∈ M, wf2 p
  has : ∀ p, wf2 p → (Maps.has D (kK p) = true ↔ p ∈ M)
  val : ∀ p ∈ M, ∀ z, D.atKey (kK p) z = TT
  size : Maps.size D = M.length

def addM (M : List Pr) (p : Pr) : List Pr := if p ∈ M then M else M ++ [p]

theorem KOf.nil : KOf (.map []) [] := ⟨List.nodup_nil, (by simp), (fun p _ => by simp [Maps.has]), (by simp), rfl⟩
theorem KOf.add {D : DataW Unit} {M : List Pr} (h : KOf D M) (hD : Tidy D) {p : Pr} (hp : wf2 p) : KOf (D.put (kK p) TT) (addM M p) := by
  have hsize := size_put (k := kK p) hD TT
  by_cases hm : p ∈ M
  · unfold addM
    rw [if_pos hm]
    refine ⟨h.nodup, h.wf, fun q hq => ?_, fun q hq z => ?_, ?_⟩
    · by_cases e : q = p
      · subst e
        rw [has_put_same hD.isMap (kK_key _)]
        simp [hm]
      · rw [has_put_other (fun e' => e (kK_inj hq hp e'))]
        exact h.has q hq
    · by_cases e : q = p
      · subst e
        exact atKey_put_same hD.isMap (kK_key _) _ _
      · rw [atKey_put_other (fun e' => e (kK_inj (h.wf q hq) hp e'))]
        exact h.val q hq z
    · rw [hsize, if_pos ((h.has p hp).2 hm)]
      exact h.size
  · unfold addM
    rw [if_neg hm]
    refine ⟨?_, fun q hq => ?_, fun q hq => ?_, fun q hq z => ?_, ?_⟩
    · exact List.nodup_append.2 ⟨h.nodup, by simp, fun a ha b hb => by simp at hb; subst hb; exact fun e => hm (e ▸ ha)⟩
    · rcases List.mem_append.1 hq with hq | hq
      · exact h.wf q hq
      · simp at hq; subst hq; exact hp
    · by_cases e : q = p
      · subst e
        rw [has_put_same hD.isMap (kK_key _)]
        simp
      · rw [has_put_other (fun e' => e (kK_inj hq hp e')), h.has q hq]
        simp [e]
    · by_cases e : q = p
      · subst e
        exact atKey_put_same hD.isMap (kK_key _) _ _
      · have hq' : q ∈ M := by rcases List.mem_append.1 hq with hq | hq; exact hq; simp at hq; exact absurd hq e
        rw [atKey_put_other (fun e' => e (kK_inj (h.wf q hq') hp e'))]
        exact h.val q hq' z
    · rw [hsize, if_neg (fun e => hm ((h.has p hp).1 e)), h.size]
      simp
theorem KOf.del {D : DataW Unit} {M : List Pr} (h : KOf D M) (hD : Tidy D) {p : Pr} (hp : wf2 p) : KOf (D.del (kK p)) (M.filter (fun q => !(q == p))) := by
  have hsize := size_del (k := kK p) hD
  refine ⟨h.nodup.filter _, fun q hq => h.wf q (List.mem_filter.1 hq).1, fun q hq => ?_, fun q hq z => ?_, ?_⟩
  · by_cases e : q = p
    · subst e
      rw [has_del_same]
      simp
    · rw [has_del_other (fun e' => e (kK_inj hq hp e')), h.has q hq]
      simp [List.mem_filter, e]
  · obtain ⟨hq1, hq2⟩ := List.mem_filter.1 hq
    have e : q ≠ p := by simpa using hq2
    rw [atKey_del_other (fun e' => e (kK_inj (h.wf q hq1) hp e'))]
    exact h.val q hq1 z
  · by_cases hm : p ∈ M
    · rw [if_pos ((h.has p hp).2 hm), h.size] at hsize
      have h1 : (M.filter (fun q => !(q == p))).length + 1 = M.length := by
        have := List.Nodup.erase_eq_filter h.nodup p
        have h2 := List.length_erase_of_mem hm
        rw [this] at h2
        have h3 : 0 < M.length := List.length_pos_of_mem hm
        have h4 : (M.filter (fun q => !(q == p))) = M.filter (fun x => x != p) := rfl
        rw [h4]
        omega
      omega
    · rw [if_neg (fun e => hm ((h.has p hp).1 e)), h.size] at hsize
      have : M.filter (fun q => !(q == p)) = M := List.filter_eq_self.2 fun q hq => by
        have : q ≠ p := fun e => hm (e ▸ hq)
        simpa using this
      rw [this]
      omega
end Go.Proofs.Ytmennobdgfgjaaa
