/-
  The table's map as a datum: names for keys, numbers for values.
-/
import Derived.Test.YtbfnmgjpkieaoaaTabPlain
import Derived.Test.YtbfnmgjpkieaoaaMapStore
import Derived.DeepKeys4
import Derived.MapViews
import Derived.WideKeyPair
import Derived.Stop.BytesEq
import Derived.StillTailTactics
namespace Go.Proofs.Ytbfnmgjpkieaoaa.Tb
open Go Go.RowKit Go.Maps Go.Sort Go.Proofs

def litsN (n : Nm) : List Lit := n.1.map fun b => Lit.int .u8 (b.toNat : Int)
def kN (n : Nm) : Lit := .string (keyBytes (litsN n))
theorem lawN : Keyed Try.prog 77 :=
  Keyed.of_law (deep_law_laid (m := 2) (by kernel_rfl) (by omega) (of_decide_eq_true (by kernel_rfl)) (by kernel_rfl) (by rw [Try.underlying77]))
theorem wideN : (match Try.prog.underlying 77 with | some (.array _ _) | some (.struct _) => true | _ => false) = true := by rw [Try.underlying77]
theorem cellsOfN : Try.prog.cellsOf 77 = 32 := by kernel_rfl
theorem cellsOfB : Try.prog.cellsOf 5 = 1 := by kernel_rfl
theorem sizeT : ∃ n, Try.prog.types.size = n + 1 := Nat.exists_eq_succ_of_ne_zero (Nat.pos_iff_ne_zero.1 (of_decide_eq_true (by kernel_rfl)))
theorem lit_byte (d : Nat) (b : UInt8) : Try.prog.keyLits (d + 1) 5 [.int .u8 (b.toNat : Int)] = some [.int .u8 (b.toNat : Int)] := by
  unfold Program.keyLits
  simp only [Try.underlying5]
  have : (Lit.int .u8 (b.toNat : Int)).wf = true := by
    have := b.toNat_lt
    have h2 : b.toNat < 256 := this
    show (decide (IntKind.u8.min ≤ (b.toNat : Int)) && decide ((b.toNat : Int) ≤ IntKind.u8.max)) = true
    have e1 : IntKind.u8.min = 0 := rfl
    have e2 : IntKind.u8.max = 255 := rfl
    rw [e1, e2, decide_eq_true (by omega), decide_eq_true (by omega)]
    rfl
  rw [if_pos ⟨trivial, this⟩]
set_option maxRecDepth 100000 in
theorem cells_byte_inv {d : Nat} {cs : List Value} {l : List Lit} (h : Try.prog.keyLits (d + 1) 5 cs = some l) : ∃ b : UInt8, cs = [.int .u8 (b.toNat : Int)] := by
  match cs, h with
  | [.int q x], h =>
    simp [Program.keyLits, Try.underlying5] at h
    obtain ⟨⟨rfl, hw⟩, -⟩ := h
    have hw : (decide (IntKind.u8.min ≤ x) && decide (x ≤ IntKind.u8.max)) = true := hw
    have e1 : IntKind.u8.min = 0 := rfl
    have e2 : IntKind.u8.max = 255 := rfl
    rw [e1, e2, Bool.and_eq_true, decide_eq_true_eq, decide_eq_true_eq] at hw
    refine ⟨UInt8.ofNat x.toNat, ?_⟩
    have : ((UInt8.ofNat x.toNat).toNat : Int) = x := by
      rw [UInt8.toNat_ofNat_of_lt' (by simp [UInt8.size]; omega)]
      omega
    rw [this]
  | [], h => simp [Program.keyLits, Try.underlying5] at h
  | a :: b :: r, h => simp [Program.keyLits, Try.underlying5] at h
  | [.bool _], h => simp [Program.keyLits, Try.underlying5] at h
  | [.string _], h => simp [Program.keyLits, Try.underlying5] at h
  | [.float _ _], h => simp [Program.keyLits, Try.underlying5] at h
theorem mapM_some {α β : Type} {f : α → Option β} {g : α → β} : ∀ {l : List α}, (∀ x ∈ l, f x = some (g x)) → l.mapM f = some (l.map g)
  | [], _ => rfl
  | a :: l, h => by
    rw [List.mapM_cons, h a (by simp), mapM_some (l := l) fun x hx => h x (by simp [hx])]
    rfl
theorem mapM_mem {α β : Type} {f : α → Option β} : ∀ {l : List α} {L : List β}, l.mapM f = some L → ∀ x ∈ l, ∃ y, f x = some y
  | [], _, _ => by simp
  | a :: l, L, h => by
    rw [List.mapM_cons] at h
    cases ha : f a with
    | none => rw [ha] at h; cases h
    | some y =>
      rw [ha] at h
      cases hl : l.mapM f with
      | none => rw [hl] at h; cases h
      | some ys =>
        intro x hx
        rcases List.mem_cons.1 hx with rfl | hx
        · exact ⟨y, ha⟩
        · exact mapM_mem hl x hx
theorem chunk1 {α : Type} (cs : List α) (i : Nat) (h : i < cs.length) : (cs.drop (i * 1)).take 1 = [cs[i]] := by
  rw [Nat.mul_one, List.drop_eq_getElem_cons h]
  rfl
theorem flat1 {α : Type} : ∀ (cs : List α) (n : Nat), cs.length = n → ((List.range n).map fun i => (cs.drop (i * 1)).take 1).flatten = cs
  | [], n, h => by simp at h; subst h; rfl
  | a :: cs, n, h => by
    obtain ⟨k, rfl⟩ : ∃ k, n = k + 1 := ⟨n - 1, by simp at h; omega⟩
    rw [List.range_succ_eq_map, List.map_cons, List.map_map, List.flatten_cons]
    have e : ((fun i => ((a :: cs).drop (i * 1)).take 1) ∘ Nat.succ) = fun i => (cs.drop (i * 1)).take 1 := by
      funext i
      simp [Function.comp, Nat.mul_one]
    rw [e, flat1 cs k (by simpa using h)]
    rfl
theorem lits_N (n : Nm) (d : Nat) : Try.prog.keyLits (d + 2) 77 (encM n) = some (litsN n) := by
  conv => lhs; unfold Program.keyLits
  simp only [Try.underlying77]
  rw [if_pos (by rw [encM_len, cellsOfN]), cellsOfB]
  rw [mapM_some (g := fun i => ((litsN n).drop (i * 1)).take 1)]
  · have hl : (litsN n).length = 32 := by unfold litsN; rw [List.length_map, n.2]
    have := flat1 (litsN n) 32 hl
    rw [Option.map_some, this]
  · intro i hi
    have hi' : i < 32 := List.mem_range.1 hi
    rw [chunk1 _ _ (by rw [encM_len]; exact hi'), chunk1 _ _ (by unfold litsN; rw [List.length_map, n.2]; exact hi')]
    unfold encM litsN
    rw [List.getElem_map, List.getElem_map]
    exact lit_byte d _
theorem formedN (n : Nm) : Value.formed Try.prog 77 (.agg (encM n).toArray) = true := by
  unfold Value.formed
  simp only [Try.underlying77, cellsOfN]
  rw [List.size_toArray, encM_len]
  rfl
set_option maxRecDepth 100000 in
theorem keyOf_N (n : Nm) : keyOf Try.prog 77 (encN (ints n)) = some (kN n) := by
  obtain ⟨k, hk⟩ := sizeT
  rw [encN_ints]
  unfold keyOf
  simp only [Try.underlying77]
  rw [if_pos (by simp only [Bool.and_eq_true]; exact ⟨by kernel_rfl, formedN n⟩), hk]
  show (Try.prog.keyLits (k + 2) 77 (encM n)).map _ = _
  rw [lits_N]
  rfl
theorem cells_bytes : ∀ {cs : List Value}, (∀ v ∈ cs, ∃ b : UInt8, v = .int .u8 (b.toNat : Int)) → ∃ l : List UInt8, cs = l.map fun b => Value.int .u8 (b.toNat : Int)
  | [], _ => ⟨[], rfl⟩
  | v :: cs, h => by
    obtain ⟨b, rfl⟩ := h v (by simp)
    obtain ⟨l, rfl⟩ := cells_bytes (cs := cs) fun x hx => h x (by simp [hx])
    exact ⟨b :: l, rfl⟩
set_option maxRecDepth 100000 in
theorem keyOf_N_inv {v : Value} {l : Lit} (h : keyOf Try.prog 77 v = some l) : ∃ n, v = encN (ints n) ∧ l = kN n := by
  have h0 := h
  obtain ⟨xs, L, rfl, hL, rfl⟩ := keyOf_top wideN h
  obtain ⟨k, hk⟩ := sizeT
  rw [hk] at hL
  have hL0 := hL
  unfold Program.keyLits at hL
  simp only [Try.underlying77] at hL
  split at hL
  · rename_i hlen
    rw [cellsOfN] at hlen
    obtain ⟨L2, hL2, -⟩ := Option.map_eq_some_iff.1 hL
    obtain ⟨bs, hbs⟩ := cells_bytes (cs := xs.toList) fun v hv => by
      obtain ⟨i, hi, rfl⟩ := List.mem_iff_getElem.1 hv
      obtain ⟨y, hy⟩ := mapM_mem hL2 i (List.mem_range.2 (by omega))
      rw [cellsOfB, chunk1 _ _ hi] at hy
      obtain ⟨b, hb⟩ := cells_byte_inv hy
      exact ⟨b, by simpa using hb⟩
    have hbl : bs.length = 32 := by rw [hbs, List.length_map] at hlen; exact hlen
    have e : Value.agg xs = encN (ints ⟨bs, hbl⟩) := by
      rw [encN_ints]
      unfold encM
      congr 1
      apply Array.ext'
      rw [hbs]
    refine ⟨⟨bs, hbl⟩, e, ?_⟩
    rw [e, keyOf_N] at h0
    exact (Option.some.inj h0).symm
  · cases hL
theorem kN_inj {p q : Nm} (h : kN p = kN q) : p = q := by
  have := lawN.inj (keyOf_N p) (by rw [h]; exact keyOf_N q)
  rw [encN_ints, encN_ints] at this
  refine encM_inj ?_
  have := Value.agg.inj this
  exact congrArg Array.toList this
theorem kN_key (p : Nm) : WideAt.IsKeyLit (kN p) := trivial

noncomputable abbrev RI : Value → Option (DataW Unit × List MemPlace) := plainElem Try.prog 3
abbrev dI (x : Int) : DataW Unit := .lit (.int .i64 x)

/-- The datum holds just these names, each with its number. -/
structure VOf (D : DataW Unit) (M : List (Nm × Int)) : Prop where
  nodup : (M.map Prod.fst).Nodup
  has : ∀ p, (Maps.has D (kN p) = true ↔ p ∈ M.map Prod.fst)
  val : ∀ p ∈ M, ∀ z, D.atKey (kN p.1) z = dI p.2
  size : Maps.size D = M.length
def delM (M : List (Nm × Int)) (n : Nm) : List (Nm × Int) := M.filter (fun p => !(p.1 == n))
def putM (M : List (Nm × Int)) (n : Nm) (v : Int) : List (Nm × Int) := delM M n ++ [(n, v)]
def getM (M : List (Nm × Int)) (n : Nm) : Option Int := (M.find? (fun p => p.1 == n)).map Prod.snd
theorem bne_of {a b : Nm} (h : a ≠ b) : (!(a == b)) = true := by rw [beq_eq_false_iff_ne.2 h]; rfl
theorem ne_of_bne {a b : Nm} (h : (!(a == b)) = true) : a ≠ b := fun e => by rw [e, beq_self_eq_true] at h; cases h
theorem delM_fst (M : List (Nm × Int)) (n : Nm) : (delM M n).map Prod.fst = (M.map Prod.fst).filter (fun q => !(q == n)) := by
  unfold delM
  rw [List.filter_map]
  rfl
theorem getM_some {M : List (Nm × Int)} {n : Nm} {v : Int} (h : getM M n = some v) : (n, v) ∈ M := by
  unfold getM at h
  obtain ⟨p, hp, rfl⟩ := Option.map_eq_some_iff.1 h
  have := List.find?_some hp
  have hm := List.mem_of_find?_eq_some hp
  rw [← eq_of_beq this]
  exact hm
theorem getM_none {M : List (Nm × Int)} {n : Nm} (h : getM M n = none) : n ∉ M.map Prod.fst := by
  unfold getM at h
  rw [Option.map_eq_none_iff, List.find?_eq_none] at h
  intro hm
  obtain ⟨p, hp, rfl⟩ := List.mem_map.1 hm
  exact h p hp (by simp)
theorem VOf.nil : VOf (.map []) [] := ⟨List.nodup_nil, (fun p => by simp [Maps.has]), (by simp), rfl⟩
theorem VOf.del {D : DataW Unit} {M : List (Nm × Int)} (h : VOf D M) (hD : Tidy D) (n : Nm) : VOf (D.del (kN n)) (delM M n) := by
  have hsize := size_del (k := kN n) hD
  have hnd : ((delM M n).map Prod.fst).Nodup := by rw [delM_fst]; exact h.nodup.filter _
  refine ⟨hnd, fun q => ?_, fun q hq z => ?_, ?_⟩
  · rw [delM_fst]
    by_cases e : q = n
    · subst e
      rw [has_del_same]
      simp
    · rw [has_del_other (fun e' => e (kN_inj e')), h.has q, List.mem_filter]
      simp only [bne_of e, and_true]
  · obtain ⟨hq1, hq2⟩ := List.mem_filter.1 hq
    have e : q.1 ≠ n := ne_of_bne hq2
    rw [atKey_del_other (fun e' => e (kN_inj e'))]
    exact h.val q hq1 z
  · by_cases hm : n ∈ M.map Prod.fst
    · rw [if_pos ((h.has n).2 hm), h.size] at hsize
      have h1 : ((M.map Prod.fst).filter (fun q => !(q == n))).length + 1 = (M.map Prod.fst).length := by
        have := List.Nodup.erase_eq_filter h.nodup n
        have h2 := List.length_erase_of_mem hm
        rw [this] at h2
        have h3 : 0 < (M.map Prod.fst).length := List.length_pos_of_mem hm
        have h4 : ((M.map Prod.fst).filter (fun q => !(q == n))) = (M.map Prod.fst).filter (fun x => x != n) := rfl
        rw [h4]
        omega
      rw [← delM_fst, List.length_map, List.length_map] at h1
      omega
    · rw [if_neg (fun e => hm ((h.has n).1 e)), h.size] at hsize
      have : delM M n = M := List.filter_eq_self.2 fun q hq => by
        have : q.1 ≠ n := fun e => hm (List.mem_map.2 ⟨q, hq, e⟩)
        exact bne_of this
      rw [this]
      omega
theorem VOf.put {D : DataW Unit} {M : List (Nm × Int)} (h : VOf D M) (hD : Tidy D) (n : Nm) (v : Int) : VOf (D.put (kN n) (dI v)) (putM M n v) := by
  have hsize := size_put (k := kN n) hD (dI v)
  have hdel := (h.del hD n).size
  have hsd := size_del (k := kN n) hD
  have hnn : n ∉ (delM M n).map Prod.fst := by rw [delM_fst, List.mem_filter]; simp
  refine ⟨?_, fun q => ?_, fun q hq z => ?_, ?_⟩
  · unfold putM
    rw [List.map_append]
    exact List.nodup_append.2 ⟨(h.del hD n).nodup, by simp, fun a ha b hb => by simp at hb; subst hb; exact fun e => hnn (e ▸ ha)⟩
  · unfold putM
    rw [List.map_append, List.mem_append, delM_fst, List.mem_filter]
    by_cases e : q = n
    · subst e
      rw [has_put_same hD.isMap (kN_key _)]
      simp
    · rw [has_put_other (fun e' => e (kN_inj e')), h.has q]
      simp only [bne_of e, and_true]
      simp [e]
  · rcases List.mem_append.1 hq with hq | hq
    · obtain ⟨hq1, hq2⟩ := List.mem_filter.1 hq
      have e : q.1 ≠ n := ne_of_bne hq2
      rw [atKey_put_other (fun e' => e (kN_inj e'))]
      exact h.val q hq1 z
    · simp at hq; subst hq
      exact atKey_put_same hD.isMap (kN_key _) _ _
  · unfold putM
    rw [List.length_append, List.length_singleton, hsize]
    by_cases hm : Maps.has D (kN n) = true
    · rw [if_pos hm] at hsd ⊢
      have h3 : 0 < M.length := by
        have := List.length_pos_of_mem ((h.has n).1 hm)
        rwa [List.length_map] at this
      have := h.size
      omega
    · rw [if_neg hm] at hsd ⊢
      omega
theorem VOf.get_some {D : DataW Unit} {M : List (Nm × Int)} (h : VOf D M) {n : Nm} {v : Int} (hg : getM M n = some v) (z : DataW Unit) : Maps.has D (kN n) = true ∧ D.atKey (kN n) z = dI v :=
  ⟨(h.has n).2 (List.mem_map.2 ⟨_, getM_some hg, rfl⟩), h.val _ (getM_some hg) z⟩
theorem VOf.get_none {D : DataW Unit} {M : List (Nm × Int)} (h : VOf D M) {n : Nm} (hg : getM M n = none) : Maps.has D (kN n) = false := by
  cases hh : Maps.has D (kN n)
  · rfl
  · exact absurd ((h.has n).1 hh) (getM_none hg)
end Go.Proofs.Ytbfnmgjpkieaoaa.Tb
