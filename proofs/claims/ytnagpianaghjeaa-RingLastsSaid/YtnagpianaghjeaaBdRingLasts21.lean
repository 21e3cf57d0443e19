/-
  A disk that stays when blocks that are none of its own are written to.
-/
import Derived.Test.YtnagpianaghjeaaBdRingLasts15
import Derived.Test.YtnagpianaghjeaaBdRingLasts14
namespace Go.Proofs.Ytnagpianaghjeaa.Pl
open Go Go.RowKit Go.Maps Go.Sort Go.Proofs

/-- A disk none of whose own blocks is one of T's: it stays when T's blocks are written to. -/
structure Clear (w : World) (base d : Nat) (S : DS) (T : Nat → Prop) (kv : Value) (kvs : List Value) (m : Nat) (D : DataW Value) (pvs : List Value) (kpv : Value) : Prop where
  at_ : DiskAt w base d S kv kvs m D pvs kpv
  nd : ¬ T d
  nk : ∀ k, kv.ownBlock = some k → ¬ T k
  nm : ¬ T m
  byt : ∀ g cs, w.heap[g]? = some (.cells cs 5 (0, 0)) → ¬ T g
  boo : ∀ g cs, w.heap[g]? = some (.cells cs 4 (0, 0)) → ¬ T g
theorem Clear.moves {w w' : World} {base d : Nat} {S : DS} {T : Nat → Prop} {kv : Value} {kvs : List Value} {m : Nat} {D : DataW Value} {pvs : List Value} {kpv : Value} (h : Clear w base d S T kv kvs m D pvs kpv) (hm : Moves T w w') : DiskAt w' base d S kv kvs m D pvs kpv := by
  have hsec : ∀ a b, Sec w base a b → Sec w' base a b := fun a b hab => hab.moves hm h.byt
  have h0 := h.at_
  exact ⟨(hm.block d (Array.getElem?_eq_some_iff.1 h0.blk).1 h.nd).trans h0.blk, h0.hd, own_moves h0.kept hm h.nk, h0.secs.mono hsec, h0.hm, hm.ownsMap h0.map h.nm, h0.pend, h0.data.mono hsec, h0.len, own_moves h0.keep hm (fun g hg => by
    obtain ⟨cur, hc⟩ := own_block h0.keep hg
    exact h.boo g cur hc), h0.wf, h0.wfd, h0.wfs, h0.few⟩

theorem DiskAt.aside {w : World} {base d g : Nat} {S : DS} {kv : Value} {kvs : List Value} {m : Nat} {D : DataW Value} {pvs : List Value} {kpv : Value} (h : DiskAt w base d S kv kvs m D pvs kpv) {cs : Array Value} (hg : w.heap[g]? = some (.cells cs 105 (0, 0))) (hne : d ≠ g) : Clear w base d S (fun k => k = g) kv kvs m D pvs kpv := by
  have ty : ∀ (k : Nat) (cs' : Array Value) (t' : TypeId) (fr : Nat × Nat), w.heap[k]? = some (.cells cs' t' fr) → t' ≠ 105 → k ≠ g := fun k cs' t' fr hk ht e => by
    rw [e, hg] at hk
    injection hk with hk
    injection hk with _ h1
    exact ht h1.symm
  refine ⟨h, hne, fun k hk e => ?_, fun e => ?_, fun k cs' hk e => ty k cs' _ _ hk (by decide) e, fun k cs' hk e => ty k cs' _ _ hk (by decide) e⟩
  · obtain ⟨cur, hc⟩ := own_block h.kept hk
    exact ty k cur _ _ hc (by decide) e
  · obtain ⟨es, ck, hb, _⟩ := h.map
    rw [e, hg] at hb
    cases hb
end Go.Proofs.Ytnagpianaghjeaa.Pl
