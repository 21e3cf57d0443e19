/-
  Bytes as a disk: each sector is a chunk of them.
-/
import Derived.Test.YtbfnmgjpkieaoaaDiskOf
import Derived.Test.YtbfnmgjpkieaoaaDiskTwin
import Derived.RangeFuncFrom
namespace Go.Proofs.Ytbfnmgjpkieaoaa.Pl
open Go Go.RowKit Go.Maps Go.Sort Go.Proofs Go.Shelf

/-- A chunk. -/
def ch (xs : List Int) (z i : Nat) : List Int := (xs.drop (i * z)).take z
theorem ch_len {xs : List Int} {k z i : Nat} (h : xs.length = k * z) (hi : i < k) : (ch xs z i).length = z := by
  have : (i + 1) * z ≤ k * z := Nat.mul_le_mul_right z hi
  rw [Nat.succ_mul] at this
  simp [ch]; omega
def ofS (z : Nat) (K : List (List Int)) : DS := { newS 0 z with kept := K }

structure InvOf (w : World) (B1 px d m z k : Nat) (xs : List Int) (pre : List (Fin k)) (W : World) (kv : Value) (kvs : List Value) : Prop where
  at_ : DiskAt W w.heap.size d (ofS z (pre.map fun x => ch xs z x.val)) kv kvs m (.map []) [] (.slice none 0 0)
  own : W.ownsRow B1 29 1 kv kvs.length kvs
  box : W.heap[px]? = some (.cells #[.pointer (some ⟨d, 0, none⟩)] 23 (0, 0))
  mov : Moves (fun _ => False) w W
  lo : w.heap.size ≤ B1 ∧ B1 ≤ W.heap.size ∧ d < B1 ∧ m < B1 ∧ px < B1

theorem InvOf.from {w : World} {B1 px d m z k : Nat} {xs : List Int} : OwnFrom B1 (fun (pre : List (Fin k)) W => ∃ kv kvs, InvOf w B1 px d m z k xs pre W kv kvs) := by
  rintro pre W W' row ⟨kv, kvs, h⟩ hg hr
  have hm : Moves (fun j => row = some j) W W' := ⟨hg.os, hg.tape, hg.output, hg.size, fun j hj hs => hg.block j hj (fun e => hs e.symm)⟩
  have nc : ∀ j cs t fr, W.heap[j]? = some (.cells cs t fr) → ¬ row = some j := fun j cs t fr hj e => by
    obtain ⟨-, o, ho, hc⟩ := hr j e
    rw [hj] at ho
    cases ho
    cases hc
  refine ⟨kv, kvs, (Clear.moves ⟨h.at_, nc _ _ _ _ h.at_.blk, fun j hj => ?_, fun e => ?_, fun j cs hj => nc _ _ _ _ hj, fun j cs hj => nc _ _ _ _ hj⟩ hm), own_moves h.own hm (fun j hj => ?_), (hm.block px (Array.getElem?_eq_some_iff.1 h.box).1 (nc _ _ _ _ h.box)).trans h.box, h.mov.andThen hm (fun j e hlt => ?_), ⟨h.lo.1, Nat.le_trans h.lo.2.1 hm.size, h.lo.2.2⟩⟩
  · obtain ⟨cur, hc⟩ := own_block h.at_.kept hj
    exact nc _ _ _ _ hc
  · have := (hr m e).1; have := h.lo.2.2.2.1; omega
  · obtain ⟨cur, hc⟩ := own_block h.own hj
    exact nc _ _ _ _ hc
  · have := (hr j e).1; have := h.lo.1; omega

theorem InvOf.step {w W w' w5 : World} {B1 px d m z k Bs Bn : Nat} {xs : List Int} {pre : List (Fin k)} {x : Fin k} {Ak : Option Addr} {ck : Nat} {kvs : List Value} {Ac A1 : Option Addr} {cc k1 : Nat} (h : InvOf w B1 px d m z k xs pre W (.slice Ak kvs.length ck) kvs)
    (hl : xs.length = k * z) (hz : 64 ≤ z ∧ z ≤ 1024) (hk : k ≤ 16000) (hlen : pre.length < k) (hbs : Bs < B1 ∧ Bn < B1 ∧ Bs ≠ d ∧ Bn ≠ d)
    (hm' : Moves (fun _ => False) W w') (hown : w'.ownsRow W.heap.size 5 1 (.slice Ac z cc) z ((ch xs z x.val).map encB))
    (hn5 : w5.ownsRow B1 29 1 (.slice A1 (kvs.length + 1) k1) (kvs.length + 1) (kvs ++ [.slice Ac z cc]))
    (hg5 : (w'.alloc (.cells #[.slice Ac z cc] 29)).grownBy w5 (Value.slice Ak kvs.length ck).ownBlock) :
    KeepsOthers W (w5.setCell ⟨d, 1, none⟩ (.slice A1 (kvs.length + 1) k1)) ∧ KpC w.heap.size Bs Bn W (w5.setCell ⟨d, 1, none⟩ (.slice A1 (kvs.length + 1) k1)) ∧ InvOf w B1 px d m z k xs (pre ++ [x]) (w5.setCell ⟨d, 1, none⟩ (.slice A1 (kvs.length + 1) k1)) (.slice A1 (kvs.length + 1) k1) (kvs ++ [.slice Ac z cc]) := by
  have hD := h.at_
  have hdl := (Array.getElem?_eq_some_iff.1 hD.blk).1
  have hkd : (Value.slice Ak kvs.length ck).ownBlock ≠ some d := fun e => by
    have := (h.own.lt d e).1; have := h.lo.2.2.1; omega
  have hm6 : Moves (fun j => j = d) w5 (w5.setCell ⟨d, 1, none⟩ (.slice A1 (kvs.length + 1) k1)) := Moves.setCell (p := ⟨d, 1, none⟩) (Moves.refl (fun j => j = d) w5) (fun _ => rfl) _
  have hmA : Moves (fun j => (Value.slice Ak kvs.length ck).ownBlock = some j) W w5 := ((hm'.none _).alloc _).grown hg5 (fun j e _ => e)
  have hmm : Moves (fun j => j = d ∨ (Value.slice Ak kvs.length ck).ownBlock = some j) W (w5.setCell ⟨d, 1, none⟩ (.slice A1 (kvs.length + 1) k1)) := (hmA.mono (fun j e => .inr e)).andThen hm6 (fun j e _ => .inl e)
  have hw5 : w5.heap[d]? = W.heap[d]? := hmA.block d hdl hkd
  have hb6 : (w5.setCell ⟨d, 1, none⟩ (.slice A1 (kvs.length + 1) k1)).heap[d]? = some (.cells #[.int .i64 z, .slice A1 (kvs.length + 1) k1, .map (some m), .bool false, .bool false, .int .i64 0, .slice none 0 0, .int .i64 0] 108 (0, 0)) := by
    simp [World.setCell, Array.getElem?_modify, hw5, hD.blk, newS, ofS]
  have hcl : ∀ j, (j = d ∨ (Value.slice Ak kvs.length ck).ownBlock = some j) → ∃ cs t, W.heap[j]? = some (.cells cs t (0, 0)) ∧ (t = 108 ∨ t = 29) := fun j e => by
    rcases e with e | e
    · rw [e]; exact ⟨_, _, hD.blk, .inl rfl⟩
    · obtain ⟨cur, hc⟩ := own_block h.own e
      exact ⟨_, _, hc, .inr rfl⟩
  have hty : ∀ (j : Nat) (cs : Array Value) (t : TypeId) (fr : Nat × Nat), W.heap[j]? = some (.cells cs t fr) → t ≠ 108 → t ≠ 29 → ¬ (j = d ∨ (Value.slice Ak kvs.length ck).ownBlock = some j) := fun j cs t fr hj h1 h2 e => by
    obtain ⟨cs', t', hc, ht⟩ := hcl j e
    rw [hj] at hc
    injection hc with hc
    injection hc with _ h3
    rcases ht with rfl | rfl
    · exact h1 h3
    · exact h2 h3
  have hsec : ∀ a b, Sec W w.heap.size a b → Sec (w5.setCell ⟨d, 1, none⟩ (.slice A1 (kvs.length + 1) k1)) w.heap.size a b := fun a b hab => hab.moves hmm (fun j cs hj => hty j cs _ _ hj (by decide) (by decide))
  have hcz : (ch xs z x.val).length = z := ch_len hl x.isLt
  have hsz := h.mov.size
  have hnew : Sec (w5.setCell ⟨d, 1, none⟩ (.slice A1 (kvs.length + 1) k1)) w.heap.size (.slice Ac z cc) (ch xs z x.val) := by
    have h1 : w'.ownsRow w.heap.size 5 1 (.slice Ac z cc) z ((ch xs z x.val).map encB) := own_weak hsz hown
    have h2 : Sec w' w.heap.size (.slice Ac z cc) (ch xs z x.val) := Sec.of_own h1 (by omega)
    have hmB : Moves (fun j => j = d ∨ (Value.slice Ak kvs.length ck).ownBlock = some j) w' (w5.setCell ⟨d, 1, none⟩ (.slice A1 (kvs.length + 1) k1)) := (((((Moves.refl (fun _ => False) w').none _).alloc _).grown hg5 (fun j e _ => e)).mono (fun j e => .inr e)).andThen hm6 (fun j e _ => .inl e)
    refine h2.moves hmB (fun j cs hj e => ?_)
    obtain ⟨cs', t', hc, ht⟩ := hcl j e
    have hc' := (hm'.block j (Array.getElem?_eq_some_iff.1 hc).1 (fun h => h)).trans hc
    rw [hj] at hc'
    injection hc' with hc'
    injection hc' with _ h3
    rcases ht with rfl | rfl
    · exact absurd h3 (by decide)
    · exact absurd h3 (by decide)
  have hkl : kvs.length = pre.length := by have := hD.secs.1; simpa [ofS] using this
  have how : (w5.setCell ⟨d, 1, none⟩ (.slice A1 (kvs.length + 1) k1)).ownsRow B1 29 1 (.slice A1 (kvs.length + 1) k1) (kvs ++ [Value.slice Ac z cc]).length (kvs ++ [.slice Ac z cc]) := by
    rw [List.length_append, List.length_singleton]
    refine own_moves hn5 hm6 (fun j hj e => ?_)
    have e : j = d := e
    have := (hn5.lt j hj).1; have := h.lo.2.2.1; omega
  have hmv : Moves (fun _ => False) w (w5.setCell ⟨d, 1, none⟩ (.slice A1 (kvs.length + 1) k1)) := h.mov.andThen hmm (fun j e hlt => by
    rcases e with e | e
    · have := hD.hd; omega
    · have := (h.own.lt j e).1; have := h.lo.1; omega)
  refine ⟨⟨hmm.size, fun j ob hj hc => (hmm.block j (Array.getElem?_eq_some_iff.1 hj).1 (fun e => ?_)).trans hj⟩, ⟨hmm.os, hmm.tape, hmm.output, hmm.size, fun j hj hs => hmm.block j hj (fun e => hs ?_)⟩, ⟨?_, how, ?_, hmv, ⟨h.lo.1, Nat.le_trans h.lo.2.1 hmm.size, h.lo.2.2⟩⟩⟩
  · obtain ⟨cs', t', hc', -⟩ := hcl j e
    rw [hj] at hc'
    cases hc'
    cases hc
  · rcases e with e | e
    · have := hD.hd; exact ⟨by omega, by omega, by omega⟩
    · have := (h.own.lt j e).1; have := h.lo.1; exact ⟨by omega, by omega, by omega⟩
  · refine ⟨by simpa [ofS, newS] using hb6, hD.hd, own_weak h.lo.1 how, ?_, hD.hm, hmm.ownsMap hD.map (fun e => ?_), VOf.nil, All2.nil _, rfl, World.ownsRow_nil _ _ _ _, ?_, by simp [ofS, newS], by simp [ofS, newS], by simp [ofS, newS]; omega⟩
    · show All2 _ _ ((pre ++ [x]).map fun x => ch xs z x.val)
      rw [List.map_append]
      exact (hD.secs.mono hsec).append hnew
    · obtain ⟨es, ck', hb, _⟩ := hD.map
      obtain ⟨cs', t', hc', -⟩ := hcl m e
      rw [hc'] at hb
      cases hb
    · intro y hy
      obtain ⟨i, -, rfl⟩ := List.mem_map.1 hy
      exact ch_len hl i.isLt
  · exact (hmm.block px (Array.getElem?_eq_some_iff.1 h.box).1 (hty px _ _ _ h.box (by decide) (by decide))).trans h.box
end Go.Proofs.Ytbfnmgjpkieaoaa.Pl
