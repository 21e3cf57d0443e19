/-
  A log with its records; what its calls may write to.
-/
import Derived.Test.YtnagpianaghjeaaRingSec
namespace Go.Proofs.Ytnagpianaghjeaa.Rg
open Go Go.RowKit Go.Proofs Go.Proofs.Ytnagpianaghjeaa.Sl
open Pl (DS IsDisk DOwn DPost DMv DKeep Clear DiskAt All2)

theorem down_same {w w' : World} {d : Nat} (h : w'.heap[d]? = w.heap[d]?) (k : Nat) : DOwn w' d k ↔ DOwn w d k := by
  unfold DOwn
  rw [h]
theorem down_lt {w : World} {base d k : Nat} {D : DS} (h : IsDisk w base d D) (hk : DOwn w d k) : k < w.heap.size := by
  obtain ⟨kv, kvs, m, E, pvs, kpv, h⟩ := h
  rcases h.own hk with rfl | e | rfl
  · exact lt_of_block h.blk
  · exact (h.kept.lt _ e).2
  · obtain ⟨es, ck, hb, _⟩ := h.map
    exact lt_of_block hb
/-- The disk stays when blocks are written to that are none of its own. -/
theorem asideS {w w' : World} {base d : Nat} {D : DS} {T : Nat → Prop} (h : IsDisk w base d D) (hm : Moves T w w') (hT : ∀ g, T g → g < w.heap.size → ¬ DOwn w d g ∧ ∃ cs t fr, w.heap[g]? = some (.cells cs t fr) ∧ t ≠ 5 ∧ t ≠ 4) : IsDisk w' base d D := by
  have hlt := fun k (hk : DOwn w d k) => down_lt h hk
  obtain ⟨kv, kvs, m, E, pvs, kpv, h⟩ := h
  have hd : DOwn w d d := .inl rfl
  have hk : ∀ k, kv.ownBlock = some k → DOwn w d k := fun k e => .inr ⟨_, h.blk, .inl ⟨kv, rfl, e⟩⟩
  have hmm : DOwn w d m := .inr ⟨_, h.blk, .inr rfl⟩
  have hc : Clear w base d D T kv kvs m E pvs kpv := by
    refine ⟨h, fun e => (hT d e (hlt d hd)).1 hd, fun k e1 e2 => (hT k e2 (hlt k (hk k e1))).1 (hk k e1), fun e => (hT m e (hlt m hmm)).1 hmm, fun g cs hg e => ?_, fun g cs hg e => ?_⟩
    · obtain ⟨-, cs', t, fr, h1, h2, -⟩ := hT g e (lt_of_block hg)
      rw [h1] at hg
      injection hg with hg
      injection hg with _ hg
      exact h2 hg
    · obtain ⟨-, cs', t, fr, h1, -, h2⟩ := hT g e (lt_of_block hg)
      rw [h1] at hg
      injection hg with hg
      injection hg with _ hg
      exact h2 hg
  exact ⟨kv, kvs, m, E, pvs, kpv, hc.moves hm⟩
/-- The blocks that a call on the log may write to. -/
def ROwn (w : World) (r d : Nat) (lv : Value) (k : Nat) : Prop := k = r ∨ lv.ownBlock = some k ∨ DOwn w d k
structure RingAt (w : World) (base d r s n z : Nat) (D : DS) (h : Hd) (lv : Value) (vals : List Value) (L : List (List Int)) : Prop where
  rb : RingB w r d s n z h lv
  dk : IsDisk w base d D
  hr : base ≤ r
  own : w.ownsRow base 55 1 lv vals.length vals
  nd : ∀ k, lv.ownBlock = some k → ¬ DOwn w d k
  recs : All2 (fun v bs => BRow w (fun g => ¬ ROwn w r d lv g) v bs) vals L
/-- What has turned: blocks of the log's own, and new ones. -/
structure RMv (w : World) (r d : Nat) (lv : Value) (w' : World) (lv' : Value) : Prop where
  mv : Moves (ROwn w r d lv) w w'
  kp : ∀ k, ROwn w' r d lv' k → ROwn w r d lv k ∨ w.heap.size ≤ k
theorem RMv.trans {w w1 w2 : World} {r d : Nat} {lv lv1 lv2 : Value} (h : RMv w r d lv w1 lv1) (k : RMv w1 r d lv1 w2 lv2) : RMv w r d lv w2 lv2 :=
  ⟨h.mv.andThen k.mv (fun i hi hlt => by
    rcases h.kp i hi with e | e
    · exact e
    · omega), fun i hi => by
    rcases k.kp i hi with e | e
    · exact h.kp i e
    · have := h.mv.size; exact .inr (by omega)⟩
variable {w w' : World} {base d r s n z : Nat} {D : DS} {h : Hd} {lv : Value} {vals : List Value} {L : List (List Int)}
theorem RingAt.low (H : RingAt w base d r s n z D h lv vals L) {k : Nat} (hk : ROwn w r d lv k) : base ≤ k := by
  rcases hk with rfl | e | e
  · exact H.hr
  · exact (H.own.lt _ e).1
  · exact H.dk.low k e
theorem RingAt.lt (H : RingAt w base d r s n z D h lv vals L) {k : Nat} (hk : ROwn w r d lv k) : k < w.heap.size := by
  rcases hk with rfl | e | e
  · exact lt_of_block H.rb
  · exact (H.own.lt _ e).2
  · exact down_lt H.dk e
theorem RingAt.nr (H : RingAt w base d r s n z D h lv vals L) : lv.ownBlock ≠ some r := fun e => by
  obtain ⟨cur, hc⟩ := own_block H.own e
  have h1 := H.rb
  unfold RingB at h1
  rw [h1] at hc
  cases hc
theorem RingAt.rd (H : RingAt w base d r s n z D h lv vals L) : ¬ DOwn w d r := H.dk.apart H.rb (by decide) (by decide)
theorem RingAt.len (H : RingAt w base d r s n z D h lv vals L) : vals.length = L.length := H.recs.1
theorem rmv_of0 (H : RingAt w base d r s n z D h lv vals L) (hm : Moves (fun _ => False) w w') : RMv w r d lv w' lv := by
  have hd : w'.heap[d]? = w.heap[d]? := hm.block d (H.lt (.inr (.inr (.inl rfl)))) (fun e => e)
  refine ⟨hm.none _, fun k hk => .inl ?_⟩
  rcases hk with e | e | e
  · exact .inl e
  · exact .inr (.inl e)
  · exact .inr (.inr ((down_same hd k).1 e))
theorem rown0 (H : RingAt w base d r s n z D h lv vals L) (hm : Moves (fun _ => False) w w') {k : Nat} (hk : ROwn w' r d lv k) : ROwn w r d lv k := by
  have hd : w'.heap[d]? = w.heap[d]? := hm.block d (H.lt (.inr (.inr (.inl rfl)))) (fun e => e)
  rcases hk with e | e | e
  · exact .inl e
  · exact .inr (.inl e)
  · exact .inr (.inr ((down_same hd k).1 e))
/-- A row of bytes that is none of the log's own stays. -/
theorem RMv.row {lv' : Value} (hm : RMv w r d lv w' lv') {v : Value} {bs : List Int} (hb : BRow w (fun g => ¬ ROwn w r d lv g) v bs) : BRow w' (fun g => ¬ ROwn w' r d lv' g) v bs := by
  obtain ⟨⟨A, c, hv, hc, hx⟩, h1, h2⟩ := hb
  refine ⟨⟨A, c, hv, hc, fun h0 => ?_⟩, h1, h2⟩
  obtain ⟨g, o, hA, hg, hlt, hcell⟩ := hx h0
  have hs := hm.mv.size
  refine ⟨g, o, hA, fun e => ?_, by omega, fun j u hu => (hm.mv.cell (p := ⟨g, o + j, none⟩) hlt hg).trans (hcell j u hu)⟩
  rcases hm.kp g e with q | q
  · exact hg q
  · omega
theorem recs_turn {lv' : Value} (hm : RMv w r d lv w' lv') (hr : All2 (fun v bs => BRow w (fun g => ¬ ROwn w r d lv g) v bs) vals L) : All2 (fun v bs => BRow w' (fun g => ¬ ROwn w' r d lv' g) v bs) vals L :=
  hr.mono fun _ _ q => hm.row q
theorem RingAt.moves0 (H : RingAt w base d r s n z D h lv vals L) (hm : Moves (fun _ => False) w w') : RingAt w' base d r s n z D h lv vals L := by
  have hd : w'.heap[d]? = w.heap[d]? := hm.block d (H.lt (.inr (.inr (.inl rfl)))) (fun e => e)
  exact ⟨H.rb.moves0 hm, H.dk.moves0 hm, H.hr, own_moves H.own hm (fun _ _ e => e), fun k e q => H.nd k e ((down_same hd k).1 q), recs_turn (rmv_of0 H hm) H.recs⟩
/-- A row's part. -/
theorem sub_row {w : World} {gb ob cb x : Nat} {bs : List Int} (hcell : ∀ q u, (bs.map fun y => Value.int .u8 y)[q]? = some u → w.cell? ⟨gb, ob + q, none⟩ = some u) (hlt : gb < w.heap.size) (hx : 4 + x ≤ bs.length) (hcb : bs.length ≤ cb) (hb : ∀ y ∈ bs, 0 ≤ y ∧ y < 256) (hbl : bs.length ≤ 1000000) {P : Nat → Prop} (hP : P gb) :
    BRow w P (.slice (some ⟨gb, ob + 4, none⟩) x (cb - 4)) ((bs.drop 4).take x) := by
  have hl : ((bs.drop 4).take x).length = x := by rw [List.length_take, List.length_drop]; omega
  refine ⟨⟨some ⟨gb, ob + 4, none⟩, cb - 4, by rw [List.length_map, hl], by rw [List.length_map, hl]; omega, fun _ => ⟨gb, ob + 4, rfl, hP, hlt, fun q u hu => ?_⟩⟩, fun y hy => hb y (List.mem_of_mem_drop (List.mem_of_mem_take hy)), by rw [hl]; omega⟩
  have hq : q < x := by have := (List.getElem?_eq_some_iff.1 hu).1; rw [List.length_map, hl] at this; exact this
  have e : ob + 4 + q = ob + (4 + q) := by omega
  rw [e]
  refine hcell (4 + q) u ?_
  rw [List.getElem?_map] at hu ⊢
  rw [List.getElem?_take_of_lt hq, List.getElem?_drop] at hu
  exact hu
/-- A call on the disk. -/
theorem rmv_disk (hm : DMv w d w') : RMv w r d lv w' lv :=
  ⟨hm.mv.mono (fun k e => .inr (.inr e)), fun k hk => by
    rcases hk with e | e | e
    · exact .inl (.inl e)
    · exact .inl (.inr (.inl e))
    · rcases hm.kp k e with q | q
      · exact .inl (.inr (.inr q))
      · exact .inr q⟩
theorem RingAt.disk (H : RingAt w base d r s n z D h lv vals L) {D' : DS} (hD : IsDisk w' base d D') (hm : DMv w d w') : RingAt w' base d r s n z D' h lv vals L := by
  refine ⟨H.rb.moves hm.mv H.rd, hD, H.hr, own_moves H.own hm.mv (fun k e => H.nd k e), fun k e q => ?_, recs_turn (rmv_disk hm) H.recs⟩
  rcases hm.kp k q with q | q
  · exact H.nd k e q
  · have := (H.own.lt k e).2; omega
theorem rmv_r (H : RingAt w base d r s n z D h lv vals L) (hm : Moves (fun k => k = r) w w') : RMv w r d lv w' lv := by
  have hd : w'.heap[d]? = w.heap[d]? := hm.block d (H.lt (.inr (.inr (.inl rfl)))) (fun e => by subst e; exact H.rd (.inl rfl))
  refine ⟨hm.mono (fun k e => .inl e), fun k hk => .inl ?_⟩
  rcases hk with e | e | e
  · exact .inl e
  · exact .inr (.inl e)
  · exact .inr (.inr ((down_same hd k).1 e))
/-- The head is laid anew. -/
theorem RingAt.head (H : RingAt w base d r s n z D h lv vals L) (h' : Hd) : RingAt (put5 w r h') base d r s n z D h' lv vals L := by
  have hm := put5_moves w r h'
  have hd : (put5 w r h').heap[d]? = w.heap[d]? := hm.block d (H.lt (.inr (.inr (.inl rfl)))) (fun e => by subst e; exact H.rd (.inl rfl))
  exact ⟨H.rb.put h', H.rb.aside H.dk hm, H.hr, own_moves H.own hm (fun k e q => by subst q; exact H.nr e), fun k e q => H.nd k e ((down_same hd k).1 q), recs_turn (rmv_r H hm) H.recs⟩
/-- A record is laid behind the others. -/
theorem RingAt.push (H : RingAt w base d r s n z D h lv vals L) {v : Value} {bs : List Int} (hv : BRow w (fun g => ¬ ROwn w r d lv g) v bs) {w5 : World} {lv' : Value} {m : Nat} (hlen : vals.length + 1 = m) (hown : w5.ownsRow base 55 1 lv' m (vals ++ [v])) (hg : w.grownBy w5 lv.ownBlock) (hl : lv'.ownBlock = lv.ownBlock ∨ ∃ q, lv'.ownBlock = some q ∧ w.heap.size ≤ q) :
    RingAt (w5.setCell ⟨r, 9, none⟩ lv') base d r s n z D h lv' (vals ++ [v]) (L ++ [bs]) ∧ RMv w r d lv (w5.setCell ⟨r, 9, none⟩ lv') lv' ∧ Moves (fun k => k = r ∨ lv.ownBlock = some k) w (w5.setCell ⟨r, 9, none⟩ lv') := by
  subst hlen
  have m1 : Moves (fun k => lv.ownBlock = some k) w w5 := Moves.of_grown hg (fun k e => e)
  have m2 : Moves (fun k => k = r) w5 (w5.setCell ⟨r, 9, none⟩ lv') := (Moves.refl (fun k => k = r) w5).setCell (p := ⟨r, 9, none⟩) (fun _ => rfl) _
  have mm : Moves (fun k => k = r ∨ lv.ownBlock = some k) w (w5.setCell ⟨r, 9, none⟩ lv') := (m1.mono (fun k e => .inr e)).andThen m2 (fun k e _ => .inl e)
  have hdl : d < w.heap.size := H.lt (.inr (.inr (.inl rfl)))
  have hdn : ¬ (d = r ∨ lv.ownBlock = some d) := fun e => by
    rcases e with e | e
    · subst e; exact H.rd (.inl rfl)
    · exact H.nd d e (.inl rfl)
  have hd : (w5.setCell ⟨r, 9, none⟩ lv').heap[d]? = w.heap[d]? := mm.block d hdl hdn
  have hM : RMv w r d lv (w5.setCell ⟨r, 9, none⟩ lv') lv' := ⟨mm.mono (fun k e => by rcases e with e | e; exact .inl e; exact .inr (.inl e)), fun k hk => by
    rcases hk with e | e | e
    · exact .inl (.inl e)
    · rcases hl with q | ⟨j, q, hj⟩
      · rw [q] at e; exact .inl (.inr (.inl e))
      · rw [q] at e; cases e; exact .inr hj
    · exact .inl (.inr (.inr ((down_same hd k).1 e)))⟩
  have hr5 : w5.heap[r]? = w.heap[r]? := m1.block r (lt_of_block H.rb) H.nr
  have hrb : RingB (w5.setCell ⟨r, 9, none⟩ lv') r d s n z h lv' := by
    have h0 := H.rb
    unfold RingB at h0 ⊢
    simp [World.setCell, Array.getElem?_modify, hr5, h0]
  have hnr : lv'.ownBlock ≠ some r := fun e => by
    obtain ⟨cur, hc⟩ := own_block hown e
    have h0 := H.rb
    unfold RingB at h0
    rw [hr5, h0] at hc
    cases hc
  refine ⟨⟨hrb, asideS H.dk mm (fun g hg _ => ?_), H.hr, ?_, fun k e q => ?_, (recs_turn hM H.recs).append (hM.row hv)⟩, hM, mm⟩
  · rcases hg with rfl | e
    · exact ⟨H.rd, _, _, _, H.rb, by decide, by decide⟩
    · obtain ⟨cur, hc⟩ := own_block H.own e
      exact ⟨H.nd g e, _, _, _, hc, by decide, by decide⟩
  · rw [List.length_append, List.length_singleton]
    exact own_moves hown m2 (fun k e q => by subst q; exact hnr e)
  · have q := (down_same hd k).1 q
    rcases hl with e1 | ⟨j, e1, hj⟩
    · rw [e1] at e; exact H.nd k e q
    · rw [e1] at e; cases e
      have := down_lt H.dk q
      omega
end Go.Proofs.Ytnagpianaghjeaa.Rg
