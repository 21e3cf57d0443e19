/-
  A disk in memory: what its struct, its sectors, its pending writes read as.
-/
import Derived.Test.YtnagpianaghjeaaDiskSort
import Derived.Lib.Hide
namespace Go.Proofs.Ytnagpianaghjeaa.Pl
open Go Go.RowKit Go.Maps Go.Sort Go.Proofs

theorem own_weak {w : World} {base base' : Nat} {e : TypeId} {size n : Nat} {v : Value} {xs : List Value} (hb : base' ≤ base) (h : w.ownsRow base e size v n xs) : w.ownsRow base' e size v n xs := by
  refine ⟨h.1, ?_⟩
  rcases h.2 with hn | ⟨g, cap, cur, rfl, hb', r⟩
  · exact .inl hn
  · exact .inr ⟨g, cap, cur, rfl, Nat.le_trans hb hb', r⟩
abbrev encB (x : Int) : Value := .int .u8 x
/-- A sector's slice: its bytes in a block of bytes that is not elder than base. -/
def Sec (w : World) (base : Nat) (v : Value) (xs : List Int) : Prop :=
  ∃ g o c cs, v = .slice (some ⟨g, o, none⟩) xs.length c ∧ xs.length ≤ c ∧ c ≤ maxLen ∧ base ≤ g ∧ w.heap[g]? = some (.cells cs 5 (0, 0)) ∧ ∀ j u, (xs.map encB)[j]? = some u → w.cell? ⟨g, o + j, none⟩ = some u
theorem Sec.lt {w : World} {base : Nat} {v : Value} {xs : List Int} (h : Sec w base v xs) : ∃ g o c, v = .slice (some ⟨g, o, none⟩) xs.length c ∧ xs.length ≤ c ∧ c ≤ maxLen ∧ base ≤ g ∧ g < w.heap.size ∧ ∀ j u, (xs.map encB)[j]? = some u → w.cell? ⟨g, o + j, none⟩ = some u := by
  obtain ⟨g, o, c, cs, hv, hc, hm, hb, hg, hx⟩ := h
  exact ⟨g, o, c, hv, hc, hm, hb, (Array.getElem?_eq_some_iff.1 hg).1, hx⟩
theorem Sec.moves {S : Nat → Prop} {w w' : World} {base : Nat} {v : Value} {xs : List Int} (h : Sec w base v xs) (hm : Moves S w w') (hs : ∀ g cs, w.heap[g]? = some (.cells cs 5 (0, 0)) → ¬ S g) : Sec w' base v xs := by
  obtain ⟨g, o, c, cs, hv, hc, hmx, hb, hg, hx⟩ := h
  have hlt := (Array.getElem?_eq_some_iff.1 hg).1
  exact ⟨g, o, c, cs, hv, hc, hmx, hb, (hm.block g hlt (hs g cs hg)).trans hg, fun j u hu => (hm.cell (p := ⟨g, o + j, none⟩) hlt (hs g cs hg)).trans (hx j u hu)⟩
theorem Sec.of_own {w : World} {base n : Nat} {v : Value} {xs : List Int} (h : w.ownsRow base 5 1 v n (xs.map encB)) (h0 : 0 < xs.length) : Sec w base v xs := by
  obtain rfl : xs.length = n := by simpa using h.1
  rcases h.2 with ⟨rfl, h1⟩ | ⟨g, cap, cur, rfl, hb, hg, hn, hm, hs, ht⟩
  · omega
  · refine ⟨g, 0, cap, cur, rfl, hn, hm, hb, hg, fun j u hu => ?_⟩
    have hj : j < xs.length := by have := (List.getElem?_eq_some_iff.1 hu).1; simpa using this
    rw [← ht, List.getElem?_take_of_lt (by omega)] at hu
    simp only [World.cell?, hg, Nat.zero_add, Option.isSome_none, Bool.false_eq_true, if_false]
    rw [← Array.getElem?_toList]
    exact hu

/-- The i-th sector that is written to, the i-th slice. -/
def sF (ss : List Int) (i : Nat) : Int := ss.getD i 0
def vF (vs : List Value) (i : Nat) : Value := vs.getD i undef
def pl (ss : List Int) (vs : List Value) : List (Pr × Value) := (List.range ss.length).map fun i => (fP (sF ss) i, vF vs i)
theorem pl_fst (ss : List Int) (vs : List Value) : (pl ss vs).map Prod.fst = (List.range ss.length).map (fP (sF ss)) := by
  unfold pl
  rw [List.map_map]
  rfl
theorem pl_len (ss : List Int) (vs : List Value) : (pl ss vs).length = ss.length := by simp [pl]
theorem sF_append (ss : List Int) (x : Int) {i : Nat} (h : i < ss.length) : sF (ss ++ [x]) i = sF ss i := by
  unfold sF
  rw [List.getD_eq_getElem?_getD, List.getD_eq_getElem?_getD, List.getElem?_append_left h]
theorem sF_last (ss : List Int) (x : Int) : sF (ss ++ [x]) ss.length = x := by
  unfold sF
  rw [List.getD_eq_getElem?_getD, List.getElem?_append_right (Nat.le_refl _)]
  simp
theorem vF_append (vs : List Value) (x : Value) {i : Nat} (h : i < vs.length) : vF (vs ++ [x]) i = vF vs i := by
  unfold vF
  rw [List.getD_eq_getElem?_getD, List.getD_eq_getElem?_getD, List.getElem?_append_left h]
theorem vF_last (vs : List Value) (x : Value) : vF (vs ++ [x]) vs.length = x := by
  unfold vF
  rw [List.getD_eq_getElem?_getD, List.getElem?_append_right (Nat.le_refl _)]
  simp
theorem pl_append {ss : List Int} {vs : List Value} (h : vs.length = ss.length) (x : Int) (v : Value) : pl (ss ++ [x]) (vs ++ [v]) = pl ss vs ++ [(((ss.length : Int), x), v)] := by
  unfold pl
  rw [List.length_append, List.length_singleton, List.range_succ, List.map_append]
  congr 1
  · refine List.map_congr_left fun i hi => ?_
    have hi := List.mem_range.1 hi
    rw [vF_append _ _ (by omega)]
    unfold fP
    rw [sF_append _ _ hi]
  · have := vF_last vs v
    rw [h] at this
    simp [fP, sF_last, this]
theorem pl_mem {ss : List Int} {vs : List Value} {i : Nat} (h : i < ss.length) : (fP (sF ss) i, vF vs i) ∈ pl ss vs := List.mem_map.2 ⟨i, List.mem_range.2 h, rfl⟩
theorem pl_new (ss : List Int) (vs : List Value) (x : Int) : ((ss.length : Int), x) ∉ (pl ss vs).map Prod.fst := by
  rw [pl_fst]
  intro h
  obtain ⟨i, hi, e⟩ := List.mem_map.1 h
  have hi := List.mem_range.1 hi
  have : (i : Int) = ss.length := congrArg Prod.fst e
  omega

/-- A disk's state. -/
structure DS where
  size : Nat
  kept : List (List Int)
  secs : List Int
  data : List (List Int)
  off : Bool
  armed : Bool
  left : Int
  keep : List Bool
  writes : Int

def All2 {α β : Type} (R : α → β → Prop) (l : List α) (l' : List β) : Prop := l.length = l'.length ∧ ∀ i (h : i < l.length) (h' : i < l'.length), R l[i] l'[i]
theorem All2.nil {α β : Type} (R : α → β → Prop) : All2 R [] [] := ⟨rfl, fun i h => by simp at h⟩
theorem All2.append {α β : Type} {R : α → β → Prop} {l : List α} {l' : List β} {a : α} {b : β} (h : All2 R l l') (hr : R a b) : All2 R (l ++ [a]) (l' ++ [b]) := by
  refine ⟨by simp [h.1], fun i hi hi' => ?_⟩
  by_cases e : i < l.length
  · rw [List.getElem_append_left e, List.getElem_append_left (by have := h.1; omega)]
    exact h.2 i e _
  · have : i = l.length := by simp at hi; omega
    subst this
    rw [List.getElem_append_right (by omega), List.getElem_append_right (by have := h.1; omega)]
    have h1 := h.1
    simp only [h1, Nat.sub_self, List.getElem_cons_zero]
    simpa using hr
theorem All2.set {α β : Type} {R : α → β → Prop} {l : List α} {l' : List β} {a : α} {b : β} (h : All2 R l l') (hr : R a b) (i : Nat) : All2 R (l.set i a) (l'.set i b) := by
  refine ⟨by simp [h.1], fun j hj hj' => ?_⟩
  by_cases e : i = j
  · subst e; simpa using hr
  · have h1 := h.2 j (by simpa using hj) (by simpa using hj')
    simpa [List.getElem_set, e] using h1
theorem All2.mono {α β : Type} {R R' : α → β → Prop} {l : List α} {l' : List β} (h : All2 R l l') (hr : ∀ a b, R a b → R' a b) : All2 R' l l' := ⟨h.1, fun i hi hi' => hr _ _ (h.2 i hi hi')⟩

structure DiskAt (w : World) (base d : Nat) (S : DS) (kv : Value) (kvs : List Value) (m : Nat) (D : DataW Value) (pvs : List Value) (kpv : Value) : Prop where
  blk : w.heap[d]? = some (.cells #[.int .i64 S.size, kv, .map (some m), .bool S.off, .bool S.armed, .int .i64 S.left, kpv, .int .i64 S.writes] 105 (0, 0))
  hd : base ≤ d
  kept : w.ownsRow base 55 1 kv kvs.length kvs
  secs : All2 (Sec w base) kvs S.kept
  hm : base ≤ m
  map : w.ownsMap Try.prog 144 RV m S.secs.length D
  pend : VOf D (pl S.secs pvs)
  data : All2 (Sec w base) pvs S.data
  len : S.data.length = S.secs.length
  keep : w.ownsRow base 4 1 kpv S.keep.length (S.keep.map .bool)
  wf : ∀ x ∈ S.kept, x.length = S.size
  wfd : ∀ x ∈ S.data, x.length = S.size
  wfs : ∀ x ∈ S.secs, 0 ≤ x ∧ x < S.kept.length
  few : S.secs.length ≤ 1000000 ∧ S.kept.length ≤ 16384
/-- Some disk there, in this state. -/
def IsDisk (w : World) (base d : Nat) (S : DS) : Prop := ∃ kv kvs m D pvs kpv, DiskAt w base d S kv kvs m D pvs kpv
/-- The blocks that a call on the disk may write to. -/
def DOwn (w : World) (d k : Nat) : Prop := k = d ∨ ∃ cs, w.heap[d]? = some (.cells cs 105 (0, 0)) ∧ ((∃ v, cs[1]? = some v ∧ v.ownBlock = some k) ∨ cs[2]? = some (.map (some k)))

theorem DiskAt.own {w : World} {base d : Nat} {S : DS} {kv : Value} {kvs : List Value} {m : Nat} {D : DataW Value} {pvs : List Value} {kpv : Value} (h : DiskAt w base d S kv kvs m D pvs kpv) {k : Nat} (hk : DOwn w d k) : k = d ∨ kv.ownBlock = some k ∨ k = m := by
  rcases hk with rfl | ⟨cs, hb, hk⟩
  · exact .inl rfl
  · rw [h.blk] at hb
    cases hb
    rcases hk with ⟨v, hv, hk⟩ | hk
    · simp at hv; subst hv; exact .inr (.inl hk)
    · simp at hk; exact .inr (.inr hk.symm)
theorem IsDisk.low {w : World} {base d : Nat} {S : DS} (h : IsDisk w base d S) : ∀ k, DOwn w d k → base ≤ k := fun k hk => by
  obtain ⟨kv, kvs, m, D, pvs, kpv, h⟩ := h
  rcases h.own hk with rfl | hk | rfl
  · exact h.hd
  · exact (h.kept.lt k hk).1
  · exact h.hm
/-- A block of cells of another type is none of the disk's own. -/
theorem IsDisk.apart {w : World} {base d g : Nat} {S : DS} {cs : Array Value} {t : TypeId} {fr : Nat × Nat} (h : IsDisk w base d S) (hg : w.heap[g]? = some (.cells cs t fr)) (h1 : t ≠ 105) (h2 : t ≠ 55) : ¬ DOwn w d g := fun hk => by
  obtain ⟨kv, kvs, m, D, pvs, kpv, h⟩ := h
  rcases h.own hk with rfl | hk | rfl
  · rw [h.blk] at hg; cases hg; exact h1 rfl
  · obtain ⟨cur, hc⟩ := own_block h.kept hk
    rw [hc] at hg; cases hg; exact h2 rfl
  · obtain ⟨es, ck, hb, _⟩ := h.map
    rw [hb] at hg; cases hg
/-- What is the disk's own stays its own, or is new: so calls may stand one behind the other. -/
def DKeep (w : World) (d : Nat) (w' : World) : Prop := ∀ k, DOwn w' d k → DOwn w d k ∨ w.heap.size ≤ k
theorem DKeep.of {w w' : World} {d : Nat} {cs cs' : Array Value} (hb : w.heap[d]? = some (.cells cs 105 (0, 0))) (hb' : w'.heap[d]? = some (.cells cs' 105 (0, 0))) (h1 : cs'[1]? = cs[1]?) (h2 : ∀ k, cs'[2]? = some (.map (some k)) → cs[2]? = some (.map (some k)) ∨ w.heap.size ≤ k) : DKeep w d w' := fun k hk => by
  rcases hk with rfl | ⟨cs2, hb2, hk⟩
  · exact .inl (.inl rfl)
  · rw [hb'] at hb2
    cases hb2
    rcases hk with ⟨v, hv, hk⟩ | hk
    · exact .inl (.inr ⟨cs, hb, .inl ⟨v, by rw [← h1]; exact hv, hk⟩⟩)
    · rcases h2 k hk with h | h
      · exact .inl (.inr ⟨cs, hb, .inr h⟩)
      · exact .inr h
theorem DKeep.same {w w' : World} {d : Nat} (h : w'.heap[d]? = w.heap[d]?) : DKeep w d w' := fun k hk => by
  rcases hk with rfl | ⟨cs, hb, hk⟩
  · exact .inl (.inl rfl)
  · exact .inl (.inr ⟨cs, by rw [← h]; exact hb, hk⟩)
theorem DKeep.trans {w w1 w2 : World} {d : Nat} (h : DKeep w d w1) (k : DKeep w1 d w2) (hs : w.heap.size ≤ w1.heap.size) : DKeep w d w2 := fun i hi => by
  rcases k i hi with e | e
  · exact h i e
  · exact .inr (Nat.le_trans hs e)
/-- What calls on a disk, and new blocks, leave. -/
structure DMv (w : World) (d : Nat) (w' : World) : Prop where
  mv : Moves (DOwn w d) w w'
  kp : DKeep w d w'
theorem DMv.trans {w w1 w2 : World} {d : Nat} (h : DMv w d w1) (k : DMv w1 d w2) : DMv w d w2 := ⟨h.mv.andThen k.mv (fun i hi hlt => by
  rcases h.kp i hi with e | e
  · exact e
  · omega), h.kp.trans k.kp h.mv.size⟩
theorem DMv.of0 {w w' : World} {d : Nat} (h : Moves (fun _ => False) w w') (hd : d < w.heap.size) : DMv w d w' := ⟨h.none _, DKeep.same (h.block d hd (fun e => e))⟩
theorem IsDisk.moves {S : Nat → Prop} {w w' : World} {base d : Nat} {s : DS} (h : IsDisk w base d s) (hm : Moves S w w') (hs : ∀ k, base ≤ k → ¬ S k) : IsDisk w' base d s := by
  obtain ⟨kv, kvs, m, D, pvs, kpv, h⟩ := h
  have hsec : ∀ a b, Sec w base a b → Sec w' base a b := fun a b hab => by
    obtain ⟨g, o, c, cs, hv, hc, hmx, hb, hg, hx⟩ := hab
    have hlt := (Array.getElem?_eq_some_iff.1 hg).1
    exact ⟨g, o, c, cs, hv, hc, hmx, hb, (hm.block g hlt (hs g hb)).trans hg, fun j u hu => (hm.cell (p := ⟨g, o + j, none⟩) hlt (hs g hb)).trans (hx j u hu)⟩
  exact ⟨kv, kvs, m, D, pvs, kpv, (hm.block d (Array.getElem?_eq_some_iff.1 h.blk).1 (hs d h.hd)).trans h.blk, h.hd, own_moves h.kept hm (fun g hg => hs g (h.kept.lt g hg).1), h.secs.mono hsec, h.hm, hm.ownsMap h.map (hs m h.hm), h.pend, h.data.mono hsec, h.len, own_moves h.keep hm (fun g hg => hs g (h.keep.lt g hg).1), h.wf, h.wfd, h.wfs, h.few⟩
theorem IsDisk.moves0 {w w' : World} {base d : Nat} {s : DS} (h : IsDisk w base d s) (hm : Moves (fun _ => False) w w') : IsDisk w' base d s := h.moves hm (fun _ _ h => h)
theorem IsDisk.under {w0 w w' : World} {d : Nat} {S : DS} (h : IsDisk w w0.heap.size d S) (h0 : Moves (fun _ => False) w0 w) (hm : Moves (DOwn w d) w w') : Moves (fun _ => False) w0 w' :=
  h0.andThen hm (fun i hi hlt => absurd (h.low i hi) (by omega))
end Go.Proofs.Ytnagpianaghjeaa.Pl
