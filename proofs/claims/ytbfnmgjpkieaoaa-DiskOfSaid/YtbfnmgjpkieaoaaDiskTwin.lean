/-
  A disk's twin.
-/
import Derived.Test.YtbfnmgjpkieaoaaDiskMore
import Derived.Test.YtbfnmgjpkieaoaaDiskCut
namespace Go.Proofs.Ytbfnmgjpkieaoaa.Pl
open Go Go.RowKit Go.Maps Go.Sort Go.Proofs

/-- A disk none of whose own blocks is one of T's: it stays when T's blocks are written to. -/
structure Clear (w : World) (base d : Nat) (S : DS) (T : Nat → Prop) (kv : Value) (kvs : List Value) (m : Nat) (D : DataW Value) (pvs : List Value) (kpv : Value) : Prop where
  at_ : DiskAt w base d S kv kvs m D pvs kpv
  nd : ¬ T d
  nk : ∀ k, kv.ownBlock = some k → ¬ T k
  nm : ¬ T m
  byt : ∀ g cs, w.heap[g]? = some (.cells cs 5 (0, 0)) → ¬ T g
  boo : ∀ g cs, w.heap[g]? = some (.cells cs 4 (0, 0)) → ¬ T g
theorem Clear.moves {w w' : World} {base d : Nat} {S : DS} {T : Nat → Prop} {kv : Value} {kvs : List Value} {m : Nat} {D : DataW Value} {pvs : List Value} {kpv : Value} (h : Clear w base d S T kv kvs m D pvs kpv) (hm : Moves T w w') : DiskAt w' base d S kv kvs m D pvs kpv := by
  have hsec : ∀ a b, Sec w base a b → Sec w' base a b := fun a b hab => hab.moves hm h.byt
  have h0 := h.at_
  exact ⟨(hm.block d (Array.getElem?_eq_some_iff.1 h0.blk).1 h.nd).trans h0.blk, h0.hd, own_moves h0.kept hm h.nk, h0.secs.mono hsec, h0.hm, hm.ownsMap h0.map h.nm, h0.pend, h0.data.mono hsec, h0.len, own_moves h0.keep hm (fun g hg => by
    obtain ⟨cur, hc⟩ := own_block h0.keep hg
    exact h.boo g cur hc), h0.wf, h0.wfd, h0.wfs, h0.few⟩

theorem DiskAt.aside {w : World} {base d g : Nat} {S : DS} {kv : Value} {kvs : List Value} {m : Nat} {D : DataW Value} {pvs : List Value} {kpv : Value} (h : DiskAt w base d S kv kvs m D pvs kpv) {cs : Array Value} (hg : w.heap[g]? = some (.cells cs 108 (0, 0))) (hne : d ≠ g) : Clear w base d S (fun k => k = g) kv kvs m D pvs kpv := by
  have ty : ∀ (k : Nat) (cs' : Array Value) (t' : TypeId) (fr : Nat × Nat), w.heap[k]? = some (.cells cs' t' fr) → t' ≠ 108 → k ≠ g := fun k cs' t' fr hk ht e => by
    rw [e, hg] at hk
    injection hk with hk
    injection hk with _ h1
    exact ht h1.symm
  refine ⟨h, hne, fun k hk e => ?_, fun e => ?_, fun k cs' hk e => ty k cs' _ _ hk (by decide) e, fun k cs' hk e => ty k cs' _ _ hk (by decide) e⟩
  · obtain ⟨cur, hc⟩ := own_block h.kept hk
    exact ty k cur _ _ hc (by decide) e
  · obtain ⟨es, ck, hb, _⟩ := h.map
    rw [e, hg] at hb
    cases hb

def TwinPost (w : World) (base d : Nat) (S : DS) (e : Ending) (w' : World) : Prop := ∃ t, e = .returned (.pointer (some ⟨t, 0, none⟩)) ∧ IsDisk w' base d S ∧ (∃ kv kvs m D pvs kpv, Clear w' base t S (DOwn w' d) kv kvs m D pvs kpv) ∧ Moves (fun _ => False) w w'

set_option maxRecDepth 100000 in
set_option maxHeartbeats 2000000 in
theorem twin_any {w : World} {base d : Nat} {S : DS} (h : IsDisk w base d S) (hk : S.keep.length ≤ 1000000) :
    Calls Try.prog 38 #[.pointer (some ⟨d, 0, none⟩)] w (TwinPost w base d S) := by
  have hdl := h.lt
  obtain ⟨kv, kvs, m, D, pvs, kpv, h⟩ := h
  obtain ⟨Ak, ck, rfl, -, -, -, -, -⟩ := own_form h.kept
  obtain ⟨Ap, cp, rfl, -, -, -, -, -⟩ := own_form h.keep
  obtain ⟨c0, c1, c2, c3, c4, c5, c6, c7⟩ := h.cells
  have hm1 := (Moves.refl (fun _ => False) w).alloc (.cells #[.int .i64 S.size, .slice Ak kvs.length ck, .map (some m), .bool S.off, .bool S.armed, .int .i64 S.left, .slice Ap S.keep.length cp, .int .i64 S.writes] 108)
  have hb1 := heap_alloc_new w (.cells #[.int .i64 S.size, .slice Ak kvs.length ck, .map (some m), .bool S.off, .bool S.armed, .int .i64 S.left, .slice Ap S.keep.length cp, .int .i64 S.writes] 108)
  have H1 := Lib.hid (And.intro (h.moves0 hm1) (And.intro hm1 hb1))
  have HB := Lib.hid h.hd
  have h0 := h
  clear hm1 hb1 h
  go_enter Try.func38, Try.ntmps38
  go_upto_region 2 with fail
  have hsz : Hid (d < w.heap.size ∧ (w.alloc (.cells #[.int .i64 S.size, .slice Ak kvs.length ck, .map (some m), .bool S.off, .bool S.armed, .int .i64 S.left, .slice Ap S.keep.length cp, .int .i64 S.writes] 108)).heap.size = w.heap.size + 1) := Lib.hid ⟨hdl, by simp⟩
  have HW := Lib.hid h0
  clear c0 c1 c2 c3 c4 c5 c6 c7 hdl h0
  generalize w.alloc (.cells #[.int .i64 S.size, .slice Ak kvs.length ck, .map (some m), .bool S.off, .bool S.armed, .int .i64 S.left, .slice Ap S.keep.length cp, .int .i64 S.writes] 108) = W1 at H1 hsz ⊢
  obtain ⟨tb, htb⟩ : ∃ tb, w.heap.size = tb := ⟨_, rfl⟩
  rw [htb] at H1 hsz ⊢
  have HTB := Lib.hid htb
  clear htb
  -- the sectors
  obtain ⟨-, c1, -⟩ := H1.out.1.cells
  have hkl : kvs.length ≤ 1000000 := by have := H1.out.1.few.2; have := H1.out.1.secs.1; omega
  have HC := Lib.hid (cloneS (Row.of_owns H1.out.1.kept) (fun u hu => by
    obtain ⟨i, hi, rfl⟩ := List.getElem_of_mem hu
    obtain ⟨g, o, c, cs, hv, -⟩ := H1.out.1.secs.2 i hi (by rw [← H1.out.1.secs.1]; exact hi)
    rw [hv]; rfl) hkl)
  go_wp2_with fail
  refine HC.out.mono ?_
  rintro e w2 ⟨v2, rfl, hown2, hm2⟩
  have hb2 := (hm2.block tb (Array.getElem?_eq_some_iff.1 H1.out.2.2).1 (fun h => h)).trans H1.out.2.2
  have H2 := Lib.hid (And.intro (H1.out.1.moves0 hm2) (And.intro (H1.out.2.1.trans hm2) (And.intro hb2 hown2)))
  clear hm2 hown2 c1 HC H1
  obtain ⟨A2, k2, rfl, -⟩ := own_form H2.out.2.2.2
  obtain ⟨t1, f1⟩ : w2.cell? ⟨tb, 1, none⟩ = some (.slice Ak kvs.length ck) ∧ w2.frozen? ⟨tb, 1, none⟩ = false := by
    constructor <;> simp [World.cell?, World.frozen?, hb2]
  clear hb2
  go_upto_region 3 with fail
  have hms : Moves (fun k => k = tb) w2 (w2.setCell ⟨tb, 1, none⟩ (.slice A2 kvs.length k2)) := Moves.setCell (p := ⟨tb, 1, none⟩) (Moves.refl (fun k => k = tb) w2) (fun _ => rfl) _
  have H3 : Hid (DiskAt (w2.setCell ⟨tb, 1, none⟩ (.slice A2 kvs.length k2)) base d S (.slice Ak kvs.length ck) kvs m D pvs (.slice Ap S.keep.length cp) ∧ Moves (fun _ => False) w (w2.setCell ⟨tb, 1, none⟩ (.slice A2 kvs.length k2)) ∧ (w2.setCell ⟨tb, 1, none⟩ (.slice A2 kvs.length k2)).heap[tb]? = some (.cells #[.int .i64 S.size, .slice A2 kvs.length k2, .map (some m), .bool S.off, .bool S.armed, .int .i64 S.left, .slice Ap S.keep.length cp, .int .i64 S.writes] 108 (0, 0)) ∧ (w2.setCell ⟨tb, 1, none⟩ (.slice A2 kvs.length k2)).ownsRow tb 29 1 (.slice A2 kvs.length k2) kvs.length kvs) := by
    have h := H2.out
    refine Lib.hid ⟨(h.1.aside h.2.2.1 (by have := hsz.out.1; omega)).moves hms, h.2.1.andThen hms (fun k (e : k = tb) hlt => by have := HTB.out; omega), by simp [World.setCell, Array.getElem?_modify, h.2.2.1], own_weak (by have := hsz.out.2; omega) (own_moves h.2.2.2 hms (fun g hg (e : g = tb) => ?_))⟩
    have := (h.2.2.2.lt g hg).1
    have := hsz.out.2
    omega
  clear hms t1 f1 H2
  generalize w2.setCell ⟨tb, 1, none⟩ (.slice A2 kvs.length k2) = w3 at H3 ⊢
  -- what is pending
  obtain ⟨-, -, c2, -⟩ := H3.out.1.cells
  have HC := Lib.hid (AnyW.maps_Clone_owns Try.cloneP 113 RV m S.secs.length D w3 H3.out.1.map)
  change Hid (Calls Try.prog 69 _ _ _) at HC
  go_wp2_with fail
  refine HC.out.mono ?_
  rintro e w4 ⟨rfl, hown4, -, hB4⟩
  have hm4 : Moves (fun _ => False) w3 w4 := Moves.of_below hB4
  have hb4 := (hm4.block tb (Array.getElem?_eq_some_iff.1 H3.out.2.2.1).1 (fun h => h)).trans H3.out.2.2.1
  have H4 : Hid (DiskAt w4 base d S (.slice Ak kvs.length ck) kvs m D pvs (.slice Ap S.keep.length cp) ∧ Moves (fun _ => False) w w4 ∧ w4.heap[tb]? = some (.cells #[.int .i64 S.size, .slice A2 kvs.length k2, .map (some m), .bool S.off, .bool S.armed, .int .i64 S.left, .slice Ap S.keep.length cp, .int .i64 S.writes] 108 (0, 0)) ∧ w4.ownsRow tb 29 1 (.slice A2 kvs.length k2) kvs.length kvs ∧ w4.ownsMap Try.prog 113 RV w3.heap.size S.secs.length D ∧ tb < w3.heap.size) :=
    Lib.hid ⟨H3.out.1.moves0 hm4, H3.out.2.1.trans hm4, hb4, own_moves H3.out.2.2.2 hm4 (fun _ _ h => h), hown4, (Array.getElem?_eq_some_iff.1 H3.out.2.2.1).1⟩
  obtain ⟨t1, f1⟩ : w4.cell? ⟨tb, 2, none⟩ = some (.map (some m)) ∧ w4.frozen? ⟨tb, 2, none⟩ = false := by
    constructor <;> simp [World.cell?, World.frozen?, hb4]
  clear hb4 hm4 hB4 hown4 HC c2 H3
  generalize w3.heap.size = m2 at H4 ⊢
  go_upto_region 4 with fail
  have hms : Moves (fun k => k = tb) w4 (w4.setCell ⟨tb, 2, none⟩ (.map (some m2))) := Moves.setCell (p := ⟨tb, 2, none⟩) (Moves.refl (fun k => k = tb) w4) (fun _ => rfl) _
  have H5 : Hid (DiskAt (w4.setCell ⟨tb, 2, none⟩ (.map (some m2))) base d S (.slice Ak kvs.length ck) kvs m D pvs (.slice Ap S.keep.length cp) ∧ Moves (fun _ => False) w (w4.setCell ⟨tb, 2, none⟩ (.map (some m2))) ∧ (w4.setCell ⟨tb, 2, none⟩ (.map (some m2))).heap[tb]? = some (.cells #[.int .i64 S.size, .slice A2 kvs.length k2, .map (some m2), .bool S.off, .bool S.armed, .int .i64 S.left, .slice Ap S.keep.length cp, .int .i64 S.writes] 108 (0, 0)) ∧ (w4.setCell ⟨tb, 2, none⟩ (.map (some m2))).ownsRow tb 29 1 (.slice A2 kvs.length k2) kvs.length kvs ∧ (w4.setCell ⟨tb, 2, none⟩ (.map (some m2))).ownsMap Try.prog 113 RV m2 S.secs.length D ∧ tb < m2) := by
    have h := H4.out
    refine Lib.hid ⟨(h.1.aside h.2.2.1 (by have := hsz.out.1; omega)).moves hms, h.2.1.andThen hms (fun k (e : k = tb) hlt => by have := HTB.out; omega), by simp [World.setCell, Array.getElem?_modify, h.2.2.1], own_moves h.2.2.2.1 hms (fun g hg (e : g = tb) => ?_), hms.ownsMap h.2.2.2.2.1 (fun (e : m2 = tb) => by have := h.2.2.2.2.2; omega), h.2.2.2.2.2⟩
    obtain ⟨cur, hc⟩ := own_block h.2.2.2.1 hg
    rw [e, h.2.2.1] at hc
    cases hc
  clear hms t1 f1 H4
  generalize w4.setCell ⟨tb, 2, none⟩ (.map (some m2)) = w5 at H5 ⊢
  -- what a cut keeps
  obtain ⟨-, -, -, -, -, -, c6, -⟩ := H5.out.1.cells
  have HC := Lib.hid (cloneT (Row.of_owns H5.out.1.keep) (fun u hu => by obtain ⟨b, _, rfl⟩ := List.mem_map.1 hu; rfl) (by rw [List.length_map]; exact hk))
  go_wp2_with fail
  refine HC.out.mono ?_
  rintro e w6 ⟨v6, rfl, hown6, hm6⟩
  rw [List.length_map] at hown6
  have hb6 := (hm6.block tb (Array.getElem?_eq_some_iff.1 H5.out.2.2.1).1 (fun h => h)).trans H5.out.2.2.1
  have H6 := Lib.hid (And.intro (H5.out.1.moves0 hm6) (And.intro (H5.out.2.1.trans hm6) (And.intro hb6 (And.intro (own_moves H5.out.2.2.2.1 hm6 (fun _ _ h => h)) (And.intro (hm6.ownsMap H5.out.2.2.2.2.1 (fun h => h)) (And.intro H5.out.2.2.2.2.2 (own_weak (base' := tb) (by have := (Array.getElem?_eq_some_iff.1 H5.out.2.2.1).1; omega) hown6)))))))
  obtain ⟨t1, f1⟩ : w6.cell? ⟨tb, 6, none⟩ = some (.slice Ap S.keep.length cp) ∧ w6.frozen? ⟨tb, 6, none⟩ = false := by
    constructor <;> simp [World.cell?, World.frozen?, hb6]
  clear hm6 hown6 hb6 HC c6 H5
  obtain ⟨A5, k5, rfl, -⟩ := own_form H6.out.2.2.2.2.2.2
  go_wp2
  go_ret
  have h := H6.out
  have hms : Moves (fun k => k = tb) w6 (w6.setCell ⟨tb, 6, none⟩ (.slice A5 S.keep.length k5)) := Moves.setCell (p := ⟨tb, 6, none⟩) (Moves.refl (fun k => k = tb) w6) (fun _ => rfl) _
  have hD := (h.1.aside h.2.2.1 (by have := hsz.out.1; omega)).moves hms
  have hmW := h.2.1.andThen hms (fun k (e : k = tb) hlt => by have := HTB.out; omega)
  have hbF : (w6.setCell ⟨tb, 6, none⟩ (.slice A5 S.keep.length k5)).heap[tb]? = some (.cells #[.int .i64 S.size, .slice A2 kvs.length k2, .map (some m2), .bool S.off, .bool S.armed, .int .i64 S.left, .slice A5 S.keep.length k5, .int .i64 S.writes] 108 (0, 0)) := by simp [World.setCell, Array.getElem?_modify, h.2.2.1]
  have ty : ∀ (k : Nat) (cs' : Array Value) (t' : TypeId) (fr : Nat × Nat), w6.heap[k]? = some (.cells cs' t' fr) → t' ≠ 108 → k ≠ tb := fun k cs' t' fr hk ht e => by
    rw [e, h.2.2.1] at hk
    injection hk with hk
    injection hk with _ h1
    exact ht h1.symm
  have hK := own_moves h.2.2.2.1 hms (fun g hg (e : g = tb) => by obtain ⟨cur, hc⟩ := own_block h.2.2.2.1 hg; exact ty g cur _ _ hc (by decide) e)
  have hP := own_moves h.2.2.2.2.2.2 hms (fun g hg (e : g = tb) => by obtain ⟨cur, hc⟩ := own_block h.2.2.2.2.2.2 hg; exact ty g cur _ _ hc (by decide) e)
  have hM := hms.ownsMap h.2.2.2.2.1 (fun (e : m2 = tb) => by have := h.2.2.2.2.2.1; omega)
  generalize w6.setCell ⟨tb, 6, none⟩ (.slice A5 S.keep.length k5) = wF at hD hmW hbF hK hP hM ⊢
  have hbt : base ≤ tb := by have := HB.out; have := hsz.out.1; omega
  have hI : IsDisk wF base d S := ⟨_, _, _, _, _, _, hD⟩
  have hlow : ∀ k, DOwn wF d k → k < tb := fun k hk => by
    have hw := HTB.out
    have h0 := HW.out
    rcases hD.own hk with rfl | hk | rfl
    · exact hsz.out.1
    · obtain ⟨cur, hc⟩ := own_block h0.kept hk
      have := (Array.getElem?_eq_some_iff.1 hc).1
      omega
    · obtain ⟨es, ck, hb, _⟩ := h0.map
      have := (Array.getElem?_eq_some_iff.1 hb).1
      omega
  refine ⟨tb, rfl, hI, ⟨.slice A2 kvs.length k2, kvs, m2, D, pvs, .slice A5 S.keep.length k5, ⟨⟨hbF, hbt, own_weak hbt hK, hD.secs, by have := h.2.2.2.2.2.1; omega, hM, hD.pend, hD.data, hD.len, own_weak hbt hP, hD.wf, hD.wfd, hD.wfs, hD.few⟩, fun e => by have := hlow _ e; omega, fun k hk e => ?_, fun e => ?_, fun g cs hg e => ?_, fun g cs hg e => ?_⟩⟩, hmW⟩
  · have := hlow _ e
    have := (hK.lt k hk).1
    omega
  · have := hlow _ e
    have := h.2.2.2.2.2.1
    omega
  · exact hI.apart hg (by decide) (by decide) e
  · exact hI.apart hg (by decide) (by decide) e
end Go.Proofs.Ytbfnmgjpkieaoaa.Pl
