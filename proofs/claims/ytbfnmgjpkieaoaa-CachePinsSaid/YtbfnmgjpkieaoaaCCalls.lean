/-
  A cache in memory; the calls that find, read, pin, clean a page.
-/
import Derived.Test.YtbfnmgjpkieaoaaCData
import Derived.Test.YtbfnmgjpkieaoaaDiskClone
import Derived.BigQuiet
import Derived.Deep.QuietTactic
import Derived.WalkSpells
import Derived.StillTailTactics
namespace Go.Proofs.Ytbfnmgjpkieaoaa
open Go Go.RowKit Go.Maps Go.Sort Go.Proofs

abbrev encB8 (x : Int) : Value := .int .u8 x
/-- A cache at pointer p: its frames in block lb, its map in block m. -/
structure CacheAt (w : World) (base p lb m : Nat) (fs : List FrS) (hand : Nat) (D : DataW Unit) (dvs : List Value) : Prop where
  blk : w.heap[p]? = some (.cells #[.slice (some ⟨lb, 0, none⟩) fs.length fs.length, .map (some m), .int .i64 hand] 120 (0, 0))
  hp : base ≤ p
  fr : ∃ cs, w.heap[lb]? = some (.cells cs 124 (0, 0)) ∧ cs.toList = flat dvs fs
  hlb : base ≤ lb
  len : dvs.length = fs.length
  dat : ∀ i (h : i < fs.length) (h' : i < dvs.length), w.ownsRow base 5 1 dvs[i] fs[i].data.length (fs[i].data.map encB8)
  map : w.ownsMap Try.prog 43 RI m (Maps.size D) D
  by_ : IOf D fs
  hm : base ≤ m
  few : 0 < fs.length ∧ fs.length ≤ 64
  long : ∀ f ∈ fs, f.data.length ≤ 1000000
  hhand : hand < fs.length
def IsCache (w : World) (base p lb m : Nat) (fs : List FrS) (hand : Nat) : Prop := ∃ D dvs, CacheAt w base p lb m fs hand D dvs
abbrev COwn (p lb m : Nat) : Nat → Prop := fun k => k = p ∨ k = lb ∨ k = m

section
variable {w : World} {base p lb m : Nat} {fs : List FrS} {hand : Nat} {D : DataW Unit} {dvs : List Value}
theorem CacheAt.cells (h : CacheAt w base p lb m fs hand D dvs) : w.cell? ⟨p, 0, none⟩ = some (.slice (some ⟨lb, 0, none⟩) fs.length fs.length) ∧ w.cell? ⟨p, 1, none⟩ = some (.map (some m)) ∧ w.cell? ⟨p, 2, none⟩ = some (.int .i64 hand) := by
  unfold World.cell?
  simp only [h.blk]
  exact ⟨rfl, rfl, rfl⟩
theorem CacheAt.frame (h : CacheAt w base p lb m fs hand D dvs) {i : Nat} (hi : i < fs.length) {r : Nat} (hr : r < 7) : w.cell? ⟨lb, i * 7 + r, none⟩ = (fcells (dvs[i]'(by rw [h.len]; exact hi)) fs[i])[r]? ∧ w.frozen? ⟨lb, i * 7 + r, none⟩ = false := by
  obtain ⟨cs, hb, hc⟩ := h.fr
  refine ⟨?_, by simp [World.frozen?, hb]⟩
  simp only [World.cell?, hb, Option.isSome_none, Bool.false_eq_true, if_false]
  rw [← Array.getElem?_toList, hc]
  exact flat_get h.len hi hr
theorem CacheAt.moves {S : Nat → Prop} {w' : World} (h : CacheAt w base p lb m fs hand D dvs) (hm : Moves S w w') (hs : ∀ k, base ≤ k → ¬ S k) : CacheAt w' base p lb m fs hand D dvs := by
  obtain ⟨cs, hb, hc⟩ := h.fr
  exact ⟨(hm.block p (Array.getElem?_eq_some_iff.1 h.blk).1 (hs p h.hp)).trans h.blk, h.hp, ⟨cs, (hm.block lb (Array.getElem?_eq_some_iff.1 hb).1 (hs lb h.hlb)).trans hb, hc⟩, h.hlb, h.len, fun i hi hi' => own_moves (h.dat i hi hi') hm (fun g hg => hs g ((h.dat i hi hi').lt g hg).1), hm.ownsMap h.map (hs m h.hm), h.by_, h.hm, h.few, h.long, h.hhand⟩
theorem CacheAt.moves0 {w' : World} (h : CacheAt w base p lb m fs hand D dvs) (hm : Moves (fun _ => False) w w') : CacheAt w' base p lb m fs hand D dvs := h.moves hm (fun _ _ h => h)
theorem IsCache.moves0 {w' : World} (h : IsCache w base p lb m fs hand) (hm : Moves (fun _ => False) w w') : IsCache w' base p lb m fs hand := by
  obtain ⟨D, dvs, h⟩ := h
  exact ⟨D, dvs, h.moves0 hm⟩
theorem IsCache.low (h : IsCache w base p lb m fs hand) : base ≤ p ∧ base ≤ lb ∧ base ≤ m := by
  obtain ⟨D, dvs, h⟩ := h
  exact ⟨h.hp, h.hlb, h.hm⟩
theorem IsCache.under {w0 w w' : World} {p lb m : Nat} {fs : List FrS} {hand : Nat} (h : IsCache w w0.heap.size p lb m fs hand) (h0 : Moves (fun _ => False) w0 w) (hm : Moves (COwn p lb m) w w') : Moves (fun _ => False) w0 w' :=
  h0.andThen hm (fun i hi hlt => by have := h.low; rcases hi with e | e | e <;> omega)
theorem CacheAt.lbp (h : CacheAt w base p lb m fs hand D dvs) : lb ≠ p := fun e => by
  obtain ⟨cs, hb, -⟩ := h.fr
  rw [e, h.blk] at hb
  cases hb
theorem CacheAt.lbm (h : CacheAt w base p lb m fs hand D dvs) : lb ≠ m := fun e => by
  obtain ⟨cs, hb, -⟩ := h.fr
  obtain ⟨es, ck, hb', _⟩ := h.map
  rw [e, hb'] at hb
  cases hb
/-- A store into a frame that leaves its key, and whether it is here. -/
theorem CacheAt.turn (h : CacheAt w base p lb m fs hand D dvs) {i : Nat} (hi : i < fs.length) {r : Nat} (hr : r < 7) {v dv' : Value} {f' : FrS} (hc : (fcells (dvs[i]'(by rw [h.len]; exact hi)) fs[i]).set r v = fcells dv' f') (hk : f'.key = fs[i].key) (hh : f'.here = fs[i].here)
    (hd : w.ownsRow base 5 1 dv' f'.data.length (f'.data.map encB8)) (hlong : f'.data.length ≤ 1000000) : CacheAt (w.setCell ⟨lb, i * 7 + r, none⟩ v) base p lb m (fs.set i f') hand D (dvs.set i dv') := by
  have hm : Moves (fun k => k = lb) w (w.setCell ⟨lb, i * 7 + r, none⟩ v) := Moves.setCell (p := ⟨lb, i * 7 + r, none⟩) (Moves.refl (fun k => k = lb) w) (fun _ => rfl) _
  obtain ⟨cs, hb, hcs⟩ := h.fr
  have hne : ∀ (n : Nat) (dv : Value) (xs : List Value), w.ownsRow base 5 1 dv n xs → (w.setCell ⟨lb, i * 7 + r, none⟩ v).ownsRow base 5 1 dv n xs := fun n dv xs ho => own_moves ho hm (fun g hg e => by
    have e : g = lb := e
    obtain ⟨cur, hcur⟩ := own_block ho hg
    rw [e, hb] at hcur
    cases hcur)
  refine ⟨?_, h.hp, ⟨cs.setIfInBounds (i * 7 + r) v, by simp [World.setCell, Array.getElem?_modify, hb], ?_⟩, h.hlb, by simp [h.len], fun j hj hj' => ?_, hm.ownsMap h.map (fun e => h.lbm e.symm), h.by_.turn (List.getElem?_eq_getElem hi) hk hh, h.hm, by simpa using h.few, fun f hf => ?_, by simpa using h.hhand⟩
  · rw [List.length_set]
    exact (hm.block p (Array.getElem?_eq_some_iff.1 h.blk).1 (fun e => h.lbp e.symm)).trans h.blk
  · rw [Array.toList_setIfInBounds, hcs]
    exact flat_set h.len hi hr hc
  · by_cases e : i = j
    · subst e
      simp only [List.getElem_set_self]
      exact hne _ _ _ hd
    · simp only [List.getElem_set_ne e]
      exact hne _ _ _ (h.dat j (by simpa using hj) (by simpa using hj'))
  · rcases List.mem_or_eq_of_mem_set hf with hf | rfl
    · exact h.long f hf
    · exact hlong
end

theorem zeroI (w : World) : (zeroValue 3).run Try.prog w = .ok (.int .i64 0) w := by kernel_rfl
theorem iw0 : (Lit.int .i64 0).wf = true := by decide
set_option maxRecDepth 100000 in
theorem look_hit {w : World} {m n : Nat} {D : DataW Unit} {fs : List FrS} (hown : w.ownsMap Try.prog 43 RI m n D) (hD : IOf D fs) {i : Nat} {f : FrS} (hi : fs[i]? = some f) (hh : f.here = true) :
    (Instr.lookup 118 (.map (some m)) (encK f.key) true).run Try.prog w = .ok (.tuple #[.int .i64 i, .bool true]) w := by
  have hw := hD.wf i f hi hh
  obtain ⟨v, ps, hrun, hv⟩ := hown.look_ok lawK Try.underlying118 (zeroI w) (plainElem_int Try.underlying3 iw0) (keyOf_K hw)
  obtain ⟨c, rfl, hz, -⟩ := plainElem_int_inv Try.underlying3 hv
  rw [hD.val i f hi hh] at hz
  have hz1 := congrArg Prod.fst hz
  simp at hz1
  rw [hrun, (hD.has f.key hw).2 ⟨i, f, hi, hh, rfl⟩, hz1]
set_option maxRecDepth 100000 in
theorem look_miss {w : World} {m n : Nat} {D : DataW Unit} {fs : List FrS} (hown : w.ownsMap Try.prog 43 RI m n D) (hD : IOf D fs) {k : Pr} (hw : wf2 k) (hno : ∀ (i : Nat) (f : FrS), fs[i]? = some f → f.here = true → f.key ≠ k) :
    (Instr.lookup 118 (.map (some m)) (encK k) true).run Try.prog w = .ok (.tuple #[.int .i64 0, .bool false]) w := by
  have hf : Maps.has D (kK k) = false := by
    cases hh : Maps.has D (kK k)
    · rfl
    · obtain ⟨i, f, h1, h2, h3⟩ := (hD.has k hw).1 hh
      exact absurd h3 (hno i f h1 h2)
  obtain ⟨v, ps, hrun, hv⟩ := hown.look_ok lawK Try.underlying118 (zeroI w) (plainElem_int Try.underlying3 iw0) (keyOf_K hw)
  obtain ⟨c, rfl, hz, -⟩ := plainElem_int_inv Try.underlying3 hv
  rw [atKey_of_not_has hf] at hz
  have hz1 := congrArg Prod.fst hz
  simp at hz1
  rw [hrun, hf, ← hz1]

def CVal (w : World) (v : Value) (e : Ending) (w' : World) : Prop := e = .returned v ∧ Moves (fun _ => False) w w'
set_option maxRecDepth 100000 in
set_option maxHeartbeats 1000000 in
theorem find_hit {w : World} {base p lb m : Nat} {fs : List FrS} {hand : Nat} (h : IsCache w base p lb m fs hand) {i : Nat} {f : FrS} (hi : fs[i]? = some f) (hh : f.here = true) {k : Pr} (hk : f.key = k) :
    Calls Try.prog 64 #[.pointer (some ⟨p, 0, none⟩), encK k] w (CVal w (.pointer (some ⟨lb, i * 7, none⟩))) := by
  subst hk
  obtain ⟨D, dvs, h⟩ := h
  have hm0 := (Moves.refl (fun _ => False) w).alloc (.cells #[.int .i64 f.key.1, .int .i64 f.key.2] 43)
  have h1 := h.moves0 hm0
  obtain ⟨c0, c1, -⟩ := h1.cells
  have hrun : ∀ q, (Instr.lookup 118 (.map (some m)) (.agg #[.int .i64 f.key.1, .int .i64 f.key.2]) true).run Try.prog ((w.alloc (.cells #[.int .i64 f.key.1, .int .i64 f.key.2] 43)).drewN q) = .ok (.tuple #[.int .i64 i, .bool true]) ((w.alloc (.cells #[.int .i64 f.key.1, .int .i64 f.key.2] 43)).drewN q) := fun q => look_hit (w := (w.alloc (.cells #[.int .i64 f.key.1, .int .i64 f.key.2] 43)).drewN q) h1.map h1.by_ hi hh
  have hil : i < fs.length := (List.getElem?_eq_some_iff.1 hi).1
  have hk := cell2 w (.int .i64 f.key.1) (.int .i64 f.key.2) 43
  have b0 : (0 : Int) ≤ (i : Int) := by omega
  have b1 : (i : Int) < (fs.length : Int) := by omega
  have HM := Lib.hid hm0
  clear h h1 hm0 hi hh
  obtain ⟨ka, hka⟩ : ∃ ka, f.key = ka := ⟨_, rfl⟩
  rw [hka] at hrun hk HM c0 c1 ⊢
  obtain ⟨k1, k2⟩ := ka
  clear hka
  go_enter Try.func64, Try.ntmps64
  go_wp2_with fail
  generalize w.alloc (.cells #[.int .i64 k1, .int .i64 k2] 43) = W at hrun hk HM c0 c1 ⊢
  obtain ⟨q0, q1⟩ := hk
  go_quiet (fail)
  go_wp2
  go_ret
  exact ⟨rfl, HM.out.drewN _⟩
set_option maxRecDepth 100000 in
set_option maxHeartbeats 1000000 in
theorem find_miss {w : World} {base p lb m : Nat} {fs : List FrS} {hand : Nat} (h : IsCache w base p lb m fs hand) {k : Pr} (hw : wf2 k) (hno : ∀ (i : Nat) (f : FrS), fs[i]? = some f → f.here = true → f.key ≠ k) :
    Calls Try.prog 64 #[.pointer (some ⟨p, 0, none⟩), encK k] w (CVal w (.pointer none)) := by
  obtain ⟨D, dvs, h⟩ := h
  have hm0 := (Moves.refl (fun _ => False) w).alloc (.cells #[.int .i64 k.1, .int .i64 k.2] 43)
  have h1 := h.moves0 hm0
  obtain ⟨c0, c1, -⟩ := h1.cells
  have hrun : ∀ q, (Instr.lookup 118 (.map (some m)) (.agg #[.int .i64 k.1, .int .i64 k.2]) true).run Try.prog ((w.alloc (.cells #[.int .i64 k.1, .int .i64 k.2] 43)).drewN q) = .ok (.tuple #[.int .i64 0, .bool false]) ((w.alloc (.cells #[.int .i64 k.1, .int .i64 k.2] 43)).drewN q) := fun q => look_miss (w := (w.alloc (.cells #[.int .i64 k.1, .int .i64 k.2] 43)).drewN q) h1.map h1.by_ hw hno
  have hk := cell2 w (.int .i64 k.1) (.int .i64 k.2) 43
  have HM := Lib.hid hm0
  clear h h1 hm0 hw hno
  obtain ⟨k1, k2⟩ := k
  go_enter Try.func64, Try.ntmps64
  go_wp2_with fail
  generalize w.alloc (.cells #[.int .i64 k1, .int .i64 k2] 43) = W at hrun hk HM c0 c1 ⊢
  obtain ⟨q0, q1⟩ := hk
  go_quiet (fail)
  go_wp2
  go_ret
  exact ⟨rfl, HM.out.drewN _⟩
end Go.Proofs.Ytbfnmgjpkieaoaa
