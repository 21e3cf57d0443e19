/-
  A disk's write.
  A disk's read.
  A new disk: bytes 0.
  slices.Clone at slices of bytes.
  A disk's refusals, its shape.
-/
import Derived.Test.YtnagpianaghjeaaBdRingLasts14
import Derived.Deep.RegionHeldLaw
import Derived.Deep.QuietTactic
import Derived.BigQuiet
import Derived.Deep.RegionLaw
import Derived.Deep.OwnRows
import Derived.Test.YtnagpianaghjeaaBdRingLasts1
import Derived.Test.YtnagpianaghjeaaBdRingLasts7
import Derived.Test.YtnagpianaghjeaaBdRingLasts5
import Derived.Deep.DeepMust
import Derived.WalkSpells
namespace Go.Proofs.Ytnagpianaghjeaa.Pl
open Go Go.RowKit Go.Maps Go.Sort Go.Proofs

section
variable {H : Type} {P : Program} {w : World} {ops : Array Oper} {o : Oper} {a : Act} {K : Act → World → Prop} {Q : Exit → Act → World → Prop} {E : Prop}
theorem step_len (hg : o.guard = none) (m : Operand) (t : TypeId) (hop : o.op = Op.call { callee := Callee.builtin Builtin.len, args := #[m], argTypes := #[t] })
    (k e : TypeId) (ht : P.underlying t = some (.map k e)) (R : Value → Option (DataW H × List MemPlace)) (b n : Nat) (D : DataW H) (hm : a.eval m = .map (some b)) (hown : w.ownsMap P k R b n D)
    (hK : K (a.put o.dst (.int .i64 (Maps.size D))) w) : if Region.wanted o (yielded ops a.tmps) = true then Oper.wp P o a w K Q else E := by
  have hw : Region.wanted o (yielded ops a.tmps) = true := by simp [Region.wanted, hg]
  rw [if_pos hw]
  unfold Oper.wp
  simp [execOp, hop, resolve, invoke, builtin, hm, hown.len ht o.type, Result.andThen]
  exact hK
theorem step_mapUpdate (hg : o.guard = none) (m x v : Operand) (t : TypeId) (hop : o.op = Op.mapUpdate t m x v)
    (k e : TypeId) (KK : Keyed P k) (ht : P.underlying t = some (.map k e)) (R : Value → Option (DataW H × List MemPlace)) (b n : Nat) (D : DataW H)
    (hm : a.eval m = .map (some b)) (hown : w.ownsMap P k R b n D) (hn : n < maxLen) (key val : Value) (kl : Lit) (hx : a.eval x = key) (hv : a.eval v = val) (hkey : keyOf P k key = some kl)
    (d : DataW H) (ps : List MemPlace) (hval : R val = some (d, ps))
    (hK : ∀ w', w'.ownsMap P k R b (n + 1) (D.put kl d) → w.mapTurned w' b → K (a.put o.dst undef) w') : if Region.wanted o (yielded ops a.tmps) = true then Oper.wp P o a w K Q else E := by
  have hw : Region.wanted o (yielded ops a.tmps) = true := by simp [Region.wanted, hg]
  rw [if_pos hw]
  obtain ⟨w', hrun, r1, r2⟩ := hown.store KK ht hn hkey hval
  unfold Oper.wp
  simp [execOp, hop, hm, hx, hv, hrun, Result.andThen]
  exact hK w' r1 r2
end

theorem write_off {w : World} {base d : Nat} {S : DS} (h : IsDisk w base d S) (ho : S.off = true) (i : Int) (v : Value) : Calls Try.prog 59 #[.pointer (some ⟨d, 0, none⟩), .int .i64 i, v] w (SameP w (.int .i64 7)) := by
  obtain ⟨kv, kvs, m, D, pvs, kpv, h⟩ := h
  obtain ⟨-, -, -, c3, -⟩ := h.cells
  rw [ho] at c3
  clear h ho
  go_enter Try.func59, Try.ntmps59
  go_wp2
  go_ret
  exact ⟨rfl, rfl⟩

def KP (W w' : World) : Prop := w'.os = W.os ∧ w'.tape = W.tape ∧ w'.output = W.output ∧ W.heap.size ≤ w'.heap.size ∧ ∀ i, i < W.heap.size → w'.heap[i]? = W.heap[i]?
theorem KP.of {W w' : World} (h : Moves (fun _ => False) W w') : KP W w' := ⟨h.os, h.tape, h.output, h.size, fun i hi => h.block i hi (fun e => e)⟩
theorem KP.moves {W w' : World} (h : KP W w') : Moves (fun _ => False) W w' := ⟨h.1, h.2.1, h.2.2.1, h.2.2.2.1, fun i hi _ => h.2.2.2.2 i hi⟩
/-- One more pending write; the count as it was. -/
def pendS (S : DS) (i : Int) (bs : List Int) : DS := { S with secs := S.secs ++ [i], data := S.data ++ [bs] }
def putS (S : DS) (i : Int) (bs : List Int) : DS := { pendS S i bs with writes := S.writes + 1 }


set_option maxRecDepth 100000 in
set_option maxHeartbeats 2000000 in
theorem write_ok {w : World} {base d : Nat} {S : DS} {L : Nat → Prop} (h : IsDisk w base d S) (ho : S.off = false) (ha : S.armed = false) {i : Int} (hi : inS S i = true) {v : Value} {bs : List Int} (hr : Row w L v (bs.map encB)) (hz : bs.length = S.size) (hz0 : 0 < S.size) (hz1 : S.size ≤ 1000000) (hf : S.secs.length < 1000000) (hw0 : 0 ≤ S.writes ∧ S.writes ≤ 1000000000) :
    Calls Try.prog 59 #[.pointer (some ⟨d, 0, none⟩), .int .i64 i, v] w (DPost w base d (putS S i bs) (.int .i64 0)) := by
  have HIN := Lib.hid (in_any h hi)
  have hi' : 0 ≤ i ∧ i < S.kept.length := by simpa [inS] using hi
  have hr' := hr
  obtain ⟨A, c, rfl, hc, -⟩ := hr'
  obtain ⟨kv, kvs, m, D, pvs, kpv, h⟩ := h
  obtain ⟨c0, -, -, c3, c4, c5, -, c7⟩ := h.cells
  rw [ho] at c3
  rw [ha] at c4
  have f7 := h.fr 7
  have f5 := h.fr 5
  rw [show (bs.map encB).length = S.size by rw [List.length_map, hz]] at hr hc ⊢
  have HR := Lib.hid hr
  have H := Lib.hid h
  have HI := Lib.hid hi'
  have hww : IntKind.i64.wrap (S.writes + 1) = S.writes + 1 := IntWalk.i64_in _ (by omega)
  clear h hi hr hi' ho hw0
  go_enter Try.func59, Try.ntmps59
  go_wp2_with fail
  refine HIN.out.mono ?_
  rintro e w1 ⟨rfl, rfl⟩
  go_wp2_with fail
  clear c0 c3 c4 c5 c7 f5 f7
  obtain ⟨-, -, c2, -⟩ := H.out.cells
  have hdl := (Array.getElem?_eq_some_iff.1 H.out.blk).1
  have HSZ : Hid (Maps.size D = S.secs.length) := Lib.hid (by rw [H.out.pend.size, pl_len])
  have hfew : S.kept.length ≤ 16384 := H.out.few.2
  have HKEY : Hid (keyOf Try.prog 144 (encK ((S.secs.length : Int), i)) = some (kK ((S.secs.length : Int), i))) := Lib.hid (keyOf_K ⟨iw_of (by simp only; omega) (by simp only; omega), iw_of (by have := HI.out; simp only; omega) (by have := HI.out; simp only; omega)⟩)
  have hnm : S.secs.length < maxLen := by unfold maxLen; omega
  have HBL : Hid ((bs.map encB).length ≤ 1000000) := Lib.hid (by rw [List.length_map, hz]; omega)
  go_region_held_law (fun w' => w'.cell? ⟨d, 2, none⟩ = some (.map (some m)))
    (first | exact hS' | exact c2 | exact hS5 | assumption | go_keep)
    (first
      | (go_at_call 69
         go_must (refine (cloneB (xs := bs.map encB) (L := _) (by exact HR.out) (by intro u hu; obtain ⟨b, _, rfl⟩ := List.mem_map.1 hu; rfl) HBL.out).mono ?_)
         rintro e w' ⟨v', rfl, hown', hm'⟩
         have hk0 := KP.of hm'
         have hk' : KP w w' := hk0
         have hS' : w'.cell? ⟨d, 2, none⟩ = some (.map (some m)) := (hk'.moves.cell (p := ⟨d, 2, none⟩) hdl (fun h => h)).trans c2
         obtain ⟨w5, hrun5, hown5, hturn5⟩ := (hk'.moves.ownsMap H.out.map (fun h => h)).store lawK Try.underlying103 hnm HKEY.out (rfl : RV v' = some (.held v', []))
         have hmd : m ≠ d := fun e => by
           obtain ⟨es, ck, hb, _⟩ := H.out.map
           rw [e, H.out.blk] at hb
           cases hb
         have hm45 : Moves (fun k => k = m) w' w5 := (Moves.refl (fun k => k = m) w').turned hturn5 (fun _ => rfl)
         have hm5 : Moves (fun k => k = m) w w5 := (hk'.moves.none _).turned hturn5 (fun _ => rfl)
         have hS5 : w5.cell? ⟨d, 2, none⟩ = some (.map (some m)) := (hm5.cell (p := ⟨d, 2, none⟩) hdl (fun e => hmd e.symm)).trans c2)
      | (refine step_len (H := Value) rfl (.tmp 55) 103 rfl 144 55 Try.underlying103 RV m S.secs.length D rfl (by first | exact hk'.moves.ownsMap H.out.map (fun h => h) | exact H.out.map) ?_
         rw [HSZ.out])
      | fail)
  all_goals
    have h := H.out
    have hblk : ∀ (g : Nat) (cs : Array Value) (t : TypeId) (fr : Nat × Nat), w.heap[g]? = some (.cells cs t fr) → ¬ g = m := fun g cs t fr hg e => by
      obtain ⟨es, ck, hb, _⟩ := h.map
      rw [e, hb] at hg
      cases hg
    have hsec : ∀ a b, Sec w base a b → Sec w5 base a b := fun a b hab => hab.moves hm5 (fun g cs hg => hblk g cs _ _ hg)
    have hov : Sec w' base v' bs := Sec.of_own (own_weak (base := w.heap.size) (show base ≤ w.heap.size by have := h.hd; omega) (show w'.ownsRow w.heap.size 5 1 v' bs.length (bs.map encB) by have q := hown'; rw [List.length_map] at q; exact q)) (by omega)
    have hpl : pvs.length = S.secs.length := h.data.1.trans h.len
    have hsec' : Sec w5 base v' bs := by
      refine hov.moves hm45 (fun g cs hg e => ?_)
      have e : g = m := e
      obtain ⟨es, ck, hb, _⟩ := h.map
      rw [e, (hk'.moves.block m (Array.getElem?_eq_some_iff.1 hb).1 (fun h => h)), hb] at hg
      cases hg
    have hD5 : DiskAt w5 base d (pendS S i bs) kv kvs m (D.put (kK ((S.secs.length : Int), i)) (.held v')) (pvs ++ [v']) kpv := by
      refine ⟨(hm5.block d hdl (fun e => hmd e.symm)).trans h.blk, h.hd, own_moves h.kept hm5 (fun g hg => ?_), h.secs.mono hsec, h.hm, ?_, ?_, (h.data.mono hsec).append hsec', ?_, own_moves h.keep hm5 (fun g hg => ?_), h.wf, ?_, ?_, ?_⟩
      · obtain ⟨cur, hc⟩ := own_block h.kept hg
        exact hblk g cur _ _ hc
      · simp only [pendS, List.length_append, List.length_singleton]
        exact hown5
      · show VOf _ (pl (S.secs ++ [i]) (pvs ++ [v']))
        rw [pl_append hpl]
        exact h.pend.add (h.map.tidy lawK) ⟨iw_of (by simp only; omega) (by simp only; omega), iw_of (by have := HI.out; simp only; omega) (by have := HI.out; simp only; omega)⟩ (pl_new _ _ _) _
      · simp only [pendS, List.length_append, List.length_singleton, h.len]
      · obtain ⟨cur, hc⟩ := own_block h.keep hg
        exact hblk g cur _ _ hc
      · intro x hx
        rcases List.mem_append.1 hx with hx | hx
        · exact h.wfd x hx
        · simp at hx; subst hx; exact hz
      · intro x hx
        rcases List.mem_append.1 hx with hx | hx
        · exact h.wfs x hx
        · simp at hx; subst hx; exact HI.out
      · refine ⟨?_, h.few.2⟩
        simp only [pendS, List.length_append, List.length_singleton]
        omega
    have hm5' : Moves (DOwn w d) w w5 := hm5.mono (fun k e => .inr ⟨_, h.blk, .inr (by rw [e]; rfl)⟩)
    obtain ⟨-, -, -, -, -, -, -, c7⟩ := hD5.cells
    have f7 := hD5.fr 7
    have HD5 := Lib.hid hD5
    have HM5 := Lib.hid hm5'
    have HBLK := Lib.hid h.blk
    have c7' : w5.cell? ⟨d, 7, none⟩ = some (.int .i64 S.writes) := c7
    clear hD5 hm5 hm5' hm45 c7 hsec hsec' hov hblk hown' hown5 hturn5 hrun5 hk' hk0 hm' hS5 hS' h c2
    go_wp2
    go_ret
    have hm6 : Moves (fun k => k = d) w5 (w5.setCell ⟨d, 7, none⟩ (.int .i64 (S.writes + 1))) := Moves.setCell (p := ⟨d, 7, none⟩) (Moves.refl (fun k => k = d) w5) (fun _ => rfl) _
    have hb5 := HD5.out.blk
    have hD6 := HD5.out.put (S' := putS S i bs) hm6 (by simp [World.setCell, Array.getElem?_modify, hb5, putS, pendS]) rfl rfl rfl rfl (HD5.out.keepAt hm6)
    exact ⟨rfl, ⟨kv, kvs, m, _, pvs ++ [v'], kpv, hD6⟩, HM5.out.andThen hm6 (fun k e _ => .inl e), DKeep.of HBLK.out hD6.blk rfl (fun k e => .inl e)⟩

set_option maxRecDepth 100000 in
set_option maxHeartbeats 2000000 in
theorem write_armed {w : World} {base d : Nat} {S : DS} {L : Nat → Prop} (h : IsDisk w base d S) (ho : S.off = false) (ha : S.armed = true) (hl : 2 ≤ S.left ∧ S.left ≤ 9223372036854775807) (hap : ∀ k, L k → k < w.heap.size → k ≠ d) {i : Int} (hi : inS S i = true) {v : Value} {bs : List Int} (hr : Row w L v (bs.map encB)) (hz : bs.length = S.size) (hz0 : 0 < S.size) (hz1 : S.size ≤ 1000000) (hf : S.secs.length < 1000000) (hw0 : 0 ≤ S.writes ∧ S.writes ≤ 1000000000) :
    Calls Try.prog 59 #[.pointer (some ⟨d, 0, none⟩), .int .i64 i, v] w (DPost w base d (putS { S with left := S.left - 1 } i bs) (.int .i64 0)) := by
  have HIN := Lib.hid (in_any h hi)
  have hi' : 0 ≤ i ∧ i < S.kept.length := by simpa [inS] using hi
  have hr' := hr
  obtain ⟨A, c, rfl, hc, -⟩ := hr'
  obtain ⟨kv, kvs, m, D, pvs, kpv, h⟩ := h
  obtain ⟨c0, -, -, c3, c4, c5, -, c7⟩ := h.cells
  rw [ho] at c3
  rw [ha] at c4
  have f7 := h.fr 7
  have f5 := h.fr 5
  rw [show (bs.map encB).length = S.size by rw [List.length_map, hz]] at hr hc ⊢
  have HR := Lib.hid hr
  have H := Lib.hid h
  have HI := Lib.hid hi'
  have hww : IntKind.i64.wrap (S.writes + 1) = S.writes + 1 := IntWalk.i64_in _ (by omega)
  have hlw : IntKind.i64.wrap (S.left - 1) = S.left - 1 := IntWalk.i64_in _ (by omega)
  have hl1 : ¬ S.left - 1 < 1 := by omega
  clear h hi hr hi' ho hw0
  go_enter Try.func59, Try.ntmps59
  go_wp2_with fail
  refine HIN.out.mono ?_
  rintro e w1 ⟨rfl, rfl⟩
  go_wp2_with fail
  have hm0 : Moves (fun k => k = d) w (w.setCell ⟨d, 5, none⟩ (.int .i64 (S.left - 1))) := Moves.setCell (p := ⟨d, 5, none⟩) (Moves.refl (fun k => k = d) w) (fun _ => rfl) _
  have hD0 := H.out.put (S' := { S with left := S.left - 1 }) hm0 (by simp [World.setCell, Array.getElem?_modify, H.out.blk]) rfl rfl rfl rfl (H.out.keepAt hm0)
  have hR0 := (HR.out.mono (L' := fun k => L k ∧ k < w.heap.size) (fun k hk hlt => ⟨hk, hlt⟩)).moves hm0 (fun k hk _ => hap k hk.1 hk.2)
  have hOW : ∀ k, DOwn (w.setCell ⟨d, 5, none⟩ (.int .i64 (S.left - 1))) d k → DOwn w d k := fun k hk => by
    rcases hD0.own hk with e | e | e
    · exact .inl e
    · exact .inr ⟨_, H.out.blk, .inl ⟨_, rfl, e⟩⟩
    · exact .inr ⟨_, H.out.blk, .inr (by rw [e]; rfl)⟩
  have HM0 := Lib.hid hm0
  clear c0 c3 c4 c5 c7 f5 f7 hm0
  generalize w.setCell ⟨d, 5, none⟩ (.int .i64 (S.left - 1)) = w0 at hD0 hR0 hOW HM0 ⊢
  have H0 := H
  clear H HR
  have H := Lib.hid hD0
  have HR := Lib.hid hR0
  have HOW := Lib.hid hOW
  clear hD0 hR0 hOW
  obtain ⟨-, -, c2, -⟩ := H.out.cells
  have hdl := (Array.getElem?_eq_some_iff.1 H.out.blk).1
  have HSZ : Hid (Maps.size D = S.secs.length) := Lib.hid (by rw [H.out.pend.size, pl_len])
  have hfew : S.kept.length ≤ 16384 := H.out.few.2
  have HKEY : Hid (keyOf Try.prog 144 (encK ((S.secs.length : Int), i)) = some (kK ((S.secs.length : Int), i))) := Lib.hid (keyOf_K ⟨iw_of (by simp only; omega) (by simp only; omega), iw_of (by have := HI.out; simp only; omega) (by have := HI.out; simp only; omega)⟩)
  have hnm : S.secs.length < maxLen := by unfold maxLen; omega
  have HBL : Hid ((bs.map encB).length ≤ 1000000) := Lib.hid (by rw [List.length_map, hz]; omega)
  go_region_held_law (fun w' => w'.cell? ⟨d, 2, none⟩ = some (.map (some m)))
    (first | exact hS' | exact c2 | exact hS5 | assumption | go_keep)
    (first
      | (go_at_call 69
         go_must (refine (cloneB (xs := bs.map encB) (L := _) (by exact HR.out) (by intro u hu; obtain ⟨b, _, rfl⟩ := List.mem_map.1 hu; rfl) HBL.out).mono ?_)
         rintro e w' ⟨v', rfl, hown', hm'⟩
         have hk0 := KP.of hm'
         have hk' : KP w0 w' := hk0
         have hS' : w'.cell? ⟨d, 2, none⟩ = some (.map (some m)) := (hk'.moves.cell (p := ⟨d, 2, none⟩) hdl (fun h => h)).trans c2
         obtain ⟨w5, hrun5, hown5, hturn5⟩ := (hk'.moves.ownsMap H.out.map (fun h => h)).store lawK Try.underlying103 hnm HKEY.out (rfl : RV v' = some (.held v', []))
         have hmd : m ≠ d := fun e => by
           obtain ⟨es, ck, hb, _⟩ := H.out.map
           rw [e, H.out.blk] at hb
           cases hb
         have hm45 : Moves (fun k => k = m) w' w5 := (Moves.refl (fun k => k = m) w').turned hturn5 (fun _ => rfl)
         have hm5 : Moves (fun k => k = m) w0 w5 := (hk'.moves.none _).turned hturn5 (fun _ => rfl)
         have hS5 : w5.cell? ⟨d, 2, none⟩ = some (.map (some m)) := (hm5.cell (p := ⟨d, 2, none⟩) hdl (fun e => hmd e.symm)).trans c2)
      | (refine step_len (H := Value) rfl (.tmp 55) 103 rfl 144 55 Try.underlying103 RV m S.secs.length D rfl (by first | exact hk'.moves.ownsMap H.out.map (fun h => h) | exact H.out.map) ?_
         rw [HSZ.out])
      | fail)
  all_goals
    have h := H.out
    have hblk : ∀ (g : Nat) (cs : Array Value) (t : TypeId) (fr : Nat × Nat), w0.heap[g]? = some (.cells cs t fr) → ¬ g = m := fun g cs t fr hg e => by
      obtain ⟨es, ck, hb, _⟩ := h.map
      rw [e, hb] at hg
      cases hg
    have hsec : ∀ a b, Sec w0 base a b → Sec w5 base a b := fun a b hab => hab.moves hm5 (fun g cs hg => hblk g cs _ _ hg)
    have hov : Sec w' base v' bs := Sec.of_own (own_weak (base := w0.heap.size) (show base ≤ w0.heap.size by have := h.hd; omega) (show w'.ownsRow w0.heap.size 5 1 v' bs.length (bs.map encB) by have q := hown'; rw [List.length_map] at q; exact q)) (by omega)
    have hpl : pvs.length = S.secs.length := h.data.1.trans h.len
    have hsec' : Sec w5 base v' bs := by
      refine hov.moves hm45 (fun g cs hg e => ?_)
      have e : g = m := e
      obtain ⟨es, ck, hb, _⟩ := h.map
      rw [e, (hk'.moves.block m (Array.getElem?_eq_some_iff.1 hb).1 (fun h => h)), hb] at hg
      cases hg
    have hD5 : DiskAt w5 base d (pendS { S with left := S.left - 1 } i bs) kv kvs m (D.put (kK ((S.secs.length : Int), i)) (.held v')) (pvs ++ [v']) kpv := by
      refine ⟨(hm5.block d hdl (fun e => hmd e.symm)).trans h.blk, h.hd, own_moves h.kept hm5 (fun g hg => ?_), h.secs.mono hsec, h.hm, ?_, ?_, (h.data.mono hsec).append hsec', ?_, own_moves h.keep hm5 (fun g hg => ?_), h.wf, ?_, ?_, ?_⟩
      · obtain ⟨cur, hc⟩ := own_block h.kept hg
        exact hblk g cur _ _ hc
      · simp only [pendS, List.length_append, List.length_singleton]
        exact hown5
      · show VOf _ (pl (S.secs ++ [i]) (pvs ++ [v']))
        rw [pl_append hpl]
        exact h.pend.add (h.map.tidy lawK) ⟨iw_of (by simp only; omega) (by simp only; omega), iw_of (by have := HI.out; simp only; omega) (by have := HI.out; simp only; omega)⟩ (pl_new _ _ _) _
      · simp only [pendS, List.length_append, List.length_singleton, h.len]
      · obtain ⟨cur, hc⟩ := own_block h.keep hg
        exact hblk g cur _ _ hc
      · intro x hx
        rcases List.mem_append.1 hx with hx | hx
        · exact h.wfd x hx
        · simp at hx; subst hx; exact hz
      · intro x hx
        rcases List.mem_append.1 hx with hx | hx
        · exact h.wfs x hx
        · simp at hx; subst hx; exact HI.out
      · refine ⟨?_, h.few.2⟩
        simp only [pendS, List.length_append, List.length_singleton]
        omega
    have hm5' : Moves (DOwn w0 d) w0 w5 := hm5.mono (fun k e => .inr ⟨_, h.blk, .inr (by rw [e]; rfl)⟩)
    obtain ⟨-, -, -, -, -, -, -, c7⟩ := hD5.cells
    have f7 := hD5.fr 7
    have HD5 := Lib.hid hD5
    have HM5 := Lib.hid hm5'
    have HBLK := Lib.hid h.blk
    have c7' : w5.cell? ⟨d, 7, none⟩ = some (.int .i64 S.writes) := c7
    clear hD5 hm5 hm5' hm45 c7 hsec hsec' hov hblk hown' hown5 hturn5 hrun5 hk' hk0 hm' hS5 hS' h c2
    go_wp2
    go_ret
    have hm6 : Moves (fun k => k = d) w5 (w5.setCell ⟨d, 7, none⟩ (.int .i64 (S.writes + 1))) := Moves.setCell (p := ⟨d, 7, none⟩) (Moves.refl (fun k => k = d) w5) (fun _ => rfl) _
    have hb5 := HD5.out.blk
    have hD6 := HD5.out.put (S' := putS { S with left := S.left - 1 } i bs) hm6 (by simp [World.setCell, Array.getElem?_modify, hb5, putS, pendS]) rfl rfl rfl rfl (HD5.out.keepAt hm6)
    have hD7 := hD6
    rw [ha] at hD7
    refine ⟨rfl, ⟨kv, kvs, m, _, pvs ++ [v'], kpv, hD7⟩, ((HM0.out.mono (fun k e => .inl e)).andThen HM5.out (fun k hk _ => HOW.out k hk)).andThen hm6 (fun k e _ => .inl e), fun k hk => ?_⟩
    rcases DKeep.of HBLK.out hD6.blk rfl (fun k e => .inl e) k hk with e | e
    · exact .inl (HOW.out k e)
    · exact .inr (Nat.le_trans HM0.out.size e)

theorem Row.of_owns_at {w : World} {base n : Nat} {e : TypeId} {v : Value} {xs : List Value} (h : w.ownsRow base e 1 v n xs) : Row w (fun k => v.ownBlock = some k) v xs := by
  obtain rfl : xs.length = n := by simpa using h.1
  obtain ⟨A, c, hv, hc, -, -, -, hx⟩ := own_form h
  refine ⟨A, c, hv, hc, fun h0 => ?_⟩
  obtain ⟨g, hA, -, hl, hcell⟩ := hx h0
  exact ⟨g, 0, hA, by rw [hv, hA]; rfl, hl, fun j u hu => by rw [Nat.zero_add]; exact hcell j u hu⟩
set_option maxHeartbeats 2000000 in
/-- Armed, at the write where the power goes. -/
theorem write_cut {w : World} {base d : Nat} {S : DS} (h : IsDisk w base d S) (ho : S.off = false) (ha : S.armed = true) (hl : -1000000 ≤ S.left ∧ S.left ≤ 1) (hkl : S.keep.length ≤ 1000000) {i : Int} (hi : inS S i = true) {A : Option Addr} {c : Nat} {v : Value} (hv : v = .slice A S.size c) :
    Calls Try.prog 59 #[.pointer (some ⟨d, 0, none⟩), .int .i64 i, v] w (DPost w base d (cutS { S with left := S.left - 1 } S.keep) (.int .i64 7)) := by
  subst hv
  have HIN := Lib.hid (in_any h hi)
  obtain ⟨kv, kvs, m, D, pvs, kpv, h⟩ := h
  obtain ⟨c0, -, -, c3, c4, c5, c6, -⟩ := h.cells
  rw [ho] at c3
  rw [ha] at c4
  have f5 := h.fr 5
  have H := Lib.hid h
  have hlw : IntKind.i64.wrap (S.left - 1) = S.left - 1 := IntWalk.i64_in _ (by omega)
  have hl1 : S.left - 1 < 1 := by omega
  have hdl := (Array.getElem?_eq_some_iff.1 h.blk).1
  clear h hi ho
  go_enter Try.func59, Try.ntmps59
  go_wp2_with fail
  refine HIN.out.mono ?_
  rintro e w1 ⟨rfl, rfl⟩
  have hm0 : Moves (fun k => k = d) w (w.setCell ⟨d, 5, none⟩ (.int .i64 (S.left - 1))) := Moves.setCell (p := ⟨d, 5, none⟩) (Moves.refl (fun k => k = d) w) (fun _ => rfl) _
  have hD0 := H.out.put (S' := { S with left := S.left - 1 }) hm0 (by simp [World.setCell, Array.getElem?_modify, H.out.blk]) rfl rfl rfl rfl (H.out.keepAt hm0)
  have hOW : ∀ k, DOwn (w.setCell ⟨d, 5, none⟩ (.int .i64 (S.left - 1))) d k → DOwn w d k := fun k hk => by
    rcases hD0.own hk with e | e | e
    · exact .inl e
    · exact .inr ⟨_, H.out.blk, .inl ⟨_, rfl, e⟩⟩
    · exact .inr ⟨_, H.out.blk, .inr (by rw [e]; rfl)⟩
  have HCUT := Lib.hid (cut_any (bs := S.keep) ⟨kv, kvs, m, D, pvs, kpv, hD0⟩ (Row.of_owns_at hD0.keep) (fun k hk hlt hd => by
    obtain ⟨cur, hc⟩ := own_block hD0.keep hk
    exact IsDisk.apart ⟨kv, kvs, m, D, pvs, kpv, hD0⟩ hc (by decide) (by decide) hd) hkl)
  have HM0 := Lib.hid hm0
  have HOW := Lib.hid hOW
  clear hm0 hD0 hOW
  go_wp2_with fail
  refine HCUT.out.mono ?_
  rintro e w2 ⟨rfl, h2, hm2, hkp2⟩
  go_wp2
  go_ret
  refine ⟨rfl, h2, (HM0.out.mono (fun k e => .inl e)).andThen hm2 (fun k hk _ => HOW.out k hk), fun k hk => ?_⟩
  rcases hkp2 k hk with e | e
  · exact .inl (HOW.out k e)
  · exact .inr (Nat.le_trans HM0.out.size e)
end Go.Proofs.Ytnagpianaghjeaa.Pl
namespace Go.Proofs.Ytnagpianaghjeaa.Pl
open Go Go.RowKit Go.Maps Go.Sort Go.Proofs

/-- What a sector reads as, after the first n pending writes. -/
def rdN (S : DS) (i : Int) (n : Nat) : List Int := (List.range n).foldl (fun b k => if sF S.secs k = i then S.data.getD k [] else b) (S.kept.getD i.toNat [])
theorem rdN_succ (S : DS) (i : Int) (n : Nat) : rdN S i (n + 1) = if sF S.secs n = i then S.data.getD n [] else rdN S i n := by
  unfold rdN
  rw [List.range_succ, List.foldl_append]
  rfl
theorem rdN_none (S : DS) (i : Int) {n : Nat} (h : ∀ k, k < n → sF S.secs k ≠ i) : rdN S i n = S.kept.getD i.toNat [] := by
  induction n with
  | zero => rfl
  | succ n ih => rw [rdN_succ, if_neg (h n (by omega)), ih (fun k hk => h k (by omega))]

theorem rdN_size {S : DS} {n : Nat} (hK : ∀ x ∈ S.kept, x.length = S.size) (hd : ∀ x ∈ S.data, x.length = S.size) (hn : n ≤ S.data.length) (s : Nat) (hs : s < S.kept.length) : (rdN S s n).length = S.size := by
  induction n with
  | zero =>
    simp only [rdN, List.range_zero, List.foldl_nil, List.getD_eq_getElem?_getD, Int.toNat_natCast, List.getElem?_eq_getElem hs]
    exact hK _ (List.getElem_mem hs)
  | succ n ih =>
    rw [rdN_succ]
    split
    · rw [List.getD_eq_getElem?_getD, List.getElem?_eq_getElem (show n < S.data.length by omega)]
      exact hd _ (List.getElem_mem _)
    · exact ih (by omega)

theorem read_off {w : World} {base d : Nat} {S : DS} (h : IsDisk w base d S) (ho : S.off = true) (i : Int) : Calls Try.prog 62 #[.pointer (some ⟨d, 0, none⟩), .int .i64 i] w (SameP w (.tuple #[.slice none 0 0, .int .i64 7])) := by
  obtain ⟨kv, kvs, m, D, pvs, kpv, h⟩ := h
  obtain ⟨-, -, -, c3, -⟩ := h.cells
  rw [ho] at c3
  clear h ho
  go_enter Try.func62, Try.ntmps62
  go_wp2
  go_ret2
  exact ⟨rfl, rfl⟩
theorem Sec.row {w : World} {base : Nat} {v : Value} {xs : List Int} (h : Sec w base v xs) : Row w (fun _ => True) v (xs.map encB) := by
  obtain ⟨g, o, c, hv, hc, -, -, hl, hx⟩ := h.lt
  exact ⟨_, c, by rw [List.length_map]; exact hv, by rw [List.length_map]; exact hc, fun _ => ⟨g, o, rfl, trivial, hl, hx⟩⟩

def ReadPost (w : World) (bs : List Int) (e : Ending) (w' : World) : Prop := ∃ g, e = .returned (.tuple #[.slice (some ⟨g, 0, none⟩) bs.length bs.length, .int .i64 0]) ∧ w.heap.size ≤ g ∧ g < w'.heap.size ∧ (∀ j u, (bs.map encB)[j]? = some u → w'.cell? ⟨g, j, none⟩ = some u) ∧ Moves (fun _ => False) w w'

set_option maxRecDepth 100000 in
set_option maxHeartbeats 4000000 in
theorem read_ok {w : World} {base d : Nat} {S : DS} (h : IsDisk w base d S) (ho : S.off = false) {i : Int} (hi : inS S i = true) (hz0 : 0 < S.size) (hz1 : S.size ≤ 1000000) {bs : List Int} (hbs : rdN S i S.secs.length = bs) :
    Calls Try.prog 62 #[.pointer (some ⟨d, 0, none⟩), .int .i64 i] w (ReadPost w bs) := by
  have HIN := Lib.hid (in_any h hi)
  have hi' : 0 ≤ i ∧ i < S.kept.length := by simpa [inS] using hi
  obtain ⟨kv, kvs, m, D, pvs, kpv, h⟩ := h
  have HR := Lib.hid (row_any h)
  obtain ⟨s, rfl⟩ : ∃ s : Nat, i = s := ⟨i.toNat, by omega⟩
  have hkl : kvs.length = S.kept.length := h.secs.1
  have hs : s < kvs.length := by omega
  obtain ⟨Ak, ck, hkv, hck, hckm, -, -, hxk⟩ := own_form h.kept
  obtain ⟨gk, rfl, -, hgkl, hck1⟩ := hxk (by omega)
  subst hkv
  obtain ⟨-, c1, -, c3, -⟩ := h.cells
  rw [ho] at c3
  have hsec0 := h.secs.2 s hs (by omega)
  have hv0 := hck1 s _ (List.getElem?_eq_getElem hs)
  rw [show S.kept[s]'(by omega) = rdN S s 0 by simp [rdN, List.getD_eq_getElem?_getD, show s < S.kept.length by omega]] at hsec0
  generalize kvs[s] = vk at hsec0 hv0
  have HSL : Hid (s < S.kept.length) := Lib.hid (by omega)
  have HSEC := Lib.hid hsec0
  have H := Lib.hid h
  have HBS := Lib.hid hbs
  have b0 : (0 : Int) ≤ (s : Int) := by omega
  have b1 : (s : Int) < (kvs.length : Int) := by omega
  have hfew := h.few.1
  obtain ⟨gv, ov, cv, csv, hvv, -⟩ := hsec0
  generalize (rdN S s 0).length = nv at hvv
  subst hvv
  clear h hi hbs hxk hck1 hi' ho hs hkl csv
  go_enter Try.func62, Try.ntmps62
  go_wp2_with fail
  refine HIN.out.mono ?_
  rintro e w1 ⟨rfl, rfl⟩
  go_wp2_with fail
  refine HR.out.mono ?_
  rintro e w1 ⟨A, c, rfl, hrow, hm1⟩
  obtain ⟨A', c', hv', hc, hcm, hA, hB, hx⟩ := own_form hrow
  cases hv'
  have HX := Lib.hid hx
  have HM1 := Lib.hid hm1
  have HSEC1 := Lib.hid (HSEC.out.moves hm1 (fun _ _ _ h => h))
  clear hx hrow hm1 hB hA HR c1 c3 hv0
  go_wp2_with fail
  go_loopg [6, 29] S.secs.length (fun gg s6 s29 wr => ∃ j : Nat, j ≤ S.secs.length ∧ gg = S.secs.length - j ∧ s29 = .int .i64 j ∧ Sec wr base s6 (rdN S s j) ∧ Moves (fun _ => False) w1 wr)
  case atStart => exact ⟨0, Nat.zero_le _, rfl, rfl, HSEC1.out, Moves.refl _ _⟩
  case round =>
    obtain ⟨j, hj, hgj, rfl, hsj, hm⟩ := hrel
    by_cases hjn : j < S.secs.length
    · obtain ⟨gr, rfl, hgr, hgrl, hcell⟩ := HX.out (by omega)
      have hcg := cellsP_get (R := (List.range S.secs.length).map (fP (sF S.secs))) (k := j) (by simp; exact hjn)
      simp only [List.getElem_map, List.getElem_range, fP] at hcg
      have hv0 : wr.cell? ⟨gr, j * 2, none⟩ = some (.int .i64 j) := (hm.cell (p := ⟨gr, j * 2, none⟩) hgrl (fun h => h)).trans (hcell _ _ hcg.1)
      have hv1 : wr.cell? ⟨gr, j * 2 + 1, none⟩ = some (.int .i64 (sF S.secs j)) := (hm.cell (p := ⟨gr, j * 2 + 1, none⟩) hgrl (fun h => h)).trans (hcell _ _ hcg.2)
      have hmw := (HM1.out.trans hm).alloc (.cells #[.int .i64 j, .int .i64 (sF S.secs j)] 144)
      have hma := hm.alloc (.cells #[.int .i64 j, .int .i64 (sF S.secs j)] 144)
      have hD := H.out.moves0 hmw
      obtain ⟨-, -, d2, -⟩ := hD.cells
      have hpm : (((j : Int), sF S.secs j), vF pvs j) ∈ pl S.secs pvs := pl_mem hjn
      have hrun0 : ∀ q, (Instr.lookup 103 (.map (some m)) (.agg #[.int .i64 j, .int .i64 (sF S.secs j)]) false).run Try.prog ((wr.alloc (.cells #[.int .i64 j, .int .i64 (sF S.secs j)] 144)).drewN q) = .ok (vF pvs j) ((wr.alloc (.cells #[.int .i64 j, .int .i64 (sF S.secs j)] 144)).drewN q) := fun q => val_run (w := (wr.alloc (.cells #[.int .i64 j, .int .i64 (sF S.secs j)] 144)).drewN q) hD.map hD.pend hpm
      have hpb := cell2 wr (.int .i64 j) (.int .i64 (sF S.secs j)) 144
      have hdat : Sec (wr.alloc (.cells #[.int .i64 j, .int .i64 (sF S.secs j)] 144)) base (vF pvs j) (S.data.getD j []) := by
        have h1 : pvs.length = S.data.length := hD.data.1
        have h2 : S.data.length = S.secs.length := hD.len
        have := hD.data.2 j (show j < pvs.length by omega) (show j < S.data.length by omega)
        unfold vF
        rw [List.getD_eq_getElem?_getD, List.getD_eq_getElem?_getD, List.getElem?_eq_getElem (show j < pvs.length by omega), List.getElem?_eq_getElem (show j < S.data.length by omega)]
        exact this
      have hsj' := hsj.moves ((Moves.refl (fun _ => False) wr).alloc (.cells #[.int .i64 j, .int .i64 (sF S.secs j)] 144)) (fun _ _ _ h => h)
      have HNX := Lib.hid (rdN_succ S s j)
      have HSJ := Lib.hid hsj'
      have HDAT := Lib.hid hdat
      have HMA := Lib.hid hma
      have b2 : (0 : Int) ≤ (j : Int) := by omega
      have b3 : (j : Int) < (S.secs.length : Int) := by omega
      clear hcell hcg hD hpm hsj hsj' hdat hmw hma hm
      generalize sF S.secs j = sj at hv1 d2 hrun0 hpb HNX HSJ HDAT HMA
      generalize vF pvs j = vj at hrun0 HDAT
      obtain ⟨p0, p1⟩ := hpb
      have hpsz : wr.heap.size < (wr.alloc (.cells #[.int .i64 j, .int .i64 sj] 144)).heap.size := by simp
      by_cases e : sj = s
      · subst e
        have HN := Lib.hid (HNX.out.trans (if_pos rfl))
        go_wp2_with fail
        go_quiet (fail)
        go_wp2
        go_roundg (S.secs.length - (j + 1))
        case measure => omega
        case rel => exact ⟨j + 1, by omega, rfl, by go_num, by rw [HN.out]; exact HDAT.out, HMA.out.drewN _⟩
      · have he : (sj == (s : Int)) = false := by simpa using e
        have HN := Lib.hid (HNX.out.trans (if_neg e))
        clear e
        go_wp2_with fail
        go_roundg (S.secs.length - (j + 1))
        case measure => omega
        case rel => exact ⟨j + 1, by omega, rfl, by go_num, by rw [HN.out]; exact HSJ.out, HMA.out⟩
    · obtain rfl : j = S.secs.length := by omega
      rw [HBS.out] at hsj
      have hC := Lib.hid (cloneB hsj.row (by intro u hu; obtain ⟨b, _, rfl⟩ := List.mem_map.1 hu; rfl) (by
        rw [List.length_map, ← HBS.out]
        have : (rdN S s S.secs.length).length = S.size := rdN_size H.out.wf H.out.wfd (by have := H.out.len; omega) s HSL.out
        omega))
      have HM := Lib.hid (HM1.out.trans hm)
      obtain ⟨g6, o6, k6, cs6, rfl, -⟩ := hsj
      clear hm
      go_wp2_with fail
      refine hC.out.mono ?_
      rintro e w5 ⟨v5, rfl, hown5, hm5⟩
      rw [List.length_map] at hown5
      obtain ⟨A5, c5, rfl, hc5, hcm5, hA5, -, hx5⟩ := own_form hown5
      have hP := clipB w5 A5 bs.length c5 hc5 hcm5 hA5
      have HM5 := Lib.hid (HM.out.trans hm5)
      have HS5 := Lib.hid hm5
      have HX5 := Lib.hid hx5
      clear hown5 hm5 hc5 hcm5 hA5 hx5 hC
      go_wp2_with fail
      refine hP.mono ?_
      rintro e w6 ⟨rfl, rfl⟩
      clear hP
      have hpos : 0 < bs.length := by
        rw [← HBS.out]
        have : (rdN S s S.secs.length).length = S.size := rdN_size H.out.wf H.out.wfd (by have := H.out.len; omega) s HSL.out
        omega
      obtain ⟨g5, rfl, hg5, hgl5, hcell5⟩ := HX5.out hpos
      go_wp2
      go_ret2
      exact ⟨g5, rfl, Nat.le_trans HM.out.size hg5, hgl5, hcell5, HM5.out⟩
end Go.Proofs.Ytnagpianaghjeaa.Pl
namespace Go.Proofs.Ytnagpianaghjeaa.Pl
open Go Go.RowKit Go.Maps Go.Sort Go.Proofs

def newS (n z : Nat) : DS := { size := z, kept := List.replicate n (List.replicate z 0), secs := [], data := [], off := false, armed := false, left := 0, keep := [], writes := 0 }
def NewPost (w : World) (n z : Nat) (e : Ending) (w' : World) : Prop := ∃ d, e = .returned (.tuple #[.pointer (some ⟨d, 0, none⟩), .int .i64 0]) ∧ IsDisk w' w.heap.size d (newS n z) ∧ Moves (fun _ => False) w w'

theorem infoBS : (Try.prog.info? 55).map (fun i => (i.zero, i.size, i.bytes)) = some (some (.slice none 0 0), 1, 24) := by kernel_rfl
theorem madeB (z : Nat) : (madeCells #[Value.int .u8 0] z).toList = (List.replicate z (0 : Int)).map encB := by
  apply List.ext_getElem?
  intro i
  simp only [madeCells, List.getElem?_map, List.getElem?_replicate]
  by_cases h : i < z
  · simp [h, Nat.mod_one]
  · simp [h]

set_option maxRecDepth 100000 in
set_option maxHeartbeats 4000000 in
theorem new_ok {n z : Nat} (hn : 1 ≤ n ∧ n ≤ 16384) (hz : 64 ≤ z ∧ z ≤ 1024) (w : World) : Calls Try.prog 28 #[.int .i64 n, .int .i64 z] w (NewPost w n z) := by
  have HRT := Lib.hid (right_any (n := n) (z := z) (b := true) (by unfold rightZ; simp; omega) w)
  have hmm := @run_makeMap Try.prog
  obtain ⟨i4, hi4, hq0, hq1, hq2⟩ := info_parts infoBS
  obtain ⟨i5, hi5, hp0, hp1, hp2⟩ := info_parts infoB
  have hq3 : (Value.slice none 0 0).cells.size = 1 := rfl
  have hq4 : (0 : Nat) < 1 := by decide
  have hmk := fun W => run_make_row (P := Try.prog) 55 5 i5 _ Try.underlying55 hi5 hp0 hp1 rfl .i64 .i64 z (by rw [hp2]; omega) (by omega) W
  go_enter Try.func28, Try.ntmps28
  go_wp2_with fail
  refine HRT.out.mono ?_
  rintro e w1 ⟨rfl, rfl⟩
  go_wp2_with fail
  have hm1 := (((Moves.refl (fun _ => False) w).alloc (.map #[] 0)).alloc (.cells #[.int .i64 z, .slice none 0 0, .map (some w.heap.size), .bool false, .bool false, .int .i64 0, .slice none 0 0, .int .i64 0] 105))
  have hb1 := heap_alloc2_new w (.map #[] 0) (.cells #[.int .i64 z, .slice none 0 0, .map (some w.heap.size), .bool false, .bool false, .int .i64 0, .slice none 0 0, .int .i64 0] 105)
  have hmap := (World.ownsMap_made (H := Value) w Try.prog 144 RV).alloc (.cells #[.int .i64 z, .slice none 0 0, .map (some w.heap.size), .bool false, .bool false, .int .i64 0, .slice none 0 0, .int .i64 0] 105)
  have hD1 : DiskAt ((w.alloc (.map #[] 0)).alloc (.cells #[.int .i64 z, .slice none 0 0, .map (some w.heap.size), .bool false, .bool false, .int .i64 0, .slice none 0 0, .int .i64 0] 105)) w.heap.size (w.heap.size + 1) (newS 0 z) (.slice none 0 0) [] w.heap.size (.map []) [] (.slice none 0 0) :=
    ⟨hb1, by omega, World.ownsRow_nil _ _ _ _, All2.nil _, Nat.le_refl _, hmap, VOf.nil, All2.nil _, rfl, World.ownsRow_nil _ _ _ _, by simp [newS], by simp [newS], by simp [newS], by simp [newS]⟩
  generalize w.heap.size + 1 = d at hD1 ⊢
  generalize (w.alloc (.map #[] 0)).alloc (.cells #[.int .i64 z, .slice none 0 0, .map (some w.heap.size), .bool false, .bool false, .int .i64 0, .slice none 0 0, .int .i64 0] 105) = w1 at hD1 hm1 ⊢
  have HD1 := Lib.hid hD1
  clear hD1 hb1 hmap
  go_wp2_with fail
  go_loopg [16] n (fun gg s16 wr => ∃ (j : Nat) (kv : Value) (kvs : List Value), j ≤ n ∧ gg = n - j ∧ s16 = .int .i64 j ∧ DiskAt wr w.heap.size d (newS j z) kv kvs w.heap.size (.map []) [] (.slice none 0 0) ∧ Moves (fun _ => False) w wr)
  case atStart => exact ⟨0, _, _, Nat.zero_le _, rfl, rfl, HD1.out, hm1⟩
  case round =>
    obtain ⟨j, kv, kvs, hj, hgj, rfl, hD, hmv⟩ := hrel
    by_cases hjn : j < n
    · obtain ⟨-, c1, -⟩ := hD.cells
      have f1 := hD.fr 1
      have hkl : kvs.length = j := by have := hD.secs.1; simpa [newS] using this
      have hdl := (Array.getElem?_eq_some_iff.1 hD.blk).1
      have hkd : kv.ownBlock ≠ some d := fun e => by
        obtain ⟨cur, hc⟩ := own_block hD.kept e
        rw [hD.blk] at hc
        cases hc
      obtain ⟨Ak, ck, rfl, -, -, -, -, -⟩ := own_form hD.kept
      have HD := Lib.hid hD
      have HMV := Lib.hid hmv
      have hws := hmv.size
      have HK : Hid (wr.ownsRow w.heap.size 55 1 (.slice Ak kvs.length ck) kvs.length kvs) := Lib.hid hD.kept
      have h63 : Hid (kvs.length + 1 ≤ maxLen ∧ (kvs.length + 1) * 24 ≤ 140737488355328) := Lib.hid (by unfold maxLen; omega)
      have HKL := Lib.hid hkl
      have hbs : Hid (w.heap.size ≤ ((wr.alloc (.cells (madeCells #[.int .u8 0] z) 5)).alloc (.cells #[.slice (some ⟨wr.heap.size, 0, none⟩) z z] 55)).heap.size) := Lib.hid (by simp; omega)
      clear hD hmv hkl
      go_wp2_with fail
      go_region_law (first
        | (refine step_append_src _ rfl (.tmp 22) (.tmp 25) 71 rfl w.heap.size 55 i4 _ 1 24 Try.underlying71 hi4 hq0 hq1 hq2 hq3 hq4 (.slice Ak kvs.length ck) kvs.length kvs rfl ((HK.out.alloc _).alloc _) (some ⟨wr.heap.size + 1, 0, none⟩) 1 1 [.slice (some ⟨wr.heap.size, 0, none⟩) z z] rfl (by rfl) (fun _ => ⟨_, rfl, World.news_of_block (cs := #[.slice (some ⟨wr.heap.size, 0, none⟩) z z]) (t := 55) (fr := (0, 0)) (heap_alloc2_new _ _ _)⟩) (by simp [Value.oneCell']) h63.out.1 h63.out.2 hbs.out ?_
           intro v1 w5 hn5 hg5 hl5
           have hdl5 : d < ((wr.alloc (.cells (madeCells #[.int .u8 0] z) 5)).alloc (.cells #[.slice (some ⟨wr.heap.size, 0, none⟩) z z] 55)).heap.size := by simp; omega
           have hb5 := hg5.block d hdl5 hkd.symm
           have c1' : w5.cell? ⟨d, 1, none⟩ = some (.slice Ak kvs.length ck) := (World.cell?_of_block hb5).trans ((World.cell?_alloc_lt _ _ ⟨d, 1, none⟩ (by simp; omega)).trans ((World.cell?_alloc_lt _ _ ⟨d, 1, none⟩ hdl).trans c1))
           have f1' : w5.frozen? ⟨d, 1, none⟩ = false := (World.frozen?_of_block hb5).trans ((World.frozen?_of_block ((Below.heap_alloc _ _ _ (by simp; omega)).trans (Below.heap_alloc _ _ _ hdl))).trans f1)
           obtain ⟨A1, k1, rfl, -, -, -, -, -⟩ := own_form hn5)
        | fail)
      all_goals
        have HN5 := Lib.hid hn5
        have HG5 := Lib.hid hg5
        have HB5 := Lib.hid hb5
        clear hn5 hg5 hl5 hb5 c1
        go_wp2
        have hD := HD.out
        have hm6 : Moves (fun k => k = d) w5 (w5.setCell ⟨d, 1, none⟩ (.slice A1 (kvs.length + 1) k1)) := Moves.setCell (p := ⟨d, 1, none⟩) (Moves.refl (fun k => k = d) w5) (fun _ => rfl) _
        have hmA : Moves (fun k => (Value.slice Ak kvs.length ck).ownBlock = some k) wr w5 := by
          first
            | exact (((Moves.refl _ wr).alloc _).alloc _).grown HG5.out (fun k e _ => e)
            | exact ((((Moves.refl _ wr).drew).alloc _).alloc _).grown HG5.out (fun k e _ => e)
        have hmm : Moves (fun k => k = d ∨ (Value.slice Ak kvs.length ck).ownBlock = some k) wr (w5.setCell ⟨d, 1, none⟩ (.slice A1 (kvs.length + 1) k1)) := (hmA.mono (fun k e => .inr e)).andThen hm6 (fun k e _ => .inl e)
        have hw5 : w5.heap[d]? = wr.heap[d]? := hmA.block d hdl hkd
        have hb6 : (w5.setCell ⟨d, 1, none⟩ (.slice A1 (kvs.length + 1) k1)).heap[d]? = some (.cells #[.int .i64 z, .slice A1 (kvs.length + 1) k1, .map (some w.heap.size), .bool false, .bool false, .int .i64 0, .slice none 0 0, .int .i64 0] 105 (0, 0)) := by
          simp [World.setCell, Array.getElem?_modify, hw5, hD.blk, newS]
        have hty : ∀ (g : Nat) (cs : Array Value) (t : TypeId) (fr : Nat × Nat), wr.heap[g]? = some (.cells cs t fr) → t ≠ 105 → t ≠ 55 → ¬ (g = d ∨ (Value.slice Ak kvs.length ck).ownBlock = some g) := fun g cs t fr hg h1 h2 e => by
          rcases e with e | e
          · rw [e, hD.blk] at hg; cases hg; exact h1 rfl
          · obtain ⟨cur, hc⟩ := own_block hD.kept e
            rw [hc] at hg; cases hg; exact h2 rfl
        have hsec : ∀ a b, Sec wr w.heap.size a b → Sec (w5.setCell ⟨d, 1, none⟩ (.slice A1 (kvs.length + 1) k1)) w.heap.size a b := fun a b hab => hab.moves hmm (fun g cs hg => hty g cs _ _ hg (by decide) (by decide))
        have hnb : (w5.setCell ⟨d, 1, none⟩ (.slice A1 (kvs.length + 1) k1)).heap[wr.heap.size]? = some (.cells (madeCells #[.int .u8 0] z) 5 (0, 0)) := by
          refine (hm6.block wr.heap.size (by have := hmA.size; have := HG5.out.size; simp at this; omega) (fun e => by have e : wr.heap.size = d := e; omega)).trans ?_
          refine (HG5.out.block wr.heap.size (by simp; omega) (fun e => by have := (hD.kept.lt wr.heap.size e.symm).2; omega)).trans ?_
          exact (Below.heap_alloc _ _ _ (by simp)).trans (heap_alloc_new _ _)
        have hnew : Sec (w5.setCell ⟨d, 1, none⟩ (.slice A1 (kvs.length + 1) k1)) w.heap.size (.slice (some ⟨wr.heap.size, 0, none⟩) z z) (List.replicate z 0) := by
          refine ⟨wr.heap.size, 0, z, _, by rw [List.length_replicate], by simp, by unfold maxLen; omega, hws, hnb, fun q u hu => ?_⟩
          rw [← madeB] at hu
          simp only [World.cell?, hnb, Nat.zero_add, Option.isSome_none, Bool.false_eq_true, if_false]
          rw [← Array.getElem?_toList]
          exact hu
        have hfin : DiskAt (w5.setCell ⟨d, 1, none⟩ (.slice A1 (kvs.length + 1) k1)) w.heap.size d (newS (j + 1) z) (.slice A1 (kvs.length + 1) k1) (kvs ++ [.slice (some ⟨wr.heap.size, 0, none⟩) z z]) w.heap.size (.map []) [] (.slice none 0 0) := by
          refine ⟨hb6, hD.hd, ?_, ?_, Nat.le_refl _, hmm.ownsMap hD.map (fun e => ?_), VOf.nil, All2.nil _, rfl, World.ownsRow_nil _ _ _ _, ?_, by simp [newS], by simp [newS], by simp [newS]; omega⟩
          · rw [List.length_append, List.length_singleton]
            refine own_moves HN5.out hm6 (fun g hg e => ?_)
            have e : g = d := e
            obtain ⟨cur, hc⟩ := own_block HN5.out hg
            rw [e, hw5, hD.blk] at hc
            cases hc
          · show All2 _ _ (List.replicate (j + 1) (List.replicate z 0))
            rw [List.replicate_succ']
            exact (hD.secs.mono hsec).append hnew
          · obtain ⟨es, ck', hb, _⟩ := hD.map
            rcases e with e | e
            · rw [e, hD.blk] at hb; cases hb
            · obtain ⟨cur, hc⟩ := own_block hD.kept e
              rw [hc] at hb; cases hb
          · intro x hx
            have := List.eq_of_mem_replicate hx
            subst this
            simp [newS]
        have HFIN := Lib.hid hfin
        have HMM : Hid (Moves (fun _ => False) w (w5.setCell ⟨d, 1, none⟩ (.slice A1 (kvs.length + 1) k1))) := Lib.hid (HMV.out.andThen hmm (fun k e hlt => by
          rcases e with e | e
          · have := hD.hd; omega
          · have := (hD.kept.lt k e).1; omega))
        clear hfin hnew hnb hsec hty hb6 hw5 hmm hmA hm6 hD
        go_roundg (n - (j + 1))
        case measure => omega
        case rel => exact ⟨j + 1, _, _, by omega, rfl, by go_num, HFIN.out, HMM.out⟩
    · obtain rfl : j = n := by omega
      have HD := Lib.hid hD
      have HMV := Lib.hid hmv
      clear hD hmv
      go_wp2
      go_ret2
      exact ⟨d, rfl, ⟨_, _, _, _, _, _, HD.out⟩, HMV.out⟩
end Go.Proofs.Ytnagpianaghjeaa.Pl
namespace Go.Proofs.Ytnagpianaghjeaa.Pl
open Go Go.RowKit Go.Maps Go.Sort Go.Proofs

theorem infoS : (Try.prog.info? 55).map (fun i => (i.zero, i.size, i.bytes)) = some (some (.slice none 0 0), 1, 24) := by kernel_rfl
def CloneS (w : World) (xs : List Value) (e : Ending) (w' : World) : Prop := ∃ v, e = .returned v ∧ w'.ownsRow w.heap.size 55 1 v xs.length xs ∧ Moves (fun _ => False) w w'
set_option maxHeartbeats 1000000 in
theorem cloneS {w : World} {L : Nat → Prop} {v : Value} {xs : List Value} (hr : Row w L v xs) (h1c : ∀ u ∈ xs, u.oneCell' = true) (hlen : xs.length ≤ 1000000) : Calls Try.prog 77 #[v] w (CloneS w xs) := by
  obtain ⟨A, c, rfl, hc, hx⟩ := hr
  have qS : ∀ (w : World) (a : Option Addr) (n c : Nat), (binOp .eql 71 (.slice a n c) (.slice none 0 0)).run Try.prog w = .ok (.bool a.isNone) w := fun w a n c => Lib.run_eql_slice_nil w _ _ a n c 0 0 Try.underlying71
  cases A with
  | none =>
    have hk : xs = [] := by
      cases xs with
      | nil => rfl
      | cons a r => obtain ⟨g, o, h, _⟩ := hx (by simp); cases h
    subst hk
    clear hx
    go_enter Try.func77, Try.ntmps77
    go_wp2
    go_ret
    exact ⟨_, rfl, World.ownsRow_nil _ _ _ _, Moves.refl _ _⟩
  | some a =>
    obtain ⟨i4, hi4, hq0, hq1, hq2⟩ := info_parts infoS
    have hq3 : ((.slice none 0 0) : Value).cells.size = 1 := rfl
    have hq4 : (0 : Nat) < 1 := by decide
    have hsrc : Src (w.alloc (.cells #[] 55)) (some a) xs.length xs := fun h0 => by
      obtain ⟨g, o, h, _, hgl, hcell⟩ := hx h0
      cases h
      refine ⟨_, rfl, fun j u hu => ?_⟩
      have e1 : (⟨g, o, none⟩ : Addr).add j = ⟨g, o + j, none⟩ := by unfold Addr.add; split <;> simp_all
      rw [e1]
      exact (World.cell?_alloc_lt w _ ⟨g, o + j, none⟩ hgl).trans (hcell j u hu)
    have HL1 : Hid (xs.length = xs.length * 1) := Lib.hid (by omega)
    have h1 : 0 + xs.length ≤ maxLen := by unfold maxLen; omega
    have h2 : (0 + xs.length) * 24 ≤ 140737488355328 := by omega
    have h3 : w.heap.size ≤ (w.alloc (.cells #[] 55)).heap.size := by simp
    have hown : (w.alloc (.cells #[] 55)).ownsRow w.heap.size 55 1 (.slice (some ⟨w.heap.size, 0, none⟩) 0 0) 0 [] := World.ownsRow_made w #[] 0 (Nat.le_refl _) (by unfold maxLen; omega) (by simp)
    clear hx
    obtain ⟨g, o, s⟩ := a
    go_enter Try.func77, Try.ntmps77
    go_wp2_with (first
      | (at_builtin; go_must (refine wpList_append_src _ rfl (.tmp 5) (.tmp 6) 71 rfl w.heap.size 55 i4 _ 1 24 Try.underlying71 hi4 hq0 hq1 hq2 hq3 hq4 (.slice (some ⟨w.heap.size, 0, none⟩) 0 0) 0 [] rfl hown (some ⟨g, o, s⟩) xs.length c xs rfl HL1.out hsrc h1c h1 h2 h3 ?_)
         intro v1 w3 hn1 hg1 hl1)
      | fail)
    simp only [Nat.zero_add, List.nil_append] at hn1
    go_ret
    exact ⟨_, rfl, hn1, ((Moves.refl _ w).alloc _).grown hg1 (fun k hk hlt => by simp [Value.ownBlock] at hk; omega)⟩
end Go.Proofs.Ytnagpianaghjeaa.Pl
namespace Go.Proofs.Ytnagpianaghjeaa.Pl
open Go Go.RowKit Go.Maps Go.Sort Go.Proofs

set_option maxRecDepth 100000 in
set_option maxHeartbeats 1000000 in
theorem new_bad {n z : Int} (hb : rightZ n z = false) (w : World) : Calls Try.prog 28 #[.int .i64 n, .int .i64 z] w (SameP w (.tuple #[.pointer none, .int .i64 1])) := by
  have HRT := Lib.hid (right_any hb w)
  clear hb
  go_enter Try.func28, Try.ntmps28
  go_wp2_with fail
  refine HRT.out.mono ?_
  rintro e w1 ⟨rfl, rfl⟩
  go_wp2
  go_ret2
  exact ⟨rfl, rfl⟩
set_option maxRecDepth 100000 in
set_option maxHeartbeats 1000000 in
theorem write_bad {w : World} {base d : Nat} {S : DS} (h : IsDisk w base d S) (ho : S.off = false) {i : Int} {A : Option Addr} {n c : Nat} (hb : inS S i = false ∨ n ≠ S.size) :
    Calls Try.prog 59 #[.pointer (some ⟨d, 0, none⟩), .int .i64 i, .slice A n c] w (SameP w (.int .i64 1)) := by
  have HIN := Lib.hid (fun b (hb : inS S i = b) => in_any h hb)
  obtain ⟨kv, kvs, m, D, pvs, kpv, h⟩ := h
  obtain ⟨c0, -, -, c3, -⟩ := h.cells
  rw [ho] at c3
  clear h ho
  by_cases hi : inS S i = false
  · clear hb
    go_enter Try.func59, Try.ntmps59
    go_wp2_with fail
    refine (HIN.out _ hi).mono ?_
    rintro e w1 ⟨rfl, rfl⟩
    go_wp2
    go_ret
    exact ⟨rfl, rfl⟩
  · have hn : ¬ (n : Int) = (S.size : Int) := by
      rcases hb with h | h
      · exact absurd h hi
      · omega
    have hn1 : ((n : Int) == (S.size : Int)) = false := by simpa using hn
    have hi' : inS S i = true := by simpa using hi
    clear hb hi
    generalize S.size = z at c0 hn hn1
    go_enter Try.func59, Try.ntmps59
    go_wp2_with fail
    refine (HIN.out _ hi').mono ?_
    rintro e w1 ⟨rfl, rfl⟩
    clear hi'
    go_wp2
    go_ret
    exact ⟨rfl, rfl⟩
set_option maxRecDepth 100000 in
set_option maxHeartbeats 1000000 in
theorem read_bad {w : World} {base d : Nat} {S : DS} (h : IsDisk w base d S) (ho : S.off = false) {i : Int} (hi : inS S i = false) :
    Calls Try.prog 62 #[.pointer (some ⟨d, 0, none⟩), .int .i64 i] w (SameP w (.tuple #[.slice none 0 0, .int .i64 1])) := by
  have HIN := Lib.hid (in_any h hi)
  obtain ⟨kv, kvs, m, D, pvs, kpv, h⟩ := h
  obtain ⟨-, -, -, c3, -⟩ := h.cells
  rw [ho] at c3
  clear h ho hi
  go_enter Try.func62, Try.ntmps62
  go_wp2_with fail
  refine HIN.out.mono ?_
  rintro e w1 ⟨rfl, rfl⟩
  go_wp2
  go_ret2
  exact ⟨rfl, rfl⟩
def MPost (w : World) (v : Value) (e : Ending) (w' : World) : Prop := e = .returned v ∧ Moves (fun _ => False) w w'
set_option maxRecDepth 100000 in
set_option maxHeartbeats 1000000 in
theorem shape_any {w : World} {base d : Nat} {S : DS} (h : IsDisk w base d S) :
    Calls Try.prog 39 #[.pointer (some ⟨d, 0, none⟩)] w (MPost w (.tuple #[.int .i64 S.kept.length, .int .i64 S.size])) := by
  obtain ⟨kv, kvs, m, D, pvs, kpv, h⟩ := h
  obtain ⟨c0, c1, -⟩ := h.cells
  obtain ⟨A, c, rfl, -, -, -, -, -⟩ := own_form h.kept
  have hl : kvs.length = S.kept.length := h.secs.1
  rw [hl] at c1
  clear h hl
  go_enter Try.func39, Try.ntmps39
  go_wp2_with fail
  go_quiet (fail)
  go_wp2
  go_ret2
  exact ⟨rfl, (Moves.refl _ w).drewN _⟩
end Go.Proofs.Ytnagpianaghjeaa.Pl
