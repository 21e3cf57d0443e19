/-
  A disk's write.
-/
import Derived.Test.YtnagpianaghjeaaDiskCut
import Derived.Deep.RegionHeldLaw
import Derived.Deep.QuietTactic
namespace Go.Proofs.Ytnagpianaghjeaa.Pl
open Go Go.RowKit Go.Maps Go.Sort Go.Proofs

section
variable {H : Type} {P : Program} {w : World} {ops : Array Oper} {o : Oper} {a : Act} {K : Act → World → Prop} {Q : Exit → Act → World → Prop} {E : Prop}
theorem step_len (hg : o.guard = none) (m : Operand) (t : TypeId) (hop : o.op = Op.call { callee := Callee.builtin Builtin.len, args := #[m], argTypes := #[t] })
    (k e : TypeId) (ht : P.underlying t = some (.map k e)) (R : Value → Option (DataW H × List MemPlace)) (b n : Nat) (D : DataW H) (hm : a.eval m = .map (some b)) (hown : w.ownsMap P k R b n D)
    (hK : K (a.put o.dst (.int .i64 (Maps.size D))) w) : if Region.wanted o (yielded ops a.tmps) = true then Oper.wp P o a w K Q else E := by
  have hw : Region.wanted o (yielded ops a.tmps) = true := by simp [Region.wanted, hg]
  rw [if_pos hw]
  unfold Oper.wp
  simp [execOp, hop, resolve, invoke, builtin, hm, hown.len ht o.type, Result.andThen]
  exact hK
theorem step_mapUpdate (hg : o.guard = none) (m x v : Operand) (t : TypeId) (hop : o.op = Op.mapUpdate t m x v)
    (k e : TypeId) (KK : Keyed P k) (ht : P.underlying t = some (.map k e)) (R : Value → Option (DataW H × List MemPlace)) (b n : Nat) (D : DataW H)
    (hm : a.eval m = .map (some b)) (hown : w.ownsMap P k R b n D) (hn : n < maxLen) (key val : Value) (kl : Lit) (hx : a.eval x = key) (hv : a.eval v = val) (hkey : keyOf P k key = some kl)
    (d : DataW H) (ps : List MemPlace) (hval : R val = some (d, ps))
    (hK : ∀ w', w'.ownsMap P k R b (n + 1) (D.put kl d) → w.mapTurned w' b → K (a.put o.dst undef) w') : if Region.wanted o (yielded ops a.tmps) = true then Oper.wp P o a w K Q else E := by
  have hw : Region.wanted o (yielded ops a.tmps) = true := by simp [Region.wanted, hg]
  rw [if_pos hw]
  obtain ⟨w', hrun, r1, r2⟩ := hown.store KK ht hn hkey hval
  unfold Oper.wp
  simp [execOp, hop, hm, hx, hv, hrun, Result.andThen]
  exact hK w' r1 r2
end

theorem write_off {w : World} {base d : Nat} {S : DS} (h : IsDisk w base d S) (ho : S.off = true) (i : Int) (v : Value) : Calls Try.prog 59 #[.pointer (some ⟨d, 0, none⟩), .int .i64 i, v] w (SameP w (.int .i64 7)) := by
  obtain ⟨kv, kvs, m, D, pvs, kpv, h⟩ := h
  obtain ⟨-, -, -, c3, -⟩ := h.cells
  rw [ho] at c3
  clear h ho
  go_enter Try.func59, Try.ntmps59
  go_wp2
  go_ret
  exact ⟨rfl, rfl⟩

def KP (W w' : World) : Prop := w'.os = W.os ∧ w'.tape = W.tape ∧ w'.output = W.output ∧ W.heap.size ≤ w'.heap.size ∧ ∀ i, i < W.heap.size → w'.heap[i]? = W.heap[i]?
theorem KP.of {W w' : World} (h : Moves (fun _ => False) W w') : KP W w' := ⟨h.os, h.tape, h.output, h.size, fun i hi => h.block i hi (fun e => e)⟩
theorem KP.moves {W w' : World} (h : KP W w') : Moves (fun _ => False) W w' := ⟨h.1, h.2.1, h.2.2.1, h.2.2.2.1, fun i hi _ => h.2.2.2.2 i hi⟩
/-- One more pending write; the count as it was. -/
def pendS (S : DS) (i : Int) (bs : List Int) : DS := { S with secs := S.secs ++ [i], data := S.data ++ [bs] }
def putS (S : DS) (i : Int) (bs : List Int) : DS := { pendS S i bs with writes := S.writes + 1 }


set_option maxRecDepth 100000 in
set_option maxHeartbeats 2000000 in
theorem write_ok {w : World} {base d : Nat} {S : DS} {L : Nat → Prop} (h : IsDisk w base d S) (ho : S.off = false) (ha : S.armed = false) {i : Int} (hi : inS S i = true) {v : Value} {bs : List Int} (hr : Row w L v (bs.map encB)) (hz : bs.length = S.size) (hz0 : 0 < S.size) (hz1 : S.size ≤ 1000000) (hf : S.secs.length < 1000000) (hw0 : 0 ≤ S.writes ∧ S.writes ≤ 1000000000) :
    Calls Try.prog 59 #[.pointer (some ⟨d, 0, none⟩), .int .i64 i, v] w (DPost w base d (putS S i bs) (.int .i64 0)) := by
  have HIN := Lib.hid (in_any h hi)
  have hi' : 0 ≤ i ∧ i < S.kept.length := by simpa [inS] using hi
  have hr' := hr
  obtain ⟨A, c, rfl, hc, -⟩ := hr'
  obtain ⟨kv, kvs, m, D, pvs, kpv, h⟩ := h
  obtain ⟨c0, -, -, c3, c4, c5, -, c7⟩ := h.cells
  rw [ho] at c3
  rw [ha] at c4
  have f7 := h.fr 7
  have f5 := h.fr 5
  rw [show (bs.map encB).length = S.size by rw [List.length_map, hz]] at hr hc ⊢
  have HR := Lib.hid hr
  have H := Lib.hid h
  have HI := Lib.hid hi'
  have hww : IntKind.i64.wrap (S.writes + 1) = S.writes + 1 := IntWalk.i64_in _ (by omega)
  clear h hi hr hi' ho hw0
  go_enter Try.func59, Try.ntmps59
  go_wp2_with fail
  refine HIN.out.mono ?_
  rintro e w1 ⟨rfl, rfl⟩
  go_wp2_with fail
  clear c0 c3 c4 c5 c7 f5 f7
  obtain ⟨-, -, c2, -⟩ := H.out.cells
  have hdl := (Array.getElem?_eq_some_iff.1 H.out.blk).1
  have HSZ : Hid (Maps.size D = S.secs.length) := Lib.hid (by rw [H.out.pend.size, pl_len])
  have hfew : S.kept.length ≤ 16384 := H.out.few.2
  have HKEY : Hid (keyOf Try.prog 144 (encK ((S.secs.length : Int), i)) = some (kK ((S.secs.length : Int), i))) := Lib.hid (keyOf_K ⟨iw_of (by simp only; omega) (by simp only; omega), iw_of (by have := HI.out; simp only; omega) (by have := HI.out; simp only; omega)⟩)
  have hnm : S.secs.length < maxLen := by unfold maxLen; omega
  have HBL : Hid ((bs.map encB).length ≤ 1000000) := Lib.hid (by rw [List.length_map, hz]; omega)
  go_region_held_law (fun w' => w'.cell? ⟨d, 2, none⟩ = some (.map (some m)))
    (first | exact hS' | exact c2 | exact hS5 | assumption | go_keep)
    (first
      | (go_at_call 69
         go_must (refine (cloneB (xs := bs.map encB) (L := _) (by exact HR.out) (by intro u hu; obtain ⟨b, _, rfl⟩ := List.mem_map.1 hu; rfl) HBL.out).mono ?_)
         rintro e w' ⟨v', rfl, hown', hm'⟩
         have hk0 := KP.of hm'
         have hk' : KP w w' := hk0
         have hS' : w'.cell? ⟨d, 2, none⟩ = some (.map (some m)) := (hk'.moves.cell (p := ⟨d, 2, none⟩) hdl (fun h => h)).trans c2
         obtain ⟨w5, hrun5, hown5, hturn5⟩ := (hk'.moves.ownsMap H.out.map (fun h => h)).store lawK Try.underlying103 hnm HKEY.out (rfl : RV v' = some (.held v', []))
         have hmd : m ≠ d := fun e => by
           obtain ⟨es, ck, hb, _⟩ := H.out.map
           rw [e, H.out.blk] at hb
           cases hb
         have hm45 : Moves (fun k => k = m) w' w5 := (Moves.refl (fun k => k = m) w').turned hturn5 (fun _ => rfl)
         have hm5 : Moves (fun k => k = m) w w5 := (hk'.moves.none _).turned hturn5 (fun _ => rfl)
         have hS5 : w5.cell? ⟨d, 2, none⟩ = some (.map (some m)) := (hm5.cell (p := ⟨d, 2, none⟩) hdl (fun e => hmd e.symm)).trans c2)
      | (refine step_len (H := Value) rfl (.tmp 55) 103 rfl 144 55 Try.underlying103 RV m S.secs.length D rfl (by first | exact hk'.moves.ownsMap H.out.map (fun h => h) | exact H.out.map) ?_
         rw [HSZ.out])
      | fail)
  all_goals
    have h := H.out
    have hblk : ∀ (g : Nat) (cs : Array Value) (t : TypeId) (fr : Nat × Nat), w.heap[g]? = some (.cells cs t fr) → ¬ g = m := fun g cs t fr hg e => by
      obtain ⟨es, ck, hb, _⟩ := h.map
      rw [e, hb] at hg
      cases hg
    have hsec : ∀ a b, Sec w base a b → Sec w5 base a b := fun a b hab => hab.moves hm5 (fun g cs hg => hblk g cs _ _ hg)
    have hov : Sec w' base v' bs := Sec.of_own (own_weak (base := w.heap.size) (show base ≤ w.heap.size by have := h.hd; omega) (show w'.ownsRow w.heap.size 5 1 v' bs.length (bs.map encB) by have q := hown'; rw [List.length_map] at q; exact q)) (by omega)
    have hpl : pvs.length = S.secs.length := h.data.1.trans h.len
    have hsec' : Sec w5 base v' bs := by
      refine hov.moves hm45 (fun g cs hg e => ?_)
      have e : g = m := e
      obtain ⟨es, ck, hb, _⟩ := h.map
      rw [e, (hk'.moves.block m (Array.getElem?_eq_some_iff.1 hb).1 (fun h => h)), hb] at hg
      cases hg
    have hD5 : DiskAt w5 base d (pendS S i bs) kv kvs m (D.put (kK ((S.secs.length : Int), i)) (.held v')) (pvs ++ [v']) kpv := by
      refine ⟨(hm5.block d hdl (fun e => hmd e.symm)).trans h.blk, h.hd, own_moves h.kept hm5 (fun g hg => ?_), h.secs.mono hsec, h.hm, ?_, ?_, (h.data.mono hsec).append hsec', ?_, own_moves h.keep hm5 (fun g hg => ?_), h.wf, ?_, ?_, ?_⟩
      · obtain ⟨cur, hc⟩ := own_block h.kept hg
        exact hblk g cur _ _ hc
      · simp only [pendS, List.length_append, List.length_singleton]
        exact hown5
      · show VOf _ (pl (S.secs ++ [i]) (pvs ++ [v']))
        rw [pl_append hpl]
        exact h.pend.add (h.map.tidy lawK) ⟨iw_of (by simp only; omega) (by simp only; omega), iw_of (by have := HI.out; simp only; omega) (by have := HI.out; simp only; omega)⟩ (pl_new _ _ _) _
      · simp only [pendS, List.length_append, List.length_singleton, h.len]
      · obtain ⟨cur, hc⟩ := own_block h.keep hg
        exact hblk g cur _ _ hc
      · intro x hx
        rcases List.mem_append.1 hx with hx | hx
        · exact h.wfd x hx
        · simp at hx; subst hx; exact hz
      · intro x hx
        rcases List.mem_append.1 hx with hx | hx
        · exact h.wfs x hx
        · simp at hx; subst hx; exact HI.out
      · refine ⟨?_, h.few.2⟩
        simp only [pendS, List.length_append, List.length_singleton]
        omega
    have hm5' : Moves (DOwn w d) w w5 := hm5.mono (fun k e => .inr ⟨_, h.blk, .inr (by rw [e]; rfl)⟩)
    obtain ⟨-, -, -, -, -, -, -, c7⟩ := hD5.cells
    have f7 := hD5.fr 7
    have HD5 := Lib.hid hD5
    have HM5 := Lib.hid hm5'
    have HBLK := Lib.hid h.blk
    have c7' : w5.cell? ⟨d, 7, none⟩ = some (.int .i64 S.writes) := c7
    clear hD5 hm5 hm5' hm45 c7 hsec hsec' hov hblk hown' hown5 hturn5 hrun5 hk' hk0 hm' hS5 hS' h c2
    go_wp2
    go_ret
    have hm6 : Moves (fun k => k = d) w5 (w5.setCell ⟨d, 7, none⟩ (.int .i64 (S.writes + 1))) := Moves.setCell (p := ⟨d, 7, none⟩) (Moves.refl (fun k => k = d) w5) (fun _ => rfl) _
    have hb5 := HD5.out.blk
    have hD6 := HD5.out.put (S' := putS S i bs) hm6 (by simp [World.setCell, Array.getElem?_modify, hb5, putS, pendS]) rfl rfl rfl rfl (HD5.out.keepAt hm6)
    exact ⟨rfl, ⟨kv, kvs, m, _, pvs ++ [v'], kpv, hD6⟩, HM5.out.andThen hm6 (fun k e _ => .inl e), DKeep.of HBLK.out hD6.blk rfl (fun k e => .inl e)⟩

set_option maxRecDepth 100000 in
set_option maxHeartbeats 2000000 in
theorem write_armed {w : World} {base d : Nat} {S : DS} {L : Nat → Prop} (h : IsDisk w base d S) (ho : S.off = false) (ha : S.armed = true) (hl : 2 ≤ S.left ∧ S.left ≤ 9223372036854775807) (hap : ∀ k, L k → k < w.heap.size → k ≠ d) {i : Int} (hi : inS S i = true) {v : Value} {bs : List Int} (hr : Row w L v (bs.map encB)) (hz : bs.length = S.size) (hz0 : 0 < S.size) (hz1 : S.size ≤ 1000000) (hf : S.secs.length < 1000000) (hw0 : 0 ≤ S.writes ∧ S.writes ≤ 1000000000) :
    Calls Try.prog 59 #[.pointer (some ⟨d, 0, none⟩), .int .i64 i, v] w (DPost w base d (putS { S with left := S.left - 1 } i bs) (.int .i64 0)) := by
  have HIN := Lib.hid (in_any h hi)
  have hi' : 0 ≤ i ∧ i < S.kept.length := by simpa [inS] using hi
  have hr' := hr
  obtain ⟨A, c, rfl, hc, -⟩ := hr'
  obtain ⟨kv, kvs, m, D, pvs, kpv, h⟩ := h
  obtain ⟨c0, -, -, c3, c4, c5, -, c7⟩ := h.cells
  rw [ho] at c3
  rw [ha] at c4
  have f7 := h.fr 7
  have f5 := h.fr 5
  rw [show (bs.map encB).length = S.size by rw [List.length_map, hz]] at hr hc ⊢
  have HR := Lib.hid hr
  have H := Lib.hid h
  have HI := Lib.hid hi'
  have hww : IntKind.i64.wrap (S.writes + 1) = S.writes + 1 := IntWalk.i64_in _ (by omega)
  have hlw : IntKind.i64.wrap (S.left - 1) = S.left - 1 := IntWalk.i64_in _ (by omega)
  have hl1 : ¬ S.left - 1 < 1 := by omega
  clear h hi hr hi' ho hw0
  go_enter Try.func59, Try.ntmps59
  go_wp2_with fail
  refine HIN.out.mono ?_
  rintro e w1 ⟨rfl, rfl⟩
  go_wp2_with fail
  have hm0 : Moves (fun k => k = d) w (w.setCell ⟨d, 5, none⟩ (.int .i64 (S.left - 1))) := Moves.setCell (p := ⟨d, 5, none⟩) (Moves.refl (fun k => k = d) w) (fun _ => rfl) _
  have hD0 := H.out.put (S' := { S with left := S.left - 1 }) hm0 (by simp [World.setCell, Array.getElem?_modify, H.out.blk]) rfl rfl rfl rfl (H.out.keepAt hm0)
  have hR0 := (HR.out.mono (L' := fun k => L k ∧ k < w.heap.size) (fun k hk hlt => ⟨hk, hlt⟩)).moves hm0 (fun k hk _ => hap k hk.1 hk.2)
  have hOW : ∀ k, DOwn (w.setCell ⟨d, 5, none⟩ (.int .i64 (S.left - 1))) d k → DOwn w d k := fun k hk => by
    rcases hD0.own hk with e | e | e
    · exact .inl e
    · exact .inr ⟨_, H.out.blk, .inl ⟨_, rfl, e⟩⟩
    · exact .inr ⟨_, H.out.blk, .inr (by rw [e]; rfl)⟩
  have HM0 := Lib.hid hm0
  clear c0 c3 c4 c5 c7 f5 f7 hm0
  generalize w.setCell ⟨d, 5, none⟩ (.int .i64 (S.left - 1)) = w0 at hD0 hR0 hOW HM0 ⊢
  have H0 := H
  clear H HR
  have H := Lib.hid hD0
  have HR := Lib.hid hR0
  have HOW := Lib.hid hOW
  clear hD0 hR0 hOW
  obtain ⟨-, -, c2, -⟩ := H.out.cells
  have hdl := (Array.getElem?_eq_some_iff.1 H.out.blk).1
  have HSZ : Hid (Maps.size D = S.secs.length) := Lib.hid (by rw [H.out.pend.size, pl_len])
  have hfew : S.kept.length ≤ 16384 := H.out.few.2
  have HKEY : Hid (keyOf Try.prog 144 (encK ((S.secs.length : Int), i)) = some (kK ((S.secs.length : Int), i))) := Lib.hid (keyOf_K ⟨iw_of (by simp only; omega) (by simp only; omega), iw_of (by have := HI.out; simp only; omega) (by have := HI.out; simp only; omega)⟩)
  have hnm : S.secs.length < maxLen := by unfold maxLen; omega
  have HBL : Hid ((bs.map encB).length ≤ 1000000) := Lib.hid (by rw [List.length_map, hz]; omega)
  go_region_held_law (fun w' => w'.cell? ⟨d, 2, none⟩ = some (.map (some m)))
    (first | exact hS' | exact c2 | exact hS5 | assumption | go_keep)
    (first
      | (go_at_call 69
         go_must (refine (cloneB (xs := bs.map encB) (L := _) (by exact HR.out) (by intro u hu; obtain ⟨b, _, rfl⟩ := List.mem_map.1 hu; rfl) HBL.out).mono ?_)
         rintro e w' ⟨v', rfl, hown', hm'⟩
         have hk0 := KP.of hm'
         have hk' : KP w0 w' := hk0
         have hS' : w'.cell? ⟨d, 2, none⟩ = some (.map (some m)) := (hk'.moves.cell (p := ⟨d, 2, none⟩) hdl (fun h => h)).trans c2
         obtain ⟨w5, hrun5, hown5, hturn5⟩ := (hk'.moves.ownsMap H.out.map (fun h => h)).store lawK Try.underlying103 hnm HKEY.out (rfl : RV v' = some (.held v', []))
         have hmd : m ≠ d := fun e => by
           obtain ⟨es, ck, hb, _⟩ := H.out.map
           rw [e, H.out.blk] at hb
           cases hb
         have hm45 : Moves (fun k => k = m) w' w5 := (Moves.refl (fun k => k = m) w').turned hturn5 (fun _ => rfl)
         have hm5 : Moves (fun k => k = m) w0 w5 := (hk'.moves.none _).turned hturn5 (fun _ => rfl)
         have hS5 : w5.cell? ⟨d, 2, none⟩ = some (.map (some m)) := (hm5.cell (p := ⟨d, 2, none⟩) hdl (fun e => hmd e.symm)).trans c2)
      | (refine step_len (H := Value) rfl (.tmp 55) 103 rfl 144 55 Try.underlying103 RV m S.secs.length D rfl (by first | exact hk'.moves.ownsMap H.out.map (fun h => h) | exact H.out.map) ?_
         rw [HSZ.out])
      | fail)
  all_goals
    have h := H.out
    have hblk : ∀ (g : Nat) (cs : Array Value) (t : TypeId) (fr : Nat × Nat), w0.heap[g]? = some (.cells cs t fr) → ¬ g = m := fun g cs t fr hg e => by
      obtain ⟨es, ck, hb, _⟩ := h.map
      rw [e, hb] at hg
      cases hg
    have hsec : ∀ a b, Sec w0 base a b → Sec w5 base a b := fun a b hab => hab.moves hm5 (fun g cs hg => hblk g cs _ _ hg)
    have hov : Sec w' base v' bs := Sec.of_own (own_weak (base := w0.heap.size) (show base ≤ w0.heap.size by have := h.hd; omega) (show w'.ownsRow w0.heap.size 5 1 v' bs.length (bs.map encB) by have q := hown'; rw [List.length_map] at q; exact q)) (by omega)
    have hpl : pvs.length = S.secs.length := h.data.1.trans h.len
    have hsec' : Sec w5 base v' bs := by
      refine hov.moves hm45 (fun g cs hg e => ?_)
      have e : g = m := e
      obtain ⟨es, ck, hb, _⟩ := h.map
      rw [e, (hk'.moves.block m (Array.getElem?_eq_some_iff.1 hb).1 (fun h => h)), hb] at hg
      cases hg
    have hD5 : DiskAt w5 base d (pendS { S with left := S.left - 1 } i bs) kv kvs m (D.put (kK ((S.secs.length : Int), i)) (.held v')) (pvs ++ [v']) kpv := by
      refine ⟨(hm5.block d hdl (fun e => hmd e.symm)).trans h.blk, h.hd, own_moves h.kept hm5 (fun g hg => ?_), h.secs.mono hsec, h.hm, ?_, ?_, (h.data.mono hsec).append hsec', ?_, own_moves h.keep hm5 (fun g hg => ?_), h.wf, ?_, ?_, ?_⟩
      · obtain ⟨cur, hc⟩ := own_block h.kept hg
        exact hblk g cur _ _ hc
      · simp only [pendS, List.length_append, List.length_singleton]
        exact hown5
      · show VOf _ (pl (S.secs ++ [i]) (pvs ++ [v']))
        rw [pl_append hpl]
        exact h.pend.add (h.map.tidy lawK) ⟨iw_of (by simp only; omega) (by simp only; omega), iw_of (by have := HI.out; simp only; omega) (by have := HI.out; simp only; omega)⟩ (pl_new _ _ _) _
      · simp only [pendS, List.length_append, List.length_singleton, h.len]
      · obtain ⟨cur, hc⟩ := own_block h.keep hg
        exact hblk g cur _ _ hc
      · intro x hx
        rcases List.mem_append.1 hx with hx | hx
        · exact h.wfd x hx
        · simp at hx; subst hx; exact hz
      · intro x hx
        rcases List.mem_append.1 hx with hx | hx
        · exact h.wfs x hx
        · simp at hx; subst hx; exact HI.out
      · refine ⟨?_, h.few.2⟩
        simp only [pendS, List.length_append, List.length_singleton]
        omega
    have hm5' : Moves (DOwn w0 d) w0 w5 := hm5.mono (fun k e => .inr ⟨_, h.blk, .inr (by rw [e]; rfl)⟩)
    obtain ⟨-, -, -, -, -, -, -, c7⟩ := hD5.cells
    have f7 := hD5.fr 7
    have HD5 := Lib.hid hD5
    have HM5 := Lib.hid hm5'
    have HBLK := Lib.hid h.blk
    have c7' : w5.cell? ⟨d, 7, none⟩ = some (.int .i64 S.writes) := c7
    clear hD5 hm5 hm5' hm45 c7 hsec hsec' hov hblk hown' hown5 hturn5 hrun5 hk' hk0 hm' hS5 hS' h c2
    go_wp2
    go_ret
    have hm6 : Moves (fun k => k = d) w5 (w5.setCell ⟨d, 7, none⟩ (.int .i64 (S.writes + 1))) := Moves.setCell (p := ⟨d, 7, none⟩) (Moves.refl (fun k => k = d) w5) (fun _ => rfl) _
    have hb5 := HD5.out.blk
    have hD6 := HD5.out.put (S' := putS { S with left := S.left - 1 } i bs) hm6 (by simp [World.setCell, Array.getElem?_modify, hb5, putS, pendS]) rfl rfl rfl rfl (HD5.out.keepAt hm6)
    have hD7 := hD6
    rw [ha] at hD7
    refine ⟨rfl, ⟨kv, kvs, m, _, pvs ++ [v'], kpv, hD7⟩, ((HM0.out.mono (fun k e => .inl e)).andThen HM5.out (fun k hk _ => HOW.out k hk)).andThen hm6 (fun k e _ => .inl e), fun k hk => ?_⟩
    rcases DKeep.of HBLK.out hD6.blk rfl (fun k e => .inl e) k hk with e | e
    · exact .inl (HOW.out k e)
    · exact .inr (Nat.le_trans HM0.out.size e)

theorem Row.of_owns_at {w : World} {base n : Nat} {e : TypeId} {v : Value} {xs : List Value} (h : w.ownsRow base e 1 v n xs) : Row w (fun k => v.ownBlock = some k) v xs := by
  obtain rfl : xs.length = n := by simpa using h.1
  obtain ⟨A, c, hv, hc, -, -, -, hx⟩ := own_form h
  refine ⟨A, c, hv, hc, fun h0 => ?_⟩
  obtain ⟨g, hA, -, hl, hcell⟩ := hx h0
  exact ⟨g, 0, hA, by rw [hv, hA]; rfl, hl, fun j u hu => by rw [Nat.zero_add]; exact hcell j u hu⟩
set_option maxHeartbeats 2000000 in
/-- Armed, at the write where the power goes. -/
theorem write_cut {w : World} {base d : Nat} {S : DS} (h : IsDisk w base d S) (ho : S.off = false) (ha : S.armed = true) (hl : -1000000 ≤ S.left ∧ S.left ≤ 1) (hkl : S.keep.length ≤ 1000000) {i : Int} (hi : inS S i = true) {A : Option Addr} {c : Nat} {v : Value} (hv : v = .slice A S.size c) :
    Calls Try.prog 59 #[.pointer (some ⟨d, 0, none⟩), .int .i64 i, v] w (DPost w base d (cutS { S with left := S.left - 1 } S.keep) (.int .i64 7)) := by
  subst hv
  have HIN := Lib.hid (in_any h hi)
  obtain ⟨kv, kvs, m, D, pvs, kpv, h⟩ := h
  obtain ⟨c0, -, -, c3, c4, c5, c6, -⟩ := h.cells
  rw [ho] at c3
  rw [ha] at c4
  have f5 := h.fr 5
  have H := Lib.hid h
  have hlw : IntKind.i64.wrap (S.left - 1) = S.left - 1 := IntWalk.i64_in _ (by omega)
  have hl1 : S.left - 1 < 1 := by omega
  have hdl := (Array.getElem?_eq_some_iff.1 h.blk).1
  clear h hi ho
  go_enter Try.func59, Try.ntmps59
  go_wp2_with fail
  refine HIN.out.mono ?_
  rintro e w1 ⟨rfl, rfl⟩
  have hm0 : Moves (fun k => k = d) w (w.setCell ⟨d, 5, none⟩ (.int .i64 (S.left - 1))) := Moves.setCell (p := ⟨d, 5, none⟩) (Moves.refl (fun k => k = d) w) (fun _ => rfl) _
  have hD0 := H.out.put (S' := { S with left := S.left - 1 }) hm0 (by simp [World.setCell, Array.getElem?_modify, H.out.blk]) rfl rfl rfl rfl (H.out.keepAt hm0)
  have hOW : ∀ k, DOwn (w.setCell ⟨d, 5, none⟩ (.int .i64 (S.left - 1))) d k → DOwn w d k := fun k hk => by
    rcases hD0.own hk with e | e | e
    · exact .inl e
    · exact .inr ⟨_, H.out.blk, .inl ⟨_, rfl, e⟩⟩
    · exact .inr ⟨_, H.out.blk, .inr (by rw [e]; rfl)⟩
  have HCUT := Lib.hid (cut_any (bs := S.keep) ⟨kv, kvs, m, D, pvs, kpv, hD0⟩ (Row.of_owns_at hD0.keep) (fun k hk hlt hd => by
    obtain ⟨cur, hc⟩ := own_block hD0.keep hk
    exact IsDisk.apart ⟨kv, kvs, m, D, pvs, kpv, hD0⟩ hc (by decide) (by decide) hd) hkl)
  have HM0 := Lib.hid hm0
  have HOW := Lib.hid hOW
  clear hm0 hD0 hOW
  go_wp2_with fail
  refine HCUT.out.mono ?_
  rintro e w2 ⟨rfl, h2, hm2, hkp2⟩
  go_wp2
  go_ret
  refine ⟨rfl, h2, (HM0.out.mono (fun k e => .inl e)).andThen hm2 (fun k hk _ => HOW.out k hk), fun k hk => ?_⟩
  rcases hkp2 k hk with e | e
  · exact .inl (HOW.out k e)
  · exact .inr (Nat.le_trans HM0.out.size e)
end Go.Proofs.Ytnagpianaghjeaa.Pl
