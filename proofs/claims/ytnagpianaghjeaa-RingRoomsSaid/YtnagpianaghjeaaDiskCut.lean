/-
  A disk's cut, its sync, its arming.
-/
import Derived.Test.YtnagpianaghjeaaDiskCalls
namespace Go.Proofs.Ytnagpianaghjeaa.Pl
open Go Go.RowKit Go.Maps Go.Sort Go.Proofs

theorem DOwn.back {w w' : World} {d k : Nat} (hm : Moves (fun _ => False) w w') (hd : d < w.heap.size) (h : DOwn w' d k) : DOwn w d k := by
  rcases h with h | ⟨cs, hb, h⟩
  · exact .inl h
  · exact .inr ⟨cs, (hm.block d hd (fun h => h)).symm.trans hb, h⟩
theorem IsDisk.lt {w : World} {base d : Nat} {S : DS} (h : IsDisk w base d S) : d < w.heap.size := by
  obtain ⟨kv, kvs, m, D, pvs, kpv, h⟩ := h
  exact (Array.getElem?_eq_some_iff.1 h.blk).1

theorem DiskAt.moves0 {w w1 : World} {base d : Nat} {S : DS} {kv : Value} {kvs : List Value} {m : Nat} {D : DataW Value} {pvs : List Value} {kpv : Value} (h : DiskAt w base d S kv kvs m D pvs kpv) (hm1 : Moves (fun _ => False) w w1) : DiskAt w1 base d S kv kvs m D pvs kpv :=
  have hsec : ∀ a b, Sec w base a b → Sec w1 base a b := fun _ _ hab => hab.moves hm1 (fun _ _ _ h => h)
  ⟨(hm1.block d (Array.getElem?_eq_some_iff.1 h.blk).1 (fun h => h)).trans h.blk, h.hd, own_moves h.kept hm1 (fun _ _ h => h), h.secs.mono hsec, h.hm, hm1.ownsMap h.map (fun h => h), h.pend, h.data.mono hsec, h.len, own_moves h.keep hm1 (fun _ _ h => h), h.wf, h.wfd, h.wfs, h.few⟩

set_option maxHeartbeats 1000000 in
theorem cut1_any {w : World} {kb : Nat} {v : Value} {bs : List Bool} {L : Nat → Prop} (hb : w.cell? ⟨kb, 0, none⟩ = some v) (hr : Row w L v (bs.map .bool)) {i : Nat} (hi : i ≤ 1000000) (hl : bs.length ≤ 1000000) :
    Calls Try.prog 79 #[.int .i64 i, .pointer (some ⟨kb, 0, none⟩)] w (KeepPost w (bs.getD i false)) := by
  obtain ⟨A, c, rfl, hc, hx⟩ := hr
  rw [List.length_map] at hb hc hx
  by_cases h : i < bs.length
  · obtain ⟨g, o, rfl, -, -, hcell⟩ := hx (by omega)
    have hv := hcell i (.bool bs[i]) (by simp [h])
    have e : bs.getD i false = bs[i] := by simp [List.getD_eq_getElem?_getD, h]
    rw [e]
    generalize bs[i] = b at hv
    have h1 : (i : Int) < (bs.length : Int) := by omega
    have h0 : (0 : Int) ≤ (i : Int) := by omega
    clear hx hcell e
    go_enter Try.func79, Try.ntmps79
    go_wp2
    go_ret
    exact ⟨rfl, Moves.refl _ _⟩
  · have e : bs.getD i false = false := by rw [List.getD_eq_getElem?_getD, List.getElem?_eq_none (by omega)]; rfl
    rw [e]
    have h1 : ¬ (i : Int) < (bs.length : Int) := by omega
    clear hx e
    go_enter Try.func79, Try.ntmps79
    go_wp2
    go_ret
    exact ⟨rfl, Moves.refl _ _⟩

/-- A disk whose power has gone. -/
def cutS (S : DS) (bs : List Bool) : DS := { settleS S (fun i => bs.getD i false) with off := true, armed := false, keep := [] }
theorem boxed {w : World} {L : Nat → Prop} {v : Value} {xs : List Value} (h : Row w L v xs) (o : Obj) : Row (w.alloc o) L v xs := h.moves ((Moves.refl (fun _ => False) w).alloc o) (fun _ _ _ h => h)

set_option maxHeartbeats 2000000 in
theorem cut_any {w : World} {base d : Nat} {S : DS} (h : IsDisk w base d S) {v : Value} {bs : List Bool} {L : Nat → Prop} (hr : Row w L v (bs.map .bool)) (hL : ∀ k, L k → k < w.heap.size → ¬ DOwn w d k) (hl : bs.length ≤ 1000000) :
    Calls Try.prog 36 #[.pointer (some ⟨d, 0, none⟩), v] w (DPost w base d (cutS S bs) (.tuple #[])) := by
  have hdl := h.lt
  have hm0 := (Moves.refl (fun _ => False) w).alloc (.cells #[v] 45)
  have h0 := h.moves0 hm0
  have hbox := heap_alloc_new w (.cells #[v] 45)
  have hr0 := boxed (hr.mono (L' := fun k => L k ∧ k < w.heap.size) (fun k hk hlt => ⟨hk, hlt⟩)) (.cells #[v] 45)
  have HB := Lib.hid (fun k (hk : DOwn (w.alloc (.cells #[v] 45)) d k) => hk.back hm0 hdl)
  obtain ⟨A, c, hv, -⟩ := hr
  rw [List.length_map] at hv
  have hmf : ∀ (fn : Fn) (first cap : Array Value) (w : World), (Instr.makeFunc fn first cap).run Try.prog w = .ok (.func fn first cap) w := fun _ _ _ _ => rfl
  have HST : Hid (Calls Try.prog 78 #[.pointer (some ⟨d, 0, none⟩), .func (.func 79) #[] #[.pointer (some ⟨w.heap.size, 0, none⟩)]] (w.alloc (.cells #[v] 45)) (SettlePost (w.alloc (.cells #[v] 45)) base d (settleS S (fun i => bs.getD i false)))) := Lib.hid (by
    have hap := h0.apart hbox (by decide) (by decide)
    obtain ⟨kv, kvs, m, D, pvs, kpv, h0'⟩ := h0
    refine settle_any h0' 79 #[.pointer (some ⟨w.heap.size, 0, none⟩)] (fun i => bs.getD i false) (enters_of Try.func79 (by kernel_rfl) rfl) (fun i hi W hW => ?_)
    have hf := h0'.few.1
    have hbW : W.cell? ⟨w.heap.size, 0, none⟩ = some v := by
      refine (hW.cell (p := ⟨w.heap.size, 0, none⟩) (by simp) hap).trans ?_
      unfold World.cell?
      simp only [hbox]
      rfl
    exact cut1_any hbW (hr0.moves hW (fun k hk _ hd => hL k hk.1 hk.2 (HB.out k hd))) (by omega) hl)
  subst hv
  have HM0 := Lib.hid hm0
  clear hr0 hbox hm0 h0
  go_enter Try.func36, Try.ntmps36
  go_wp2_with fail
  refine HST.out.mono ?_
  rintro e w1 ⟨rfl, ⟨kv, kvs, m, D, pvs, kpv, h1⟩, hm1, hkp1⟩
  obtain ⟨-, -, -, c3, c4, -, c6, -⟩ := h1.cells
  have f3 := h1.fr 3
  have f4 := h1.fr 4
  have f6 := h1.fr 6
  have H1 := Lib.hid h1
  have HM1 := Lib.hid hm1
  have HKP1 := Lib.hid hkp1
  clear h1 hm1 HST hkp1
  go_wp2
  go_end0
  have h1 := H1.out
  have hm3 : Moves (fun k => k = d) w1 (((w1.setCell ⟨d, 3, none⟩ (.bool true)).setCell ⟨d, 4, none⟩ (.bool false)).setCell ⟨d, 6, none⟩ (.slice none 0 0)) :=
    Moves.setCell (p := ⟨d, 6, none⟩) (Moves.setCell (p := ⟨d, 4, none⟩) (Moves.setCell (p := ⟨d, 3, none⟩) (Moves.refl (fun k => k = d) w1) (fun _ => rfl) _) (fun _ => rfl) _) (fun _ => rfl) _
  have h3 := h1.put (S' := cutS S bs) hm3 (by simp [World.setCell, Array.getElem?_modify, h1.blk, cutS, settleS]) rfl rfl rfl rfl (World.ownsRow_nil _ _ _ _)
  refine ⟨rfl, ⟨kv, kvs, m, D, pvs, _, h3⟩, ?_, ?_⟩
  · exact ((HM0.out.none (DOwn w d)).andThen HM1.out (fun k hk _ => HB.out k hk)).andThen hm3 (fun k e _ => .inl e)
  · intro k hk
    rcases DKeep.of h1.blk h3.blk rfl (fun k e => .inl e) k hk with e | e
    · rcases HKP1.out k e with e | e
      · exact .inl (HB.out k e)
      · exact .inr (Nat.le_trans HM0.out.size e)
    · exact .inr (Nat.le_trans (Nat.le_trans HM0.out.size HM1.out.size) e)

/-- Sync. -/
theorem sync1_any (w : World) (i : Nat) : Calls Try.prog 99 #[.int .i64 i] w (KeepPost w true) := by
  go_enter Try.func99, Try.ntmps99
  go_wp2
  go_ret
  exact ⟨rfl, Moves.refl _ _⟩
theorem sync_off {w : World} {base d : Nat} {S : DS} (h : IsDisk w base d S) (ho : S.off = true) : Calls Try.prog 58 #[.pointer (some ⟨d, 0, none⟩)] w (SameP w (.int .i64 7)) := by
  obtain ⟨kv, kvs, m, D, pvs, kpv, h⟩ := h
  obtain ⟨-, -, -, c3, -⟩ := h.cells
  rw [ho] at c3
  clear h ho
  go_enter Try.func58, Try.ntmps58
  go_wp2
  go_ret
  exact ⟨rfl, rfl⟩
theorem sync_on {w : World} {base d : Nat} {S : DS} (h : IsDisk w base d S) (ho : S.off = false) : Calls Try.prog 58 #[.pointer (some ⟨d, 0, none⟩)] w (DPost w base d (settleS S (fun _ => true)) (.int .i64 0)) := by
  obtain ⟨kv, kvs, m, D, pvs, kpv, h⟩ := h
  obtain ⟨-, -, -, c3, -⟩ := h.cells
  rw [ho] at c3
  have HST := Lib.hid (settle_any h 99 #[] (fun _ => true) (enters_of Try.func99 (by kernel_rfl) rfl) (fun i _ W _ => sync1_any W i))
  clear h ho
  go_enter Try.func58, Try.ntmps58
  go_wp2_with fail
  refine HST.out.mono ?_
  rintro e w1 ⟨rfl, h1, hm1, hkp1⟩
  go_wp2
  go_ret
  exact ⟨rfl, h1, hm1, hkp1⟩

/-- Arm. -/
def armS (S : DS) (n : Int) (bs : List Bool) : DS := { S with armed := true, left := max n 1, keep := bs }
theorem arm_any {w : World} {base d : Nat} {S : DS} (h : IsDisk w base d S) {n : Int} {v : Value} {bs : List Bool} {L : Nat → Prop} (hr : Row w L v (bs.map .bool)) (hl : bs.length ≤ 1000000) :
    Calls Try.prog 21 #[.pointer (some ⟨d, 0, none⟩), .int .i64 n, v] w (DPost w base d (armS S n bs) (.tuple #[])) := by
  have hC := Lib.hid (cloneT hr (by intro u hu; obtain ⟨b, _, rfl⟩ := List.mem_map.1 hu; rfl) (by rw [List.length_map]; exact hl))
  obtain ⟨kv, kvs, m, D, pvs, kpv, h⟩ := h
  have H := Lib.hid h
  clear h hr
  go_enter Try.func21, Try.ntmps21
  go_wp2_with fail
  refine hC.out.mono ?_
  rintro e w1 ⟨v1, rfl, hown1, hm1⟩
  rw [List.length_map] at hown1
  have h := H.out
  have hbase := h.hd
  have hdl := (Array.getElem?_eq_some_iff.1 h.blk).1
  have hsec : ∀ a b, Sec w base a b → Sec w1 base a b := fun a b hab => hab.moves hm1 (fun _ _ _ h => h)
  have h1 : DiskAt w1 base d S kv kvs m D pvs kpv := ⟨(hm1.block d hdl (fun h => h)).trans h.blk, h.hd, own_moves h.kept hm1 (fun _ _ h => h), h.secs.mono hsec, h.hm, hm1.ownsMap h.map (fun h => h), h.pend, h.data.mono hsec, h.len, own_moves h.keep hm1 (fun _ _ h => h), h.wf, h.wfd, h.wfs, h.few⟩
  obtain ⟨-, -, -, -, c4, c5, c6, -⟩ := h1.cells
  have f4 := h1.fr 4
  have f5 := h1.fr 5
  have f6 := h1.fr 6
  have HO := Lib.hid (own_weak (show base ≤ w.heap.size by omega) hown1)
  have H1 := Lib.hid h1
  have HM1 := Lib.hid hm1
  obtain ⟨A1, k1, rfl, -, -, -, -, -⟩ := own_form hown1
  clear h1 hm1 h hsec hown1
  go_wp2
  go_end0
  have h1 := H1.out
  have hm3 : Moves (fun k => k = d) w1 (((w1.setCell ⟨d, 4, none⟩ (.bool true)).setCell ⟨d, 5, none⟩ (.int .i64 (max n 1))).setCell ⟨d, 6, none⟩ (.slice A1 bs.length k1)) :=
    Moves.setCell (p := ⟨d, 6, none⟩) (Moves.setCell (p := ⟨d, 5, none⟩) (Moves.setCell (p := ⟨d, 4, none⟩) (Moves.refl (fun k => k = d) w1) (fun _ => rfl) _) (fun _ => rfl) _) (fun _ => rfl) _
  have hk3 := own_moves HO.out hm3 (fun g hg e => by
    have e : g = d := e
    obtain ⟨cur, hc⟩ := own_block HO.out hg
    rw [e, h1.blk] at hc
    cases hc)
  have h3 := h1.put (S' := armS S n bs) hm3 (by simp [World.setCell, Array.getElem?_modify, h1.blk, armS]) rfl rfl rfl rfl hk3
  exact ⟨rfl, ⟨kv, kvs, m, D, pvs, _, h3⟩, (HM1.out.none (DOwn w d)).andThen hm3 (fun k e _ => .inl e), DKeep.of H.out.blk h3.blk rfl (fun k e => .inl e)⟩
end Go.Proofs.Ytnagpianaghjeaa.Pl
