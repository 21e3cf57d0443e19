/-
  The table: what Unbind keeps; a table that is struck name by name, its twin beside it.
-/
import Derived.Test.YtbfnmgjpkieaoaaTPlayHead
import Derived.Test.YtbfnmgjpkieaoaaTabIn
namespace Go.Proofs.Ytbfnmgjpkieaoaa.Tb
open Go Go.RowKit Go.Maps Go.Sort Go.Proofs Go.Shelf

def UnbPostK (w : World) (base p : Nat) (M : List (Nm × Int)) (v : Int) (b : Bool) (e : Ending) (w' : World) : Prop := UnbPost w base p M v b e w' ∧ w'.heap[p]? = w.heap[p]?
set_option maxRecDepth 100000 in
set_option maxHeartbeats 1000000 in
/-- What Unbind leaves: besides, the table's own cell. -/
theorem unbind_keep {w : World} {base p : Nat} {M : List (Nm × Int)} (h : TabAt w base p M) (n : Nm) {v : Int} {b : Bool} (hv : getZ M n = v) (hb : hasN M n = b) :
    Calls Try.prog 51 #[.pointer (some ⟨p, 0, none⟩), .agg (encM n).toArray] w (UnbPostK w base p (delM M n) v b) := by
  have h0 := h
  have hW := (Moves.refl (fun _ => False) w).alloc (.cells (encM n).toArray 77)
  have hbk : (w.alloc (.cells (encM n).toArray 77)).heap[w.heap.size]? = some (.cells (encM n).toArray 77 (0, 0)) := heap_alloc_new _ _
  have h1 := h.moves0 hW
  obtain ⟨mb, hbl, hp, hx⟩ := h1
  have hr0 := range_of hbk
  have c0 : (w.alloc (.cells (encM n).toArray 77)).cell? ⟨p, 0, none⟩ = some (.map mb) := by simp only [World.cell?, hbl]; rfl
  have hsz : w.heap.size < (w.alloc (.cells (encM n).toArray 77)).heap.size := by simp
  have hpl := h.lt
  clear h hbk
  go_enter Try.func51, Try.ntmps51
  go_wp2_with fail
  generalize w.alloc (.cells (encM n).toArray 77) = W at hW hx hr0 c0 hbl hsz ⊢
  have hrun := fun q => (hx.drewN q).look n hv hb
  have hld : ∀ q, (Instr.loadAt 77 (.pointer (some ⟨w.heap.size, 0, none⟩))).run Try.prog (W.drewN q) = .ok (.agg (encM n).toArray) (W.drewN q) := fun q =>
    run_loadAt_mid (W.drewN q) w.heap.size 0 77 (encM n) _ (fun j v hv => (World.cell?_drewN _ _ _).trans (hr0 j v hv)) undN rfl (sizeM n)
  have HM := Lib.hid hW
  have HX := Lib.hid hx
  have HB := Lib.hid hbl
  have hkey := keyOf_N n
  rw [encN_ints] at hkey
  have HK := Lib.hid hkey
  clear hx hr0 hv hb hW hbl hkey
  generalize hXe : (encM n).toArray = X at hrun hld HK ⊢
  have HE := Lib.hid hXe
  have HD := Lib.hid hld
  clear hld hXe
  refine wp_region_quiet_lit (by kernel_rfl) (by kernel_rfl) ?_
  repeat (first
    | (refine wpQuiet_load_mid rfl 77 (.tmp 3) rfl _ (.agg X) rfl (fun w5 hw5 => by obtain ⟨q, rfl⟩ := hw5; exact HD.out q) ?_)
    | quiet_step (fail))
  refine wpQuiet_nil ?_
  intro _ hw'
  obtain ⟨nq, hw''⟩ := hw'
  subst hw''
  clear hrun
  go_upto_region 2 with fail
  have c2 : (W.drewN nq).cell? ⟨p, 0, none⟩ = some (.map mb) := by rw [World.cell?_drewN]; exact c0
  have HM2 := Lib.hid (HM.out.drewN nq)
  have HX2 := Lib.hid (HX.out.drewN nq)
  have HD2 : Hid ((Instr.loadAt 77 (.pointer (some ⟨w.heap.size, 0, none⟩))).run Try.prog (W.drewN nq).drew = .ok (.agg X) (W.drewN nq).drew) := Lib.hid (HD.out (nq + 1))
  have HB2 : Hid ((W.drewN nq).heap[p]? = some (.cells #[.map mb] 84 (0, 0))) := Lib.hid HB.out
  clear HM HX HD HB c0
  generalize W.drewN nq = W2 at c2 HM2 HX2 HD2 HB2 ⊢
  refine wp_region_still_tail 5 (by kernel_rfl) (by kernel_rfl) ?_
  simp only [List.take_succ_cons, List.take_zero, List.drop_succ_cons, List.drop_zero]
  repeat (first
    | (refine wpStill_load_mid rfl 77 (.tmp 3) rfl _ (.agg X) rfl HD2.out ?_)
    | still_step)
  refine wpStill_nil ?_
  rcases HX2.out with ⟨rfl, rfl⟩ | ⟨m, D, rfl, hbm, hown, hk⟩
  · have hdr := fun (V : World) ty => Maps.drop_nil (P := Try.prog) (w := V) lawN Try.underlying82 HK.out ty
    go_wp2
    go_ret2
    exact ⟨⟨rfl, h0.moves0 HM2.out.drew, HM2.out.drew.none _⟩, HM2.out.drew.block p hpl (fun h => h)⟩
  · change wpList _ _ _ _ _ W2.drew
    have hown3 := hown.drew
    have hkey := HK.out
    have hA : TabAt W2.drew base p M := h0.moves0 HM2.out.drew
    have HM3 := Lib.hid HM2.out.drew
    have HB3 : Hid (W2.drew.heap[p]? = some (.cells #[.map (some m)] 84 (0, 0))) := Lib.hid HB2.out
    have HH := Lib.hid (And.intro h0 (And.intro hk hbm))
    clear c2 HM2 HX2 HD2 HB2 hown h0 hk hA
    generalize W2.drew = W3 at hown3 HM3 HB3 ⊢
    refine wpList_delete_own _ rfl _ _ 82 77 rfl 3 lawN Try.underlying82 _ m _ D rfl hown3 _ _ rfl hkey ?_
    intro w5 hown5 hturn5
    have H5 := Lib.hid (And.intro hown5 hturn5)
    have H3 := Lib.hid hown3
    clear hown5 hturn5 hown3 hkey
    go_frame
    go_wp2
    go_ret2
    obtain ⟨hown5, hturn5⟩ := H5.out
    obtain ⟨h0, hk, hbm⟩ := HH.out
    have hk5 := hk.del (H3.out.tidy lawN) n
    have hne : m ≠ p := by
      intro e
      obtain ⟨es, clock, hb, _⟩ := H3.out
      rw [e, HB3.out] at hb
      cases hb
    have hg := hturn5.grown
    refine ⟨⟨rfl, ⟨some m, (hg.block p (Array.getElem?_eq_some_iff.1 HB3.out).1 (fun e => hne (by cases e; rfl))).trans HB3.out, hp, .inr ⟨m, _, rfl, hbm, ?_, hk5⟩⟩, ?_⟩, (hg.block p (Array.getElem?_eq_some_iff.1 HB3.out).1 (fun e => hne (by cases e; rfl))).trans (HM3.out.block p hpl (fun h => h))⟩
    · rw [← hk5.size]
      exact ownsMap_tight hown5
    · refine (HM3.out.none (TabOwn w p)).turned hturn5 (fun hlt => .inr ?_)
      rw [← HM3.out.block p hpl (fun h => h)]
      exact HB3.out
/-- The twin stands while the table is struck. -/
structure Dr (wa : World) (base p q : Nat) (M M2 : List (Nm × Int)) (w : World) : Prop where
  two : TabAt w wa.heap.size q M
  one : TabAt w base p M2
  same : w.heap[p]? = wa.heap[p]?
  mv : Moves (TabOwn wa p) wa w
theorem Dr.start {wa w1 : World} {base p q : Nat} {M : List (Nm × Int)} (h : TabAt wa base p M) (ht : TabAt w1 wa.heap.size q M) (hm : Moves (fun _ => False) wa w1) : Dr wa base p q M M w1 :=
  ⟨ht, h.moves0 hm, hm.block p h.lt (fun h => h), hm.none _⟩
theorem Dr.next0 {wa w w' : World} {base p q : Nat} {M M2 : List (Nm × Int)} (h : Dr wa base p q M M2 w) (hm : Moves (fun _ => False) w w') : Dr wa base p q M M2 w' :=
  ⟨h.two.moves0 hm, h.one.moves0 hm, (hm.block p h.one.lt (fun h => h)).trans h.same, h.mv.trans (hm.none _)⟩
theorem Dr.unb {wa w w' : World} {base p q : Nat} {M M0 M2 M3 : List (Nm × Int)} {v : Int} {b : Bool} {e : Ending} (h0 : TabAt wa base p M0) (h : Dr wa base p q M M2 w) (hp : UnbPostK w base p M3 v b e w') : Dr wa base p q M M3 w' := by
  obtain ⟨⟨-, ht, hm⟩, hs⟩ := hp
  have hown : ∀ k, TabOwn w p k → TabOwn wa p k := fun k hk => by
    unfold TabOwn at *
    rwa [h.same] at hk
  refine ⟨h.two.moves hm fun k hk hk2 => ?_, ht, hs.trans h.same, h.mv.trans (hm.mono hown)⟩
  have h1 := h.two.low k hk
  have h2 := h0.own_lt (hown k hk2)
  omega
theorem TabAt.weak {w : World} {base base' p : Nat} {M : List (Nm × Int)} (h : TabAt w base p M) (hb : base' ≤ base) : TabAt w base' p M := by
  obtain ⟨mb, h1, h2, h3⟩ := h
  refine ⟨mb, h1, Nat.le_trans hb h2, ?_⟩
  rcases h3 with h3 | ⟨m, D, r1, r2, r3, r4⟩
  · exact .inl h3
  · exact .inr ⟨m, D, r1, Nat.le_trans hb r2, r3, r4⟩
theorem Dr.fin {w0 wa w : World} {p q : Nat} {M M2 : List (Nm × Int)} (h : KSt w0 w0.heap.size p M wa) (hd : Dr wa w0.heap.size p q M M2 w) : KSt w0 w0.heap.size q M w :=
  ⟨h.len.low (h.tab.lower hd.mv) h.lt, hd.two.weak h.big, h.mv.trans (h.tab.lower hd.mv), h.lt, h.le⟩
theorem row_cell {w : World} {base g n q : Nat} {R : List (ByteArray × Int)} (h : w.ownsRow base 100 2 (.slice (some ⟨g, 0, none⟩) n q) R.length (cellsR R)) {i : Nat} (hi : i < R.length) : w.cell? ⟨g, i * 2, none⟩ = some (.string (R[i]).1) := by
  obtain ⟨A, c, hv, _, _, _, _, hx⟩ := own_form h
  cases hv
  obtain ⟨g', hg, _, _, hcell⟩ := hx (by omega)
  cases hg
  exact hcell _ _ (cellsR_get R i hi).1
end Go.Proofs.Ytbfnmgjpkieaoaa.Tb
