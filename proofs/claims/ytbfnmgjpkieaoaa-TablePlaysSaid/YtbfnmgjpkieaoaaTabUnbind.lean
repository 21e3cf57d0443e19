/-
  The table: Unbind.
-/
import Derived.Test.YtbfnmgjpkieaoaaTabTable
namespace Go.Proofs.Ytbfnmgjpkieaoaa.Tb
open Go Go.RowKit Go.Maps Go.Sort Go.Proofs

theorem wpStill_load_mid {P : Program} {ops : Array Oper} {w : World} {Q : Act → Prop} {a : Act} {o : Oper} {rest : List Oper} (hg : o.guard = none) (ty : TypeId) (x : Operand) (ho : o.op = .load ty x) (p v : Value) (hx : a.eval x = p)
    (hr : (Instr.loadAt ty p).run P w = .ok v w) (h : wpStill P ops w Q rest (a.put o.dst v)) : wpStill P ops w Q (o :: rest) a :=
  wpStill_step fun K hK => by
    rw [if_pos (by simp [Region.wanted, hg])]
    unfold Oper.still execOp
    simp only [ho, hx, Sem.run_bind, hr, Result.andThen_ok, Sem.run_pure]
    exact ⟨rfl, hK _ h⟩
def UnbPost (w : World) (base p : Nat) (M : List (Nm × Int)) (v : Int) (b : Bool) (e : Ending) (w' : World) : Prop := e = .returned (.tuple #[.int .i64 v, .bool b]) ∧ TabAt w' base p M ∧ Moves (TabOwn w p) w w'
set_option maxRecDepth 100000 in
set_option maxHeartbeats 1000000 in
theorem unbind_any {w : World} {base p : Nat} {M : List (Nm × Int)} (h : TabAt w base p M) (n : Nm) {v : Int} {b : Bool} (hv : getZ M n = v) (hb : hasN M n = b) :
    Calls Try.prog 51 #[.pointer (some ⟨p, 0, none⟩), .agg (encM n).toArray] w (UnbPost w base p (delM M n) v b) := by
  have h0 := h
  have hW := (Moves.refl (fun _ => False) w).alloc (.cells (encM n).toArray 77)
  have hbk : (w.alloc (.cells (encM n).toArray 77)).heap[w.heap.size]? = some (.cells (encM n).toArray 77 (0, 0)) := heap_alloc_new _ _
  have h1 := h.moves0 hW
  obtain ⟨mb, hbl, hp, hx⟩ := h1
  have hr0 := range_of hbk
  have c0 : (w.alloc (.cells (encM n).toArray 77)).cell? ⟨p, 0, none⟩ = some (.map mb) := by simp only [World.cell?, hbl]; rfl
  have hsz : w.heap.size < (w.alloc (.cells (encM n).toArray 77)).heap.size := by simp
  have hpl := h.lt
  clear h hbk
  go_enter Try.func51, Try.ntmps51
  go_wp2_with fail
  generalize w.alloc (.cells (encM n).toArray 77) = W at hW hx hr0 c0 hbl hsz ⊢
  have hrun := fun q => (hx.drewN q).look n hv hb
  have hld : ∀ q, (Instr.loadAt 77 (.pointer (some ⟨w.heap.size, 0, none⟩))).run Try.prog (W.drewN q) = .ok (.agg (encM n).toArray) (W.drewN q) := fun q =>
    run_loadAt_mid (W.drewN q) w.heap.size 0 77 (encM n) _ (fun j v hv => (World.cell?_drewN _ _ _).trans (hr0 j v hv)) undN rfl (sizeM n)
  have HM := Lib.hid hW
  have HX := Lib.hid hx
  have HB := Lib.hid hbl
  have hkey := keyOf_N n
  rw [encN_ints] at hkey
  have HK := Lib.hid hkey
  clear hx hr0 hv hb hW hbl hkey
  generalize hXe : (encM n).toArray = X at hrun hld HK ⊢
  have HE := Lib.hid hXe
  have HD := Lib.hid hld
  clear hld hXe
  refine wp_region_quiet_lit (by kernel_rfl) (by kernel_rfl) ?_
  repeat (first
    | (refine wpQuiet_load_mid rfl 77 (.tmp 3) rfl _ (.agg X) rfl (fun w5 hw5 => by obtain ⟨q, rfl⟩ := hw5; exact HD.out q) ?_)
    | quiet_step (fail))
  refine wpQuiet_nil ?_
  intro _ hw'
  obtain ⟨nq, hw''⟩ := hw'
  subst hw''
  clear hrun
  go_upto_region 2 with fail
  have c2 : (W.drewN nq).cell? ⟨p, 0, none⟩ = some (.map mb) := by rw [World.cell?_drewN]; exact c0
  have HM2 := Lib.hid (HM.out.drewN nq)
  have HX2 := Lib.hid (HX.out.drewN nq)
  have HD2 : Hid ((Instr.loadAt 77 (.pointer (some ⟨w.heap.size, 0, none⟩))).run Try.prog (W.drewN nq).drew = .ok (.agg X) (W.drewN nq).drew) := Lib.hid (HD.out (nq + 1))
  have HB2 : Hid ((W.drewN nq).heap[p]? = some (.cells #[.map mb] 84 (0, 0))) := Lib.hid HB.out
  clear HM HX HD HB c0
  generalize W.drewN nq = W2 at c2 HM2 HX2 HD2 HB2 ⊢
  refine wp_region_still_tail 5 (by kernel_rfl) (by kernel_rfl) ?_
  simp only [List.take_succ_cons, List.take_zero, List.drop_succ_cons, List.drop_zero]
  repeat (first
    | (refine wpStill_load_mid rfl 77 (.tmp 3) rfl _ (.agg X) rfl HD2.out ?_)
    | still_step)
  refine wpStill_nil ?_
  rcases HX2.out with ⟨rfl, rfl⟩ | ⟨m, D, rfl, hbm, hown, hk⟩
  · have hdr := fun (V : World) ty => Maps.drop_nil (P := Try.prog) (w := V) lawN Try.underlying82 HK.out ty
    go_wp2
    go_ret2
    exact ⟨rfl, h0.moves0 HM2.out.drew, HM2.out.drew.none _⟩
  · change wpList _ _ _ _ _ W2.drew
    have hown3 := hown.drew
    have hkey := HK.out
    have hA : TabAt W2.drew base p M := h0.moves0 HM2.out.drew
    have HM3 := Lib.hid HM2.out.drew
    have HB3 : Hid (W2.drew.heap[p]? = some (.cells #[.map (some m)] 84 (0, 0))) := Lib.hid HB2.out
    have HH := Lib.hid (And.intro h0 (And.intro hk hbm))
    clear c2 HM2 HX2 HD2 HB2 hown h0 hk hA
    generalize W2.drew = W3 at hown3 HM3 HB3 ⊢
    refine wpList_delete_own _ rfl _ _ 82 77 rfl 3 lawN Try.underlying82 _ m _ D rfl hown3 _ _ rfl hkey ?_
    intro w5 hown5 hturn5
    have H5 := Lib.hid (And.intro hown5 hturn5)
    have H3 := Lib.hid hown3
    clear hown5 hturn5 hown3 hkey
    go_frame
    go_wp2
    go_ret2
    obtain ⟨hown5, hturn5⟩ := H5.out
    obtain ⟨h0, hk, hbm⟩ := HH.out
    have hk5 := hk.del (H3.out.tidy lawN) n
    have hne : m ≠ p := by
      intro e
      obtain ⟨es, clock, hb, _⟩ := H3.out
      rw [e, HB3.out] at hb
      cases hb
    have hg := hturn5.grown
    refine ⟨rfl, ⟨some m, (hg.block p (Array.getElem?_eq_some_iff.1 HB3.out).1 (fun e => hne (by cases e; rfl))).trans HB3.out, hp, .inr ⟨m, _, rfl, hbm, ?_, hk5⟩⟩, ?_⟩
    · rw [← hk5.size]
      exact ownsMap_tight hown5
    · refine (HM3.out.none (TabOwn w p)).turned hturn5 (fun hlt => .inr ?_)
      rw [← HM3.out.block p hpl (fun h => h)]
      exact HB3.out
end Go.Proofs.Ytbfnmgjpkieaoaa.Tb
