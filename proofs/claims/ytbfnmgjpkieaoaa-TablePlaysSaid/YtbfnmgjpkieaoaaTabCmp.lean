/-
  Names in order: bytes.Compare at two names; the table's comparison.
-/
import Derived.Test.YtbfnmgjpkieaoaaTabCollect
import Derived.Test.YtbfnmgjpkieaoaaLayTab2
import Derived.Lib.BytesEntry
import Derived.Laws.Externs
import Derived.Shelf.SlSortCmp.NoneTotal
namespace Go.Proofs.Ytbfnmgjpkieaoaa.Tb
open Go Go.RowKit Go.Maps Go.Sort Go.Proofs Go.Shelf

theorem load_bytes {w : World} {b : Nat} {n : Nm} (hr : w.rangeAt b 0 (encM n)) : (Extern.Bytes.loadBytes ⟨b, 0, none⟩ 32 .empty).run Try.prog w = .ok ⟨n.1.toArray⟩ w := by
  have h := Lib.run_loadBytesX (P := Try.prog) w (ints n) ⟨b, 0, none⟩ .empty (fun j x hj => by
    have e : (⟨b, 0, none⟩ : Addr).add j = ⟨b, 0 + j, none⟩ := by unfold Addr.add; split <;> simp_all
    rw [e]
    refine hr j _ ?_
    rw [← cellsN_ints]
    unfold cellsN
    rw [List.getElem?_map, hj]
    rfl)
  rw [ints_len] at h
  rw [h]
  congr 1
  apply ByteArray.ext
  show (#[] : Array UInt8) ++ (Lib.bytesOf (ints n)).toArray = n.1.toArray
  have e : Lib.bytesOf (ints n) = n.1 := by
    unfold Lib.bytesOf ints
    rw [List.map_map]
    conv => rhs; rw [← List.map_id n.1]
    refine List.map_congr_left fun b _ => ?_
    simp
  rw [e]
  simp
theorem run_cmp {w : World} {b d : Nat} {n m : Nm} {p q : Nat} (hn : w.rangeAt b 0 (encM n)) (hm : w.rangeAt d 0 (encM m)) : (Extern.BytealgCompare.compare #[.slice (some ⟨b, 0, none⟩) 32 p, .slice (some ⟨d, 0, none⟩) 32 q]).run Try.prog w = .ok (.int .i64 (cmpN n m)) w := by
  change Sem.run Try.prog (do pure (goInt (Extern.BytealgCompare.cmp (← Extern.Bytes.bytesOf (.slice (some ⟨b, 0, none⟩) 32 p)) (← Extern.Bytes.bytesOf (.slice (some ⟨d, 0, none⟩) 32 q))))) w = _
  simp only [Extern.Bytes.bytesOf, Sem.run_bind, Sem.run_pure, load_bytes hn, load_bytes hm, Result.andThen_ok]
  rw [Lib.cmp_eq]
  rfl
def SameP (w : World) (v : Value) (e : Ending) (w' : World) : Prop := e = .returned v ∧ w = w'
set_option maxRecDepth 100000 in
set_option maxHeartbeats 1000000 in
theorem bytescmp_any {w : World} {b d : Nat} {n m : Nm} (hn : w.rangeAt b 0 (encM n)) (hm : w.rangeAt d 0 (encM m)) : Calls Try.prog 79 #[.slice (some ⟨b, 0, none⟩) 32 32, .slice (some ⟨d, 0, none⟩) 32 32] w (SameP w (.int .i64 (cmpN n m))) := by
  have hr := run_cmp (p := 32) (q := 32) hn hm
  go_enter Try.func79, Try.ntmps79
  go_wp2
  rw [run_callFunc_extern Try.func97 (by kernel_rfl) (by kernel_rfl) (by kernel_rfl) (e := Extern.BytealgCompare.compare) (by kernel_rfl), hr]
  simp only [Result.andThen]
  rw [Oper.upon_value]
  go_wp2
  go_ret
  exact ⟨rfl, rfl⟩
def CmpPost (w : World) (c : Int) (e : Ending) (w' : World) : Prop := e = .returned (.int .i64 c) ∧ Lays w w'
set_option maxHeartbeats 1000000 in
set_option maxRecDepth 100000 in
theorem rootcmp_any (x y : Nm) (w : World) : Calls Try.prog 78 #[encA x, encA y] w (CmpPost w (cmpN x y)) := by
  have hL := ((Lays.refl w).alloc (.cells (encM x).toArray 77)).alloc (.cells (encM y).toArray 77)
  have b0 : ((w.alloc (.cells (encM x).toArray 77)).alloc (.cells (encM y).toArray 77)).heap[w.heap.size]? = some (.cells (encM x).toArray 77 (0, 0)) := (Below.heap_alloc _ _ _ (by simp)).trans (heap_alloc_new w _)
  have b1 : ((w.alloc (.cells (encM x).toArray 77)).alloc (.cells (encM y).toArray 77)).heap[w.heap.size + 1]? = some (.cells (encM y).toArray 77 (0, 0)) := heap_alloc2_new _ _ _
  have r0 := range_of b0
  have r1 := range_of b1
  have h0 : w.heap.size < ((w.alloc (.cells (encM x).toArray 77)).alloc (.cells (encM y).toArray 77)).heap.size := by simp; omega
  have h1 : w.heap.size + 1 < ((w.alloc (.cells (encM x).toArray 77)).alloc (.cells (encM y).toArray 77)).heap.size := by simp
  clear b0 b1
  go_enter Try.func78, Try.ntmps78
  go_wp2_with fail
  generalize (w.alloc (.cells (encM x).toArray 77)).alloc (.cells (encM y).toArray 77) = W at hL r0 r1 h0 h1 ⊢
  have HC : Hid (∀ q, Calls Try.prog 79 #[.slice (some ⟨w.heap.size, 0, none⟩) 32 32, .slice (some ⟨w.heap.size + 1, 0, none⟩) 32 32] (W.drewN q) (SameP (W.drewN q) (.int .i64 (cmpN x y)))) := Lib.hid fun q =>
    bytescmp_any (rangeAt_moves r0 ((Moves.refl (fun _ => False) W).drewN q) h0 (fun h => h)) (rangeAt_moves r1 ((Moves.refl (fun _ => False) W).drewN q) h1 (fun h => h))
  have HL := Lib.hid hL
  clear r0 r1 h0 h1 hL
  go_quiet ((go_at_call 79; exact Calls.quiet_of_same ((HC.out _).mono fun e w' ⟨he, hw⟩ => ⟨he, hw.symm⟩)))
  go_wp2
  go_ret
  exact ⟨rfl, HL.out.drewN _⟩
theorem cmpLaysN (blk off size : Nat) (w : World) : CmpLays Try.prog 78 #[] encM 32 cmpN blk off size w :=
  fun _ _ _ _ x y => (rootcmp_any x y _).mono fun _ _ ⟨he, h⟩ => ⟨he, h⟩
end Go.Proofs.Ytbfnmgjpkieaoaa.Tb
