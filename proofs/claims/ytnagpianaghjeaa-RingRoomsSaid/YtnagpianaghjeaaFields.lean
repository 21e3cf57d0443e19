/-
  sup: fields, Slot, Newer.
-/
import Derived.Test.YtnagpianaghjeaaGeom
namespace Go.Proofs.Ytnagpianaghjeaa.Sl
open Go Go.RowKit Go.Proofs

theorem alloc_at {w : World} {o : Obj} {k : Nat} (hk : k = w.heap.size) : (w.alloc o).heap[k]? = some o := by subst hk; exact heap_alloc_new w o
abbrev blkCells (b : Blk) : Array Value := #[.int .u64 b.epoch, .int .i64 b.geom.sector, .int .i64 b.geom.log, .int .i64 b.geom.words, .int .i64 b.space, .int .i64 b.words, .int .u64 b.log]
abbrev blkV (b : Blk) : Value := .agg (blkCells b)
abbrev fld (p n : Nat) (x : Int) : List Value := [.int .i64 p, .int .i64 n, .int .u64 x]
def fieldCells (b : Blk) : List Value := fld 4 4 1 ++ (fld 8 8 b.epoch ++ (fld 16 4 b.geom.sector ++ (fld 20 4 b.geom.log ++ (fld 24 4 b.geom.words ++ (fld 28 4 b.space ++ (fld 32 4 b.words ++ fld 36 8 b.log))))))
def FieldsPost (w : World) (b : Blk) (e : Ending) (w' : World) : Prop := ∃ k, e = .returned (.slice (some ⟨k, 0, none⟩) 8 8) ∧ w.heap.size ≤ k ∧ w'.heap[k]? = some (.cells (fieldCells b).toArray 142 (0, 0)) ∧ Moves (fun _ => False) w w'
theorem fieldCells_eq (b : Blk) : (fieldCells b).toArray = #[.int .i64 4, .int .i64 4, .int .u64 1, .int .i64 8, .int .i64 8, .int .u64 b.epoch, .int .i64 16, .int .i64 4, .int .u64 b.geom.sector, .int .i64 20, .int .i64 4, .int .u64 b.geom.log, .int .i64 24, .int .i64 4, .int .u64 b.geom.words, .int .i64 28, .int .i64 4, .int .u64 b.space, .int .i64 32, .int .i64 4, .int .u64 b.words, .int .i64 36, .int .i64 8, .int .u64 b.log] := rfl
set_option maxRecDepth 100000 in
set_option maxHeartbeats 4000000 in
theorem fields_ok {b : Blk} (hg : NearG b.geom) (hs : 0 ≤ b.space ∧ b.space ≤ 1) (hw : 0 ≤ b.words ∧ b.words ≤ 8192) (w : World) : Calls Try.prog 97 #[blkV b] w (FieldsPost w b) := by
  have HE := Lib.hid (fieldCells_eq b)
  obtain ⟨ep, ⟨s, l, n⟩, sp, wd, lg⟩ := b
  obtain ⟨⟨a1, a2⟩, ⟨a3, a4⟩, a5, a6⟩ := hg
  dsimp only at hs hw a1 a2 a3 a4 a5 a6 HE
  obtain ⟨s1, s2⟩ := hs
  obtain ⟨w1, w2⟩ := hw
  have a0 : 0 ≤ s := by omega
  generalize fieldCells ⟨ep, ⟨s, l, n⟩, sp, wd, lg⟩ = F at HE
  have HF : Hid (∀ k e w', e = .returned (.slice (some ⟨k, 0, none⟩) 8 8) → w.heap.size ≤ k → w'.heap[k]? = some (.cells F.toArray 142 (0, 0)) → Moves (fun _ => False) w w' → FieldsPost w ⟨ep, ⟨s, l, n⟩, sp, wd, lg⟩ e w') := Lib.hid fun k e w' he hk hc hm => ⟨k, he, hk, by rw [hc, HE.out]; rfl, hm⟩
  generalize FieldsPost w ⟨ep, ⟨s, l, n⟩, sp, wd, lg⟩ = Q at HF ⊢
  go_enter Try.func97, Try.ntmps97
  go_wp2
  exact HF.out _ _ _ rfl (by simp) (by rw [HE.out]; exact alloc_at (by simp)) (((Moves.refl _ w).alloc _).alloc _)
theorem and_one {e : Int} (h0 : 0 ≤ e) (h1 : e < 18446744073709551616) : wrap64 (bits .and .u64 e 1) = e % 2 := by
  obtain ⟨n, rfl⟩ := Int.eq_ofNat_of_zero_le h0
  have e1 : bits .and .u64 (n : Int) 1 = ((n % 2 : Nat) : Int) := by
    show IntKind.u64.wrap ((BitVec.ofInt 64 (n : Int) &&& BitVec.ofInt 64 ((1 : Nat) : Int)).toNat : Int) = _
    rw [BitVec.ofInt_natCast, BitVec.ofInt_natCast, BitVec.toNat_and, BitVec.toNat_ofNat, BitVec.toNat_ofNat, Nat.mod_eq_of_lt (by omega), show (1 % 2 ^ 64 : Nat) = 1 from rfl, Nat.and_one_is_mod]
    exact IntWalk.u64_in _ (by omega)
  rw [e1, w64 (by omega) (by omega)]
  omega
set_option maxHeartbeats 2000000 in
theorem slot_any (e : Int) (h0 : 0 ≤ e) (h1 : e < 18446744073709551616) (w : World) : Calls Try.prog 17 #[.int .u64 e] w (SameV w (.int .i64 (e % 2))) := by
  go_enter Try.func17, Try.ntmps17
  go_wp2
  go_ret
  exact ⟨congrArg (fun x => Ending.returned (.int .i64 x)) (and_one h0 h1), rfl⟩
set_option maxHeartbeats 2000000 in
theorem newer_any (a b : Blk) (w : World) : Calls Try.prog 60 #[blkV a, blkV b] w (MovV w (.bool (decide (b.epoch < a.epoch)))) := by
  obtain ⟨ep, ⟨s, l, n⟩, sp, wd, lg⟩ := a
  obtain ⟨ep', ⟨s', l', n'⟩, sp', wd', lg'⟩ := b
  go_enter Try.func60, Try.ntmps60
  go_wp2
  go_ret
  exact ⟨rfl, ((Moves.refl _ w).alloc _).alloc _⟩
end Go.Proofs.Ytnagpianaghjeaa.Sl
