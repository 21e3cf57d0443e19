/-
  A name's text: table.Fix.
-/
import Derived.Test.YtbfnmgjpkieaoaaTabFix
import Derived.Lib.LazyBuf
namespace Go.Proofs.Ytbfnmgjpkieaoaa.Tb
open Go Go.RowKit Go.Maps Go.Sort Go.Proofs

theorem wpList_copy_str {P : Program} {ops : Array Oper} {rest : List Oper} {o : Oper} {a : Act} {w : World} {Q : Exit → Act → World → Prop} (hgd : o.guard = none) (d x : Operand) (dT sT : TypeId) (hop : o.op = Op.call { callee := Callee.builtin Builtin.copy, args := #[d, x], argTypes := #[dT, sT] })
    (elem : TypeId) (hu : P.underlying dT = some (.slice elem)) (hz : ∀ w, (Go.sizeOf elem).run P w = .ok 1 w) (b off dLen dCap : Nat) (hd : a.eval d = .slice (some ⟨b, off, none⟩) dLen dCap) (t : ByteArray) (hx : a.eval x = .string t) (hle : t.size ≤ dLen)
    (hc : ∀ j, j < t.size → (w.cell? ⟨b, off + j, none⟩).isSome = true) (hf : ∀ j, j < t.size → w.frozen? ⟨b, off + j, none⟩ = false)
    (h : wpList P ops Q rest (a.put o.dst (goInt t.size)) (w.setCells b off (t.data.toList.map fun x => Value.int .u8 (x.toNat : Int)))) : wpList P ops Q (o :: rest) a w :=
  wpList_plain hgd fun _ hK => by
    have hrun := run_copy_string (P := P) w dT sT o.type elem b off dLen dCap t hu hz hle hc hf
    unfold Oper.wp
    simp [execOp, hop, resolve, invoke, builtin, hd, hx, hrun, Result.andThen]
    exact hK _ _ h
theorem sizeB : ∀ w, (Go.sizeOf 5).run Try.prog w = .ok 1 w := fun w => by
  have h : (Try.prog.info? 5).map (·.size) = some 1 := by kernel_rfl
  cases hi : Try.prog.info? 5 with
  | none => rw [hi] at h; cases h
  | some i =>
    rw [hi] at h
    have h1 : i.size = 1 := by simpa using h
    simp [sizeOf, typeInfo, hi, h1]
/-- A text's name. -/
def nameOf (s : ByteArray) : List Int := (s.data.toList.map fun b => (b.toNat : Int)) ++ List.replicate (32 - s.size) 0
theorem nameOf_len {s : ByteArray} (h : s.size ≤ 32) : (nameOf s).length = 32 := by
  have : s.data.toList.length = s.size := rfl
  unfold nameOf
  rw [List.length_append, List.length_map, List.length_replicate]
  omega
set_option maxRecDepth 100000 in
set_option maxHeartbeats 2000000 in
theorem fix_ok {s : ByteArray} (h : 1 ≤ s.size ∧ s.size ≤ 32) (hz : Lib.indexByte s.data.toList 0 < 0) (w : World) : Calls Try.prog 43 #[.string s] w (FixPost w (nameOf s) 0) := by
  have h1 : ¬ (s.size : Int) < 1 := by omega
  have h2 : ¬ (32 : Int) < (s.size : Int) := by omega
  have HC := Lib.hid (has_nul s ((w.alloc (.cells (cellsN (List.replicate 32 0)).toArray 77)).alloc (.cells (cellsN (List.replicate 32 0)).toArray 77)))
  rw [decide_eq_false (by omega)] at HC
  clear hz
  go_enter Try.func43, Try.ntmps43
  go_upto_region 4 with (first
    | (go_at_call 72
       refine HC.out.mono ?_
       rintro e w1 ⟨rfl, rfl⟩)
    | fail)
  clear HC
  have hW : ∃ W, W = (w.alloc (.cells (cellsN (List.replicate 32 0)).toArray 77)).alloc (.cells (cellsN (List.replicate 32 0)).toArray 77) := ⟨_, rfl⟩
  obtain ⟨W, hW⟩ := hW
  have hb0 : W.heap[w.heap.size]? = some (.cells (cellsN (List.replicate 32 0)).toArray 77 (0, 0)) := by rw [hW]; exact (Below.heap_alloc _ _ _ (by simp)).trans (heap_alloc_new w _)
  have hb1 : W.heap[w.heap.size + 1]? = some (.cells (cellsN (List.replicate 32 0)).toArray 77 (0, 0)) := by rw [hW]; exact heap_alloc2_new _ _ _
  have hmW : Moves (fun _ => False) w W := by rw [hW]; exact ((Moves.refl _ w).alloc _).alloc _
  show Code.wp _ _ _ _ ((w.alloc (.cells (cellsN (List.replicate 32 0)).toArray 77)).alloc (.cells (cellsN (List.replicate 32 0)).toArray 77))
  rw [← hW]
  clear hW
  have hth := there_of hb1
  have hto := there_of hb0
  have hsl : (s.data.toList.map fun x => Value.int .u8 (x.toNat : Int)).length = s.size := by rw [List.length_map]; rfl
  have h32 : (cellsN (List.replicate 32 0)).toArray.size = 32 := rfl
  rw [h32] at hth hto
  have hrng : (W.setCells (w.heap.size + 1) 0 (s.data.toList.map fun x => Value.int .u8 (x.toNat : Int))).rangeAt (w.heap.size + 1) 0 (cellsN (nameOf s)) := fun j v hv => by
    have hsp : cellsN (nameOf s) = (s.data.toList.map fun x => Value.int .u8 (x.toNat : Int)) ++ List.replicate (32 - s.size) (Value.int .u8 0) := by
      unfold cellsN nameOf
      rw [List.map_append, List.map_map, List.map_replicate]
      rfl
    have hj : j < 32 := by
      have h1 := (List.getElem?_eq_some_iff.1 hv).1
      unfold cellsN at h1
      rw [List.length_map, nameOf_len h.2] at h1
      exact h1
    rw [hsp, List.getElem?_append, hsl] at hv
    by_cases h3 : j < s.size
    · rw [if_pos h3] at hv
      refine World.rangeAt_setCells_same W (w.heap.size + 1) 0 _ (fun i hi => ?_) j v hv
      rw [hsl] at hi
      exact hth i (by omega)
    · rw [if_neg h3] at hv
      rw [World.cell?_setCells_out _ _ _ _ _ (fun _ _ => .inr (by rw [hsl]; show 0 + s.size ≤ 0 + j; omega))]
      simp only [World.cell?, hb1, Nat.zero_add, Option.isSome_none, Bool.false_eq_true, if_false]
      have hv' : v = Value.int .u8 0 := by
        have := List.mem_of_getElem? hv
        exact List.eq_of_mem_replicate this
      rw [hv', ← Array.getElem?_toList]
      show (cellsN (List.replicate 32 0))[j]? = _
      unfold cellsN
      rw [List.map_replicate, List.getElem?_replicate, if_pos hj]
  have hto2 := World.there_setCells hto (w.heap.size + 1) 0 (s.data.toList.map fun x => Value.int .u8 (x.toNat : Int))
  have hm2 := moves_setCells (S := fun _ => False) (w := w) (b := w.heap.size + 1) (fun h => absurd h (by omega)) (s.data.toList.map fun x => Value.int .u8 (x.toNat : Int)) W 0 hmW
  have hcl : (cellsN (nameOf s)).length = 32 := by unfold cellsN; rw [List.length_map, nameOf_len h.2]
  have hsz : (cellsN (nameOf s)).toArray.size = 32 := by rw [List.size_toArray, hcl]
  have HS2 : Hid ((W.setCells (w.heap.size + 1) 0 (s.data.toList.map fun x => Value.int .u8 (x.toNat : Int))).there w.heap.size 0 (cellsN (nameOf s)).toArray.size ∧ (Try.prog.info? 77).map (·.size) = some (cellsN (nameOf s)).toArray.size) := Lib.hid (by rw [hsz]; exact ⟨hto2, sizeN⟩)
  clear hsz
  have HT := Lib.hid (And.intro hth (And.intro hto2 (And.intro hrng (And.intro hm2 hcl))))
  clear hth hto hto2 hrng hm2 hcl hb0 hb1 hmW
  have HH := Lib.hid h
  clear h
  go_wp2_with (first
    | (refine wpList_copy_str rfl (.tmp 18) (.tmp 19) 29 9 rfl 5 Try.underlying29 sizeB (w.heap.size + 1) 0 32 32 rfl s rfl HH.out.2 (fun j hj => (HT.out.1 j (by have := HH.out.2; omega)).1) (fun j hj => (HT.out.1 j (by have := HH.out.2; omega)).2) ?_)
    | (refine wpList_load_mid rfl 77 (.tmp 4) rfl (w.heap.size + 1) 0 rfl (cellsN (nameOf s)) _ HT.out.2.2.1 undN rfl (by rw [HT.out.2.2.2.2]; exact sizeN) ?_)
    | (refine wpList_store_mid rfl 77 (.tmp 2) (.tmp 21) rfl w.heap.size 0 (cellsN (nameOf s)).toArray rfl rfl HS2.out.1 HS2.out.2 (oneN _) ?_)
    | fail)
  (try simp only [Exit.inBlock, Exit.then])
  refine bodyPost_ret (results_name rfl _ _ w.heap.size (n := nameOf s) (nameOf_len HH.out.2) rfl (World.rangeAt_setCells_same _ _ _ _ (by rw [HT.out.2.2.2.2]; exact HT.out.2.1))) rfl ?_
  exact ⟨rfl, moves_setCells (fun h => absurd h (Nat.lt_irrefl _)) _ _ _ HT.out.2.2.2.1⟩
end Go.Proofs.Ytbfnmgjpkieaoaa.Tb
