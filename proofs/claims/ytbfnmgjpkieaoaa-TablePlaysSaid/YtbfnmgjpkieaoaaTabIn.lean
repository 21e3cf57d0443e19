/-
  A row of 32 cells by value, in a walk with a fence: its load, its store into a block that was made last.
-/
import Derived.Test.YtbfnmgjpkieaoaaTabBind
import Derived.OwnWalkIn
import Derived.Great.BuildSlice
namespace Go.Proofs.Ytbfnmgjpkieaoaa.Tb
open Go Go.RowKit Go.Maps Go.Sort Go.Proofs

theorem wpListIn_load_eq {F : Fence} {n : Nat} {P : Program} {w : World} {ops : Array Oper} {rest : List Oper} {o : Oper} {a : Act} {Q : Exit → Act → World → Prop} (hg : o.guard = none) (ty : TypeId) (x : Operand) (ho : o.op = .load ty x)
    (p v : Value) (hx : a.eval x = p) (hr : (Instr.loadAt ty p).run P w = .ok v w) (h : wpListIn F n P ops Q rest (a.put o.dst v) w) : wpListIn F n P ops Q (o :: rest) a w := by
  refine wpListIn_plain hg fun K hK => ?_
  unfold Oper.wpIn
  refine ⟨by simp [Oper.about, ho], ?_⟩
  rw [Oper.semAt_plain F _ _ (by rw [ho]; intro c hc'; cases hc')]
  have e : (execOp a.eval o).run P w = .ok (.value v) w := by
    unfold execOp
    simp only [ho, hx, Sem.run_bind, hr, Result.andThen_ok, Sem.run_pure]
  rw [e]
  exact hK _ _ h
theorem wpListIn_store_eq {F : Fence} {n : Nat} {P : Program} {w : World} {ops : Array Oper} {rest : List Oper} {o : Oper} {a : Act} {Q : Exit → Act → World → Prop} (hg : o.guard = none) (ty : TypeId) (x y : Operand) (ho : o.op = .store ty x y)
    (p v : Value) (hx : a.eval x = p) (hy : a.eval y = v) (w' : World) (hr : (Instr.storeAt ty p v).run P w = .ok () w') (h : wpListIn F n P ops Q rest (a.put o.dst undef) w') : wpListIn F n P ops Q (o :: rest) a w := by
  refine wpListIn_plain hg fun K hK => ?_
  unfold Oper.wpIn
  refine ⟨by simp [Oper.about, ho], ?_⟩
  rw [Oper.semAt_plain F _ _ (by rw [ho]; intro c hc'; cases hc')]
  have e : (execOp a.eval o).run P w = .ok .skip w' := by
    unfold execOp
    simp only [ho, hx, hy, Sem.run_bind, hr, Result.andThen_ok, Sem.run_pure]
  rw [e]
  exact hK _ _ h
theorem wpList_store_eq {P : Program} {w : World} {ops : Array Oper} {rest : List Oper} {o : Oper} {a : Act} {Q : Exit → Act → World → Prop} (hg : o.guard = none) (ty : TypeId) (x y : Operand) (ho : o.op = .store ty x y)
    (p v : Value) (hx : a.eval x = p) (hy : a.eval y = v) (w' : World) (hr : (Instr.storeAt ty p v).run P w = .ok () w') (h : wpList P ops Q rest (a.put o.dst undef) w') : wpList P ops Q (o :: rest) a w := by
  refine wpList_plain hg fun K hK => ?_
  unfold Oper.wp execOp
  simp only [ho, hx, hy, Sem.run_bind, hr, Result.andThen_ok, Sem.run_pure]
  exact hK _ _ h
theorem store_new32 (w : World) (c : Array Value) (hc : c.size = 32) (x : Nm) : (Instr.storeAt 77 (.pointer (some ⟨w.heap.size, 0, none⟩)) (.agg (encM x).toArray)).run Try.prog (w.alloc (.cells c 77)) = .ok () (w.alloc (.cells (encM x).toArray 77)) :=
  run_storeAt_new w 77 c _ (sizeMa x) (by rw [hc, List.size_toArray, encM_len]) (oneMa x)
theorem load_new32 (w : World) (x : Nm) : (Instr.loadAt 77 (.pointer (some ⟨w.heap.size, 0, none⟩))).run Try.prog (w.alloc (.cells (encM x).toArray 77)) = .ok (.agg (encM x).toArray) (w.alloc (.cells (encM x).toArray 77)) :=
  run_loadAt_new w 77 _ 32 5 Try.underlying77 (sizeMa x)
/-- A slice literal of one name. -/
theorem build_name (w : World) (x : Nm) : (Instr.buildSlice 139 1 #[(0, .agg (encM x).toArray)]).run Try.prog w = .ok (.slice (some ⟨w.heap.size, 0, none⟩) 1 1) (w.alloc (.cells (encM x).toArray 77)) := by
  have hI : (Try.prog.info? 77).map (fun i => (i.zero, i.size)) = some (some (.agg (cellsN (List.replicate 32 0)).toArray), 32) := by kernel_rfl
  cases hie : Try.prog.info? 77 with
  | none => rw [hie] at hI; cases hI
  | some ie =>
    rw [hie] at hI
    simp only [Option.map_some, Option.some.injEq, Prod.mk.injEq] at hI
    refine run_buildSlice w 139 77 1 _ _ ie _ Try.underlying139 hie hI.1 (by rw [hI.2]; decide) (by rw [hI.2]; decide) ?_
    rw [hI.2]
    have hc : ((Array.range (1 * 32)).map ((Value.agg (cellsN (List.replicate 32 0)).toArray).cells[· % (Value.agg (cellsN (List.replicate 32 0)).toArray).cells.size]!)).size = 32 := by simp
    have := Great.fill_whole (s := 32) (by decide) [.agg (encM x).toArray] _ (fun v hv => by
      rw [List.mem_singleton] at hv
      subst hv
      show (encM x).toArray.size = 32
      rw [List.size_toArray, encM_len]) (by rw [hc]; rfl)
    have e : ([Value.agg (encM x).toArray].flatMap fun v => v.cells.toList) = encM x := by rw [List.flatMap_cons, List.flatMap_nil, List.append_nil]; rfl
    exact this.trans (congrArg (fun l => some (List.toArray l)) e)
theorem wpListIn_build_eq {F : Fence} {n : Nat} {P : Program} {w : World} {ops : Array Oper} {rest : List Oper} {o : Oper} {a : Act} {Q : Exit → Act → World → Prop} (hg : o.guard = none) (ty : TypeId) (len : Nat) (x : Operand) (ho : o.op = .buildSlice ty len #[(0, x)])
    (u : Value) (hv : a.eval x = u) (v : Value) (w' : World) (hr : (Instr.buildSlice ty len #[(0, u)]).run P w = .ok v w') (h : wpListIn F n P ops Q rest (a.put o.dst v) w') : wpListIn F n P ops Q (o :: rest) a w := by
  refine wpListIn_plain hg fun K hK => ?_
  unfold Oper.wpIn
  refine ⟨by simp [Oper.about, ho], ?_⟩
  rw [Oper.semAt_plain F _ _ (by rw [ho]; intro c hc'; cases hc')]
  have e : (execOp a.eval o).run P w = .ok (.value v) w' := by
    unfold execOp
    rw [ho]
    have e2 : (#[(0, x)] : Array (Nat × Operand)).map (fun (i, x) => (i, a.eval x)) = #[(0, u)] := by simp [hv]
    simp only [e2, Sem.run_bind, hr, Result.andThen_ok, Sem.run_pure]
  rw [e]
  exact hK _ _ h
abbrev encA (x : Nm) : Value := .agg (encM x).toArray
end Go.Proofs.Ytbfnmgjpkieaoaa.Tb
