/-
  A drawn region under a held S, of which some operations' guards are not met: those are passed over first; what only reads is taken next; calls go by the prover's arms.
-/
import Derived.Deep.RegionHeld3
import Derived.BigQuiet
namespace Go.Proofs.Ytmennobdgfgjaaa
open Go Lean Elab Tactic Meta

partial def regW (keep tac : TSyntax `tactic) : TacticM Unit := withMainContext do
  let t := (← instantiateMVars (← getMainTarget)).consumeMData
  unless t.isAppOfArity ``wpAnyH 9 do throwError "reg_w: the goal is no 'wpAnyH':\n{t}"
  let args := t.getAppArgs
  let md := args[1]!
  let ops := args[2]!
  let listed := args[6]!
  let ready ← kernelNats (mkApp3 (mkConst ``Region.ready) md ops listed)
  if ready.isEmpty then
    evalTactic (← `(tactic| refine wpAnyH_done (by kernel_rfl) ?_ _))
    return
  let lay : TacticM Unit := do evalTactic (← `(tactic| try simp only [Act.put, List.setIfInBounds_toArray, List.set_cons_zero, List.set_cons_succ]))
  -- (1) an operation that is not wanted
  for i in ready do
    let s ← saveState
    let took ← try
      let some oe := opAt ops i | throwError "no op"
      let oStx ← Term.exprToSyntax oe
      let tm ← mkAppM ``Act.tmps #[args[7]!]
      let wnt ← mkAppM ``Region.wanted #[oe, ← mkAppM ``yielded #[ops, tm]]
      unless (← whnfD wnt).isConstOf ``Bool.false do throwError "wanted"
      Term.withoutErrToSorry (withoutRecover (evalTactic (← `(tactic| refine wpAnyH_take (i := $(quote i)) (oi := $oStx) (v := undef) rfl (by kernel_rfl) (by kernel_rfl) (by kernel_rfl) (fun _ _ _ h => h) (Or.inr ⟨by kernel_rfl, rfl⟩) (by assumption) ?_))))
      lay
      pure true
    catch _ => s.restore; pure false
    if took then
      regW keep tac
      return
  -- (2) what only reads
  for i in ready do
    if opHead ops i != some ``Op.call && opHead ops i != some ``Op.store && opHead ops i != some ``Op.alloc then
      let s ← saveState
      let took ← try
        let some oe := opAt ops i | throwError "no op"
        let oStx ← Term.exprToSyntax oe
        withoutRecover (evalTactic (← `(tactic| refine wpAnyH_take (i := $(quote i)) (oi := $oStx) (v := ?_) rfl (by kernel_rfl) (by kernel_rfl) (by kernel_rfl) (fun _ _ _ h => h) (Or.inl ⟨by rfl, ?_⟩) (by assumption) ?_)))
        let gs ← getGoals
        let [_, hy, rest] := gs | throwError "three goals expected"
        setGoals [hy]
        evalTactic (← `(tactic| (intro w hSw; (try dsimp only at hSw); go_simp)))
        unless (← getGoals).isEmpty do evalTactic (← `(tactic| with_reducible rfl))
        unless (← getGoals).isEmpty do throwError "not closed"
        setGoals [rest]
        lay
        pure true
      catch _ => s.restore; pure false
      if took then
        regW keep tac
        return
  -- (3) branch over all that may come up
  let lits : Array (TSyntax `term) := ready.toArray.map fun i => quote i
  evalTactic (← `(tactic| refine wpAnyH_ready (rs := [$lits,*]) (by kernel_rfl) (by simp) ?_))
  let mut done : List MVarId := []
  for i in ready do
    let some oe := opAt ops i | throwError "no op"
    let oStx ← Term.exprToSyntax oe
    evalTactic (← `(tactic| refine AllReadyH.cons (o := $oStx) rfl (fun K hK => ?_) ?_))
    let [step, more] ← getGoals | throwError "two goals expected"
    setGoals [step]
    evalTactic (← `(tactic| go_simp))
    unless (← instantiateMVars (← getMainTarget)).consumeMData.getAppFn.isFVar do
      if (← instantiateMVars (← getMainTarget)).consumeMData.isAppOf ``Calls then
        evalTactic tac
        unless (← instantiateMVars (← getMainTarget)).consumeMData.getAppFn.isFVar do evalTactic (← `(tactic| go_wp2_with fail))
      else
        evalTactic (← `(tactic| go_wp2_with ($tac:tactic)))
    unless (← getGoals).length == 1 do throwError "reg_w: operation {i}: {(← getGoals).length} goals"
    evalTactic (← `(tactic| refine hK.out _ _ ?_ (fun hHeld => ?_)))
    let [hS, rest] ← getGoals | throwError "two goals expected behind the step"
    setGoals [hS]
    evalTactic (← `(tactic| try dsimp only))
    unless (← getUnsolvedGoals).isEmpty do evalTactic keep
    setGoals [rest]
    evalTactic (← `(tactic| clear hK K))
    lay
    clearOldHeld
    regW keep tac
    done := done ++ (← getGoals)
    setGoals [more]
  evalTactic (← `(tactic| exact AllReadyH.nil))
  setGoals done

elab "reg_w " S:term:max ppSpace "(" keep:tactic ")" ppSpace "(" tac:tactic ")" : tactic => withMainContext do
  evalTactic (← `(tactic| refine wp_region_held_drew (S := $S) (by kernel_rfl) ?_ (fun hHeld => ?_)))
  let [hS, rest] ← getGoals | throwError "reg_w: two goals expected"
  setGoals [hS]
  evalTactic (← `(tactic| try dsimp only))
  unless (← getUnsolvedGoals).isEmpty do evalTactic keep
  setGoals [rest]
  evalTactic (← `(tactic| try simp only [List.size_toArray, List.length_cons, List.length_nil, Nat.reduceAdd]))
  regW keep tac
end Go.Proofs.Ytmennobdgfgjaaa
