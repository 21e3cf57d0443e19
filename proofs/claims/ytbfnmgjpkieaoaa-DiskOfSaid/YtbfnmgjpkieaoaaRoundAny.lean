/-
  A region that draws its order, in a round of a range over a function: from the plain walk of it.
-/
import Derived.Test.YtbfnmgjpkieaoaaAppend
import Derived.Deep.RegionHeld3
import Derived.RangeFuncCalls
import Derived.OrdersIn
import Derived.TacticsIn
namespace Go.Proofs.Ytbfnmgjpkieaoaa.Pl
open Go Go.RowKit Go.Proofs

section
variable {P : Program} {ops : Array Oper} {Q : Exit → Act → World → Prop} {l n : Nat}

theorem rowsIn_round {row : String} {args : Array Value} {w : World} {R : Value → World → Prop} (h : Rows P row args w R) : RowsIn (Fence.wide.inRound l) n P row args w R :=
  fun c cs _ => let ⟨v, w', r, s⟩ := h c cs; ⟨v, w', r, stepsIn_wide.2 s⟩
theorem callsIn_round {f : FuncId} {args : Array Value} {w : World} {R : Ending → World → Prop} (h : Calls P f args w R) : CallsIn (Fence.wide.inRound l) n P f args w R := CallsIn.inRound l (callsIn_wide.2 h)

theorem operIn_round {o : Oper} {a : Act} {w : World} {K K' : Act → World → Prop} (hd : ∀ c, o.op ≠ .defer c) (hK : ∀ a w, K a w → K' a w) (h : o.wp P a w K Q) : o.wpIn (Fence.wide.inRound l) n P a w K' Q := by
  refine ⟨fun _ _ => trivial, ?_⟩
  rw [Oper.semAt_eq _ _ _ hd]
  unfold Oper.wp at h
  generalize (execOp a.eval o).run P w = r at h ⊢
  have hdp : (Fence.wide.inRound l).depth.isSome = true → 1 ≤ n := fun h => by cases h
  cases r with
  | ok x w' =>
    cases x with
    | value v => exact hK _ _ h
    | skip => exact hK _ _ h
    | defer d => exact hK _ _ h
    | enter f args => exact ⟨hdp, (callsIn_round h).mono (fun e w'' he => by cases e <;> first | exact hK _ _ he | exact he)⟩
    | row rw args => exact ⟨hdp, (rowsIn_round h).mono (fun v w'' he => hK _ _ he)⟩
    | _ => exact h.elim
  | halt x w' =>
    cases x with
    | panic v => exact h
    | _ => exact h.elim

theorem anyIn_round {md : Region.Mode} (hd : ∀ (i : Nat) (o : Oper), ops[i]? = some o → ∀ c, o.op ≠ Op.defer c) (hQ : ¬ LetsOut Q) : ∀ (fuel : Nat) (listed : Array Bool) (a : Act) (w : World), wpAny P md ops Q fuel listed a w → wpAnyIn (Fence.wide.inRound l) n P md ops Q fuel listed a w
  | 0, _, _, _, h => h
  | fuel + 1, listed, a, w, h => by
    refine ⟨h.1, fun i hi => ?_⟩
    have h1 := h.2 i hi
    unfold wpOp at h1
    unfold wpOpIn
    cases ho : ops[i]? with
    | none => rw [ho] at h1; exact anyIn_round hd hQ fuel _ _ _ h1
    | some o =>
      rw [ho] at h1
      dsimp only at h1 ⊢
      by_cases hw : Region.wanted o (yielded ops a.tmps) = true
      · rw [if_pos hw] at h1 ⊢
        rcases h1 with h1 | h1
        · exact operIn_round (hd i o ho) (fun a w hk => anyIn_round hd hQ fuel _ _ _ hk) h1
        · exact absurd h1.2 hQ
      · rw [if_neg hw] at h1 ⊢
        exact ⟨fun _ _ => trivial, anyIn_round hd hQ fuel _ _ _ h1⟩

theorem step_append_run {o : Oper} {a : Act} {w w' : World} {v u v' : Value} {K : Act → World → Prop} {E : Prop} (hgd : o.guard = none) (s x : Operand) (t : TypeId) (ho : o.op = .call { callee := .builtin .append, args := #[s, x], argTypes := #[t, t] })
    (hv : a.eval s = v) (hx : a.eval x = u) (hr : (Builtin.append_ #[t, t] o.type #[v, u]).run P w = .ok v' w') (h : K (a.put o.dst v') w') :
    if Region.wanted o (yielded ops a.tmps) = true then Oper.wp P o a w K Q else E := by
  have hw : Region.wanted o (yielded ops a.tmps) = true := by simp [Region.wanted, hgd]
  rw [if_pos hw]
  unfold Oper.wp execOp
  simp only [ho, resolve, invoke, builtin, Sem.run_bind, Sem.run_pure, Result.andThen_ok, List.map_toArray, List.map_cons, List.map_nil, hv, hx, hr]
  exact h

def noDefer (o : Oper) : Bool := match o.op with | .defer _ => false | _ => true
theorem noDefer_all (h : ops.toList.all noDefer = true) : ∀ (i : Nat) (o : Oper), ops[i]? = some o → ∀ c, o.op ≠ .defer c := fun i o hi c e => by
  have h1 := List.all_eq_true.1 h o (by
    rw [← Array.getElem?_toList] at hi
    exact List.mem_of_getElem? hi)
  unfold noDefer at h1
  rw [e] at h1
  cases h1

/-- The region, its post a normal end alone, held to S. -/
theorem region_round {S : World → Prop} {id : Nat} {a : Act} {w : World} (hm : P.follows .mixedOrders = true) (hd : ops.toList.all noDefer = true) (hS : S w.drew)
    (h : S w.drew → wpAnyH P .any ops (fun e a w => e = .normal ∧ Q .normal a w) S ops.size (Array.replicate ops.size false) a w.drew) : (Code.region id ops true).wpIn (Fence.wide.inRound l) n P Q a w := by
  refine wpIn_mono (Q := fun e a w => e = .normal ∧ Q .normal a w) ?_ (fun e a w he => by rcases he with ⟨rfl, he⟩; exact he)
  exact wpIn_region_any hm (anyIn_round (noDefer_all hd) (fun h => by obtain ⟨_, _, e, _⟩ := h; cases e) _ _ _ _ (wpAny_of_held _ _ _ _ (h hS)))
end
end Go.Proofs.Ytbfnmgjpkieaoaa.Pl
