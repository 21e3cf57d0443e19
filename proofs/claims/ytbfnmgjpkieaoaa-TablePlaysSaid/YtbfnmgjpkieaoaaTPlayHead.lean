/-
  What the switch of TablePlays is handed.
-/
import Derived.Test.YtbfnmgjpkieaoaaTPlayCut
namespace Go.Proofs.Ytbfnmgjpkieaoaa.Tb
open Go Go.RowKit Go.Maps Go.Sort Go.Proofs Go.Shelf

/-- A part of a function's body: the block of a number. -/
def findBlock (n : Nat) : Code → Option Code
  | .block id c => if id = n then some (.block id c) else findBlock n c
  | .seq a b => match findBlock n a with
    | some c => some c
    | none => findBlock n b
  | .loop c => findBlock n c
  | .scope c => findBlock n c
  | .cond _ a b => match findBlock n a with
    | some c => some c
    | none => findBlock n b
  | _ => none
noncomputable def blk (n : Nat) : Code := (Try.f13.body.bind (findBlock n)).getD .skip
theorem load_nmO {w : World} {b o : Nat} {x : Nm} (h : w.rangeAt b o (encM x)) : (Instr.loadAt 77 (.pointer (some ⟨b, o, none⟩))).run Try.prog w = .ok (.agg (encM x).toArray) w :=
  run_loadAt_mid w b o 77 (encM x) _ h undN rfl (sizeM x)
structure SwT (w0 w : World) (p ab : Nat) (M : List (Nm × Int)) (A4 : Option Addr) (q4 : Nat) (n : Nm) (op to : Int) (s : ByteArray) (gb : Bool) (k was : Int) : Prop where
  st : KSt w0 w0.heap.size p M w
  row : w.ownsRow w0.heap.size 100 2 (.slice A4 M.length q4) M.length (cellsR (rowM M))
  good : GoodM M
  blk : w.heap[ab]? = some (.cells (actC ⟨op, n, to⟩).toArray 95 (0, 0))
  gn : goodN n = gb
  str : gb = true → s = txt n
  place : (gb = true ∧ ∃ (i : Nat) (hi : i < M.length), k = i ∧ (M[i]).1 = n ∧ hasN M n = true ∧ was = getZ M n) ∨ (k = -1 ∧ was = 0 ∧ hasN M n = false)
  wf : (Lit.int .i64 to).wf = true
section
variable {w0 w : World} {p ab : Nat} {M : List (Nm × Int)} {A4 : Option Addr} {q4 : Nat} {n : Nm} {op to : Int} {s : ByteArray} {gb : Bool} {k was : Int}
theorem SwT.lt (S : SwT w0 w p ab M A4 q4 n op to s gb k was) : ab < w.heap.size := (Array.getElem?_eq_some_iff.1 S.blk).1
theorem SwT.nm (S : SwT w0 w p ab M A4 q4 n op to s gb k was) : w.rangeAt ab 1 (encM n) := fun j v hv => by
  have h := actC_nm ⟨op, n, to⟩ hv
  simp only [World.cell?, S.blk, Option.isSome_none, Bool.false_eq_true, if_false]
  rw [← Array.getElem?_toList]
  exact h
theorem SwT.to33 (S : SwT w0 w p ab M A4 q4 n op to s gb k was) : w.cell? ⟨ab, 33, none⟩ = some (.int .i64 to) := by
  have h := actC_to ⟨op, n, to⟩
  simp only [World.cell?, S.blk, Option.isSome_none, Bool.false_eq_true, if_false]
  rw [← Array.getElem?_toList]
  exact h
/-- The act's block is none of the table's. -/
theorem SwT.apart (S : SwT w0 w p ab M A4 q4 n op to s gb k was) : ¬ TabOwn w p ab := fun e => by
  obtain ⟨mb, hb, -, hx⟩ := S.st.tab
  rcases e with e | e
  · rw [← e, S.blk] at hb
    injection hb with hb
    injection hb with _ h2
    exact absurd h2 (by decide)
  · rw [hb] at e
    have e : mb = some ab := by simpa using e
    rcases hx with ⟨e2, _⟩ | ⟨m, D, e2, -, hown, _⟩
    · rw [e2] at e; cases e
    · rw [e2] at e; cases e
      obtain ⟨es, ck, hbm, _⟩ := hown
      rw [S.blk] at hbm
      cases hbm
end
end Go.Proofs.Ytbfnmgjpkieaoaa.Tb
