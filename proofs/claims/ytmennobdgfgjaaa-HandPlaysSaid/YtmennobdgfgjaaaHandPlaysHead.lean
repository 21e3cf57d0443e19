/-
  What the switch of HandPlays is handed.
-/
import Derived.Test.YtmennobdgfgjaaaHandPlaysR35
namespace Go.Proofs.Ytmennobdgfgjaaa
open Go Go.RowKit Go.Maps Go.Sort Go.Shelf Go.Proofs

/-- Between two acts: the table is as the row says, and the row is held in a slice of the call's own. -/
def PlayAt (w0 : World) (n : Nat) (s5 s6 s7 : Value) (wr : World) : Prop :=
  ∃ p m R last, s5 = .pointer (some ⟨p, 0, none⟩) ∧ s7 = .int .i64 last ∧ Tab wr p m R last ∧ wr.ownsRow w0.heap.size 44 2 s6 R.length (cellsP R) ∧ R.length ≤ n ∧ last ≤ n ∧ w0.heap.size ≤ p ∧ w0.heap.size ≤ m ∧ Moves (fun _ => False) w0 wr

structure Sw (w0 wa : World) (p m ab : Nat) (R : List Pr) (last op n : Int) (AT : Option Addr) (cT : Nat) (tz : List Int) (A6 : Option Addr) (c6 k : Nat) : Prop where
  tab : Tab wa p m R last
  own : wa.ownsRow w0.heap.size 44 2 (.slice A6 R.length c6) R.length (cellsP R)
  blk : wa.heap[ab]? = some (.cells #[.int .i64 op, .int .i64 n, .slice AT tz.length cT] 42 (0, 0))
  mov : Moves (fun _ => False) w0 wa
  hab : w0.heap.size ≤ ab
  hp : w0.heap.size ≤ p
  hm : w0.heap.size ≤ m
  hR : R.length ≤ k
  hlast : last ≤ k
  hk : k < 100
  row : Row w0 (fun i => i < w0.heap.size) (.slice AT tz.length cT) (tz.map encZ)
  wn : iw n
  wto : ∀ x ∈ tz, iw x
  ht : tz.length ≤ 60

section
variable {w0 wa : World} {p m ab k : Nat} {R : List Pr} {last op n : Int} {AT A6 : Option Addr} {cT c6 : Nat} {tz : List Int}
theorem Sw.c0 (S : Sw w0 wa p m ab R last op n AT cT tz A6 c6 k) : wa.cell? ⟨ab, 0, none⟩ = some (.int .i64 op) := by simp [World.cell?, S.blk]
theorem Sw.c1 (S : Sw w0 wa p m ab R last op n AT cT tz A6 c6 k) : wa.cell? ⟨ab, 1, none⟩ = some (.int .i64 n) := by simp [World.cell?, S.blk]
theorem Sw.c2 (S : Sw w0 wa p m ab R last op n AT cT tz A6 c6 k) : wa.cell? ⟨ab, 2, none⟩ = some (.slice AT tz.length cT) := by simp [World.cell?, S.blk]
theorem Sw.nep (S : Sw w0 wa p m ab R last op n AT cT tz A6 c6 k) : ab ≠ p := fun e => by subst e; have := S.blk; rw [S.tab.blk] at this; cases this
theorem Sw.nem (S : Sw w0 wa p m ab R last op n AT cT tz A6 c6 k) : ab ≠ m := fun e => by subst e; have := S.blk; obtain ⟨es, ck, hbm, _⟩ := S.tab.map; rw [hbm] at this; cases this
theorem Sw.lt (S : Sw w0 wa p m ab R last op n AT cT tz A6 c6 k) : ab < wa.heap.size := (Array.getElem?_eq_some_iff.1 S.blk).1
/-- Behind a call that moved the table alone. -/
theorem Sw.own' (S : Sw w0 wa p m ab R last op n AT cT tz A6 c6 k) {w3 : World} (h : Moves (Own2 p m) wa w3) : w3.ownsRow w0.heap.size 44 2 (.slice A6 R.length c6) R.length (cellsP R) :=
  own_moves S.own h (fun b hb hh => by
    obtain ⟨cur, hcur⟩ := own_block S.own hb
    rcases hh with rfl | rfl
    · rw [S.tab.blk] at hcur; cases hcur
    · obtain ⟨es, ck, hbm, _⟩ := S.tab.map; rw [hbm] at hcur; cases hcur)
theorem Sw.blk' (S : Sw w0 wa p m ab R last op n AT cT tz A6 c6 k) {w3 : World} (h : Moves (Own2 p m) wa w3) : w3.heap[ab]? = some (.cells #[.int .i64 op, .int .i64 n, .slice AT tz.length cT] 42 (0, 0)) :=
  (h.block ab S.lt (fun h => by rcases h with h | h; exact S.nep h; exact S.nem h)).trans S.blk
theorem Sw.mov' (S : Sw w0 wa p m ab R last op n AT cT tz A6 c6 k) {w3 : World} (h : Moves (Own2 p m) wa w3) : Moves (fun _ => False) w0 w3 :=
  S.mov.own h S.hp S.hm
/-- Behind a call that moved the table alone, and left it with another row. -/
theorem Sw.next (S : Sw w0 wa p m ab R last op n AT cT tz A6 c6 k) {w3 : World} (h : Moves (Own2 p m) wa w3) (hT : Tab w3 p m R last) : Sw w0 w3 p m ab R last op n AT cT tz A6 c6 k :=
  ⟨hT, S.own' h, S.blk' h, S.mov' h, S.hab, S.hp, S.hm, S.hR, S.hlast, S.hk, S.row, S.wn, S.wto, S.ht⟩
end
end Go.Proofs.Ytmennobdgfgjaaa

