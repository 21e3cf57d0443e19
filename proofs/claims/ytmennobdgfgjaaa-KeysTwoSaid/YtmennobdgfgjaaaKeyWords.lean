/-
  The document's word on two keys; a key as a word and back; whether a key is short.
-/
import Derived.Test.YtmennobdgfgjaaaKeyFuncs
import Derived.Laws.BitsLemmas
import Derived.Laws.Rows
namespace Go.Proofs.Ytmennobdgfgjaaa
open Go Go.RowKit Go.Maps Go.Sort

set_option maxRecDepth 100000 in
set_option maxHeartbeats 2000000 in
theorem refcmp_any {p q : Pr} {c : Int} (hc : cmpK p q = c) (w : World) : Calls Try.prog 26 #[encK p, encK q] w (CmpPost w c) := by
  obtain ⟨p1, p2⟩ := p
  obtain ⟨q1, q2⟩ := q
  have hc' : (if cmpI p1 q1 = 0 then cmpI p2 q2 else cmpI p1 q1) = c := hc
  clear hc
  rcases Int.lt_trichotomy p1 q1 with h | h | h
  · rw [cmpI_lt h, if_neg (by omega)] at hc'
    subst hc'
    go_enter Try.func26, Try.ntmps26
    go_wp2
    go_ret
    exact ⟨rfl, ((Lays.refl w).alloc _).alloc _⟩
  · subst h
    rw [cmpI_eq, if_pos rfl] at hc'
    rcases Int.lt_trichotomy p2 q2 with h | h | h
    · rw [cmpI_lt h] at hc'
      subst hc'
      go_enter Try.func26, Try.ntmps26
      go_wp2
      go_ret
      exact ⟨rfl, ((Lays.refl w).alloc _).alloc _⟩
    · subst h
      rw [cmpI_eq] at hc'
      subst hc'
      go_enter Try.func26, Try.ntmps26
      go_wp2
      go_ret
      exact ⟨rfl, ((Lays.refl w).alloc _).alloc _⟩
    · rw [cmpI_gt h] at hc'
      subst hc'
      have h1 : (p2 == q2) = false := by simp; omega
      have h2 : ¬ p2 < q2 := by omega
      go_enter Try.func26, Try.ntmps26
      go_wp2
      go_ret
      exact ⟨rfl, ((Lays.refl w).alloc _).alloc _⟩
  · rw [cmpI_gt h, if_neg (by omega)] at hc'
    subst hc'
    have h1 : (p1 == q1) = false := by simp; omega
    have h2 : ¬ p1 < q1 := by omega
    go_enter Try.func26, Try.ntmps26
    go_wp2
    go_ret
    exact ⟨rfl, ((Lays.refl w).alloc _).alloc _⟩

def ValPost (w : World) (v : Value) (e : Ending) (w' : World) : Prop := e = .returned v ∧ Moves (fun _ => False) w w'

set_option maxHeartbeats 1000000 in
theorem of_any (p : Pr) (w : World) : Calls Try.prog 27 #[encK p] w (ValPost w (encK p)) := by
  obtain ⟨p1, p2⟩ := p
  go_enter Try.func27, Try.ntmps27
  go_wp2
  have hb := heap_alloc2_new w (.cells #[.int .i64 p1, .int .i64 p2] 49) (.cells #[.int .i64 p1, .int .i64 p2] 52)
  refine bodyPost_ret (results_cell_row rfl _ _ (w.heap.size + 1) _ _ _ _ rfl hb Try.underlying52 rfl (by kernel_rfl)) rfl ?_
  exact ⟨rfl, ((Moves.refl _ w).alloc _).alloc _⟩

def packZ (p : Pr) : Int := p.1 % 4294967296 * 4294967296 + p.2 % 4294967296

theorem or_word {a b : Int} (ha : 0 ≤ a) (ha' : a < 4294967296) (hb : 0 ≤ b) (hb' : b < 4294967296) : bits BinOp.or IntKind.u64 (a * 4294967296) b = a * 4294967296 + b := by
  refine bits_join .u64 64 (by decide) (fun n h0 h1 => IntWalk.u64_in _ (by omega)) 32 _ _ (by omega) (by simp) (by simp; omega) hb (by simp; omega) (by simp; omega)

set_option maxHeartbeats 1000000 in
theorem pack_any {p : Pr} {z : Int} (hz : packZ p = z) (w : World) : Calls Try.prog 29 #[encK p] w (ValPost w (.int .u64 z)) := by
  obtain ⟨p1, p2⟩ := p
  have hz' : bits BinOp.or IntKind.u64 (p1 % 4294967296 * 4294967296) (p2 % 4294967296) = z := by
    rw [or_word (by omega) (by omega) (by omega) (by omega)]
    exact hz
  clear hz
  go_enter Try.func29, Try.ntmps29
  go_wp2
  go_ret
  exact ⟨by rw [← hz']; rfl, (Moves.refl _ w).alloc _⟩

def w32 (x : Int) : Int := (x + 2147483648) % 4294967296 - 2147483648
def unpackZ (x : Int) : Pr := (w32 (x / 4294967296), w32 x)

theorem w32_in (x : Int) : -2147483648 ≤ w32 x ∧ w32 x < 2147483648 := by unfold w32; omega
theorem w32_eq (x : Int) : wrap64 (wrap32 x) = w32 x := by
  have := w32_in x
  rw [show wrap32 x = w32 x by unfold wrap32 w32; rfl]
  exact IntWalk.wrap64_in _ (by omega)

set_option maxHeartbeats 1000000 in
theorem unpack_any {x : Int} {p : Pr} (hp : unpackZ x = p) (w : World) : Calls Try.prog 28 #[.int .u64 x] w (ValPost w (encK p)) := by
  subst hp
  go_enter Try.func28, Try.ntmps28
  go_wp2
  have hb := heap_alloc_new w (.cells #[.int .i64 (wrap64 (wrap32 (x / 4294967296))), .int .i64 (wrap64 (wrap32 x))] 49)
  refine bodyPost_ret (results_cell_row rfl _ _ w.heap.size _ _ _ _ rfl hb Try.underlying49 rfl (by kernel_rfl)) rfl ?_
  exact ⟨by rw [w32_eq, w32_eq]; rfl, (Moves.refl _ w).alloc _⟩

def shortK (p : Pr) : Bool := decide (-2147483648 ≤ p.1 ∧ p.1 < 2147483648 ∧ -2147483648 ≤ p.2 ∧ p.2 < 2147483648)

set_option maxHeartbeats 2000000 in
theorem short_any {p : Pr} {b : Bool} (hb : shortK p = b) (w : World) : Calls Try.prog 30 #[encK p] w (ValPost w (.bool b)) := by
  obtain ⟨p1, p2⟩ := p
  subst hb
  by_cases h1 : -2147483648 ≤ p1
  · by_cases h2 : p1 < 2147483648
    · by_cases h3 : -2147483648 ≤ p2
      · by_cases h4 : p2 < 2147483648
        · rw [show shortK (p1, p2) = true by unfold shortK; simp; omega]
          go_enter Try.func30, Try.ntmps30
          go_wp2
          go_ret
          exact ⟨rfl, (Moves.refl _ w).alloc _⟩
        · rw [show shortK (p1, p2) = false by unfold shortK; simp; omega]
          go_enter Try.func30, Try.ntmps30
          go_wp2
          go_ret
          exact ⟨rfl, (Moves.refl _ w).alloc _⟩
      · rw [show shortK (p1, p2) = false by unfold shortK; simp; omega]
        go_enter Try.func30, Try.ntmps30
        go_wp2
        go_ret
        exact ⟨rfl, (Moves.refl _ w).alloc _⟩
    · rw [show shortK (p1, p2) = false by unfold shortK; simp; omega]
      go_enter Try.func30, Try.ntmps30
      go_wp2
      go_ret
      exact ⟨rfl, (Moves.refl _ w).alloc _⟩
  · rw [show shortK (p1, p2) = false by unfold shortK; simp; omega]
    go_enter Try.func30, Try.ntmps30
    go_wp2
    go_ret
    exact ⟨rfl, (Moves.refl _ w).alloc _⟩
end Go.Proofs.Ytmennobdgfgjaaa
