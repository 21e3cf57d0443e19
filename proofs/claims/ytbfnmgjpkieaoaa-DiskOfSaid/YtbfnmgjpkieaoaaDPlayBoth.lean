/-
  One act on a disk and on the statement's own disk: they answer alike.
-/
import Derived.Test.YtbfnmgjpkieaoaaDPlayArgs
namespace Go.Proofs.Ytbfnmgjpkieaoaa.Pl
open Go Go.RowKit Go.Maps Go.Sort Go.Proofs

/-- A state as it may be behind k acts, of n sectors of z bytes. -/
structure Fit (S : DS) (n z k : Nat) : Prop where
  size : S.size = z
  kept : S.kept.length = n
  secs : S.secs.length ≤ k
  writes : 0 ≤ S.writes ∧ S.writes ≤ k
  keep : S.keep.length ≤ 300
  left : S.armed = true → 1 ≤ S.left ∧ S.left ≤ 9223372036854775807
  zr : 64 ≤ z ∧ z ≤ 256
  nr : 1 ≤ n ∧ n ≤ 64
theorem Fit.next {S : DS} {n z k : Nat} (f : Fit S n z k) : Fit S n z (k + 1) := ⟨f.size, f.kept, Nat.le_succ_of_le f.secs, ⟨f.writes.1, by have := f.writes.2; omega⟩, f.keep, f.left, f.zr, f.nr⟩
theorem Fit.cut {S : DS} {n z k : Nat} (f : Fit S n z k) (bs : List Bool) : Fit (cutS S bs) n z (k + 1) := ⟨f.size, (putN_len _ _ _ _ _).trans f.kept, Nat.zero_le _, ⟨f.writes.1, by have := f.writes.2; show S.writes ≤ _; omega⟩, by simp [cutS, settleS], (fun h => by cases h), f.zr, f.nr⟩
theorem Fit.put {S : DS} {n z k : Nat} (f : Fit S n z k) (i : Int) (bs : List Int) : Fit (putS S i bs) n z (k + 1) := ⟨f.size, f.kept, by have := f.secs; simp [putS, pendS]; omega, ⟨by have := f.writes.1; show 0 ≤ S.writes + 1; omega, by have := f.writes.2; show S.writes + 1 ≤ _; omega⟩, f.keep, f.left, f.zr, f.nr⟩

theorem Fit.arm {S : DS} {n z k : Nat} (f : Fit S n z k) {num : Int} (hw : (Lit.int .i64 num).wf = true) {bs : List Bool} (hl : bs.length ≤ 300) : Fit (armS S num bs) n z (k + 1) := by
  have h := hw
  simp [Lit.wf, IntKind.min, IntKind.max, IntKind.signed, IntKind.bits] at h
  refine ⟨f.size, f.kept, Nat.le_succ_of_le f.secs, ⟨f.writes.1, by have := f.writes.2; show S.writes ≤ _; omega⟩, hl, fun _ => ?_, f.zr, f.nr⟩
  show 1 ≤ max num 1 ∧ max num 1 ≤ _
  omega
theorem Fit.settle {S : DS} {n z k : Nat} (f : Fit S n z k) : Fit (settleS S (fun _ => true)) n z (k + 1) := ⟨f.size, (putN_len _ _ _ _ _).trans f.kept, Nat.zero_le _, ⟨f.writes.1, by have := f.writes.2; show S.writes ≤ _; omega⟩, f.keep, f.left, f.zr, f.nr⟩
theorem Fit.on {S : DS} {n z k : Nat} (f : Fit S n z k) : Fit { S with off := false } n z (k + 1) := ⟨f.size, f.kept, Nat.le_succ_of_le f.secs, ⟨f.writes.1, by have := f.writes.2; show S.writes ≤ _; omega⟩, f.keep, f.left, f.zr, f.nr⟩
theorem write_both {wa : World} {base d mb n z k : Nat} {L Lb : Nat → Prop} {S : DS} (hD : IsDisk wa base d S) (f : Fit S n z k) (hk : k < 100) (hL : ∀ j, L j → j < base) {Ab : Option Addr} {cb : Nat} {bs : List Int} (hr : Row wa Lb (.slice Ab bs.length cb) (bs.map encB)) (hLb : ∀ j, Lb j → j < wa.heap.size → j ≠ d) (i : Int) :
    ∃ (r : Int) (S' : DS), Fit S' n z (k + 1) ∧
      (∀ W, Moves (fun _ => False) wa W → Calls Try.prog 17 #[.pointer (some ⟨d, 0, none⟩), .int .i64 i, .slice Ab bs.length cb] W (DPost W base d S' (.int .i64 r))) ∧
      (∀ W, IsModel W base mb L S → Calls Try.prog 35 #[.pointer (some ⟨mb, 0, none⟩), .int .i64 i, .string (strOfNums bs)] W (MdPost W base mb L S' (.int .i64 r))) := by
  have hz := f.zr
  have hsz := f.size
  have hsame : ∀ {F : Nat} {args : Array Value} {W : World} {v : Value}, IsDisk W base d S → Calls Try.prog F args W (SameP W v) → Calls Try.prog F args W (DPost W base d S v) := fun hW h => h.mono fun e w' ⟨he, hw⟩ => by subst hw; exact ⟨he, hW, Moves.refl _ _⟩
  have hsameM : ∀ {F : Nat} {args : Array Value} {W : World} {v : Value}, IsModel W base mb L S → Calls Try.prog F args W (SameP W v) → Calls Try.prog F args W (MdPost W base mb L S v) := fun hW h => h.mono fun e w' ⟨he, hw⟩ => by subst hw; exact ⟨he, hW, Moves.refl _ _⟩
  have hrow : ∀ W, Moves (fun _ => False) wa W → Row W (fun j => Lb j ∧ j < wa.heap.size) (.slice Ab bs.length cb) (bs.map encB) := fun W hW => (hr.mono (fun j h1 h2 => ⟨h1, h2⟩)).moves hW (fun _ _ _ h => h)
  cases ho : S.off with
  | true => exact ⟨7, S, f.next, fun W hW => hsame (hD.moves0 hW) (write_off (hD.moves0 hW) ho i _), fun W hM => hsameM hM (m_write_off hM ho i _)⟩
  | false =>
    by_cases hb : inS S i = false ∨ bs.length ≠ S.size
    · exact ⟨1, S, f.next, fun W hW => hsame (hD.moves0 hW) (write_bad (hD.moves0 hW) ho hb), fun W hM => hsameM hM (m_write_bad hM ho (strOfNums_size bs) hb)⟩
    · have hi : inS S i = true := by
        cases h : inS S i with
        | true => rfl
        | false => exact absurd (.inl h) hb
      have hl : bs.length = S.size := by
        by_cases h : bs.length = S.size
        · exact h
        · exact absurd (.inr h) hb
      have hf := f.secs
      have hw := f.writes
      cases ha : S.armed with
      | false =>
        exact ⟨0, putS S i bs, f.put i bs, fun W hW => write_ok (hD.moves0 hW) ho ha hi (hrow W hW) hl (by omega) (by omega) (by omega) (by omega), fun W hM => m_write_ok hM ho ha hL hi rfl hl (by omega) (by omega)⟩
      | true =>
        have hle := f.left ha
        by_cases h2 : 2 ≤ S.left
        · refine ⟨0, putS { S with left := S.left - 1 } i bs, ?_, fun W hW => write_armed (hD.moves0 hW) ho ha ⟨h2, hle.2⟩ (fun j hj _ => hLb j hj.1 hj.2) hi (hrow W hW) hl (by omega) (by omega) (by omega) (by omega), fun W hM => m_write_armed hM ho ha ⟨h2, hle.2⟩ hL hi rfl hl (by omega) (by omega)⟩
          exact Fit.put (S := { S with left := S.left - 1 }) ⟨f.size, f.kept, f.secs, f.writes, f.keep, fun _ => ⟨by show 1 ≤ S.left - 1; omega, by show S.left - 1 ≤ _; omega⟩, f.zr, f.nr⟩ i bs
        · refine ⟨7, cutS { S with left := S.left - 1 } S.keep, ?_, fun W hW => write_cut (hD.moves0 hW) ho ha (by omega) (by have := f.keep; omega) hi (by rw [hl]), fun W hM => m_write_cut hM ho ha (by omega) (by have := f.keep; omega) hL hi (by rw [strOfNums_size, hl])⟩
          exact ⟨f.size, (putN_len _ _ _ _ _).trans f.kept, Nat.zero_le _, ⟨f.writes.1, by have := f.writes.2; show S.writes ≤ _; omega⟩, by simp [cutS, settleS], (fun h => by cases h), f.zr, f.nr⟩

def RdPost (w : World) (bs : List Int) (r : Int) (e : Ending) (w' : World) : Prop := ∃ A c, e = .returned (.tuple #[.slice A bs.length c, .int .i64 r]) ∧ Row w' (fun j => w.heap.size ≤ j) (.slice A bs.length c) (bs.map encB) ∧ Moves (fun _ => False) w w'
theorem read_both {wa : World} {base d mb n z k : Nat} {L : Nat → Prop} {S : DS} (hD : IsDisk wa base d S) (f : Fit S n z k) (i : Int) :
    ∃ (r : Int) (bs : List Int), Calls Try.prog 24 #[.pointer (some ⟨d, 0, none⟩), .int .i64 i] wa (RdPost wa bs r) ∧
      (∀ W, IsModel W base mb L S → Calls Try.prog 36 #[.pointer (some ⟨mb, 0, none⟩), .int .i64 i] W (SameP W (.tuple #[.string (strOfNums bs), .int .i64 r]))) := by
  have hz := f.zr
  have hsz := f.size
  have hnone : ∀ {r : Int}, Calls Try.prog 24 #[.pointer (some ⟨d, 0, none⟩), .int .i64 i] wa (SameP wa (.tuple #[.slice none 0 0, .int .i64 r])) → Calls Try.prog 24 #[.pointer (some ⟨d, 0, none⟩), .int .i64 i] wa (RdPost wa [] r) := fun h => h.mono fun e w' ⟨he, hw⟩ => by
    subst hw
    exact ⟨none, 0, he, ⟨none, 0, rfl, Nat.le_refl _, fun h => absurd h (by simp)⟩, Moves.refl _ _⟩
  cases ho : S.off with
  | true => exact ⟨7, [], hnone (read_off hD ho i), fun W hM => m_read_off hM ho i⟩
  | false =>
    cases hi : inS S i with
    | false => exact ⟨1, [], hnone (read_bad hD ho hi), fun W hM => m_read_bad hM ho hi⟩
    | true =>
      refine ⟨0, rdN S i S.secs.length, (read_ok hD ho hi (by omega) (by omega) rfl).mono ?_, fun W hM => m_read_ok hM ho hi rfl⟩
      rintro e w' ⟨g, he, h1, h2, h3, hm⟩
      exact ⟨_, _, he, ⟨_, _, by rw [List.length_map], by rw [List.length_map]; exact Nat.le_refl _, fun _ => ⟨g, 0, rfl, h1, h2, fun j u hu => by rw [Nat.zero_add]; exact h3 j u hu⟩⟩, hm⟩
end Go.Proofs.Ytbfnmgjpkieaoaa.Pl
