/-
  The small calls of a disk: what it may be, its sectors, on and off, what is pending; a cut, a sync, an arming.
-/
import Derived.Test.YtnagpianaghjeaaDiskSettle
import Derived.Test.YtnagpianaghjeaaDiskClone
namespace Go.Proofs.Ytnagpianaghjeaa.Pl
open Go Go.RowKit Go.Maps Go.Sort Go.Proofs

def rightZ (n z : Int) : Bool := decide (1 ≤ n ∧ n ≤ 16384 ∧ 64 ≤ z ∧ z ≤ 1024)
set_option maxHeartbeats 1000000 in
theorem right_any {n z : Int} {b : Bool} (hb : rightZ n z = b) (w : World) : Calls Try.prog 67 #[.int .i64 n, .int .i64 z] w (SameP w (.bool b)) := by
  subst hb
  by_cases h1 : 1 ≤ n
  · by_cases h2 : n ≤ 16384
    · by_cases h3 : 64 ≤ z
      · by_cases h4 : z ≤ 1024
        · rw [show rightZ n z = true by unfold rightZ; simp; omega]
          go_enter Try.func67, Try.ntmps67
          go_wp2
          go_ret
          exact ⟨rfl, rfl⟩
        · rw [show rightZ n z = false by unfold rightZ; simp; omega]
          go_enter Try.func67, Try.ntmps67
          go_wp2
          go_ret
          exact ⟨rfl, rfl⟩
      · rw [show rightZ n z = false by unfold rightZ; simp; omega]
        go_enter Try.func67, Try.ntmps67
        go_wp2
        go_ret
        exact ⟨rfl, rfl⟩
    · rw [show rightZ n z = false by unfold rightZ; simp; omega]
      go_enter Try.func67, Try.ntmps67
      go_wp2
      go_ret
      exact ⟨rfl, rfl⟩
  · rw [show rightZ n z = false by unfold rightZ; simp; omega]
    go_enter Try.func67, Try.ntmps67
    go_wp2
    go_ret
    exact ⟨rfl, rfl⟩

section
variable {w : World} {base d : Nat} {S : DS} {kv : Value} {kvs : List Value} {m : Nat} {D : DataW Value} {pvs : List Value} {kpv : Value}

theorem DiskAt.cells (h : DiskAt w base d S kv kvs m D pvs kpv) : w.cell? ⟨d, 0, none⟩ = some (.int .i64 S.size) ∧ w.cell? ⟨d, 1, none⟩ = some kv ∧ w.cell? ⟨d, 2, none⟩ = some (.map (some m)) ∧ w.cell? ⟨d, 3, none⟩ = some (.bool S.off) ∧ w.cell? ⟨d, 4, none⟩ = some (.bool S.armed) ∧ w.cell? ⟨d, 5, none⟩ = some (.int .i64 S.left) ∧ w.cell? ⟨d, 6, none⟩ = some kpv ∧ w.cell? ⟨d, 7, none⟩ = some (.int .i64 S.writes) := by
  unfold World.cell?
  simp only [h.blk]
  exact ⟨rfl, rfl, rfl, rfl, rfl, rfl, rfl, rfl⟩
theorem DiskAt.fr (h : DiskAt w base d S kv kvs m D pvs kpv) (k : Nat) : w.frozen? ⟨d, k, none⟩ = false := by simp [World.frozen?, h.blk]
/-- A store into the disk's struct, all else as it was. -/
theorem DiskAt.put {w' : World} {S' : DS} {kpv' : Value} (h : DiskAt w base d S kv kvs m D pvs kpv) (hm : Moves (fun k => k = d) w w')
    (hb : w'.heap[d]? = some (.cells #[.int .i64 S'.size, kv, .map (some m), .bool S'.off, .bool S'.armed, .int .i64 S'.left, kpv', .int .i64 S'.writes] 105 (0, 0)))
    (h1 : S'.size = S.size) (h2 : S'.kept = S.kept) (h3 : S'.secs = S.secs) (h4 : S'.data = S.data) (hk : w'.ownsRow base 4 1 kpv' S'.keep.length (S'.keep.map .bool)) : DiskAt w' base d S' kv kvs m D pvs kpv' := by
  obtain ⟨z', K', s', d', o', a', l', k', w2⟩ := S'
  simp only at h1 h2 h3 h4
  subst h1 h2 h3 h4
  have hsec : ∀ a b, Sec w base a b → Sec w' base a b := fun a b hab => hab.moves hm (fun g cs hg e => by
    have e : g = d := e
    rw [e, h.blk] at hg
    cases hg)
  refine ⟨hb, h.hd, own_moves h.kept hm (fun g hg e => ?_), h.secs.mono hsec, h.hm, hm.ownsMap h.map (fun e => ?_), h.pend, h.data.mono hsec, h.len, hk, h.wf, h.wfd, h.wfs, h.few⟩
  · have e : g = d := e
    obtain ⟨cur, hc⟩ := own_block h.kept hg
    rw [e, h.blk] at hc
    cases hc
  · have e : m = d := e
    obtain ⟨es, ck, hb, _⟩ := h.map
    rw [e, h.blk] at hb
    cases hb
theorem DiskAt.keepAt {w' : World} (h : DiskAt w base d S kv kvs m D pvs kpv) (hm : Moves (fun k => k = d) w w') : w'.ownsRow base 4 1 kpv S.keep.length (S.keep.map .bool) :=
  own_moves h.keep hm (fun g hg e => by
    have e : g = d := e
    obtain ⟨cur, hc⟩ := own_block h.keep hg
    rw [e, h.blk] at hc
    cases hc)
end

def inS (S : DS) (i : Int) : Bool := decide (0 ≤ i ∧ i < S.kept.length)
set_option maxHeartbeats 1000000 in
theorem in_any {w : World} {base d : Nat} {S : DS} (h : IsDisk w base d S) {i : Int} {b : Bool} (hb : inS S i = b) : Calls Try.prog 100 #[.pointer (some ⟨d, 0, none⟩), .int .i64 i] w (SameP w (.bool b)) := by
  obtain ⟨kv, kvs, m, D, pvs, kpv, h⟩ := h
  obtain ⟨-, c1, -⟩ := h.cells
  obtain ⟨A, c, rfl, -, -, -, -, -⟩ := own_form h.kept
  have hl : kvs.length = S.kept.length := h.secs.1
  rw [hl] at c1
  subst hb
  unfold inS
  generalize S.kept.length = n at c1
  clear h hl
  by_cases h1 : 0 ≤ i
  · by_cases h2 : i < n
    · rw [decide_eq_true (show 0 ≤ i ∧ i < (n : Int) from ⟨h1, h2⟩)]
      go_enter Try.func100, Try.ntmps100
      go_wp2
      go_ret
      exact ⟨rfl, rfl⟩
    · rw [decide_eq_false (show ¬ (0 ≤ i ∧ i < (n : Int)) from fun h => h2 h.2)]
      go_enter Try.func100, Try.ntmps100
      go_wp2
      go_ret
      exact ⟨rfl, rfl⟩
  · rw [decide_eq_false (show ¬ (0 ≤ i ∧ i < (n : Int)) from fun h => h1 h.1)]
    go_enter Try.func100, Try.ntmps100
    go_wp2
    go_ret
    exact ⟨rfl, rfl⟩

theorem off_any {w : World} {base d : Nat} {S : DS} (h : IsDisk w base d S) : Calls Try.prog 61 #[.pointer (some ⟨d, 0, none⟩)] w (SameP w (.bool S.off)) := by
  obtain ⟨kv, kvs, m, D, pvs, kpv, h⟩ := h
  obtain ⟨-, -, -, c3, -⟩ := h.cells
  clear h
  go_enter Try.func61, Try.ntmps61
  go_wp2
  go_ret
  exact ⟨rfl, rfl⟩
theorem writes_any {w : World} {base d : Nat} {S : DS} (h : IsDisk w base d S) : Calls Try.prog 19 #[.pointer (some ⟨d, 0, none⟩)] w (SameP w (.int .i64 S.writes)) := by
  obtain ⟨kv, kvs, m, D, pvs, kpv, h⟩ := h
  obtain ⟨-, -, -, -, -, -, -, c7⟩ := h.cells
  clear h
  go_enter Try.func19, Try.ntmps19
  go_wp2
  go_ret
  exact ⟨rfl, rfl⟩
theorem pending_any {w : World} {base d : Nat} {S : DS} (h : IsDisk w base d S) : Calls Try.prog 51 #[.pointer (some ⟨d, 0, none⟩)] w (SameP w (.int .i64 S.secs.length)) := by
  obtain ⟨kv, kvs, m, D, pvs, kpv, h⟩ := h
  obtain ⟨-, -, c2, -⟩ := h.cells
  have hown := h.map
  have hown' : w.ownsMap Try.prog 144 RV m S.secs.length D := hown
  have HSZ : Hid (Maps.size D = S.secs.length) := Lib.hid (by rw [h.pend.size, pl_len])
  clear h hown
  go_enter Try.func51, Try.ntmps51
  go_wp2_with (first
    | (at_len; go_must (refine wpList_len_own _ rfl _ 103 rfl 144 55 Try.underlying103 _ m S.secs.length D rfl hown' ?_))
    | fail)
  go_ret
  exact ⟨by rw [HSZ.out]; rfl, rfl⟩

def DPost (w : World) (base d : Nat) (S : DS) (v : Value) (e : Ending) (w' : World) : Prop := e = .returned v ∧ IsDisk w' base d S ∧ Moves (DOwn w d) w w' ∧ DKeep w d w'
theorem on_any {w : World} {base d : Nat} {S : DS} (h : IsDisk w base d S) : Calls Try.prog 24 #[.pointer (some ⟨d, 0, none⟩)] w (DPost w base d { S with off := false } (.tuple #[])) := by
  obtain ⟨kv, kvs, m, D, pvs, kpv, h⟩ := h
  obtain ⟨-, -, -, c3, -⟩ := h.cells
  have f3 := h.fr 3
  have H := Lib.hid h
  clear h
  go_enter Try.func24, Try.ntmps24
  go_wp2
  go_end0
  have h := H.out
  have hm : Moves (fun k => k = d) w (w.setCell ⟨d, 3, none⟩ (.bool false)) := Moves.setCell (p := ⟨d, 3, none⟩) (Moves.refl (fun k => k = d) w) (fun _ => rfl) _
  have h2 := h.put (S' := { S with off := false }) hm (by simp [World.setCell, Array.getElem?_modify, h.blk]) rfl rfl rfl rfl (h.keepAt hm)
  exact ⟨rfl, ⟨kv, kvs, m, D, pvs, kpv, h2⟩, hm.mono (fun k e => .inl e), DKeep.of h.blk h2.blk rfl (fun k e => .inl e)⟩
end Go.Proofs.Ytnagpianaghjeaa.Pl
