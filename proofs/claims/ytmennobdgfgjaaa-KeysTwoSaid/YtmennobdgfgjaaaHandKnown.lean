/-
  The first call of each statement on handles: two handles, one node: it answers true.
-/
import Derived.Test.YtmennobdgfgjaaaHandRenum
import Derived.Test.YtmennobdgfgjaaaHandTwin
namespace Go.Proofs.Ytmennobdgfgjaaa
open Go Go.RowKit Go.Maps Go.Sort Go.Shelf Go.Proofs

theorem Row.made (w : World) (t : TypeId) (cs : List Value) : Row (w.alloc (.cells cs.toArray t)) (fun i => i = w.heap.size) (.slice (some ⟨w.heap.size, 0, none⟩) cs.length cs.length) cs :=
  ⟨_, _, rfl, Nat.le_refl _, fun _ => ⟨_, 0, rfl, rfl, by simp, fun j u hu => by
    have := heap_alloc_new w (.cells cs.toArray t)
    simp only [World.cell?, this, Nat.zero_add, Option.isSome_none, Bool.false_eq_true, if_false]
    simpa using hu⟩⟩

def NewPost' (w : World) (e : Ending) (w' : World) : Prop := ∃ p m, e = .returned (.pointer (some ⟨p, 0, none⟩)) ∧ Tab w' p m [] 0 ∧ w.heap.size ≤ p ∧ w.heap.size ≤ m ∧ Moves (fun _ => False) w w'
theorem new_ex (w : World) : Calls Try.prog 13 #[] w (NewPost' w) :=
  (new_any w).mono fun _ _ ⟨he, hT, hm⟩ => ⟨_, _, he, hT, by omega, Nat.le_refl _, hm⟩

section
variable {w : World} {p m : Nat} {R R' : List Pr} {last : Int}

theorem get_eq {h c : Int} {b : Bool} (hT : Tab w p m R last) (hw : iw h) (hc : (look R h).getD 0 = c) (hb : hasK R h = b) :
    Calls Try.prog 18 #[.pointer (some ⟨p, 0, none⟩), .int .i64 h] w (SamePost w (.tuple #[.int .i64 c, .bool b])) :=
  (get_any hT hw).mono fun _ _ ⟨he, h'⟩ => ⟨by rw [he, hc, hb], h'⟩

theorem close_eq {h : Int} {b : Bool} (hT : Tab w p m R last) (hw : iw h) (hb : hasK R h = b) (hR : R.filter (fun q => !(q.1 == h)) = R') :
    Calls Try.prog 16 #[.pointer (some ⟨p, 0, none⟩), .int .i64 h] w (fun e w' => e = .returned (.bool b) ∧ Tab w' p m R' last ∧ Moves (Own2 p m) w w') :=
  (close_any hT hw).mono fun _ _ ⟨he, h', hm⟩ => ⟨by rw [he, hb], by rw [← hR]; exact h', hm⟩

theorem ren_eq {to : List Int} {v : Value} {L : Nat → Prop} {n : Int} (hT : Tab w p m R last) (hr : Row w L v (to.map encZ)) (hL : ∀ i, L i → i ≠ m) (hto : ∀ x ∈ to, iw x) (hlen : to.length ≤ 9223372036854775807)
    (hR : R.filterMap (ren to) = R') (hn : (R.length : Int) - R'.length = n) :
    Calls Try.prog 17 #[.pointer (some ⟨p, 0, none⟩), v] w (fun e w' => e = .returned (.int .i64 n) ∧ Tab w' p m R' last ∧ Moves (fun k => k = m) w w') :=
  (renumber_any hT hr hL hto hlen).mono fun _ _ ⟨he, h', hm⟩ => ⟨by rw [he, hR, hn], by rw [← hR]; exact h', hm⟩

theorem for_found {node x : Int} (hT : Tab w p m R last) (hl : least R node = some x) :
    Calls Try.prog 15 #[.pointer (some ⟨p, 0, none⟩), .int .i64 node] w (ForFound w x) :=
  (for_any (a := 0) (b := 0) (Q := fun _ _ => True) hT (fun h => by rw [hl] at h; cases h)).mono fun e w' h => by
    rcases h with ⟨y, hy, h⟩ | ⟨hn, _⟩
    · rw [hl] at hy; cases hy; exact h
    · rw [hl] at hn; cases hn

theorem live_len {n : Nat} (hT : Tab w p m R last) (hn : R.length = n) : Calls Try.prog 19 #[.pointer (some ⟨p, 0, none⟩)] w (fun e w' => ∃ A c, e = .returned (.slice A n c) ∧ Moves (fun _ => False) w w') :=
  (live_any hT).mono fun _ _ ⟨v, he, ⟨A, c, hv, _⟩, hm⟩ => ⟨A, c, by rw [he, hv]; simp [hn], hm⟩
theorem nodes_len {n : Nat} (hT : Tab w p m R last) (hn : R.length = n) : Calls Try.prog 23 #[.pointer (some ⟨p, 0, none⟩)] w (fun e w' => ∃ A c, e = .returned (.slice A n c) ∧ Moves (fun _ => False) w w') :=
  (nodes_any hT).mono fun _ _ ⟨v, he, ⟨A, c, hv, _⟩, hm⟩ => ⟨A, c, by rw [he, hv]; simp [hn], hm⟩
end

/-- A step that turns the table's two blocks alone turns nothing that was there before the table. -/
theorem Moves.own {w w1 w2 : World} {p m : Nat} (h : Moves (fun _ => False) w w1) (k : Moves (Own2 p m) w1 w2) (hp : w.heap.size ≤ p) (hm : w.heap.size ≤ m) : Moves (fun _ => False) w w2 :=
  h.andThen k fun i hi hlt => by rcases hi with rfl | rfl <;> omega

def KnownPost (w : World) (e : Ending) (w' : World) : Prop := e = .returned (.bool true) ∧ Moves (fun _ => False) w w'

set_option maxRecDepth 100000 in
set_option maxHeartbeats 2000000 in
theorem hand_known (w : World) : Calls Try.prog 12 #[] w (KnownPost w) := by
  go_enter Try.func12, Try.ntmps12
  go_wp2_with fail
  refine (new_ex w).mono ?_
  rintro e w1 ⟨p, m, rfl, hT1, hp, hm, hM1⟩
  go_wp2_with fail
  refine (open_ok hT1 (by decide) (by decide) (by decide) (by decide)).mono ?_
  rintro e w2 ⟨rfl, hT2, hm2⟩
  replace hM1 := hM1.own hm2 hp hm
  clear hT1 hm2
  change Tab w2 p m [(1, 5)] 1 at hT2
  rw [show ((0 : Int) + 1) = 1 from rfl]
  go_wp2_with fail
  refine (for_found (x := 1) hT2 rfl).mono ?_
  rintro e w3 ⟨rfl, hm3⟩
  have hT3 := hT2.moves hm3 (fun h => h) (fun h => h)
  replace hM1 := hM1.trans hm3
  clear hT2 hm3
  go_wp2_with fail
  refine (open_ok hT3 (by decide) (by decide) (by decide) (by decide)).mono ?_
  rintro e w4 ⟨rfl, hT4, hm4⟩
  replace hM1 := hM1.own hm4 hp hm
  clear hT3 hm4
  change Tab w4 p m [(1, 5), (2, 5)] 2 at hT4
  rw [show ((1 : Int) + 1) = 2 from rfl]
  go_wp2_with fail
  refine (get_eq (c := 5) (b := true) hT4 (by decide) rfl rfl).mono ?_
  rintro e w5 ⟨rfl, rfl⟩
  go_wp2_with fail
  have hT5 : Tab (w4.alloc (.cells #[.int .i64 0, .int .i64 0, .int .i64 0, .int .i64 0, .int .i64 9] 3)) p m [(1, 5), (2, 5)] 2 := hT4.moves ((Moves.refl (fun _ => False) _).alloc _) (fun h => h) (fun h => h)
  have hr5 : Row (w4.alloc (.cells #[.int .i64 0, .int .i64 0, .int .i64 0, .int .i64 0, .int .i64 9] 3)) (fun i => i = w4.heap.size) (.slice (some ⟨w4.heap.size, 0, none⟩) 5 5) (([0, 0, 0, 0, 9] : List Int).map encZ) := Row.made w4 3 [.int .i64 0, .int .i64 0, .int .i64 0, .int .i64 0, .int .i64 9]
  have hlt : m < w4.heap.size := hT4.map.lt
  refine (ren_eq (R' := [(1, 9), (2, 9)]) (n := 0) hT5 hr5 (fun i e => by omega) (by decide) (by decide) rfl rfl).mono ?_
  rintro e w6 ⟨rfl, hT6, hm6⟩
  replace hM1 : Moves (fun _ => False) w w6 := (hM1.alloc _).andThen hm6 (fun i hi hlt => by omega)
  clear hT4 hT5 hr5 hlt hm6
  go_wp2_with fail
  refine (get_eq (c := 9) (b := true) hT6 (by decide) rfl rfl).mono ?_
  rintro e w7 ⟨rfl, rfl⟩
  go_wp2_with fail
  refine (close_eq (b := true) (R' := [(2, 9)]) hT6 (by decide) rfl rfl).mono ?_
  rintro e w8 ⟨rfl, hT8, hm8⟩
  replace hM1 := hM1.own hm8 hp hm
  clear hT6 hm8
  go_wp2_with fail
  refine (live_len (n := 1) hT8 rfl).mono ?_
  rintro e w9 ⟨A, c, rfl, hm9⟩
  have hT9 := hT8.moves hm9 (fun h => h) (fun h => h)
  replace hM1 := hM1.trans hm9
  clear hT8 hm9
  go_wp2_with fail
  refine (nodes_len (n := 1) hT9 rfl).mono ?_
  rintro e w10 ⟨A', c', rfl, hm10⟩
  replace hM1 := hM1.trans hm10
  clear hT9 hm10
  go_wp2
  go_ret
  exact ⟨rfl, hM1⟩
end Go.Proofs.Ytmennobdgfgjaaa
