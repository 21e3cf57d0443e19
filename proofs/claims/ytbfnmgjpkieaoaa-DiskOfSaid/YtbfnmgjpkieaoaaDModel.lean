/-
  The statement's own disk, in strings: what it reads as; its cut, its read, its write.
-/
import Derived.Test.YtbfnmgjpkieaoaaDiskBytes
import Derived.Laws.BytesArg
namespace Go.Proofs.Ytbfnmgjpkieaoaa.Pl
open Go Go.RowKit Go.Maps Go.Sort Go.Proofs

def str (x : List Int) : Value := .string (strOfNums x)
def cells2 (l : List (Value × Value)) : List Value := l.flatMap fun p => [p.1, p.2]
theorem cells2_len (l : List (Value × Value)) : (cells2 l).length = l.length * 2 := by
  induction l with
  | nil => rfl
  | cons a r ih => simp only [cells2, List.flatMap_cons, List.length_append, List.length_cons, List.length_nil] at *; omega
theorem cells2_append (l l' : List (Value × Value)) : cells2 (l ++ l') = cells2 l ++ cells2 l' := by simp [cells2]
theorem cells2_get {l : List (Value × Value)} : ∀ {k : Nat} (h : k < l.length), (cells2 l)[k * 2]? = some l[k].1 ∧ (cells2 l)[k * 2 + 1]? = some l[k].2 := by
  induction l with
  | nil => intro k h; simp at h
  | cons a r ih =>
    intro k h
    cases k with
    | zero => exact ⟨rfl, rfl⟩
    | succ k =>
      have := ih (k := k) (by simpa using h)
      have e : cells2 (a :: r) = a.1 :: a.2 :: cells2 r := rfl
      rw [e, show (k + 1) * 2 = k * 2 + 1 + 1 by omega, show k * 2 + 1 + 1 + 1 = (k * 2 + 1) + 1 + 1 by omega]
      simpa using this
/-- What waits, as pairs of values. -/
def wl (ss : List Int) (ds : List (List Int)) : List (Value × Value) := (List.range ss.length).map fun i => (.int .i64 (sF ss i), str (ds.getD i []))
theorem wl_len (ss : List Int) (ds : List (List Int)) : (wl ss ds).length = ss.length := by simp [wl]
theorem wl_get {ss : List Int} {ds : List (List Int)} {k : Nat} (h : k < (wl ss ds).length) : (wl ss ds)[k] = (.int .i64 (sF ss k), str (ds.getD k [])) := by simp [wl]
theorem wl_append {ss : List Int} {ds : List (List Int)} (h : ds.length = ss.length) (x : Int) (b : List Int) : wl (ss ++ [x]) (ds ++ [b]) = wl ss ds ++ [(.int .i64 x, str b)] := by
  unfold wl
  rw [List.length_append, List.length_singleton, List.range_succ, List.map_append]
  congr 1
  · refine List.map_congr_left fun i hi => ?_
    have hi := List.mem_range.1 hi
    rw [sF_append _ _ hi, List.getD_eq_getElem?_getD, List.getD_eq_getElem?_getD, List.getElem?_append_left (by omega)]
  · rw [List.map_singleton, sF_last, List.getD_eq_getElem?_getD, List.getElem?_append_right (by omega), h]
    simp
theorem cells2_one (ss : List Int) (ds : List (List Int)) : ∀ u ∈ cells2 (wl ss ds), u.oneCell' = true := fun u hu => by
  obtain ⟨p, hp, hu⟩ := List.mem_flatMap.1 hu
  obtain ⟨i, -, rfl⟩ := List.mem_map.1 hp
  rcases List.mem_cons.1 hu with rfl | hu
  · rfl
  · simp at hu; subst hu; rfl

structure ModelAt (w : World) (base mb : Nat) (L : Nat → Prop) (S : DS) (kv wv kpv : Value) : Prop where
  blk : w.heap[mb]? = some (.cells #[.int .i64 S.size, kv, wv, .bool S.off, .bool S.armed, .int .i64 S.left, kpv, .int .i64 S.writes] 61 (0, 0))
  hb : base ≤ mb
  kept : w.ownsRow base 9 1 kv S.kept.length (S.kept.map str)
  wait : w.ownsRow base 129 2 wv S.secs.length (cells2 (wl S.secs S.data))
  form : ∃ A n c, kpv = .slice A n c
  keep : S.armed = true → Row w L kpv (S.keep.map .bool)
  len : S.data.length = S.secs.length
  wfs : ∀ x ∈ S.secs, 0 ≤ x ∧ x < S.kept.length
  few : S.secs.length ≤ 1000 ∧ S.kept.length ≤ 1000
def IsModel (w : World) (base mb : Nat) (L : Nat → Prop) (S : DS) : Prop := ∃ kv wv kpv, ModelAt w base mb L S kv wv kpv

section
variable {w w' : World} {base mb : Nat} {L : Nat → Prop} {S : DS} {kv wv kpv : Value}
theorem ModelAt.cells (h : ModelAt w base mb L S kv wv kpv) : w.cell? ⟨mb, 0, none⟩ = some (.int .i64 S.size) ∧ w.cell? ⟨mb, 1, none⟩ = some kv ∧ w.cell? ⟨mb, 2, none⟩ = some wv ∧ w.cell? ⟨mb, 3, none⟩ = some (.bool S.off) ∧ w.cell? ⟨mb, 4, none⟩ = some (.bool S.armed) ∧ w.cell? ⟨mb, 5, none⟩ = some (.int .i64 S.left) ∧ w.cell? ⟨mb, 6, none⟩ = some kpv ∧ w.cell? ⟨mb, 7, none⟩ = some (.int .i64 S.writes) := by
  unfold World.cell?
  simp only [h.blk]
  exact ⟨rfl, rfl, rfl, rfl, rfl, rfl, rfl, rfl⟩
theorem ModelAt.fr (h : ModelAt w base mb L S kv wv kpv) (k : Nat) : w.frozen? ⟨mb, k, none⟩ = false := by simp [World.frozen?, h.blk]
theorem ModelAt.moves {T : Nat → Prop} (h : ModelAt w base mb L S kv wv kpv) (hm : Moves T w w') (ht : ∀ (g : Nat) (cs : Array Value) (t : TypeId) (fr : Nat × Nat), w.heap[g]? = some (.cells cs t fr) → T g → t ≠ 61 ∧ t ≠ 9 ∧ t ≠ 129) (hl : ∀ k, L k → k < w.heap.size → ¬ T k) : ModelAt w' base mb L S kv wv kpv :=
  ⟨(hm.block mb (Array.getElem?_eq_some_iff.1 h.blk).1 (fun e => (ht _ _ _ _ h.blk e).1 rfl)).trans h.blk, h.hb,
   own_moves h.kept hm (fun g hg e => by obtain ⟨cur, hc⟩ := own_block h.kept hg; exact (ht _ _ _ _ hc e).2.1 rfl),
   own_moves h.wait hm (fun g hg e => by obtain ⟨cur, hc⟩ := own_block h.wait hg; exact (ht _ _ _ _ hc e).2.2 rfl), h.form, fun ha => (h.keep ha).moves hm hl, h.len, h.wfs, h.few⟩
theorem ModelAt.moves0 (h : ModelAt w base mb L S kv wv kpv) (hm : Moves (fun _ => False) w w') : ModelAt w' base mb L S kv wv kpv := h.moves hm (fun _ _ _ _ _ e => e.elim) (fun _ _ _ e => e)
theorem IsModel.moves0 (h : IsModel w base mb L S) (hm : Moves (fun _ => False) w w') : IsModel w' base mb L S := by
  obtain ⟨kv, wv, kpv, h⟩ := h
  exact ⟨kv, wv, kpv, h.moves0 hm⟩
/-- Stores into the struct. -/
theorem ModelAt.put {S' : DS} {kv' wv' kpv' : Value} (h : ModelAt w base mb L S kv wv kpv) (hm : Moves (fun k => k = mb) w w') (hL : ∀ k, L k → k < w.heap.size → k ≠ mb)
    (hb : w'.heap[mb]? = some (.cells #[.int .i64 S'.size, kv', wv', .bool S'.off, .bool S'.armed, .int .i64 S'.left, kpv', .int .i64 S'.writes] 61 (0, 0)))
    (hk : w.ownsRow base 9 1 kv' S'.kept.length (S'.kept.map str)) (hw : w.ownsRow base 129 2 wv' S'.secs.length (cells2 (wl S'.secs S'.data))) (hf : ∃ A n c, kpv' = .slice A n c) (hkp : S'.armed = true → Row w L kpv' (S'.keep.map .bool))
    (h1 : S'.data.length = S'.secs.length) (h2 : ∀ x ∈ S'.secs, 0 ≤ x ∧ x < S'.kept.length) (h3 : S'.secs.length ≤ 1000 ∧ S'.kept.length ≤ 1000) : ModelAt w' base mb L S' kv' wv' kpv' := by
  have ty : ∀ (g : Nat) (cs : Array Value) (t : TypeId) (fr : Nat × Nat), w.heap[g]? = some (.cells cs t fr) → t ≠ 61 → ¬ (fun k => k = mb) g := fun g cs t fr hg ht e => by
    have e : g = mb := e
    rw [e, h.blk] at hg
    injection hg with hg
    injection hg with _ h1
    exact ht h1.symm
  exact ⟨hb, h.hb, own_moves hk hm (fun g hg => by obtain ⟨cur, hc⟩ := own_block hk hg; exact ty _ _ _ _ hc (by decide)), own_moves hw hm (fun g hg => by obtain ⟨cur, hc⟩ := own_block hw hg; exact ty _ _ _ _ hc (by decide)), hf, fun ha => (hkp ha).moves hm hL, h1, h2, h3⟩
end
def MdPost (w : World) (base mb : Nat) (L : Nat → Prop) (S : DS) (v : Value) (e : Ending) (w' : World) : Prop := e = .returned v ∧ IsModel w' base mb L S ∧ Moves (fun k => k = mb) w w'
theorem infoStr : (Try.prog.info? 9).map (fun i => (i.zero, i.size, i.bytes)) = some (some (.string ⟨#[]⟩), 1, 16) := by kernel_rfl
theorem infoPend : (Try.prog.info? 129).map (fun i => (i.zero, i.size, i.bytes)) = some (some (.agg #[.int .i64 0, .string ⟨#[]⟩]), 2, 24) := by kernel_rfl

set_option maxRecDepth 100000 in
set_option maxHeartbeats 2000000 in
theorem m_read_ok {w : World} {base mb : Nat} {L : Nat → Prop} {S : DS} (h : IsModel w base mb L S) (ho : S.off = false) {i : Int} (hi : inS S i = true) {bs : List Int} (hbs : rdN S i S.secs.length = bs) :
    Calls Try.prog 36 #[.pointer (some ⟨mb, 0, none⟩), .int .i64 i] w (SameP w (.tuple #[str bs, .int .i64 0])) := by
  obtain ⟨kv, wv, kpv, h⟩ := h
  obtain ⟨-, c1, c2, c3, -⟩ := h.cells
  rw [ho] at c3
  have hi' : 0 ≤ i ∧ i < S.kept.length := by simpa [inS] using hi
  obtain ⟨s, rfl⟩ : ∃ s : Nat, i = s := ⟨i.toNat, by omega⟩
  have hsl : s < S.kept.length := by omega
  obtain ⟨Ak, ck, rfl, -, -, -, -, hxk⟩ := own_form h.kept
  obtain ⟨Aw, cw, rfl, -, -, -, -, hxw⟩ := own_form h.wait
  obtain ⟨gk, rfl, -, -, hck⟩ := hxk (by omega)
  have q0 := hck s (str S.kept[s]) (by rw [List.getElem?_map, List.getElem?_eq_getElem hsl]; rfl)
  have h0 : rdN S s 0 = S.kept[s] := by simp [rdN, List.getElem?_eq_getElem hsl]
  have HS := Lib.hid (fun n => rdN_succ S s n)
  have HB := Lib.hid hbs
  have HX := Lib.hid (And.intro hxw (And.intro h0 h.few))
  have b0 : (0 : Int) ≤ (s : Int) := by omega
  have b1 : (s : Int) < (S.kept.length : Int) := by omega
  have b2 : ¬ (s : Int) < 0 := by omega
  have b3 : ¬ (s : Int) ≥ (S.kept.length : Int) := by omega
  have hf := h.few
  rw [← h0] at q0
  clear h hxk hck hbs h0 hi ho hi' hxw
  go_enter Try.func36, Try.ntmps36
  go_wp2_with fail
  go_loop [6, 7] (fun s6 s7 => ∃ k : Nat, k ≤ S.secs.length ∧ s7 = .int .i64 k ∧ s6 = str (rdN S s k)) (fun _ s7 => S.secs.length - (intOf s7).toNat)
  case atStart => exact ⟨0, Nat.zero_le _, rfl, rfl⟩
  case round =>
    obtain ⟨k, hk, rfl, rfl⟩ := hrel
    by_cases hlt : k < S.secs.length
    · have hkz : (k : Int) < (S.secs.length : Int) := by omega
      have hk0 : (0 : Int) ≤ (k : Int) := by omega
      obtain ⟨gw, rfl, -, -, hcw⟩ := HX.out.1 (by omega)
      have hg := cells2_get (l := wl S.secs S.data) (k := k) (by rw [wl_len]; exact hlt)
      rw [wl_get] at hg
      have r0 : w.cell? ⟨gw, k * 2, none⟩ = some (.int .i64 (sF S.secs k)) := hcw _ _ hg.1
      have r1 : w.cell? ⟨gw, k * 2 + 1, none⟩ = some (str (S.data.getD k [])) := hcw _ _ hg.2
      have HSK := Lib.hid (HS.out k)
      clear hcw hg
      generalize S.data.getD k [] = dk at r1 HSK
      by_cases he : sF S.secs k = (s : Int)
      · rw [if_pos he] at HSK
        have he1 : (sF S.secs k == (s : Int)) = true := by simpa using he
        rw [he] at r0
        clear he he1
        go_wp2
        go_round
        case rel => exact ⟨k + 1, by omega, by go_num, by rw [HSK.out]⟩
        case measure => simp [intOf]; omega
      · rw [if_neg he] at HSK
        have he1 : (sF S.secs k == (s : Int)) = false := by simpa using he
        have HE := Lib.hid he
        clear he
        generalize sF S.secs k = x at r0 he1 HE
        go_wp2
        go_round
        case rel => exact ⟨k + 1, by omega, by go_num, by rw [HSK.out]⟩
        case measure => simp [intOf]; omega
    · obtain rfl : k = S.secs.length := by omega
      have hkz : ¬ (S.secs.length : Int) < (S.secs.length : Int) := by omega
      rw [HB.out]
      go_wp2
      go_ret2
      exact ⟨rfl, rfl⟩
set_option maxRecDepth 100000 in
set_option maxHeartbeats 1000000 in
theorem m_read_off {w : World} {base mb : Nat} {L : Nat → Prop} {S : DS} (h : IsModel w base mb L S) (ho : S.off = true) (i : Int) :
    Calls Try.prog 36 #[.pointer (some ⟨mb, 0, none⟩), .int .i64 i] w (SameP w (.tuple #[.string ⟨#[]⟩, .int .i64 7])) := by
  obtain ⟨kv, wv, kpv, h⟩ := h
  obtain ⟨-, -, -, c3, -⟩ := h.cells
  rw [ho] at c3
  clear h ho
  go_enter Try.func36, Try.ntmps36
  go_wp2
  go_ret2
  exact ⟨rfl, rfl⟩
set_option maxRecDepth 100000 in
set_option maxHeartbeats 1000000 in
theorem m_read_bad {w : World} {base mb : Nat} {L : Nat → Prop} {S : DS} (h : IsModel w base mb L S) (ho : S.off = false) {i : Int} (hi : inS S i = false) :
    Calls Try.prog 36 #[.pointer (some ⟨mb, 0, none⟩), .int .i64 i] w (SameP w (.tuple #[.string ⟨#[]⟩, .int .i64 1])) := by
  obtain ⟨kv, wv, kpv, h⟩ := h
  obtain ⟨-, c1, -, c3, -⟩ := h.cells
  rw [ho] at c3
  obtain ⟨Ak, ck, rfl, -⟩ := own_form h.kept
  have hi' : ¬ (0 ≤ i ∧ i < S.kept.length) := by simpa [inS] using hi
  clear h ho hi
  by_cases h0 : i < 0
  · clear hi'
    go_enter Try.func36, Try.ntmps36
    go_wp2
    go_ret2
    exact ⟨rfl, rfl⟩
  · have h1 : (S.kept.length : Int) ≤ i := by omega
    clear hi'
    generalize S.kept.length = n at c1 h1
    go_enter Try.func36, Try.ntmps36
    go_wp2
    go_ret2
    exact ⟨rfl, rfl⟩
end Go.Proofs.Ytbfnmgjpkieaoaa.Pl
