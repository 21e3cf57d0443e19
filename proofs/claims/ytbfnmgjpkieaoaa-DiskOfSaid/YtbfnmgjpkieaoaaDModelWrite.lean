/-
  The statement's own disk: its write.
-/
import Derived.Test.YtbfnmgjpkieaoaaDModelCut
import Derived.Outline
namespace Go.Proofs.Ytbfnmgjpkieaoaa.Pl
open Go Go.RowKit Go.Maps Go.Sort Go.Proofs

set_option maxRecDepth 100000 in
set_option maxHeartbeats 1000000 in
theorem m_write_off {w : World} {base mb : Nat} {L : Nat → Prop} {S : DS} (h : IsModel w base mb L S) (ho : S.off = true) (i : Int) (s : ByteArray) :
    Calls Try.prog 35 #[.pointer (some ⟨mb, 0, none⟩), .int .i64 i, .string s] w (SameP w (.int .i64 7)) := by
  obtain ⟨kv, wv, kpv, h⟩ := h
  obtain ⟨-, -, -, c3, -⟩ := h.cells
  rw [ho] at c3
  clear h ho
  go_enter Try.func35, Try.ntmps35
  go_wp2
  go_ret
  exact ⟨rfl, rfl⟩
set_option maxRecDepth 100000 in
set_option maxHeartbeats 1000000 in
theorem m_write_bad {w : World} {base mb : Nat} {L : Nat → Prop} {S : DS} (h : IsModel w base mb L S) (ho : S.off = false) {i : Int} {s : ByteArray} {n : Nat} (hs : s.size = n) (hb : inS S i = false ∨ n ≠ S.size) :
    Calls Try.prog 35 #[.pointer (some ⟨mb, 0, none⟩), .int .i64 i, .string s] w (SameP w (.int .i64 1)) := by
  obtain ⟨kv, wv, kpv, h⟩ := h
  obtain ⟨c0, c1, -, c3, -⟩ := h.cells
  rw [ho] at c3
  obtain ⟨Ak, ck, rfl, -⟩ := own_form h.kept
  have hin : inS S i = false → ¬ (0 ≤ i ∧ i < S.kept.length) := fun hi => by simpa [inS] using hi
  have hin' : inS S i = true → (0 ≤ i ∧ i < S.kept.length) := fun hi => by simpa [inS] using hi
  clear h ho
  generalize S.kept.length = kn at c1 hin hin'
  by_cases hi : inS S i = false
  · have hi' := hin hi
    clear hb hin hin' hi
    by_cases h0 : i < 0
    · clear hi'
      go_enter Try.func35, Try.ntmps35
      go_wp2
      go_ret
      exact ⟨rfl, rfl⟩
    · have h1 : (kn : Int) ≤ i := by omega
      clear hi'
      go_enter Try.func35, Try.ntmps35
      go_wp2
      go_ret
      exact ⟨rfl, rfl⟩
  · have hi' := hin' (by simpa using hi)
    have hn : ¬ (n : Int) = (S.size : Int) := by
      rcases hb with h | h
      · exact absurd h hi
      · omega
    have hn1 : ((n : Int) != (S.size : Int)) = true := by simpa using hn
    have h0 : ¬ i < 0 := by omega
    have h1 : ¬ i ≥ (kn : Int) := by omega
    clear hb hin hin' hi hi'
    generalize S.size = z at c0 hn hn1
    go_enter Try.func35, Try.ntmps35
    go_wp2
    go_ret
    exact ⟨rfl, rfl⟩

-- A write that waits.
set_option maxRecDepth 100000 in
set_option maxHeartbeats 4000000 in
theorem m_write_ok {w : World} {base mb : Nat} {L : Nat → Prop} {S : DS} (h : IsModel w base mb L S) (ho : S.off = false) (ha : S.armed = false) (hL : ∀ k, L k → k < base) {i : Int} (hi : inS S i = true) {bs : List Int} {s : ByteArray} (hs : strOfNums bs = s) (hz : bs.length = S.size) (hf : S.secs.length < 1000) (hw0 : 0 ≤ S.writes ∧ S.writes ≤ 1000000000) :
    Calls Try.prog 35 #[.pointer (some ⟨mb, 0, none⟩), .int .i64 i, .string s] w (MdPost w base mb L (putS S i bs) (.int .i64 0)) := by
  obtain ⟨kv, wv, kpv, h⟩ := h
  have hi' : 0 ≤ i ∧ i < S.kept.length := by simpa [inS] using hi
  have hsz : s.size = S.size := by rw [← hs, strOfNums_size, hz]
  have hlen : (s.size : Int) = (S.size : Int) := by omega
  obtain ⟨c0, c1, c2, c3, c4, c5, -, c7⟩ := h.cells
  rw [ho] at c3
  rw [ha] at c4
  obtain ⟨Ak, ck, rfl, -⟩ := own_form h.kept
  obtain ⟨Aw, cw, rfl, -⟩ := own_form h.wait
  obtain ⟨Ap, np, cp, rfl⟩ := h.form
  obtain ⟨i4, hi4, hq0, hq1, hq2⟩ := info_parts infoPend
  have hq3 : (Value.agg #[.int .i64 0, .string ⟨#[]⟩]).cells.size = 2 := rfl
  have hq4 : (0 : Nat) < 2 := by decide
  have hz1 : ((S.size : Int) != (S.size : Int)) = false := by simp
  have b0 : ¬ i < 0 := by omega
  have b1 : ¬ i ≥ (S.kept.length : Int) := by omega
  have hww : IntKind.i64.wrap (S.writes + 1) = S.writes + 1 := IntWalk.i64_in _ (by omega)
  have HS := Lib.hid (And.intro hs hsz)
  have H := Lib.hid h
  clear h hs hsz hz ha ho
  go_enter Try.func35, Try.ntmps35
  have HK : Hid ((cells2 (wl S.secs S.data)).length = S.secs.length * 2 ∧ (∀ u ∈ cells2 (wl S.secs S.data), u.oneCell' = true) ∧ Src (w.alloc (.cells #[] 129)) Aw S.secs.length (cells2 (wl S.secs S.data)) ∧ 0 + S.secs.length ≤ maxLen ∧ (0 + S.secs.length) * 24 ≤ 140737488355328 ∧ w.heap.size ≤ (w.alloc (.cells #[] 129)).heap.size ∧ (w.alloc (.cells #[] 129)).ownsRow w.heap.size 129 2 (.slice (some ⟨w.heap.size, 0, none⟩) 0 0) 0 []) :=
    Lib.hid ⟨by rw [cells2_len, wl_len], cells2_one _ _, src_own (H.out.wait.alloc _), by unfold maxLen; omega, by omega, by simp, World.ownsRow_made w #[] 0 (Nat.le_refl _) (by unfold maxLen; omega) (by simp)⟩
  have HN : Hid (S.secs.length + 1 ≤ maxLen ∧ (S.secs.length + 1) * 24 ≤ 140737488355328 ∧ ∀ u ∈ [Value.int .i64 i, .string s], u.oneCell' = true) := Lib.hid ⟨by unfold maxLen; omega, by omega, by simp [Value.oneCell']⟩
  have hfz := hf
  have hmbl : mb < w.heap.size := (Array.getElem?_eq_some_iff.1 H.out.blk).1
  go_wp2_with (first
    | (at_builtin; (refine wpList_append_src _ rfl (.tmp 54) (.tmp 58) 59 rfl w.heap.size 129 i4 _ 2 24 Try.underlying59 hi4 hq0 hq1 hq2 hq3 hq4 (.slice (some ⟨w.heap.size, 0, none⟩) 0 0) 0 [] rfl HK.out.2.2.2.2.2.2 Aw S.secs.length cw (cells2 (wl S.secs S.data)) rfl HK.out.1 HK.out.2.2.1 HK.out.2.1 HK.out.2.2.2.1 HK.out.2.2.2.2.1 HK.out.2.2.2.2.2.1 ?_)
       intro v5 w5 hn1 hg1 hl1
       have H5 : Hid (w5.ownsRow w.heap.size 129 2 v5 S.secs.length (cells2 (wl S.secs S.data)) ∧ Moves (fun _ => False) w w5) := Lib.hid ⟨by simpa using hn1, ((Moves.refl _ w).alloc _).grown hg1 (fun k hk hlt => by simp [Value.ownBlock] at hk; omega)⟩
       have hb5 : Hid (w.heap.size ≤ (w5.alloc (.cells #[.int .i64 i, .string s] 129)).heap.size) := Lib.hid (by have := H5.out.2.size; simp; omega)
       clear hn1 hg1 hl1)
    | (at_builtin; (refine wpList_append_src _ rfl (.tmp 59) (.tmp 63) 59 rfl w.heap.size 129 i4 _ 2 24 Try.underlying59 hi4 hq0 hq1 hq2 hq3 hq4 v5 S.secs.length (cells2 (wl S.secs S.data)) rfl (H5.out.1.alloc _) (some ⟨w5.heap.size, 0, none⟩) 1 1 [.int .i64 i, .string s] rfl rfl (fun _ => ⟨_, rfl, World.news_of_block (cs := #[.int .i64 i, .string s]) (t := 129) (fr := (0, 0)) (heap_alloc_new w5 _)⟩) HN.out.2.2 HN.out.1 HN.out.2.1 hb5.out ?_)
       intro v6 w6 hn1 hg1 hl1
       have H6 : Hid (w6.ownsRow w.heap.size 129 2 v6 (S.secs.length + 1) (cells2 (wl S.secs S.data) ++ [.int .i64 i, .string s]) ∧ Moves (fun _ => False) w w6) := Lib.hid ⟨hn1, (H5.out.2.alloc _).grown hg1 (fun k hk hlt => by have := (H5.out.1.lt k hk).1; omega)⟩
       have hD6 := H.out.moves0 H6.out.2
       obtain ⟨-, -, d2, -, -, -, -, d7⟩ := hD6.cells
       have e2 := hD6.fr 2
       have e7 := hD6.fr 7
       have HD6 := Lib.hid hD6
       obtain ⟨A6, k6, rfl, -⟩ := own_form H6.out.1
       clear hn1 hg1 hl1 hD6)
    | fail)
  go_ret
  have h := HD6.out
  have hm : Moves (fun k => k = mb) w6 ((w6.setCell ⟨mb, 2, none⟩ (.slice A6 (S.secs.length + 1) k6)).setCell ⟨mb, 7, none⟩ (.int .i64 (S.writes + 1))) := Moves.setCell (p := ⟨mb, 7, none⟩) (Moves.setCell (p := ⟨mb, 2, none⟩) (Moves.refl (fun k => k = mb) w6) (fun _ => rfl) _) (fun _ => rfl) _
  have hst : str bs = .string s := by unfold str; rw [HS.out.1]
  refine ⟨rfl, ⟨.slice Ak S.kept.length ck, .slice A6 (S.secs.length + 1) k6, .slice Ap np cp, h.put (S' := putS S i bs) (kv' := .slice Ak S.kept.length ck) (wv' := .slice A6 (S.secs.length + 1) k6) (kpv' := .slice Ap np cp) hm (fun k hk _ e => by have := hL k hk; have := h.hb; omega) (by simp [World.setCell, Array.getElem?_modify, h.blk, putS, pendS]) h.kept ?_ ⟨_, _, _, rfl⟩ h.keep ?_ ?_ ⟨?_, h.few.2⟩⟩, (H6.out.2.none _).trans hm⟩
  · show w6.ownsRow base 129 2 _ (S.secs ++ [i]).length (cells2 (wl (S.secs ++ [i]) (S.data ++ [bs])))
    rw [wl_append h.len, cells2_append, List.length_append, hst]
    exact own_weak (by have := h.hb; have := (Array.getElem?_eq_some_iff.1 H.out.blk).1; omega) H6.out.1
  · show (S.data ++ [bs]).length = (S.secs ++ [i]).length
    rw [List.length_append, List.length_append, h.len]
    rfl
  · intro x hx
    rcases List.mem_append.1 hx with hx | hx
    · exact h.wfs x hx
    · have hx : x = i := by simpa using hx
      subst hx
      exact hi'
  · show (S.secs ++ [i]).length ≤ 1000
    rw [List.length_append]
    exact hfz

set_option maxRecDepth 100000 in
set_option maxHeartbeats 4000000 in
theorem m_write_armed {w : World} {base mb : Nat} {L : Nat → Prop} {S : DS} (h : IsModel w base mb L S) (ho : S.off = false) (ha : S.armed = true) (hl2 : 2 ≤ S.left ∧ S.left ≤ 9223372036854775807) (hL : ∀ k, L k → k < base) {i : Int} (hi : inS S i = true) {bs : List Int} {s : ByteArray} (hs : strOfNums bs = s) (hz : bs.length = S.size) (hf : S.secs.length < 1000) (hw0 : 0 ≤ S.writes ∧ S.writes ≤ 1000000000) :
    Calls Try.prog 35 #[.pointer (some ⟨mb, 0, none⟩), .int .i64 i, .string s] w (MdPost w base mb L (putS { S with left := S.left - 1 } i bs) (.int .i64 0)) := by
  obtain ⟨kv, wv, kpv, h⟩ := h
  have hi' : 0 ≤ i ∧ i < S.kept.length := by simpa [inS] using hi
  have hsz : s.size = S.size := by rw [← hs, strOfNums_size, hz]
  have hlen : (s.size : Int) = (S.size : Int) := by omega
  obtain ⟨c0, c1, c2, c3, c4, c5, -, c7⟩ := h.cells
  rw [ho] at c3
  rw [ha] at c4
  obtain ⟨Ak, ck, rfl, -⟩ := own_form h.kept
  obtain ⟨Aw, cw, rfl, -⟩ := own_form h.wait
  obtain ⟨Ap, np, cp, rfl⟩ := h.form
  obtain ⟨i4, hi4, hq0, hq1, hq2⟩ := info_parts infoPend
  have hq3 : (Value.agg #[.int .i64 0, .string ⟨#[]⟩]).cells.size = 2 := rfl
  have hq4 : (0 : Nat) < 2 := by decide
  have hz1 : ((S.size : Int) != (S.size : Int)) = false := by simp
  have b0 : ¬ i < 0 := by omega
  have b1 : ¬ i ≥ (S.kept.length : Int) := by omega
  have hww : IntKind.i64.wrap (S.writes + 1) = S.writes + 1 := IntWalk.i64_in _ (by omega)
  have HS := Lib.hid (And.intro hs hsz)
  have f5 := h.fr 5
  have hwl : IntKind.i64.wrap (S.left - 1) = S.left - 1 := IntWalk.i64_in _ (by omega)
  have hl3 : ¬ S.left - 1 ≤ 0 := by omega
  have hm5 : Moves (fun k => k = mb) w (w.setCell ⟨mb, 5, none⟩ (.int .i64 (S.left - 1))) := Moves.setCell (p := ⟨mb, 5, none⟩) (Moves.refl (fun k => k = mb) w) (fun _ => rfl) _
  have H1 : Hid (ModelAt (w.setCell ⟨mb, 5, none⟩ (.int .i64 (S.left - 1))) base mb L { S with left := S.left - 1 } (.slice Ak S.kept.length ck) (.slice Aw S.secs.length cw) (.slice Ap np cp)) := Lib.hid (h.put (S' := { S with left := S.left - 1 }) hm5 (fun k hk _ e => by have := hL k hk; have := h.hb; omega) (by simp [World.setCell, Array.getElem?_modify, h.blk]) h.kept h.wait ⟨_, _, _, rfl⟩ h.keep h.len h.wfs h.few)
  have HM5 := Lib.hid hm5
  clear h hs hsz hz hm5 ha ho
  go_enter Try.func35, Try.ntmps35
  go_upto_region 10 with fail
  have H := H1
  clear H1 c0 c1 c2 c3 c4 c5 c7 f5
  obtain ⟨c0, c1, c2, c3, c4, c5, -, c7⟩ := H.out.cells
  generalize (w.setCell ⟨mb, 5, none⟩ (.int .i64 (S.left - 1))) = W at H HM5 c0 c1 c2 c3 c4 c5 c7 ⊢
  have HK : Hid ((cells2 (wl S.secs S.data)).length = S.secs.length * 2 ∧ (∀ u ∈ cells2 (wl S.secs S.data), u.oneCell' = true) ∧ Src (W.alloc (.cells #[] 129)) Aw S.secs.length (cells2 (wl S.secs S.data)) ∧ 0 + S.secs.length ≤ maxLen ∧ (0 + S.secs.length) * 24 ≤ 140737488355328 ∧ W.heap.size ≤ (W.alloc (.cells #[] 129)).heap.size ∧ (W.alloc (.cells #[] 129)).ownsRow W.heap.size 129 2 (.slice (some ⟨W.heap.size, 0, none⟩) 0 0) 0 []) :=
    Lib.hid ⟨by rw [cells2_len, wl_len], cells2_one _ _, src_own (H.out.wait.alloc _), by unfold maxLen; omega, by omega, by simp, World.ownsRow_made W #[] 0 (Nat.le_refl _) (by unfold maxLen; omega) (by simp)⟩
  have HN : Hid (S.secs.length + 1 ≤ maxLen ∧ (S.secs.length + 1) * 24 ≤ 140737488355328 ∧ ∀ u ∈ [Value.int .i64 i, .string s], u.oneCell' = true) := Lib.hid ⟨by unfold maxLen; omega, by omega, by simp [Value.oneCell']⟩
  have hfz := hf
  have hmbl : mb < W.heap.size := (Array.getElem?_eq_some_iff.1 H.out.blk).1
  go_wp2_with (first
    | (at_builtin; (refine wpList_append_src _ rfl (.tmp 54) (.tmp 58) 59 rfl W.heap.size 129 i4 _ 2 24 Try.underlying59 hi4 hq0 hq1 hq2 hq3 hq4 (.slice (some ⟨W.heap.size, 0, none⟩) 0 0) 0 [] rfl HK.out.2.2.2.2.2.2 Aw S.secs.length cw (cells2 (wl S.secs S.data)) rfl HK.out.1 HK.out.2.2.1 HK.out.2.1 HK.out.2.2.2.1 HK.out.2.2.2.2.1 HK.out.2.2.2.2.2.1 ?_)
       intro v5 w5 hn1 hg1 hl1
       have H5 : Hid (w5.ownsRow W.heap.size 129 2 v5 S.secs.length (cells2 (wl S.secs S.data)) ∧ Moves (fun _ => False) W w5) := Lib.hid ⟨by simpa using hn1, ((Moves.refl _ W).alloc _).grown hg1 (fun k hk hlt => by simp [Value.ownBlock] at hk; omega)⟩
       have hb5 : Hid (W.heap.size ≤ (w5.alloc (.cells #[.int .i64 i, .string s] 129)).heap.size) := Lib.hid (by have := H5.out.2.size; simp; omega)
       clear hn1 hg1 hl1)
    | (at_builtin; (refine wpList_append_src _ rfl (.tmp 59) (.tmp 63) 59 rfl W.heap.size 129 i4 _ 2 24 Try.underlying59 hi4 hq0 hq1 hq2 hq3 hq4 v5 S.secs.length (cells2 (wl S.secs S.data)) rfl (H5.out.1.alloc _) (some ⟨w5.heap.size, 0, none⟩) 1 1 [.int .i64 i, .string s] rfl rfl (fun _ => ⟨_, rfl, World.news_of_block (cs := #[.int .i64 i, .string s]) (t := 129) (fr := (0, 0)) (heap_alloc_new w5 _)⟩) HN.out.2.2 HN.out.1 HN.out.2.1 hb5.out ?_)
       intro v6 w6 hn1 hg1 hl1
       have H6 : Hid (w6.ownsRow W.heap.size 129 2 v6 (S.secs.length + 1) (cells2 (wl S.secs S.data) ++ [.int .i64 i, .string s]) ∧ Moves (fun _ => False) W w6) := Lib.hid ⟨hn1, (H5.out.2.alloc _).grown hg1 (fun k hk hlt => by have := (H5.out.1.lt k hk).1; omega)⟩
       have hD6 := H.out.moves0 H6.out.2
       obtain ⟨-, -, d2, -, -, -, -, d7⟩ := hD6.cells
       have e2 := hD6.fr 2
       have e7 := hD6.fr 7
       have HD6 := Lib.hid hD6
       obtain ⟨A6, k6, rfl, -⟩ := own_form H6.out.1
       clear hn1 hg1 hl1 hD6)
    | fail)
  go_ret
  have h := HD6.out
  have hm : Moves (fun k => k = mb) w6 ((w6.setCell ⟨mb, 2, none⟩ (.slice A6 (S.secs.length + 1) k6)).setCell ⟨mb, 7, none⟩ (.int .i64 (S.writes + 1))) := Moves.setCell (p := ⟨mb, 7, none⟩) (Moves.setCell (p := ⟨mb, 2, none⟩) (Moves.refl (fun k => k = mb) w6) (fun _ => rfl) _) (fun _ => rfl) _
  have hst : str bs = .string s := by unfold str; rw [HS.out.1]
  refine ⟨rfl, ⟨.slice Ak S.kept.length ck, .slice A6 (S.secs.length + 1) k6, .slice Ap np cp, h.put (S' := putS { S with left := S.left - 1 } i bs) (kv' := .slice Ak S.kept.length ck) (wv' := .slice A6 (S.secs.length + 1) k6) (kpv' := .slice Ap np cp) hm (fun k hk _ e => by have := hL k hk; have := h.hb; omega) (by simp [World.setCell, Array.getElem?_modify, h.blk, putS, pendS]) h.kept ?_ ⟨_, _, _, rfl⟩ h.keep ?_ ?_ ⟨?_, h.few.2⟩⟩, (HM5.out.trans (H6.out.2.none _)).trans hm⟩
  · show w6.ownsRow base 129 2 _ (S.secs ++ [i]).length (cells2 (wl (S.secs ++ [i]) (S.data ++ [bs])))
    rw [wl_append h.len, cells2_append, List.length_append, hst]
    exact own_weak (by have := h.hb; have := (Array.getElem?_eq_some_iff.1 H.out.blk).1; omega) H6.out.1
  · show (S.data ++ [bs]).length = (S.secs ++ [i]).length
    rw [List.length_append, List.length_append, h.len]
    rfl
  · intro x hx
    rcases List.mem_append.1 hx with hx | hx
    · exact h.wfs x hx
    · have hx : x = i := by simpa using hx
      subst hx
      exact hi'
  · show (S.secs ++ [i]).length ≤ 1000
    rw [List.length_append]
    exact hfz

set_option maxRecDepth 100000 in
set_option maxHeartbeats 4000000 in
theorem m_write_cut {w : World} {base mb : Nat} {L : Nat → Prop} {S : DS} (h : IsModel w base mb L S) (ho : S.off = false) (ha : S.armed = true) (hl2 : -1000000 ≤ S.left ∧ S.left ≤ 1) (hkl : S.keep.length ≤ 1000) (hL : ∀ k, L k → k < base) {i : Int} (hi : inS S i = true) {s : ByteArray} (hsz : s.size = S.size) :
    Calls Try.prog 35 #[.pointer (some ⟨mb, 0, none⟩), .int .i64 i, .string s] w (MdPost w base mb L (cutS { S with left := S.left - 1 } S.keep) (.int .i64 7)) := by
  obtain ⟨kv, wv, kpv, h⟩ := h
  have hi' : 0 ≤ i ∧ i < S.kept.length := by simpa [inS] using hi
  have hlen : (s.size : Int) = (S.size : Int) := by omega
  obtain ⟨c0, c1, c2, c3, c4, c5, c6, -⟩ := h.cells
  rw [ho] at c3
  rw [ha] at c4
  obtain ⟨Ak, ck, rfl, -⟩ := own_form h.kept
  obtain ⟨Aw, cw, rfl, -⟩ := own_form h.wait
  obtain ⟨Ap, np, cp, rfl⟩ := h.form
  have hz1 : ((S.size : Int) != (S.size : Int)) = false := by simp
  have b0 : ¬ i < 0 := by omega
  have b1 : ¬ i ≥ (S.kept.length : Int) := by omega
  have f5 := h.fr 5
  have hwl : IntKind.i64.wrap (S.left - 1) = S.left - 1 := IntWalk.i64_in _ (by omega)
  have hl3 : S.left - 1 ≤ 0 := by omega
  have hm5 : Moves (fun k => k = mb) w (w.setCell ⟨mb, 5, none⟩ (.int .i64 (S.left - 1))) := Moves.setCell (p := ⟨mb, 5, none⟩) (Moves.refl (fun k => k = mb) w) (fun _ => rfl) _
  have H1 : Hid (ModelAt (w.setCell ⟨mb, 5, none⟩ (.int .i64 (S.left - 1))) base mb L { S with left := S.left - 1 } (.slice Ak S.kept.length ck) (.slice Aw S.secs.length cw) (.slice Ap np cp)) := Lib.hid (h.put (S' := { S with left := S.left - 1 }) hm5 (fun k hk _ e => by have := hL k hk; have := h.hb; omega) (by simp [World.setCell, Array.getElem?_modify, h.blk]) h.kept h.wait ⟨_, _, _, rfl⟩ h.keep h.len h.wfs h.few)
  have HM5 := Lib.hid hm5
  have HA := Lib.hid ha
  clear h hm5 ha ho
  go_enter Try.func35, Try.ntmps35
  go_upto_region 8 with fail
  have H := H1
  clear H1 c0 c1 c2 c3 c4 c5 c6 f5
  obtain ⟨c0, c1, c2, c3, c4, c5, c6, c7⟩ := H.out.cells
  have hrow := H.out.keep HA.out
  generalize (w.setCell ⟨mb, 5, none⟩ (.int .i64 (S.left - 1))) = W at H HM5 c0 c1 c2 c3 c4 c5 c6 c7 hrow ⊢
  have HCUT := Lib.hid (m_cut (Lk := L) ⟨_, _, _, H.out⟩ hrow (fun k hk _ e => by have := hL k hk; have := H.out.hb; omega) hL hkl)
  clear hrow
  go_wp2_with fail
  refine HCUT.out.mono ?_
  rintro e w6 ⟨rfl, h6, hm6⟩
  have H6 := Lib.hid (And.intro h6 hm6)
  clear h6 hm6 HCUT c0 c1 c2 c3 c4 c5 c6 c7
  go_wp2
  go_ret
  exact ⟨rfl, H6.out.1, HM5.out.trans H6.out.2⟩
end Go.Proofs.Ytbfnmgjpkieaoaa.Pl
