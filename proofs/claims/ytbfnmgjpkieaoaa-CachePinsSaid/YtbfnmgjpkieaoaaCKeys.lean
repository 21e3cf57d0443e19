/-
  A cache's dirty pages.
-/
import Derived.Test.YtbfnmgjpkieaoaaCPutE
import Derived.Test.YtbfnmgjpkieaoaaCSorted
namespace Go.Proofs.Ytbfnmgjpkieaoaa
open Go Go.RowKit Go.Maps Go.Sort Go.Proofs

set_option maxRecDepth 100000 in
set_option maxHeartbeats 1000000 in
theorem asks_dirty : Asks 67 (fun f => f.dirty) := by
  intro W dv f
  obtain ⟨k, data, here, dirty, mark, pins⟩ := f
  obtain ⟨k1, k2⟩ := k
  unfold fcells
  have hm0 := (Moves.refl (fun _ => False) W).alloc (.cells #[.int .i64 k1, .int .i64 k2, dv, .bool here, .bool dirty, .bool mark, .int .i64 pins] 124)
  obtain ⟨h3, h4, h6⟩ := cell7 W (.int .i64 k1) (.int .i64 k2) dv (.bool here) (.bool dirty) (.bool mark) (.int .i64 pins) 124
  go_enter Try.func67, Try.ntmps67
  go_wp2
  go_ret
  exact ⟨rfl, hm0⟩

def keysOf (q : FrS → Bool) (fs : List FrS) : List Pr := (fs.filter (fun f => f.here && q f)).map FrS.key
theorem keysOf_snoc (q : FrS → Bool) (fs : List FrS) (k : Nat) (h : k < fs.length) : keysOf q (fs.take (k + 1)) = keysOf q (fs.take k) ++ (if fs[k].here && q fs[k] then [fs[k].key] else []) := by
  unfold keysOf
  rw [List.take_succ_eq_append_getElem h, List.filter_append, List.map_append]
  congr 1
  simp only [List.filter_cons, List.filter_nil]
  split <;> simp_all
theorem keysOf_len (q : FrS → Bool) (fs : List FrS) : (keysOf q fs).length ≤ fs.length := by
  unfold keysOf
  rw [List.length_map]
  exact List.length_filter_le _ _

set_option maxRecDepth 100000 in
set_option maxHeartbeats 2000000 in
theorem keys_c {w : World} {base p lb m : Nat} {fs : List FrS} {hand : Nat} (h : IsCache w base p lb m fs hand) {g : Nat} {q : FrS → Bool} (hq : Asks g q) (eg : ∀ args w, (callFunc g args).run Try.prog w = .ok (.enter g args) w) :
    Calls Try.prog 66 #[.pointer (some ⟨p, 0, none⟩), .func (.func g) #[] #[]] w (KeysPost w (sortK (keysOf q fs))) := by
  obtain ⟨i4, hi4, hq0, hq1, hq2⟩ := info_parts infoK
  have hq3 : ((.agg #[.int .i64 0, .int .i64 0]) : Value).cells.size = 2 := rfl
  have hq4 : (0 : Nat) < 2 := by decide
  have HQ := Lib.hid hq
  have H := Lib.hid h
  have hfew : fs.length ≤ 64 := by obtain ⟨D, dvs, h⟩ := h; exact h.few.2
  obtain ⟨c0, -, -⟩ := h.cells
  clear hq h
  go_enter Try.func66, Try.ntmps66
  go_wp2
  go_loopg [5, 13] fs.length (fun gg s5 s13 wr => ∃ k : Nat, k ≤ fs.length ∧ gg = fs.length - k ∧ s13 = .int .i64 k ∧ Hid (Moves (fun _ => False) w wr) ∧ Hid (wr.ownsRow w.heap.size 43 2 s5 (keysOf q (fs.take k)).length (cellsP (keysOf q (fs.take k)))))
  case atStart => exact ⟨0, Nat.zero_le _, rfl, rfl, Lib.hid (Moves.refl _ w), Lib.hid (World.ownsRow_nil _ _ _ _)⟩
  case round =>
    obtain ⟨k, hk, rfl, rfl, HM, HO⟩ := hrel
    by_cases hlt : k < fs.length
    · obtain ⟨D, dvs, hc⟩ := H.out.moves0 HM.out
      obtain ⟨dv, r0, r1, r2, r3, r4, r5, r6, hdo⟩ := row_cells hc hlt
      obtain ⟨Ad, cd, rfl, -⟩ := own_form hdo
      clear hc hdo
      have HK := Lib.hid (keysOf_snoc q fs k hlt)
      have hll : (keysOf q (fs.take k)).length ≤ 64 := Nat.le_trans (keysOf_len _ _) (by simp; omega)
      have HC := Lib.hid (fun W => HQ.out W (.slice Ad fs[k].data.length cd) fs[k])
      generalize hy : fs[k] = y at r0 r1 r2 r3 r4 r5 r6 HK HC
      have HY := Lib.hid hy
      clear hy
      have hlz : (k : Int) < (fs.length : Int) := by omega
      obtain ⟨yk, data, here, dirty, mark, pins⟩ := y
      obtain ⟨k1, k2⟩ := yk
      generalize keysOf q (fs.take k) = ks at HO HK hll
      have HLL := Lib.hid hll
      unfold fcells at HC
      cases here with
      | false =>
        go_wp2
        go_roundg (fs.length - (k + 1))
        case measure => omega
        case rel => exact ⟨k + 1, by omega, rfl, by go_num, Lib.hid (HM.out.alloc _), by rw [HK.out]; simpa using Lib.hid (HO.out.alloc _)⟩
      | true =>
        have hma := (Moves.refl (fun _ => False) wr).alloc (.cells #[.int .i64 k1, .int .i64 k2, .slice Ad data.length cd, .bool true, .bool dirty, .bool mark, .int .i64 pins] 124)
        have hnb := heap_alloc_new wr (.cells #[.int .i64 k1, .int .i64 k2, .slice Ad data.length cd, .bool true, .bool dirty, .bool mark, .int .i64 pins] 124)
        have HMA := Lib.hid (And.intro (HM.out.trans hma) (And.intro hnb (HO.out.alloc (.cells #[.int .i64 k1, .int .i64 k2, .slice Ad data.length cd, .bool true, .bool dirty, .bool mark, .int .i64 pins] 124))))
        clear hma hnb
        cases hqy : q ⟨(k1, k2), data, true, dirty, mark, pins⟩ with
        | false =>
          rw [hqy] at HK
          go_wp2_with (first
            | (go_at_fn g; refine (HC.out _).mono ?_; rintro e w' ⟨rfl, hm'⟩; rw [hqy])
            | fail)
          go_roundg (fs.length - (k + 1))
          case measure => omega
          case rel => exact ⟨k + 1, by omega, rfl, by go_num, Lib.hid (HMA.out.1.trans hm'), by rw [HK.out]; simpa using Lib.hid (own_moves HMA.out.2.2 hm' (fun _ _ h => h))⟩
        | true =>
          rw [hqy] at HK
          have h1 : ks.length + 1 ≤ maxLen := by unfold maxLen; omega
          have h2 : (ks.length + 1) * 16 ≤ 140737488355328 := by omega
          have hone : ∀ u ∈ [Value.int .i64 k1, Value.int .i64 k2], u.oneCell' = true := by simp [Value.oneCell']
          have HN := Lib.hid (And.intro h1 (And.intro h2 hone))
          clear h1 h2 hone
          go_wp2_with (first
            | (go_at_fn g; refine (HC.out _).mono ?_; rintro e w' ⟨rfl, hm'⟩; rw [hqy]
               have hfb := (hm'.block wr.heap.size (by simp) (fun h => h)).trans HMA.out.2.1
               have n0 : w'.cell? ⟨wr.heap.size, 0, none⟩ = some (.int .i64 k1) := by simp [World.cell?, hfb]
               have n1 : w'.cell? ⟨wr.heap.size, 1, none⟩ = some (.int .i64 k2) := by simp [World.cell?, hfb]
               have HO5 := Lib.hid (own_moves HMA.out.2.2 hm' (fun _ _ h => h))
               have HM5 := Lib.hid (HMA.out.1.trans hm')
               have h3 : Hid (w.heap.size ≤ (w'.alloc (.cells #[.int .i64 k1, .int .i64 k2] 43)).heap.size) := Lib.hid (by have := HM5.out.size; simp; omega)
               clear hfb hm')
            | (at_builtin; go_must (refine wpList_append_src _ rfl (.tmp 24) (.tmp 27) 53 rfl w.heap.size 43 i4 _ 2 16 Try.underlying53 hi4 hq0 hq1 hq2 hq3 hq4 u5 ks.length (cellsP ks) rfl (HO5.out.alloc _) (some ⟨w'.heap.size, 0, none⟩) 1 1 [.int .i64 k1, .int .i64 k2] rfl rfl (fun _ => ⟨_, rfl, World.news_of_block (cs := #[.int .i64 k1, .int .i64 k2]) (t := 43) (fr := (0, 0)) (heap_alloc_new w' _)⟩) HN.out.2.2 HN.out.1 HN.out.2.1 h3.out ?_)
               intro v1 w3 hn1 hg1 hl1
               have HN1 := Lib.hid hn1
               have HM6 := Lib.hid ((HM5.out.alloc _).grown hg1 (fun g hg hlt => by have := (HO5.out.lt g hg).1; omega))
               clear hn1 hg1 hl1)
            | fail)
          go_roundg (fs.length - (k + 1))
          case measure => omega
          case rel =>
            refine ⟨k + 1, by omega, rfl, by go_num, HM6, ?_⟩
            rw [HK.out]
            simp only [Bool.and_self, if_true, List.length_append, List.length_cons, List.length_nil, cellsP_append]
            exact HN1
    · have hlz : ¬ (k : Int) < (fs.length : Int) := by omega
      obtain rfl : k = fs.length := by omega
      rw [List.take_length] at HO
      have hkl : (keysOf q fs).length ≤ 1000000 := Nat.le_trans (keysOf_len _ _) (by omega)
      obtain ⟨A, c, rfl, hc1, -, -, -⟩ := own_form HO.out
      obtain ⟨A', c', hA', -, -, -, hkr⟩ := krow_of_own (c' := c) HO.out rfl
      injection hA' with e1 _ e2
      subst e1 e2
      have HS := Lib.hid (sorted_any (hkr hc1) hkl rfl)
      clear hkr hc1 HO
      go_wp2_with fail
      refine HS.out.mono ?_
      rintro e w' ⟨v', rfl, hk', hm'⟩
      go_wp2
      go_ret
      exact ⟨_, rfl, hk'.mono (fun i hi _ => Nat.le_trans HM.out.size hi), HM.out.trans hm'⟩

set_option maxRecDepth 100000 in
set_option maxHeartbeats 1000000 in
theorem dirty_c {w : World} {base p lb m : Nat} {fs : List FrS} {hand : Nat} (h : IsCache w base p lb m fs hand) :
    Calls Try.prog 33 #[.pointer (some ⟨p, 0, none⟩)] w (KeysPost w (sortK (keysOf FrS.dirty fs))) := by
  have HK := Lib.hid (keys_c h asks_dirty (enters_of Try.func67 rfl rfl))
  clear h
  go_enter Try.func33, Try.ntmps33
  go_wp2_with fail
  refine HK.out.mono ?_
  rintro e w' ⟨v', rfl, hk', hm'⟩
  go_wp2
  go_ret
  exact ⟨_, rfl, hk', hm'⟩
end Go.Proofs.Ytbfnmgjpkieaoaa
