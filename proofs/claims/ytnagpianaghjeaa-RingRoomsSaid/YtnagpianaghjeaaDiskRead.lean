/-
  A disk's read.
-/
import Derived.Test.YtnagpianaghjeaaDiskWrite
import Derived.BigQuiet
namespace Go.Proofs.Ytnagpianaghjeaa.Pl
open Go Go.RowKit Go.Maps Go.Sort Go.Proofs

/-- What a sector reads as, after the first n pending writes. -/
def rdN (S : DS) (i : Int) (n : Nat) : List Int := (List.range n).foldl (fun b k => if sF S.secs k = i then S.data.getD k [] else b) (S.kept.getD i.toNat [])
theorem rdN_succ (S : DS) (i : Int) (n : Nat) : rdN S i (n + 1) = if sF S.secs n = i then S.data.getD n [] else rdN S i n := by
  unfold rdN
  rw [List.range_succ, List.foldl_append]
  rfl
theorem rdN_none (S : DS) (i : Int) {n : Nat} (h : ∀ k, k < n → sF S.secs k ≠ i) : rdN S i n = S.kept.getD i.toNat [] := by
  induction n with
  | zero => rfl
  | succ n ih => rw [rdN_succ, if_neg (h n (by omega)), ih (fun k hk => h k (by omega))]

theorem rdN_size {S : DS} {n : Nat} (hK : ∀ x ∈ S.kept, x.length = S.size) (hd : ∀ x ∈ S.data, x.length = S.size) (hn : n ≤ S.data.length) (s : Nat) (hs : s < S.kept.length) : (rdN S s n).length = S.size := by
  induction n with
  | zero =>
    simp only [rdN, List.range_zero, List.foldl_nil, List.getD_eq_getElem?_getD, Int.toNat_natCast, List.getElem?_eq_getElem hs]
    exact hK _ (List.getElem_mem hs)
  | succ n ih =>
    rw [rdN_succ]
    split
    · rw [List.getD_eq_getElem?_getD, List.getElem?_eq_getElem (show n < S.data.length by omega)]
      exact hd _ (List.getElem_mem _)
    · exact ih (by omega)

theorem read_off {w : World} {base d : Nat} {S : DS} (h : IsDisk w base d S) (ho : S.off = true) (i : Int) : Calls Try.prog 62 #[.pointer (some ⟨d, 0, none⟩), .int .i64 i] w (SameP w (.tuple #[.slice none 0 0, .int .i64 7])) := by
  obtain ⟨kv, kvs, m, D, pvs, kpv, h⟩ := h
  obtain ⟨-, -, -, c3, -⟩ := h.cells
  rw [ho] at c3
  clear h ho
  go_enter Try.func62, Try.ntmps62
  go_wp2
  go_ret2
  exact ⟨rfl, rfl⟩
theorem Sec.row {w : World} {base : Nat} {v : Value} {xs : List Int} (h : Sec w base v xs) : Row w (fun _ => True) v (xs.map encB) := by
  obtain ⟨g, o, c, hv, hc, -, -, hl, hx⟩ := h.lt
  exact ⟨_, c, by rw [List.length_map]; exact hv, by rw [List.length_map]; exact hc, fun _ => ⟨g, o, rfl, trivial, hl, hx⟩⟩

def ReadPost (w : World) (bs : List Int) (e : Ending) (w' : World) : Prop := ∃ g, e = .returned (.tuple #[.slice (some ⟨g, 0, none⟩) bs.length bs.length, .int .i64 0]) ∧ w.heap.size ≤ g ∧ g < w'.heap.size ∧ (∀ j u, (bs.map encB)[j]? = some u → w'.cell? ⟨g, j, none⟩ = some u) ∧ Moves (fun _ => False) w w'

set_option maxRecDepth 100000 in
set_option maxHeartbeats 4000000 in
theorem read_ok {w : World} {base d : Nat} {S : DS} (h : IsDisk w base d S) (ho : S.off = false) {i : Int} (hi : inS S i = true) (hz0 : 0 < S.size) (hz1 : S.size ≤ 1000000) {bs : List Int} (hbs : rdN S i S.secs.length = bs) :
    Calls Try.prog 62 #[.pointer (some ⟨d, 0, none⟩), .int .i64 i] w (ReadPost w bs) := by
  have HIN := Lib.hid (in_any h hi)
  have hi' : 0 ≤ i ∧ i < S.kept.length := by simpa [inS] using hi
  obtain ⟨kv, kvs, m, D, pvs, kpv, h⟩ := h
  have HR := Lib.hid (row_any h)
  obtain ⟨s, rfl⟩ : ∃ s : Nat, i = s := ⟨i.toNat, by omega⟩
  have hkl : kvs.length = S.kept.length := h.secs.1
  have hs : s < kvs.length := by omega
  obtain ⟨Ak, ck, hkv, hck, hckm, -, -, hxk⟩ := own_form h.kept
  obtain ⟨gk, rfl, -, hgkl, hck1⟩ := hxk (by omega)
  subst hkv
  obtain ⟨-, c1, -, c3, -⟩ := h.cells
  rw [ho] at c3
  have hsec0 := h.secs.2 s hs (by omega)
  have hv0 := hck1 s _ (List.getElem?_eq_getElem hs)
  rw [show S.kept[s]'(by omega) = rdN S s 0 by simp [rdN, List.getD_eq_getElem?_getD, show s < S.kept.length by omega]] at hsec0
  generalize kvs[s] = vk at hsec0 hv0
  have HSL : Hid (s < S.kept.length) := Lib.hid (by omega)
  have HSEC := Lib.hid hsec0
  have H := Lib.hid h
  have HBS := Lib.hid hbs
  have b0 : (0 : Int) ≤ (s : Int) := by omega
  have b1 : (s : Int) < (kvs.length : Int) := by omega
  have hfew := h.few.1
  obtain ⟨gv, ov, cv, csv, hvv, -⟩ := hsec0
  generalize (rdN S s 0).length = nv at hvv
  subst hvv
  clear h hi hbs hxk hck1 hi' ho hs hkl csv
  go_enter Try.func62, Try.ntmps62
  go_wp2_with fail
  refine HIN.out.mono ?_
  rintro e w1 ⟨rfl, rfl⟩
  go_wp2_with fail
  refine HR.out.mono ?_
  rintro e w1 ⟨A, c, rfl, hrow, hm1⟩
  obtain ⟨A', c', hv', hc, hcm, hA, hB, hx⟩ := own_form hrow
  cases hv'
  have HX := Lib.hid hx
  have HM1 := Lib.hid hm1
  have HSEC1 := Lib.hid (HSEC.out.moves hm1 (fun _ _ _ h => h))
  clear hx hrow hm1 hB hA HR c1 c3 hv0
  go_wp2_with fail
  go_loopg [6, 29] S.secs.length (fun gg s6 s29 wr => ∃ j : Nat, j ≤ S.secs.length ∧ gg = S.secs.length - j ∧ s29 = .int .i64 j ∧ Sec wr base s6 (rdN S s j) ∧ Moves (fun _ => False) w1 wr)
  case atStart => exact ⟨0, Nat.zero_le _, rfl, rfl, HSEC1.out, Moves.refl _ _⟩
  case round =>
    obtain ⟨j, hj, hgj, rfl, hsj, hm⟩ := hrel
    by_cases hjn : j < S.secs.length
    · obtain ⟨gr, rfl, hgr, hgrl, hcell⟩ := HX.out (by omega)
      have hcg := cellsP_get (R := (List.range S.secs.length).map (fP (sF S.secs))) (k := j) (by simp; exact hjn)
      simp only [List.getElem_map, List.getElem_range, fP] at hcg
      have hv0 : wr.cell? ⟨gr, j * 2, none⟩ = some (.int .i64 j) := (hm.cell (p := ⟨gr, j * 2, none⟩) hgrl (fun h => h)).trans (hcell _ _ hcg.1)
      have hv1 : wr.cell? ⟨gr, j * 2 + 1, none⟩ = some (.int .i64 (sF S.secs j)) := (hm.cell (p := ⟨gr, j * 2 + 1, none⟩) hgrl (fun h => h)).trans (hcell _ _ hcg.2)
      have hmw := (HM1.out.trans hm).alloc (.cells #[.int .i64 j, .int .i64 (sF S.secs j)] 144)
      have hma := hm.alloc (.cells #[.int .i64 j, .int .i64 (sF S.secs j)] 144)
      have hD := H.out.moves0 hmw
      obtain ⟨-, -, d2, -⟩ := hD.cells
      have hpm : (((j : Int), sF S.secs j), vF pvs j) ∈ pl S.secs pvs := pl_mem hjn
      have hrun0 : ∀ q, (Instr.lookup 103 (.map (some m)) (.agg #[.int .i64 j, .int .i64 (sF S.secs j)]) false).run Try.prog ((wr.alloc (.cells #[.int .i64 j, .int .i64 (sF S.secs j)] 144)).drewN q) = .ok (vF pvs j) ((wr.alloc (.cells #[.int .i64 j, .int .i64 (sF S.secs j)] 144)).drewN q) := fun q => val_run (w := (wr.alloc (.cells #[.int .i64 j, .int .i64 (sF S.secs j)] 144)).drewN q) hD.map hD.pend hpm
      have hpb := cell2 wr (.int .i64 j) (.int .i64 (sF S.secs j)) 144
      have hdat : Sec (wr.alloc (.cells #[.int .i64 j, .int .i64 (sF S.secs j)] 144)) base (vF pvs j) (S.data.getD j []) := by
        have h1 : pvs.length = S.data.length := hD.data.1
        have h2 : S.data.length = S.secs.length := hD.len
        have := hD.data.2 j (show j < pvs.length by omega) (show j < S.data.length by omega)
        unfold vF
        rw [List.getD_eq_getElem?_getD, List.getD_eq_getElem?_getD, List.getElem?_eq_getElem (show j < pvs.length by omega), List.getElem?_eq_getElem (show j < S.data.length by omega)]
        exact this
      have hsj' := hsj.moves ((Moves.refl (fun _ => False) wr).alloc (.cells #[.int .i64 j, .int .i64 (sF S.secs j)] 144)) (fun _ _ _ h => h)
      have HNX := Lib.hid (rdN_succ S s j)
      have HSJ := Lib.hid hsj'
      have HDAT := Lib.hid hdat
      have HMA := Lib.hid hma
      have b2 : (0 : Int) ≤ (j : Int) := by omega
      have b3 : (j : Int) < (S.secs.length : Int) := by omega
      clear hcell hcg hD hpm hsj hsj' hdat hmw hma hm
      generalize sF S.secs j = sj at hv1 d2 hrun0 hpb HNX HSJ HDAT HMA
      generalize vF pvs j = vj at hrun0 HDAT
      obtain ⟨p0, p1⟩ := hpb
      have hpsz : wr.heap.size < (wr.alloc (.cells #[.int .i64 j, .int .i64 sj] 144)).heap.size := by simp
      by_cases e : sj = s
      · subst e
        have HN := Lib.hid (HNX.out.trans (if_pos rfl))
        go_wp2_with fail
        go_quiet (fail)
        go_wp2
        go_roundg (S.secs.length - (j + 1))
        case measure => omega
        case rel => exact ⟨j + 1, by omega, rfl, by go_num, by rw [HN.out]; exact HDAT.out, HMA.out.drewN _⟩
      · have he : (sj == (s : Int)) = false := by simpa using e
        have HN := Lib.hid (HNX.out.trans (if_neg e))
        clear e
        go_wp2_with fail
        go_roundg (S.secs.length - (j + 1))
        case measure => omega
        case rel => exact ⟨j + 1, by omega, rfl, by go_num, by rw [HN.out]; exact HSJ.out, HMA.out⟩
    · obtain rfl : j = S.secs.length := by omega
      rw [HBS.out] at hsj
      have hC := Lib.hid (cloneB hsj.row (by intro u hu; obtain ⟨b, _, rfl⟩ := List.mem_map.1 hu; rfl) (by
        rw [List.length_map, ← HBS.out]
        have : (rdN S s S.secs.length).length = S.size := rdN_size H.out.wf H.out.wfd (by have := H.out.len; omega) s HSL.out
        omega))
      have HM := Lib.hid (HM1.out.trans hm)
      obtain ⟨g6, o6, k6, cs6, rfl, -⟩ := hsj
      clear hm
      go_wp2_with fail
      refine hC.out.mono ?_
      rintro e w5 ⟨v5, rfl, hown5, hm5⟩
      rw [List.length_map] at hown5
      obtain ⟨A5, c5, rfl, hc5, hcm5, hA5, -, hx5⟩ := own_form hown5
      have hP := clipB w5 A5 bs.length c5 hc5 hcm5 hA5
      have HM5 := Lib.hid (HM.out.trans hm5)
      have HS5 := Lib.hid hm5
      have HX5 := Lib.hid hx5
      clear hown5 hm5 hc5 hcm5 hA5 hx5 hC
      go_wp2_with fail
      refine hP.mono ?_
      rintro e w6 ⟨rfl, rfl⟩
      clear hP
      have hpos : 0 < bs.length := by
        rw [← HBS.out]
        have : (rdN S s S.secs.length).length = S.size := rdN_size H.out.wf H.out.wfd (by have := H.out.len; omega) s HSL.out
        omega
      obtain ⟨g5, rfl, hg5, hgl5, hcell5⟩ := HX5.out hpos
      go_wp2
      go_ret2
      exact ⟨g5, rfl, Nat.le_trans HM.out.size hg5, hgl5, hcell5, HM5.out⟩
end Go.Proofs.Ytnagpianaghjeaa.Pl
