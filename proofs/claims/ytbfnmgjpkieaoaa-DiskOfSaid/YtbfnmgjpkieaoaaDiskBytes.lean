/-
  All that a disk keeps: slices.Concat over its sectors.
-/
import Derived.Test.YtbfnmgjpkieaoaaDiskTwin
import Derived.Test.YtbfnmgjpkieaoaaLayGrow
namespace Go.Proofs.Ytbfnmgjpkieaoaa.Pl
open Go Go.RowKit Go.Maps Go.Sort Go.Proofs

/-- How many bytes the first k rows have. -/
def tot (K : List (List Int)) (k : Nat) : Nat := ((K.take k).flatten).length
theorem tot_zero (K : List (List Int)) : tot K 0 = 0 := rfl
theorem tot_succ {K : List (List Int)} {k : Nat} (h : k < K.length) : tot K (k + 1) = tot K k + K[k].length := by
  unfold tot
  rw [List.take_succ_eq_append_getElem h, List.flatten_append, List.length_append]
  simp only [List.flatten_cons, List.flatten_nil, List.append_nil]
theorem flat_succ {K : List (List Int)} {k : Nat} (h : k < K.length) : (K.take (k + 1)).flatten = (K.take k).flatten ++ K[k] := by
  rw [List.take_succ_eq_append_getElem h, List.flatten_append]
  simp only [List.flatten_cons, List.flatten_nil, List.append_nil]
theorem tot_le {K : List (List Int)} {z : Nat} (hz : ∀ x ∈ K, x.length = z) : ∀ k, k ≤ K.length → tot K k = k * z := by
  intro k
  induction k with
  | zero => intro _; simp [tot_zero]
  | succ k ih =>
    intro hk
    rw [tot_succ (by omega), ih (by omega), hz _ (List.getElem_mem _), Nat.succ_mul]
theorem tot_mono {K : List (List Int)} {z : Nat} (hz : ∀ x ∈ K, x.length = z) {k n : Nat} (h : k ≤ n) (hn : n ≤ K.length) : tot K k ≤ tot K n := by
  rw [tot_le hz k (by omega), tot_le hz n hn]
  exact Nat.mul_le_mul_right z h
def CatPost (w : World) (xs : List Int) (e : Ending) (w' : World) : Prop := ∃ v, e = .returned v ∧ w'.ownsRow w.heap.size 5 1 v xs.length (xs.map encB) ∧ Moves (fun _ => False) w w'

def GrowPost (w : World) (e : Ending) (w' : World) : Prop := ∃ G, e = .returned (.slice (some ⟨w.heap.size, 0, none⟩) 0 G) ∧ w'.ownsRow w.heap.size 5 1 (.slice (some ⟨w.heap.size, 0, none⟩) 0 G) 0 [] ∧ Moves (fun _ => False) w w'
theorem grow_nil {N : Nat} (h0 : 1 ≤ N) (h1 : N ≤ 1000000000) (w : World) : Calls Try.prog 90 #[.slice none 0 0, .int .i64 N] w (GrowPost w) := by
  obtain ⟨i5, hi5, hp0, hp1, hp2⟩ := info_parts infoB
  have HG := Any8.slices_Grow_grow Try.growB i5 (.int .u8 0) hi5 hp0 (by rw [hp1]; decide) none 0 0 N [] w (Nat.le_refl _) (by omega) (by rw [hp2]; omega) (by omega) (by simp) (fun _ => rfl) (fun a h => by cases h)
  have hgm : grownCap w (0 + N) 0 5 ≤ maxLen := grownCap_le_maxLen w _ _ _ (by unfold maxLen; omega)
  have hgg := grownCap_ge w (0 + N) 0 5
  refine HG.mono ?_
  rintro e w1 ⟨he, hw⟩
  subst hw
  refine ⟨_, he, ?_, (Moves.refl _ w).drew.alloc _⟩
  refine World.ownsRow_made (e := 5) (size := 1) (base := w.heap.size) w.drew _ _ (Nat.le_refl _) hgm ?_
  simp only [Array.size_append, size_zeroCells, List.size_toArray, List.length_nil]
  have e1 : (Value.int .u8 0).cells.size = 1 := rfl
  show 0 + (0 + N - 0) * (Value.int .u8 0).cells.size + (grownCap w (0 + N) 0 5 - (0 + N)) * (Value.int .u8 0).cells.size = grownCap w (0 + N) 0 5 * 1
  rw [e1]; omega

set_option maxRecDepth 100000 in
set_option maxHeartbeats 2000000 in
theorem concat_any {w : World} {base z : Nat} {kv : Value} {kvs : List Value} {K : List (List Int)} (hkept : w.ownsRow base 29 1 kv kvs.length kvs) (hsec : All2 (Sec w base) kvs K) (hz : ∀ x ∈ K, x.length = z) (hz0 : 1 ≤ z ∧ z ≤ 1024) (hn : 1 ≤ K.length ∧ K.length ≤ 16384) :
    Calls Try.prog 70 #[kv] w (CatPost w K.flatten) := by
  obtain ⟨i5, hi5, hp0, hp1, hp2⟩ := info_parts infoB
  have hq3 : ((.int .u8 0) : Value).cells.size = 1 := rfl
  have hq4 : (0 : Nat) < 1 := by decide
  have hl := hsec.1
  have htot : tot K K.length ≤ 16777216 ∧ 1 ≤ tot K K.length := by
    rw [tot_le hz _ (Nat.le_refl _)]
    constructor
    · calc K.length * z ≤ 16384 * 1024 := Nat.mul_le_mul hn.2 hz0.2
        _ = 16777216 := rfl
    · exact Nat.le_trans (by decide : 1 ≤ 1 * 1) (Nat.mul_le_mul hn.1 hz0.1)
  have HTOT := Lib.hid htot
  obtain ⟨A, c, rfl, hc, hcm, -, -, hx⟩ := own_form hkept
  obtain ⟨g, rfl, -, hgl, hcell⟩ := hx (by omega)
  have HCELL := Lib.hid hcell
  have HSEC := Lib.hid hsec
  have HMONO := Lib.hid (fun k (hk : k ≤ K.length) => tot_mono hz hk (Nat.le_refl K.length))
  have hnz : (kvs.length : Int) = (K.length : Int) := by omega
  rw [hl]
  clear hcell hsec hx hkept htot hnz hz
  go_enter Try.func70, Try.ntmps70
  go_wp2_with fail
  go_loopg [3, 11] K.length (fun gg s3 s11 wr => ∃ k : Nat, k ≤ K.length ∧ gg = K.length - k ∧ s11 = .int .i64 k ∧ s3 = .int .i64 (tot K k : Nat) ∧ wr = w)
  case atStart => exact ⟨0, Nat.zero_le _, rfl, rfl, rfl, rfl⟩
  case round =>
    obtain ⟨k, hk, rfl, rfl, rfl, rfl⟩ := hrel
    by_cases hlt : k < K.length
    · have hkv : k < kvs.length := by omega
      have hkz : (k : Int) < (K.length : Int) := by omega
      have hk0 : (0 : Int) ≤ (k : Int) := by omega
      have q0 := HCELL.out k kvs[k] (List.getElem?_eq_getElem hkv)
      obtain ⟨g1, o1, c1, cs1, hv1, -⟩ := HSEC.out.2 k hkv hlt
      rw [hv1] at q0
      have hts := tot_succ hlt
      have ht1 := HMONO.out (k + 1) hlt
      have ht2 := HTOT.out.1
      have htw : IntKind.i64.wrap ((tot K k : Int) + (K[k].length : Int)) = (tot K k : Int) + (K[k].length : Int) := IntWalk.i64_in _ (by omega)
      have htn : ¬ (tot K k : Int) + (K[k].length : Int) < 0 := by omega
      have HTS := Lib.hid hts
      clear hv1 hts ht1 ht2
      generalize tot K k = tk at HTS htw htn ⊢
      generalize K[k].length = lk at HTS htw htn q0 ⊢
      go_wp2_with fail
      go_roundg (K.length - (k + 1))
      case measure => omega
      case rel => exact ⟨k + 1, by omega, rfl, by go_num, by rw [HTS.out]; go_num, rfl⟩
    · obtain rfl : k = K.length := by omega
      have hkz : ¬ (K.length : Int) < (K.length : Int) := by omega
      obtain ⟨wo, rfl⟩ : ∃ x, x = wr := ⟨wr, rfl⟩
      have HG := Lib.hid (grow_nil HTOT.out.2 (by have := HTOT.out.1; omega) wo)
      go_wp2_with fail
      refine HG.out.mono ?_
      rintro e w1 ⟨G, rfl, hown1, hm1⟩
      have H1 := Lib.hid (And.intro hown1 hm1)
      clear hown1 hm1 HG
      go_wp2_with fail
      go_loopg [6, 27] K.length (fun gg s6 s27 wq => ∃ k : Nat, k ≤ K.length ∧ gg = K.length - k ∧ s27 = .int .i64 k ∧ Hid (wq.ownsRow wo.heap.size 5 1 s6 (tot K k) ((K.take k).flatten.map encB) ∧ Moves (fun _ => False) wo wq))
      case atStart => exact ⟨0, Nat.zero_le _, rfl, rfl, Lib.hid ⟨H1.out.1, H1.out.2⟩⟩
      case round =>
        obtain ⟨k, hk, rfl, rfl, HI⟩ := hrel
        by_cases hlt : k < K.length
        · have hkv : k < kvs.length := by omega
          have hkz : (k : Int) < (K.length : Int) := by omega
          have hk0 : (0 : Int) ≤ (k : Int) := by omega
          have q0 := (HI.out.2.cell (p := ⟨g, k, none⟩) hgl (fun h => h)).trans (HCELL.out k kvs[k] (List.getElem?_eq_getElem hkv))
          obtain ⟨g1, o1, c1, cs1, hv1, hc1, -, -, hg1, hx1⟩ := HSEC.out.2 k hkv hlt
          rw [hv1] at q0
          have hlt1 := (Array.getElem?_eq_some_iff.1 hg1).1
          have hsrc : Src wr (some ⟨g1, o1, none⟩) K[k].length (K[k].map encB) := fun h0 => ⟨_, rfl, fun j u hu => by
            have e1 : (⟨g1, o1, none⟩ : Addr).add j = ⟨g1, o1 + j, none⟩ := by unfold Addr.add; split <;> simp_all
            rw [e1]
            exact (HI.out.2.cell (p := ⟨g1, o1 + j, none⟩) hlt1 (fun h => h)).trans (hx1 j u hu)⟩
          have hts := tot_succ hlt
          have ht1 := HMONO.out (k + 1) hlt
          have ht2 := HTOT.out.1
          have h1 : tot K k + K[k].length ≤ maxLen := by unfold maxLen; omega
          have h2 : (tot K k + K[k].length) * 1 ≤ 140737488355328 := by omega
          have h3 := HI.out.2.size
          have HQ : Hid ((K[k].map encB).length = K[k].length * 1 ∧ (∀ u ∈ K[k].map encB, u.oneCell' = true) ∧ Src wr (some ⟨g1, o1, none⟩) K[k].length (K[k].map encB) ∧ tot K k + K[k].length ≤ maxLen ∧ (tot K k + K[k].length) * 1 ≤ 140737488355328 ∧ wo.heap.size ≤ wr.heap.size) := Lib.hid ⟨by simp, fun u hu => by obtain ⟨b, _, rfl⟩ := List.mem_map.1 hu; rfl, hsrc, h1, h2, h3⟩
          have HF : Hid (tot K (k + 1) = tot K k + K[k].length ∧ (K.take (k + 1)).flatten.map encB = (K.take k).flatten.map encB ++ K[k].map encB) := Lib.hid ⟨hts, by rw [flat_succ hlt, List.map_append]⟩
          clear hsrc hts ht1 ht2 h1 h2 h3 hv1 hc1 hg1 hx1 hlt1
          obtain ⟨A6, c6, hv6, -⟩ := own_form HI.out.1
          subst hv6
          go_wp2_with (first
            | (at_builtin; go_must (refine wpList_append_src _ rfl (.tmp 31) (.tmp 32) 29 rfl wo.heap.size 5 i5 _ 1 1 Try.underlying29 hi5 hp0 hp1 hp2 hq3 hq4 (.slice A6 (tot K k) c6) (tot K k) ((K.take k).flatten.map encB) rfl HI.out.1 (some ⟨g1, o1, none⟩) K[k].length c1 (K[k].map encB) rfl HQ.out.1 HQ.out.2.2.1 HQ.out.2.1 HQ.out.2.2.2.1 HQ.out.2.2.2.2.1 HQ.out.2.2.2.2.2 ?_)
               intro v1 w3 hn1 hg1 hl1
               have H3 := Lib.hid (And.intro hn1 (HI.out.2.grown hg1 (fun j hj hlt => by have := (HI.out.1.lt j hj).1; omega)))
               clear hn1 hg1 hl1)
            | fail)
          go_roundg (K.length - (k + 1))
          case measure => omega
          case rel => exact ⟨k + 1, by omega, rfl, by go_num, by rw [HF.out.1, HF.out.2]; exact H3⟩
        · obtain rfl : k = K.length := by omega
          have hkz : ¬ (K.length : Int) < (K.length : Int) := by omega
          have H := HI.out
          rw [List.take_length] at H
          have e1 : tot K K.length = K.flatten.length := by unfold tot; rw [List.take_length]
          rw [e1] at H
          have HR := Lib.hid H
          clear H e1 HI
          go_wp2_with fail
          go_ret
          exact ⟨_, rfl, HR.out.1, HR.out.2⟩

def BytesPost (w : World) (xs : List Int) (e : Ending) (w' : World) : Prop := ∃ v, e = .returned v ∧ Row w' (fun k => w.heap.size ≤ k) v (xs.map encB) ∧ Moves (fun _ => False) w w'
set_option maxRecDepth 100000 in
set_option maxHeartbeats 1000000 in
theorem bytes_any {w : World} {base d : Nat} {S : DS} (h : IsDisk w base d S) (hz0 : 1 ≤ S.size ∧ S.size ≤ 1024) (hn : 1 ≤ S.kept.length) {xs : List Int} (hxs : S.kept.flatten = xs) :
    Calls Try.prog 40 #[.pointer (some ⟨d, 0, none⟩)] w (BytesPost w xs) := by
  obtain ⟨kv, kvs, m, D, pvs, kpv, h⟩ := h
  obtain ⟨-, c1, -⟩ := h.cells
  have HC := Lib.hid (concat_any h.kept h.secs h.wf hz0 ⟨hn, h.few.2⟩)
  rw [hxs] at HC
  obtain ⟨Ak, ck, rfl, -⟩ := own_form h.kept
  clear h hxs
  go_enter Try.func40, Try.ntmps40
  go_wp2_with fail
  refine HC.out.mono ?_
  rintro e w1 ⟨v1, rfl, hown, hm1⟩
  obtain ⟨A, c, rfl, hc, hcm, hA, -, hx⟩ := own_form hown
  have HP := Lib.hid (clipB w1 A xs.length c hc hcm hA)
  have hrow : Row w1 (fun k => w.heap.size ≤ k) (.slice A xs.length xs.length) (xs.map encB) := by
    refine ⟨A, xs.length, by rw [List.length_map], by rw [List.length_map]; exact Nat.le_refl _, fun h0 => ?_⟩
    rw [List.length_map] at h0
    obtain ⟨g, hg, hgb, hgl, hcell⟩ := hx h0
    exact ⟨g, 0, hg, hgb, hgl, fun j u hu => by rw [Nat.zero_add]; exact hcell j u hu⟩
  have HR := Lib.hid (And.intro hrow hm1)
  clear hown hx hrow hm1 hc hcm hA HC
  go_wp2_with fail
  refine HP.out.mono ?_
  rintro e w2 ⟨rfl, rfl⟩
  go_wp2
  go_ret
  exact ⟨_, rfl, HR.out.1, HR.out.2⟩
end Go.Proofs.Ytbfnmgjpkieaoaa.Pl
