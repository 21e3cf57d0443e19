/-
  The walk of RingBytes.
-/
import Derived.Test.YtnagpianaghjeaaBdRingBytes26
import Derived.Test.YtnagpianaghjeaaBdRingBytes27
namespace Go.Proofs.Ytnagpianaghjeaa.Rg
open Go Go.RowKit Go.Proofs Go.Proofs.Ytnagpianaghjeaa.Sl
open Pl (DS IsDisk DOwn DPost DMv DKeep Clear DiskAt All2 ch ofS)

def secK (xs : List Int) (k z : Nat) : List (List Int) := (List.finRange k).map fun x => ch xs z x.val
theorem secK_len (xs : List Int) (k z : Nat) : (secK xs k z).length = k := by simp [secK]
theorem secK_good {xs : List Int} {k z : Nat} (hl : xs.length = k * z) (hb : ∀ x ∈ xs, 0 ≤ x ∧ x < 256) : ∀ i, i < (secK xs k z).length → ((secK xs k z).getD i []).length = z ∧ ∀ x ∈ (secK xs k z).getD i [], 0 ≤ x ∧ x < 256 := fun i hi => by
  rw [secK_len] at hi
  have e : (secK xs k z).getD i [] = ch xs z i := by
    unfold secK
    rw [List.getD_eq_getElem?_getD, List.getElem?_map, List.getElem?_eq_getElem (by simpa using hi)]
    simp
  rw [e]
  exact ⟨Pl.ch_len hl hi, fun x hx => hb x (List.mem_of_mem_drop (List.mem_of_mem_take hx))⟩
theorem loadN_len {F : Nat → List Int} {z u : Nat} : ∀ (c p : Nat) (L M : List (List Int)), loadN F z u c p L = some M → M.length = L.length + c := by
  intro c
  induction c with
  | zero =>
    intro p L M h
    unfold loadN at h
    split at h
    · cases h; rfl
    · cases h
  | succ c ih =>
    intro p L M h
    unfold loadN at h
    split at h
    · cases h
    split at h
    · cases h
    simp only [] at h
    split at h
    · cases h
    have := ih _ _ _ h
    rw [this, List.length_append]
    simp; omega
set_option maxRecDepth 100000 in
set_option maxHeartbeats 4000000 in
theorem rbytes_skip {w : World} {A : Option Addr} {N c : Nat} {z s n : Int} (h : 6000 < N ∨ (N ≤ 6000 ∧ (z < 64 ∨ 1024 < z ∨ (N : Int) % z ≠ 0 ∨ N = 0))) : Calls Try.prog 9 #[.slice A N c, .int .i64 z, .int .i64 s, .int .i64 n] w (TrueQ w) := by
  have HKN := Lib.hid (fun W => rknown_any W)
  by_cases g1 : 6000 < N
  · have g2 : (6000 : Int) < (N : Int) := by omega
    clear h g1
    go_enter Try.func9, Try.ntmps9
    go_wp2_with fail
    refine (HKN.out _).mono ?_
    rintro e w0 ⟨rfl, hm0⟩
    go_wp2
    go_ret
    exact ⟨rfl, hm0⟩
  · have hb : z < 64 ∨ 1024 < z ∨ (N : Int) % z ≠ 0 ∨ N = 0 := by
      rcases h with h | h
      · exact absurd h g1
      · exact h.2
    have HBAD := Lib.hid (fun W => Pl.of_bad hb (by omega) A c W)
    have g2 : ¬ (6000 : Int) < (N : Int) := by omega
    clear h hb g1
    go_enter Try.func9, Try.ntmps9
    go_wp2_with fail
    refine (HKN.out _).mono ?_
    rintro e w0 ⟨rfl, hm0⟩
    go_wp2_with fail
    refine (HBAD.out _).mono ?_
    rintro e w1 ⟨rfl, rfl⟩
    go_wp2
    go_ret
    exact ⟨rfl, hm0⟩
/-- A disk made of bytes, in the walk. -/
def DkQ (w : World) (z : Nat) (K : List (List Int)) (W : World) (base d : Nat) : Prop := IsDisk W base d (calmS z K false 0 [] 0) ∧ Moves (fun _ => False) w W ∧ w.heap.size ≤ base
set_option maxRecDepth 100000 in
set_option maxHeartbeats 4000000 in
theorem rbytes_bad {w : World} {g o c N k z : Nat} {xs : List Int} {s n : Int} (hv : BRow w (fun _ => True) (.slice (some ⟨g, o, none⟩) N c) xs) (hl : xs.length = N) (hN : N = k * z) (hk : 1 ≤ k ∧ k ≤ 300) (hz : 64 ≤ z ∧ z ≤ 1024) (h6 : N ≤ 6000) (hs : s < 0 ∨ n < 8 ∨ (k : Int) < s ∨ (k : Int) - s < n) :
    Calls Try.prog 9 #[.slice (some ⟨g, o, none⟩) N c, .int .i64 z, .int .i64 s, .int .i64 n] w (TrueQ w) := by
  have HKN := Lib.hid (fun W => rknown_any W)
  have HOF : Hid (∀ W, Moves (fun _ => False) w W → Calls Try.prog 25 #[.slice (some ⟨g, o, none⟩) N c, .int .i64 z] W (Pl.OfPost W z (secK xs k z))) := Lib.hid (fun W hW => by
    obtain ⟨⟨A, c', hA, hc, hx⟩, hb, hlen⟩ := hv.moves hW (fun _ _ _ e => e)
    injection hA with e1 e2 e3
    subst e1 e3
    rw [List.length_map] at hc hx
    obtain ⟨g', o', he, -, hgl, hcell⟩ := hx (by have : 1 * 64 ≤ k * z := Nat.mul_le_mul hk.1 hz.1; omega)
    injection he with he
    injection he with e4 e5
    subst e4 e5
    exact Pl.of_ok hN hl hk hz (by omega) (by omega) hgl hcell)
  have HKL : Hid ((secK xs k z).length = k) := Lib.hid (secK_len xs k z)
  have HS := Lib.hid hs
  have HKB := Lib.hid hk
  have g2 : ¬ (6000 : Int) < (N : Int) := by omega
  have k0 : (0 : Int) ≤ (k : Int) := by omega
  have k1 : (k : Int) ≤ 300 := by omega
  generalize secK xs k z = K at HOF HKL
  clear hv hl hN hk hz h6 hs
  go_enter Try.func9, Try.ntmps9
  go_wp2_with fail
  refine (HKN.out _).mono ?_
  rintro e w0 ⟨rfl, hm0⟩
  go_wp2_with fail
  refine (HOF.out _ hm0).mono ?_
  rintro e w1 ⟨d, rfl, hd, hm1⟩
  have hd : IsDisk w1 w0.heap.size d (calmS z K false 0 [] 0) := hd
  have HSH := Lib.hid (Pl.shape_any hd)
  rw [show (calmS z K false 0 [] 0).kept.length = k from HKL.out, show (calmS z K false 0 [] 0).size = z from rfl] at HSH
  have HM1 := Lib.hid (hm0.trans hm1)
  have HD := Lib.hid hd
  clear hd hm0 hm1
  go_wp2_with fail
  refine HSH.out.mono ?_
  rintro e w2 ⟨rfl, hm2⟩
  have HOP := Lib.hid (ropen_bad (HD.out.moves0 hm2) (s := s) (n := n) (by show s < 0 ∨ n < 8 ∨ (K.length : Int) < n ∨ (K.length : Int) - n < s; rw [HKL.out]; have := HS.out; omega) (by show K.length ≤ 16384; rw [HKL.out]; have := HKB.out; omega))
  have HM2 := Lib.hid (HM1.out.trans hm2)
  clear hm2
  go_wp2_with fail
  refine HOP.out.mono ?_
  rintro e w3 ⟨rfl, hm3⟩
  have HM3 := Lib.hid (HM2.out.trans hm3)
  clear hm3
  by_cases c1 : s < 0
  · go_wp2
    go_ret
    exact ⟨rfl, HM3.out⟩
  by_cases c2 : n < 8
  · go_wp2
    go_ret
    exact ⟨rfl, HM3.out⟩
  by_cases c3 : (k : Int) < s
  · go_wp2
    go_ret
    exact ⟨rfl, HM3.out⟩
  have c4 : (k : Int) - s < n := by have := HS.out; omega
  have c5 : 0 ≤ s := by omega
  have c6 : s ≤ (k : Int) := by omega
  go_wp2
  go_ret
  exact ⟨rfl, HM3.out⟩
set_option maxRecDepth 100000 in
set_option maxHeartbeats 4000000 in
theorem rbytes_go {w : World} {g o c N k z s n : Nat} {xs : List Int} (hv : BRow w (fun _ => True) (.slice (some ⟨g, o, none⟩) N c) xs) (hl : xs.length = N) (hN : N = k * z) (hk : 1 ≤ k ∧ k ≤ 300) (hz : 64 ≤ z ∧ z ≤ 1024) (h6 : N ≤ 6000) (hn : 8 ≤ n) (hs : s + n ≤ k) :
    Calls Try.prog 9 #[.slice (some ⟨g, o, none⟩) N c, .int .i64 z, .int .i64 s, .int .i64 n] w (TrueQ w) := by
  have HKN := Lib.hid (fun W => rknown_any W)
  have HOF : Hid (∀ W, Moves (fun _ => False) w W → Calls Try.prog 25 #[.slice (some ⟨g, o, none⟩) N c, .int .i64 z] W (Pl.OfPost W z (secK xs k z))) := Lib.hid (fun W hW => by
    obtain ⟨⟨A, c', hA, hc, hx⟩, hb, hlen⟩ := hv.moves hW (fun _ _ _ e => e)
    injection hA with e1 e2 e3
    subst e1 e3
    rw [List.length_map] at hc hx
    obtain ⟨g', o', he, -, hgl, hcell⟩ := hx (by have : 1 * 64 ≤ k * z := Nat.mul_le_mul hk.1 hz.1; omega)
    injection he with he
    injection he with e4 e5
    subst e4 e5
    exact Pl.of_ok hN hl hk hz (by omega) (by omega) hgl hcell)
  have HKL : Hid ((secK xs k z).length = k) := Lib.hid (secK_len xs k z)
  have HGD := Lib.hid (secK_good (xs := xs) (k := k) (z := z) (hl.trans hN) hv.2.1)
  have HB : Hid (1 ≤ k ∧ k ≤ 300 ∧ 64 ≤ z ∧ z ≤ 1024 ∧ 8 ≤ n ∧ s + n ≤ k) := Lib.hid (by omega)
  have g2 : ¬ (6000 : Int) < (N : Int) := by omega
  have k0 : (0 : Int) ≤ (k : Int) := by omega
  have k1 : (k : Int) ≤ 300 := by omega
  have c1 : ¬ (s : Int) < 0 := by omega
  have c2 : ¬ (n : Int) < 8 := by omega
  have c3 : ¬ (k : Int) < (s : Int) := by omega
  have c4 : ¬ (k : Int) - (s : Int) < (n : Int) := by omega
  have c5 : 0 ≤ (s : Int) := by omega
  have c6 : (s : Int) ≤ (k : Int) := by omega
  generalize secK xs k z = K at HOF HKL HGD
  clear hv hl hN hk hz h6 hs hn
  go_enter Try.func9, Try.ntmps9
  go_wp2_with fail
  refine (HKN.out _).mono ?_
  rintro e w0 ⟨rfl, hm0⟩
  go_wp2_with fail
  refine (HOF.out _ hm0).mono ?_
  rintro e w1 ⟨d, rfl, hd, hm1⟩
  have hd : IsDisk w1 w0.heap.size d (calmS z K false 0 [] 0) := hd
  have HSH := Lib.hid (Pl.shape_any hd)
  rw [show (calmS z K false 0 [] 0).kept.length = k from HKL.out, show (calmS z K false 0 [] 0).size = z from rfl] at HSH
  have HM1 := Lib.hid (hm0.trans hm1)
  have HD := Lib.hid hd
  clear hd hm0 hm1
  go_wp2_with fail
  refine HSH.out.mono ?_
  rintro e w2 ⟨rfl, hm2⟩
  generalize ho : openN K s n z = o
  have HOP : Hid (∀ W, IsDisk W w0.heap.size d (calmS z K false 0 [] 0) → Calls Try.prog 37 #[.pointer (some ⟨d, 0, none⟩), .int .i64 s, .int .i64 n] W (OpenPost W w0.heap.size d s n z (calmS z K false 0 [] 0) o)) := Lib.hid (fun W hW => ropen_ok hW (by have := HB.out; omega) (by have := HB.out; omega) (by have h1 := HB.out; have h2 := HKL.out; omega) (by have h1 := HB.out; have h2 := HKL.out; omega) HGD.out ho)
  have HLN : Hid (∀ h L, o = some (h, L) → L.length ≤ 100000) := Lib.hid (fun h L e => by
    subst e
    unfold openN at ho
    have b0 := (HGD.out s (by have h1 := HB.out; have h2 := HKL.out; omega)).2
    have b1 := (HGD.out (s + 1) (by have h1 := HB.out; have h2 := HKL.out; omega)).2
    cases hnw : newestH (n - 2) (K.getD s []) (K.getD (s + 1) []) with
    | none => rw [hnw] at ho; cases ho
    | some h' =>
      rw [hnw] at ho
      obtain ⟨hw, ha, hu, hc⟩ := newest_some b0 b1 hnw
      simp only [] at ho
      cases hld : loadN (secF K s (n - 2) h'.start.toNat) z h'.used.toNat h'.count.toNat 0 [] with
      | none => rw [hld] at ho; cases ho
      | some M =>
        rw [hld] at ho
        injection ho with ho
        injection ho with e1 e2
        subst e1 e2
        have := loadN_len _ _ _ _ hld
        rw [this]
        have h1 := HB.out
        have := hw.2.2.1
        simp
        omega)
  have HM2 := Lib.hid (HM1.out.trans hm2)
  have HD2 := Lib.hid (HD.out.moves0 hm2)
  clear hm2 ho
  go_wp2_with fail
  refine (HOP.out w2 HD2.out).mono ?_
  rintro e w3 hp3
  cases o with
  | none =>
    obtain ⟨rfl, hm3⟩ := hp3
    have HM3 := Lib.hid (HM2.out.trans hm3)
    clear hm3
    go_wp2
    go_ret
    exact ⟨rfl, HM3.out⟩
  | some hL =>
    obtain ⟨h, L⟩ := hL
    obtain ⟨r, lv, vals, rfl, hr0, hr, hlv, hm3⟩ := hp3
    obtain ⟨lA, lc, rfl, -, -, -, -, -⟩ := own_form hr.own
    have HM3 := Lib.hid (HM2.out.trans hm3)
    have HR3 := Lib.hid hr
    have HL : Hid (L.length ≤ 100000) := Lib.hid (HLN.out _ _ rfl)
    clear hm3 hr0 hlv
    have HREC := Lib.hid (recs_any hr (by have := HL.out; omega))
    clear hr
    go_wp2_with fail
    refine HREC.out.mono ?_
    rintro e w4 ⟨lv4, vals4, rfl, hown4, hrow4, hm4⟩
    have HOWN := Lib.hid hown4
    have HROW := Lib.hid hrow4
    have HM4 := Lib.hid (HM3.out.trans hm4)
    have HR4 := Lib.hid (HR3.out.moves0 hm4)
    clear hown4 hrow4 hm4
    go_wp2_with fail
    refine (HOP.out w4 HR4.out.dk).mono ?_
    rintro e w5 ⟨t, lw, vals5, rfl, ht0, ht, hlw, hm5⟩
    have HM5 := Lib.hid (HM4.out.trans hm5)
    have HT5 := Lib.hid ht
    have HR5 := Lib.hid (HR4.out.moves0 hm5)
    clear ht hlw ht0
    generalize hnx : IntKind.u64.wrap (h.first + vals.length) = nx
    have HVL : Hid (vals.length = L.length ∧ vals5.length = L.length) := Lib.hid ⟨HR5.out.len, HT5.out.len⟩
    have HNXT : Hid (∀ W, Moves (fun _ => False) w5 W → Calls Try.prog 34 #[.pointer (some ⟨r, 0, none⟩)] W (MovV W (.int .u64 nx))) := Lib.hid (fun W hm => by
      have h1 := next_any (HR5.out.rb.moves0 hm) (by have h1 := HL.out; have h2 := HVL.out; omega)
      rw [hnx] at h1
      exact h1)
    have HLOG : Hid (∀ W, Moves (fun _ => False) w5 W → Calls Try.prog 41 #[.int .u64 h.first, lv4, .int .u64 nx] W (LogPost W h.first nx L)) := Lib.hid (fun W hm => logof_any (Row.of_owns (own_moves HOWN.out (hm5.trans hm) (fun _ _ e => e))) (HROW.out.moves (hm5.trans hm) (fun _ _ _ e => e)) HL.out)
    have HSAME : Hid (∀ W sv b1, Moves (fun _ => False) w5 W → W.ownsRow b1 9 1 sv L.length (strs L) → Calls Try.prog 40 #[.pointer (some ⟨t, 0, none⟩), .agg #[.int .u64 h.first, .int .u64 nx, sv]] W (TrueQ W)) := Lib.hid (fun W sv b1 hm hsv => same_any (HT5.out.moves0 hm) hsv HL.out rfl (by have := HVL.out; rw [this.2, ← this.1]; exact hnx))
    clear hm5 hnx HR3 HREC HOP HLN HD HD2 HSH HOF HM1 HM2 HM3 HM4 HOWN HROW
    go_wp2_with fail
    refine (HNXT.out _ (Moves.refl (fun _ => False) w5)).mono ?_
    rintro e wa ⟨rfl, hla⟩
    go_wp2_with fail
    refine (HLOG.out _ hla).mono ?_
    rintro e wb ⟨sv, rfl, hsv, hlb⟩
    go_wp2_with fail
    refine (HSAME.out _ sv _ (hla.trans hlb) hsv).mono ?_
    rintro e wc ⟨rfl, hlc⟩
    go_wp2
    go_ret
    exact ⟨rfl, HM5.out.trans ((hla.trans hlb).trans hlc)⟩
end Go.Proofs.Ytnagpianaghjeaa.Rg
