/-
  The walk of KeysBack: any word is a key, and that word again.
-/
import Derived.Test.YtmennobdgfgjaaaKeyKnown
namespace Go.Proofs.Ytmennobdgfgjaaa
open Go Go.RowKit Go.Maps Go.Sort Go.Proofs

theorem pack_unpack {x : Int} (h0 : 0 ≤ x) (h1 : x < 18446744073709551616) : packZ (unpackZ x) = x := by
  unfold packZ unpackZ w32
  simp only
  omega
theorem short_unpack (x : Int) : shortK (unpackZ x) = true := by
  have h1 := w32_in x
  have h2 := w32_in (x / 4294967296)
  unfold shortK unpackZ
  simp only [decide_eq_true_eq]
  omega

set_option maxRecDepth 100000 in
set_option maxHeartbeats 1000000 in
theorem keys_back (w : World) {x : Int} (hx : (Lit.int .u64 x).wf = true) : Calls Try.prog 11 #[.int .u64 x] w (TruePost w) := by
  have hx' : 0 ≤ x ∧ x < 18446744073709551616 := by
    have : 0 ≤ x ∧ x ≤ 18446744073709551615 := by simpa [Lit.wf, IntKind.min, IntKind.max, IntKind.signed, IntKind.bits] using hx
    omega
  have hp := pack_unpack hx'.1 hx'.2
  have hs := short_unpack x
  have U := fun W => unpack_any (x := x) rfl W
  generalize unpackZ x = k at hp hs U
  obtain ⟨k1, k2⟩ := k
  have HP := Lib.hid hp
  have HS := Lib.hid hs
  clear hp hs hx hx'
  go_enter Try.func11, Try.ntmps11
  go_wp2_with fail
  refine (key_known w).mono ?_
  rintro e w1 ⟨rfl, hm1⟩
  go_wp2_with fail
  refine (U _).mono ?_
  rintro e w2 ⟨rfl, hm2⟩
  have HM := Lib.hid (hm1.trans hm2)
  clear hm1 hm2
  go_wp2_with fail
  refine (pack_any HP.out _).mono ?_
  rintro e w3 ⟨rfl, hm3⟩
  have c0 : w3.cell? ⟨w2.heap.size, 0, none⟩ = some (.int .i64 k1) := (hm3.cell (p := ⟨w2.heap.size, 0, none⟩) (by simp) (fun h => h)).trans (cell2 w2 _ _ _).1
  have c1 : w3.cell? ⟨w2.heap.size, 1, none⟩ = some (.int .i64 k2) := (hm3.cell (p := ⟨w2.heap.size, 1, none⟩) (by simp) (fun h => h)).trans (cell2 w2 _ _ _).2
  have HM3 := Lib.hid ((HM.out.alloc _).trans hm3)
  clear hm3
  go_wp2_with fail
  refine (short_any HS.out _).mono ?_
  rintro e w4 ⟨rfl, hm4⟩
  go_wp2
  go_ret
  exact ⟨rfl, HM3.out.trans hm4⟩
end Go.Proofs.Ytmennobdgfgjaaa
