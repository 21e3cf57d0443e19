/-
  A sector of the log's area.
-/
import Derived.Test.YtnagpianaghjeaaRingOn
namespace Go.Proofs.Ytnagpianaghjeaa.Rg
open Go Go.RowKit Go.Proofs Go.Proofs.Ytnagpianaghjeaa.Sl
open Pl (DS IsDisk DOwn DPost DMv DKeep)

def SecPost (w : World) (z : Nat) (s : List Int) (e : Ending) (w' : World) : Prop := ∃ g, e = .returned (.slice (some ⟨g, 0, none⟩) z z) ∧ w.heap.size ≤ g ∧ BRow w' (fun k => k = g) (.slice (some ⟨g, 0, none⟩) z z) s ∧ Moves (fun _ => False) w w'
set_option maxRecDepth 100000 in
set_option maxHeartbeats 4000000 in
theorem sector_any {w : World} {base d r s n z : Nat} {h : Hd} {lv : Value} {K : List (List Int)} {a : Bool} {l : Int} {k : List Bool} {wr : Int} (hD : IsDisk w base d (calmS z K a l k wr)) (hb : RingB w r d s n z h lv) (hn : 8 ≤ n ∧ n ≤ 16384) (hz : 64 ≤ z ∧ z ≤ 1000000) (hs : s + n ≤ K.length) (hs2 : s ≤ 16384)
    {x p : Nat} (hx : x ≤ 1000000) (hp : x % (n - 2) = p) {S : List Int} (hS : K.getD (s + 2 + p) [] = S) (hSb : ∀ x ∈ S, 0 ≤ x ∧ x < 256) (hSl : S.length = z) :
    Calls Try.prog 114 #[.pointer (some ⟨r, 0, none⟩), .int .u64 x] w (SecPost w z S) := by
  have hpl : p < n - 2 := by rw [← hp]; exact Nat.mod_lt _ (by omega)
  have HRD := Lib.hid (fun W (hW : Moves (fun _ => False) w W) => sec_read (hD.moves0 hW) (by omega) (i := s + 2 + p) (by omega) hS hSb hSl)
  have e0 : ((s + 2 + p : Nat) : Int) = (s : Int) + 2 + (p : Int) := by omega
  rw [e0] at HRD
  have HRG := Lib.hid (fun W (hW : Moves (fun _ => False) w W) => area_any (hb.moves0 hW) hn)
  obtain ⟨c0, c1, -⟩ := hb.cells
  have hrl := lt_of_block hb
  have b0 : (0 : Int) ≤ (s : Int) := by omega
  have b1 : (s : Int) ≤ 16384 := by omega
  have b2 : (0 : Int) ≤ (p : Int) := by omega
  have b3 : (p : Int) ≤ 16384 := by omega
  have b4 : (0 : Int) < ((n - 2 : Nat) : Int) := by omega
  have b5 : ((n - 2 : Nat) : Int) ≤ 16384 := by omega
  have b6 : (((n - 2 : Nat) : Int) == 0) = false := by simp; omega
  have b9 : ¬ ((n - 2 : Nat) : Int) = 0 := by omega
  have b7 : (0 : Int) ≤ (x : Int) := by omega
  have b8 : (x : Int) ≤ 1000000 := by omega
  have wm : IntKind.u64.wrap ((n - 2 : Nat) : Int) = ((n - 2 : Nat) : Int) := IntWalk.u64_in _ (by omega)
  have wt : Int.tmod (x : Int) ((n - 2 : Nat) : Int) = (p : Int) := by rw [← hp]; exact (Int.ofNat_tmod _ _).symm
  have wp : IntKind.i64.wrap (p : Int) = (p : Int) := IntWalk.i64_in _ (by omega)
  have wp2 : IntKind.u64.wrap (p : Int) = (p : Int) := IntWalk.u64_in _ (by omega)
  have ws2 : IntKind.i64.wrap ((s : Int) + 2) = (s : Int) + 2 := IntWalk.i64_in _ (by omega)
  have ws3 : IntKind.i64.wrap ((s : Int) + 2 + (p : Int)) = (s : Int) + 2 + (p : Int) := IntWalk.i64_in _ (by omega)
  generalize ((n - 2 : Nat) : Int) = m at HRG b4 b5 b6 b9 wm wt
  have HNN : Hid (∀ w', KpS w w' → KpS w w' ∧ w'.cell? ⟨r, 0, none⟩ = some (.pointer (some ⟨d, 0, none⟩)) ∧ w'.cell? ⟨r, 1, none⟩ = some (.int .i64 s)) := Lib.hid (fun w' hk => ⟨hk, hk.cell c0, hk.cell c1⟩)
  have HQ : Hid (∀ g w', w.heap.size ≤ g → BRow w' (fun k => k = g) (.slice (some ⟨g, 0, none⟩) z z) S → Moves (fun _ => False) w w' → SecPost w z S (.returned (.slice (some ⟨g, 0, none⟩) z z)) w') := Lib.hid fun g w' h1 h2 h3 => ⟨g, rfl, h1, h2, h3⟩
  generalize SecPost w z S = Q at HQ ⊢
  have hK0 := HNN.out _ (KpS.refl w)
  have hK1 := HNN.out w.drew (KpS.of (Moves.refl (fun _ => False) w).drew)
  clear hD hb hn hz hs hs2 hx hp hS hSb hSl hpl e0 c0 c1
  go_enter Try.func114, Try.ntmps114
  go_wp2_with fail
  go_region_held3 (fun w' => KpS w w' ∧ w'.cell? ⟨r, 0, none⟩ = some (.pointer (some ⟨d, 0, none⟩)) ∧ w'.cell? ⟨r, 1, none⟩ = some (.int .i64 s))
    (first | with_reducible exact hS' | with_reducible exact hK0 | with_reducible exact hK1 | assumption)
    (first
      | (go_at_call 76
         with_reducible refine (HRG.out _ ?hm).mono ?_
         focus (with_reducible exact KpS.moves hK1.1)
         rintro e w6 ⟨rfl, rfl⟩)
      | (go_at_call 62
         with_reducible refine (HRD.out _ ?hm).mono ?_
         focus (with_reducible exact KpS.moves hK1.1)
         rintro e w6 ⟨gv, rfl, hgv, hrow, hm6⟩
         have hS' := HNN.out w6 (KpS.of ((KpS.moves hK1.1).trans hm6)))
      | (go_at_call 62
         have hm : Moves (fun _ => False) w w.drew := KpS.moves hK1.1
         refine (HRD.out _ hm).mono ?_
         rintro e w6 ⟨gv, rfl, hgv, hrow, hm6⟩
         have hS' := HNN.out w6 (KpS.of (hm.trans hm6))))
  all_goals
    go_wp2
    exact HQ.out _ _ hgv hrow (KpS.moves hS'.1)
end Go.Proofs.Ytnagpianaghjeaa.Rg
