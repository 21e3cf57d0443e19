/-
  Blocks laid into slots: what a disk on which nothing waits comes to; what its slots count as.
-/
import Derived.Test.YtnagpianaghjeaaSlotsRead
import Derived.Test.YtnagpianaghjeaaFresh
namespace Go.Proofs.Ytnagpianaghjeaa.Sl
open Go Go.RowKit Go.Proofs
open Pl (DS IsDisk DOwn DPost DMv DKeep)

theorem fits_iff {S : DS} {g : Geo} : fitsB S g = true ↔ g.sector = S.size ∧ secsG g ≤ S.kept.length := by
  unfold fitsB
  rw [Bool.and_eq_true, decide_eq_true_eq, decide_eq_true_eq]
theorem right_enc {S : DS} {b : Blk} (hg : GoodB b) (hw : WfB b) (hf : fitsB S b.geom = true) : rightS S (b.epoch % 2) (encS crcL b) = some b := by
  unfold rightS
  rw [dec_enc crcL hg hw]
  exact if_pos ⟨hf, rfl⟩
theorem right_other {S : DS} {b : Blk} (hg : GoodB b) (hw : WfB b) {i : Int} (hi : b.epoch % 2 ≠ i) : rightS S i (encS crcL b) = none := by
  unfold rightS
  rw [dec_enc crcL hg hw]
  exact if_neg (fun e => hi e.2)
theorem getL_zero (n p k : Nat) : getL (List.replicate n 0) p k = 0 := by
  induction k generalizing p with
  | zero => rfl
  | succ k ih =>
    unfold getL
    rw [ih, List.getD_eq_getElem?_getD, List.getElem?_replicate]
    by_cases h : p < n
    · rw [if_pos h]; rfl
    · rw [if_neg h]; rfl
theorem right_zero (S : DS) (i : Int) (n : Nat) : rightS S i (List.replicate n 0) = none := by
  have h : decS crcL (List.replicate n 0) = none := by
    unfold decS
    rw [if_neg]
    rintro ⟨-, hg, -⟩
    have := hg.1.1.1
    unfold readS at this
    dsimp only at this
    rw [getL_zero] at this
    omega
  unfold rightS
  rw [h]
/-- What is right of a slot depends on the disk's shape alone. -/
theorem right_shape {S S' : DS} (h1 : S.size = S'.size) (h2 : S.kept.length = S'.kept.length) (i : Int) (s : List Int) : rightS S i s = rightS S' i s := by
  have : ∀ g, fitsB S g = fitsB S' g := fun g => by unfold fitsB; rw [h1, h2]
  unfold rightS
  simp only [this]
theorem new_calm (n z : Nat) : Pl.newS n z = calmS z (List.replicate n (List.replicate z 0)) false 0 [] 0 := rfl
theorem rd_calm (z : Nat) (K : List (List Int)) (a : Bool) (l : Int) (k : List Bool) (w : Int) (i : Int) : Pl.rdN (calmS z K a l k w) i (calmS z K a l k w).secs.length = K.getD i.toNat [] := rfl
theorem under {w0 w w' : World} {base d : Nat} {S : DS} (h : IsDisk w base d S) (h0 : Moves (fun _ => False) w0 w) (hb : w0.heap.size ≤ base) (hm : DMv w d w') : Moves (fun _ => False) w0 w' :=
  h0.andThen hm.mv (fun i hi hlt => absurd (h.low i hi) (by omega))
def putK (K : List (List Int)) (b : Blk) : List (List Int) := K.set (b.epoch % 2).toNat (encS crcL b)
theorem putK_len (K : List (List Int)) (b : Blk) : (putK K b).length = K.length := by unfold putK; rw [List.length_set]
theorem slot_01 (e : Int) : e % 2 = 0 ∨ e % 2 = 1 := by omega
theorem in_slot {z : Nat} {K : List (List Int)} {a : Bool} {l : Int} {k : List Bool} {w : Int} (hK : 2 ≤ K.length) (e : Int) : Pl.inS (calmS z K a l k w) (e % 2) = true := by
  unfold Pl.inS calmS
  simp only [decide_eq_true_eq]
  omega
theorem put_turn {w : World} {base d z : Nat} {K : List (List Int)} {l : Int} {k : List Bool} {wr : Int} (h : IsDisk w base d (calmS z K false l k wr)) {b : Blk} (hg : GoodB b) (hw : WfB b) (hf : fitsB (calmS z K false l k wr) b.geom = true) (hK : 2 ≤ K.length) (hwr : 0 ≤ wr ∧ wr ≤ 1000000000) :
    Calls Try.prog 14 #[.pointer (some ⟨d, 0, none⟩), blkV b] w (WPost w base d (calmS z (putK K b) false l k (wr + 1)) (.int .i64 0)) := by
  have hz : b.geom.sector = z := (fits_iff.1 hf).1
  have hel := encS_len crcL hg.1.1.1
  have hn := hg.1.near.1
  exact write_done h hg hw hf rfl rfl (S1 := Pl.putS (calmS z K false l k wr) (b.epoch % 2) (encS crcL b)) (fun W L hD v hr hap => Pl.write_ok hD rfl rfl (in_slot hK _) hr (by show _ = z; omega) (by show 0 < z; omega) (by show z ≤ 1000000; omega) (by show 0 < 1000000; decide) hwr) rfl (calm_put_settle ..)
theorem put_armed {w : World} {base d z : Nat} {K : List (List Int)} {l : Int} {k : List Bool} {wr : Int} (h : IsDisk w base d (calmS z K true l k wr)) {b : Blk} (hg : GoodB b) (hw : WfB b) (hf : fitsB (calmS z K true l k wr) b.geom = true) (hK : 2 ≤ K.length) (hwr : 0 ≤ wr ∧ wr ≤ 1000000000) (hl : 2 ≤ l ∧ l ≤ 9223372036854775807) :
    Calls Try.prog 14 #[.pointer (some ⟨d, 0, none⟩), blkV b] w (WPost w base d (calmS z (putK K b) true (l - 1) k (wr + 1)) (.int .i64 0)) := by
  have hz : b.geom.sector = z := (fits_iff.1 hf).1
  have hel := encS_len crcL hg.1.1.1
  have hn := hg.1.near.1
  exact write_done h hg hw hf rfl rfl (S1 := Pl.putS (calmS z K true (l - 1) k wr) (b.epoch % 2) (encS crcL b)) (fun W L hD v hr hap => Pl.write_armed hD rfl rfl hl hap (in_slot hK _) hr (by show _ = z; omega) (by show 0 < z; omega) (by show z ≤ 1000000; omega) (by show 0 < 1000000; decide) hwr) rfl (calm_put_settle ..)
theorem put_gone {w : World} {base d z : Nat} {K : List (List Int)} {l : Int} {k : List Bool} {wr : Int} (h : IsDisk w base d (calmS z K true l k wr)) {b : Blk} (hg : GoodB b) (hw : WfB b) (hf : fitsB (calmS z K true l k wr) b.geom = true) (hK : 2 ≤ K.length) (hl : -1000000 ≤ l ∧ l ≤ 1) (hk : k.length ≤ 1000000) :
    Calls Try.prog 14 #[.pointer (some ⟨d, 0, none⟩), blkV b] w (WPost w base d ({ calmS z K false (l - 1) [] wr with off := true }) (.int .i64 7)) := by
  have hz : b.geom.sector = z := (fits_iff.1 hf).1
  have hel := encS_len crcL hg.1.1.1
  have hn := hg.1.near.1
  refine write_gone h hg hw hf rfl rfl (fun W L hD v hr hap => ?_)
  obtain ⟨A, c, hv, -⟩ := hr
  have hlen : ((encS crcL b).map encX).length = z := by rw [List.length_map]; omega
  have hv' : v = .slice A z c := by rw [hv, hlen]
  exact Pl.write_cut hD rfl rfl hl hk (in_slot hK _) hv'
end Go.Proofs.Ytnagpianaghjeaa.Sl
