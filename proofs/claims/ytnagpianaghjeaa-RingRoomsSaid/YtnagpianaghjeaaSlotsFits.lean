/-
  slots.fits; a disk on which nothing waits.
-/
import Derived.Test.YtnagpianaghjeaaDecodeAny
import Derived.Test.YtnagpianaghjeaaDiskMore
import Derived.Test.YtnagpianaghjeaaDiskWrite
import Derived.Test.YtnagpianaghjeaaDiskCut
namespace Go.Proofs.Ytnagpianaghjeaa.Sl
open Go Go.RowKit Go.Proofs
open Pl (DS IsDisk DOwn DPost)

def fitsB (S : DS) (g : Geo) : Bool := decide (g.sector = S.size) && decide (secsG g ≤ S.kept.length)
set_option maxRecDepth 100000 in
set_option maxHeartbeats 2000000 in
theorem fits_any {w : World} {base d : Nat} {S : DS} (h : IsDisk w base d S) {g : Geo} (hn : NearG g) : Calls Try.prog 57 #[.pointer (some ⟨d, 0, none⟩), geoV g] w (MovV w (.bool (fitsB S g))) := by
  have HS := Lib.hid (fun W (hW : Moves (fun _ => False) w W) => Pl.shape_any (h.moves0 hW))
  have HC := Lib.hid (fun W => sectors_ok hn W)
  have hf : fitsB S g = (decide (g.sector = S.size) && decide (secsG g ≤ S.kept.length)) := rfl
  have HF := Lib.hid hf
  clear hf h hn
  generalize fitsB S g = r at HF ⊢
  obtain ⟨s, l, n⟩ := g
  dsimp only at HF
  generalize secsG ⟨s, l, n⟩ = q at HF HC
  generalize S.size = z at HF HS
  generalize S.kept.length = k at HF HS
  have hm0 := (Moves.refl (fun _ => False) w).alloc (.cells #[.int .i64 s, .int .i64 l, .int .i64 n] 25)
  have hb0 := heap_alloc_new w (.cells #[.int .i64 s, .int .i64 l, .int .i64 n] 25)
  have hgl : w.heap.size < (w.alloc (.cells #[.int .i64 s, .int .i64 l, .int .i64 n] 25)).heap.size := by simp
  by_cases h1 : s = (z : Int)
  · have e1 : (s == (z : Int)) = true := by simpa using h1
    rw [decide_eq_true h1, Bool.true_and] at HF
    clear h1
    go_enter Try.func57, Try.ntmps57
    go_wp2_with fail
    generalize w.alloc (.cells #[.int .i64 s, .int .i64 l, .int .i64 n] 25) = W0 at hm0 hb0 hgl ⊢
    refine (HS.out W0 hm0).mono ?_
    rintro e w1 ⟨rfl, hm1⟩
    have hb1 := (hm1.block _ hgl (fun e => e)).trans hb0
    obtain ⟨c0, c1, c2⟩ := cells3 hb1
    have hM := Lib.hid (hm0.trans hm1)
    clear hm0 hb0 hgl hm1 hb1
    go_wp2_with fail
    refine (HC.out _).mono ?_
    rintro e w2 ⟨rfl, hm2⟩
    go_wp2
    go_ret
    exact ⟨congrArg (fun x => Ending.returned (.bool x)) HF.out.symm, hM.out.trans hm2⟩
  · have e1 : (s == (z : Int)) = false := by simpa using h1
    rw [decide_eq_false h1, Bool.false_and] at HF
    clear h1
    go_enter Try.func57, Try.ntmps57
    go_wp2_with fail
    generalize w.alloc (.cells #[.int .i64 s, .int .i64 l, .int .i64 n] 25) = W0 at hm0 hb0 hgl ⊢
    refine (HS.out W0 hm0).mono ?_
    rintro e w1 ⟨rfl, hm1⟩
    have hb1 := (hm1.block _ hgl (fun e => e)).trans hb0
    obtain ⟨c0, c1, c2⟩ := cells3 hb1
    have hM := Lib.hid (hm0.trans hm1)
    clear hm0 hb0 hgl hm1 hb1
    go_wp2
    go_ret
    exact ⟨congrArg (fun x => Ending.returned (.bool x)) HF.out.symm, hM.out⟩
/-- A disk on which nothing waits, the power on. -/
def calmS (z : Nat) (K : List (List Int)) (armed : Bool) (left : Int) (keep : List Bool) (writes : Int) : DS := { size := z, kept := K, secs := [], data := [], off := false, armed := armed, left := left, keep := keep, writes := writes }
theorem calm_settle (z : Nat) (K : List (List Int)) (a : Bool) (l : Int) (k : List Bool) (w : Int) (f : Nat → Bool) : Pl.settleS (calmS z K a l k w) f = calmS z K a l k w := rfl
theorem calm_put_settle (z : Nat) (K : List (List Int)) (a : Bool) (l : Int) (k : List Bool) (w : Int) (i : Int) (b : List Int) : Pl.settleS (Pl.putS (calmS z K a l k w) i b) (fun _ => true) = calmS z (K.set i.toNat b) a l k (w + 1) := rfl
theorem calm_cut (z : Nat) (K : List (List Int)) (a : Bool) (l : Int) (k : List Bool) (w : Int) (bs : List Bool) : Pl.cutS (calmS z K a l k w) bs = { calmS z K false l [] w with off := true } := rfl
theorem calm_left (z : Nat) (K : List (List Int)) (a : Bool) (l : Int) (k : List Bool) (w : Int) (x : Int) : { calmS z K a l k w with left := x } = calmS z K a x k w := rfl
theorem calm_on (z : Nat) (K : List (List Int)) (a : Bool) (l : Int) (k : List Bool) (w : Int) : ({ ({ calmS z K a l k w with off := true } : DS) with off := false } : DS) = calmS z K a l k w := rfl
end Go.Proofs.Ytnagpianaghjeaa.Sl
