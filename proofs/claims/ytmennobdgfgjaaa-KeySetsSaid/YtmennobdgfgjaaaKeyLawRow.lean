/-
  The statement's Row: are keys the document's, in order?
-/
import Derived.Test.YtmennobdgfgjaaaKeyRefSort
namespace Go.Proofs.Ytmennobdgfgjaaa
open Go Go.RowKit Go.Maps Go.Sort Go.Proofs

set_option maxRecDepth 100000 in
set_option maxHeartbeats 2000000 in
theorem row_same {w : World} {L L' : Nat → Prop} {v v' : Value} {ks : List Pr} (hr : KRow w L v ks) (hr' : KRow w L' v' ks) (hlen : ks.length ≤ 1000000) : Calls Try.prog 34 #[v, v'] w (TruePost w) := by
  obtain ⟨A, c, rfl, hc, hx⟩ := hr
  obtain ⟨A', c', rfl, hc', hx'⟩ := hr'
  have RC := fun (p : Pr) (W : World) => refcmp_any (p := p) (q := p) (c := 0) ((cmpK_zero p p).2 rfl) W
  go_enter Try.func34, Try.ntmps34
  go_wp2_with fail
  go_loopg [5] ks.length (fun g s5 wr => ∃ i : Nat, i ≤ ks.length ∧ g = ks.length - i ∧ s5 = .int .i64 i ∧ KP w wr)
  case atStart => exact ⟨0, Nat.zero_le _, rfl, rfl, KP.of (Moves.refl _ _)⟩
  case round =>
    obtain ⟨i, hi, hg, rfl, hm⟩ := hrel
    by_cases hik : i < ks.length
    · obtain ⟨g, o, rfl, -, hgl, hcell⟩ := hx (by omega)
      obtain ⟨g', o', rfl, -, hgl', hcell'⟩ := hx' (by omega)
      have HG : Hid (∀ w', KP w w' → KP w w' ∧ (w'.cell? ⟨g, o + i * 2, none⟩ = some (.int .i64 ks[i].1) ∧ w'.cell? ⟨g, o + i * 2 + 1, none⟩ = some (.int .i64 ks[i].2)) ∧ (w'.cell? ⟨g', o' + i * 2, none⟩ = some (.int .i64 ks[i].1) ∧ w'.cell? ⟨g', o' + i * 2 + 1, none⟩ = some (.int .i64 ks[i].2))) := Lib.hid (fun w' hk => by
        have h := hk.moves
        exact ⟨hk, ⟨(h.cell (p := ⟨g, o + i * 2, none⟩) hgl (fun h => h)).trans (hcell _ _ (cellsP_get hik).1), (h.cell (p := ⟨g, o + i * 2 + 1, none⟩) hgl (fun h => h)).trans (hcell _ _ (cellsP_get hik).2)⟩, (h.cell (p := ⟨g', o' + i * 2, none⟩) hgl' (fun h => h)).trans (hcell' _ _ (cellsP_get hik).1), (h.cell (p := ⟨g', o' + i * 2 + 1, none⟩) hgl' (fun h => h)).trans (hcell' _ _ (cellsP_get hik).2)⟩)
      have HZ := Lib.hid (HG.out _ hm)
      clear hx hx' hcell hcell' hgl hgl' hm
      generalize ks[i] = q at HG HZ
      have RQ := fun W => RC q W
      have OQ := fun W => of_any q W
      obtain ⟨q1, q2⟩ := q
      have b0 : (0 : Int) ≤ (i : Int) := by omega
      have b1 : (i : Int) < (ks.length : Int) := by omega
      go_wp2_with fail
      go_region_held3 (fun w' => KP w w' ∧ (w'.cell? ⟨g, o + i * 2, none⟩ = some (.int .i64 q1) ∧ w'.cell? ⟨g, o + i * 2 + 1, none⟩ = some (.int .i64 q2)) ∧ (w'.cell? ⟨g', o' + i * 2, none⟩ = some (.int .i64 q1) ∧ w'.cell? ⟨g', o' + i * 2 + 1, none⟩ = some (.int .i64 q2))) (first | exact hS' | exact HZ.out | assumption | go_keep)
        (first
          | (go_at_call 27; refine (OQ _).mono ?_; rintro e w' ⟨rfl, hl⟩; have hS' := HG.out _ (KP.of ((KP.moves (And.left (by assumption))).trans hl)))
          | (go_at_call 26; refine (RQ _).mono ?_; rintro e w' ⟨rfl, hl⟩; have hS' := HG.out _ (KP.of ((KP.moves (And.left (by assumption))).trans (hl.moves _))))
          | fail)
      go_wp2_with fail
      go_roundg (ks.length - (i + 1))
      case measure => omega
      case rel => exact ⟨i + 1, by omega, rfl, by go_num, And.left (by assumption)⟩
    · obtain rfl : i = ks.length := by omega
      clear hx hx'
      have HM := Lib.hid hm
      clear hm
      go_wp2
      go_ret
      exact ⟨rfl, HM.out.moves⟩
end Go.Proofs.Ytmennobdgfgjaaa
