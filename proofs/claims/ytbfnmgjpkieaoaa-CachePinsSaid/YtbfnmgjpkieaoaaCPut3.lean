/-
  The three stores of a page put in again.
-/
import Derived.Test.YtbfnmgjpkieaoaaCPin
namespace Go.Proofs.Ytbfnmgjpkieaoaa
open Go Go.RowKit Go.Maps Go.Sort Go.Proofs

theorem CacheAt.put3 {w : World} {base p lb m : Nat} {fs : List FrS} {hand : Nat} {D : DataW Unit} {dvs : List Value} (h : CacheAt w base p lb m fs hand D dvs) {i : Nat} {f : FrS} (hil : i < fs.length) (hfi : fs[i] = f) {v : Value} {bs : List Int} (hd : w.ownsRow base 5 1 v bs.length (bs.map encB8)) (hl : bs.length ≤ 1000000) (d : Bool) :
    IsCache (((w.setCell ⟨lb, i * 7 + 2, none⟩ v).setCell ⟨lb, i * 7 + 5, none⟩ (.bool true)).setCell ⟨lb, i * 7 + 4, none⟩ (.bool d)) base p lb m (fs.set i { f with data := bs, mark := true, dirty := d }) hand := by
  have hdl : i < dvs.length := by rw [h.len]; exact hil
  have h1 := h.turn hil (r := 2) (v := v) (dv' := v) (f' := { f with data := bs }) (by omega) (by rw [hfi]; rfl) (by rw [hfi]) (by rw [hfi]) hd hl
  have hl1 : i < (fs.set i { f with data := bs }).length := by simpa using hil
  have hd1 : i < (dvs.set i v).length := by simpa using hdl
  have g1 : (fs.set i { f with data := bs })[i] = { f with data := bs } := List.getElem_set_self _
  have o1 := h1.dat i hl1 hd1
  rw [g1] at o1
  have h2 := h1.turn hl1 (r := 5) (v := .bool true) (dv' := (dvs.set i v)[i]) (f' := { f with data := bs, mark := true }) (by omega) (by rw [g1]; rfl) (by rw [g1]) (by rw [g1]) o1 hl
  rw [List.set_set] at h2
  have hl2 : i < (fs.set i { f with data := bs, mark := true }).length := by simpa using hil
  have hd2 : i < ((dvs.set i v).set i (dvs.set i v)[i]).length := by simpa using hdl
  have g2 : (fs.set i { f with data := bs, mark := true })[i] = { f with data := bs, mark := true } := List.getElem_set_self _
  have o2 := h2.dat i hl2 hd2
  rw [g2] at o2
  have h3 := h2.turn hl2 (r := 4) (v := .bool d) (dv' := ((dvs.set i v).set i (dvs.set i v)[i])[i]) (f' := { f with data := bs, mark := true, dirty := d }) (by omega) (by rw [g2]; rfl) (by rw [g2]) (by rw [g2]) o2 hl
  rw [List.set_set] at h3
  exact ⟨_, _, h3⟩
end Go.Proofs.Ytbfnmgjpkieaoaa
