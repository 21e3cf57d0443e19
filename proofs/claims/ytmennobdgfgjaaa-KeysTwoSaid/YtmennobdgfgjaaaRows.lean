/-
  No cell of these rows narrows 'for every input' (looked for: loops, veiled, ifaces, maps, wideKeys, modest, calm, conditions, laid).
  DERIVED. THE GIVEN ROWS OF THIS SEAT. 9 by the template 'for every input the law returns true; each argument reads behind the call as it read before'; 0 by the template 'total and deterministic' (their statements: YtmennobdgfgjaaaTotals.lean).
  GIVEN WITH THE SEED: the statements are not yours to turn. If you find one false, say at which input.
  Laid BY PROGRAM, IN A SANDBOX (cutbox-rows.mjs): the forced cells as the released guide's own fill.sh prints them over the translation 064c5797ea01148e… (all of the seat's roots in one cut). By AI agents, Wed Nov 11 2026. No macro, syntax, notation, axiom, sorry.
-/
import Derived.Test.YtmennobdgfgjaaaChecked
import GoSem.Claim
import GoSem.ClaimJoined
import GoSem.ClaimMapViews
import Derived.JoinedTies
import Derived.KernelRfl
namespace Go.Proofs.Ytmennobdgfgjaaa
/- THE CELL 'sum', in the pinned program and in every row, IS THE sha256 OF THE DUMP (.gsa) THAT YtmennobdgfgjaaaProg.lean LOADS. Nothing in Lean hashes anything: it is a label: what it is worth is what the hold of that sum in a sandbox is worth. -/
noncomputable def Try.pinned : Pinned := { name := "ytmennobdgfgjaaa", sum := "064c5797ea01148e9f4bac07b24edf9e1b454786f1a0b90f8493f89d2d5611a3", checked := Try.checked }
namespace Rows
def none {H : Type} : Left H := { results := [], args := [] }

/-- 'loamlaw20.HandFull': WHATEVER THE INPUT: true; the input reads as it did. -/
def handFullSpec : ChangeSpec := { name := "handFull", fn := fun _ => fun
  | [d] => { results := [.lit (.bool true)], args := [d] }
  | _ => none }
def handFullRow : OpenClaim := { program := "ytmennobdgfgjaaa", sum := "064c5797ea01148e9f4bac07b24edf9e1b454786f1a0b90f8493f89d2d5611a3", func := "loam/loamlaw20.HandFull", spec := "handFull", unfollowed := true, recurses := true, plainKeys := false, apart := false }
def HandFullSaid : Prop := handFullRow.holds Try.pinned (OpenSpec.ofChange handFullSpec)

/-- ITS FALSE NEIGHBOUR: 'it returns false'. Refute it at one input. -/
def handFullWrong : ChangeSpec := { name := "handFull", fn := fun _ => fun
  | [d] => { results := [.lit (.bool false)], args := [d] }
  | _ => none }
def HandFullWrongFalsely : Prop := handFullRow.holds Try.pinned (OpenSpec.ofChange handFullWrong)

/-- 'loamlaw20.HandRenumbers': WHATEVER THE INPUT: true; the input reads as it did. -/
def handRenumbersSpec : ChangeSpec := { name := "handRenumbers", fn := fun _ => fun
  | [d1, d2, d3] => { results := [.lit (.bool true)], args := [d1, d2, d3] }
  | _ => none }
def handRenumbersRow : OpenClaim := { program := "ytmennobdgfgjaaa", sum := "064c5797ea01148e9f4bac07b24edf9e1b454786f1a0b90f8493f89d2d5611a3", func := "loam/loamlaw20.HandRenumbers", spec := "handRenumbers", unfollowed := true, recurses := true, plainKeys := false, apart := false }
def HandRenumbersSaid : Prop := handRenumbersRow.holds Try.pinned (OpenSpec.ofChange handRenumbersSpec)

/-- ITS FALSE NEIGHBOUR: 'it returns false'. Refute it at one input. -/
def handRenumbersWrong : ChangeSpec := { name := "handRenumbers", fn := fun _ => fun
  | [d1, d2, d3] => { results := [.lit (.bool false)], args := [d1, d2, d3] }
  | _ => none }
def HandRenumbersWrongFalsely : Prop := handRenumbersRow.holds Try.pinned (OpenSpec.ofChange handRenumbersWrong)

/-- 'loamlaw20.HandFinds': WHATEVER THE INPUT: true; the input reads as it did. -/
def handFindsSpec : ChangeSpec := { name := "handFinds", fn := fun _ => fun
  | [d] => { results := [.lit (.bool true)], args := [d] }
  | _ => none }
def handFindsRow : OpenClaim := { program := "ytmennobdgfgjaaa", sum := "064c5797ea01148e9f4bac07b24edf9e1b454786f1a0b90f8493f89d2d5611a3", func := "loam/loamlaw20.HandFinds", spec := "handFinds", unfollowed := true, recurses := true, plainKeys := false, apart := false }
def HandFindsSaid : Prop := handFindsRow.holds Try.pinned (OpenSpec.ofChange handFindsSpec)

/-- ITS FALSE NEIGHBOUR: 'it returns false'. Refute it at one input. -/
def handFindsWrong : ChangeSpec := { name := "handFinds", fn := fun _ => fun
  | [d] => { results := [.lit (.bool false)], args := [d] }
  | _ => none }
def HandFindsWrongFalsely : Prop := handFindsRow.holds Try.pinned (OpenSpec.ofChange handFindsWrong)

/-- 'loamlaw20.HandPlays': WHATEVER THE INPUT: true; the input reads as it did. -/
def handPlaysSpec : ChangeSpec := { name := "handPlays", fn := fun _ => fun
  | [d1, d2] => { results := [.lit (.bool true)], args := [d1, d2] }
  | _ => none }
def handPlaysRow : OpenClaim := { program := "ytmennobdgfgjaaa", sum := "064c5797ea01148e9f4bac07b24edf9e1b454786f1a0b90f8493f89d2d5611a3", func := "loam/loamlaw20.HandPlays", spec := "handPlays", inPlace := ["maps.clone"], unfollowed := true, recurses := true, plainKeys := false, apart := false }
def HandPlaysSaid : Prop := handPlaysRow.holds Try.pinned (OpenSpec.ofChange handPlaysSpec)

/-- ITS FALSE NEIGHBOUR: 'it returns false'. Refute it at one input. -/
def handPlaysWrong : ChangeSpec := { name := "handPlays", fn := fun _ => fun
  | [d1, d2] => { results := [.lit (.bool false)], args := [d1, d2] }
  | _ => none }
def HandPlaysWrongFalsely : Prop := handPlaysRow.holds Try.pinned (OpenSpec.ofChange handPlaysWrong)

/-- 'loamlaw10.KeysTwo': WHATEVER THE INPUT: true; the input reads as it did. -/
def keysTwoSpec : ChangeSpec := { name := "keysTwo", fn := fun _ => fun
  | [d1, d2] => { results := [.lit (.bool true)], args := [d1, d2] }
  | _ => none }
def keysTwoRow : OpenClaim := { program := "ytmennobdgfgjaaa", sum := "064c5797ea01148e9f4bac07b24edf9e1b454786f1a0b90f8493f89d2d5611a3", func := "loam/loamlaw10.KeysTwo", spec := "keysTwo", unfollowed := true, recurses := true, plainKeys := false, apart := false }
def KeysTwoSaid : Prop := keysTwoRow.holds Try.pinned (OpenSpec.ofChange keysTwoSpec)

/-- ITS FALSE NEIGHBOUR: 'it returns false'. Refute it at one input. -/
def keysTwoWrong : ChangeSpec := { name := "keysTwo", fn := fun _ => fun
  | [d1, d2] => { results := [.lit (.bool false)], args := [d1, d2] }
  | _ => none }
def KeysTwoWrongFalsely : Prop := keysTwoRow.holds Try.pinned (OpenSpec.ofChange keysTwoWrong)

/-- 'loamlaw10.KeySets': WHATEVER THE INPUT: true; the input reads as it did. -/
def keySetsSpec : ChangeSpec := { name := "keySets", fn := fun _ => fun
  | [d1, d2] => { results := [.lit (.bool true)], args := [d1, d2] }
  | _ => none }
def keySetsRow : OpenClaim := { program := "ytmennobdgfgjaaa", sum := "064c5797ea01148e9f4bac07b24edf9e1b454786f1a0b90f8493f89d2d5611a3", func := "loam/loamlaw10.KeySets", spec := "keySets", unfollowed := true, recurses := true, plainKeys := false, apart := false }
def KeySetsSaid : Prop := keySetsRow.holds Try.pinned (OpenSpec.ofChange keySetsSpec)

/-- ITS FALSE NEIGHBOUR: 'it returns false'. Refute it at one input. -/
def keySetsWrong : ChangeSpec := { name := "keySets", fn := fun _ => fun
  | [d1, d2] => { results := [.lit (.bool false)], args := [d1, d2] }
  | _ => none }
def KeySetsWrongFalsely : Prop := keySetsRow.holds Try.pinned (OpenSpec.ofChange keySetsWrong)

/-- 'loamlaw10.KeysSort': WHATEVER THE INPUT: true; the input reads as it did. -/
def keysSortSpec : ChangeSpec := { name := "keysSort", fn := fun _ => fun
  | [d] => { results := [.lit (.bool true)], args := [d] }
  | _ => none }
def keysSortRow : OpenClaim := { program := "ytmennobdgfgjaaa", sum := "064c5797ea01148e9f4bac07b24edf9e1b454786f1a0b90f8493f89d2d5611a3", func := "loam/loamlaw10.KeysSort", spec := "keysSort", unfollowed := true, recurses := true, plainKeys := false, apart := false }
def KeysSortSaid : Prop := keysSortRow.holds Try.pinned (OpenSpec.ofChange keysSortSpec)

/-- ITS FALSE NEIGHBOUR: 'it returns false'. Refute it at one input. -/
def keysSortWrong : ChangeSpec := { name := "keysSort", fn := fun _ => fun
  | [d] => { results := [.lit (.bool false)], args := [d] }
  | _ => none }
def KeysSortWrongFalsely : Prop := keysSortRow.holds Try.pinned (OpenSpec.ofChange keysSortWrong)

/-- 'loamlaw10.KeysPacked': WHATEVER THE INPUT: true; the input reads as it did. -/
def keysPackedSpec : ChangeSpec := { name := "keysPacked", fn := fun _ => fun
  | [d1, d2] => { results := [.lit (.bool true)], args := [d1, d2] }
  | _ => none }
def keysPackedRow : OpenClaim := { program := "ytmennobdgfgjaaa", sum := "064c5797ea01148e9f4bac07b24edf9e1b454786f1a0b90f8493f89d2d5611a3", func := "loam/loamlaw10.KeysPacked", spec := "keysPacked", unfollowed := true, recurses := true, plainKeys := false, apart := false }
def KeysPackedSaid : Prop := keysPackedRow.holds Try.pinned (OpenSpec.ofChange keysPackedSpec)

/-- ITS FALSE NEIGHBOUR: 'it returns false'. Refute it at one input. -/
def keysPackedWrong : ChangeSpec := { name := "keysPacked", fn := fun _ => fun
  | [d1, d2] => { results := [.lit (.bool false)], args := [d1, d2] }
  | _ => none }
def KeysPackedWrongFalsely : Prop := keysPackedRow.holds Try.pinned (OpenSpec.ofChange keysPackedWrong)

/-- 'loamlaw10.KeysBack': WHATEVER THE INPUT: true; the input reads as it did. -/
def keysBackSpec : ChangeSpec := { name := "keysBack", fn := fun _ => fun
  | [d] => { results := [.lit (.bool true)], args := [d] }
  | _ => none }
def keysBackRow : OpenClaim := { program := "ytmennobdgfgjaaa", sum := "064c5797ea01148e9f4bac07b24edf9e1b454786f1a0b90f8493f89d2d5611a3", func := "loam/loamlaw10.KeysBack", spec := "keysBack", unfollowed := true, recurses := true, plainKeys := false, apart := false }
def KeysBackSaid : Prop := keysBackRow.holds Try.pinned (OpenSpec.ofChange keysBackSpec)

/-- ITS FALSE NEIGHBOUR: 'it returns false'. Refute it at one input. -/
def keysBackWrong : ChangeSpec := { name := "keysBack", fn := fun _ => fun
  | [d] => { results := [.lit (.bool false)], args := [d] }
  | _ => none }
def KeysBackWrongFalsely : Prop := keysBackRow.holds Try.pinned (OpenSpec.ofChange keysBackWrong)

/- THE SECOND FORM. 'bulk': how many values and letters a reading holds, each counted each time it is reached (what is shared counts as often as it is met; a slice's spare places count too). A statement '..UptoSaid' is the law's where the arguments, and the package variables that the reading takes, are together of bulk at most 1048576: NARROWER than '..Said'. Prove '..Said' where nothing that the law and all that it calls make is longer than what came in: it says more and counts as full. Else prove '..UptoSaid'. A law counts once. -/
mutual
def uptoBulk {H : Type} : DataW H → Nat
  | .lit (.string bytes) => bytes.length + 1
  | .lit _ => 1
  | .nil => 1
  | .ptr d => uptoBulk d + 1
  | .slice elems spare => uptoBulkAll elems + uptoBulkAll spare + 1
  | .agg parts => uptoBulkAll parts + 1
  | .iface _ d => uptoBulk d + 1
  | .map entries => uptoBulkEntries entries + 1
  | .held _ => 1
def uptoBulkAll {H : Type} : List (DataW H) → Nat
  | [] => 0
  | d :: r => uptoBulk d + uptoBulkAll r
def uptoBulkEntries {H : Type} : List (Lit × DataW H) → Nat
  | [] => 0
  | x :: r => uptoBulkEntry x + uptoBulkEntries r
def uptoBulkEntry {H : Type} : Lit × DataW H → Nat
  | (.string bytes, d) => bytes.length + uptoBulk d + 1
  | (_, d) => uptoBulk d + 1
 end
def uptoSmall : (H : Type) → List (DataW H) → Bool := fun _ ds => decide (uptoBulkAll ds ≤ 1048576)
def OpenSpec.upto (s : _root_.Go.ChangeSpec) : _root_.Go.OpenSpec := { _root_.Go.OpenSpec.ofChange s with cond := some uptoSmall }

/-- 'loamlaw20.HandFull', WHERE WHAT IT READS IS OF BULK AT MOST 1048576: true; the input reads as it did. -/
def handFullUptoRow : OpenClaim := { program := "ytmennobdgfgjaaa", sum := "064c5797ea01148e9f4bac07b24edf9e1b454786f1a0b90f8493f89d2d5611a3", func := "loam/loamlaw20.HandFull", spec := "handFull", unfollowed := true, recurses := true, plainKeys := false, apart := false, narrowed := true }
def HandFullUptoSaid : Prop := handFullUptoRow.holds Try.pinned (OpenSpec.upto handFullSpec)

/-- 'loamlaw20.HandRenumbers', WHERE WHAT IT READS IS OF BULK AT MOST 1048576: true; the input reads as it did. -/
def handRenumbersUptoRow : OpenClaim := { program := "ytmennobdgfgjaaa", sum := "064c5797ea01148e9f4bac07b24edf9e1b454786f1a0b90f8493f89d2d5611a3", func := "loam/loamlaw20.HandRenumbers", spec := "handRenumbers", unfollowed := true, recurses := true, plainKeys := false, apart := false, narrowed := true }
def HandRenumbersUptoSaid : Prop := handRenumbersUptoRow.holds Try.pinned (OpenSpec.upto handRenumbersSpec)

/-- 'loamlaw20.HandFinds', WHERE WHAT IT READS IS OF BULK AT MOST 1048576: true; the input reads as it did. -/
def handFindsUptoRow : OpenClaim := { program := "ytmennobdgfgjaaa", sum := "064c5797ea01148e9f4bac07b24edf9e1b454786f1a0b90f8493f89d2d5611a3", func := "loam/loamlaw20.HandFinds", spec := "handFinds", unfollowed := true, recurses := true, plainKeys := false, apart := false, narrowed := true }
def HandFindsUptoSaid : Prop := handFindsUptoRow.holds Try.pinned (OpenSpec.upto handFindsSpec)

/-- 'loamlaw20.HandPlays', WHERE WHAT IT READS IS OF BULK AT MOST 1048576: true; the input reads as it did. -/
def handPlaysUptoRow : OpenClaim := { program := "ytmennobdgfgjaaa", sum := "064c5797ea01148e9f4bac07b24edf9e1b454786f1a0b90f8493f89d2d5611a3", func := "loam/loamlaw20.HandPlays", spec := "handPlays", inPlace := ["maps.clone"], unfollowed := true, recurses := true, plainKeys := false, apart := false, narrowed := true }
def HandPlaysUptoSaid : Prop := handPlaysUptoRow.holds Try.pinned (OpenSpec.upto handPlaysSpec)

/-- 'loamlaw10.KeysTwo', WHERE WHAT IT READS IS OF BULK AT MOST 1048576: true; the input reads as it did. -/
def keysTwoUptoRow : OpenClaim := { program := "ytmennobdgfgjaaa", sum := "064c5797ea01148e9f4bac07b24edf9e1b454786f1a0b90f8493f89d2d5611a3", func := "loam/loamlaw10.KeysTwo", spec := "keysTwo", unfollowed := true, recurses := true, plainKeys := false, apart := false, narrowed := true }
def KeysTwoUptoSaid : Prop := keysTwoUptoRow.holds Try.pinned (OpenSpec.upto keysTwoSpec)

/-- 'loamlaw10.KeySets', WHERE WHAT IT READS IS OF BULK AT MOST 1048576: true; the input reads as it did. -/
def keySetsUptoRow : OpenClaim := { program := "ytmennobdgfgjaaa", sum := "064c5797ea01148e9f4bac07b24edf9e1b454786f1a0b90f8493f89d2d5611a3", func := "loam/loamlaw10.KeySets", spec := "keySets", unfollowed := true, recurses := true, plainKeys := false, apart := false, narrowed := true }
def KeySetsUptoSaid : Prop := keySetsUptoRow.holds Try.pinned (OpenSpec.upto keySetsSpec)

/-- 'loamlaw10.KeysSort', WHERE WHAT IT READS IS OF BULK AT MOST 1048576: true; the input reads as it did. -/
def keysSortUptoRow : OpenClaim := { program := "ytmennobdgfgjaaa", sum := "064c5797ea01148e9f4bac07b24edf9e1b454786f1a0b90f8493f89d2d5611a3", func := "loam/loamlaw10.KeysSort", spec := "keysSort", unfollowed := true, recurses := true, plainKeys := false, apart := false, narrowed := true }
def KeysSortUptoSaid : Prop := keysSortUptoRow.holds Try.pinned (OpenSpec.upto keysSortSpec)

/-- 'loamlaw10.KeysPacked', WHERE WHAT IT READS IS OF BULK AT MOST 1048576: true; the input reads as it did. -/
def keysPackedUptoRow : OpenClaim := { program := "ytmennobdgfgjaaa", sum := "064c5797ea01148e9f4bac07b24edf9e1b454786f1a0b90f8493f89d2d5611a3", func := "loam/loamlaw10.KeysPacked", spec := "keysPacked", unfollowed := true, recurses := true, plainKeys := false, apart := false, narrowed := true }
def KeysPackedUptoSaid : Prop := keysPackedUptoRow.holds Try.pinned (OpenSpec.upto keysPackedSpec)

/-- 'loamlaw10.KeysBack', WHERE WHAT IT READS IS OF BULK AT MOST 1048576: true; the input reads as it did. -/
def keysBackUptoRow : OpenClaim := { program := "ytmennobdgfgjaaa", sum := "064c5797ea01148e9f4bac07b24edf9e1b454786f1a0b90f8493f89d2d5611a3", func := "loam/loamlaw10.KeysBack", spec := "keysBack", unfollowed := true, recurses := true, plainKeys := false, apart := false, narrowed := true }
def KeysBackUptoSaid : Prop := keysBackUptoRow.holds Try.pinned (OpenSpec.upto keysBackSpec)

end Rows
end Go.Proofs.Ytmennobdgfgjaaa
