/-
  No cell of these rows narrows 'for every input' (looked for: loops, veiled, ifaces, maps, wideKeys, modest, calm, conditions, laid).
  DERIVED. THE GIVEN ROWS OF THIS SEAT. 11 by the template 'for every input the law returns true; each argument reads behind the call as it read before'; 0 by the template 'total and deterministic' (their statements: YtbfnmgjpkieaoaaTotals.lean).
  GIVEN WITH THE SEED: the statements are not yours to turn. If you find one false, say at which input.
  Laid BY PROGRAM, IN A SANDBOX (cutbox-rows.mjs): the forced cells as the released guide's own fill.sh prints them over the translation 1a548827a434163b… (all of the seat's roots in one cut). By AI agents, Wed Nov 11 2026. No macro, syntax, notation, axiom, sorry.
-/
import Derived.Test.YtbfnmgjpkieaoaaChecked
import GoSem.Claim
import GoSem.ClaimJoined
import GoSem.ClaimMapViews
import Derived.JoinedTies
import Derived.KernelRfl
namespace Go.Proofs.Ytbfnmgjpkieaoaa
/- THE CELL 'sum', in the pinned program and in every row, IS THE sha256 OF THE DUMP (.gsa) THAT YtbfnmgjpkieaoaaProg.lean LOADS. Nothing in Lean hashes anything: it is a label: what it is worth is what the hold of that sum in a sandbox is worth. -/
noncomputable def Try.pinned : Pinned := { name := "ytbfnmgjpkieaoaa", sum := "1a548827a434163b216c2c49eca51d831ea8287878932bc047ae693c89e3bce0", checked := Try.checked }
namespace Rows
def none {H : Type} : Left H := { results := [], args := [] }

/-- 'loamlaw3.DiskArms': WHATEVER THE INPUT: true; the input reads as it did. -/
def diskArmsSpec : ChangeSpec := { name := "diskArms", fn := fun _ => fun
  | [d1, d2] => { results := [.lit (.bool true)], args := [d1, d2] }
  | _ => none }
def diskArmsRow : OpenClaim := { program := "ytbfnmgjpkieaoaa", sum := "1a548827a434163b216c2c49eca51d831ea8287878932bc047ae693c89e3bce0", func := "loam/loamlaw3.DiskArms", spec := "diskArms", unfollowed := true, recurses := true, plainKeys := false, apart := false }
def DiskArmsSaid : Prop := diskArmsRow.holds Try.pinned (OpenSpec.ofChange diskArmsSpec)

/-- ITS FALSE NEIGHBOUR: 'it returns false'. Refute it at one input. -/
def diskArmsWrong : ChangeSpec := { name := "diskArms", fn := fun _ => fun
  | [d1, d2] => { results := [.lit (.bool false)], args := [d1, d2] }
  | _ => none }
def DiskArmsWrongFalsely : Prop := diskArmsRow.holds Try.pinned (OpenSpec.ofChange diskArmsWrong)

/-- 'loamlaw3.DiskSyncs': WHATEVER THE INPUT: true; the input reads as it did. -/
def diskSyncsSpec : ChangeSpec := { name := "diskSyncs", fn := fun _ => fun
  | [d1, d2, d3] => { results := [.lit (.bool true)], args := [d1, d2, d3] }
  | _ => none }
def diskSyncsRow : OpenClaim := { program := "ytbfnmgjpkieaoaa", sum := "1a548827a434163b216c2c49eca51d831ea8287878932bc047ae693c89e3bce0", func := "loam/loamlaw3.DiskSyncs", spec := "diskSyncs", unfollowed := true, recurses := true, plainKeys := false, apart := false }
def DiskSyncsSaid : Prop := diskSyncsRow.holds Try.pinned (OpenSpec.ofChange diskSyncsSpec)

/-- ITS FALSE NEIGHBOUR: 'it returns false'. Refute it at one input. -/
def diskSyncsWrong : ChangeSpec := { name := "diskSyncs", fn := fun _ => fun
  | [d1, d2, d3] => { results := [.lit (.bool false)], args := [d1, d2, d3] }
  | _ => none }
def DiskSyncsWrongFalsely : Prop := diskSyncsRow.holds Try.pinned (OpenSpec.ofChange diskSyncsWrong)

/-- 'loamlaw11.CacheKeeps': WHATEVER THE INPUT: true; the input reads as it did. -/
def cacheKeepsSpec : ChangeSpec := { name := "cacheKeeps", fn := fun _ => fun
  | [d1, d2] => { results := [.lit (.bool true)], args := [d1, d2] }
  | _ => none }
def cacheKeepsRow : OpenClaim := { program := "ytbfnmgjpkieaoaa", sum := "1a548827a434163b216c2c49eca51d831ea8287878932bc047ae693c89e3bce0", func := "loam/loamlaw11.CacheKeeps", spec := "cacheKeeps", unfollowed := true, recurses := true, plainKeys := false, apart := false }
def CacheKeepsSaid : Prop := cacheKeepsRow.holds Try.pinned (OpenSpec.ofChange cacheKeepsSpec)

/-- ITS FALSE NEIGHBOUR: 'it returns false'. Refute it at one input. -/
def cacheKeepsWrong : ChangeSpec := { name := "cacheKeeps", fn := fun _ => fun
  | [d1, d2] => { results := [.lit (.bool false)], args := [d1, d2] }
  | _ => none }
def CacheKeepsWrongFalsely : Prop := cacheKeepsRow.holds Try.pinned (OpenSpec.ofChange cacheKeepsWrong)

/-- 'loamlaw11.CachePins': WHATEVER THE INPUT: true; the input reads as it did. -/
def cachePinsSpec : ChangeSpec := { name := "cachePins", fn := fun _ => fun
  | [d1, d2] => { results := [.lit (.bool true)], args := [d1, d2] }
  | _ => none }
def cachePinsRow : OpenClaim := { program := "ytbfnmgjpkieaoaa", sum := "1a548827a434163b216c2c49eca51d831ea8287878932bc047ae693c89e3bce0", func := "loam/loamlaw11.CachePins", spec := "cachePins", unfollowed := true, recurses := true, plainKeys := false, apart := false }
def CachePinsSaid : Prop := cachePinsRow.holds Try.pinned (OpenSpec.ofChange cachePinsSpec)

/-- ITS FALSE NEIGHBOUR: 'it returns false'. Refute it at one input. -/
def cachePinsWrong : ChangeSpec := { name := "cachePins", fn := fun _ => fun
  | [d1, d2] => { results := [.lit (.bool false)], args := [d1, d2] }
  | _ => none }
def CachePinsWrongFalsely : Prop := cachePinsRow.holds Try.pinned (OpenSpec.ofChange cachePinsWrong)

/-- 'loamlaw11.CacheLast': WHATEVER THE INPUT: true; the input reads as it did. -/
def cacheLastSpec : ChangeSpec := { name := "cacheLast", fn := fun _ => fun
  | [d1, d2] => { results := [.lit (.bool true)], args := [d1, d2] }
  | _ => none }
def cacheLastRow : OpenClaim := { program := "ytbfnmgjpkieaoaa", sum := "1a548827a434163b216c2c49eca51d831ea8287878932bc047ae693c89e3bce0", func := "loam/loamlaw11.CacheLast", spec := "cacheLast", unfollowed := true, recurses := true, plainKeys := false, apart := false }
def CacheLastSaid : Prop := cacheLastRow.holds Try.pinned (OpenSpec.ofChange cacheLastSpec)

/-- ITS FALSE NEIGHBOUR: 'it returns false'. Refute it at one input. -/
def cacheLastWrong : ChangeSpec := { name := "cacheLast", fn := fun _ => fun
  | [d1, d2] => { results := [.lit (.bool false)], args := [d1, d2] }
  | _ => none }
def CacheLastWrongFalsely : Prop := cacheLastRow.holds Try.pinned (OpenSpec.ofChange cacheLastWrong)

/-- 'loamlaw3.DiskPlays': WHATEVER THE INPUT: true; the input reads as it did. -/
def diskPlaysSpec : ChangeSpec := { name := "diskPlays", fn := fun _ => fun
  | [d1, d2, d3] => { results := [.lit (.bool true)], args := [d1, d2, d3] }
  | _ => none }
def diskPlaysRow : OpenClaim := { program := "ytbfnmgjpkieaoaa", sum := "1a548827a434163b216c2c49eca51d831ea8287878932bc047ae693c89e3bce0", func := "loam/loamlaw3.DiskPlays", spec := "diskPlays", inPlace := ["maps.clone"], unfollowed := true, recurses := true, plainKeys := false, apart := false }
def DiskPlaysSaid : Prop := diskPlaysRow.holds Try.pinned (OpenSpec.ofChange diskPlaysSpec)

/-- ITS FALSE NEIGHBOUR: 'it returns false'. Refute it at one input. -/
def diskPlaysWrong : ChangeSpec := { name := "diskPlays", fn := fun _ => fun
  | [d1, d2, d3] => { results := [.lit (.bool false)], args := [d1, d2, d3] }
  | _ => none }
def DiskPlaysWrongFalsely : Prop := diskPlaysRow.holds Try.pinned (OpenSpec.ofChange diskPlaysWrong)

/-- 'loamlaw3.DiskOf': WHATEVER THE INPUT: true; the input reads as it did. -/
def diskOfSpec : ChangeSpec := { name := "diskOf", fn := fun _ => fun
  | [d1, d2] => { results := [.lit (.bool true)], args := [d1, d2] }
  | _ => none }
def diskOfRow : OpenClaim := { program := "ytbfnmgjpkieaoaa", sum := "1a548827a434163b216c2c49eca51d831ea8287878932bc047ae693c89e3bce0", func := "loam/loamlaw3.DiskOf", spec := "diskOf", unfollowed := true, recurses := true, plainKeys := false, apart := false }
def DiskOfSaid : Prop := diskOfRow.holds Try.pinned (OpenSpec.ofChange diskOfSpec)

/-- ITS FALSE NEIGHBOUR: 'it returns false'. Refute it at one input. -/
def diskOfWrong : ChangeSpec := { name := "diskOf", fn := fun _ => fun
  | [d1, d2] => { results := [.lit (.bool false)], args := [d1, d2] }
  | _ => none }
def DiskOfWrongFalsely : Prop := diskOfRow.holds Try.pinned (OpenSpec.ofChange diskOfWrong)

/-- 'loamlaw19.NameTexts': WHATEVER THE INPUT: true; the input reads as it did. -/
def nameTextsSpec : ChangeSpec := { name := "nameTexts", fn := fun _ => fun
  | [d] => { results := [.lit (.bool true)], args := [d] }
  | _ => none }
def nameTextsRow : OpenClaim := { program := "ytbfnmgjpkieaoaa", sum := "1a548827a434163b216c2c49eca51d831ea8287878932bc047ae693c89e3bce0", func := "loam/loamlaw19.NameTexts", spec := "nameTexts", inPlace := ["internal/bytealg.IndexByteString", "internal/bytealg.IndexString", "internal/bytealg.Compare"], unfollowed := true, recurses := true, named := ["internal/bytealg.MaxLen"], plainKeys := false, apart := false }
def NameTextsSaid : Prop := nameTextsRow.holds Try.pinned (OpenSpec.ofChange nameTextsSpec)

/-- ITS FALSE NEIGHBOUR: 'it returns false'. Refute it at one input. -/
def nameTextsWrong : ChangeSpec := { name := "nameTexts", fn := fun _ => fun
  | [d] => { results := [.lit (.bool false)], args := [d] }
  | _ => none }
def NameTextsWrongFalsely : Prop := nameTextsRow.holds Try.pinned (OpenSpec.ofChange nameTextsWrong)

/-- 'loamlaw19.TableFull': WHATEVER THE INPUT: true; the input reads as it did. -/
def tableFullSpec : ChangeSpec := { name := "tableFull", fn := fun _ => fun
  | [d] => { results := [.lit (.bool true)], args := [d] }
  | _ => none }
def tableFullRow : OpenClaim := { program := "ytbfnmgjpkieaoaa", sum := "1a548827a434163b216c2c49eca51d831ea8287878932bc047ae693c89e3bce0", func := "loam/loamlaw19.TableFull", spec := "tableFull", inPlace := ["internal/bytealg.IndexByteString", "internal/bytealg.IndexString", "internal/bytealg.Compare"], unfollowed := true, recurses := true, named := ["internal/bytealg.MaxLen"], plainKeys := false, apart := false }
def TableFullSaid : Prop := tableFullRow.holds Try.pinned (OpenSpec.ofChange tableFullSpec)

/-- ITS FALSE NEIGHBOUR: 'it returns false'. Refute it at one input. -/
def tableFullWrong : ChangeSpec := { name := "tableFull", fn := fun _ => fun
  | [d] => { results := [.lit (.bool false)], args := [d] }
  | _ => none }
def TableFullWrongFalsely : Prop := tableFullRow.holds Try.pinned (OpenSpec.ofChange tableFullWrong)

/-- 'loamlaw19.NameUnlike': WHATEVER THE INPUT: true; the input reads as it did. -/
def nameUnlikeSpec : ChangeSpec := { name := "nameUnlike", fn := fun _ => fun
  | [d1, d2] => { results := [.lit (.bool true)], args := [d1, d2] }
  | _ => none }
def nameUnlikeRow : OpenClaim := { program := "ytbfnmgjpkieaoaa", sum := "1a548827a434163b216c2c49eca51d831ea8287878932bc047ae693c89e3bce0", func := "loam/loamlaw19.NameUnlike", spec := "nameUnlike", inPlace := ["internal/bytealg.IndexByteString", "internal/bytealg.IndexString", "internal/bytealg.Compare"], unfollowed := true, recurses := true, named := ["internal/bytealg.MaxLen"], plainKeys := false, apart := false }
def NameUnlikeSaid : Prop := nameUnlikeRow.holds Try.pinned (OpenSpec.ofChange nameUnlikeSpec)

/-- ITS FALSE NEIGHBOUR: 'it returns false'. Refute it at one input. -/
def nameUnlikeWrong : ChangeSpec := { name := "nameUnlike", fn := fun _ => fun
  | [d1, d2] => { results := [.lit (.bool false)], args := [d1, d2] }
  | _ => none }
def NameUnlikeWrongFalsely : Prop := nameUnlikeRow.holds Try.pinned (OpenSpec.ofChange nameUnlikeWrong)

/-- 'loamlaw19.TablePlays': WHATEVER THE INPUT: true; the input reads as it did. -/
def tablePlaysSpec : ChangeSpec := { name := "tablePlays", fn := fun _ => fun
  | [d] => { results := [.lit (.bool true)], args := [d] }
  | _ => none }
def tablePlaysRow : OpenClaim := { program := "ytbfnmgjpkieaoaa", sum := "1a548827a434163b216c2c49eca51d831ea8287878932bc047ae693c89e3bce0", func := "loam/loamlaw19.TablePlays", spec := "tablePlays", inPlace := ["internal/bytealg.IndexByteString", "internal/bytealg.IndexString", "internal/bytealg.Compare", "maps.clone"], unfollowed := true, recurses := true, named := ["internal/bytealg.MaxLen"], plainKeys := false, apart := false }
def TablePlaysSaid : Prop := tablePlaysRow.holds Try.pinned (OpenSpec.ofChange tablePlaysSpec)

/-- ITS FALSE NEIGHBOUR: 'it returns false'. Refute it at one input. -/
def tablePlaysWrong : ChangeSpec := { name := "tablePlays", fn := fun _ => fun
  | [d] => { results := [.lit (.bool false)], args := [d] }
  | _ => none }
def TablePlaysWrongFalsely : Prop := tablePlaysRow.holds Try.pinned (OpenSpec.ofChange tablePlaysWrong)

/- THE SECOND FORM. 'bulk': how many values and letters a reading holds, each counted each time it is reached (what is shared counts as often as it is met; a slice's spare places count too). A statement '..UptoSaid' is the law's where the arguments, and the package variables that the reading takes, are together of bulk at most 1048576: NARROWER than '..Said'. Prove '..Said' where nothing that the law and all that it calls make is longer than what came in: it says more and counts as full. Else prove '..UptoSaid'. A law counts once. -/
mutual
def uptoBulk {H : Type} : DataW H → Nat
  | .lit (.string bytes) => bytes.length + 1
  | .lit _ => 1
  | .nil => 1
  | .ptr d => uptoBulk d + 1
  | .slice elems spare => uptoBulkAll elems + uptoBulkAll spare + 1
  | .agg parts => uptoBulkAll parts + 1
  | .iface _ d => uptoBulk d + 1
  | .map entries => uptoBulkEntries entries + 1
  | .held _ => 1
def uptoBulkAll {H : Type} : List (DataW H) → Nat
  | [] => 0
  | d :: r => uptoBulk d + uptoBulkAll r
def uptoBulkEntries {H : Type} : List (Lit × DataW H) → Nat
  | [] => 0
  | x :: r => uptoBulkEntry x + uptoBulkEntries r
def uptoBulkEntry {H : Type} : Lit × DataW H → Nat
  | (.string bytes, d) => bytes.length + uptoBulk d + 1
  | (_, d) => uptoBulk d + 1
 end
def uptoSmall : (H : Type) → List (DataW H) → Bool := fun _ ds => decide (uptoBulkAll ds ≤ 1048576)
def OpenSpec.upto (s : _root_.Go.ChangeSpec) : _root_.Go.OpenSpec := { _root_.Go.OpenSpec.ofChange s with cond := some uptoSmall }

/-- 'loamlaw3.DiskArms', WHERE WHAT IT READS IS OF BULK AT MOST 1048576: true; the input reads as it did. -/
def diskArmsUptoRow : OpenClaim := { program := "ytbfnmgjpkieaoaa", sum := "1a548827a434163b216c2c49eca51d831ea8287878932bc047ae693c89e3bce0", func := "loam/loamlaw3.DiskArms", spec := "diskArms", unfollowed := true, recurses := true, plainKeys := false, apart := false, narrowed := true }
def DiskArmsUptoSaid : Prop := diskArmsUptoRow.holds Try.pinned (OpenSpec.upto diskArmsSpec)

/-- 'loamlaw3.DiskSyncs', WHERE WHAT IT READS IS OF BULK AT MOST 1048576: true; the input reads as it did. -/
def diskSyncsUptoRow : OpenClaim := { program := "ytbfnmgjpkieaoaa", sum := "1a548827a434163b216c2c49eca51d831ea8287878932bc047ae693c89e3bce0", func := "loam/loamlaw3.DiskSyncs", spec := "diskSyncs", unfollowed := true, recurses := true, plainKeys := false, apart := false, narrowed := true }
def DiskSyncsUptoSaid : Prop := diskSyncsUptoRow.holds Try.pinned (OpenSpec.upto diskSyncsSpec)

/-- 'loamlaw11.CacheKeeps', WHERE WHAT IT READS IS OF BULK AT MOST 1048576: true; the input reads as it did. -/
def cacheKeepsUptoRow : OpenClaim := { program := "ytbfnmgjpkieaoaa", sum := "1a548827a434163b216c2c49eca51d831ea8287878932bc047ae693c89e3bce0", func := "loam/loamlaw11.CacheKeeps", spec := "cacheKeeps", unfollowed := true, recurses := true, plainKeys := false, apart := false, narrowed := true }
def CacheKeepsUptoSaid : Prop := cacheKeepsUptoRow.holds Try.pinned (OpenSpec.upto cacheKeepsSpec)

/-- 'loamlaw11.CachePins', WHERE WHAT IT READS IS OF BULK AT MOST 1048576: true; the input reads as it did. -/
def cachePinsUptoRow : OpenClaim := { program := "ytbfnmgjpkieaoaa", sum := "1a548827a434163b216c2c49eca51d831ea8287878932bc047ae693c89e3bce0", func := "loam/loamlaw11.CachePins", spec := "cachePins", unfollowed := true, recurses := true, plainKeys := false, apart := false, narrowed := true }
def CachePinsUptoSaid : Prop := cachePinsUptoRow.holds Try.pinned (OpenSpec.upto cachePinsSpec)

/-- 'loamlaw11.CacheLast', WHERE WHAT IT READS IS OF BULK AT MOST 1048576: true; the input reads as it did. -/
def cacheLastUptoRow : OpenClaim := { program := "ytbfnmgjpkieaoaa", sum := "1a548827a434163b216c2c49eca51d831ea8287878932bc047ae693c89e3bce0", func := "loam/loamlaw11.CacheLast", spec := "cacheLast", unfollowed := true, recurses := true, plainKeys := false, apart := false, narrowed := true }
def CacheLastUptoSaid : Prop := cacheLastUptoRow.holds Try.pinned (OpenSpec.upto cacheLastSpec)

/-- 'loamlaw3.DiskPlays', WHERE WHAT IT READS IS OF BULK AT MOST 1048576: true; the input reads as it did. -/
def diskPlaysUptoRow : OpenClaim := { program := "ytbfnmgjpkieaoaa", sum := "1a548827a434163b216c2c49eca51d831ea8287878932bc047ae693c89e3bce0", func := "loam/loamlaw3.DiskPlays", spec := "diskPlays", inPlace := ["maps.clone"], unfollowed := true, recurses := true, plainKeys := false, apart := false, narrowed := true }
def DiskPlaysUptoSaid : Prop := diskPlaysUptoRow.holds Try.pinned (OpenSpec.upto diskPlaysSpec)

/-- 'loamlaw3.DiskOf', WHERE WHAT IT READS IS OF BULK AT MOST 1048576: true; the input reads as it did. -/
def diskOfUptoRow : OpenClaim := { program := "ytbfnmgjpkieaoaa", sum := "1a548827a434163b216c2c49eca51d831ea8287878932bc047ae693c89e3bce0", func := "loam/loamlaw3.DiskOf", spec := "diskOf", unfollowed := true, recurses := true, plainKeys := false, apart := false, narrowed := true }
def DiskOfUptoSaid : Prop := diskOfUptoRow.holds Try.pinned (OpenSpec.upto diskOfSpec)

/-- 'loamlaw19.NameTexts', WHERE WHAT IT READS IS OF BULK AT MOST 1048576: true; the input reads as it did. -/
def nameTextsUptoRow : OpenClaim := { program := "ytbfnmgjpkieaoaa", sum := "1a548827a434163b216c2c49eca51d831ea8287878932bc047ae693c89e3bce0", func := "loam/loamlaw19.NameTexts", spec := "nameTexts", inPlace := ["internal/bytealg.IndexByteString", "internal/bytealg.IndexString", "internal/bytealg.Compare"], unfollowed := true, recurses := true, named := ["internal/bytealg.MaxLen"], plainKeys := false, apart := false, narrowed := true }
def NameTextsUptoSaid : Prop := nameTextsUptoRow.holds Try.pinned (OpenSpec.upto nameTextsSpec)

/-- 'loamlaw19.TableFull', WHERE WHAT IT READS IS OF BULK AT MOST 1048576: true; the input reads as it did. -/
def tableFullUptoRow : OpenClaim := { program := "ytbfnmgjpkieaoaa", sum := "1a548827a434163b216c2c49eca51d831ea8287878932bc047ae693c89e3bce0", func := "loam/loamlaw19.TableFull", spec := "tableFull", inPlace := ["internal/bytealg.IndexByteString", "internal/bytealg.IndexString", "internal/bytealg.Compare"], unfollowed := true, recurses := true, named := ["internal/bytealg.MaxLen"], plainKeys := false, apart := false, narrowed := true }
def TableFullUptoSaid : Prop := tableFullUptoRow.holds Try.pinned (OpenSpec.upto tableFullSpec)

/-- 'loamlaw19.NameUnlike', WHERE WHAT IT READS IS OF BULK AT MOST 1048576: true; the input reads as it did. -/
def nameUnlikeUptoRow : OpenClaim := { program := "ytbfnmgjpkieaoaa", sum := "1a548827a434163b216c2c49eca51d831ea8287878932bc047ae693c89e3bce0", func := "loam/loamlaw19.NameUnlike", spec := "nameUnlike", inPlace := ["internal/bytealg.IndexByteString", "internal/bytealg.IndexString", "internal/bytealg.Compare"], unfollowed := true, recurses := true, named := ["internal/bytealg.MaxLen"], plainKeys := false, apart := false, narrowed := true }
def NameUnlikeUptoSaid : Prop := nameUnlikeUptoRow.holds Try.pinned (OpenSpec.upto nameUnlikeSpec)

/-- 'loamlaw19.TablePlays', WHERE WHAT IT READS IS OF BULK AT MOST 1048576: true; the input reads as it did. -/
def tablePlaysUptoRow : OpenClaim := { program := "ytbfnmgjpkieaoaa", sum := "1a548827a434163b216c2c49eca51d831ea8287878932bc047ae693c89e3bce0", func := "loam/loamlaw19.TablePlays", spec := "tablePlays", inPlace := ["internal/bytealg.IndexByteString", "internal/bytealg.IndexString", "internal/bytealg.Compare", "maps.clone"], unfollowed := true, recurses := true, named := ["internal/bytealg.MaxLen"], plainKeys := false, apart := false, narrowed := true }
def TablePlaysUptoSaid : Prop := tablePlaysUptoRow.holds Try.pinned (OpenSpec.upto tablePlaysSpec)

end Rows
end Go.Proofs.Ytbfnmgjpkieaoaa
