/-
  No cell of these rows narrows 'for every input' (looked for: loops, veiled, ifaces, maps, wideKeys, modest, calm, conditions, laid).
  DERIVED. THE GIVEN ROWS OF THIS SEAT. 12 by the template 'for every input the law returns true; each argument reads behind the call as it read before'; 0 by the template 'total and deterministic' (their statements: YthghcdddambaeaaTotals.lean).
  GIVEN WITH THE SEED: the statements are not yours to turn. If you find one false, say at which input.
  Laid BY PROGRAM, IN A SANDBOX (cutbox-rows.mjs): the forced cells as the released guide's own fill.sh prints them over the translation cf10a921767b56e8… (all of the seat's roots in one cut). By AI agents, Wed Nov 11 2026. No macro, syntax, notation, axiom, sorry.
-/
import Derived.Test.YthghcdddambaeaaChecked
import GoSem.Claim
import GoSem.ClaimJoined
import GoSem.ClaimMapViews
import Derived.JoinedTies
import Derived.KernelRfl
namespace Go.Proofs.Ythghcdddambaeaa
/- THE CELL 'sum', in the pinned program and in every row, IS THE sha256 OF THE DUMP (.gsa) THAT YthghcdddambaeaaProg.lean LOADS. Nothing in Lean hashes anything: it is a label: what it is worth is what the hold of that sum in a sandbox is worth. -/
noncomputable def Try.pinned : Pinned := { name := "ythghcdddambaeaa", sum := "cf10a921767b56e836932af59101ae6ef4b1aef750e0511f792b8595ce10c1fa", checked := Try.checked }
namespace Rows
def none {H : Type} : Left H := { results := [], args := [] }

/-- 'pentimentolaw18.ListOver': WHATEVER THE INPUT: true; the input reads as it did. -/
def listOverSpec : ChangeSpec := { name := "listOver", fn := fun _ => fun
  | [d1, d2] => { results := [.lit (.bool true)], args := [d1, d2] }
  | _ => none }
def listOverRow : OpenClaim := { program := "ythghcdddambaeaa", sum := "cf10a921767b56e836932af59101ae6ef4b1aef750e0511f792b8595ce10c1fa", func := "pentimento/pentimentolaw18.ListOver", spec := "listOver", unfollowed := true, recurses := true, apart := false }
def ListOverSaid : Prop := listOverRow.holds Try.pinned (OpenSpec.ofChange listOverSpec)

/-- ITS FALSE NEIGHBOUR: 'it returns false'. Refute it at one input. -/
def listOverWrong : ChangeSpec := { name := "listOver", fn := fun _ => fun
  | [d1, d2] => { results := [.lit (.bool false)], args := [d1, d2] }
  | _ => none }
def ListOverWrongFalsely : Prop := listOverRow.holds Try.pinned (OpenSpec.ofChange listOverWrong)

/-- 'pentimentolaw18.ListDrops': WHATEVER THE INPUT: true; the input reads as it did. -/
def listDropsSpec : ChangeSpec := { name := "listDrops", fn := fun _ => fun
  | [d1, d2] => { results := [.lit (.bool true)], args := [d1, d2] }
  | _ => none }
def listDropsRow : OpenClaim := { program := "ythghcdddambaeaa", sum := "cf10a921767b56e836932af59101ae6ef4b1aef750e0511f792b8595ce10c1fa", func := "pentimento/pentimentolaw18.ListDrops", spec := "listDrops", unfollowed := true, recurses := true, apart := false }
def ListDropsSaid : Prop := listDropsRow.holds Try.pinned (OpenSpec.ofChange listDropsSpec)

/-- ITS FALSE NEIGHBOUR: 'it returns false'. Refute it at one input. -/
def listDropsWrong : ChangeSpec := { name := "listDrops", fn := fun _ => fun
  | [d1, d2] => { results := [.lit (.bool false)], args := [d1, d2] }
  | _ => none }
def ListDropsWrongFalsely : Prop := listDropsRow.holds Try.pinned (OpenSpec.ofChange listDropsWrong)

/-- 'pentimentolaw18.ListStays': WHATEVER THE INPUT: true; the input reads as it did. -/
def listStaysSpec : ChangeSpec := { name := "listStays", fn := fun _ => fun
  | [d1, d2] => { results := [.lit (.bool true)], args := [d1, d2] }
  | _ => none }
def listStaysRow : OpenClaim := { program := "ythghcdddambaeaa", sum := "cf10a921767b56e836932af59101ae6ef4b1aef750e0511f792b8595ce10c1fa", func := "pentimento/pentimentolaw18.ListStays", spec := "listStays", unfollowed := true, recurses := true, apart := false }
def ListStaysSaid : Prop := listStaysRow.holds Try.pinned (OpenSpec.ofChange listStaysSpec)

/-- ITS FALSE NEIGHBOUR: 'it returns false'. Refute it at one input. -/
def listStaysWrong : ChangeSpec := { name := "listStays", fn := fun _ => fun
  | [d1, d2] => { results := [.lit (.bool false)], args := [d1, d2] }
  | _ => none }
def ListStaysWrongFalsely : Prop := listStaysRow.holds Try.pinned (OpenSpec.ofChange listStaysWrong)

/-- 'pentimentolaw18.ListNames': WHATEVER THE INPUT: true; the input reads as it did. -/
def listNamesSpec : ChangeSpec := { name := "listNames", fn := fun _ => fun
  | [d] => { results := [.lit (.bool true)], args := [d] }
  | _ => none }
def listNamesRow : OpenClaim := { program := "ythghcdddambaeaa", sum := "cf10a921767b56e836932af59101ae6ef4b1aef750e0511f792b8595ce10c1fa", func := "pentimento/pentimentolaw18.ListNames", spec := "listNames", unfollowed := true, recurses := true, apart := false }
def ListNamesSaid : Prop := listNamesRow.holds Try.pinned (OpenSpec.ofChange listNamesSpec)

/-- ITS FALSE NEIGHBOUR: 'it returns false'. Refute it at one input. -/
def listNamesWrong : ChangeSpec := { name := "listNames", fn := fun _ => fun
  | [d] => { results := [.lit (.bool false)], args := [d] }
  | _ => none }
def ListNamesWrongFalsely : Prop := listNamesRow.holds Try.pinned (OpenSpec.ofChange listNamesWrong)

/-- 'pentimentolaw18.ListBytes': WHATEVER THE INPUT: true; the input reads as it did. -/
def listBytesSpec : ChangeSpec := { name := "listBytes", fn := fun _ => fun
  | [d1, d2] => { results := [.lit (.bool true)], args := [d1, d2] }
  | _ => none }
def listBytesRow : OpenClaim := { program := "ythghcdddambaeaa", sum := "cf10a921767b56e836932af59101ae6ef4b1aef750e0511f792b8595ce10c1fa", func := "pentimento/pentimentolaw18.ListBytes", spec := "listBytes", unfollowed := true, recurses := true, apart := false }
def ListBytesSaid : Prop := listBytesRow.holds Try.pinned (OpenSpec.ofChange listBytesSpec)

/-- ITS FALSE NEIGHBOUR: 'it returns false'. Refute it at one input. -/
def listBytesWrong : ChangeSpec := { name := "listBytes", fn := fun _ => fun
  | [d1, d2] => { results := [.lit (.bool false)], args := [d1, d2] }
  | _ => none }
def ListBytesWrongFalsely : Prop := listBytesRow.holds Try.pinned (OpenSpec.ofChange listBytesWrong)

/-- 'pentimentolaw04.FilesNames': WHATEVER THE INPUT: true; the input reads as it did. -/
def filesNamesSpec : ChangeSpec := { name := "filesNames", fn := fun _ => fun
  | [d] => { results := [.lit (.bool true)], args := [d] }
  | _ => none }
def filesNamesRow : OpenClaim := { program := "ythghcdddambaeaa", sum := "cf10a921767b56e836932af59101ae6ef4b1aef750e0511f792b8595ce10c1fa", func := "pentimento/pentimentolaw04.FilesNames", spec := "filesNames", unfollowed := true, recurses := true, apart := false }
def FilesNamesSaid : Prop := filesNamesRow.holds Try.pinned (OpenSpec.ofChange filesNamesSpec)

/-- ITS FALSE NEIGHBOUR: 'it returns false'. Refute it at one input. -/
def filesNamesWrong : ChangeSpec := { name := "filesNames", fn := fun _ => fun
  | [d] => { results := [.lit (.bool false)], args := [d] }
  | _ => none }
def FilesNamesWrongFalsely : Prop := filesNamesRow.holds Try.pinned (OpenSpec.ofChange filesNamesWrong)

/-- 'pentimentolaw18.ListCrashes': WHATEVER THE INPUT: true; the input reads as it did. -/
def listCrashesSpec : ChangeSpec := { name := "listCrashes", fn := fun _ => fun
  | [d1, d2, d3] => { results := [.lit (.bool true)], args := [d1, d2, d3] }
  | _ => none }
def listCrashesRow : OpenClaim := { program := "ythghcdddambaeaa", sum := "cf10a921767b56e836932af59101ae6ef4b1aef750e0511f792b8595ce10c1fa", func := "pentimento/pentimentolaw18.ListCrashes", spec := "listCrashes", inPlace := ["maps.clone"], unfollowed := true, recurses := true, apart := false }
def ListCrashesSaid : Prop := listCrashesRow.holds Try.pinned (OpenSpec.ofChange listCrashesSpec)

/-- ITS FALSE NEIGHBOUR: 'it returns false'. Refute it at one input. -/
def listCrashesWrong : ChangeSpec := { name := "listCrashes", fn := fun _ => fun
  | [d1, d2, d3] => { results := [.lit (.bool false)], args := [d1, d2, d3] }
  | _ => none }
def ListCrashesWrongFalsely : Prop := listCrashesRow.holds Try.pinned (OpenSpec.ofChange listCrashesWrong)

/-- 'pentimentolaw04.FilesRenames': WHATEVER THE INPUT: true; the input reads as it did. -/
def filesRenamesSpec : ChangeSpec := { name := "filesRenames", fn := fun _ => fun
  | [d1, d2, d3] => { results := [.lit (.bool true)], args := [d1, d2, d3] }
  | _ => none }
def filesRenamesRow : OpenClaim := { program := "ythghcdddambaeaa", sum := "cf10a921767b56e836932af59101ae6ef4b1aef750e0511f792b8595ce10c1fa", func := "pentimento/pentimentolaw04.FilesRenames", spec := "filesRenames", inPlace := ["maps.clone"], unfollowed := true, recurses := true, apart := false }
def FilesRenamesSaid : Prop := filesRenamesRow.holds Try.pinned (OpenSpec.ofChange filesRenamesSpec)

/-- ITS FALSE NEIGHBOUR: 'it returns false'. Refute it at one input. -/
def filesRenamesWrong : ChangeSpec := { name := "filesRenames", fn := fun _ => fun
  | [d1, d2, d3] => { results := [.lit (.bool false)], args := [d1, d2, d3] }
  | _ => none }
def FilesRenamesWrongFalsely : Prop := filesRenamesRow.holds Try.pinned (OpenSpec.ofChange filesRenamesWrong)

/-- 'pentimentolaw04.FilesMany': WHATEVER THE INPUT: true; the input reads as it did. -/
def filesManySpec : ChangeSpec := { name := "filesMany", fn := fun _ => fun
  | [d] => { results := [.lit (.bool true)], args := [d] }
  | _ => none }
def filesManyRow : OpenClaim := { program := "ythghcdddambaeaa", sum := "cf10a921767b56e836932af59101ae6ef4b1aef750e0511f792b8595ce10c1fa", func := "pentimento/pentimentolaw04.FilesMany", spec := "filesMany", inPlace := ["maps.clone"], unfollowed := true, recurses := true, apart := false }
def FilesManySaid : Prop := filesManyRow.holds Try.pinned (OpenSpec.ofChange filesManySpec)

/-- ITS FALSE NEIGHBOUR: 'it returns false'. Refute it at one input. -/
def filesManyWrong : ChangeSpec := { name := "filesMany", fn := fun _ => fun
  | [d] => { results := [.lit (.bool false)], args := [d] }
  | _ => none }
def FilesManyWrongFalsely : Prop := filesManyRow.holds Try.pinned (OpenSpec.ofChange filesManyWrong)

/-- 'pentimentolaw04.FilesAll': WHATEVER THE INPUT: true; the input reads as it did. -/
def filesAllSpec : ChangeSpec := { name := "filesAll", fn := fun _ => fun
  | [d1, d2] => { results := [.lit (.bool true)], args := [d1, d2] }
  | _ => none }
def filesAllRow : OpenClaim := { program := "ythghcdddambaeaa", sum := "cf10a921767b56e836932af59101ae6ef4b1aef750e0511f792b8595ce10c1fa", func := "pentimento/pentimentolaw04.FilesAll", spec := "filesAll", inPlace := ["maps.clone"], unfollowed := true, recurses := true, apart := false }
def FilesAllSaid : Prop := filesAllRow.holds Try.pinned (OpenSpec.ofChange filesAllSpec)

/-- ITS FALSE NEIGHBOUR: 'it returns false'. Refute it at one input. -/
def filesAllWrong : ChangeSpec := { name := "filesAll", fn := fun _ => fun
  | [d1, d2] => { results := [.lit (.bool false)], args := [d1, d2] }
  | _ => none }
def FilesAllWrongFalsely : Prop := filesAllRow.holds Try.pinned (OpenSpec.ofChange filesAllWrong)

/-- 'pentimentolaw04.FilesCrashes': WHATEVER THE INPUT: true; the input reads as it did. -/
def filesCrashesSpec : ChangeSpec := { name := "filesCrashes", fn := fun _ => fun
  | [d1, d2] => { results := [.lit (.bool true)], args := [d1, d2] }
  | _ => none }
def filesCrashesRow : OpenClaim := { program := "ythghcdddambaeaa", sum := "cf10a921767b56e836932af59101ae6ef4b1aef750e0511f792b8595ce10c1fa", func := "pentimento/pentimentolaw04.FilesCrashes", spec := "filesCrashes", inPlace := ["maps.clone"], unfollowed := true, recurses := true, apart := false }
def FilesCrashesSaid : Prop := filesCrashesRow.holds Try.pinned (OpenSpec.ofChange filesCrashesSpec)

/-- ITS FALSE NEIGHBOUR: 'it returns false'. Refute it at one input. -/
def filesCrashesWrong : ChangeSpec := { name := "filesCrashes", fn := fun _ => fun
  | [d1, d2] => { results := [.lit (.bool false)], args := [d1, d2] }
  | _ => none }
def FilesCrashesWrongFalsely : Prop := filesCrashesRow.holds Try.pinned (OpenSpec.ofChange filesCrashesWrong)

/-- 'pentimentolaw04.FilesOwn': WHATEVER THE INPUT: true; the input reads as it did. -/
def filesOwnSpec : ChangeSpec := { name := "filesOwn", fn := fun _ => fun
  | [d1, d2, d3] => { results := [.lit (.bool true)], args := [d1, d2, d3] }
  | _ => none }
def filesOwnRow : OpenClaim := { program := "ythghcdddambaeaa", sum := "cf10a921767b56e836932af59101ae6ef4b1aef750e0511f792b8595ce10c1fa", func := "pentimento/pentimentolaw04.FilesOwn", spec := "filesOwn", inPlace := ["maps.clone"], unfollowed := true, recurses := true, apart := false }
def FilesOwnSaid : Prop := filesOwnRow.holds Try.pinned (OpenSpec.ofChange filesOwnSpec)

/-- ITS FALSE NEIGHBOUR: 'it returns false'. Refute it at one input. -/
def filesOwnWrong : ChangeSpec := { name := "filesOwn", fn := fun _ => fun
  | [d1, d2, d3] => { results := [.lit (.bool false)], args := [d1, d2, d3] }
  | _ => none }
def FilesOwnWrongFalsely : Prop := filesOwnRow.holds Try.pinned (OpenSpec.ofChange filesOwnWrong)

/- THE SECOND FORM. 'bulk': how many values and letters a reading holds, each counted each time it is reached (what is shared counts as often as it is met; a slice's spare places count too). A statement '..UptoSaid' is the law's where the arguments, and the package variables that the reading takes, are together of bulk at most 1048576: NARROWER than '..Said'. Prove '..Said' where nothing that the law and all that it calls make is longer than what came in: it says more and counts as full. Else prove '..UptoSaid'. A law counts once. -/
mutual
def uptoBulk {H : Type} : DataW H → Nat
  | .lit (.string bytes) => bytes.length + 1
  | .lit _ => 1
  | .nil => 1
  | .ptr d => uptoBulk d + 1
  | .slice elems spare => uptoBulkAll elems + uptoBulkAll spare + 1
  | .agg parts => uptoBulkAll parts + 1
  | .iface _ d => uptoBulk d + 1
  | .map entries => uptoBulkEntries entries + 1
  | .held _ => 1
def uptoBulkAll {H : Type} : List (DataW H) → Nat
  | [] => 0
  | d :: r => uptoBulk d + uptoBulkAll r
def uptoBulkEntries {H : Type} : List (Lit × DataW H) → Nat
  | [] => 0
  | x :: r => uptoBulkEntry x + uptoBulkEntries r
def uptoBulkEntry {H : Type} : Lit × DataW H → Nat
  | (.string bytes, d) => bytes.length + uptoBulk d + 1
  | (_, d) => uptoBulk d + 1
 end
def uptoSmall : (H : Type) → List (DataW H) → Bool := fun _ ds => decide (uptoBulkAll ds ≤ 1048576)
def OpenSpec.upto (s : _root_.Go.ChangeSpec) : _root_.Go.OpenSpec := { _root_.Go.OpenSpec.ofChange s with cond := some uptoSmall }

/-- 'pentimentolaw18.ListOver', WHERE WHAT IT READS IS OF BULK AT MOST 1048576: true; the input reads as it did. -/
def listOverUptoRow : OpenClaim := { program := "ythghcdddambaeaa", sum := "cf10a921767b56e836932af59101ae6ef4b1aef750e0511f792b8595ce10c1fa", func := "pentimento/pentimentolaw18.ListOver", spec := "listOver", unfollowed := true, recurses := true, apart := false, narrowed := true }
def ListOverUptoSaid : Prop := listOverUptoRow.holds Try.pinned (OpenSpec.upto listOverSpec)

/-- 'pentimentolaw18.ListDrops', WHERE WHAT IT READS IS OF BULK AT MOST 1048576: true; the input reads as it did. -/
def listDropsUptoRow : OpenClaim := { program := "ythghcdddambaeaa", sum := "cf10a921767b56e836932af59101ae6ef4b1aef750e0511f792b8595ce10c1fa", func := "pentimento/pentimentolaw18.ListDrops", spec := "listDrops", unfollowed := true, recurses := true, apart := false, narrowed := true }
def ListDropsUptoSaid : Prop := listDropsUptoRow.holds Try.pinned (OpenSpec.upto listDropsSpec)

/-- 'pentimentolaw18.ListStays', WHERE WHAT IT READS IS OF BULK AT MOST 1048576: true; the input reads as it did. -/
def listStaysUptoRow : OpenClaim := { program := "ythghcdddambaeaa", sum := "cf10a921767b56e836932af59101ae6ef4b1aef750e0511f792b8595ce10c1fa", func := "pentimento/pentimentolaw18.ListStays", spec := "listStays", unfollowed := true, recurses := true, apart := false, narrowed := true }
def ListStaysUptoSaid : Prop := listStaysUptoRow.holds Try.pinned (OpenSpec.upto listStaysSpec)

/-- 'pentimentolaw18.ListNames', WHERE WHAT IT READS IS OF BULK AT MOST 1048576: true; the input reads as it did. -/
def listNamesUptoRow : OpenClaim := { program := "ythghcdddambaeaa", sum := "cf10a921767b56e836932af59101ae6ef4b1aef750e0511f792b8595ce10c1fa", func := "pentimento/pentimentolaw18.ListNames", spec := "listNames", unfollowed := true, recurses := true, apart := false, narrowed := true }
def ListNamesUptoSaid : Prop := listNamesUptoRow.holds Try.pinned (OpenSpec.upto listNamesSpec)

/-- 'pentimentolaw18.ListBytes', WHERE WHAT IT READS IS OF BULK AT MOST 1048576: true; the input reads as it did. -/
def listBytesUptoRow : OpenClaim := { program := "ythghcdddambaeaa", sum := "cf10a921767b56e836932af59101ae6ef4b1aef750e0511f792b8595ce10c1fa", func := "pentimento/pentimentolaw18.ListBytes", spec := "listBytes", unfollowed := true, recurses := true, apart := false, narrowed := true }
def ListBytesUptoSaid : Prop := listBytesUptoRow.holds Try.pinned (OpenSpec.upto listBytesSpec)

/-- 'pentimentolaw04.FilesNames', WHERE WHAT IT READS IS OF BULK AT MOST 1048576: true; the input reads as it did. -/
def filesNamesUptoRow : OpenClaim := { program := "ythghcdddambaeaa", sum := "cf10a921767b56e836932af59101ae6ef4b1aef750e0511f792b8595ce10c1fa", func := "pentimento/pentimentolaw04.FilesNames", spec := "filesNames", unfollowed := true, recurses := true, apart := false, narrowed := true }
def FilesNamesUptoSaid : Prop := filesNamesUptoRow.holds Try.pinned (OpenSpec.upto filesNamesSpec)

/-- 'pentimentolaw18.ListCrashes', WHERE WHAT IT READS IS OF BULK AT MOST 1048576: true; the input reads as it did. -/
def listCrashesUptoRow : OpenClaim := { program := "ythghcdddambaeaa", sum := "cf10a921767b56e836932af59101ae6ef4b1aef750e0511f792b8595ce10c1fa", func := "pentimento/pentimentolaw18.ListCrashes", spec := "listCrashes", inPlace := ["maps.clone"], unfollowed := true, recurses := true, apart := false, narrowed := true }
def ListCrashesUptoSaid : Prop := listCrashesUptoRow.holds Try.pinned (OpenSpec.upto listCrashesSpec)

/-- 'pentimentolaw04.FilesRenames', WHERE WHAT IT READS IS OF BULK AT MOST 1048576: true; the input reads as it did. -/
def filesRenamesUptoRow : OpenClaim := { program := "ythghcdddambaeaa", sum := "cf10a921767b56e836932af59101ae6ef4b1aef750e0511f792b8595ce10c1fa", func := "pentimento/pentimentolaw04.FilesRenames", spec := "filesRenames", inPlace := ["maps.clone"], unfollowed := true, recurses := true, apart := false, narrowed := true }
def FilesRenamesUptoSaid : Prop := filesRenamesUptoRow.holds Try.pinned (OpenSpec.upto filesRenamesSpec)

/-- 'pentimentolaw04.FilesMany', WHERE WHAT IT READS IS OF BULK AT MOST 1048576: true; the input reads as it did. -/
def filesManyUptoRow : OpenClaim := { program := "ythghcdddambaeaa", sum := "cf10a921767b56e836932af59101ae6ef4b1aef750e0511f792b8595ce10c1fa", func := "pentimento/pentimentolaw04.FilesMany", spec := "filesMany", inPlace := ["maps.clone"], unfollowed := true, recurses := true, apart := false, narrowed := true }
def FilesManyUptoSaid : Prop := filesManyUptoRow.holds Try.pinned (OpenSpec.upto filesManySpec)

/-- 'pentimentolaw04.FilesAll', WHERE WHAT IT READS IS OF BULK AT MOST 1048576: true; the input reads as it did. -/
def filesAllUptoRow : OpenClaim := { program := "ythghcdddambaeaa", sum := "cf10a921767b56e836932af59101ae6ef4b1aef750e0511f792b8595ce10c1fa", func := "pentimento/pentimentolaw04.FilesAll", spec := "filesAll", inPlace := ["maps.clone"], unfollowed := true, recurses := true, apart := false, narrowed := true }
def FilesAllUptoSaid : Prop := filesAllUptoRow.holds Try.pinned (OpenSpec.upto filesAllSpec)

/-- 'pentimentolaw04.FilesCrashes', WHERE WHAT IT READS IS OF BULK AT MOST 1048576: true; the input reads as it did. -/
def filesCrashesUptoRow : OpenClaim := { program := "ythghcdddambaeaa", sum := "cf10a921767b56e836932af59101ae6ef4b1aef750e0511f792b8595ce10c1fa", func := "pentimento/pentimentolaw04.FilesCrashes", spec := "filesCrashes", inPlace := ["maps.clone"], unfollowed := true, recurses := true, apart := false, narrowed := true }
def FilesCrashesUptoSaid : Prop := filesCrashesUptoRow.holds Try.pinned (OpenSpec.upto filesCrashesSpec)

/-- 'pentimentolaw04.FilesOwn', WHERE WHAT IT READS IS OF BULK AT MOST 1048576: true; the input reads as it did. -/
def filesOwnUptoRow : OpenClaim := { program := "ythghcdddambaeaa", sum := "cf10a921767b56e836932af59101ae6ef4b1aef750e0511f792b8595ce10c1fa", func := "pentimento/pentimentolaw04.FilesOwn", spec := "filesOwn", inPlace := ["maps.clone"], unfollowed := true, recurses := true, apart := false, narrowed := true }
def FilesOwnUptoSaid : Prop := filesOwnUptoRow.holds Try.pinned (OpenSpec.upto filesOwnSpec)

end Rows
end Go.Proofs.Ythghcdddambaeaa
