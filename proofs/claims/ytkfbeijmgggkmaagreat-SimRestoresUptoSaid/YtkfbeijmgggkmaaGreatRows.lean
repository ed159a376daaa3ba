/-
  No cell of these rows narrows 'for every input' (looked for: loops, veiled, ifaces, maps, wideKeys, modest, calm, conditions, laid).
  DERIVED. THE GIVEN ROWS OF THIS SEAT. 6 by the template 'for every input the law returns true; each argument reads behind the call as it read before'; 0 by the template 'total and deterministic' (their statements: YtkfbeijmgggkmaaGreatTotals.lean).
  GIVEN WITH THE SEED: the statements are not yours to turn. If you find one false, say at which input.
  Laid BY PROGRAM, IN A SANDBOX (cutbox-rows.mjs): the forced cells as the released guide's own fill.sh prints them over the translation 33a466c85cbb2bb5… (all of the seat's roots in one cut). By AI agents, Wed Nov 11 2026. No macro, syntax, notation, axiom, sorry.
-/
import Derived.Test.YtkfbeijmgggkmaaGreatChecked
import GoSem.Claim
import GoSem.ClaimJoined
import GoSem.ClaimMapViews
import Derived.JoinedTies
import Derived.KernelRfl
namespace Go.Proofs.YtkfbeijmgggkmaaGreat
/- THE CELL 'sum', in the pinned program and in every row, IS THE sha256 OF THE DUMP (.gsa) THAT YtkfbeijmgggkmaaGreatProg.lean LOADS. Nothing in Lean hashes anything: it is a label: what it is worth is what the hold of that sum in a sandbox is worth. -/
noncomputable def Tryz.pinned : Pinned := { name := "ytkfbeijmgggkmaagreat", sum := "33a466c85cbb2bb54b05af99fbe1998d0458aa03c723559208468048b632a271", checked := Tryz.checked }
namespace Rows
def none {H : Type} : Left H := { results := [], args := [] }

/-- 'pentimentolaw21.SimDisk': WHATEVER THE INPUT: true; the input reads as it did. -/
def simDiskSpec : ChangeSpec := { name := "simDisk", fn := fun _ => fun
  | [d1, d2] => { results := [.lit (.bool true)], args := [d1, d2] }
  | _ => none }
def simDiskRow : OpenClaim := { program := "ytkfbeijmgggkmaagreat", sum := "33a466c85cbb2bb54b05af99fbe1998d0458aa03c723559208468048b632a271", func := "pentimento/pentimentolaw21.SimDisk", spec := "simDisk", inPlace := ["maps.clone"], unfollowed := true, recurses := true, apart := false }
def SimDiskSaid : Prop := simDiskRow.holds Tryz.pinned (OpenSpec.ofChange simDiskSpec)

/-- ITS FALSE NEIGHBOUR: 'it returns false'. Refute it at one input. -/
def simDiskWrong : ChangeSpec := { name := "simDisk", fn := fun _ => fun
  | [d1, d2] => { results := [.lit (.bool false)], args := [d1, d2] }
  | _ => none }
def SimDiskWrongFalsely : Prop := simDiskRow.holds Tryz.pinned (OpenSpec.ofChange simDiskWrong)

/-- 'pentimentolaw21.SimRestores': WHATEVER THE INPUT: true; the input reads as it did. -/
def simRestoresSpec : ChangeSpec := { name := "simRestores", fn := fun _ => fun
  | [d1, d2, d3] => { results := [.lit (.bool true)], args := [d1, d2, d3] }
  | _ => none }
def simRestoresRow : OpenClaim := { program := "ytkfbeijmgggkmaagreat", sum := "33a466c85cbb2bb54b05af99fbe1998d0458aa03c723559208468048b632a271", func := "pentimento/pentimentolaw21.SimRestores", spec := "simRestores", inPlace := ["maps.clone"], unfollowed := true, recurses := true, apart := false }
def SimRestoresSaid : Prop := simRestoresRow.holds Tryz.pinned (OpenSpec.ofChange simRestoresSpec)

/-- ITS FALSE NEIGHBOUR: 'it returns false'. Refute it at one input. -/
def simRestoresWrong : ChangeSpec := { name := "simRestores", fn := fun _ => fun
  | [d1, d2, d3] => { results := [.lit (.bool false)], args := [d1, d2, d3] }
  | _ => none }
def SimRestoresWrongFalsely : Prop := simRestoresRow.holds Tryz.pinned (OpenSpec.ofChange simRestoresWrong)

/-- 'pentimentolaw21.SimEnds': WHATEVER THE INPUT: true; the input reads as it did. -/
def simEndsSpec : ChangeSpec := { name := "simEnds", fn := fun _ => fun
  | [d1, d2] => { results := [.lit (.bool true)], args := [d1, d2] }
  | _ => none }
def simEndsRow : OpenClaim := { program := "ytkfbeijmgggkmaagreat", sum := "33a466c85cbb2bb54b05af99fbe1998d0458aa03c723559208468048b632a271", func := "pentimento/pentimentolaw21.SimEnds", spec := "simEnds", inPlace := ["maps.clone"], unfollowed := true, recurses := true, apart := false }
def SimEndsSaid : Prop := simEndsRow.holds Tryz.pinned (OpenSpec.ofChange simEndsSpec)

/-- ITS FALSE NEIGHBOUR: 'it returns false'. Refute it at one input. -/
def simEndsWrong : ChangeSpec := { name := "simEnds", fn := fun _ => fun
  | [d1, d2] => { results := [.lit (.bool false)], args := [d1, d2] }
  | _ => none }
def SimEndsWrongFalsely : Prop := simEndsRow.holds Tryz.pinned (OpenSpec.ofChange simEndsWrong)

/-- 'pentimentolaw21.SimWhole': WHATEVER THE INPUT: true; the input reads as it did. -/
def simWholeSpec : ChangeSpec := { name := "simWhole", fn := fun _ => fun
  | [d1, d2] => { results := [.lit (.bool true)], args := [d1, d2] }
  | _ => none }
def simWholeRow : OpenClaim := { program := "ytkfbeijmgggkmaagreat", sum := "33a466c85cbb2bb54b05af99fbe1998d0458aa03c723559208468048b632a271", func := "pentimento/pentimentolaw21.SimWhole", spec := "simWhole", inPlace := ["maps.clone"], unfollowed := true, recurses := true, apart := false }
def SimWholeSaid : Prop := simWholeRow.holds Tryz.pinned (OpenSpec.ofChange simWholeSpec)

/-- ITS FALSE NEIGHBOUR: 'it returns false'. Refute it at one input. -/
def simWholeWrong : ChangeSpec := { name := "simWhole", fn := fun _ => fun
  | [d1, d2] => { results := [.lit (.bool false)], args := [d1, d2] }
  | _ => none }
def SimWholeWrongFalsely : Prop := simWholeRow.holds Tryz.pinned (OpenSpec.ofChange simWholeWrong)

/-- 'pentimentolaw21.SimCrashes': WHATEVER THE INPUT: true; the input reads as it did. -/
def simCrashesSpec : ChangeSpec := { name := "simCrashes", fn := fun _ => fun
  | [d1, d2, d3] => { results := [.lit (.bool true)], args := [d1, d2, d3] }
  | _ => none }
def simCrashesRow : OpenClaim := { program := "ytkfbeijmgggkmaagreat", sum := "33a466c85cbb2bb54b05af99fbe1998d0458aa03c723559208468048b632a271", func := "pentimento/pentimentolaw21.SimCrashes", spec := "simCrashes", inPlace := ["maps.clone"], unfollowed := true, recurses := true, apart := false }
def SimCrashesSaid : Prop := simCrashesRow.holds Tryz.pinned (OpenSpec.ofChange simCrashesSpec)

/-- ITS FALSE NEIGHBOUR: 'it returns false'. Refute it at one input. -/
def simCrashesWrong : ChangeSpec := { name := "simCrashes", fn := fun _ => fun
  | [d1, d2, d3] => { results := [.lit (.bool false)], args := [d1, d2, d3] }
  | _ => none }
def SimCrashesWrongFalsely : Prop := simCrashesRow.holds Tryz.pinned (OpenSpec.ofChange simCrashesWrong)

/-- 'pentimentolaw21.SimCancels': WHATEVER THE INPUT: true; the input reads as it did. -/
def simCancelsSpec : ChangeSpec := { name := "simCancels", fn := fun _ => fun
  | [d1, d2] => { results := [.lit (.bool true)], args := [d1, d2] }
  | _ => none }
def simCancelsRow : OpenClaim := { program := "ytkfbeijmgggkmaagreat", sum := "33a466c85cbb2bb54b05af99fbe1998d0458aa03c723559208468048b632a271", func := "pentimento/pentimentolaw21.SimCancels", spec := "simCancels", inPlace := ["maps.clone"], unfollowed := true, recurses := true, apart := false }
def SimCancelsSaid : Prop := simCancelsRow.holds Tryz.pinned (OpenSpec.ofChange simCancelsSpec)

/-- ITS FALSE NEIGHBOUR: 'it returns false'. Refute it at one input. -/
def simCancelsWrong : ChangeSpec := { name := "simCancels", fn := fun _ => fun
  | [d1, d2] => { results := [.lit (.bool false)], args := [d1, d2] }
  | _ => none }
def SimCancelsWrongFalsely : Prop := simCancelsRow.holds Tryz.pinned (OpenSpec.ofChange simCancelsWrong)

/- THE SECOND FORM. 'bulk': how many values and letters a reading holds, each counted each time it is reached (what is shared counts as often as it is met; a slice's spare places count too). A statement '..UptoSaid' is the law's where the arguments, and the package variables that the reading takes, are together of bulk at most 1048576: NARROWER than '..Said'. Prove '..Said' where nothing that the law and all that it calls make is longer than what came in: it says more and counts as full. Else prove '..UptoSaid'. A law counts once. -/
mutual
def uptoBulk {H : Type} : DataW H → Nat
  | .lit (.string bytes) => bytes.length + 1
  | .lit _ => 1
  | .nil => 1
  | .ptr d => uptoBulk d + 1
  | .slice elems spare => uptoBulkAll elems + uptoBulkAll spare + 1
  | .agg parts => uptoBulkAll parts + 1
  | .iface _ d => uptoBulk d + 1
  | .map entries => uptoBulkEntries entries + 1
  | .held _ => 1
def uptoBulkAll {H : Type} : List (DataW H) → Nat
  | [] => 0
  | d :: r => uptoBulk d + uptoBulkAll r
def uptoBulkEntries {H : Type} : List (Lit × DataW H) → Nat
  | [] => 0
  | x :: r => uptoBulkEntry x + uptoBulkEntries r
def uptoBulkEntry {H : Type} : Lit × DataW H → Nat
  | (.string bytes, d) => bytes.length + uptoBulk d + 1
  | (_, d) => uptoBulk d + 1
 end
def uptoSmall : (H : Type) → List (DataW H) → Bool := fun _ ds => decide (uptoBulkAll ds ≤ 1048576)
def OpenSpec.upto (s : _root_.Go.ChangeSpec) : _root_.Go.OpenSpec := { _root_.Go.OpenSpec.ofChange s with cond := some uptoSmall }

/-- 'pentimentolaw21.SimDisk', WHERE WHAT IT READS IS OF BULK AT MOST 1048576: true; the input reads as it did. -/
def simDiskUptoRow : OpenClaim := { program := "ytkfbeijmgggkmaagreat", sum := "33a466c85cbb2bb54b05af99fbe1998d0458aa03c723559208468048b632a271", func := "pentimento/pentimentolaw21.SimDisk", spec := "simDisk", inPlace := ["maps.clone"], unfollowed := true, recurses := true, apart := false, narrowed := true }
def SimDiskUptoSaid : Prop := simDiskUptoRow.holds Tryz.pinned (OpenSpec.upto simDiskSpec)

/-- 'pentimentolaw21.SimRestores', WHERE WHAT IT READS IS OF BULK AT MOST 1048576: true; the input reads as it did. -/
def simRestoresUptoRow : OpenClaim := { program := "ytkfbeijmgggkmaagreat", sum := "33a466c85cbb2bb54b05af99fbe1998d0458aa03c723559208468048b632a271", func := "pentimento/pentimentolaw21.SimRestores", spec := "simRestores", inPlace := ["maps.clone"], unfollowed := true, recurses := true, apart := false, narrowed := true }
def SimRestoresUptoSaid : Prop := simRestoresUptoRow.holds Tryz.pinned (OpenSpec.upto simRestoresSpec)

/-- 'pentimentolaw21.SimEnds', WHERE WHAT IT READS IS OF BULK AT MOST 1048576: true; the input reads as it did. -/
def simEndsUptoRow : OpenClaim := { program := "ytkfbeijmgggkmaagreat", sum := "33a466c85cbb2bb54b05af99fbe1998d0458aa03c723559208468048b632a271", func := "pentimento/pentimentolaw21.SimEnds", spec := "simEnds", inPlace := ["maps.clone"], unfollowed := true, recurses := true, apart := false, narrowed := true }
def SimEndsUptoSaid : Prop := simEndsUptoRow.holds Tryz.pinned (OpenSpec.upto simEndsSpec)

/-- 'pentimentolaw21.SimWhole', WHERE WHAT IT READS IS OF BULK AT MOST 1048576: true; the input reads as it did. -/
def simWholeUptoRow : OpenClaim := { program := "ytkfbeijmgggkmaagreat", sum := "33a466c85cbb2bb54b05af99fbe1998d0458aa03c723559208468048b632a271", func := "pentimento/pentimentolaw21.SimWhole", spec := "simWhole", inPlace := ["maps.clone"], unfollowed := true, recurses := true, apart := false, narrowed := true }
def SimWholeUptoSaid : Prop := simWholeUptoRow.holds Tryz.pinned (OpenSpec.upto simWholeSpec)

/-- 'pentimentolaw21.SimCrashes', WHERE WHAT IT READS IS OF BULK AT MOST 1048576: true; the input reads as it did. -/
def simCrashesUptoRow : OpenClaim := { program := "ytkfbeijmgggkmaagreat", sum := "33a466c85cbb2bb54b05af99fbe1998d0458aa03c723559208468048b632a271", func := "pentimento/pentimentolaw21.SimCrashes", spec := "simCrashes", inPlace := ["maps.clone"], unfollowed := true, recurses := true, apart := false, narrowed := true }
def SimCrashesUptoSaid : Prop := simCrashesUptoRow.holds Tryz.pinned (OpenSpec.upto simCrashesSpec)

/-- 'pentimentolaw21.SimCancels', WHERE WHAT IT READS IS OF BULK AT MOST 1048576: true; the input reads as it did. -/
def simCancelsUptoRow : OpenClaim := { program := "ytkfbeijmgggkmaagreat", sum := "33a466c85cbb2bb54b05af99fbe1998d0458aa03c723559208468048b632a271", func := "pentimento/pentimentolaw21.SimCancels", spec := "simCancels", inPlace := ["maps.clone"], unfollowed := true, recurses := true, apart := false, narrowed := true }
def SimCancelsUptoSaid : Prop := simCancelsUptoRow.holds Tryz.pinned (OpenSpec.upto simCancelsSpec)

end Rows
end Go.Proofs.YtkfbeijmgggkmaaGreat
