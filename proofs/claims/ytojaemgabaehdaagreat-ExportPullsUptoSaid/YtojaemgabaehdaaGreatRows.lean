/-
  No cell of these rows narrows 'for every input' (looked for: loops, veiled, ifaces, maps, wideKeys, modest, calm, conditions, laid).
  DERIVED. THE GIVEN ROWS OF THIS SEAT. 12 by the template 'for every input the law returns true; each argument reads behind the call as it read before'; 0 by the template 'total and deterministic' (their statements: YtojaemgabaehdaaGreatTotals.lean).
  GIVEN WITH THE SEED: the statements are not yours to turn. If you find one false, say at which input.
  Laid BY PROGRAM, IN A SANDBOX (cutbox-rows.mjs): the forced cells as the released guide's own fill.sh prints them over the translation 61ceb8f1c29f36c6… (all of the seat's roots in one cut). By AI agents, Wed Nov 11 2026. No macro, syntax, notation, axiom, sorry.
-/
import Derived.Test.YtojaemgabaehdaaGreatChecked
import GoSem.Claim
import GoSem.ClaimJoined
import GoSem.ClaimMapViews
import Derived.JoinedTies
import Derived.KernelRfl
namespace Go.Proofs.YtojaemgabaehdaaGreat
/- THE CELL 'sum', in the pinned program and in every row, IS THE sha256 OF THE DUMP (.gsa) THAT YtojaemgabaehdaaGreatProg.lean LOADS. Nothing in Lean hashes anything: it is a label: what it is worth is what the hold of that sum in a sandbox is worth. -/
noncomputable def Tryz.pinned : Pinned := { name := "ytojaemgabaehdaagreat", sum := "61ceb8f1c29f36c672e3948f55c9d753a3217d10d167cc59b414a07858e3217f", checked := Tryz.checked }
namespace Rows
def none {H : Type} : Left H := { results := [], args := [] }

/-- 'pentimentotop.PentimentoClean': WHATEVER THE INPUT: true; the input reads as it did. -/
def pentimentoCleanSpec : ChangeSpec := { name := "pentimentoClean", fn := fun _ => fun
  | [d1, d2] => { results := [.lit (.bool true)], args := [d1, d2] }
  | _ => none }
def pentimentoCleanRow : OpenClaim := { program := "ytojaemgabaehdaagreat", sum := "61ceb8f1c29f36c672e3948f55c9d753a3217d10d167cc59b414a07858e3217f", func := "pentimento/pentimentotop.PentimentoClean", spec := "pentimentoClean", inPlace := ["maps.clone"], unfollowed := true, recurses := true, apart := false }
def PentimentoCleanSaid : Prop := pentimentoCleanRow.holds Tryz.pinned (OpenSpec.ofChange pentimentoCleanSpec)

/-- ITS FALSE NEIGHBOUR: 'it returns false'. Refute it at one input. -/
def pentimentoCleanWrong : ChangeSpec := { name := "pentimentoClean", fn := fun _ => fun
  | [d1, d2] => { results := [.lit (.bool false)], args := [d1, d2] }
  | _ => none }
def PentimentoCleanWrongFalsely : Prop := pentimentoCleanRow.holds Tryz.pinned (OpenSpec.ofChange pentimentoCleanWrong)

/-- 'pentimentolaw14.ChainAll': WHATEVER THE INPUT: true; the input reads as it did. -/
def chainAllSpec : ChangeSpec := { name := "chainAll", fn := fun _ => fun
  | [d1, d2, d3] => { results := [.lit (.bool true)], args := [d1, d2, d3] }
  | _ => none }
def chainAllRow : OpenClaim := { program := "ytojaemgabaehdaagreat", sum := "61ceb8f1c29f36c672e3948f55c9d753a3217d10d167cc59b414a07858e3217f", func := "pentimento/pentimentolaw14.ChainAll", spec := "chainAll", unfollowed := true, recurses := true, apart := false }
def ChainAllSaid : Prop := chainAllRow.holds Tryz.pinned (OpenSpec.ofChange chainAllSpec)

/-- ITS FALSE NEIGHBOUR: 'it returns false'. Refute it at one input. -/
def chainAllWrong : ChangeSpec := { name := "chainAll", fn := fun _ => fun
  | [d1, d2, d3] => { results := [.lit (.bool false)], args := [d1, d2, d3] }
  | _ => none }
def ChainAllWrongFalsely : Prop := chainAllRow.holds Tryz.pinned (OpenSpec.ofChange chainAllWrong)

/-- 'pentimentotop.PentimentoPulls': WHATEVER THE INPUT: true; the input reads as it did. -/
def pentimentoPullsSpec : ChangeSpec := { name := "pentimentoPulls", fn := fun _ => fun
  | [d1, d2] => { results := [.lit (.bool true)], args := [d1, d2] }
  | _ => none }
def pentimentoPullsRow : OpenClaim := { program := "ytojaemgabaehdaagreat", sum := "61ceb8f1c29f36c672e3948f55c9d753a3217d10d167cc59b414a07858e3217f", func := "pentimento/pentimentotop.PentimentoPulls", spec := "pentimentoPulls", inPlace := ["maps.clone"], unfollowed := true, recurses := true, apart := false }
def PentimentoPullsSaid : Prop := pentimentoPullsRow.holds Tryz.pinned (OpenSpec.ofChange pentimentoPullsSpec)

/-- ITS FALSE NEIGHBOUR: 'it returns false'. Refute it at one input. -/
def pentimentoPullsWrong : ChangeSpec := { name := "pentimentoPulls", fn := fun _ => fun
  | [d1, d2] => { results := [.lit (.bool false)], args := [d1, d2] }
  | _ => none }
def PentimentoPullsWrongFalsely : Prop := pentimentoPullsRow.holds Tryz.pinned (OpenSpec.ofChange pentimentoPullsWrong)

/-- 'pentimentolaw16.PullAll': WHATEVER THE INPUT: true; the input reads as it did. -/
def pullAllSpec : ChangeSpec := { name := "pullAll", fn := fun _ => fun
  | [d1, d2, d3] => { results := [.lit (.bool true)], args := [d1, d2, d3] }
  | _ => none }
def pullAllRow : OpenClaim := { program := "ytojaemgabaehdaagreat", sum := "61ceb8f1c29f36c672e3948f55c9d753a3217d10d167cc59b414a07858e3217f", func := "pentimento/pentimentolaw16.PullAll", spec := "pullAll", unfollowed := true, recurses := true, apart := false }
def PullAllSaid : Prop := pullAllRow.holds Tryz.pinned (OpenSpec.ofChange pullAllSpec)

/-- ITS FALSE NEIGHBOUR: 'it returns false'. Refute it at one input. -/
def pullAllWrong : ChangeSpec := { name := "pullAll", fn := fun _ => fun
  | [d1, d2, d3] => { results := [.lit (.bool false)], args := [d1, d2, d3] }
  | _ => none }
def PullAllWrongFalsely : Prop := pullAllRow.holds Tryz.pinned (OpenSpec.ofChange pullAllWrong)

/-- 'pentimentolaw15.MergeAll': WHATEVER THE INPUT: true; the input reads as it did. -/
def mergeAllSpec : ChangeSpec := { name := "mergeAll", fn := fun _ => fun
  | [d1, d2, d3] => { results := [.lit (.bool true)], args := [d1, d2, d3] }
  | _ => none }
def mergeAllRow : OpenClaim := { program := "ytojaemgabaehdaagreat", sum := "61ceb8f1c29f36c672e3948f55c9d753a3217d10d167cc59b414a07858e3217f", func := "pentimento/pentimentolaw15.MergeAll", spec := "mergeAll", unfollowed := true, recurses := true, apart := false }
def MergeAllSaid : Prop := mergeAllRow.holds Tryz.pinned (OpenSpec.ofChange mergeAllSpec)

/-- ITS FALSE NEIGHBOUR: 'it returns false'. Refute it at one input. -/
def mergeAllWrong : ChangeSpec := { name := "mergeAll", fn := fun _ => fun
  | [d1, d2, d3] => { results := [.lit (.bool false)], args := [d1, d2, d3] }
  | _ => none }
def MergeAllWrongFalsely : Prop := mergeAllRow.holds Tryz.pinned (OpenSpec.ofChange mergeAllWrong)

/-- 'pentimentolaw20.ExportPulls': WHATEVER THE INPUT: true; the input reads as it did. -/
def exportPullsSpec : ChangeSpec := { name := "exportPulls", fn := fun _ => fun
  | [d1, d2, d3] => { results := [.lit (.bool true)], args := [d1, d2, d3] }
  | _ => none }
def exportPullsRow : OpenClaim := { program := "ytojaemgabaehdaagreat", sum := "61ceb8f1c29f36c672e3948f55c9d753a3217d10d167cc59b414a07858e3217f", func := "pentimento/pentimentolaw20.ExportPulls", spec := "exportPulls", inPlace := ["maps.clone"], unfollowed := true, recurses := true, apart := false }
def ExportPullsSaid : Prop := exportPullsRow.holds Tryz.pinned (OpenSpec.ofChange exportPullsSpec)

/-- ITS FALSE NEIGHBOUR: 'it returns false'. Refute it at one input. -/
def exportPullsWrong : ChangeSpec := { name := "exportPulls", fn := fun _ => fun
  | [d1, d2, d3] => { results := [.lit (.bool false)], args := [d1, d2, d3] }
  | _ => none }
def ExportPullsWrongFalsely : Prop := exportPullsRow.holds Tryz.pinned (OpenSpec.ofChange exportPullsWrong)

/-- 'pentimentolaw20.ExportOnce': WHATEVER THE INPUT: true; the input reads as it did. -/
def exportOnceSpec : ChangeSpec := { name := "exportOnce", fn := fun _ => fun
  | [d1, d2, d3] => { results := [.lit (.bool true)], args := [d1, d2, d3] }
  | _ => none }
def exportOnceRow : OpenClaim := { program := "ytojaemgabaehdaagreat", sum := "61ceb8f1c29f36c672e3948f55c9d753a3217d10d167cc59b414a07858e3217f", func := "pentimento/pentimentolaw20.ExportOnce", spec := "exportOnce", inPlace := ["maps.clone"], unfollowed := true, recurses := true, apart := false }
def ExportOnceSaid : Prop := exportOnceRow.holds Tryz.pinned (OpenSpec.ofChange exportOnceSpec)

/-- ITS FALSE NEIGHBOUR: 'it returns false'. Refute it at one input. -/
def exportOnceWrong : ChangeSpec := { name := "exportOnce", fn := fun _ => fun
  | [d1, d2, d3] => { results := [.lit (.bool false)], args := [d1, d2, d3] }
  | _ => none }
def ExportOnceWrongFalsely : Prop := exportOnceRow.holds Tryz.pinned (OpenSpec.ofChange exportOnceWrong)

/-- 'pentimentolaw20.ExportEnds': WHATEVER THE INPUT: true; the input reads as it did. -/
def exportEndsSpec : ChangeSpec := { name := "exportEnds", fn := fun _ => fun
  | [d1, d2, d3] => { results := [.lit (.bool true)], args := [d1, d2, d3] }
  | _ => none }
def exportEndsRow : OpenClaim := { program := "ytojaemgabaehdaagreat", sum := "61ceb8f1c29f36c672e3948f55c9d753a3217d10d167cc59b414a07858e3217f", func := "pentimento/pentimentolaw20.ExportEnds", spec := "exportEnds", inPlace := ["maps.clone"], unfollowed := true, recurses := true, apart := false }
def ExportEndsSaid : Prop := exportEndsRow.holds Tryz.pinned (OpenSpec.ofChange exportEndsSpec)

/-- ITS FALSE NEIGHBOUR: 'it returns false'. Refute it at one input. -/
def exportEndsWrong : ChangeSpec := { name := "exportEnds", fn := fun _ => fun
  | [d1, d2, d3] => { results := [.lit (.bool false)], args := [d1, d2, d3] }
  | _ => none }
def ExportEndsWrongFalsely : Prop := exportEndsRow.holds Tryz.pinned (OpenSpec.ofChange exportEndsWrong)

/-- 'pentimentolaw21.SimDisk': WHATEVER THE INPUT: true; the input reads as it did. -/
def simDiskSpec : ChangeSpec := { name := "simDisk", fn := fun _ => fun
  | [d1, d2] => { results := [.lit (.bool true)], args := [d1, d2] }
  | _ => none }
def simDiskRow : OpenClaim := { program := "ytojaemgabaehdaagreat", sum := "61ceb8f1c29f36c672e3948f55c9d753a3217d10d167cc59b414a07858e3217f", func := "pentimento/pentimentolaw21.SimDisk", spec := "simDisk", inPlace := ["maps.clone"], unfollowed := true, recurses := true, apart := false }
def SimDiskSaid : Prop := simDiskRow.holds Tryz.pinned (OpenSpec.ofChange simDiskSpec)

/-- ITS FALSE NEIGHBOUR: 'it returns false'. Refute it at one input. -/
def simDiskWrong : ChangeSpec := { name := "simDisk", fn := fun _ => fun
  | [d1, d2] => { results := [.lit (.bool false)], args := [d1, d2] }
  | _ => none }
def SimDiskWrongFalsely : Prop := simDiskRow.holds Tryz.pinned (OpenSpec.ofChange simDiskWrong)

/-- 'pentimentolaw21.SimRestores': WHATEVER THE INPUT: true; the input reads as it did. -/
def simRestoresSpec : ChangeSpec := { name := "simRestores", fn := fun _ => fun
  | [d1, d2, d3] => { results := [.lit (.bool true)], args := [d1, d2, d3] }
  | _ => none }
def simRestoresRow : OpenClaim := { program := "ytojaemgabaehdaagreat", sum := "61ceb8f1c29f36c672e3948f55c9d753a3217d10d167cc59b414a07858e3217f", func := "pentimento/pentimentolaw21.SimRestores", spec := "simRestores", inPlace := ["maps.clone"], unfollowed := true, recurses := true, apart := false }
def SimRestoresSaid : Prop := simRestoresRow.holds Tryz.pinned (OpenSpec.ofChange simRestoresSpec)

/-- ITS FALSE NEIGHBOUR: 'it returns false'. Refute it at one input. -/
def simRestoresWrong : ChangeSpec := { name := "simRestores", fn := fun _ => fun
  | [d1, d2, d3] => { results := [.lit (.bool false)], args := [d1, d2, d3] }
  | _ => none }
def SimRestoresWrongFalsely : Prop := simRestoresRow.holds Tryz.pinned (OpenSpec.ofChange simRestoresWrong)

/-- 'pentimentolaw21.SimEnds': WHATEVER THE INPUT: true; the input reads as it did. -/
def simEndsSpec : ChangeSpec := { name := "simEnds", fn := fun _ => fun
  | [d1, d2] => { results := [.lit (.bool true)], args := [d1, d2] }
  | _ => none }
def simEndsRow : OpenClaim := { program := "ytojaemgabaehdaagreat", sum := "61ceb8f1c29f36c672e3948f55c9d753a3217d10d167cc59b414a07858e3217f", func := "pentimento/pentimentolaw21.SimEnds", spec := "simEnds", inPlace := ["maps.clone"], unfollowed := true, recurses := true, apart := false }
def SimEndsSaid : Prop := simEndsRow.holds Tryz.pinned (OpenSpec.ofChange simEndsSpec)

/-- ITS FALSE NEIGHBOUR: 'it returns false'. Refute it at one input. -/
def simEndsWrong : ChangeSpec := { name := "simEnds", fn := fun _ => fun
  | [d1, d2] => { results := [.lit (.bool false)], args := [d1, d2] }
  | _ => none }
def SimEndsWrongFalsely : Prop := simEndsRow.holds Tryz.pinned (OpenSpec.ofChange simEndsWrong)

/-- 'pentimentolaw21.SimWhole': WHATEVER THE INPUT: true; the input reads as it did. -/
def simWholeSpec : ChangeSpec := { name := "simWhole", fn := fun _ => fun
  | [d1, d2] => { results := [.lit (.bool true)], args := [d1, d2] }
  | _ => none }
def simWholeRow : OpenClaim := { program := "ytojaemgabaehdaagreat", sum := "61ceb8f1c29f36c672e3948f55c9d753a3217d10d167cc59b414a07858e3217f", func := "pentimento/pentimentolaw21.SimWhole", spec := "simWhole", inPlace := ["maps.clone"], unfollowed := true, recurses := true, apart := false }
def SimWholeSaid : Prop := simWholeRow.holds Tryz.pinned (OpenSpec.ofChange simWholeSpec)

/-- ITS FALSE NEIGHBOUR: 'it returns false'. Refute it at one input. -/
def simWholeWrong : ChangeSpec := { name := "simWhole", fn := fun _ => fun
  | [d1, d2] => { results := [.lit (.bool false)], args := [d1, d2] }
  | _ => none }
def SimWholeWrongFalsely : Prop := simWholeRow.holds Tryz.pinned (OpenSpec.ofChange simWholeWrong)

/- THE SECOND FORM. 'bulk': how many values and letters a reading holds, each counted each time it is reached (what is shared counts as often as it is met; a slice's spare places count too). A statement '..UptoSaid' is the law's where the arguments, and the package variables that the reading takes, are together of bulk at most 1048576: NARROWER than '..Said'. Prove '..Said' where nothing that the law and all that it calls make is longer than what came in: it says more and counts as full. Else prove '..UptoSaid'. A law counts once. -/
mutual
def uptoBulk {H : Type} : DataW H → Nat
  | .lit (.string bytes) => bytes.length + 1
  | .lit _ => 1
  | .nil => 1
  | .ptr d => uptoBulk d + 1
  | .slice elems spare => uptoBulkAll elems + uptoBulkAll spare + 1
  | .agg parts => uptoBulkAll parts + 1
  | .iface _ d => uptoBulk d + 1
  | .map entries => uptoBulkEntries entries + 1
  | .held _ => 1
def uptoBulkAll {H : Type} : List (DataW H) → Nat
  | [] => 0
  | d :: r => uptoBulk d + uptoBulkAll r
def uptoBulkEntries {H : Type} : List (Lit × DataW H) → Nat
  | [] => 0
  | x :: r => uptoBulkEntry x + uptoBulkEntries r
def uptoBulkEntry {H : Type} : Lit × DataW H → Nat
  | (.string bytes, d) => bytes.length + uptoBulk d + 1
  | (_, d) => uptoBulk d + 1
 end
def uptoSmall : (H : Type) → List (DataW H) → Bool := fun _ ds => decide (uptoBulkAll ds ≤ 1048576)
def OpenSpec.upto (s : _root_.Go.ChangeSpec) : _root_.Go.OpenSpec := { _root_.Go.OpenSpec.ofChange s with cond := some uptoSmall }

/-- 'pentimentotop.PentimentoClean', WHERE WHAT IT READS IS OF BULK AT MOST 1048576: true; the input reads as it did. -/
def pentimentoCleanUptoRow : OpenClaim := { program := "ytojaemgabaehdaagreat", sum := "61ceb8f1c29f36c672e3948f55c9d753a3217d10d167cc59b414a07858e3217f", func := "pentimento/pentimentotop.PentimentoClean", spec := "pentimentoClean", inPlace := ["maps.clone"], unfollowed := true, recurses := true, apart := false, narrowed := true }
def PentimentoCleanUptoSaid : Prop := pentimentoCleanUptoRow.holds Tryz.pinned (OpenSpec.upto pentimentoCleanSpec)

/-- 'pentimentolaw14.ChainAll', WHERE WHAT IT READS IS OF BULK AT MOST 1048576: true; the input reads as it did. -/
def chainAllUptoRow : OpenClaim := { program := "ytojaemgabaehdaagreat", sum := "61ceb8f1c29f36c672e3948f55c9d753a3217d10d167cc59b414a07858e3217f", func := "pentimento/pentimentolaw14.ChainAll", spec := "chainAll", unfollowed := true, recurses := true, apart := false, narrowed := true }
def ChainAllUptoSaid : Prop := chainAllUptoRow.holds Tryz.pinned (OpenSpec.upto chainAllSpec)

/-- 'pentimentotop.PentimentoPulls', WHERE WHAT IT READS IS OF BULK AT MOST 1048576: true; the input reads as it did. -/
def pentimentoPullsUptoRow : OpenClaim := { program := "ytojaemgabaehdaagreat", sum := "61ceb8f1c29f36c672e3948f55c9d753a3217d10d167cc59b414a07858e3217f", func := "pentimento/pentimentotop.PentimentoPulls", spec := "pentimentoPulls", inPlace := ["maps.clone"], unfollowed := true, recurses := true, apart := false, narrowed := true }
def PentimentoPullsUptoSaid : Prop := pentimentoPullsUptoRow.holds Tryz.pinned (OpenSpec.upto pentimentoPullsSpec)

/-- 'pentimentolaw16.PullAll', WHERE WHAT IT READS IS OF BULK AT MOST 1048576: true; the input reads as it did. -/
def pullAllUptoRow : OpenClaim := { program := "ytojaemgabaehdaagreat", sum := "61ceb8f1c29f36c672e3948f55c9d753a3217d10d167cc59b414a07858e3217f", func := "pentimento/pentimentolaw16.PullAll", spec := "pullAll", unfollowed := true, recurses := true, apart := false, narrowed := true }
def PullAllUptoSaid : Prop := pullAllUptoRow.holds Tryz.pinned (OpenSpec.upto pullAllSpec)

/-- 'pentimentolaw15.MergeAll', WHERE WHAT IT READS IS OF BULK AT MOST 1048576: true; the input reads as it did. -/
def mergeAllUptoRow : OpenClaim := { program := "ytojaemgabaehdaagreat", sum := "61ceb8f1c29f36c672e3948f55c9d753a3217d10d167cc59b414a07858e3217f", func := "pentimento/pentimentolaw15.MergeAll", spec := "mergeAll", unfollowed := true, recurses := true, apart := false, narrowed := true }
def MergeAllUptoSaid : Prop := mergeAllUptoRow.holds Tryz.pinned (OpenSpec.upto mergeAllSpec)

/-- 'pentimentolaw20.ExportPulls', WHERE WHAT IT READS IS OF BULK AT MOST 1048576: true; the input reads as it did. -/
def exportPullsUptoRow : OpenClaim := { program := "ytojaemgabaehdaagreat", sum := "61ceb8f1c29f36c672e3948f55c9d753a3217d10d167cc59b414a07858e3217f", func := "pentimento/pentimentolaw20.ExportPulls", spec := "exportPulls", inPlace := ["maps.clone"], unfollowed := true, recurses := true, apart := false, narrowed := true }
def ExportPullsUptoSaid : Prop := exportPullsUptoRow.holds Tryz.pinned (OpenSpec.upto exportPullsSpec)

/-- 'pentimentolaw20.ExportOnce', WHERE WHAT IT READS IS OF BULK AT MOST 1048576: true; the input reads as it did. -/
def exportOnceUptoRow : OpenClaim := { program := "ytojaemgabaehdaagreat", sum := "61ceb8f1c29f36c672e3948f55c9d753a3217d10d167cc59b414a07858e3217f", func := "pentimento/pentimentolaw20.ExportOnce", spec := "exportOnce", inPlace := ["maps.clone"], unfollowed := true, recurses := true, apart := false, narrowed := true }
def ExportOnceUptoSaid : Prop := exportOnceUptoRow.holds Tryz.pinned (OpenSpec.upto exportOnceSpec)

/-- 'pentimentolaw20.ExportEnds', WHERE WHAT IT READS IS OF BULK AT MOST 1048576: true; the input reads as it did. -/
def exportEndsUptoRow : OpenClaim := { program := "ytojaemgabaehdaagreat", sum := "61ceb8f1c29f36c672e3948f55c9d753a3217d10d167cc59b414a07858e3217f", func := "pentimento/pentimentolaw20.ExportEnds", spec := "exportEnds", inPlace := ["maps.clone"], unfollowed := true, recurses := true, apart := false, narrowed := true }
def ExportEndsUptoSaid : Prop := exportEndsUptoRow.holds Tryz.pinned (OpenSpec.upto exportEndsSpec)

/-- 'pentimentolaw21.SimDisk', WHERE WHAT IT READS IS OF BULK AT MOST 1048576: true; the input reads as it did. -/
def simDiskUptoRow : OpenClaim := { program := "ytojaemgabaehdaagreat", sum := "61ceb8f1c29f36c672e3948f55c9d753a3217d10d167cc59b414a07858e3217f", func := "pentimento/pentimentolaw21.SimDisk", spec := "simDisk", inPlace := ["maps.clone"], unfollowed := true, recurses := true, apart := false, narrowed := true }
def SimDiskUptoSaid : Prop := simDiskUptoRow.holds Tryz.pinned (OpenSpec.upto simDiskSpec)

/-- 'pentimentolaw21.SimRestores', WHERE WHAT IT READS IS OF BULK AT MOST 1048576: true; the input reads as it did. -/
def simRestoresUptoRow : OpenClaim := { program := "ytojaemgabaehdaagreat", sum := "61ceb8f1c29f36c672e3948f55c9d753a3217d10d167cc59b414a07858e3217f", func := "pentimento/pentimentolaw21.SimRestores", spec := "simRestores", inPlace := ["maps.clone"], unfollowed := true, recurses := true, apart := false, narrowed := true }
def SimRestoresUptoSaid : Prop := simRestoresUptoRow.holds Tryz.pinned (OpenSpec.upto simRestoresSpec)

/-- 'pentimentolaw21.SimEnds', WHERE WHAT IT READS IS OF BULK AT MOST 1048576: true; the input reads as it did. -/
def simEndsUptoRow : OpenClaim := { program := "ytojaemgabaehdaagreat", sum := "61ceb8f1c29f36c672e3948f55c9d753a3217d10d167cc59b414a07858e3217f", func := "pentimento/pentimentolaw21.SimEnds", spec := "simEnds", inPlace := ["maps.clone"], unfollowed := true, recurses := true, apart := false, narrowed := true }
def SimEndsUptoSaid : Prop := simEndsUptoRow.holds Tryz.pinned (OpenSpec.upto simEndsSpec)

/-- 'pentimentolaw21.SimWhole', WHERE WHAT IT READS IS OF BULK AT MOST 1048576: true; the input reads as it did. -/
def simWholeUptoRow : OpenClaim := { program := "ytojaemgabaehdaagreat", sum := "61ceb8f1c29f36c672e3948f55c9d753a3217d10d167cc59b414a07858e3217f", func := "pentimento/pentimentolaw21.SimWhole", spec := "simWhole", inPlace := ["maps.clone"], unfollowed := true, recurses := true, apart := false, narrowed := true }
def SimWholeUptoSaid : Prop := simWholeUptoRow.holds Tryz.pinned (OpenSpec.upto simWholeSpec)

end Rows
end Go.Proofs.YtojaemgabaehdaaGreat
