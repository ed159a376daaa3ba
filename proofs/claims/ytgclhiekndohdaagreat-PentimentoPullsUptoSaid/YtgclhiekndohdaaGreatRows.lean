/-
  No cell of these rows narrows 'for every input' (looked for: loops, veiled, ifaces, maps, wideKeys, modest, calm, conditions, laid).
  DERIVED. THE GIVEN ROWS OF THIS SEAT. 2 by the template 'for every input the law returns true; each argument reads behind the call as it read before'; 0 by the template 'total and deterministic' (their statements: YtgclhiekndohdaaGreatTotals.lean).
  GIVEN WITH THE SEED: the statements are not yours to turn. If you find one false, say at which input.
  Laid BY PROGRAM, IN A SANDBOX (cutbox-rows.mjs): the forced cells as the released guide's own fill.sh prints them over the translation 53586425554fe128… (all of the seat's roots in one cut). By AI agents, Wed Nov 11 2026. No macro, syntax, notation, axiom, sorry.
-/
import Derived.Test.YtgclhiekndohdaaGreatChecked
import GoSem.Claim
import GoSem.ClaimJoined
import GoSem.ClaimMapViews
import Derived.JoinedTies
import Derived.KernelRfl
namespace Go.Proofs.YtgclhiekndohdaaGreat
/- THE CELL 'sum', in the pinned program and in every row, IS THE sha256 OF THE DUMP (.gsa) THAT YtgclhiekndohdaaGreatProg.lean LOADS. Nothing in Lean hashes anything: it is a label: what it is worth is what the hold of that sum in a sandbox is worth. -/
noncomputable def Tryz.pinned : Pinned := { name := "ytgclhiekndohdaagreat", sum := "53586425554fe1288d91101880fffcbf52cd36dd6f7ee7e5de2c37eb73615fc7", checked := Tryz.checked }
namespace Rows
def none {H : Type} : Left H := { results := [], args := [] }

/-- 'pentimentotop.PentimentoClean': WHATEVER THE INPUT: true; the input reads as it did. -/
def pentimentoCleanSpec : ChangeSpec := { name := "pentimentoClean", fn := fun _ => fun
  | [d1, d2] => { results := [.lit (.bool true)], args := [d1, d2] }
  | _ => none }
def pentimentoCleanRow : OpenClaim := { program := "ytgclhiekndohdaagreat", sum := "53586425554fe1288d91101880fffcbf52cd36dd6f7ee7e5de2c37eb73615fc7", func := "pentimento/pentimentotop.PentimentoClean", spec := "pentimentoClean", inPlace := ["maps.clone"], unfollowed := true, recurses := true, apart := false }
def PentimentoCleanSaid : Prop := pentimentoCleanRow.holds Tryz.pinned (OpenSpec.ofChange pentimentoCleanSpec)

/-- ITS FALSE NEIGHBOUR: 'it returns false'. Refute it at one input. -/
def pentimentoCleanWrong : ChangeSpec := { name := "pentimentoClean", fn := fun _ => fun
  | [d1, d2] => { results := [.lit (.bool false)], args := [d1, d2] }
  | _ => none }
def PentimentoCleanWrongFalsely : Prop := pentimentoCleanRow.holds Tryz.pinned (OpenSpec.ofChange pentimentoCleanWrong)

/-- 'pentimentotop.PentimentoPulls': WHATEVER THE INPUT: true; the input reads as it did. -/
def pentimentoPullsSpec : ChangeSpec := { name := "pentimentoPulls", fn := fun _ => fun
  | [d1, d2] => { results := [.lit (.bool true)], args := [d1, d2] }
  | _ => none }
def pentimentoPullsRow : OpenClaim := { program := "ytgclhiekndohdaagreat", sum := "53586425554fe1288d91101880fffcbf52cd36dd6f7ee7e5de2c37eb73615fc7", func := "pentimento/pentimentotop.PentimentoPulls", spec := "pentimentoPulls", inPlace := ["maps.clone"], unfollowed := true, recurses := true, apart := false }
def PentimentoPullsSaid : Prop := pentimentoPullsRow.holds Tryz.pinned (OpenSpec.ofChange pentimentoPullsSpec)

/-- ITS FALSE NEIGHBOUR: 'it returns false'. Refute it at one input. -/
def pentimentoPullsWrong : ChangeSpec := { name := "pentimentoPulls", fn := fun _ => fun
  | [d1, d2] => { results := [.lit (.bool false)], args := [d1, d2] }
  | _ => none }
def PentimentoPullsWrongFalsely : Prop := pentimentoPullsRow.holds Tryz.pinned (OpenSpec.ofChange pentimentoPullsWrong)

/- THE SECOND FORM. 'bulk': how many values and letters a reading holds, each counted each time it is reached (what is shared counts as often as it is met; a slice's spare places count too). A statement '..UptoSaid' is the law's where the arguments, and the package variables that the reading takes, are together of bulk at most 1048576: NARROWER than '..Said'. Prove '..Said' where nothing that the law and all that it calls make is longer than what came in: it says more and counts as full. Else prove '..UptoSaid'. A law counts once. -/
mutual
def uptoBulk {H : Type} : DataW H → Nat
  | .lit (.string bytes) => bytes.length + 1
  | .lit _ => 1
  | .nil => 1
  | .ptr d => uptoBulk d + 1
  | .slice elems spare => uptoBulkAll elems + uptoBulkAll spare + 1
  | .agg parts => uptoBulkAll parts + 1
  | .iface _ d => uptoBulk d + 1
  | .map entries => uptoBulkEntries entries + 1
  | .held _ => 1
def uptoBulkAll {H : Type} : List (DataW H) → Nat
  | [] => 0
  | d :: r => uptoBulk d + uptoBulkAll r
def uptoBulkEntries {H : Type} : List (Lit × DataW H) → Nat
  | [] => 0
  | x :: r => uptoBulkEntry x + uptoBulkEntries r
def uptoBulkEntry {H : Type} : Lit × DataW H → Nat
  | (.string bytes, d) => bytes.length + uptoBulk d + 1
  | (_, d) => uptoBulk d + 1
 end
def uptoSmall : (H : Type) → List (DataW H) → Bool := fun _ ds => decide (uptoBulkAll ds ≤ 1048576)
def OpenSpec.upto (s : _root_.Go.ChangeSpec) : _root_.Go.OpenSpec := { _root_.Go.OpenSpec.ofChange s with cond := some uptoSmall }

/-- 'pentimentotop.PentimentoClean', WHERE WHAT IT READS IS OF BULK AT MOST 1048576: true; the input reads as it did. -/
def pentimentoCleanUptoRow : OpenClaim := { program := "ytgclhiekndohdaagreat", sum := "53586425554fe1288d91101880fffcbf52cd36dd6f7ee7e5de2c37eb73615fc7", func := "pentimento/pentimentotop.PentimentoClean", spec := "pentimentoClean", inPlace := ["maps.clone"], unfollowed := true, recurses := true, apart := false, narrowed := true }
def PentimentoCleanUptoSaid : Prop := pentimentoCleanUptoRow.holds Tryz.pinned (OpenSpec.upto pentimentoCleanSpec)

/-- 'pentimentotop.PentimentoPulls', WHERE WHAT IT READS IS OF BULK AT MOST 1048576: true; the input reads as it did. -/
def pentimentoPullsUptoRow : OpenClaim := { program := "ytgclhiekndohdaagreat", sum := "53586425554fe1288d91101880fffcbf52cd36dd6f7ee7e5de2c37eb73615fc7", func := "pentimento/pentimentotop.PentimentoPulls", spec := "pentimentoPulls", inPlace := ["maps.clone"], unfollowed := true, recurses := true, apart := false, narrowed := true }
def PentimentoPullsUptoSaid : Prop := pentimentoPullsUptoRow.holds Tryz.pinned (OpenSpec.upto pentimentoPullsSpec)

end Rows
end Go.Proofs.YtgclhiekndohdaaGreat
