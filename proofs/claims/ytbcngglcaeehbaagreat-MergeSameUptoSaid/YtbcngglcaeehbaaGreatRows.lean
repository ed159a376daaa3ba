/-
  No cell of these rows narrows 'for every input' (looked for: loops, veiled, ifaces, maps, wideKeys, modest, calm, conditions, laid).
  DERIVED. THE GIVEN ROWS OF THIS SEAT. 6 by the template 'for every input the law returns true; each argument reads behind the call as it read before'; 0 by the template 'total and deterministic' (their statements: YtbcngglcaeehbaaGreatTotals.lean).
  GIVEN WITH THE SEED: the statements are not yours to turn. If you find one false, say at which input.
  Laid BY PROGRAM, IN A SANDBOX (cutbox-rows.mjs): the forced cells as the released guide's own fill.sh prints them over the translation 4cad533a42e8e974… (all of the seat's roots in one cut). By AI agents, Wed Nov 11 2026. No macro, syntax, notation, axiom, sorry.
-/
import Derived.Test.YtbcngglcaeehbaaGreatChecked
import GoSem.Claim
import GoSem.ClaimJoined
import GoSem.ClaimMapViews
import Derived.JoinedTies
import Derived.KernelRfl
namespace Go.Proofs.YtbcngglcaeehbaaGreat
/- THE CELL 'sum', in the pinned program and in every row, IS THE sha256 OF THE DUMP (.gsa) THAT YtbcngglcaeehbaaGreatProg.lean LOADS. Nothing in Lean hashes anything: it is a label: what it is worth is what the hold of that sum in a sandbox is worth. -/
noncomputable def Tryz.pinned : Pinned := { name := "ytbcngglcaeehbaagreat", sum := "4cad533a42e8e974d4106dd01a35170eeb5561a7df43f8bce37248df476950fb", checked := Tryz.checked }
namespace Rows
def none {H : Type} : Left H := { results := [], args := [] }

/-- 'pentimentolaw17.PushPieces': WHATEVER THE INPUT: true; the input reads as it did. -/
def pushPiecesSpec : ChangeSpec := { name := "pushPieces", fn := fun _ => fun
  | [d1, d2, d3] => { results := [.lit (.bool true)], args := [d1, d2, d3] }
  | _ => none }
def pushPiecesRow : OpenClaim := { program := "ytbcngglcaeehbaagreat", sum := "4cad533a42e8e974d4106dd01a35170eeb5561a7df43f8bce37248df476950fb", func := "pentimento/pentimentolaw17.PushPieces", spec := "pushPieces", unfollowed := true, recurses := true, apart := false }
def PushPiecesSaid : Prop := pushPiecesRow.holds Tryz.pinned (OpenSpec.ofChange pushPiecesSpec)

/-- ITS FALSE NEIGHBOUR: 'it returns false'. Refute it at one input. -/
def pushPiecesWrong : ChangeSpec := { name := "pushPieces", fn := fun _ => fun
  | [d1, d2, d3] => { results := [.lit (.bool false)], args := [d1, d2, d3] }
  | _ => none }
def PushPiecesWrongFalsely : Prop := pushPiecesRow.holds Tryz.pinned (OpenSpec.ofChange pushPiecesWrong)

/-- 'pentimentolaw17.PushEnds': WHATEVER THE INPUT: true; the input reads as it did. -/
def pushEndsSpec : ChangeSpec := { name := "pushEnds", fn := fun _ => fun
  | [d1, d2] => { results := [.lit (.bool true)], args := [d1, d2] }
  | _ => none }
def pushEndsRow : OpenClaim := { program := "ytbcngglcaeehbaagreat", sum := "4cad533a42e8e974d4106dd01a35170eeb5561a7df43f8bce37248df476950fb", func := "pentimento/pentimentolaw17.PushEnds", spec := "pushEnds", unfollowed := true, recurses := true, apart := false }
def PushEndsSaid : Prop := pushEndsRow.holds Tryz.pinned (OpenSpec.ofChange pushEndsSpec)

/-- ITS FALSE NEIGHBOUR: 'it returns false'. Refute it at one input. -/
def pushEndsWrong : ChangeSpec := { name := "pushEnds", fn := fun _ => fun
  | [d1, d2] => { results := [.lit (.bool false)], args := [d1, d2] }
  | _ => none }
def PushEndsWrongFalsely : Prop := pushEndsRow.holds Tryz.pinned (OpenSpec.ofChange pushEndsWrong)

/-- 'pentimentolaw17.PushStops': WHATEVER THE INPUT: true; the input reads as it did. -/
def pushStopsSpec : ChangeSpec := { name := "pushStops", fn := fun _ => fun
  | [d1, d2, d3] => { results := [.lit (.bool true)], args := [d1, d2, d3] }
  | _ => none }
def pushStopsRow : OpenClaim := { program := "ytbcngglcaeehbaagreat", sum := "4cad533a42e8e974d4106dd01a35170eeb5561a7df43f8bce37248df476950fb", func := "pentimento/pentimentolaw17.PushStops", spec := "pushStops", unfollowed := true, recurses := true, apart := false }
def PushStopsSaid : Prop := pushStopsRow.holds Tryz.pinned (OpenSpec.ofChange pushStopsSpec)

/-- ITS FALSE NEIGHBOUR: 'it returns false'. Refute it at one input. -/
def pushStopsWrong : ChangeSpec := { name := "pushStops", fn := fun _ => fun
  | [d1, d2, d3] => { results := [.lit (.bool false)], args := [d1, d2, d3] }
  | _ => none }
def PushStopsWrongFalsely : Prop := pushStopsRow.holds Tryz.pinned (OpenSpec.ofChange pushStopsWrong)

/-- 'pentimentolaw17.PushReads': WHATEVER THE INPUT: true; the input reads as it did. -/
def pushReadsSpec : ChangeSpec := { name := "pushReads", fn := fun _ => fun
  | [d1, d2, d3] => { results := [.lit (.bool true)], args := [d1, d2, d3] }
  | _ => none }
def pushReadsRow : OpenClaim := { program := "ytbcngglcaeehbaagreat", sum := "4cad533a42e8e974d4106dd01a35170eeb5561a7df43f8bce37248df476950fb", func := "pentimento/pentimentolaw17.PushReads", spec := "pushReads", unfollowed := true, recurses := true, apart := false }
def PushReadsSaid : Prop := pushReadsRow.holds Tryz.pinned (OpenSpec.ofChange pushReadsSpec)

/-- ITS FALSE NEIGHBOUR: 'it returns false'. Refute it at one input. -/
def pushReadsWrong : ChangeSpec := { name := "pushReads", fn := fun _ => fun
  | [d1, d2, d3] => { results := [.lit (.bool false)], args := [d1, d2, d3] }
  | _ => none }
def PushReadsWrongFalsely : Prop := pushReadsRow.holds Tryz.pinned (OpenSpec.ofChange pushReadsWrong)

/-- 'pentimentolaw17.PushFrozen': WHATEVER THE INPUT: true; the input reads as it did. -/
def pushFrozenSpec : ChangeSpec := { name := "pushFrozen", fn := fun _ => fun
  | [d1, d2, d3] => { results := [.lit (.bool true)], args := [d1, d2, d3] }
  | _ => none }
def pushFrozenRow : OpenClaim := { program := "ytbcngglcaeehbaagreat", sum := "4cad533a42e8e974d4106dd01a35170eeb5561a7df43f8bce37248df476950fb", func := "pentimento/pentimentolaw17.PushFrozen", spec := "pushFrozen", unfollowed := true, recurses := true, apart := false }
def PushFrozenSaid : Prop := pushFrozenRow.holds Tryz.pinned (OpenSpec.ofChange pushFrozenSpec)

/-- ITS FALSE NEIGHBOUR: 'it returns false'. Refute it at one input. -/
def pushFrozenWrong : ChangeSpec := { name := "pushFrozen", fn := fun _ => fun
  | [d1, d2, d3] => { results := [.lit (.bool false)], args := [d1, d2, d3] }
  | _ => none }
def PushFrozenWrongFalsely : Prop := pushFrozenRow.holds Tryz.pinned (OpenSpec.ofChange pushFrozenWrong)

/-- 'pentimentolaw15.MergeSame': WHATEVER THE INPUT: true; the input reads as it did. -/
def mergeSameSpec : ChangeSpec := { name := "mergeSame", fn := fun _ => fun
  | [d1, d2, d3] => { results := [.lit (.bool true)], args := [d1, d2, d3] }
  | _ => none }
def mergeSameRow : OpenClaim := { program := "ytbcngglcaeehbaagreat", sum := "4cad533a42e8e974d4106dd01a35170eeb5561a7df43f8bce37248df476950fb", func := "pentimento/pentimentolaw15.MergeSame", spec := "mergeSame", inPlace := ["maps.clone"], unfollowed := true, recurses := true, apart := false }
def MergeSameSaid : Prop := mergeSameRow.holds Tryz.pinned (OpenSpec.ofChange mergeSameSpec)

/-- ITS FALSE NEIGHBOUR: 'it returns false'. Refute it at one input. -/
def mergeSameWrong : ChangeSpec := { name := "mergeSame", fn := fun _ => fun
  | [d1, d2, d3] => { results := [.lit (.bool false)], args := [d1, d2, d3] }
  | _ => none }
def MergeSameWrongFalsely : Prop := mergeSameRow.holds Tryz.pinned (OpenSpec.ofChange mergeSameWrong)

/- THE SECOND FORM. 'bulk': how many values and letters a reading holds, each counted each time it is reached (what is shared counts as often as it is met; a slice's spare places count too). A statement '..UptoSaid' is the law's where the arguments, and the package variables that the reading takes, are together of bulk at most 1048576: NARROWER than '..Said'. Prove '..Said' where nothing that the law and all that it calls make is longer than what came in: it says more and counts as full. Else prove '..UptoSaid'. A law counts once. -/
mutual
def uptoBulk {H : Type} : DataW H → Nat
  | .lit (.string bytes) => bytes.length + 1
  | .lit _ => 1
  | .nil => 1
  | .ptr d => uptoBulk d + 1
  | .slice elems spare => uptoBulkAll elems + uptoBulkAll spare + 1
  | .agg parts => uptoBulkAll parts + 1
  | .iface _ d => uptoBulk d + 1
  | .map entries => uptoBulkEntries entries + 1
  | .held _ => 1
def uptoBulkAll {H : Type} : List (DataW H) → Nat
  | [] => 0
  | d :: r => uptoBulk d + uptoBulkAll r
def uptoBulkEntries {H : Type} : List (Lit × DataW H) → Nat
  | [] => 0
  | x :: r => uptoBulkEntry x + uptoBulkEntries r
def uptoBulkEntry {H : Type} : Lit × DataW H → Nat
  | (.string bytes, d) => bytes.length + uptoBulk d + 1
  | (_, d) => uptoBulk d + 1
 end
def uptoSmall : (H : Type) → List (DataW H) → Bool := fun _ ds => decide (uptoBulkAll ds ≤ 1048576)
def OpenSpec.upto (s : _root_.Go.ChangeSpec) : _root_.Go.OpenSpec := { _root_.Go.OpenSpec.ofChange s with cond := some uptoSmall }

/-- 'pentimentolaw17.PushPieces', WHERE WHAT IT READS IS OF BULK AT MOST 1048576: true; the input reads as it did. -/
def pushPiecesUptoRow : OpenClaim := { program := "ytbcngglcaeehbaagreat", sum := "4cad533a42e8e974d4106dd01a35170eeb5561a7df43f8bce37248df476950fb", func := "pentimento/pentimentolaw17.PushPieces", spec := "pushPieces", unfollowed := true, recurses := true, apart := false, narrowed := true }
def PushPiecesUptoSaid : Prop := pushPiecesUptoRow.holds Tryz.pinned (OpenSpec.upto pushPiecesSpec)

/-- 'pentimentolaw17.PushEnds', WHERE WHAT IT READS IS OF BULK AT MOST 1048576: true; the input reads as it did. -/
def pushEndsUptoRow : OpenClaim := { program := "ytbcngglcaeehbaagreat", sum := "4cad533a42e8e974d4106dd01a35170eeb5561a7df43f8bce37248df476950fb", func := "pentimento/pentimentolaw17.PushEnds", spec := "pushEnds", unfollowed := true, recurses := true, apart := false, narrowed := true }
def PushEndsUptoSaid : Prop := pushEndsUptoRow.holds Tryz.pinned (OpenSpec.upto pushEndsSpec)

/-- 'pentimentolaw17.PushStops', WHERE WHAT IT READS IS OF BULK AT MOST 1048576: true; the input reads as it did. -/
def pushStopsUptoRow : OpenClaim := { program := "ytbcngglcaeehbaagreat", sum := "4cad533a42e8e974d4106dd01a35170eeb5561a7df43f8bce37248df476950fb", func := "pentimento/pentimentolaw17.PushStops", spec := "pushStops", unfollowed := true, recurses := true, apart := false, narrowed := true }
def PushStopsUptoSaid : Prop := pushStopsUptoRow.holds Tryz.pinned (OpenSpec.upto pushStopsSpec)

/-- 'pentimentolaw17.PushReads', WHERE WHAT IT READS IS OF BULK AT MOST 1048576: true; the input reads as it did. -/
def pushReadsUptoRow : OpenClaim := { program := "ytbcngglcaeehbaagreat", sum := "4cad533a42e8e974d4106dd01a35170eeb5561a7df43f8bce37248df476950fb", func := "pentimento/pentimentolaw17.PushReads", spec := "pushReads", unfollowed := true, recurses := true, apart := false, narrowed := true }
def PushReadsUptoSaid : Prop := pushReadsUptoRow.holds Tryz.pinned (OpenSpec.upto pushReadsSpec)

/-- 'pentimentolaw17.PushFrozen', WHERE WHAT IT READS IS OF BULK AT MOST 1048576: true; the input reads as it did. -/
def pushFrozenUptoRow : OpenClaim := { program := "ytbcngglcaeehbaagreat", sum := "4cad533a42e8e974d4106dd01a35170eeb5561a7df43f8bce37248df476950fb", func := "pentimento/pentimentolaw17.PushFrozen", spec := "pushFrozen", unfollowed := true, recurses := true, apart := false, narrowed := true }
def PushFrozenUptoSaid : Prop := pushFrozenUptoRow.holds Tryz.pinned (OpenSpec.upto pushFrozenSpec)

/-- 'pentimentolaw15.MergeSame', WHERE WHAT IT READS IS OF BULK AT MOST 1048576: true; the input reads as it did. -/
def mergeSameUptoRow : OpenClaim := { program := "ytbcngglcaeehbaagreat", sum := "4cad533a42e8e974d4106dd01a35170eeb5561a7df43f8bce37248df476950fb", func := "pentimento/pentimentolaw15.MergeSame", spec := "mergeSame", inPlace := ["maps.clone"], unfollowed := true, recurses := true, apart := false, narrowed := true }
def MergeSameUptoSaid : Prop := mergeSameUptoRow.holds Tryz.pinned (OpenSpec.upto mergeSameSpec)

end Rows
end Go.Proofs.YtbcngglcaeehbaaGreat
