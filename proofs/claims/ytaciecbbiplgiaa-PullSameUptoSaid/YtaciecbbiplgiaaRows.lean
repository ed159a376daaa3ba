/-
  No cell of these rows narrows 'for every input' (looked for: loops, veiled, ifaces, maps, wideKeys, modest, calm, conditions, laid).
  DERIVED. THE GIVEN ROWS OF THIS SEAT. 4 by the template 'for every input the law returns true; each argument reads behind the call as it read before'; 0 by the template 'total and deterministic' (their statements: YtaciecbbiplgiaaTotals.lean).
  GIVEN WITH THE SEED: the statements are not yours to turn. If you find one false, say at which input.
  Laid BY PROGRAM, IN A SANDBOX (cutbox-rows.mjs): the forced cells as the released guide's own fill.sh prints them over the translation 300cb409beed023f… (all of the seat's roots in one cut). By AI agents, Wed Nov 11 2026. No macro, syntax, notation, axiom, sorry.
-/
import Derived.Test.YtaciecbbiplgiaaChecked
import GoSem.Claim
import GoSem.ClaimJoined
import GoSem.ClaimMapViews
import Derived.JoinedTies
import Derived.KernelRfl
namespace Go.Proofs.Ytaciecbbiplgiaa
/- THE CELL 'sum', in the pinned program and in every row, IS THE sha256 OF THE DUMP (.gsa) THAT YtaciecbbiplgiaaProg.lean LOADS. Nothing in Lean hashes anything: it is a label: what it is worth is what the hold of that sum in a sandbox is worth. -/
noncomputable def Try.pinned : Pinned := { name := "ytaciecbbiplgiaa", sum := "300cb409beed023f1b196b05d443479e3a7cb5dbd0f8a5623a643ec7a3406672", checked := Try.checked }
namespace Rows
def none {H : Type} : Left H := { results := [], args := [] }

/-- 'pentimentolaw16.PullEnds': WHATEVER THE INPUT: true; the input reads as it did. -/
def pullEndsSpec : ChangeSpec := { name := "pullEnds", fn := fun _ => fun
  | [d1, d2] => { results := [.lit (.bool true)], args := [d1, d2] }
  | _ => none }
def pullEndsRow : OpenClaim := { program := "ytaciecbbiplgiaa", sum := "300cb409beed023f1b196b05d443479e3a7cb5dbd0f8a5623a643ec7a3406672", func := "pentimento/pentimentolaw16.PullEnds", spec := "pullEnds", unfollowed := true, recurses := true, apart := false }
def PullEndsSaid : Prop := pullEndsRow.holds Try.pinned (OpenSpec.ofChange pullEndsSpec)

/-- ITS FALSE NEIGHBOUR: 'it returns false'. Refute it at one input. -/
def pullEndsWrong : ChangeSpec := { name := "pullEnds", fn := fun _ => fun
  | [d1, d2] => { results := [.lit (.bool false)], args := [d1, d2] }
  | _ => none }
def PullEndsWrongFalsely : Prop := pullEndsRow.holds Try.pinned (OpenSpec.ofChange pullEndsWrong)

/-- 'pentimentolaw16.PullNext': WHATEVER THE INPUT: true; the input reads as it did. -/
def pullNextSpec : ChangeSpec := { name := "pullNext", fn := fun _ => fun
  | [d1, d2] => { results := [.lit (.bool true)], args := [d1, d2] }
  | _ => none }
def pullNextRow : OpenClaim := { program := "ytaciecbbiplgiaa", sum := "300cb409beed023f1b196b05d443479e3a7cb5dbd0f8a5623a643ec7a3406672", func := "pentimento/pentimentolaw16.PullNext", spec := "pullNext", unfollowed := true, recurses := true, apart := false }
def PullNextSaid : Prop := pullNextRow.holds Try.pinned (OpenSpec.ofChange pullNextSpec)

/-- ITS FALSE NEIGHBOUR: 'it returns false'. Refute it at one input. -/
def pullNextWrong : ChangeSpec := { name := "pullNext", fn := fun _ => fun
  | [d1, d2] => { results := [.lit (.bool false)], args := [d1, d2] }
  | _ => none }
def PullNextWrongFalsely : Prop := pullNextRow.holds Try.pinned (OpenSpec.ofChange pullNextWrong)

/-- 'pentimentolaw16.PullSame': WHATEVER THE INPUT: true; the input reads as it did. -/
def pullSameSpec : ChangeSpec := { name := "pullSame", fn := fun _ => fun
  | [d1, d2, d3] => { results := [.lit (.bool true)], args := [d1, d2, d3] }
  | _ => none }
def pullSameRow : OpenClaim := { program := "ytaciecbbiplgiaa", sum := "300cb409beed023f1b196b05d443479e3a7cb5dbd0f8a5623a643ec7a3406672", func := "pentimento/pentimentolaw16.PullSame", spec := "pullSame", unfollowed := true, recurses := true, apart := false }
def PullSameSaid : Prop := pullSameRow.holds Try.pinned (OpenSpec.ofChange pullSameSpec)

/-- ITS FALSE NEIGHBOUR: 'it returns false'. Refute it at one input. -/
def pullSameWrong : ChangeSpec := { name := "pullSame", fn := fun _ => fun
  | [d1, d2, d3] => { results := [.lit (.bool false)], args := [d1, d2, d3] }
  | _ => none }
def PullSameWrongFalsely : Prop := pullSameRow.holds Try.pinned (OpenSpec.ofChange pullSameWrong)

/-- 'pentimentolaw16.PullStops': WHATEVER THE INPUT: true; the input reads as it did. -/
def pullStopsSpec : ChangeSpec := { name := "pullStops", fn := fun _ => fun
  | [d1, d2, d3] => { results := [.lit (.bool true)], args := [d1, d2, d3] }
  | _ => none }
def pullStopsRow : OpenClaim := { program := "ytaciecbbiplgiaa", sum := "300cb409beed023f1b196b05d443479e3a7cb5dbd0f8a5623a643ec7a3406672", func := "pentimento/pentimentolaw16.PullStops", spec := "pullStops", unfollowed := true, recurses := true, apart := false }
def PullStopsSaid : Prop := pullStopsRow.holds Try.pinned (OpenSpec.ofChange pullStopsSpec)

/-- ITS FALSE NEIGHBOUR: 'it returns false'. Refute it at one input. -/
def pullStopsWrong : ChangeSpec := { name := "pullStops", fn := fun _ => fun
  | [d1, d2, d3] => { results := [.lit (.bool false)], args := [d1, d2, d3] }
  | _ => none }
def PullStopsWrongFalsely : Prop := pullStopsRow.holds Try.pinned (OpenSpec.ofChange pullStopsWrong)

/- THE SECOND FORM. 'bulk': how many values and letters a reading holds, each counted each time it is reached (what is shared counts as often as it is met; a slice's spare places count too). A statement '..UptoSaid' is the law's where the arguments, and the package variables that the reading takes, are together of bulk at most 1048576: NARROWER than '..Said'. Prove '..Said' where nothing that the law and all that it calls make is longer than what came in: it says more and counts as full. Else prove '..UptoSaid'. A law counts once. -/
mutual
def uptoBulk {H : Type} : DataW H → Nat
  | .lit (.string bytes) => bytes.length + 1
  | .lit _ => 1
  | .nil => 1
  | .ptr d => uptoBulk d + 1
  | .slice elems spare => uptoBulkAll elems + uptoBulkAll spare + 1
  | .agg parts => uptoBulkAll parts + 1
  | .iface _ d => uptoBulk d + 1
  | .map entries => uptoBulkEntries entries + 1
  | .held _ => 1
def uptoBulkAll {H : Type} : List (DataW H) → Nat
  | [] => 0
  | d :: r => uptoBulk d + uptoBulkAll r
def uptoBulkEntries {H : Type} : List (Lit × DataW H) → Nat
  | [] => 0
  | x :: r => uptoBulkEntry x + uptoBulkEntries r
def uptoBulkEntry {H : Type} : Lit × DataW H → Nat
  | (.string bytes, d) => bytes.length + uptoBulk d + 1
  | (_, d) => uptoBulk d + 1
 end
def uptoSmall : (H : Type) → List (DataW H) → Bool := fun _ ds => decide (uptoBulkAll ds ≤ 1048576)
def OpenSpec.upto (s : _root_.Go.ChangeSpec) : _root_.Go.OpenSpec := { _root_.Go.OpenSpec.ofChange s with cond := some uptoSmall }

/-- 'pentimentolaw16.PullEnds', WHERE WHAT IT READS IS OF BULK AT MOST 1048576: true; the input reads as it did. -/
def pullEndsUptoRow : OpenClaim := { program := "ytaciecbbiplgiaa", sum := "300cb409beed023f1b196b05d443479e3a7cb5dbd0f8a5623a643ec7a3406672", func := "pentimento/pentimentolaw16.PullEnds", spec := "pullEnds", unfollowed := true, recurses := true, apart := false, narrowed := true }
def PullEndsUptoSaid : Prop := pullEndsUptoRow.holds Try.pinned (OpenSpec.upto pullEndsSpec)

/-- 'pentimentolaw16.PullNext', WHERE WHAT IT READS IS OF BULK AT MOST 1048576: true; the input reads as it did. -/
def pullNextUptoRow : OpenClaim := { program := "ytaciecbbiplgiaa", sum := "300cb409beed023f1b196b05d443479e3a7cb5dbd0f8a5623a643ec7a3406672", func := "pentimento/pentimentolaw16.PullNext", spec := "pullNext", unfollowed := true, recurses := true, apart := false, narrowed := true }
def PullNextUptoSaid : Prop := pullNextUptoRow.holds Try.pinned (OpenSpec.upto pullNextSpec)

/-- 'pentimentolaw16.PullSame', WHERE WHAT IT READS IS OF BULK AT MOST 1048576: true; the input reads as it did. -/
def pullSameUptoRow : OpenClaim := { program := "ytaciecbbiplgiaa", sum := "300cb409beed023f1b196b05d443479e3a7cb5dbd0f8a5623a643ec7a3406672", func := "pentimento/pentimentolaw16.PullSame", spec := "pullSame", unfollowed := true, recurses := true, apart := false, narrowed := true }
def PullSameUptoSaid : Prop := pullSameUptoRow.holds Try.pinned (OpenSpec.upto pullSameSpec)

/-- 'pentimentolaw16.PullStops', WHERE WHAT IT READS IS OF BULK AT MOST 1048576: true; the input reads as it did. -/
def pullStopsUptoRow : OpenClaim := { program := "ytaciecbbiplgiaa", sum := "300cb409beed023f1b196b05d443479e3a7cb5dbd0f8a5623a643ec7a3406672", func := "pentimento/pentimentolaw16.PullStops", spec := "pullStops", unfollowed := true, recurses := true, apart := false, narrowed := true }
def PullStopsUptoSaid : Prop := pullStopsUptoRow.holds Try.pinned (OpenSpec.upto pullStopsSpec)

end Rows
end Go.Proofs.Ytaciecbbiplgiaa
