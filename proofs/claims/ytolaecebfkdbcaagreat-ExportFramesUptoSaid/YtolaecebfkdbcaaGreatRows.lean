/-
  No cell of these rows narrows 'for every input' (looked for: loops, veiled, ifaces, maps, wideKeys, modest, calm, conditions, laid).
  DERIVED. THE GIVEN ROWS OF THIS SEAT. 4 by the template 'for every input the law returns true; each argument reads behind the call as it read before'; 0 by the template 'total and deterministic' (their statements: YtolaecebfkdbcaaGreatTotals.lean).
  GIVEN WITH THE SEED: the statements are not yours to turn. If you find one false, say at which input.
  Laid BY PROGRAM, IN A SANDBOX (cutbox-rows.mjs): the forced cells as the released guide's own fill.sh prints them over the translation 4f8888c2104623cf… (all of the seat's roots in one cut). By AI agents, Wed Nov 11 2026. No macro, syntax, notation, axiom, sorry.
-/
import Derived.Test.YtolaecebfkdbcaaGreatChecked
import GoSem.Claim
import GoSem.ClaimJoined
import GoSem.ClaimMapViews
import Derived.JoinedTies
import Derived.KernelRfl
namespace Go.Proofs.YtolaecebfkdbcaaGreat
/- THE CELL 'sum', in the pinned program and in every row, IS THE sha256 OF THE DUMP (.gsa) THAT YtolaecebfkdbcaaGreatProg.lean LOADS. Nothing in Lean hashes anything: it is a label: what it is worth is what the hold of that sum in a sandbox is worth. -/
noncomputable def Tryz.pinned : Pinned := { name := "ytolaecebfkdbcaagreat", sum := "4f8888c2104623cf48b51e214a82b8f5cce18a5ed58465393c2c172fce7ea05f", checked := Tryz.checked }
namespace Rows
def none {H : Type} : Left H := { results := [], args := [] }

/-- 'pentimentolaw20.ExportFrames': WHATEVER THE INPUT: true; the input reads as it did. -/
def exportFramesSpec : ChangeSpec := { name := "exportFrames", fn := fun _ => fun
  | [d1, d2, d3] => { results := [.lit (.bool true)], args := [d1, d2, d3] }
  | _ => none }
def exportFramesRow : OpenClaim := { program := "ytolaecebfkdbcaagreat", sum := "4f8888c2104623cf48b51e214a82b8f5cce18a5ed58465393c2c172fce7ea05f", func := "pentimento/pentimentolaw20.ExportFrames", spec := "exportFrames", inPlace := ["maps.clone"], unfollowed := true, recurses := true, apart := false }
def ExportFramesSaid : Prop := exportFramesRow.holds Tryz.pinned (OpenSpec.ofChange exportFramesSpec)

/-- ITS FALSE NEIGHBOUR: 'it returns false'. Refute it at one input. -/
def exportFramesWrong : ChangeSpec := { name := "exportFrames", fn := fun _ => fun
  | [d1, d2, d3] => { results := [.lit (.bool false)], args := [d1, d2, d3] }
  | _ => none }
def ExportFramesWrongFalsely : Prop := exportFramesRow.holds Tryz.pinned (OpenSpec.ofChange exportFramesWrong)

/-- 'pentimentolaw20.ExportPulls': WHATEVER THE INPUT: true; the input reads as it did. -/
def exportPullsSpec : ChangeSpec := { name := "exportPulls", fn := fun _ => fun
  | [d1, d2, d3] => { results := [.lit (.bool true)], args := [d1, d2, d3] }
  | _ => none }
def exportPullsRow : OpenClaim := { program := "ytolaecebfkdbcaagreat", sum := "4f8888c2104623cf48b51e214a82b8f5cce18a5ed58465393c2c172fce7ea05f", func := "pentimento/pentimentolaw20.ExportPulls", spec := "exportPulls", inPlace := ["maps.clone"], unfollowed := true, recurses := true, apart := false }
def ExportPullsSaid : Prop := exportPullsRow.holds Tryz.pinned (OpenSpec.ofChange exportPullsSpec)

/-- ITS FALSE NEIGHBOUR: 'it returns false'. Refute it at one input. -/
def exportPullsWrong : ChangeSpec := { name := "exportPulls", fn := fun _ => fun
  | [d1, d2, d3] => { results := [.lit (.bool false)], args := [d1, d2, d3] }
  | _ => none }
def ExportPullsWrongFalsely : Prop := exportPullsRow.holds Tryz.pinned (OpenSpec.ofChange exportPullsWrong)

/-- 'pentimentolaw20.ExportOnce': WHATEVER THE INPUT: true; the input reads as it did. -/
def exportOnceSpec : ChangeSpec := { name := "exportOnce", fn := fun _ => fun
  | [d1, d2, d3] => { results := [.lit (.bool true)], args := [d1, d2, d3] }
  | _ => none }
def exportOnceRow : OpenClaim := { program := "ytolaecebfkdbcaagreat", sum := "4f8888c2104623cf48b51e214a82b8f5cce18a5ed58465393c2c172fce7ea05f", func := "pentimento/pentimentolaw20.ExportOnce", spec := "exportOnce", inPlace := ["maps.clone"], unfollowed := true, recurses := true, apart := false }
def ExportOnceSaid : Prop := exportOnceRow.holds Tryz.pinned (OpenSpec.ofChange exportOnceSpec)

/-- ITS FALSE NEIGHBOUR: 'it returns false'. Refute it at one input. -/
def exportOnceWrong : ChangeSpec := { name := "exportOnce", fn := fun _ => fun
  | [d1, d2, d3] => { results := [.lit (.bool false)], args := [d1, d2, d3] }
  | _ => none }
def ExportOnceWrongFalsely : Prop := exportOnceRow.holds Tryz.pinned (OpenSpec.ofChange exportOnceWrong)

/-- 'pentimentolaw20.ExportEnds': WHATEVER THE INPUT: true; the input reads as it did. -/
def exportEndsSpec : ChangeSpec := { name := "exportEnds", fn := fun _ => fun
  | [d1, d2, d3] => { results := [.lit (.bool true)], args := [d1, d2, d3] }
  | _ => none }
def exportEndsRow : OpenClaim := { program := "ytolaecebfkdbcaagreat", sum := "4f8888c2104623cf48b51e214a82b8f5cce18a5ed58465393c2c172fce7ea05f", func := "pentimento/pentimentolaw20.ExportEnds", spec := "exportEnds", inPlace := ["maps.clone"], unfollowed := true, recurses := true, apart := false }
def ExportEndsSaid : Prop := exportEndsRow.holds Tryz.pinned (OpenSpec.ofChange exportEndsSpec)

/-- ITS FALSE NEIGHBOUR: 'it returns false'. Refute it at one input. -/
def exportEndsWrong : ChangeSpec := { name := "exportEnds", fn := fun _ => fun
  | [d1, d2, d3] => { results := [.lit (.bool false)], args := [d1, d2, d3] }
  | _ => none }
def ExportEndsWrongFalsely : Prop := exportEndsRow.holds Tryz.pinned (OpenSpec.ofChange exportEndsWrong)

/- THE SECOND FORM. 'bulk': how many values and letters a reading holds, each counted each time it is reached (what is shared counts as often as it is met; a slice's spare places count too). A statement '..UptoSaid' is the law's where the arguments, and the package variables that the reading takes, are together of bulk at most 1048576: NARROWER than '..Said'. Prove '..Said' where nothing that the law and all that it calls make is longer than what came in: it says more and counts as full. Else prove '..UptoSaid'. A law counts once. -/
mutual
def uptoBulk {H : Type} : DataW H → Nat
  | .lit (.string bytes) => bytes.length + 1
  | .lit _ => 1
  | .nil => 1
  | .ptr d => uptoBulk d + 1
  | .slice elems spare => uptoBulkAll elems + uptoBulkAll spare + 1
  | .agg parts => uptoBulkAll parts + 1
  | .iface _ d => uptoBulk d + 1
  | .map entries => uptoBulkEntries entries + 1
  | .held _ => 1
def uptoBulkAll {H : Type} : List (DataW H) → Nat
  | [] => 0
  | d :: r => uptoBulk d + uptoBulkAll r
def uptoBulkEntries {H : Type} : List (Lit × DataW H) → Nat
  | [] => 0
  | x :: r => uptoBulkEntry x + uptoBulkEntries r
def uptoBulkEntry {H : Type} : Lit × DataW H → Nat
  | (.string bytes, d) => bytes.length + uptoBulk d + 1
  | (_, d) => uptoBulk d + 1
 end
def uptoSmall : (H : Type) → List (DataW H) → Bool := fun _ ds => decide (uptoBulkAll ds ≤ 1048576)
def OpenSpec.upto (s : _root_.Go.ChangeSpec) : _root_.Go.OpenSpec := { _root_.Go.OpenSpec.ofChange s with cond := some uptoSmall }

/-- 'pentimentolaw20.ExportFrames', WHERE WHAT IT READS IS OF BULK AT MOST 1048576: true; the input reads as it did. -/
def exportFramesUptoRow : OpenClaim := { program := "ytolaecebfkdbcaagreat", sum := "4f8888c2104623cf48b51e214a82b8f5cce18a5ed58465393c2c172fce7ea05f", func := "pentimento/pentimentolaw20.ExportFrames", spec := "exportFrames", inPlace := ["maps.clone"], unfollowed := true, recurses := true, apart := false, narrowed := true }
def ExportFramesUptoSaid : Prop := exportFramesUptoRow.holds Tryz.pinned (OpenSpec.upto exportFramesSpec)

/-- 'pentimentolaw20.ExportPulls', WHERE WHAT IT READS IS OF BULK AT MOST 1048576: true; the input reads as it did. -/
def exportPullsUptoRow : OpenClaim := { program := "ytolaecebfkdbcaagreat", sum := "4f8888c2104623cf48b51e214a82b8f5cce18a5ed58465393c2c172fce7ea05f", func := "pentimento/pentimentolaw20.ExportPulls", spec := "exportPulls", inPlace := ["maps.clone"], unfollowed := true, recurses := true, apart := false, narrowed := true }
def ExportPullsUptoSaid : Prop := exportPullsUptoRow.holds Tryz.pinned (OpenSpec.upto exportPullsSpec)

/-- 'pentimentolaw20.ExportOnce', WHERE WHAT IT READS IS OF BULK AT MOST 1048576: true; the input reads as it did. -/
def exportOnceUptoRow : OpenClaim := { program := "ytolaecebfkdbcaagreat", sum := "4f8888c2104623cf48b51e214a82b8f5cce18a5ed58465393c2c172fce7ea05f", func := "pentimento/pentimentolaw20.ExportOnce", spec := "exportOnce", inPlace := ["maps.clone"], unfollowed := true, recurses := true, apart := false, narrowed := true }
def ExportOnceUptoSaid : Prop := exportOnceUptoRow.holds Tryz.pinned (OpenSpec.upto exportOnceSpec)

/-- 'pentimentolaw20.ExportEnds', WHERE WHAT IT READS IS OF BULK AT MOST 1048576: true; the input reads as it did. -/
def exportEndsUptoRow : OpenClaim := { program := "ytolaecebfkdbcaagreat", sum := "4f8888c2104623cf48b51e214a82b8f5cce18a5ed58465393c2c172fce7ea05f", func := "pentimento/pentimentolaw20.ExportEnds", spec := "exportEnds", inPlace := ["maps.clone"], unfollowed := true, recurses := true, apart := false, narrowed := true }
def ExportEndsUptoSaid : Prop := exportEndsUptoRow.holds Tryz.pinned (OpenSpec.upto exportEndsSpec)

end Rows
end Go.Proofs.YtolaecebfkdbcaaGreat
