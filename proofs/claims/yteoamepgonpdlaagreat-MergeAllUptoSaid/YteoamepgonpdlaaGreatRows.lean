/-
  No cell of these rows narrows 'for every input' (looked for: loops, veiled, ifaces, maps, wideKeys, modest, calm, conditions, laid).
  DERIVED. THE GIVEN ROWS OF THIS SEAT. 3 by the template 'for every input the law returns true; each argument reads behind the call as it read before'; 0 by the template 'total and deterministic' (their statements: YteoamepgonpdlaaGreatTotals.lean).
  GIVEN WITH THE SEED: the statements are not yours to turn. If you find one false, say at which input.
  Laid BY PROGRAM, IN A SANDBOX (cutbox-rows.mjs): the forced cells as the released guide's own fill.sh prints them over the translation 6beb4fa56c4c1954… (all of the seat's roots in one cut). By AI agents, Wed Nov 11 2026. No macro, syntax, notation, axiom, sorry.
-/
import Derived.Test.YteoamepgonpdlaaGreatChecked
import GoSem.Claim
import GoSem.ClaimJoined
import GoSem.ClaimMapViews
import Derived.JoinedTies
import Derived.KernelRfl
namespace Go.Proofs.YteoamepgonpdlaaGreat
/- THE CELL 'sum', in the pinned program and in every row, IS THE sha256 OF THE DUMP (.gsa) THAT YteoamepgonpdlaaGreatProg.lean LOADS. Nothing in Lean hashes anything: it is a label: what it is worth is what the hold of that sum in a sandbox is worth. -/
noncomputable def Tryz.pinned : Pinned := { name := "yteoamepgonpdlaagreat", sum := "6beb4fa56c4c19547ab6f0b99c44de0d7594e447afe86a5b2f4a6c9e9d432b36", checked := Tryz.checked }
namespace Rows
def none {H : Type} : Left H := { results := [], args := [] }

/-- 'pentimentolaw14.ChainAll': WHATEVER THE INPUT: true; the input reads as it did. -/
def chainAllSpec : ChangeSpec := { name := "chainAll", fn := fun _ => fun
  | [d1, d2, d3] => { results := [.lit (.bool true)], args := [d1, d2, d3] }
  | _ => none }
def chainAllRow : OpenClaim := { program := "yteoamepgonpdlaagreat", sum := "6beb4fa56c4c19547ab6f0b99c44de0d7594e447afe86a5b2f4a6c9e9d432b36", func := "pentimento/pentimentolaw14.ChainAll", spec := "chainAll", unfollowed := true, recurses := true, apart := false }
def ChainAllSaid : Prop := chainAllRow.holds Tryz.pinned (OpenSpec.ofChange chainAllSpec)

/-- ITS FALSE NEIGHBOUR: 'it returns false'. Refute it at one input. -/
def chainAllWrong : ChangeSpec := { name := "chainAll", fn := fun _ => fun
  | [d1, d2, d3] => { results := [.lit (.bool false)], args := [d1, d2, d3] }
  | _ => none }
def ChainAllWrongFalsely : Prop := chainAllRow.holds Tryz.pinned (OpenSpec.ofChange chainAllWrong)

/-- 'pentimentolaw16.PullAll': WHATEVER THE INPUT: true; the input reads as it did. -/
def pullAllSpec : ChangeSpec := { name := "pullAll", fn := fun _ => fun
  | [d1, d2, d3] => { results := [.lit (.bool true)], args := [d1, d2, d3] }
  | _ => none }
def pullAllRow : OpenClaim := { program := "yteoamepgonpdlaagreat", sum := "6beb4fa56c4c19547ab6f0b99c44de0d7594e447afe86a5b2f4a6c9e9d432b36", func := "pentimento/pentimentolaw16.PullAll", spec := "pullAll", unfollowed := true, recurses := true, apart := false }
def PullAllSaid : Prop := pullAllRow.holds Tryz.pinned (OpenSpec.ofChange pullAllSpec)

/-- ITS FALSE NEIGHBOUR: 'it returns false'. Refute it at one input. -/
def pullAllWrong : ChangeSpec := { name := "pullAll", fn := fun _ => fun
  | [d1, d2, d3] => { results := [.lit (.bool false)], args := [d1, d2, d3] }
  | _ => none }
def PullAllWrongFalsely : Prop := pullAllRow.holds Tryz.pinned (OpenSpec.ofChange pullAllWrong)

/-- 'pentimentolaw15.MergeAll': WHATEVER THE INPUT: true; the input reads as it did. -/
def mergeAllSpec : ChangeSpec := { name := "mergeAll", fn := fun _ => fun
  | [d1, d2, d3] => { results := [.lit (.bool true)], args := [d1, d2, d3] }
  | _ => none }
def mergeAllRow : OpenClaim := { program := "yteoamepgonpdlaagreat", sum := "6beb4fa56c4c19547ab6f0b99c44de0d7594e447afe86a5b2f4a6c9e9d432b36", func := "pentimento/pentimentolaw15.MergeAll", spec := "mergeAll", unfollowed := true, recurses := true, apart := false }
def MergeAllSaid : Prop := mergeAllRow.holds Tryz.pinned (OpenSpec.ofChange mergeAllSpec)

/-- ITS FALSE NEIGHBOUR: 'it returns false'. Refute it at one input. -/
def mergeAllWrong : ChangeSpec := { name := "mergeAll", fn := fun _ => fun
  | [d1, d2, d3] => { results := [.lit (.bool false)], args := [d1, d2, d3] }
  | _ => none }
def MergeAllWrongFalsely : Prop := mergeAllRow.holds Tryz.pinned (OpenSpec.ofChange mergeAllWrong)

/- THE SECOND FORM. 'bulk': how many values and letters a reading holds, each counted each time it is reached (what is shared counts as often as it is met; a slice's spare places count too). A statement '..UptoSaid' is the law's where the arguments, and the package variables that the reading takes, are together of bulk at most 1048576: NARROWER than '..Said'. Prove '..Said' where nothing that the law and all that it calls make is longer than what came in: it says more and counts as full. Else prove '..UptoSaid'. A law counts once. -/
mutual
def uptoBulk {H : Type} : DataW H → Nat
  | .lit (.string bytes) => bytes.length + 1
  | .lit _ => 1
  | .nil => 1
  | .ptr d => uptoBulk d + 1
  | .slice elems spare => uptoBulkAll elems + uptoBulkAll spare + 1
  | .agg parts => uptoBulkAll parts + 1
  | .iface _ d => uptoBulk d + 1
  | .map entries => uptoBulkEntries entries + 1
  | .held _ => 1
def uptoBulkAll {H : Type} : List (DataW H) → Nat
  | [] => 0
  | d :: r => uptoBulk d + uptoBulkAll r
def uptoBulkEntries {H : Type} : List (Lit × DataW H) → Nat
  | [] => 0
  | x :: r => uptoBulkEntry x + uptoBulkEntries r
def uptoBulkEntry {H : Type} : Lit × DataW H → Nat
  | (.string bytes, d) => bytes.length + uptoBulk d + 1
  | (_, d) => uptoBulk d + 1
 end
def uptoSmall : (H : Type) → List (DataW H) → Bool := fun _ ds => decide (uptoBulkAll ds ≤ 1048576)
def OpenSpec.upto (s : _root_.Go.ChangeSpec) : _root_.Go.OpenSpec := { _root_.Go.OpenSpec.ofChange s with cond := some uptoSmall }

/-- 'pentimentolaw14.ChainAll', WHERE WHAT IT READS IS OF BULK AT MOST 1048576: true; the input reads as it did. -/
def chainAllUptoRow : OpenClaim := { program := "yteoamepgonpdlaagreat", sum := "6beb4fa56c4c19547ab6f0b99c44de0d7594e447afe86a5b2f4a6c9e9d432b36", func := "pentimento/pentimentolaw14.ChainAll", spec := "chainAll", unfollowed := true, recurses := true, apart := false, narrowed := true }
def ChainAllUptoSaid : Prop := chainAllUptoRow.holds Tryz.pinned (OpenSpec.upto chainAllSpec)

/-- 'pentimentolaw16.PullAll', WHERE WHAT IT READS IS OF BULK AT MOST 1048576: true; the input reads as it did. -/
def pullAllUptoRow : OpenClaim := { program := "yteoamepgonpdlaagreat", sum := "6beb4fa56c4c19547ab6f0b99c44de0d7594e447afe86a5b2f4a6c9e9d432b36", func := "pentimento/pentimentolaw16.PullAll", spec := "pullAll", unfollowed := true, recurses := true, apart := false, narrowed := true }
def PullAllUptoSaid : Prop := pullAllUptoRow.holds Tryz.pinned (OpenSpec.upto pullAllSpec)

/-- 'pentimentolaw15.MergeAll', WHERE WHAT IT READS IS OF BULK AT MOST 1048576: true; the input reads as it did. -/
def mergeAllUptoRow : OpenClaim := { program := "yteoamepgonpdlaagreat", sum := "6beb4fa56c4c19547ab6f0b99c44de0d7594e447afe86a5b2f4a6c9e9d432b36", func := "pentimento/pentimentolaw15.MergeAll", spec := "mergeAll", unfollowed := true, recurses := true, apart := false, narrowed := true }
def MergeAllUptoSaid : Prop := mergeAllUptoRow.holds Tryz.pinned (OpenSpec.upto mergeAllSpec)

end Rows
end Go.Proofs.YteoamepgonpdlaaGreat
