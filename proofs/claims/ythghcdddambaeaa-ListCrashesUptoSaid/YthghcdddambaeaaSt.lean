/-
  The store: what it has; New, Len, Used, Loose, Room, inside.
-/
import Derived.Test.YthghcdddambaeaaTbl
import Derived.Test.YthghcdddambaeaaPure
import Derived.Test.YthghcdddambaeaaGrp
set_option linter.unusedVariables false
set_option linter.unusedSimpArgs false
set_option maxRecDepth 10000
namespace Go.Proofs.Ythghcdddambaeaa
open Go.RowKit Go.Proofs
/-- A sector; a write of one. -/
@[reducible] def uX : U := .arr 16 .u8
@[reducible] def uW : U := .pr (.int .i64) uX
@[reducible] def uI : U := .int .i64
/-- A store: its sectors, its room, what is safe, what is seen, what is loose. -/
structure StM where
  n : Int
  room : Int
  safe : List (El uI × El uX)
  seen : List (El uI × El uX)
  loose : List (El uW)
@[reducible] def stB (c d e f : Nat) (m : StM) : BL := [(c, .cells [.d (.int .i64 m.n), .d (.int .i64 m.room), .mp d, .mp e, .own f]), (d, .map uI uX m.safe), (e, .map uI uX m.seen), (f, .row 198 uW m.loose)]
def stO (m : StM) : Ob := .grp 1001 (stB 1001 1002 1003 1004 m)

def srightN (n : Int) : Bool := decide (0 ≤ n) && decide (n ≤ 4096)
theorem sright_spec (n : Int) : Fn Try.prog 115 [vI n] [] [] (vB (srightN n)) [] := by
  refine Fn.of tblOK [] _ _ _ _ _ Try.func115 rfl rfl (by kernel_rfl) (by kernel_rfl) rfl (drawOK tblOK) rfl ?_
  refine ⟨fun h => ?_, fun h => ?_⟩
  · exact ⟨_, _, _, Le.refl _ _, rfl, (show decide (n ≤ 4096) = srightN n by simp at h; simp [srightN, h]), trivial, rfl⟩
  · exact ⟨_, _, _, Le.refl _ _, rfl, (show false = srightN n by simp at h; simp [srightN]; omega), trivial, rfl⟩
@[reducible] def vNilP : SC := .one (.raw (.pointer none))
@[reducible] def vErr (n : Int) : SC := .one (.d (.int .i64 n))
theorem snew_bad (n r : Int) (h : (srightN n && decide (0 ≤ r)) = false) : Fn Try.prog 76 [vI n, vI r] [] [] (.tup [vNilP, vErr 1]) [] := by
  refine Fn.of tblOK [] _ _ _ _ _ Try.func76 rfl rfl (by kernel_rfl) (by kernel_rfl) rfl (drawOK tblOK) rfl ?_
  refine ⟨_, _, _, _, sright_spec n, trivial, rfl, ?_⟩
  refine ⟨fun h1 => ?_, fun h1 => ?_⟩
  · exact ⟨_, _, _, Le.refl _ _, rfl, ⟨rfl, rfl, trivial⟩, trivial, rfl⟩
  refine ⟨fun h2 => ?_, fun h2 => ?_⟩
  · exact ⟨_, _, _, Le.refl _ _, rfl, ⟨rfl, rfl, trivial⟩, trivial, rfl⟩
  · exfalso
    simp at h1 h2 h
    have := h h1
    omega
theorem snew_ok (n r : Int) (h : (srightN n && decide (0 ≤ r)) = true) : Fn Try.prog 76 [vI n, vI r] [] [1001] (.tup [.one (.ptr 1001 0), vErr 0]) [(1001, .obj (stO ⟨n, r, [], [], []⟩))] := by
  refine Fn.of tblOK [] _ _ _ _ _ Try.func76 rfl rfl (by kernel_rfl) (by kernel_rfl) rfl (drawOK tblOK) rfl ?_
  refine ⟨_, _, _, _, sright_spec n, trivial, rfl, ?_⟩
  simp only [Bool.and_eq_true, decide_eq_true_eq] at h
  refine ⟨fun h1 => ?_, fun h1 => ?_⟩
  · exfalso
    simp [h.1] at h1
  refine ⟨fun h2 => ?_, fun h2 => ?_⟩
  · exfalso
    simp at h2
    omega
  refine ⟨rfl, ?_⟩
  refine ⟨rfl, ?_⟩
  refine ⟨rfl, ?_⟩
  exact ⟨_, _, _, (Le.nilc 18 4 1004 198 uW rfl rfl rfl).trans ((Le.ren 18 1001 rfl).trans ((Le.ren 15 1002 rfl).trans ((Le.ren 16 1003 rfl).trans (Le.close 1001 (stB 1001 1002 1003 1004 ⟨n, r, [], [], []⟩) (o := stO ⟨n, r, [], [], []⟩) ⟨rfl, rfl, rfl, rfl, trivial⟩ rfl fun _ _ _ _ h => h)))), rfl, ⟨rfl, rfl, trivial⟩, ⟨rfl, trivial⟩, rfl⟩
end Go.Proofs.Ythghcdddambaeaa
