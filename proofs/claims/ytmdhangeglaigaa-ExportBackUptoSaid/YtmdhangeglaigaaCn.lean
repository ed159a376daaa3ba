/-
  Counts: how many have each cluster.
-/
import Derived.Test.YtmdhangeglaigaaCd
import Derived.Test.YtmdhangeglaigaaAr
set_option linter.unusedVariables false
set_option linter.unusedSimpArgs false
set_option maxRecDepth 10000
namespace Go.Proofs.Ytmdhangeglaigaa
open Go.RowKit Go.Proofs
@[reducible] def cntB (l : List Int) : BL := [(1001, .cells [.own 1002]), (1002, .row 3 uI l)]
def cntO (l : List Int) : Ob := .grp 1001 (cntB l)
theorem intInf : (Try.prog.info? 3).map (fun i => (i.zero, i.size, i.bytes)) = some (some (.int .i64 0), 1, 8) := by kernel_rfl
theorem cnew_bad (n : Int) (h : ¬ (0 ≤ n ∧ n ≤ 512)) : Fn Try.prog 33 [vI n] [] [] (.tup [vNilP, vErr 1]) [] := by
  refine Fn.of tblOK [] _ _ _ _ _ Try.func33 rfl rfl (by kernel_rfl) (by kernel_rfl) rfl (drawOK tblOK) rfl ?_
  refine ⟨fun h1 => ?_, fun h1 => ?_⟩
  · exact ⟨_, _, _, Le.refl _ _, rfl, ⟨rfl, rfl, trivial⟩, trivial, rfl⟩
  refine ⟨fun h2 => ?_, fun h2 => ?_⟩
  · exact ⟨_, _, _, Le.refl _ _, rfl, ⟨rfl, rfl, trivial⟩, trivial, rfl⟩
  · exfalso
    simp at h1 h2
    omega
theorem cnew_ok (n : Int) (h0 : 0 ≤ n) (hn : n ≤ 512) : Fn Try.prog 33 [vI n] [] [1001] (.tup [.one (.ptr 1001 0), vErr 0]) [(1001, .obj (cntO (List.replicate n.toNat (0 : Int))))] := by
  obtain ⟨inf, i1, i2, i3, i4⟩ := info_parts intInf
  refine Fn.of tblOK [] _ _ _ _ _ Try.func33 rfl rfl (by kernel_rfl) (by kernel_rfl) rfl (drawOK tblOK) rfl ?_
  refine ⟨fun h1 => ?_, fun h1 => ?_⟩
  · exfalso; simp at h1; omega
  refine ⟨fun h2 => ?_, fun h2 => ?_⟩
  · exfalso; simp at h2; omega
  refine ⟨_, _, fun N => opOK_makeInts (d := 11) rfl Try.underlying103 i1 i2 i3 i4 rfl rfl h0 (by omega) N, rfl, ?_⟩
  refine ⟨rfl, ?_⟩
  exact ⟨_, _, _, (Le.ren 13 1001 rfl).trans ((Le.ren 11 1002 rfl).trans (Le.close 1001 (cntB (List.replicate n.toNat (0 : Int))) (o := cntO (List.replicate n.toNat (0 : Int))) ⟨rfl, rfl, trivial⟩ rfl fun _ _ _ _ h => h)), rfl, ⟨rfl, rfl, trivial⟩, ⟨rfl, trivial⟩, rfl⟩
def zeros (l : List Int) : Nat := (l.filter fun x => decide (x = 0)).length
theorem zeros_le (l : List Int) : zeros l ≤ l.length := List.length_filter_le _ _
theorem zeros_step {l : List Int} {k : Nat} (h : k < l.length) : zeros (l.take (k + 1)) = zeros (l.take k) + (if l[k] = 0 then 1 else 0) := by
  unfold zeros
  rw [List.take_succ_eq_append_getElem h, List.filter_append, List.length_append]
  congr 1
  by_cases e : l[k] = 0
  · simp [e]
  · simp [e]
@[reducible] def cfK (l : List Int) (k : Nat) : KL := [(3, vI (zeros (l.take k) : Nat)), (9, vOwn 1002), (10, vI (l.length : Nat)), (11, vI (k : Nat))]
@[reducible] def ctK (l : List Int) (k : Nat) : KL := [(0, vP 1001), (9, vI (l.length : Nat)), (10, vI (k : Nat))]
end Go.Proofs.Ytmdhangeglaigaa
