/-
  New, Last, Add.
-/
import Derived.Test.YthghcdddambaeaaL2
set_option linter.unusedVariables false
set_option linter.unusedSimpArgs false
set_option maxRecDepth 10000
namespace Go.Proofs.Ythghcdddambaeaa
open Go.RowKit Go.Proofs

theorem new_spec : Fn Try.prog 15 [] [] [1001, 1002] (vP 1001) (lstB []) := by
  refine Fn.of tblOK [] _ _ _ _ _ Try.func15 rfl rfl (by kernel_rfl) (by kernel_rfl) rfl (drawOK tblOK) rfl ?_
  refine ⟨rfl, ?_⟩
  exact ⟨_, _, _, Le.trans (Le.nilc 2 0 1002 43 uB rfl rfl rfl) (Le.ren 2 1001 rfl), rfl, rfl, ⟨rfl, rfl, trivial⟩, rfl⟩
/-- The last one's name. -/
def lastN (L : List Bup) : List UInt8 := match L.getLast? with
  | some b => bNm b
  | none => []
theorem last_spec (L : List Bup) (hL : L.length ≤ 4294967296) : Fn Try.prog 20 [vP 1001] (lstB L) [] (vS (lastN L)) (lstB L) := by
  refine Fn.of tblOK [] _ _ _ _ _ Try.func20 rfl rfl (by kernel_rfl) (by kernel_rfl) rfl (drawOK tblOK) rfl ?_
  refine ⟨fun h => ?_, fun h => ?_⟩
  · have h0 : L.length = 0 := by simp only [decide_eq_true_eq] at h; omega
    refine ⟨_, _, _, Le.refl _ _, rfl, ?_, ⟨rfl, rfl, trivial⟩, rfl⟩
    rw [List.eq_nil_of_length_eq_zero h0]
    rfl
  · have h0 : 0 < L.length := by simp only [decide_eq_false_iff_not] at h; omega
    have hlt : L.length - 1 < L.length := by omega
    refine ⟨by omega, ⟨by omega, by omega⟩, ?_⟩
    refine ⟨L[L.length - 1], lget_at (k := L.length - 1) (by omega) hlt, rfl, ?_⟩
    refine ⟨_, _, _, Le.refl _ _, rfl, ?_, ⟨rfl, rfl, trivial⟩, rfl⟩
    show bNm L[L.length - 1] = lastN L
    unfold lastN
    rw [List.getLast?_eq_getElem?, List.getElem?_eq_getElem hlt]
/-- What Add answers. -/
def addE (L : List Bup) (b : Bup) : Int :=
  if (!rightB b || decide (0 ≤ fnd L (bNm b)) || decide (64 ≤ (L.length : Int))) = true then 1
  else if (!decide (bPa b = []) && decide (fnd L (bPa b) < 0)) = true then 181
  else if (!decide (bPa b = []) && !decide ((match lget L (fnd L (bPa b)).toNat with | some x => bBits x | none => bBits b) = bBits b)) = true then 1 else 0
def addL (L : List Bup) (b : Bup) : List Bup := if addE L b = 0 then L ++ [b] else L
theorem addE_right {L : List Bup} {b : Bup} (h : (!rightB b) = true) : addE L b = 1 := by unfold addE; rw [if_pos (by simp [h])]
theorem addE_there {L : List Bup} {b : Bup} (h : decide (0 ≤ fnd L (bNm b)) = true) : addE L b = 1 := by unfold addE; rw [if_pos (by simp [h])]
theorem addE_many {L : List Bup} {b : Bup} (h : decide (64 ≤ (L.length : Int)) = true) : addE L b = 1 := by unfold addE; rw [if_pos (by simp [h])]
theorem rightB_small {b : Bup} (h : rightB b = true) : 0 ≤ bBits b ∧ bBits b ≤ 3 ∧ 0 ≤ bSz b ∧ bSz b ≤ 256 := by
  simp only [rightB, Bool.and_eq_true, decide_eq_true_eq] at h
  omega
/-- The blocks of a list behind Add: its backups have a new number. -/
@[reducible] def lstC (L : List Bup) : BL := [(1001, .cells [.own 1003]), (1003, .row 43 uB L)]
theorem take_step {α : Type} {l : List α} {k : Nat} (h : k < l.length) : l.take k ++ [l[k]] = l.take (k + 1) := by
  rw [List.take_add_one, List.getElem?_eq_getElem h]
  rfl
/-- Add's loop: k pieces are copied, into the row r. -/
@[reducible] def addK (b : Bup) (r k : Nat) : KL := [(0, vP 1001), (3, vP 3), (6, vOwn r), (58, vL uP (bPc b)), (59, vI ((bPc b).length : Nat)), (60, vI (k : Nat))]
@[reducible] def addB (L : List Bup) (b : Bup) (r : Nat) (l : List Pie) : BL := [(r, .row 111 uP l), (3, .cells (bkL b)), (1001, .cells [.own 1002]), (1002, .row 43 uB L)]
set_option maxHeartbeats 1000000 in
theorem add_spec (L : List Bup) (b : Bup) (hL : L.length ≤ 1000000) (hn : (bNm b).length ≤ 4294967296) (hl : (bPc b).length ≤ 1000000) (hp : ∀ p, p ∈ bPc b → (pB p).length ≤ 4294967296) :
    Fn Try.prog 18 [vP 1001, bkV b] (lstB L) [1003] (vI (addE L b)) (lstC (addL L b)) := by
  have hno : ∀ e, addE L b = e → e ≠ 0 → addL L b = L := fun e h1 h2 => by unfold addL; rw [if_neg (by omega)]
  refine Fn.of tblOK [14] _ _ _ _ _ Try.func18 rfl rfl (by kernel_rfl) (by kernel_rfl) rfl (drawOK tblOK) rfl ?_
  refine ⟨rfl, ?_⟩
  refine ⟨_, _, _, _, find_spec (bPa b) L (by omega), ⟨rfl, rfl, trivial⟩, rfl, ?_⟩
  refine ⟨_, _, _, _, right_spec b hn (by omega) hp, trivial, rfl, ?_⟩
  refine ⟨fun h => ?_, fun h1 => ?_⟩
  · rw [hno 1 (addE_right h) (by omega), addE_right h]
    exact ⟨_, _, _, Le.ren 1002 1003 rfl, rfl, rfl, ⟨rfl, rfl, trivial⟩, rfl⟩
  refine ⟨_, _, _, _, find_spec (bNm b) L (by omega), ⟨rfl, rfl, trivial⟩, rfl, ?_⟩
  refine ⟨fun h => ?_, fun h2 => ?_⟩
  · rw [hno 1 (addE_there h) (by omega), addE_there h]
    exact ⟨_, _, _, Le.ren 1002 1003 rfl, rfl, rfl, ⟨rfl, rfl, trivial⟩, rfl⟩
  refine ⟨fun h => ?_, fun h3 => ?_⟩
  · rw [hno 1 (addE_many h) (by omega), addE_many h]
    exact ⟨_, _, _, Le.ren 1002 1003 rfl, rfl, rfl, ⟨rfl, rfl, trivial⟩, rfl⟩
  have hE : addE L b = if (!decide (bPa b = []) && decide (fnd L (bPa b) < 0)) = true then 181 else if (!decide (bPa b = []) && !decide ((match lget L (fnd L (bPa b)).toNat with | some x => bBits x | none => bBits b) = bBits b)) = true then 1 else 0 := by
    unfold addE
    rw [if_neg (by rw [show (!rightB b) = false from h1, show decide (0 ≤ fnd L (bNm b)) = false from h2, show decide (64 ≤ (L.length : Int)) = false from h3]; simp)]
  have hr : rightB b = true := by simpa using h1
  obtain ⟨r1, r2, r3, r4⟩ := rightB_small hr
  have hadd : addE L b = 0 → addL L b = L ++ [b] := fun h => by unfold addL; rw [if_pos h]
  refine ⟨fun h4 => ?a, fun h4 => ?b⟩
  case' a =>
    refine ⟨fun h => ?_, fun h5 => ?_⟩
    · rw [show (!decide (bPa b = [])) = true from h4, show decide (fnd L (bPa b) < 0) = true from h] at hE
      have hE : addE L b = 181 := hE
      rw [hno 181 hE (by omega), hE]
      exact ⟨_, _, _, Le.ren 1002 1003 rfl, rfl, rfl, ⟨rfl, rfl, trivial⟩, rfl⟩
    have h6 : ¬ fnd L (bPa b) < 0 := by simpa using h5
    have hk : ∃ k : Nat, ∃ hk : k < L.length, fnd L (bPa b) = (k : Nat) := by
      rcases ixL_cases (fun x => decide (bNm x = bPa b)) L with ⟨h, _⟩ | ⟨k, x, h, hx, _⟩
      · exact absurd (show fnd L (bPa b) < 0 by unfold fnd; omega) h6
      · exact ⟨k, (List.getElem?_eq_some_iff.1 hx).1, h⟩
    obtain ⟨k, hk, hfk⟩ := hk
    rw [show (!decide (bPa b = [])) = true from h4, show decide (fnd L (bPa b) < 0) = false from h5, lget_at hfk hk] at hE
    have hE : addE L b = if (!decide (bBits L[k] = bBits b)) = true then 1 else 0 := hE
    refine ⟨fun h7 => ?_, fun h7 => absurd h4 (by rw [show (!decide (bPa b = [])) = false from h7]; simp)⟩
    refine ⟨⟨by omega, by omega⟩, L[k], lget_at hfk hk, ?_⟩
    refine ⟨rfl, fun h => ?_, fun h => ?_⟩
    · rw [show (!decide (bBits L[k] = bBits b)) = true from h] at hE
      have hE : addE L b = 1 := hE
      rw [hno 1 hE (by omega), hE]
      exact ⟨_, _, _, Le.ren 1002 1003 rfl, rfl, rfl, ⟨rfl, rfl, trivial⟩, rfl⟩
    rw [show (!decide (bBits L[k] = bBits b)) = false from h] at hE
    have hA : addE L b = 0 := hE
    clear hE h
  case' b =>
    rw [show (!decide (bPa b = [])) = false from h4] at hE
    have hA : addE L b = 0 := hE
    clear hE
    refine ⟨fun h7 => absurd h4 (by rw [show (!decide (bPa b = [])) = true from h7]; simp), fun h7 => ?_⟩
    refine ⟨rfl, ?_⟩
  all_goals
    rw [hadd hA, hA]
    show TrQ _ _ _ _ _ _ _
    refine TrQ.loop tblOK (drawOK tblOK) [14] (by kernel_rfl) (X := Nat) (addK b 2002) (fun k => addB L b 2002 ((bPc b).take k)) (fun k => k ≤ (bPc b).length) (fun k => (bPc b).length - k) 0 (Nat.zero_le _) ?_ ?_
    · exact Le.trans (Le.nil 6 2002 111 uP rfl rfl) (Le.sub ⟨rfl, rfl, rfl, rfl, rfl, rfl, trivial⟩ ⟨rfl, rfl, rfl, rfl, trivial⟩)
    intro j hj
    refine ⟨fun h => ?_, fun h => ?_⟩
    · have hj1 : j < (bPc b).length := by simpa using h
      have hpl := hp _ (List.getElem_mem hj1)
      refine ⟨by omega, (bPc b)[j], lget_at rfl hj1, rfl, ?_⟩
      refine ⟨_, _, _, _, clone_fn _ hpl, trivial, rfl, ?_⟩
      refine ⟨?_, rfl, rfl, ?_⟩
      · show ((bPc b).take j).length + 1 ≤ 4294967296
        rw [List.length_take]; omega
      · refine ⟨by omega, j + 1, hj1, by omega, ?_⟩
        exact Le.trans (Le.sub (K' := addK b 72 (j + 1)) (B' := addB L b 72 ((bPc b).take (j + 1))) ⟨rfl, rfl, rfl, rfl, rfl, rfl, trivial⟩ ⟨congrArg (fun l => some (Ch.row _ uP l)) (take_step hj1), rfl, rfl, rfl, trivial⟩) (Le.ren 72 2002 rfl)
    · have hj1 : j = (bPc b).length := by have : ¬ j < (bPc b).length := by simpa using h
                                          omega
      subst hj1
      show TrQ _ _ _ _ _ _ _
      refine TrQ.go tblOK (drawOK tblOK) [] (by kernel_rfl) (Le.trans (Le.sub (K' := addK b 2002 (bPc b).length) (B' := addB L b 2002 (bPc b)) ⟨rfl, rfl, rfl, rfl, rfl, rfl, trivial⟩ ⟨congrArg (fun l => some (Ch.row _ uP l)) List.take_length, rfl, rfl, rfl, trivial⟩) (Le.frz 2002 rfl)) ?_
      refine ⟨?_, rfl, rfl, ?_⟩
      · show L.length + 1 ≤ 4294967296
        omega
      · exact ⟨_, _, _, Le.ren 83 1003 rfl, rfl, rfl, ⟨rfl, rfl, trivial⟩, rfl⟩
end Go.Proofs.Ythghcdddambaeaa
