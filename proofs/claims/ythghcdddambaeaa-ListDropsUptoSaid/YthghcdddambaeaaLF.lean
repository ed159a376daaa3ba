/-
  The document's list: Find, Add.
-/
import Derived.Test.YthghcdddambaeaaLE
set_option linter.unusedVariables false
set_option linter.unusedSimpArgs false
set_option maxRecDepth 10000
namespace Go.Proofs.Ythghcdddambaeaa
open Go.RowKit Go.Proofs

theorem ixL_map {α β : Type} (f : α → β) (p : β → Bool) (L : List α) : ixL p (L.map f) = ixL (fun x => p (f x)) L := by
  unfold ixL
  rw [List.findIdx?_map]
  rfl
theorem fndR (r : List RBup) (nm : List UInt8) : fnd (r.map ownOf) nm = ixL (fun b => decide (rNm b = nm)) r := ixL_map ownOf _ r
theorem findR_spec (r : List RBup) (nm : List UInt8) (hr : r.length ≤ 4294967296) : Fn Try.prog 24 [vL uRB r, vS nm] [] [] (vI (fnd (r.map ownOf) nm)) [] := by
  rw [fndR]
  refine Fn.of tblOK [] _ _ _ _ _ Try.func24 rfl rfl (by kernel_rfl) (by kernel_rfl) rfl (drawOK tblOK) rfl ?_
  show TrQ _ _ _ _ _ _ _
  refine TrQ.loop tblOK (drawOK tblOK) [] (by kernel_rfl) (X := Nat) (fun k => [(0, vL uRB r), (1, vS nm), (5, vI (k : Nat))]) (fun _ => []) (fun k => k ≤ r.length ∧ ∀ (i : Nat) b, i < k → r[i]? = some b → decide (rNm b = nm) = false) (fun k => r.length - k) 0 ⟨Nat.zero_le _, fun i b h => absurd h (Nat.not_lt_zero _)⟩ ?_ ?_
  · exact Le.sub ⟨rfl, rfl, rfl, trivial⟩ trivial
  rintro k ⟨hk, hp⟩
  refine ⟨fun h => ?_, fun h => ?_⟩
  · have h1 : k < r.length := by
      have h : (k : Int) < (r.length : Int) := of_decide_eq_true h
      omega
    refine ⟨by omega, r[k], lget_at rfl h1, ?_⟩
    refine ⟨fun h => ?_, fun h => ?_⟩
    · exact ⟨_, _, _, Le.refl _ _, rfl, (ixL_at (p := fun b => decide (rNm b = nm)) h1 hp h).symm, trivial, rfl⟩
    · refine ⟨by omega, k + 1, ⟨by omega, prefix_step (p := fun b => decide (rNm b = nm) = false) h1 hp h⟩, by omega, ?_⟩
      exact Le.sub ⟨rfl, rfl, rfl, trivial⟩ trivial
  · have h1 : ¬ k < r.length := by
      have h : ¬ (k : Int) < (r.length : Int) := of_decide_eq_false h
      omega
    exact ⟨_, _, _, Le.refl _ _, rfl, (ixL_none (p := fun b => decide (rNm b = nm)) fun i b hi hb => hp i b (by omega) hb).symm, trivial, rfl⟩
/-- The document's list behind Add. -/
def addR (r : List RBup) (b : RBup) : List RBup := if addE (r.map ownOf) (ownOf b) = 0 then r ++ [b] else r
theorem addR_map (r : List RBup) (b : RBup) : (addR r b).map ownOf = addL (r.map ownOf) (ownOf b) := by
  unfold addR addL
  split
  · simp
  · rfl
def vAddR (l : List RBup) (e : Int) : SV := .tup [.one (.d (.lst uRB l)), .one (.d (.int .i64 e))]
set_option maxRecDepth 100000 in
set_option maxHeartbeats 2000000 in
theorem addR_spec (r : List RBup) (b : RBup) (hr : r.length ≤ 1000000) (hn : (rNm b).length ≤ 4294967296) (hl : (rPc b).length ≤ 1000000) (hp : ∀ p, p ∈ rPc b → (rB p).length ≤ 4294967296) :
    Fn Try.prog 22 [vL uRB r, rbV b] [] [] (vAddR (addR r b) (addE (r.map ownOf) (ownOf b))) [] := by
  have hno : ∀ e, addE (r.map ownOf) (ownOf b) = e → e ≠ 0 → addR r b = r := fun e h1 h2 => by unfold addR; rw [if_neg (by omega)]
  have hrl : (r.map ownOf).length = r.length := List.length_map _
  have hf1 := findR_spec r (rNm b) (by omega)
  have hf2 := findR_spec r (rPa b) (by omega)
  have hbits : ∀ (k : Nat) (hk : k < r.length), lget (r.map ownOf) k = some (ownOf r[k]) := fun k hk => by
    unfold lget
    rw [List.getElem?_map, List.getElem?_eq_getElem hk]
    rfl
  have hE0 : addE (r.map ownOf) (ownOf b) = if (!rightB (ownOf b) || decide (0 ≤ fnd (r.map ownOf) (rNm b)) || decide (64 ≤ (r.length : Int))) = true then 1
      else if (!decide (rPa b = []) && decide (fnd (r.map ownOf) (rPa b) < 0)) = true then 181
      else if (!decide (rPa b = []) && !decide ((match lget (r.map ownOf) (fnd (r.map ownOf) (rPa b)).toNat with | some x => bBits x | none => rBits b) = rBits b)) = true then 1 else 0 := by
    rw [← hrl]; rfl
  have hfc : fnd (r.map ownOf) (rPa b) = -1 ∨ ∃ k, k < r.length ∧ fnd (r.map ownOf) (rPa b) = (k : Nat) := by
    rcases ixL_cases (fun x => decide (bNm x = rPa b)) (r.map ownOf) with ⟨h, _⟩ | ⟨k, x, h, hx, _⟩
    · exact .inl h
    · exact .inr ⟨k, by have := (List.getElem?_eq_some_iff.1 hx).1; omega, h⟩
  have hR : addE (r.map ownOf) (ownOf b) = 0 → addR r b = r ++ [b] := fun h => by unfold addR; rw [if_pos h]
  generalize addE (r.map ownOf) (ownOf b) = E at *
  generalize addR r b = R at *
  generalize hF1 : fnd (r.map ownOf) (rNm b) = f1 at *
  generalize hF2 : fnd (r.map ownOf) (rPa b) = f2 at *
  refine Fn.of tblOK [] _ _ _ _ _ Try.func22 rfl rfl (by kernel_rfl) (by kernel_rfl) rfl (drawOK tblOK) rfl ?_
  refine ⟨rfl, ?_⟩
  refine ⟨_, _, _, _, rightR_spec b hn hl hp, trivial, rfl, ?_⟩
  refine ⟨fun h => ?_, fun h1 => ?_⟩
  · have h : (!rightB (ownOf b)) = true := h
    rw [h] at hE0
    rw [hno 1 hE0 (by omega), hE0]
    exact ⟨_, _, _, Le.refl _ _, rfl, ⟨rfl, rfl, trivial⟩, trivial, rfl⟩
  refine ⟨_, _, _, _, hf1, trivial, rfl, ?_⟩
  refine ⟨fun h => ?_, fun h2 => ?_⟩
  · rw [show decide (0 ≤ f1) = true from h] at hE0
    simp only [Bool.or_true, Bool.true_or, if_true] at hE0
    rw [hno 1 hE0 (by omega), hE0]
    exact ⟨_, _, _, Le.refl _ _, rfl, ⟨rfl, rfl, trivial⟩, trivial, rfl⟩
  refine ⟨fun h => ?_, fun h3 => ?_⟩
  · rw [show decide (64 ≤ (r.length : Int)) = true from h] at hE0
    simp only [Bool.or_true, if_true] at hE0
    rw [hno 1 hE0 (by omega), hE0]
    exact ⟨_, _, _, Le.refl _ _, rfl, ⟨rfl, rfl, trivial⟩, trivial, rfl⟩
  rw [show (!rightB (ownOf b)) = false from h1, show decide (0 ≤ f1) = false from h2, show decide (64 ≤ (r.length : Int)) = false from h3] at hE0
  simp only [Bool.or_false, Bool.false_eq_true, if_false] at hE0
  refine ⟨_, _, _, _, hf2, trivial, rfl, ?_⟩
  refine ⟨fun h4 => ?a, fun h4 => ?b⟩
  case' a =>
    rw [show (!decide (rPa b = [])) = true from h4] at hE0
    simp only [Bool.true_and] at hE0
    refine ⟨fun h => ?_, fun h5 => ?_⟩
    · rw [show decide (f2 < 0) = true from h, if_pos rfl] at hE0
      rw [hno 181 hE0 (by omega), hE0]
      exact ⟨_, _, _, Le.refl _ _, rfl, ⟨rfl, rfl, trivial⟩, trivial, rfl⟩
    rw [show decide (f2 < 0) = false from h5, if_neg (by simp)] at hE0
    have h5 : ¬ f2 < 0 := of_decide_eq_false h5
    obtain ⟨k, hk, rfl⟩ : ∃ k, k < r.length ∧ f2 = (k : Nat) := by
      rcases hfc with h | h
      · omega
      · exact h
    rw [Int.toNat_natCast, hbits k hk] at hE0
    refine ⟨fun h6 => ?_, fun h6 => absurd (h4.symm.trans h6) (by simp)⟩
    refine ⟨by omega, r[k], lget_at rfl hk, ?_⟩
    refine ⟨rfl, fun h => ?_, fun h => ?_⟩
    · rw [show (!decide (bBits (ownOf r[k]) = rBits b)) = true from h, if_pos rfl] at hE0
      rw [hno 1 hE0 (by omega), hE0]
      exact ⟨_, _, _, Le.refl _ _, rfl, ⟨rfl, rfl, trivial⟩, trivial, rfl⟩
    rw [show (!decide (bBits (ownOf r[k]) = rBits b)) = false from h, if_neg (by simp)] at hE0
    clear h h6 h5
  case' b =>
    rw [show (!decide (rPa b = [])) = false from h4] at hE0
    simp only [Bool.false_and, Bool.false_eq_true, if_false] at hE0
    refine ⟨fun h6 => absurd (h4.symm.trans h6) (by simp), fun h6 => ?_⟩
    refine ⟨rfl, ?_⟩
    clear h6
  all_goals
    rw [hR hE0, hE0]
    refine ⟨rfl, ?_⟩
    refine ⟨?_, rfl, ?_⟩
    · show 0 + r.length ≤ 4294967296
      omega
    refine ⟨?_, rfl, ?_⟩
    · show ([] ++ r).length + 1 ≤ 4294967296
      rw [List.nil_append]; omega
    exact ⟨_, _, _, Le.frz 56 rfl, rfl, ⟨rfl, rfl, trivial⟩, trivial, rfl⟩
end Go.Proofs.Ythghcdddambaeaa
