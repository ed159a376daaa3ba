/-
  The document's SameTexts and Right (layer 4).
-/
import Derived.Test.YthghcdddambaeaaFc
set_option linter.unusedVariables false
set_option linter.unusedSimpArgs false
set_option maxRecDepth 10000
namespace Go.Proofs.Ythghcdddambaeaa
open Go.RowKit Go.Proofs
theorem lgetAt {α : Type} {L : List α} {n : Nat} (h : n < L.length) : lget L n = some L[n] := List.getElem?_eq_getElem h
theorem sameT_spec (a b : List (List UInt8)) (hl : a.length ≤ 4294967296) : Fn Try.prog 47 [vL .str a, vL .str b] [] [] (vB (decide (a = b))) [] := by
  refine Fn.of tblOK [] _ _ _ _ _ Try.func47 rfl rfl (by kernel_rfl) (by kernel_rfl) rfl (drawOK tblOK) rfl ?_
  refine ⟨fun h => ?_, fun h => ?_⟩
  · refine ⟨_, _, _, Le.refl _ _, rfl, (show false = decide (a = b) from ?_), trivial, rfl⟩
    have hne : a.length ≠ b.length := fun e => by
      have h : (!decide ((a.length : Int) = (b.length : Int))) = true := h
      simp [e] at h
    exact (decide_eq_false fun e => hne (by rw [e])).symm
  have hlen : a.length = b.length := by
    have h : (!decide ((a.length : Int) = (b.length : Int))) = false := h
    simp at h
    omega
  show TrQ _ _ _ _ _ _ _
  refine TrQ.loop tblOK (drawOK tblOK) [] (by kernel_rfl) (X := Nat) (fun k => [(0, vL .str a), (1, vL .str b), (5, vI (k : Nat))]) (fun _ => []) (fun k => k ≤ a.length ∧ ∀ (i : Nat), i < k → a[i]? = b[i]?) (fun k => a.length - k) 0 ⟨Nat.zero_le _, fun i h => absurd h (Nat.not_lt_zero _)⟩ ?_ ?_
  · exact Le.sub ⟨rfl, rfl, rfl, trivial⟩ trivial
  intro k ⟨hk, hp⟩
  refine ⟨fun h => ?_, fun h => ?_⟩
  · have hk1 : k < a.length := by
      have h : decide ((k : Int) < (a.length : Int)) = true := h
      simpa using h
    have hk2 : k < b.length := by omega
    refine ⟨by omega, a[k], lgetAt (n := k) hk1, ?_⟩
    refine ⟨by omega, b[k], lgetAt (n := k) hk2, ?_⟩
    refine ⟨rfl, fun h2 => ?_, fun h2 => ?_⟩
    · refine ⟨_, _, _, Le.refl _ _, rfl, (show false = decide (a = b) from ?_), trivial, rfl⟩
      have h2 : (!decide (a[k] = b[k])) = true := h2
      refine (decide_eq_false fun e => ?_).symm
      subst e
      simp at h2
    · have h2 : (!decide (a[k] = b[k])) = false := h2
      have h3 : a[k] = b[k] := by simpa using h2
      refine ⟨by omega, k + 1, ⟨by omega, fun i hi => ?_⟩, by omega, Le.sub ⟨rfl, rfl, rfl, trivial⟩ trivial⟩
      rcases Nat.lt_or_ge i k with h4 | h4
      · exact hp i h4
      · have : i = k := by omega
        subst this
        rw [List.getElem?_eq_getElem hk1, List.getElem?_eq_getElem hk2, h3]
  · have h : decide ((k : Int) < (a.length : Int)) = false := h
    have hk2 : k = a.length := by simp at h; omega
    refine ⟨_, _, _, Le.refl _ _, rfl, (show true = decide (a = b) from ?_), trivial, rfl⟩
    refine (decide_eq_true ?_).symm
    apply List.ext_getElem?
    intro i
    rcases Nat.lt_or_ge i a.length with h4 | h4
    · exact hp i (by omega)
    · rw [List.getElem?_eq_none h4, List.getElem?_eq_none (by omega)]
end Go.Proofs.Ythghcdddambaeaa
