/-
  slices.Equal of bytes.
-/
import Derived.Test.YthghcdddambaeaaSt2
set_option linter.unusedVariables false
set_option linter.unusedSimpArgs false
set_option maxRecDepth 10000
namespace Go.Proofs.Ythghcdddambaeaa
open Go.RowKit Go.Proofs
@[reducible] def eqKb (x y : List UInt8) (i : Nat) : KL := [(0, vL .u8 x), (1, vL .u8 y), (12, vI (x.length : Nat)), (13, vI (i : Nat))]
theorem take_eq {x y : List UInt8} {i : Nat} (hx : i < x.length) (hy : i < y.length) (h : x.take i = y.take i) (he : x[i] = y[i]) : x.take (i + 1) = y.take (i + 1) := by
  rw [List.take_succ_eq_append_getElem hx, List.take_succ_eq_append_getElem hy, h, he]
theorem eqB_fn (x y : List UInt8) (hx : x.length ≤ 4294967296) (hy : y.length ≤ 4294967296) : Fn Try.prog 145 [vL .u8 x, vL .u8 y] [] [] (vB (decide (x = y))) [] := by
  refine Fn.of tblOK [] _ _ _ _ _ Try.func145 rfl rfl (by kernel_rfl) (by kernel_rfl) rfl (drawOK tblOK) rfl ?_
  refine ⟨fun h => ?_, fun h => ?_⟩
  · have h : (!decide ((x.length : Int) = (y.length : Nat))) = true := h
    have hne : x ≠ y := fun e => by rw [e] at h; simp at h
    rw [decide_eq_false hne]
    exact ⟨_, _, _, Le.refl _ _, rfl, rfl, trivial, rfl⟩
  have h : (!decide ((x.length : Int) = (y.length : Nat))) = false := h
  have hl : x.length = y.length := by simp at h; omega
  show TrQ _ _ _ _ _ _ _
  refine TrQ.loop tblOK (drawOK tblOK) [] (by kernel_rfl) (X := Nat) (eqKb x y) (fun _ => []) (fun i => i ≤ x.length ∧ x.take i = y.take i) (fun i => x.length - i) 0 ⟨Nat.zero_le _, rfl⟩ ?_ ?_
  · exact Le.sub ⟨rfl, rfl, rfl, rfl, trivial⟩ trivial
  rintro i ⟨hi, ht⟩
  refine ⟨fun h2 => ?_, fun h2 => ?_⟩
  · have h2 : decide ((i : Int) < (x.length : Int)) = true := h2
    have hi1 : i < x.length := by simpa using h2
    have hi2 : i < y.length := by omega
    refine ⟨by omega, x[i], lgAt (n := i) hi1, ?_⟩
    refine ⟨by omega, y[i], lgAt (n := i) hi2, ?_⟩
    refine ⟨rfl, fun h3 => ?_, fun h3 => ?_⟩
    · have h3 : (!decide ((UInt8.toNat x[i] : Int) = (UInt8.toNat y[i] : Nat))) = true := h3
      have hne : x ≠ y := fun e => by
        subst e
        simp at h3
      rw [decide_eq_false hne]
      exact ⟨_, _, _, Le.refl _ _, rfl, rfl, trivial, rfl⟩
    · have h3 : (!decide ((UInt8.toNat x[i] : Int) = (UInt8.toNat y[i] : Nat))) = false := h3
      have he : x[i] = y[i] := by
        have h4 : (UInt8.toNat x[i] : Int) = (UInt8.toNat y[i] : Nat) := by simpa using h3
        exact UInt8.toNat_inj.1 (by omega)
      exact ⟨by omega, i + 1, ⟨by omega, take_eq hi1 hi2 ht he⟩, by omega, Le.sub ⟨rfl, rfl, rfl, rfl, trivial⟩ trivial⟩
  · have h2 : decide ((i : Int) < (x.length : Int)) = false := h2
    have hi1 : i = x.length := by simp at h2; omega
    subst hi1
    have he : x = y := by
      rw [List.take_length] at ht
      rw [ht, hl, List.take_length]
    rw [decide_eq_true he]
    exact ⟨_, _, _, Le.refl _ _, rfl, rfl, trivial, rfl⟩
end Go.Proofs.Ythghcdddambaeaa
