/-
  The document's list: many, right, Find, Add.
-/
import Derived.Test.YthghcdddambaeaaLC
set_option linter.unusedVariables false
set_option linter.unusedSimpArgs false
set_option maxRecDepth 10000
namespace Go.Proofs.Ythghcdddambaeaa
open Go.RowKit Go.Proofs

theorem many_spec (bi : Int) (h0 : 0 ≤ bi) (h1 : bi ≤ 3) : Fn Try.prog 65 [vI bi] [] [] (vI (clB bi)) [] := by
  refine Fn.of tblOK [] _ _ _ _ _ Try.func65 rfl rfl (by kernel_rfl) (by kernel_rfl) rfl (drawOK tblOK) rfl ?_
  show TrQ _ _ _ _ _ _ _
  refine TrQ.loop tblOK (drawOK tblOK) [] (by kernel_rfl) (X := Nat) (fun i => [(0, vI bi), (3, vI (16 * ((2 ^ i : Nat) : Int))), (4, vI (i : Nat))]) (fun _ => []) (fun i => (i : Int) ≤ bi) (fun i => 3 - i) 0 h0 ?_ ?_
  · exact Le.sub ⟨rfl, rfl, rfl, trivial⟩ trivial
  intro i hi
  refine ⟨fun h => ?_, fun h => ?_⟩
  · have hi1 : (i : Int) < bi := of_decide_eq_true h
    have hp : 1 ≤ ((2 ^ i : Nat) : Int) ∧ ((2 ^ i : Nat) : Int) ≤ 4 := by
      have : i = 0 ∨ i = 1 ∨ i = 2 := by omega
      rcases this with rfl | rfl | rfl <;> decide
    have h2 : 2 ^ (i + 1) = 2 ^ i + 2 ^ i := by rw [Nat.pow_succ]; omega
    refine ⟨by omega, by omega, i + 1, hi1, by omega, ?_⟩
    refine Le.sub ⟨rfl, ?_, rfl, trivial⟩ trivial
    show (_ : Int) = _
    rw [h2]
    omega
  · have hi1 : ¬ (i : Int) < bi := of_decide_eq_false h
    have : i = bi.toNat := by omega
    subst this
    exact ⟨_, _, _, Le.refl _ _, rfl, rfl, trivial, rfl⟩

def signsL : List UInt8 := [97, 98, 99, 100, 101, 102, 103, 104, 105, 106, 107, 108, 109, 110, 111, 112, 113, 114, 115, 116, 117, 118, 119, 120, 121, 122, 48, 49, 50, 51, 52, 53, 54, 55, 56, 57, 46, 45]
theorem sign_any (c : UInt8) : signB c = signsL.any (fun x => decide (x = c)) := by
  have h : ∀ n : Fin 256, signB (UInt8.ofNat n.val) = signsL.any (fun x => decide (x = UInt8.ofNat n.val)) := by decide +kernel
  have := h ⟨c.toNat, c.toNat_lt⟩
  simpa using this
theorem any_take {α : Type} (p : α → Bool) {l : List α} {k : Nat} (h : k < l.length) : (l.take (k + 1)).any p = ((l.take k).any p || p l[k]) := by
  rw [← take_step h, List.any_append]
  simp
theorem all_take {α : Type} (p : α → Bool) {l : List α} {k : Nat} (h : k < l.length) : (l.take (k + 1)).all p = ((l.take k).all p && p l[k]) := by
  rw [← take_step h, List.all_append]
  simp
theorem nameOK_bad {s : List UInt8} {i : Nat} (hi : i < s.length) (h : signB s[i] = false) : nameOK s = false := by
  unfold nameOK
  rw [show s.all signB = false by
    rw [List.all_eq_false]
    exact ⟨s[i], List.getElem_mem hi, by simp [h]⟩]
  simp
set_option maxHeartbeats 1000000 in
theorem right04_spec (s : List UInt8) (hs : s.length ≤ 4294967296) : Fn Try.prog 35 [vS s] [] [] (vB (nameOK s)) [] := by
  have hsl : signsL.length = 38 := rfl
  refine Fn.of tblOK [] _ _ _ _ _ Try.func35 rfl rfl (by kernel_rfl) (by kernel_rfl) rfl (drawOK tblOK) rfl ?_
  show TrQ _ _ _ _ _ _ _
  refine TrQ.loop tblOK (drawOK tblOK) [] (by kernel_rfl) (X := Nat) (fun i => [(0, vS s), (3, vS signsL), (4, vI (i : Nat))]) (fun _ => []) (fun i => i ≤ s.length ∧ (s.take i).all signB = true) (fun i => s.length - i) 0 ⟨Nat.zero_le _, rfl⟩ ?_ ?_
  · exact Le.sub ⟨rfl, rfl, rfl, trivial⟩ trivial
  rintro i ⟨hi, ha⟩
  refine ⟨fun h => ?_, fun h => ?_⟩
  · have hi1 : i < s.length := by simpa using h
    show TrQ _ _ _ _ _ _ _
    refine TrQ.loop tblOK (drawOK tblOK) [] (by kernel_rfl) (X := Nat) (fun k => [(0, vS s), (3, vS signsL), (4, vI (i : Nat)), (5, vB ((signsL.take k).any fun x => decide (x = s[i]))), (6, vI (k : Nat))]) (fun _ => []) (fun k => k ≤ signsL.length) (fun k => signsL.length - k) 0 (Nat.zero_le _) ?_ ?_
    · exact Le.sub ⟨rfl, rfl, rfl, rfl, rfl, trivial⟩ trivial
    intro k hk
    refine ⟨fun h => ?_, fun h => ?_⟩
    · have hk1 : k < signsL.length := by
        have h : (k : Int) < (signsL.length : Int) := of_decide_eq_true h
        omega
      refine ⟨by omega, signsL[k], lget_at rfl hk1, by omega, s[i], lget_at rfl hi1, ?_⟩
      have ht := any_take (fun x => decide (x = s[i])) hk1
      refine ⟨rfl, fun h => ?_, fun h => ?_⟩
      · refine ⟨by omega, k + 1, hk1, by omega, ?_⟩
        rw [ht, show decide (signsL[k] = s[i]) = true from decide_eq_true (UInt8.toNat_inj.1 (Int.ofNat.inj (of_decide_eq_true h)))]
        refine Le.sub ⟨rfl, rfl, rfl, ?_, rfl, trivial⟩ trivial
        show true = _
        simp
      · refine ⟨by omega, k + 1, hk1, by omega, ?_⟩
        rw [ht, show decide (signsL[k] = s[i]) = false from decide_eq_false (fun e => of_decide_eq_false h (by rw [e]))]
        refine Le.sub ⟨rfl, rfl, rfl, ?_, rfl, trivial⟩ trivial
        show (_ : Bool) = _
        simp
    · have hk1 : k = signsL.length := by
        have h : ¬ (k : Int) < (signsL.length : Int) := of_decide_eq_false h
        omega
      subst hk1
      rw [List.take_length, ← sign_any]
      refine ⟨fun h => ?_, fun h => ?_⟩
      · have h : (!signB s[i]) = true := h
        exact ⟨_, _, _, Le.refl _ _, rfl, (nameOK_bad hi1 (by simpa using h)).symm, trivial, rfl⟩
      · have h : (!signB s[i]) = false := h
        refine ⟨by omega, i + 1, ⟨hi1, by rw [all_take signB hi1, ha]; simpa using h⟩, by omega, ?_⟩
        exact Le.sub ⟨rfl, rfl, rfl, trivial⟩ trivial
  · have hi1 : i = s.length := by have : ¬ i < s.length := by simpa using h
                                  omega
    subst hi1
    rw [List.take_length] at ha
    have hr : nameOK s = (decide (1 ≤ s.length) && decide (s.length ≤ 15)) := by unfold nameOK; rw [ha]; simp
    rw [hr]
    refine ⟨fun h => ?_, fun h => ?_⟩
    · have h : 0 < (s.length : Int) := of_decide_eq_true h
      refine ⟨_, _, _, Le.refl _ _, rfl, ?_, trivial, rfl⟩
      show decide ((s.length : Int) < 16) = _
      rw [Bool.eq_iff_iff]; simp; omega
    · have h : ¬ 0 < (s.length : Int) := of_decide_eq_false h
      refine ⟨_, _, _, Le.refl _ _, rfl, ?_, trivial, rfl⟩
      show false = _
      rw [Eq.comm]; simp; omega
end Go.Proofs.Ythghcdddambaeaa
