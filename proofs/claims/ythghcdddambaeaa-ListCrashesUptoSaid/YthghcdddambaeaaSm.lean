/-
  The document's SameTexts and Right (layer 4).
-/
import Derived.Test.YthghcdddambaeaaFl
set_option linter.unusedVariables false
set_option linter.unusedSimpArgs false
set_option maxRecDepth 10000
namespace Go.Proofs.Ythghcdddambaeaa
open Go.RowKit Go.Proofs
theorem lgetAt {α : Type} {L : List α} {n : Nat} (h : n < L.length) : lget L n = some L[n] := List.getElem?_eq_getElem h
theorem sameT_spec (a b : List (List UInt8)) (hl : a.length ≤ 4294967296) : Fn Try.prog 47 [vL .str a, vL .str b] [] [] (vB (decide (a = b))) [] := by
  refine Fn.of tblOK [] _ _ _ _ _ Try.func47 rfl rfl (by kernel_rfl) (by kernel_rfl) rfl (drawOK tblOK) rfl ?_
  refine ⟨fun h => ?_, fun h => ?_⟩
  · refine ⟨_, _, _, Le.refl _ _, rfl, (show false = decide (a = b) from ?_), trivial, rfl⟩
    have hne : a.length ≠ b.length := fun e => by
      have h : (!decide ((a.length : Int) = (b.length : Int))) = true := h
      simp [e] at h
    exact (decide_eq_false fun e => hne (by rw [e])).symm
  have hlen : a.length = b.length := by
    have h : (!decide ((a.length : Int) = (b.length : Int))) = false := h
    simp at h
    omega
  show TrQ _ _ _ _ _ _ _
  refine TrQ.loop tblOK (drawOK tblOK) [] (by kernel_rfl) (X := Nat) (fun k => [(0, vL .str a), (1, vL .str b), (5, vI (k : Nat))]) (fun _ => []) (fun k => k ≤ a.length ∧ ∀ (i : Nat), i < k → a[i]? = b[i]?) (fun k => a.length - k) 0 ⟨Nat.zero_le _, fun i h => absurd h (Nat.not_lt_zero _)⟩ ?_ ?_
  · exact Le.sub ⟨rfl, rfl, rfl, trivial⟩ trivial
  intro k ⟨hk, hp⟩
  refine ⟨fun h => ?_, fun h => ?_⟩
  · have hk1 : k < a.length := by
      have h : decide ((k : Int) < (a.length : Int)) = true := h
      simpa using h
    have hk2 : k < b.length := by omega
    refine ⟨by omega, a[k], lgetAt (n := k) hk1, ?_⟩
    refine ⟨by omega, b[k], lgetAt (n := k) hk2, ?_⟩
    refine ⟨rfl, fun h2 => ?_, fun h2 => ?_⟩
    · refine ⟨_, _, _, Le.refl _ _, rfl, (show false = decide (a = b) from ?_), trivial, rfl⟩
      have h2 : (!decide (a[k] = b[k])) = true := h2
      refine (decide_eq_false fun e => ?_).symm
      subst e
      simp at h2
    · have h2 : (!decide (a[k] = b[k])) = false := h2
      have h3 : a[k] = b[k] := by simpa using h2
      refine ⟨by omega, k + 1, ⟨by omega, fun i hi => ?_⟩, by omega, Le.sub ⟨rfl, rfl, rfl, trivial⟩ trivial⟩
      rcases Nat.lt_or_ge i k with h4 | h4
      · exact hp i h4
      · have : i = k := by omega
        subst this
        rw [List.getElem?_eq_getElem hk1, List.getElem?_eq_getElem hk2, h3]
  · have h : decide ((k : Int) < (a.length : Int)) = false := h
    have hk2 : k = a.length := by simp at h; omega
    refine ⟨_, _, _, Le.refl _ _, rfl, (show true = decide (a = b) from ?_), trivial, rfl⟩
    refine (decide_eq_true ?_).symm
    apply List.ext_getElem?
    intro i
    rcases Nat.lt_or_ge i a.length with h4 | h4
    · exact hp i (by omega)
    · rw [List.getElem?_eq_none h4, List.getElem?_eq_none (by omega)]
/-! The document's Right (layer 4). -/
def signs : List UInt8 := [97, 98, 99, 100, 101, 102, 103, 104, 105, 106, 107, 108, 109, 110, 111, 112, 113, 114, 115, 116, 117, 118, 119, 120, 121, 122, 48, 49, 50, 51, 52, 53, 54, 55, 56, 57, 46, 45]
theorem signs_any (c : UInt8) : signs.any (fun x => decide (x = c)) = signB c := by
  have h : ∀ n : Fin 256, signs.any (fun x => decide (x = UInt8.ofNat n.val)) = signB (UInt8.ofNat n.val) := by decide
  have := h ⟨c.toNat, c.toNat_lt⟩
  simpa using this
theorem refRight_spec (s : List UInt8) (hs : s.length ≤ 4294967296) : Fn Try.prog 35 [vS s] [] [] (vB (nameOK s)) [] := by
  refine Fn.of tblOK [] _ _ _ _ _ Try.func35 rfl rfl (by kernel_rfl) (by kernel_rfl) rfl (drawOK tblOK) rfl ?_
  show TrQ _ _ _ _ _ _ _
  refine TrQ.loop tblOK (drawOK tblOK) [] (by kernel_rfl) (X := Nat) (fun k => [(0, vS s), (3, vS signs), (4, vI (k : Nat))]) (fun _ => []) (fun k => k ≤ s.length ∧ ∀ (i : Nat) c, i < k → s[i]? = some c → signB c = true) (fun k => s.length - k) 0 ⟨Nat.zero_le _, fun i c h => absurd h (Nat.not_lt_zero _)⟩ ?_ ?_
  · exact Le.sub ⟨rfl, rfl, rfl, trivial⟩ trivial
  intro k ⟨hk, hp⟩
  refine ⟨fun h => ?_, fun h => ?_⟩
  · have hk1 : k < s.length := by
      have h : decide ((k : Int) < (s.length : Int)) = true := h
      simpa using h
    show TrQ _ _ _ _ _ _ _
    refine TrQ.loop tblOK (drawOK tblOK) [] (by kernel_rfl) (X := Nat × Bool) (fun x => [(0, vS s), (3, vS signs), (4, vI (k : Nat)), (5, vB x.2), (6, vI (x.1 : Nat))]) (fun _ => []) (fun x => x.1 ≤ signs.length ∧ x.2 = (signs.take x.1).any fun y => decide (y = s[k])) (fun x => signs.length - x.1) (0, false) ⟨Nat.zero_le _, rfl⟩ ?_ ?_
    · exact Le.sub ⟨rfl, rfl, rfl, rfl, rfl, trivial⟩ trivial
    rintro ⟨j, fd⟩ ⟨hj, hfd⟩
    simp only at hj hfd
    refine ⟨fun h2 => ?_, fun h2 => ?_⟩
    · have hj1 : j < signs.length := by
        have h2 : decide ((j : Int) < (signs.length : Int)) = true := h2
        simpa using h2
      have hsl : signs.length = 38 := rfl
      have ht : signs.take (j + 1) = signs.take j ++ [signs[j]] := by simp
      refine ⟨by omega, signs[j], lgetAt (n := j) hj1, ?_⟩
      refine ⟨by omega, s[k], lgetAt (n := k) hk1, ?_⟩
      refine ⟨rfl, fun h3 => ?_, fun h3 => ?_⟩
      · refine ⟨by omega, (j + 1, true), ⟨by omega, ?_⟩, by omega, Le.sub ⟨rfl, rfl, rfl, rfl, rfl, trivial⟩ trivial⟩
        have h3 : decide ((UInt8.toNat signs[j] : Int) = (UInt8.toNat s[k] : Int)) = true := h3
        have h4 : signs[j] = s[k] := UInt8.toNat_inj.1 (by have := of_decide_eq_true h3; omega)
        show true = _
        rw [ht, List.any_append]
        simp [h4]
      · refine ⟨by omega, (j + 1, fd), ⟨by omega, ?_⟩, by omega, Le.sub ⟨rfl, rfl, rfl, rfl, rfl, trivial⟩ trivial⟩
        have h3 : decide ((UInt8.toNat signs[j] : Int) = (UInt8.toNat s[k] : Int)) = false := h3
        have h4 : signs[j] ≠ s[k] := fun e => by rw [e] at h3; simp at h3
        show fd = _
        rw [ht, List.any_append, hfd]
        simp [h4]
    · have hj1 : j = signs.length := by
        have h2 : decide ((j : Int) < (signs.length : Int)) = false := h2
        simp at h2; omega
      rw [hj1, List.take_length, signs_any] at hfd
      subst hfd
      refine ⟨fun h3 => ?_, fun h3 => ?_⟩
      · have h3 : (!signB s[k]) = true := h3
        refine ⟨_, _, _, Le.refl _ _, rfl, (show false = nameOK s from ?_), trivial, rfl⟩
        have : s.all signB = false := by
          rw [Bool.eq_false_iff]
          intro h4
          have := List.all_eq_true.1 h4 s[k] (List.getElem_mem _)
          rw [this] at h3
          cases h3
        simp [nameOK, this]
      · have h3 : (!signB s[k]) = false := h3
        refine ⟨by omega, k + 1, ⟨by omega, fun i c hi hc => ?_⟩, by omega, Le.sub ⟨rfl, rfl, rfl, trivial⟩ trivial⟩
        rcases Nat.lt_or_ge i k with h4 | h4
        · exact hp i c h4 hc
        · have : i = k := by omega
          subst this
          rw [List.getElem?_eq_getElem hk1] at hc
          injection hc with hc
          subst hc
          simpa using h3
  · have hk2 : k = s.length := by
      have h : decide ((k : Int) < (s.length : Int)) = false := h
      simp at h; omega
    have hall : s.all signB = true := List.all_eq_true.2 fun c hc => by
      obtain ⟨i, hi, rfl⟩ := List.getElem_of_mem hc
      exact hp i _ (by omega) (List.getElem?_eq_getElem hi)
    refine ⟨fun h1 => ?_, fun h1 => ?_⟩
    · have h1 : decide ((0 : Int) < (s.length : Int)) = true := h1
      refine ⟨_, _, _, Le.refl _ _, rfl, (show decide ((s.length : Int) < 16) = nameOK s from ?_), trivial, rfl⟩
      simp at h1
      have q1 : decide (1 ≤ s.length) = true := by simp; omega
      have q2 : decide ((s.length : Int) < 16) = decide (s.length ≤ 15) := by
        by_cases h9 : s.length ≤ 15
        · rw [decide_eq_true h9, decide_eq_true (by omega)]
        · rw [decide_eq_false h9, decide_eq_false (by omega)]
      rw [nameOK, hall, q1, q2]
      simp
    · have h1 : decide ((0 : Int) < (s.length : Int)) = false := h1
      refine ⟨_, _, _, Le.refl _ _, rfl, (show false = nameOK s from ?_), trivial, rfl⟩
      simp at h1
      simp [nameOK, h1]
end Go.Proofs.Ythghcdddambaeaa
