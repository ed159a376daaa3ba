/-
  Files: are there so few calls (the law's few)?
-/
import Derived.Test.YthghcdddambaeaaFd
set_option linter.unusedVariables false
set_option linter.unusedSimpArgs false
set_option maxRecDepth 10000
namespace Go.Proofs.Ythghcdddambaeaa
open Go.RowKit Go.Proofs
def totK (k : Kp) : Nat := (kL k).length + (kNm k).length
def tot1 (o : Op4) : Nat := (oB (pS o)).length + (oKeep (pS o)).length + (pName o).length + (pTo o).length
def tot (o : Op4) : Nat := tot1 o + ((pKeeps o).map totK).sum
def badN (o : Op4) : Bool := (decide (20 < pN o) && decide (pN o ≤ 4096)) || (decide (oKind (pS o) = 4) && (decide (20 < oN (pS o)) && decide (oN (pS o) ≤ 4096)))
def fewB (l : List Op4) : Bool := (l.all fun o => !badN o) && (decide (l.length ≤ 60) && decide ((l.map tot).sum ≤ 5000))
theorem sum_take {α : Type} (f : α → Nat) : ∀ (l : List α) (k : Nat), ((l.take k).map f).sum ≤ (l.map f).sum
  | [], k => by simp
  | a :: l, 0 => by simp
  | a :: l, k + 1 => by
    simp only [List.take_succ_cons, List.map_cons, List.sum_cons]
    have := sum_take f l k
    omega
theorem sum_take_succ {α : Type} (f : α → Nat) {l : List α} {k : Nat} (h : k < l.length) : ((l.take (k + 1)).map f).sum = ((l.take k).map f).sum + f l[k] := by
  rw [List.take_succ_eq_append_getElem h, List.map_append, List.sum_append]
  simp
def totTo (l : List Op4) (k : Nat) : Nat := ((l.take k).map tot).sum
theorem totTo_succ (l : List Op4) {k : Nat} (h : k < l.length) : totTo l (k + 1) = totTo l k + tot l[k] := sum_take_succ tot h
theorem few_bad {l : List Op4} {k : Nat} (h : k < l.length) (hb : badN l[k] = true) : fewB l = false := by
  have : (l.all fun o => !badN o) = false := by
    rw [Bool.eq_false_iff]
    intro h1
    have := List.all_eq_true.1 h1 _ (List.getElem_mem h)
    rw [hb] at this
    cases this
  rw [fewB, this]
  rfl
theorem few_step {l : List Op4} {k : Nat} (h : k < l.length) (hp : ∀ (i : Nat) o, i < k → l[i]? = some o → badN o = false) (hb : badN l[k] = false) : ∀ (i : Nat) o, i < k + 1 → l[i]? = some o → badN o = false := fun i o hi ho => by
  rcases Nat.lt_or_ge i k with h4 | h4
  · exact hp i o h4 ho
  · have : i = k := by omega
    subst this
    rw [List.getElem?_eq_getElem h] at ho
    injection ho with ho
    rw [← ho]; exact hb
@[reducible] def fwK (l : List Op4) (k n : Nat) : KL := [(0, vL uO4 l), (3, vI (n : Nat)), (8, vL uO4 l), (9, vI (l.length : Nat)), (10, vI (k : Nat))]
@[reducible] def fw2K (l : List Op4) (k n : Nat) (o : Op4) (j : Nat) : KL := [(0, vL uO4 l), (3, vI (n : Nat)), (8, vL uO4 l), (9, vI (l.length : Nat)), (10, vI (k : Nat)), (5, vP 5), (34, vL uK (pKeeps o)), (35, vI ((pKeeps o).length : Nat)), (36, vI (j : Nat))]
set_option maxHeartbeats 1000000 in
theorem few4_fn (l : List Op4) (hl : l.length ≤ 1073741824) (ht : (l.map tot).sum ≤ 1073741824) (hkl : ∀ o, o ∈ l → (pKeeps o).length ≤ 1073741824) : Fn Try.prog 42 [vL uO4 l] [] [] (vB (fewB l)) [] := by
  refine Fn.of tblOK [] _ _ _ _ _ Try.func42 rfl rfl (by kernel_rfl) (by kernel_rfl) rfl (drawOK tblOK) rfl ?_
  show TrQ _ _ _ _ _ _ _
  refine TrQ.loop tblOK (drawOK tblOK) [] (by kernel_rfl) (X := Nat) (fun k => fwK l k (totTo l k)) (fun _ => []) (fun k => k ≤ l.length ∧ ∀ (i : Nat) o, i < k → l[i]? = some o → badN o = false) (fun k => l.length - k) 0 ⟨Nat.zero_le _, fun i o h => absurd h (Nat.not_lt_zero _)⟩ ?_ ?_
  · exact Le.sub ⟨rfl, rfl, rfl, rfl, rfl, trivial⟩ trivial
  rintro k ⟨hk, hp⟩
  refine ⟨fun h => ?_, fun h => ?_⟩
  · have hk1 : k < l.length := by
      have h : decide ((k : Int) < (l.length : Int)) = true := h
      simpa using h
    have hsum := sum_take tot l (k + 1)
    have hsum : totTo l (k + 1) ≤ (l.map tot).sum := hsum
    rw [totTo_succ l hk1] at hsum
    refine ⟨by omega, l[k], lgAt (n := k) hk1, ?_⟩
    have hkp := hkl _ (List.getElem_mem hk1)
    generalize ho : l[k] = o at hsum hkp
    have htot : tot o = tot1 o + ((pKeeps o).map totK).sum := rfl
    have ht1 : tot1 o = (oB (pS o)).length + (oKeep (pS o)).length + (pName o).length + (pTo o).length := rfl
    refine ⟨rfl, ?_⟩
    have q1 : -9223372036854775808 ≤ ((oB (pS o)).length : Int) + (oKeep (pS o)).length ∧ ((oB (pS o)).length : Int) + (oKeep (pS o)).length ≤ 9223372036854775807 := by omega
    have q2 : -9223372036854775808 ≤ ((oB (pS o)).length : Int) + (oKeep (pS o)).length + (pName o).length ∧ ((oB (pS o)).length : Int) + (oKeep (pS o)).length + (pName o).length ≤ 9223372036854775807 := by omega
    have q3 : -9223372036854775808 ≤ ((oB (pS o)).length : Int) + (oKeep (pS o)).length + (pName o).length + (pTo o).length ∧ ((oB (pS o)).length : Int) + (oKeep (pS o)).length + (pName o).length + (pTo o).length ≤ 9223372036854775807 := by omega
    have q4 : -9223372036854775808 ≤ (totTo l k : Int) + (((oB (pS o)).length : Int) + (oKeep (pS o)).length + (pName o).length + (pTo o).length) ∧ (totTo l k : Int) + (((oB (pS o)).length : Int) + (oKeep (pS o)).length + (pName o).length + (pTo o).length) ≤ 9223372036854775807 := by omega
    refine ⟨q1, q2, q3, q4, ?_⟩
    show TrQ _ _ _ _ _ _ _
    refine TrQ.loop tblOK (drawOK tblOK) [] (by kernel_rfl) (X := Nat) (fun j => fw2K l k (totTo l k + tot1 o + (((pKeeps o).take j).map totK).sum) o j) (fun _ => [(5, .cells (op4L o))]) (fun j => j ≤ (pKeeps o).length) (fun j => (pKeeps o).length - j) 0 (Nat.zero_le _) ?_ ?_
    · have e : (totTo l k : Int) + (((oB (pS o)).length : Int) + (oKeep (pS o)).length + (pName o).length + (pTo o).length) = ((totTo l k + tot1 o + (((pKeeps o).take 0).map totK).sum : Nat) : Int) := by
        rw [List.take_zero, List.map_nil, List.sum_nil]
        omega
      exact Le.sub ⟨rfl, e, rfl, rfl, rfl, rfl, rfl, rfl, rfl, trivial⟩ ⟨rfl, trivial⟩
    intro j hj
    refine ⟨fun h2 => ?_, fun h2 => ?_⟩
    · have hj1 : j < (pKeeps o).length := by
        have h2 : decide ((j : Int) < ((pKeeps o).length : Int)) = true := h2
        simpa using h2
      have hs2 := sum_take totK (pKeeps o) (j + 1)
      rw [sum_take_succ totK hj1] at hs2
      refine ⟨by omega, (pKeeps o)[j], lgAt (n := j) hj1, ?_⟩
      have e2 : totK (pKeeps o)[j] = (kL (pKeeps o)[j]).length + (kNm (pKeeps o)[j]).length := rfl
      refine ⟨rfl, ?_⟩
      have r1 : -9223372036854775808 ≤ ((kL (pKeeps o)[j]).length : Int) + (kNm (pKeeps o)[j]).length ∧ ((kL (pKeeps o)[j]).length : Int) + (kNm (pKeeps o)[j]).length ≤ 9223372036854775807 := by omega
      have r2 : -9223372036854775808 ≤ ((totTo l k + tot1 o + (((pKeeps o).take j).map totK).sum : Nat) : Int) + (((kL (pKeeps o)[j]).length : Int) + (kNm (pKeeps o)[j]).length) ∧ ((totTo l k + tot1 o + (((pKeeps o).take j).map totK).sum : Nat) : Int) + (((kL (pKeeps o)[j]).length : Int) + (kNm (pKeeps o)[j]).length) ≤ 9223372036854775807 := by omega
      refine ⟨r1, r2, ?_⟩
      refine ⟨by omega, j + 1, by omega, by omega, Le.sub ⟨rfl, ?_, rfl, rfl, rfl, rfl, rfl, rfl, rfl, trivial⟩ ⟨rfl, trivial⟩⟩
      show ((totTo l k + tot1 o + (((pKeeps o).take j).map totK).sum : Nat) : Int) + (((kL (pKeeps o)[j]).length : Int) + (kNm (pKeeps o)[j]).length) = _
      rw [sum_take_succ totK hj1]
      omega
    · have hj1 : j = (pKeeps o).length := by
        have h2 : decide ((j : Int) < ((pKeeps o).length : Int)) = false := h2
        simp at h2; omega
      subst hj1
      rw [List.take_length]
      have hn : totTo l k + tot1 o + ((pKeeps o).map totK).sum = totTo l k + tot o := by omega
      rw [hn]
      subst ho
      generalize ho : l[k] = o at *
      refine ⟨fun cA => ?_, fun cA => ?_⟩
      · have cA : decide (20 < pN o) = true := cA
        refine ⟨fun cB => ?_, fun cB => ?_⟩
        · have cB : decide (pN o ≤ 4096) = true := cB
          exact ⟨_, _, _, Le.refl _ _, rfl, (few_bad hk1 (show badN l[k] = true by rw [ho]; unfold badN; rw [cA, cB]; rfl)).symm, trivial, rfl⟩
        · have cB : decide (pN o ≤ 4096) = false := cB
          have hA : (decide (20 < pN o) && decide (pN o ≤ 4096)) = false := by rw [cA, cB]; rfl
          refine ⟨fun cC => ?_, fun cC => ?_⟩
          · have cC : decide (oKind (pS o) = 4) = true := cC
            refine ⟨fun cD => ?_, fun cD => ?_⟩
            · have cD : decide (20 < oN (pS o)) = true := cD
              refine ⟨fun cE => ?_, fun cE => ?_⟩
              · have cE : decide (oN (pS o) ≤ 4096) = true := cE
                exact ⟨_, _, _, Le.refl _ _, rfl, (few_bad hk1 (show badN l[k] = true by rw [ho]; unfold badN; rw [cC, cD, cE]; simp)).symm, trivial, rfl⟩
              · have cE : decide (oN (pS o) ≤ 4096) = false := cE
                have hbad : badN o = false := by unfold badN; rw [hA, cC, cD, cE]; rfl
                exact ⟨by omega, k + 1, ⟨by omega, few_step hk1 hp (by rw [ho]; exact hbad)⟩, by omega, Le.sub ⟨rfl, by rw [totTo_succ l hk1, ho]; rfl, rfl, rfl, rfl, trivial⟩ trivial⟩
            · have cD : decide (20 < oN (pS o)) = false := cD
              have hbad : badN o = false := by unfold badN; rw [hA, cC, cD]; rfl
              exact ⟨by omega, k + 1, ⟨by omega, few_step hk1 hp (by rw [ho]; exact hbad)⟩, by omega, Le.sub ⟨rfl, by rw [totTo_succ l hk1, ho]; rfl, rfl, rfl, rfl, trivial⟩ trivial⟩
          · have cC : decide (oKind (pS o) = 4) = false := cC
            have hbad : badN o = false := by unfold badN; rw [hA, cC]; rfl
            exact ⟨by omega, k + 1, ⟨by omega, few_step hk1 hp (by rw [ho]; exact hbad)⟩, by omega, Le.sub ⟨rfl, by rw [totTo_succ l hk1, ho]; rfl, rfl, rfl, rfl, trivial⟩ trivial⟩
      · have cA : decide (20 < pN o) = false := cA
        have hA : (decide (20 < pN o) && decide (pN o ≤ 4096)) = false := by rw [cA]; rfl
        refine ⟨fun cC => ?_, fun cC => ?_⟩
        · have cC : decide (oKind (pS o) = 4) = true := cC
          refine ⟨fun cD => ?_, fun cD => ?_⟩
          · have cD : decide (20 < oN (pS o)) = true := cD
            refine ⟨fun cE => ?_, fun cE => ?_⟩
            · have cE : decide (oN (pS o) ≤ 4096) = true := cE
              exact ⟨_, _, _, Le.refl _ _, rfl, (few_bad hk1 (show badN l[k] = true by rw [ho]; unfold badN; rw [cC, cD, cE]; simp)).symm, trivial, rfl⟩
            · have cE : decide (oN (pS o) ≤ 4096) = false := cE
              have hbad : badN o = false := by unfold badN; rw [hA, cC, cD, cE]; rfl
              exact ⟨by omega, k + 1, ⟨by omega, few_step hk1 hp (by rw [ho]; exact hbad)⟩, by omega, Le.sub ⟨rfl, by rw [totTo_succ l hk1, ho]; rfl, rfl, rfl, rfl, trivial⟩ trivial⟩
          · have cD : decide (20 < oN (pS o)) = false := cD
            have hbad : badN o = false := by unfold badN; rw [hA, cC, cD]; rfl
            exact ⟨by omega, k + 1, ⟨by omega, few_step hk1 hp (by rw [ho]; exact hbad)⟩, by omega, Le.sub ⟨rfl, by rw [totTo_succ l hk1, ho]; rfl, rfl, rfl, rfl, trivial⟩ trivial⟩
        · have cC : decide (oKind (pS o) = 4) = false := cC
          have hbad : badN o = false := by unfold badN; rw [hA, cC]; rfl
          exact ⟨by omega, k + 1, ⟨by omega, few_step hk1 hp (by rw [ho]; exact hbad)⟩, by omega, Le.sub ⟨rfl, by rw [totTo_succ l hk1, ho]; rfl, rfl, rfl, rfl, trivial⟩ trivial⟩
  · have hk2 : k = l.length := by
      have h : decide ((k : Int) < (l.length : Int)) = false := h
      simp at h; omega
    subst hk2
    have hall : (l.all fun o => !badN o) = true := List.all_eq_true.2 fun o ho => by
      obtain ⟨i, hi, rfl⟩ := List.getElem_of_mem ho
      rw [hp i _ hi (List.getElem?_eq_getElem hi)]
      rfl
    have htt : totTo l l.length = (l.map tot).sum := by unfold totTo; rw [List.take_length]
    refine ⟨fun c1 => ?_, fun c1 => ?_⟩
    · have c1 : decide ((l.length : Int) ≤ 60) = true := c1
      have c1 : decide (l.length ≤ 60) = true := decide_eq_true (by have := of_decide_eq_true c1; omega)
      refine ⟨_, _, _, Le.refl _ _, rfl, (show decide (((totTo l l.length : Nat) : Int) ≤ 5000) = fewB l from ?_), trivial, rfl⟩
      rw [fewB, hall, c1, htt, Bool.eq_iff_iff]
      simp
      omega
    · have c1 : decide ((l.length : Int) ≤ 60) = false := c1
      have c1 : decide (l.length ≤ 60) = false := decide_eq_false (by have := of_decide_eq_false c1; omega)
      refine ⟨_, _, _, Le.refl _ _, rfl, (show false = fewB l from ?_), trivial, rfl⟩
      rw [fewB, hall, c1]
      rfl
end Go.Proofs.Ythghcdddambaeaa
