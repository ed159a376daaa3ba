/-
  few.
-/
import Derived.Test.YthghcdddambaeaaL7
set_option linter.unusedVariables false
set_option linter.unusedSimpArgs false
set_option maxRecDepth 10000
namespace Go.Proofs.Ythghcdddambaeaa
open Go.RowKit Go.Proofs

@[reducible] def uInt : U := .int .i64
/-- What is kept of a file; a call on a store; on files; on a list. -/
@[reducible] def uKp : U := .pr .str (.sl uInt)
@[reducible] def uSO : U := .pr uInt (.pr uInt (.pr uInt (.pr (.sl .u8) (.sl uInt))))
@[reducible] def uFO : U := .pr uInt (.pr uInt (.pr .str (.pr .str (.pr (.sl uKp) uSO))))
@[reducible] def uLO : U := .pr uInt (.pr uInt (.pr uRB (.pr .str uFO)))
abbrev LOp : Type := El uLO
@[reducible] def oKind (o : LOp) : Int := o.1
@[reducible] def oN (o : LOp) : Int := o.2.1
@[reducible] def oB (o : LOp) : RBup := o.2.2.1
@[reducible] def oName (o : LOp) : List UInt8 := o.2.2.2.1
@[reducible] def oF (o : LOp) : El uFO := o.2.2.2.2
@[reducible] def fN (o : El uFO) : Int := o.2.1
@[reducible] def fName (o : El uFO) : List UInt8 := o.2.2.1
@[reducible] def fTo (o : El uFO) : List UInt8 := o.2.2.2.1
@[reducible] def fKs (o : El uFO) : List (El uKp) := o.2.2.2.2.1
@[reducible] def fS (o : El uFO) : El uSO := o.2.2.2.2.2
@[reducible] def sKind (o : El uSO) : Int := o.1
@[reducible] def sN (o : El uSO) : Int := o.2.2.1
@[reducible] def sB (o : El uSO) : List (El .u8) := o.2.2.2.1
@[reducible] def sKeep (o : El uSO) : List (El uInt) := o.2.2.2.2
@[reducible] def kName (o : El uKp) : List UInt8 := o.1
@[reducible] def kL (o : El uKp) : List (El uInt) := o.2
def costP (l : List RPie) : Nat := (l.map fun p => (rB p).length + 1).sum
def costK (l : List (El uKp)) : Nat := (l.map fun k => (kL k).length + (kName k).length).sum
def cost1 (o : LOp) : Nat := (rNm (oB o)).length + (rPa (oB o)).length + (oName o).length + (sB (fS (oF o))).length + (sKeep (fS (oF o))).length + (fName (oF o)).length + (fTo (oF o)).length
def cost (o : LOp) : Nat := cost1 o + costP (rPc (oB o)) + costK (fKs (oF o))
def costs (l : List LOp) : Nat := (l.map cost).sum
def over (n a b : Int) : Bool := decide (a < n) && decide (n ≤ b)
def bad (o : LOp) : Bool := over (rSz (oB o)) 12 256 || over (oN o) 100 4096 || over (fN (oF o)) 100 4096 || (decide (sKind (fS (oF o)) = 4) && over (sN (fS (oF o))) 100 4096)
def fewB (l : List LOp) : Bool := !l.any bad && decide (l.length ≤ 30) && decide (costs l ≤ 4000)
theorem sum_step {α : Type} (f : α → Nat) {l : List α} {k : Nat} (h : k < l.length) : ((l.take (k + 1)).map f).sum = ((l.take k).map f).sum + f l[k] := by
  rw [← take_step h, List.map_append, List.sum_append]
  simp
theorem sum_le {α : Type} (f : α → Nat) (l : List α) (k : Nat) : ((l.take k).map f).sum ≤ (l.map f).sum := by
  conv => rhs; rw [← List.take_append_drop k l]
  rw [List.map_append, List.sum_append]
  omega
theorem costP_len : ∀ (l : List RPie), l.length ≤ costP l
  | [] => Nat.zero_le _
  | p :: l => by
    have := costP_len l
    simp only [costP, List.map_cons, List.sum_cons, List.length_cons] at this ⊢
    omega
@[reducible] def oL (o : LOp) : List S1 := [.d (.int .i64 (oKind o)), .d (.int .i64 (oN o)), .d (.str (rNm (oB o))), .d (.str (rPa (oB o))), .d (.int .i64 (rBits (oB o))), .d (.int .i64 (rSz (oB o))), .d (.lst uRP (rPc (oB o))), .d (.str (oName o)),
  .d (.int .i64 (oF o).1), .d (.int .i64 (fN (oF o))), .d (.str (fName (oF o))), .d (.str (fTo (oF o))), .d (.lst uKp (fKs (oF o))), .d (.int .i64 (sKind (fS (oF o)))), .d (.int .i64 (fS (oF o)).2.1), .d (.int .i64 (sN (fS (oF o)))), .d (.lst .u8 (sB (fS (oF o)))), .d (.lst uInt (sKeep (fS (oF o))))]
@[reducible] def fewK (l : List LOp) (k : Nat) (n : Nat) : KL := [(0, vL uLO l), (10, vL uLO l), (11, vI (l.length : Nat)), (12, vI (k : Nat)), (3, vI (n : Nat))]
set_option maxHeartbeats 4000000 in
theorem few_spec (l : List LOp) (hl : l.length ≤ 1000000) (hc : costs l ≤ 1000000000) (hks : ∀ o, o ∈ l → (fKs (oF o)).length ≤ 1000000) : Fn Try.prog 16 [vL uLO l] [] [] (vB (fewB l)) [] := by
  refine Fn.of tblOK [] _ _ _ _ _ Try.func16 rfl rfl (by kernel_rfl) (by kernel_rfl) rfl (drawOK tblOK) rfl ?_
  show TrQ _ _ _ _ _ _ _
  refine TrQ.loop tblOK (drawOK tblOK) [] (by kernel_rfl) (X := Nat) (fun k => fewK l k (costs (l.take k))) (fun _ => []) (fun k => k ≤ l.length ∧ ∀ (i : Nat) o, i < k → l[i]? = some o → bad o = false) (fun k => l.length - k) 0 ⟨Nat.zero_le _, fun i o h => absurd h (Nat.not_lt_zero _)⟩ ?_ ?_
  · exact Le.sub ⟨rfl, rfl, rfl, rfl, rfl, trivial⟩ trivial
  rintro k ⟨hk, hb⟩
  refine ⟨fun h => ?_, fun h => ?_⟩
  · have hk1 : k < l.length := by simpa using h
    have hs : costs (l.take (k + 1)) = costs (l.take k) + cost l[k] := sum_step cost hk1
    have hs2 : costs (l.take (k + 1)) ≤ costs l := sum_le cost l (k + 1)
    have hce : cost l[k] = cost1 l[k] + costP (rPc (oB l[k])) + costK (fKs (oF l[k])) := rfl
    refine ⟨by omega, l[k], lget_at rfl hk1, rfl, ?_⟩
    have hks := hks _ (List.getElem_mem hk1)
    have hmem : l[k] ∈ l := List.getElem_mem hk1
    have hgood : bad l[k] = false → ∀ (i : Nat) o, i < k + 1 → l[i]? = some o → bad o = false := fun h => prefix_step hk1 hb h
    generalize l[k] = o at *
    have hbad : bad o = true → fewB l = false := fun h => by
      unfold fewB
      rw [show l.any bad = true from List.any_eq_true.2 ⟨o, hmem, h⟩]
      rfl
    have hpl := costP_len (rPc (oB o))
    have hc1 : cost1 o = (rNm (oB o)).length + (rPa (oB o)).length + (oName o).length + (sB (fS (oF o))).length + (sKeep (fS (oF o))).length + (fName (oF o)).length + (fTo (oF o)).length := rfl
    dsimp only [rNm, rPa, oB, oName, sB, sKeep, fS, oF, fName, fTo, uInt] at hc1
    refine ⟨by omega, by omega, by omega, by omega, by omega, by omega, by omega, ?_⟩
    show TrQ _ _ _ _ _ _ _
    refine TrQ.loop tblOK (drawOK tblOK) [] (by kernel_rfl) (X := Nat) (fun j => (5, vP 5) :: (55, vL uRP (rPc (oB o))) :: (56, vI ((rPc (oB o)).length : Nat)) :: (57, vI (j : Nat)) :: fewK l k (costs (l.take k) + cost1 o + costP ((rPc (oB o)).take j))) (fun _ => [(5, .cells (oL o))]) (fun j => j ≤ (rPc (oB o)).length) (fun j => (rPc (oB o)).length - j) 0 (Nat.zero_le _) ?_ ?_
    · refine Le.sub ⟨rfl, rfl, rfl, rfl, rfl, rfl, rfl, rfl, ?_, trivial⟩ ⟨rfl, trivial⟩
      show (_ : Int) = _
      rw [show costP ((rPc (oB o)).take 0) = 0 from rfl]
      omega
    intro j hj
    refine ⟨fun h => ?_, fun h => ?_⟩
    · have hj1 : j < (rPc (oB o)).length := by simpa using h
      have ht : costP ((rPc (oB o)).take (j + 1)) = costP ((rPc (oB o)).take j) + ((rB (rPc (oB o))[j]).length + 1) := sum_step (fun p => (rB p).length + 1) hj1
      have ht2 : costP ((rPc (oB o)).take (j + 1)) ≤ costP (rPc (oB o)) := sum_le _ _ _
      refine ⟨by omega, (rPc (oB o))[j], lget_at rfl hj1, rfl, ?_⟩
      dsimp only [rB] at ht
      refine ⟨by omega, by omega, by omega, j + 1, hj1, by omega, ?_⟩
      refine Le.sub ⟨rfl, rfl, rfl, rfl, rfl, rfl, rfl, rfl, ?_, trivial⟩ ⟨rfl, trivial⟩
      show (_ : Int) = _
      omega
    have hj1 : j = (rPc (oB o)).length := by have : ¬ j < (rPc (oB o)).length := by simpa using h
                                             omega
    subst hj1
    rw [List.take_length]
    show TrQ _ _ _ _ _ _ _
    refine TrQ.loop tblOK (drawOK tblOK) [] (by kernel_rfl) (X := Nat) (fun j => (5, vP 5) :: (70, vL uKp (fKs (oF o))) :: (71, vI ((fKs (oF o)).length : Nat)) :: (72, vI (j : Nat)) :: fewK l k (costs (l.take k) + cost1 o + costP (rPc (oB o)) + costK ((fKs (oF o)).take j))) (fun _ => [(5, .cells (oL o))]) (fun j => j ≤ (fKs (oF o)).length) (fun j => (fKs (oF o)).length - j) 0 (Nat.zero_le _) ?_ ?_
    · refine Le.sub ⟨rfl, rfl, rfl, rfl, rfl, rfl, rfl, rfl, ?_, trivial⟩ ⟨rfl, trivial⟩
      rfl
    intro j hj
    refine ⟨fun h => ?_, fun h => ?_⟩
    · have hj1 : j < (fKs (oF o)).length := by simpa using h
      have ht : costK ((fKs (oF o)).take (j + 1)) = costK ((fKs (oF o)).take j) + ((kL (fKs (oF o))[j]).length + (kName (fKs (oF o))[j]).length) := sum_step (fun k => (kL k).length + (kName k).length) hj1
      have ht2 : costK ((fKs (oF o)).take (j + 1)) ≤ costK (fKs (oF o)) := sum_le _ _ _
      refine ⟨by omega, (fKs (oF o))[j], lget_at rfl hj1, rfl, ?_⟩
      dsimp only [kL, kName, uInt] at ht
      refine ⟨by omega, by omega, by omega, j + 1, hj1, by omega, ?_⟩
      refine Le.sub ⟨rfl, rfl, rfl, rfl, rfl, rfl, rfl, rfl, ?_, trivial⟩ ⟨rfl, trivial⟩
      show (_ : Int) = _
      omega
    have hj1 : j = (fKs (oF o)).length := by have : ¬ j < (fKs (oF o)).length := by simpa using h
                                             omega
    subst hj1
    rw [List.take_length]
    repeat' (first | refine ⟨fun h => ?_, fun h => ?_⟩ | fail)
    all_goals first
      | (refine ⟨by omega, k + 1, ⟨hk1, hgood ?_⟩, by omega, Le.sub ⟨rfl, rfl, rfl, rfl, ?_, trivial⟩ trivial⟩
         rotate_left
         · show (_ : Int) = _
           omega
         simp only [bad, over]
         clear hs2 hs hce hc1 hpl hgood hbad hb hks hc
         simp_all <;> omega)
      | (refine ⟨_, _, _, Le.refl _ _, rfl, (hbad ?_).symm, trivial, rfl⟩
         simp only [bad, over]
         clear hs2 hs hce hc1 hpl hgood hbad hb hks hc
         simp_all <;> omega)
      | skip
  · have hk1 : k = l.length := by have : ¬ k < l.length := by simpa using h
                                  omega
    subst hk1
    rw [List.take_length]
    have hany : l.any bad = false := by
      rw [List.any_eq_false]
      intro o ho
      obtain ⟨i, hi, rfl⟩ := List.getElem_of_mem ho
      simp [hb i _ hi (List.getElem?_eq_getElem hi)]
    refine ⟨fun h => ?_, fun h => ?_⟩
    · refine ⟨_, _, _, Le.refl _ _, rfl, ?_, trivial, rfl⟩
      show decide ((costs l : Int) ≤ 4000) = fewB l
      unfold fewB
      rw [hany]
      have h1 : l.length ≤ 30 := by simp only [decide_eq_true_eq] at h; omega
      simp [h1]
      omega
    · refine ⟨_, _, _, Le.refl _ _, rfl, ?_, trivial, rfl⟩
      show false = fewB l
      unfold fewB
      have h1 : ¬ l.length ≤ 30 := by simp only [decide_eq_false_iff_not] at h; omega
      simp [h1]
end Go.Proofs.Ythghcdddambaeaa
