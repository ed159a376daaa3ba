/-
  The document's list: right, Find, Add.
-/
import Derived.Test.YthghcdddambaeaaLD
set_option linter.unusedVariables false
set_option linter.unusedSimpArgs false
set_option maxRecDepth 10000
namespace Go.Proofs.Ythghcdddambaeaa
open Go.RowKit Go.Proofs

def lastC (l : List RPie) : Nat → Int
  | 0 => -1
  | j + 1 => match lget l j with
    | some p => rC p
    | none => -1
theorem okP_stepR (size n last : Int) (l : List RPie) (k : Nat) (hk : k < l.length) :
    okP size n last ((l.map pieOf).drop k) = (!(decide (rC l[k] ≤ last) || decide (size ≤ rC l[k]) || !decide (((rB l[k]).length : Int) = n)) && okP size n (rC l[k]) ((l.map pieOf).drop (k + 1))) := by
  rw [okP_step size n last (l.map pieOf) k (by rw [List.length_map]; exact hk), List.getElem_map]
  rfl
set_option maxRecDepth 100000 in
set_option maxHeartbeats 2000000 in
theorem rightR_spec (b : RBup) (hn : (rNm b).length ≤ 4294967296) (hl : (rPc b).length ≤ 1000000) (hp : ∀ p, p ∈ rPc b → (rB p).length ≤ 4294967296) : Fn Try.prog 60 [rbV b] [] [] (vB (rightB (ownOf b))) [] := by
  have hr0 : rightB (ownOf b) = (nameOK (rNm b) && decide (0 ≤ rBits b) && decide (rBits b ≤ 3) && decide (0 ≤ rSz b) && decide (rSz b ≤ 256) && okP (rSz b) (clB (rBits b)) (-1) ((rPc b).map pieOf) && (!decide (rPa b = []) || decide (((rPc b).length : Int) = rSz b))) := by
    rw [← List.length_map (f := pieOf)]
    rfl
  refine Fn.of tblOK [] _ _ _ _ _ Try.func60 rfl rfl (by kernel_rfl) (by kernel_rfl) rfl (drawOK tblOK) rfl ?_
  refine ⟨rfl, ?_⟩
  refine ⟨_, _, _, _, right04_spec _ hn, trivial, rfl, ?_⟩
  refine ⟨fun h => ?_, fun h1 => ?_⟩
  · exact ⟨_, _, _, Le.refl _ _, rfl, (show false = rightB (ownOf b) by rw [hr0]; simp_all), trivial, rfl⟩
  refine ⟨fun h => ?_, fun h2 => ?_⟩
  · exact ⟨_, _, _, Le.refl _ _, rfl, (show false = rightB (ownOf b) by simp at h; rw [hr0]; simp; omega), trivial, rfl⟩
  refine ⟨fun h => ?_, fun h3 => ?_⟩
  · exact ⟨_, _, _, Le.refl _ _, rfl, (show false = rightB (ownOf b) by simp at h; rw [hr0]; simp; omega), trivial, rfl⟩
  refine ⟨fun h => ?_, fun h4 => ?_⟩
  · exact ⟨_, _, _, Le.refl _ _, rfl, (show false = rightB (ownOf b) by simp at h; rw [hr0]; simp; omega), trivial, rfl⟩
  refine ⟨fun h => ?_, fun h5 => ?_⟩
  · exact ⟨_, _, _, Le.refl _ _, rfl, (show false = rightB (ownOf b) by simp at h; rw [hr0]; simp; omega), trivial, rfl⟩
  have h1 : (!nameOK (rNm b)) = false := h1
  simp only [decide_eq_false_iff_not, Bool.not_eq_false'] at h1 h2 h3 h4 h5
  have hr : rightB (ownOf b) = (okP (rSz b) (clB (rBits b)) (-1) ((rPc b).map pieOf) && (!decide (rPa b = []) || decide (((rPc b).length : Int) = rSz b))) := by
    rw [hr0, h1, decide_eq_true (show 0 ≤ rBits b by omega), decide_eq_true (show rBits b ≤ 3 by omega), decide_eq_true (show 0 ≤ rSz b by omega), decide_eq_true (show rSz b ≤ 256 by omega)]
    simp
  show TrQ _ _ _ _ _ _ _
  refine TrQ.loop tblOK (drawOK tblOK) [] (by kernel_rfl) (X := Nat) (fun i => [(1, vP 1), (3, vI (i : Nat))]) (fun _ => [(1, .cells (rbL b))]) (fun i => i ≤ (rPc b).length ∧ -1 ≤ lastC (rPc b) i ∧ okP (rSz b) (clB (rBits b)) (-1) ((rPc b).map pieOf) = okP (rSz b) (clB (rBits b)) (lastC (rPc b) i) (((rPc b).map pieOf).drop i)) (fun i => (rPc b).length - i) 0 ⟨Nat.zero_le _, by simp [lastC], rfl⟩ ?_ ?_
  · exact Le.sub ⟨rfl, rfl, trivial⟩ ⟨rfl, trivial⟩
  rintro k ⟨hk, hla, hi⟩
  refine ⟨fun h => ?_, fun h => ?_⟩
  · have hk1 : k < (rPc b).length := by
      have h : (k : Int) < ((rPc b).length : Int) := of_decide_eq_true h
      omega
    rw [okP_stepR _ _ _ _ _ hk1] at hi
    have hpl := hp _ (List.getElem_mem hk1)
    have hg := lget_at (L := rPc b) (n := (k : Nat)) rfl hk1
    have hnext : lastC (rPc b) (k + 1) = rC (rPc b)[k] := by
      show (match lget (rPc b) k with | some p => rC p | none => -1) = _
      rw [show lget (rPc b) k = some (rPc b)[k] from hg]
    generalize hpk : (rPc b)[k] = p at *
    refine ⟨by omega, p, hg, rfl, ?_⟩
    refine ⟨fun h => ?_, fun h6 => ?_⟩
    · refine ⟨rfl, ?_⟩
      have h : rC p < 0 := of_decide_eq_true h
      exact ⟨_, _, _, Le.refl _ _, rfl, (show false = rightB (ownOf b) by rw [hr, hi, decide_eq_true (show rC p ≤ lastC (rPc b) k by omega)]; rfl), trivial, rfl⟩
    refine ⟨fun h => ?_, fun h7 => ?_⟩
    · refine ⟨rfl, ?_⟩
      exact ⟨_, _, _, Le.refl _ _, rfl, (show false = rightB (ownOf b) by rw [hr, hi, show decide (rSz b ≤ rC p) = true from h]; simp), trivial, rfl⟩
    refine ⟨_, _, _, _, many_spec (rBits b) (by omega) (by omega), trivial, rfl, ?_⟩
    refine ⟨fun h => ?_, fun h8 => ?_⟩
    · refine ⟨rfl, ?_⟩
      exact ⟨_, _, _, Le.refl _ _, rfl, (show false = rightB (ownOf b) by rw [hr, hi, show (!decide (((rB p).length : Int) = clB (rBits b))) = true from h]; simp), trivial, rfl⟩
    have h6 : ¬ rC p < 0 := of_decide_eq_false h6
    have h7 : decide (rSz b ≤ rC p) = false := h7
    have h8 : (!decide (((rB p).length : Int) = clB (rBits b))) = false := h8
    refine ⟨fun h => ?_, fun h9 => ?_⟩
    · have hk0 : 0 < (k : Int) := of_decide_eq_true h
      have hk2 : k - 1 < (rPc b).length := by omega
      have hla2 : lastC (rPc b) k = rC (rPc b)[k - 1] := by
        obtain ⟨j, rfl⟩ : ∃ j, k = j + 1 := ⟨k - 1, by omega⟩
        show (match lget (rPc b) j with | some p => rC p | none => -1) = _
        rw [show lget (rPc b) j = some (rPc b)[j] from List.getElem?_eq_getElem (by omega)]
        rfl
      refine ⟨by omega, by omega, (rPc b)[k - 1], lget_at (by omega) hk2, ?_⟩
      rw [hla2] at hi
      refine ⟨rfl, fun h => ?_, fun h => ?_⟩
      · exact ⟨_, _, _, Le.refl _ _, rfl, (show false = rightB (ownOf b) by rw [hr, hi, show decide (rC p ≤ rC (rPc b)[k - 1]) = true from h]; simp), trivial, rfl⟩
      · refine ⟨by omega, k + 1, ⟨hk1, by rw [hnext]; omega, ?_⟩, by omega, ?_⟩
        · rw [hi, hnext, show decide (rC p ≤ rC (rPc b)[k - 1]) = false from h, h7, h8]; rfl
        · exact Le.sub ⟨rfl, rfl, trivial⟩ ⟨rfl, trivial⟩
    · have hk0 : ¬ 0 < (k : Int) := of_decide_eq_false h9
      obtain rfl : k = 0 := by omega
      refine ⟨rfl, ?_⟩
      refine ⟨by omega, 0 + 1, ⟨hk1, by rw [hnext]; omega, ?_⟩, by omega, ?_⟩
      · rw [hi, hnext, decide_eq_false (show ¬ rC p ≤ lastC (rPc b) 0 by show ¬ rC p ≤ -1; omega), h7, h8]; rfl
      · exact Le.sub ⟨rfl, rfl, trivial⟩ ⟨rfl, trivial⟩
  · have hk1 : k = (rPc b).length := by
      have h : ¬ (k : Int) < ((rPc b).length : Int) := of_decide_eq_false h
      omega
    rw [List.drop_eq_nil_of_le (by rw [List.length_map]; omega)] at hi
    refine ⟨fun h => ?_, fun h => ?_⟩
    · exact ⟨_, _, _, Le.refl _ _, rfl, (show true = rightB (ownOf b) by rw [hr, hi, show (!decide (rPa b = [])) = true from h]; rfl), trivial, rfl⟩
    · exact ⟨_, _, _, Le.refl _ _, rfl, (show decide (((rPc b).length : Int) = rSz b) = rightB (ownOf b) by rw [hr, hi, show (!decide (rPa b = [])) = false from h]; rfl), trivial, rfl⟩
end Go.Proofs.Ythghcdddambaeaa
