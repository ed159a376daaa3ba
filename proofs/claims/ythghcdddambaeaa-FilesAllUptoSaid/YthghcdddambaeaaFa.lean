/-
  Files: how much a script has; the names rise; FilesMany.
-/
import Derived.Test.YthghcdddambaeaaFe
import Derived.Test.YthghcdddambaeaaRd
import Derived.Sort.Walk0
set_option linter.unusedVariables false
set_option linter.unusedSimpArgs false
set_option maxRecDepth 10000
namespace Go.Proofs.Ythghcdddambaeaa
open Go.RowKit Go.Proofs
theorem bulk_u8 : ∀ b : List UInt8, bulkU (.sl .u8) b = 1 + b.length
  | [] => rfl
  | x :: b => by
    have h := bulk_u8 b
    show 1 + (1 + (List.map (bulkU .u8) b).sum) = _
    have h : 1 + (List.map (bulkU .u8) b).sum = 1 + b.length := h
    rw [h, List.length_cons]
    omega
theorem bulk_ints : ∀ b : List Int, bulkU (.sl uI) b = 1 + b.length
  | [] => rfl
  | x :: b => by
    have h := bulk_ints b
    show 1 + (1 + (List.map (bulkU uI) b).sum) = _
    have h : 1 + (List.map (bulkU uI) b).sum = 1 + b.length := h
    rw [h, List.length_cons]
    omega
theorem bulk_kp (k : Kp) : bulkU uK k = 2 + totK k := by
  have h := bulk_ints (kL k)
  show (1 + (kNm k).length) + bulkU (.sl uI) (kL k) = _
  rw [h]
  unfold totK
  omega
theorem bulk_kps : ∀ l : List Kp, bulkU (.sl uK) l = 1 + 2 * l.length + (l.map totK).sum
  | [] => rfl
  | k :: l => by
    have h := bulk_kps l
    show 1 + (bulkU uK k + (List.map (bulkU uK) l).sum) = _
    have h : 1 + (List.map (bulkU uK) l).sum = 1 + 2 * l.length + (l.map totK).sum := h
    rw [bulk_kp, List.length_cons, List.map_cons, List.sum_cons]
    omega
theorem bulk_op3 (o : Op3) : bulkU uO3 o = 5 + (oB o).length + (oKeep o).length := by
  have h1 := bulk_u8 (oB o)
  have h2 := bulk_ints (oKeep o)
  show 1 + (1 + (1 + (bulkU (.sl .u8) (oB o) + bulkU (.sl uI) (oKeep o)))) = _
  rw [h1, h2]
  omega
theorem bulk_op4 (o : Op4) : bulkU uO4 o = 10 + tot o + 2 * (pKeeps o).length := by
  have h1 := bulk_kps (pKeeps o)
  have h2 := bulk_op3 (pS o)
  show 1 + (1 + ((1 + (pName o).length) + ((1 + (pTo o).length) + (bulkU (.sl uK) (pKeeps o) + bulkU uO3 (pS o))))) = _
  rw [h1, h2]
  unfold tot tot1
  omega
theorem bulk_ops4 : ∀ l : List Op4, 1 + l.length + (l.map tot).sum ≤ bulkU (.sl uO4) l ∧ ∀ o ∈ l, bulkU uO4 o ≤ bulkU (.sl uO4) l
  | [] => ⟨Nat.le_refl _, fun o h => by cases h⟩
  | o :: l => by
    obtain ⟨h1, h2⟩ := bulk_ops4 l
    have e : bulkU (.sl uO4) (o :: l) = 1 + (bulkU uO4 o + (List.map (bulkU uO4) l).sum) := rfl
    have e2 : bulkU (.sl uO4) l = 1 + (List.map (bulkU uO4) l).sum := rfl
    have e3 := bulk_op4 o
    refine ⟨?_, fun x hx => ?_⟩
    · rw [e, List.length_cons, List.map_cons, List.sum_cons]
      omega
    · rcases List.mem_cons.1 hx with rfl | hx
      · rw [e]; omega
      · have := h2 x hx
        rw [e]; omega
structure ScrOK (l : List Op4) (N : Nat) : Prop where
  len : l.length ≤ N
  sum : (l.map tot).sum ≤ N
  ops : ∀ o, o ∈ l → OpBd o N
theorem sum_mem {f : Kp → Nat} {k : Kp} : ∀ {l : List Kp}, k ∈ l → f k ≤ (l.map f).sum
  | [], h => by cases h
  | a :: l, h => by
    rw [List.map_cons, List.sum_cons]
    rcases List.mem_cons.1 h with rfl | h
    · omega
    · have := sum_mem (f := f) h
      omega
theorem ScrOK.of {l : List Op4} {N : Nat} (h : bulkU (.sl uO4) l ≤ N) : ScrOK l N := by
  obtain ⟨h1, h2⟩ := bulk_ops4 l
  refine ⟨by omega, by omega, fun o ho => ?_⟩
  have e := h2 o ho
  rw [bulk_op4] at e
  unfold tot tot1 at e
  exact ⟨by omega, by omega, by omega, by omega, by omega, fun k hk => by
    have := sum_mem (f := totK) hk
    have e2 : totK k = (kL k).length + (kNm k).length := rfl
    omega⟩
theorem ScrOK.take {l : List Op4} {N : Nat} (h : ScrOK l N) (k : Nat) : ((l.take k).map fun o => (oB (pS o)).length).sum ≤ N := by
  have h1 := sum_take (fun o : Op4 => (oB (pS o)).length) l k
  have h2 : (l.map fun o : Op4 => (oB (pS o)).length).sum ≤ (l.map tot).sum := by
    clear h h1
    induction l with
    | nil => exact Nat.le_refl _
    | cons o l ih =>
      simp only [List.map_cons, List.sum_cons]
      have : (oB (pS o)).length ≤ tot o := by unfold tot tot1; omega
      omega
  have := h.sum
  omega
/-! ### the names rise -/
theorem keysS_length {vu : U} (es : List (El .str × El vu)) : (keysS es).length = es.length := by
  unfold keysS mkeys
  rw [List.length_mergeSort, List.length_map]
theorem keysS_rise {es : FMap} (h : (mkeys es).Nodup) : (keysS es).Pairwise (· < ·) := by
  have tr : ∀ a b c : List UInt8, Go.leB a b = true → Go.leB b c = true → Go.leB a c = true := fun a b c h1 h2 => by simp only [Go.leB, decide_eq_true_eq] at *; exact List.le_trans h1 h2
  have to : ∀ a b : List UInt8, (Go.leB a b || Go.leB b a) = true := fun a b => by simp only [Go.leB, Bool.or_eq_true, decide_eq_true_eq]; exact List.le_total a b
  have h1 : (keysS es).Pairwise fun a b => Go.leB a b = true := List.pairwise_mergeSort tr to _
  have h2 : (keysS es).Nodup := (List.mergeSort_perm _ _).nodup_iff.2 h
  exact List.Pairwise.imp₂ (fun a b hle hne => by
    have hle : a ≤ b := by simpa [Go.leB] using hle
    rcases List.le_iff_lt_or_eq.1 hle with h | h
    · exact h
    · exact absurd h hne) h1 h2
end Go.Proofs.Ythghcdddambaeaa
