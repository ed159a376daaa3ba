/-
  What the bulk of a list of calls bounds.
-/
import Derived.Test.YthghcdddambaeaaL5
import Derived.Test.YthghcdddambaeaaRd
set_option linter.unusedVariables false
set_option linter.unusedSimpArgs false
set_option maxRecDepth 10000
namespace Go.Proofs.Ythghcdddambaeaa
open Go.RowKit Go.Proofs

theorem sum_map_le {α : Type} {f g : α → Nat} (h : ∀ x, f x ≤ g x) : ∀ (l : List α), (l.map f).sum ≤ (l.map g).sum
  | [] => by simp
  | x :: l => by
    have := h x
    have := sum_map_le h l
    simp only [List.map_cons, List.sum_cons]
    omega
theorem sum_map_const {α : Type} {f : α → Nat} {n : Nat} (h : ∀ x, n ≤ f x) : ∀ (l : List α), n * l.length ≤ (l.map f).sum
  | [] => by simp
  | x :: l => by
    have := h x
    have := sum_map_const h l
    simp only [List.map_cons, List.sum_cons, List.length_cons, Nat.mul_succ]
    omega
theorem bulk_pie (p : RPie) : bulkU uRP p = 2 + (rB p).length := by
  show 1 + (1 + (rB p).length) = _
  omega
theorem bulk_keep (k : El uKp) : (kName k).length + (lK k).length + 2 ≤ bulkU uKp k := by
  have h : 1 * (lK k).length ≤ (List.map (bulkU uInt) (lK k)).sum := sum_map_const (fun _ => Nat.le_refl 1) (lK k)
  show _ ≤ (1 + (kName k).length) + (1 + (List.map (bulkU uInt) (lK k)).sum)
  omega
theorem bulk_op (o : LOp) : cost o + 18 ≤ bulkU uLO o ∧ 2 * (fKs (oF o)).length ≤ bulkU uLO o := by
  have h1 : (List.map (fun p : RPie => (rB p).length + 1) (rPc (bO o))).sum ≤ (List.map (bulkU uRP) (rPc (bO o))).sum := sum_map_le (fun p => by rw [bulk_pie]; omega) _
  have h2 : (List.map (fun k : El uKp => (lK k).length + (kName k).length) (fKs (oF o))).sum ≤ (List.map (bulkU uKp) (fKs (oF o))).sum := sum_map_le (fun k => by have := bulk_keep k; omega) _
  have h3 : 2 * (fKs (oF o)).length ≤ (List.map (bulkU uKp) (fKs (oF o))).sum := sum_map_const (fun k => by have := bulk_keep k; omega) _
  have h4 : 1 * (sB (fS (oF o))).length ≤ (List.map (bulkU .u8) (sB (fS (oF o)))).sum := sum_map_const (fun _ => Nat.le_refl 1) _
  have h5 : 1 * (sKeep (fS (oF o))).length ≤ (List.map (bulkU uInt) (sKeep (fS (oF o)))).sum := sum_map_const (fun _ => Nat.le_refl 1) _
  have e : bulkU uLO o = 1 + (1 + (((1 + (rNm (bO o)).length) + ((1 + (rPa (bO o)).length) + (1 + (1 + (1 + (List.map (bulkU uRP) (rPc (bO o))).sum))))) + ((1 + (oName o).length) +
      (1 + (1 + ((1 + (fName (oF o)).length) + ((1 + (fTo (oF o)).length) + ((1 + (List.map (bulkU uKp) (fKs (oF o))).sum) +
      (1 + (1 + (1 + ((1 + (List.map (bulkU .u8) (sB (fS (oF o)))).sum) + (1 + (List.map (bulkU uInt) (sKeep (fS (oF o)))).sum))))))))))))) := rfl
  have c : cost o = (rNm (bO o)).length + (rPa (bO o)).length + (oName o).length + (sB (fS (oF o))).length + (sKeep (fS (oF o))).length + (fName (oF o)).length + (fTo (oF o)).length + (List.map (fun p : RPie => (rB p).length + 1) (rPc (bO o))).sum + (List.map (fun k : El uKp => (lK k).length + (kName k).length) (fKs (oF o))).sum := rfl
  rw [e, c]
  generalize (List.map (bulkU uRP) (rPc (bO o))).sum = x1 at *
  generalize (List.map (bulkU uKp) (fKs (oF o))).sum = x2 at *
  generalize (List.map (bulkU .u8) (sB (fS (oF o)))).sum = x3 at *
  generalize (List.map (bulkU uInt) (sKeep (fS (oF o)))).sum = x4 at *
  generalize (List.map (fun p : RPie => (rB p).length + 1) (rPc (bO o))).sum = y1 at *
  generalize (List.map (fun k : El uKp => (lK k).length + (kName k).length) (fKs (oF o))).sum = y2 at *
  generalize (sB (fS (oF o))).length = z1 at *
  generalize (sKeep (fS (oF o))).length = z2 at *
  omega
theorem bulk_ops {l : List LOp} {n : Nat} (h : bulkU (.sl uLO) l ≤ n) : 18 * l.length ≤ n ∧ costs l ≤ n ∧ ∀ o, o ∈ l → 2 * (fKs (oF o)).length ≤ n := by
  have h : 1 + (List.map (bulkU uLO) l).sum ≤ n := h
  have h1 : 18 * l.length ≤ (List.map (bulkU uLO) l).sum := sum_map_const (fun o => by have := bulk_op o; omega) l
  have h2 : (List.map cost l).sum ≤ (List.map (bulkU uLO) l).sum := sum_map_le (fun o => by have := bulk_op o; omega) l
  refine ⟨by omega, by unfold costs; omega, fun o ho => ?_⟩
  have h3 := (bulk_op o).2
  have h4 : bulkU uLO o ≤ (List.map (bulkU uLO) l).sum := by
    have : ∀ (l : List LOp), o ∈ l → bulkU uLO o ≤ (List.map (bulkU uLO) l).sum := fun l => by
      induction l with
      | nil => intro h; cases h
      | cons x l ih =>
        intro h
        simp only [List.map_cons, List.sum_cons]
        rcases List.mem_cons.1 h with rfl | h
        · omega
        · have := ih h; omega
    exact this l ho
  omega
end Go.Proofs.Ythghcdddambaeaa
