/-
  Chains: scripts of calls: few, does.
-/
import Derived.Test.YtbcngglcaeehbaaRw
import Derived.Test.YtbcngglcaeehbaaRd
set_option linter.unusedVariables false
set_option linter.unusedSimpArgs false
set_option maxRecDepth 10000
namespace Go.Proofs.Ytbcngglcaeehbaa
open Go.RowKit Go.Proofs
@[reducible] def uQ : U := .pr uI (.pr uI (.pr uI (.pr (.sl .u8) .str)))
@[reducible] def uC : U := .pr uI (.pr uI (.pr .str (.pr .str uQ)))
abbrev Cq := Int × Int × Int × List UInt8 × List UInt8
abbrev Cop := Int × Int × List UInt8 × List UInt8 × Cq
@[reducible] def cK (o : Cop) : Int := o.1
@[reducible] def cSz (o : Cop) : Int := o.2.1
@[reducible] def cNm (o : Cop) : List UInt8 := o.2.2.1
@[reducible] def cOt (o : Cop) : List UInt8 := o.2.2.2.1
@[reducible] def cQ (o : Cop) : Cq := o.2.2.2.2
@[reducible] def qK (q : Cq) : Int := q.1
@[reducible] def qA (q : Cq) : Int := q.2.1
@[reducible] def qL (q : Cq) : Int := q.2.2.1
@[reducible] def qB (q : Cq) : List UInt8 := q.2.2.2.1
@[reducible] def qN (q : Cq) : List UInt8 := q.2.2.2.2
@[reducible] def cqL (q : Cq) : List S1 := [.d (.int .i64 (qK q)), .d (.int .i64 (qA q)), .d (.int .i64 (qL q)), .d (.lst .u8 (qB q)), .d (.str (qN q))]
@[reducible] def copL (o : Cop) : List S1 := [.d (.int .i64 (cK o)), .d (.int .i64 (cSz o)), .d (.str (cNm o)), .d (.str (cOt o)), .d (.int .i64 (qK (cQ o))), .d (.int .i64 (qA (cQ o))), .d (.int .i64 (qL (cQ o))), .d (.lst .u8 (qB (cQ o))), .d (.str (qN (cQ o)))]
@[reducible] def copV (o : Cop) : SV := .c (.agg (copL o))
/-! ### few -/
def cTot (o : Cop) : Nat := (qB (cQ o)).length + (cNm o).length + (cOt o).length
def cBad (o : Cop) : Bool := decide (12 < cSz o) && decide (cSz o ≤ 256)
def cTo (l : List Cop) (k : Nat) : Nat := ((l.take k).map cTot).sum
theorem csum_le : ∀ (l : List Nat) (k : Nat), (l.take k).sum ≤ l.sum
  | [], k => by simp
  | x :: l, 0 => by simp
  | x :: l, k + 1 => by
    have := csum_le l k
    simp
    omega
theorem cTo_le (l : List Cop) (k : Nat) : cTo l k ≤ (l.map cTot).sum := by
  unfold cTo
  rw [List.map_take]
  exact csum_le _ _
theorem cTo_succ (l : List Cop) {k : Nat} (h : k < l.length) : cTo l (k + 1) = cTo l k + cTot l[k] := by
  unfold cTo
  rw [List.take_add_one, List.getElem?_eq_getElem h, List.map_append, List.sum_append]
  rfl
theorem cTot_le {l : List Cop} {o : Cop} (h : o ∈ l) : cTot o ≤ (l.map cTot).sum := by
  induction l with
  | nil => cases h
  | cons x l ih =>
    rw [List.map_cons, List.sum_cons]
    rcases List.mem_cons.1 h with rfl | h
    · omega
    · have := ih h
      omega
/-- .. up to the k-th none is bad. -/
def cGood (l : List Cop) (k : Nat) : Prop := ∀ (i : Nat) (o : Cop), i < k → l[i]? = some o → cBad o = false
theorem cGood.succ {l : List Cop} {k : Nat} (h : cGood l k) (hk : k < l.length) (hb : cBad l[k] = false) : cGood l (k + 1) := fun i o hi ho => by
  by_cases e : i = k
  · subst e
    rw [List.getElem?_eq_getElem hk] at ho
    injection ho with ho
    rw [← ho]
    exact hb
  · exact h i o (by omega) ho
def fewO (m : Nat) (l : List Cop) : Bool := (l.all fun o => !cBad o) && (decide (l.length ≤ m) && decide ((l.map cTot).sum ≤ 6000))
theorem fewO_bad {m : Nat} {l : List Cop} {k : Nat} (hk : k < l.length) (hb : cBad l[k] = true) : fewO m l = false := by
  unfold fewO
  rw [show (l.all fun o => !cBad o) = false from Bool.eq_false_iff.2 fun h => by
    have := List.all_eq_true.1 h _ (List.getElem_mem hk)
    rw [hb] at this
    cases this]
  rfl
theorem fewO_get {m : Nat} {l : List Cop} (h : fewO m l = true) : l.length ≤ m ∧ (l.map cTot).sum ≤ 6000 ∧ ∀ o, o ∈ l → cTot o ≤ 6000 ∧ cBad o = false := by
  unfold fewO at h
  simp only [Bool.and_eq_true] at h
  have h2 := of_decide_eq_true h.2.2
  refine ⟨of_decide_eq_true h.2.1, h2, fun o ho => ⟨Nat.le_trans (cTot_le ho) h2, ?_⟩⟩
  have := List.all_eq_true.1 h.1 o ho
  simpa using this
/-! ### does -/
structure DR where
  x : List UInt8
  e : Int
  L : List Dsk
def CR.dr (r : CR) : DR := ⟨[], r.e, r.L⟩
def doQ (bits : Nat) (L : List Dsk) (nm : List UInt8) (q : Cq) : DR :=
  if qK q = 0 then ⟨(rdC bits L nm (qA q) (qL q)).1, (rdC bits L nm (qA q) (qL q)).2, L⟩ else if qK q = 1 then (wrC bits L nm (qA q) (qB q)).dr
  else if qK q = 2 then (zrC bits L nm (qA q) (qL q)).dr else if qK q = 3 then (dsC L nm (qA q) (qL q)).dr else ⟨[], 0, L⟩
def doC (bits room : Nat) (L : List Dsk) (o : Cop) (p : Nat × Nat) : DR :=
  if cK o = 0 then (adC bits room L (cNm o) (cSz o) (cOt o) p).dr else if cK o = 1 then (rmC L (cNm o)).dr else if cK o = 2 then (rbC L (cNm o) (cOt o)).dr
  else if cK o = 3 then doQ bits L (cNm o) (cQ o) else ⟨[], 0, L⟩
theorem doQ_cs {bits room : Nat} {L : List Dsk} (h : CS bits room L) (nm : List UInt8) (q : Cq) : CS bits room (doQ bits L nm q).L := by
  unfold doQ
  split
  · exact h
  · split
    · exact wrC_cs h _ _ _
    · split
      · exact zrC_cs h _ _ _
      · split
        · exact dsC_cs h _ _ _
        · exact h
theorem doC_cs {bits room : Nat} {L : List Dsk} (h : CS bits room L) {o : Cop} (hk : cK o ≠ 0) (p : Nat × Nat) : CS bits room (doC bits room L o p).L := by
  unfold doC
  rw [if_neg hk]
  split
  · exact rmC_cs h _
  · split
    · exact rbC_cs h _ _
    · split
      · exact doQ_cs h _ _
      · exact h
/-! Chains: what the bulk of a script bounds. -/
theorem bulkc_u8 : ∀ s : List UInt8, bulkU (.sl .u8) s = 1 + s.length
  | [] => rfl
  | b :: s => by
    have ih := bulkc_u8 s
    have e2 : bulkU (.sl .u8) s = 1 + (List.map (bulkU .u8) s).sum := rfl
    show 1 + (1 + (List.map (bulkU .u8) s).sum) = 1 + (s.length + 1)
    omega
theorem bulkc_op (o : Cop) : bulkU uC o = 9 + cTot o + (qN (cQ o)).length := by
  have h1 := bulkc_u8 (qB (cQ o))
  have e : bulkU uC o = 1 + (1 + ((1 + (cNm o).length) + ((1 + (cOt o).length) + (1 + (1 + (1 + (bulkU (.sl .u8) (qB (cQ o)) + (1 + (qN (cQ o)).length)))))))) := rfl
  rw [e, h1]
  unfold cTot
  omega
theorem bulkc_ops : ∀ l : List Cop, 1 + l.length + (l.map cTot).sum ≤ bulkU (.sl uC) l
  | [] => Nat.le_refl _
  | o :: l => by
    have h1 := bulkc_ops l
    have e2 : bulkU (.sl uC) l = 1 + (List.map (bulkU uC) l).sum := rfl
    have e3 := bulkc_op o
    show 1 + (l.length + 1) + (cTot o + (l.map cTot).sum) ≤ 1 + (bulkU uC o + (List.map (bulkU uC) l).sum)
    omega
end Go.Proofs.Ytbcngglcaeehbaa
