/-
Part 17 of the proof that stands in YtojaemgabaehdaaGreatPpRow, with what it needs from the parts ahead; the parts of this text: El, Ne, Nf.
-/
import Derived.Test.YtojaemgabaehdaaGreatPp16
/-!
  Scripts of law 20 on chains and directories: few, does, maps.
-/
namespace Go.Proofs.YtojaemgabaehdaaGreat
set_option linter.unusedVariables false
set_option linter.unusedSimpArgs false
set_option maxRecDepth 10000
open Go.RowKit Go.Proofs
/-! ### calls on a directory -/
@[reducible] def uM : U := .pr uI (.pr .str (.pr .str (.pr uI (.pr uI (.pr uI (.pr uI .bool))))))
abbrev Mop := Int × List UInt8 × List UInt8 × Int × Int × Int × Int × Bool
@[reducible] def mNm (o : Mop) : List UInt8 := o.2.1
@[reducible] def mOt (o : Mop) : List UInt8 := o.2.2.1
@[reducible] def mSe (o : Mop) : Int := o.2.2.2.1
def mTot (o : Mop) : Nat := (mNm o).length + (mOt o).length
def mBad (o : Mop) : Bool := decide (60 < mSe o) && decide (mSe o ≤ 4096)
def mTo (l : List Mop) (k : Nat) : Nat := ((l.take k).map mTot).sum
theorem mTo_le (l : List Mop) (k : Nat) : mTo l k ≤ (l.map mTot).sum := by
 unfold mTo
 rw [List.map_take]
 exact csum_le _ _
theorem mTo_succ (l : List Mop) {k : Nat} (h : k < l.length) : mTo l (k + 1) = mTo l k + mTot l[k] := by
 unfold mTo
 rw [List.take_add_one, List.getElem?_eq_getElem h, List.map_append, List.sum_append]
 rfl
theorem mTot_le {l : List Mop} {o : Mop} (h : o ∈ l) : mTot o ≤ (l.map mTot).sum := by
 induction l with
 | nil => cases h
 | cons x l ih =>
   rw [List.map_cons, List.sum_cons]
   rcases List.mem_cons.1 h with rfl | h
   · omega
   · have := ih h
     omega
def mGood (l : List Mop) (k : Nat) : Prop := ∀ (i : Nat) (o : Mop), i < k → l[i]? = some o → mBad o = false
theorem mGood.succ {l : List Mop} {k : Nat} (h : mGood l k) (hk : k < l.length) (hb : mBad l[k] = false) : mGood l (k + 1) := fun i o hi ho => by
 by_cases e : i = k
 · subst e
   rw [List.getElem?_eq_getElem hk] at ho
   injection ho with ho
   rw [← ho]
   exact hb
 · exact h i o (by omega) ho
def fewM (l : List Cop) (m : List Mop) : Bool := (l.all fun o => !cBad o) && ((m.all fun o => !mBad o) && (decide (l.length + m.length ≤ 60) && decide ((l.map cTot).sum + (m.map mTot).sum ≤ 6000)))
theorem fewM_bad {l : List Cop} {m : List Mop} {k : Nat} (hk : k < l.length) (hb : cBad l[k] = true) : fewM l m = false := by
 unfold fewM
 rw [show (l.all fun o => !cBad o) = false from Bool.eq_false_iff.2 fun h => by
   have := List.all_eq_true.1 h _ (List.getElem_mem hk)
   rw [hb] at this
   cases this]
 rfl
theorem fewM_bad2 {l : List Cop} {m : List Mop} {k : Nat} (hk : k < m.length) (hb : mBad m[k] = true) : fewM l m = false := by
 unfold fewM
 rw [show (m.all fun o => !mBad o) = false from Bool.eq_false_iff.2 fun h => by
   have := List.all_eq_true.1 h _ (List.getElem_mem hk)
   rw [hb] at this
   cases this]
 rw [Bool.false_and, Bool.and_false]
theorem fewM_get {l : List Cop} {m : List Mop} (h : fewM l m = true) : l.length + m.length ≤ 60 ∧ (∀ o, o ∈ l → cTot o ≤ 6000 ∧ cBad o = false) ∧ ∀ o, o ∈ m → mTot o ≤ 6000 := by
 unfold fewM at h
 simp only [Bool.and_eq_true, decide_eq_true_eq] at h
 obtain ⟨h1, h2, h3, h4⟩ := h
 refine ⟨h3, fun o ho => ⟨?_, ?_⟩, fun o ho => ?_⟩
 · have := cTot_le ho; omega
 · have := List.all_eq_true.1 h1 o ho
   simpa using this
 · have := mTot_le ho; omega
@[reducible] def fmK (l : List Cop) (m : List Mop) (k : Nat) : KL := [(0, vL uC l), (1, vL uM m), (5, vI (cTo l k : Nat)), (10, vL uC l), (11, vI (l.length : Nat)), (12, vI (k : Nat))]
@[reducible] def fmK2 (l : List Cop) (m : List Mop) (k : Nat) : KL := [(0, vL uC l), (1, vL uM m), (5, vI ((cTo l l.length + mTo m k : Nat) : Int)), (39, vL uM m), (40, vI (m.length : Nat)), (41, vI (k : Nat))]
theorem few20_fn (l : List Cop) (m : List Mop) (hl : l.length ≤ 1073741824) (ht : (l.map cTot).sum ≤ 1073741824) (hl2 : m.length ≤ 1073741824) (ht2 : (m.map mTot).sum ≤ 1073741824) : Fn Tryz.prog 74 [vL uC l, vL uM m] [] [] (vB (fewM l m)) [] := by
 refine Fn.of tblOK [] _ _ _ _ _ Tryz.func74 rfl rfl (by kernel_rfl) (by kernel_rfl) rfl (drawOK tblOK) rfl ?_
 show TrQ _ _ _ _ _ _ _
 refine TrQ.loop tblOK (drawOK tblOK) [] (by kernel_rfl) (X := Nat) (fmK l m) (fun _ => []) (fun k => k ≤ l.length ∧ cGood l k) (fun k => l.length - k) 0 ⟨Nat.zero_le _, fun i o hi => by omega⟩ ?_ ?_
 · exact Le.sub ⟨rfl, rfl, rfl, rfl, rfl, rfl, trivial⟩ trivial
 rintro k ⟨hk, hg⟩
 have ht1 := cTo_le l k
 refine ⟨fun hc => ?_, fun hc => ?_⟩
 · have hc : decide ((k : Int) < ((l.length : Nat) : Int)) = true := hc
   have hk1 : k < l.length := by have := of_decide_eq_true hc; omega
   have ht3 := cTo_le l (k + 1)
   have hs := cTo_succ l hk1
   have hbd : cBad l[k] = (decide (12 < cSz l[k]) && decide (cSz l[k] ≤ 256)) := rfl
   have htt : cTot l[k] = (qB (cQ l[k])).length + (cNm l[k]).length + (cOt l[k]).length := rfl
   have hget := lgAt (n := k) hk1
   have hgs := fun hb => hg.succ hk1 hb
   have hbad := fun hb => fewM_bad (m := m) hk1 hb
   generalize hx : l[k] = o at *
   have m1 : (-9223372036854775808 : Int) ≤ (((qB (cQ o)).length : Nat) : Int) + (((cNm o).length : Nat) : Int) ∧ (((qB (cQ o)).length : Nat) : Int) + (((cNm o).length : Nat) : Int) ≤ 9223372036854775807 := by omega
   have m2 : (-9223372036854775808 : Int) ≤ (((qB (cQ o)).length : Nat) : Int) + (((cNm o).length : Nat) : Int) + (((cOt o).length : Nat) : Int) ∧ (((qB (cQ o)).length : Nat) : Int) + (((cNm o).length : Nat) : Int) + (((cOt o).length : Nat) : Int) ≤ 9223372036854775807 := by omega
   have m3 : (-9223372036854775808 : Int) ≤ ((cTo l k : Nat) : Int) + ((((qB (cQ o)).length : Nat) : Int) + (((cNm o).length : Nat) : Int) + (((cOt o).length : Nat) : Int)) ∧ ((cTo l k : Nat) : Int) + ((((qB (cQ o)).length : Nat) : Int) + (((cNm o).length : Nat) : Int) + (((cOt o).length : Nat) : Int)) ≤ 9223372036854775807 := by omega
   have e3 : ((cTo l k : Nat) : Int) + ((((qB (cQ o)).length : Nat) : Int) + (((cNm o).length : Nat) : Int) + (((cOt o).length : Nat) : Int)) = ((cTo l (k + 1) : Nat) : Int) := by omega
   refine ⟨by omega, o, hget, ?_⟩
   refine ⟨rfl, m1, m2, m3, ?_⟩
   refine ⟨fun cA => ?_, fun cA => ?_⟩
   · have cA : decide (12 < cSz o) = true := cA
     refine ⟨fun cB => ?_, fun cB => ?_⟩
     · have cB : decide (cSz o ≤ 256) = true := cB
       exact ⟨_, _, _, Le.refl _ _, rfl, (hbad (by rw [hbd, cA, cB]; rfl)).symm, trivial, rfl⟩
     · have cB : decide (cSz o ≤ 256) = false := cB
       exact ⟨by omega, k + 1, ⟨hk1, hgs (by rw [hbd, cA, cB]; rfl)⟩, by omega, Le.sub ⟨rfl, rfl, e3, rfl, rfl, rfl, trivial⟩ trivial⟩
   · have cA : decide (12 < cSz o) = false := cA
     exact ⟨by omega, k + 1, ⟨hk1, hgs (by rw [hbd, cA]; rfl)⟩, by omega, Le.sub ⟨rfl, rfl, e3, rfl, rfl, rfl, trivial⟩ trivial⟩
 · have hc : decide ((k : Int) < ((l.length : Nat) : Int)) = false := hc
   have hk2 : k = l.length := by have := of_decide_eq_false hc; omega
   subst hk2
   have hall : (l.all fun o => !cBad o) = true := List.all_eq_true.2 fun o ho => by
     obtain ⟨i, hi, rfl⟩ := List.getElem_of_mem ho
     rw [hg i _ hi (List.getElem?_eq_getElem hi)]
     rfl
   have htt : cTo l l.length = (l.map cTot).sum := by unfold cTo; rw [List.take_length]
   show TrQ _ _ _ _ _ _ _
   refine TrQ.loop tblOK (drawOK tblOK) [] (by kernel_rfl) (X := Nat) (fmK2 l m) (fun _ => []) (fun j => j ≤ m.length ∧ mGood m j) (fun j => m.length - j) 0 ⟨Nat.zero_le _, fun i o hi => by omega⟩ ?_ ?_
   · exact Le.sub ⟨rfl, rfl, rfl, rfl, rfl, rfl, trivial⟩ trivial
   rintro j ⟨hj, hgm⟩
   have hj : j ≤ m.length := hj
   have hgm : mGood m j := hgm
   have hj1 := mTo_le m j
   refine ⟨fun hc => ?_, fun hc => ?_⟩
   · have hc : decide ((j : Int) < ((m.length : Nat) : Int)) = true := hc
     have hjm : j < m.length := by have := of_decide_eq_true hc; omega
     have hj2 := mTo_le m (j + 1)
     have hs := mTo_succ m hjm
     have hj3 : mTot m[j] = (mNm m[j]).length + (mOt m[j]).length := rfl
     have hbd : mBad m[j] = (decide (60 < mSe m[j]) && decide (mSe m[j] ≤ 4096)) := rfl
     have hgs := fun hb => hgm.succ hjm hb
     have hbad := fun hb => fewM_bad2 (l := l) hjm hb
     have hget := lgAt (n := j) hjm
     generalize hx : m[j] = o at *
     have m1 : (-9223372036854775808 : Int) ≤ (((mNm o).length : Nat) : Int) + (((mOt o).length : Nat) : Int) ∧ (((mNm o).length : Nat) : Int) + (((mOt o).length : Nat) : Int) ≤ 9223372036854775807 := by omega
     have m3 : (-9223372036854775808 : Int) ≤ ((cTo l l.length + mTo m j : Nat) : Int) + ((((mNm o).length : Nat) : Int) + (((mOt o).length : Nat) : Int)) ∧ ((cTo l l.length + mTo m j : Nat) : Int) + ((((mNm o).length : Nat) : Int) + (((mOt o).length : Nat) : Int)) ≤ 9223372036854775807 := by omega
     have e3 : ((cTo l l.length + mTo m j : Nat) : Int) + ((((mNm o).length : Nat) : Int) + (((mOt o).length : Nat) : Int)) = ((cTo l l.length + mTo m (j + 1) : Nat) : Int) := by omega
     refine ⟨by omega, o, hget, ?_⟩
     refine ⟨rfl, m1, m3, ?_⟩
     refine ⟨fun cA => ?_, fun cA => ?_⟩
     · have cA : decide (60 < mSe o) = true := cA
       refine ⟨fun cB => ?_, fun cB => ?_⟩
       · have cB : decide (mSe o ≤ 4096) = true := cB
         exact ⟨_, _, _, Le.refl _ _, rfl, (hbad (by rw [hbd, cA, cB]; rfl)).symm, trivial, rfl⟩
       · have cB : decide (mSe o ≤ 4096) = false := cB
         exact ⟨by omega, j + 1, ⟨hjm, hgs (by rw [hbd, cA, cB]; rfl)⟩, by omega, Le.sub ⟨rfl, rfl, e3, rfl, rfl, rfl, trivial⟩ trivial⟩
     · have cA : decide (60 < mSe o) = false := cA
       exact ⟨by omega, j + 1, ⟨hjm, hgs (by rw [hbd, cA]; rfl)⟩, by omega, Le.sub ⟨rfl, rfl, e3, rfl, rfl, rfl, trivial⟩ trivial⟩
   · have hc : decide ((j : Int) < ((m.length : Nat) : Int)) = false := hc
     have hj2 : j = m.length := by have := of_decide_eq_false hc; omega
     subst hj2
     have hall2 : (m.all fun o => !mBad o) = true := List.all_eq_true.2 fun o ho => by
       obtain ⟨i, hi, rfl⟩ := List.getElem_of_mem ho
       rw [hgm i _ hi (List.getElem?_eq_getElem hi)]
       rfl
     have hjt : mTo m m.length = (m.map mTot).sum := by unfold mTo; rw [List.take_length]
     have m4 : (-9223372036854775808 : Int) ≤ ((l.length : Nat) : Int) + ((m.length : Nat) : Int) ∧ ((l.length : Nat) : Int) + ((m.length : Nat) : Int) ≤ 9223372036854775807 := by omega
     refine ⟨m4, ?_⟩
     refine ⟨fun c1 => ?_, fun c1 => ?_⟩
     · have c1 : decide (((l.length : Nat) : Int) + ((m.length : Nat) : Int) ≤ 60) = true := c1
       have c1 : decide (l.length + m.length ≤ 60) = true := decide_eq_true (by have := of_decide_eq_true c1; omega)
       refine ⟨_, _, _, Le.refl _ _, rfl, (show decide (((cTo l l.length + mTo m m.length : Nat) : Int) ≤ 6000) = fewM l m from ?_), trivial, rfl⟩
       rw [fewM, hall, hall2, c1, htt, hjt, Bool.eq_iff_iff]
       simp
       omega
     · have c1 : decide (((l.length : Nat) : Int) + ((m.length : Nat) : Int) ≤ 60) = false := c1
       have c1 : decide (l.length + m.length ≤ 60) = false := decide_eq_false (by have := of_decide_eq_false c1; omega)
       refine ⟨_, _, _, Le.refl _ _, rfl, (show false = fewM l m from ?_), trivial, rfl⟩
       rw [fewM, hall, hall2, c1]
       rfl
theorem does20_fn {bits room : Nat} {L : List Dsk} (h : CS bits room L) (o : Cop) (hb : cTot o ≤ 1000000) :
   FnX Tryz.prog 76 [vP 1001, copV o] (chB bits room L) [] (X := { p : Nat × Nat // CS bits room (doD bits room L o p).L }) (fun p => vI (doD bits room L o p.1).e) (fun p => chB bits room (doD bits room L o p.1).L) := by
 have htt : cTot o = (qB (cQ o)).length + (cNm o).length + (cOt o).length := rfl
 have hnm : (cNm o).length ≤ 4294967296 := by omega
 refine FnX.of tblOK [3] _ _ _ _ _ Tryz.func76 rfl rfl (by kernel_rfl) (by kernel_rfl) rfl (drawOK tblOK) rfl ?_
 refine ⟨rfl, ?_⟩
 refine ⟨fun c0 => ?_, fun c0 => ?_⟩
 · have c0 : cK o = 0 := of_decide_eq_true c0
   have hE : ∀ p, doD bits room L o p = adC bits room L (cNm o) (cSz o) (cOt o) p := fun p => if_pos c0
   show TrQ _ _ _ _ _ _ _
   refine TrQ.regionX tblOK (by kernel_rfl) ?_
   refine ⟨_, _, _, fun g => _, fun g => _, chadd_fn h (cNm o) (cSz o) (cOt o) hnm, ⟨rfl, rfl, rfl, rfl, trivial⟩, rfl, fun _ => rfl, fun g => ?_⟩
   have hL := congrArg CR.L (hE g.1)
   exact ⟨⟨g.1, by rw [hE]; exact g.2⟩, _, _, _, Le.refl _ _, rfl, congrArg CR.e (hE g.1).symm, ⟨rfl, congrArg (fun l => some (Ch.map .str .adr (chE l))) hL.symm, congrArg (fun l => some (Ch.obj (.pool (chD l)))) hL.symm, congrArg (fun l => some (Ch.obj (.pool (chM l)))) hL.symm, trivial⟩, rfl⟩
 have c0 : cK o ≠ 0 := of_decide_eq_false c0
 have g0 : CS bits room (doD bits room L o (0, 0)).L := doD_cs h c0 (0, 0)
 refine ⟨fun c1 => ?_, fun c1 => ?_⟩
 · have c1 : cK o = 1 := of_decide_eq_true c1
   have hE : doD bits room L o (0, 0) = rmC L (cNm o) := (if_neg c0).trans (if_pos c1)
   have hL := congrArg CR.L hE
   refine ⟨_, _, _, _, chremove_fn h (cNm o), ⟨rfl, rfl, rfl, rfl, trivial⟩, rfl, ?_⟩
   exact ⟨⟨_, g0⟩, _, _, _, Le.refl _ _, rfl, congrArg CR.e hE.symm, ⟨rfl, congrArg (fun l => some (Ch.map .str .adr (chE l))) hL.symm, congrArg (fun l => some (Ch.obj (.pool (chD l)))) hL.symm, congrArg (fun l => some (Ch.obj (.pool (chM l)))) hL.symm, trivial⟩, rfl⟩
 have c1 : cK o ≠ 1 := of_decide_eq_false c1
 refine ⟨fun c2 => ?_, fun c2 => ?_⟩
 · have c2 : cK o = 2 := of_decide_eq_true c2
   have hE : doD bits room L o (0, 0) = rbC L (cNm o) (cOt o) := (if_neg c0).trans ((if_neg c1).trans (if_pos c2))
   have hL := congrArg CR.L hE
   refine ⟨_, _, _, _, chrebase_fn h (cNm o) (cOt o), ⟨rfl, rfl, rfl, rfl, trivial⟩, rfl, ?_⟩
   exact ⟨⟨_, g0⟩, _, _, _, Le.refl _ _, rfl, congrArg CR.e hE.symm, ⟨rfl, congrArg (fun l => some (Ch.map .str .adr (chE l))) hL.symm, congrArg (fun l => some (Ch.obj (.pool (chD l)))) hL.symm, congrArg (fun l => some (Ch.obj (.pool (chM l)))) hL.symm, trivial⟩, rfl⟩
 have c2 : cK o ≠ 2 := of_decide_eq_false c2
 refine ⟨fun c3 => ?_, fun c3 => ?_⟩
 · have c3 : cK o = 3 := of_decide_eq_true c3
   have hQ : doD bits room L o (0, 0) = doW bits L (cNm o) (cQ o) := (if_neg c0).trans ((if_neg c1).trans ((if_neg c2).trans (if_pos c3)))
   refine ⟨fun d1 => ?_, fun d1 => ?_⟩
   · have d1 : qK (cQ o) = 1 := of_decide_eq_true d1
     have hE := hQ.trans (if_pos d1)
     have hL := congrArg CR.L hE
     refine ⟨_, _, _, _, chwrite_fn h (cNm o) (qA (cQ o)) (qB (cQ o)) (by omega), ⟨rfl, rfl, rfl, rfl, trivial⟩, rfl, ?_⟩
     exact ⟨⟨_, g0⟩, _, _, _, Le.refl _ _, rfl, congrArg CR.e hE.symm, ⟨rfl, congrArg (fun l => some (Ch.map .str .adr (chE l))) hL.symm, congrArg (fun l => some (Ch.obj (.pool (chD l)))) hL.symm, congrArg (fun l => some (Ch.obj (.pool (chM l)))) hL.symm, trivial⟩, rfl⟩
   have d1 : qK (cQ o) ≠ 1 := of_decide_eq_false d1
   refine ⟨fun d2 => ?_, fun d2 => ?_⟩
   · have d2 : qK (cQ o) = 2 := of_decide_eq_true d2
     have hE := hQ.trans ((if_neg d1).trans (if_pos d2))
     have hL := congrArg CR.L hE
     refine ⟨_, _, _, _, chzero_fn h (cNm o) (qA (cQ o)) (qL (cQ o)), ⟨rfl, rfl, rfl, rfl, trivial⟩, rfl, ?_⟩
     exact ⟨⟨_, g0⟩, _, _, _, Le.refl _ _, rfl, congrArg CR.e hE.symm, ⟨rfl, congrArg (fun l => some (Ch.map .str .adr (chE l))) hL.symm, congrArg (fun l => some (Ch.obj (.pool (chD l)))) hL.symm, congrArg (fun l => some (Ch.obj (.pool (chM l)))) hL.symm, trivial⟩, rfl⟩
   have d2 : qK (cQ o) ≠ 2 := of_decide_eq_false d2
   refine ⟨fun d3 => ?_, fun d3 => ?_⟩
   · have d3 : qK (cQ o) = 3 := of_decide_eq_true d3
     have hE := hQ.trans ((if_neg d1).trans ((if_neg d2).trans (if_pos d3)))
     have hL := congrArg CR.L hE
     refine ⟨_, _, _, _, chdisc_fn h (cNm o) (qA (cQ o)) (qL (cQ o)), ⟨rfl, rfl, rfl, rfl, trivial⟩, rfl, ?_⟩
     exact ⟨⟨_, g0⟩, _, _, _, Le.refl _ _, rfl, congrArg CR.e hE.symm, ⟨rfl, congrArg (fun l => some (Ch.map .str .adr (chE l))) hL.symm, congrArg (fun l => some (Ch.obj (.pool (chD l)))) hL.symm, congrArg (fun l => some (Ch.obj (.pool (chM l)))) hL.symm, trivial⟩, rfl⟩
   have d3 : qK (cQ o) ≠ 3 := of_decide_eq_false d3
   have hE := hQ.trans ((if_neg d1).trans ((if_neg d2).trans (if_neg d3)))
   have hL := congrArg CR.L hE
   exact ⟨⟨_, g0⟩, _, _, _, Le.refl _ _, rfl, congrArg CR.e hE.symm, ⟨rfl, congrArg (fun l => some (Ch.map .str .adr (chE l))) hL.symm, congrArg (fun l => some (Ch.obj (.pool (chD l)))) hL.symm, congrArg (fun l => some (Ch.obj (.pool (chM l)))) hL.symm, trivial⟩, rfl⟩
 have c3 : cK o ≠ 3 := of_decide_eq_false c3
 have hE : doD bits room L o (0, 0) = ⟨0, L⟩ := (if_neg c0).trans ((if_neg c1).trans ((if_neg c2).trans (if_neg c3)))
 have hL := congrArg CR.L hE
 exact ⟨⟨_, g0⟩, _, _, _, Le.refl _ _, rfl, congrArg CR.e hE.symm, ⟨rfl, congrArg (fun l => some (Ch.map .str .adr (chE l))) hL.symm, congrArg (fun l => some (Ch.obj (.pool (chD l)))) hL.symm, congrArg (fun l => some (Ch.obj (.pool (chM l)))) hL.symm, trivial⟩, rfl⟩
/-! ### maps -/
end Go.Proofs.YtojaemgabaehdaaGreat
/-!
  What was not written to is as it was; sectors laid over sectors. Law 20's pulls.
-/
namespace Go.Proofs.YtojaemgabaehdaaGreat
set_option linter.unusedVariables false
set_option linter.unusedSimpArgs false
set_option maxRecDepth 10000
open Go.RowKit Go.Proofs
/-! ### granules -/
def mgI (es : List (El uI × El uI)) (k : Int) : Option Int := mget (ku := uI) (vu := uI) es k
theorem mgI_put (es : List (El uI × El uI)) (k j : Int) : mgI (mput (ku := uI) (vu := uI) es k (1 : Int)) j = if j = k then some 1 else mgI es j := by
 have h := mget_mput (ku := uI) (vu := uI) eqKey_int k (1 : Int) es
 by_cases e : j = k
 · rw [if_pos e, e]; exact h.1
 · rw [if_neg e]; exact h.2 j e
theorem bzPut_get (es : List (El uI × El uI)) (f k : Int) : ∀ n : Nat, mgI (bzPut es f n) k = if f ≤ k ∧ k < f + (n : Int) then some 1 else mgI es k
 | 0 => by
   rw [if_neg (by omega)]
   rfl
 | n + 1 => by
   have ih := bzPut_get es f k n
   show mgI (mput (ku := uI) (vu := uI) (bzPut es f n) (f + (n : Int)) (1 : Int)) k = _
   rw [mgI_put, ih]
   by_cases e : k = f + (n : Int)
   · rw [if_pos e, if_pos (by omega)]
   · rw [if_neg e]
     by_cases h2 : f ≤ k ∧ k < f + n
     · rw [if_pos h2, if_pos (by omega)]
     · rw [if_neg h2, if_neg (by omega)]
theorem bzIs_I (g : Int) (es : List (El uI × El uI)) (k : Nat) : bzIs g es k = pos0 ((mgI es ((k : Int) / g)).getD 0) := rfl
theorem bzIs_set {s g : Int} (hg : 1 ≤ g) (es : List (El uI × El uI)) (fr lg : Int) (k : Nat) (h : bzIs g (bzSet s g es fr lg) k = false) : bzIs g es k = false ∧ (bzV s fr lg → ¬ (fr ≤ (k : Int) ∧ (k : Int) < fr + lg)) := by
 unfold bzSet at h
 split at h
 · rename_i hv
   rw [bzIs_I] at h ⊢
   rw [bzPut_get] at h
   by_cases hc : fr / g ≤ (k : Int) / g ∧ (k : Int) / g < fr / g + ((((if lg = 0 then 0 else (fr + lg + g - 1) / g) - fr / g).toNat : Nat) : Int)
   · rw [if_pos hc] at h
     exact absurd (show pos0 1 = false from h) (by decide)
   · rw [if_neg hc] at h
     refine ⟨h, fun _ hin => hc ?_⟩
     obtain ⟨v1, v2, v3, v4⟩ := hv
     have hl : lg ≠ 0 := by omega
     rw [if_neg hl]
     have p1 : fr / g ≤ (k : Int) / g := Int.ediv_le_ediv (by omega) hin.1
     have p2 : (k : Int) / g + 1 ≤ (fr + lg + g - 1) / g := by
       have : ((k : Int) + g) / g ≤ (fr + lg + g - 1) / g := Int.ediv_le_ediv (by omega) (by omega)
       rwa [Int.add_ediv_of_dvd_right (Int.dvd_refl g), Int.ediv_self (by omega)] at this
     omega
 · rename_i hv
   exact ⟨h, fun h2 => absurd h2 hv⟩
/-! ### sectors -/
section
variable {bits room : Nat} {L : List Dsk} {nm : List UInt8}
theorem dsC_sec (h : CS bits room L) {a l : Int} {s : Nat} (hv : ∀ d, dk L nm = some d → iIns d.im a l = 0 → ¬ (a ≤ (s : Int) ∧ (s : Int) < a + l)) : crdP bits (dsC L nm a l).L nm (dpt (dsC L nm a l).L nm) s = crdP bits L nm (dpt L nm) s := by
 unfold dsC
 cases hd : dk L nm with
 | none => rfl
 | some d =>
   simp only
   split
   · rfl
   · rename_i hin
     have hin : iIns d.im a l = 0 := Decidable.byContradiction hin
     have hv := hv d hd hin
     obtain ⟨ha, hl⟩ := iIns_pos hin
     rw [ha, hl] at hin hv
     obtain ⟨hO, hbt, _⟩ := h.ims d (dk_get hd).1
     generalize a.toNat = a0 at *
     generalize l.toNat = l0 at *
     have hI := dsI hO (iIns_all hin) _ (Nat.le_refl _)
     rw [crdP_sec, crdP_sec]
     congr 1
     refine cseen_same h hd hI.like.tl ?_ nm
     have hW := wid_eq h hd
     have hp : 0 < 2 ^ bits := Nat.two_pow_pos bits
     by_cases hfar : s / 2 ^ bits < 16 * a0 / wid d.im ∨ 16 * a0 / wid d.im + pcN (wid d.im) a0 l0 ≤ s / 2 ^ bits
     · exact hI.far _ hfar
     · obtain ⟨j, hj, hc⟩ : ∃ j, j < pcN (wid d.im) a0 l0 ∧ s / 2 ^ bits = 16 * a0 / wid d.im + j := ⟨s / 2 ^ bits - 16 * a0 / wid d.im, by omega, by omega⟩
       have hdn := hI.done j hj
       rw [← hc] at hdn
       split at hdn
       · rename_i hfull
         exfalso
         have e1 : (pce (wid d.im) a0 l0 j).a = 16 * a0 - (16 * a0 / wid d.im + j) * wid d.im := rfl
         have e2 : (pce (wid d.im) a0 l0 j).b = min (16 * (a0 + l0) - (16 * a0 / wid d.im + j) * wid d.im) (wid d.im) := rfl
         rw [e1, e2, ← hc] at hfull
         have e3 : s / 2 ^ bits * wid d.im = 16 * (s / 2 ^ bits * 2 ^ bits) := by rw [hW, Nat.mul_left_comm]
         rw [e3, hW] at hfull
         have e4 := Nat.div_add_mod s (2 ^ bits)
         have e5 := Nat.mod_lt s hp
         rw [Nat.mul_comm] at e4
         generalize s / 2 ^ bits * 2 ^ bits = q at *
         generalize s % 2 ^ bits = r at *
         generalize 2 ^ bits = P at *
         exact hv (by omega)
       · exact hdn
/-- Sectors that are not written to. -/
theorem doW_sec (h : CS bits room L) (q : Cq) {s : Nat} (hv : ∀ d, dk L nm = some d → iIns d.im (qA q) (if qK q = 1 then (((qB q).length : Nat) : Int) / 16 else qL q) = 0 → ¬ (qA q ≤ (s : Int) ∧ (s : Int) < qA q + (if qK q = 1 then (((qB q).length : Nat) : Int) / 16 else qL q))) :
   crdP bits (doW bits L nm q).L nm (dpt (doW bits L nm q).L nm) s = crdP bits L nm (dpt L nm) s := by
 unfold doW
 split
 · rename_i c1
   rw [if_pos c1] at hv
   by_cases he : (wrC bits L nm (qA q) (qB q)).e = 0
   · obtain ⟨d, hd, hbl, ha, hin, _, _⟩ := wrC_inv he
     rw [wr_sector h he, if_neg]
     have e1 : (((qB q).length / 16 : Nat) : Int) = (((qB q).length : Nat) : Int) / 16 := by omega
     rw [e1] at hin
     have := hv d hd (by rw [ha]; exact hin)
     omega
   · rw [wrC_err h he]
 · rename_i c1
   rw [if_neg c1] at hv
   split
   · by_cases he : (zrC bits L nm (qA q) (qL q)).e = 0
     · obtain ⟨d, hd, ha, hl, hin, _, _⟩ := zrC_inv he
       rw [zr_sector h he, if_neg]
       have := hv d hd (by rw [ha, hl]; exact hin)
       omega
     · rw [zrC_err h he]
   · split
     · exact dsC_sec h hv
     · rfl
end
theorem sec_crdK {bits room : Nat} {L : List Dsk} (hC : CS bits room L) {nm : List UInt8} {d0 : Dsk} (h0 : dk L nm = some d0) (a n j : Nat) (hj : j < n) : sec (crdK bits L nm (dpt L nm) a n) j = crdP bits L nm (dpt L nm) (a + j) := by
 have hlen := fun m => crdK_len hC.toChOK h0 (hC.dep nm).1 a m
 induction n with
 | zero => omega
 | succ n ih =>
   have e : crdK bits L nm (dpt L nm) a (n + 1) = crdK bits L nm (dpt L nm) a n ++ crdP bits L nm (dpt L nm) (a + n) := rfl
   rw [e]
   unfold sec
   by_cases hjn : j < n
   · rw [List.take_append_of_le_length (by rw [hlen]; omega)]
     exact ih hjn
   · have : j = n := by omega
     subst this
     have h1 := hlen (j + 1)
     rw [e, List.length_append, hlen] at h1
     rw [List.take_of_length_le (by rw [List.length_append, hlen]; omega), show j * 16 = (crdK bits L nm (dpt L nm) a j).length by rw [hlen]; omega, List.drop_left]
theorem sec_ext {x y : List UInt8} {n : Nat} (hx : x.length = 16 * n) (hy : y.length = 16 * n) (h : ∀ j, j < n → sec x j = sec y j) : x = y := by
 apply List.ext_getElem?
 intro i
 by_cases hi : i < 16 * n
 · have h1 := congrArg (fun z : List UInt8 => z[i % 16]?) (h (i / 16) (by omega))
   simp only [sec_get] at h1
   rw [if_pos (Nat.mod_lt _ (by decide)), if_pos (Nat.mod_lt _ (by decide)), show i / 16 * 16 + i % 16 = i by omega] at h1
   exact h1
 · rw [List.getElem?_eq_none (by omega), List.getElem?_eq_none (by omega)]
theorem laid_cut (X : List UInt8) (off n : Nat) {ys : List UInt8} (h : ys.length ≤ n) : laid X off n ys = laid X off ys.length ys := by
 unfold laid
 rw [List.take_of_length_le h, List.take_length]
theorem laidF_len {X ys : List UInt8} {off : Nat} (h : off + ys.length ≤ X.length) : (laid X off ys.length ys).length = X.length := by
 unfold laid
 rw [List.take_length, List.length_append, List.length_append, List.length_take, List.length_drop]
 omega
theorem sec_lay {X ys : List UInt8} {f m : Nat} (hX : 16 * f + 16 * m ≤ X.length) (hy : ys.length = 16 * m) (j : Nat) : sec (laid X (16 * f) ys.length ys) j = if f ≤ j ∧ j < f + m then sec ys (j - f) else sec X j := by
 apply List.ext_getElem?
 intro i
 rw [sec_get]
 have hl := fun z => laid_get (X := X) (off := 16 * f) (n := ys.length) (ys := ys) (by omega) rfl z
 by_cases hi : i < 16
 · rw [if_pos hi, hl]
   by_cases hin : f ≤ j ∧ j < f + m
   · rw [if_pos hin, if_neg (by omega), if_pos (by omega), sec_get, if_pos hi]
     congr 1
     omega
   · rw [if_neg hin, sec_get, if_pos hi]
     by_cases h1 : j * 16 + i < 16 * f
     · rw [if_pos h1]
     · rw [if_neg h1, if_neg (by omega)]
 · rw [if_neg hi]
   split
   · rw [sec_get, if_neg hi]
   · rw [sec_get, if_neg hi]
/-! ### one request is answered -/
theorem srv_one (ans : Rq → List UInt8) {r : Rq} (hf : rqFit r = true) (hk : kindOK (rqK r) = true) (h4 : rqK r ≠ 4) : srv ans (askB r).length (askB r) = (ans r, 0, 0) := by
 have hh := hear_ask hf hk
 have hl : (askB r).length = 16 := by
   unfold askB
   simp only [List.length_append, encR_length]
 have ht : (askB r).take 16 = askB r := List.take_of_length_le (by omega)
 have hd : (askB r).drop 16 = [] := List.drop_eq_nil_of_le (by omega)
 rw [hl]
 unfold srv
 rw [if_neg (by omega), ht, hh.1, hh.2, if_neg (by decide), if_neg h4, hd]
 show (ans r ++ (srv ans 15 []).1, (srv ans 15 []).2) = _
 show (ans r ++ [], 0, 0) = _
 rw [List.append_nil]
theorem rpl_one {e h : Int} {b : List UInt8} (hf : tellOK e h b = true) : rplL ((tellB e h b).length + 1) (tellB e h b, 0) = some [(e, h, b)] := by
 have := rpl_cons (n := (tellB e h b).length) (t := []) hf
 rw [List.append_nil, rpl_nil] at this
 exact this
/-! ### pulls -/
@[reducible] def exV (f m k : Int) : SV := .c (.agg [.d (.int .i64 f), .d (.int .i64 m), .d (.int .i64 k)])
@[reducible] def plB (L : List Dsk) (d : List DEn) (X : List UInt8) : BL := svB 1 60 L (dirO d) ++ [(2001, .row 5 .u8 X)]
@[reducible] def plX (L : List Dsk) (d : List DEn) (X : List UInt8) (f m k : Int) : BL := svB 1 60 L (dirO d) ++ [(2001, .row 5 .u8 X), (7, .cells [.d (.int .i64 f), .d (.int .i64 m), .d (.int .i64 k)])]
set_option maxHeartbeats 2000000 in
theorem pulls20_fn {L : List Dsk} (hC : CS 1 60 L) {d : List DEn} (hD : DOK d) {db : Dsk} (hb : dk L [98] = some db) (X : List UInt8) (f m : Nat) (k : Int) (h1 : 1 ≤ m) (h64 : m ≤ 64) (hfm : f + m ≤ db.im.t.length * 2) (hX : X.length = 16 * (db.im.t.length * 2)) :
   Fn Tryz.prog 82 [vP 1001, vP 1005, vOwn 2001, exV f m k] (plB L d X) [] (vB true) (plB L d (laid X (16 * f) (16 * m) (crdK 1 L [98] (dpt L [98]) f m))) := by
 obtain ⟨hO, hbt, _⟩ := hC.ims db (dk_get hb).1
 have htl := hO.tl
 have hia := iall_one hC hb
 have hia : iall db.im = db.im.t.length * 2 := hia
 have hfit : rqFit (1, 0, 0, (f : Int), (m : Int)) = true := by
   show (fit 1 1 && (fit 1 0 && (fit 2 0 && (fit 4 (f : Int) && fit 4 (m : Int))))) = true
   rw [(fit_iff (w := 4) (n := (f : Int))).2 ⟨by omega, by rw [Int.toNat_natCast]; show f < 4294967296; omega⟩, (fit_iff (w := 4) (n := (m : Int))).2 ⟨by omega, by rw [Int.toNat_natCast]; show m < 4294967296; omega⟩]
   rfl
 have hak := ask_ok (1, 0, 0, (f : Int), (m : Int)) hfit rfl
 have hal : (askB (1, 0, 0, (f : Int), (m : Int))).length = 16 := by
   unfold askB
   simp only [List.length_append, encR_length]
 have hs := serveAll_fn hC hD [98] (askB (1, 0, 0, (f : Int), (m : Int))) (by omega)
 have hin : iIns db.im (f : Int) (m : Int) = 0 := by
   unfold iIns
   rw [if_neg (by omega), if_neg (by omega)]
 have hrd : anX 1 L [98] d (1, 0, 0, (f : Int), (m : Int)) = (crdK 1 L [98] (dpt L [98]) f m, 0) := by
   show (if (64 : Int) < (m : Int) then ([], 201) else rdC 1 L [98] (f : Int) (m : Int)) = _
   rw [if_neg (by omega)]
   unfold rdC
   rw [hb]
   simp only
   rw [if_pos hin, Int.toNat_natCast, Int.toNat_natCast]
 have hyl := crdK_len hC.toChOK hb (hC.dep [98]).1 f m
 have han : anB 1 L [98] d (1, 0, 0, (f : Int), (m : Int)) = tellB 0 0 (crdK 1 L [98] (dpt L [98]) f m) := by
   unfold anB
   rw [hrd]
 rw [srv_one _ hfit rfl (by show ¬ (1 : Int) = 4; decide), han] at hs
 generalize crdK 1 L [98] (dpt L [98]) f m = Y at *
 have hT : tellOK 0 0 Y = true := by
   show (fit 2 0 && (fit 2 0 && fit 4 ((Y.length : Nat) : Int))) = true
   rw [(fit_iff (w := 4) (n := ((Y.length : Nat) : Int))).2 ⟨by omega, by rw [Int.toNat_natCast]; show Y.length < 4294967296; omega⟩]
   rfl
 have htl2 : (tellB 0 0 Y).length ≤ 2000 := by
   unfold tellB
   simp only [List.length_append, encR_length, encT_length]
   omega
 have hrp := replies_ok (tellB 0 0 Y) [(0, 0, Y)] (by omega) (rpl_one hT)
 simp only at hs
 generalize askB (1, 0, 0, (f : Int), (m : Int)) = A at *
 generalize tellB 0 0 Y = T at *
 have e1 : (16 * m : Nat) = Y.length := hyl.symm
 refine Fn.of tblOK [2,3,4,6] _ _ _ _ _ Tryz.func82 rfl rfl (by kernel_rfl) (by kernel_rfl) rfl (drawOK tblOK) rfl ?_
 refine ⟨rfl, ?_⟩
 refine ⟨_, _, _, _, Fn.arg (Fn.ren [(1001, 5001)] hak) ⟨⟨rfl, rfl, rfl, rfl, rfl, trivial⟩, trivial⟩, trivial, rfl, ?_⟩
 show TrQ _ _ _ _ _ _ _
 refine TrQ.go tblOK (drawOK tblOK) [3,4,6] (by kernel_rfl) (Le.trans (Le.frz 5001 rfl) (Le.sub (K' := [(0, vP 1001), (1, vP 1005), (2, vOwn 2001), (7, vP 7), (9, vL .u8 A)]) (B' := plX L d X f m k) ⟨rfl, rfl, rfl, rfl, rfl, trivial⟩ ⟨rfl, rfl, rfl, rfl, rfl, rfl, rfl, trivial⟩)) ?_
 refine ⟨_, _, _, _, hs, ⟨rfl, rfl, rfl, rfl, rfl, trivial⟩, rfl, ?_⟩
 show TrQ _ _ _ _ _ _ _
 refine TrQ.go tblOK (drawOK tblOK) [4,6] (by kernel_rfl) (Le.trans (Le.frz 1009 rfl) (Le.sub (K' := [(2, vOwn 2001), (7, vP 7), (11, vL .u8 T)]) (B' := plX L d X f m k) ⟨rfl, rfl, rfl, trivial⟩ ⟨rfl, rfl, rfl, rfl, rfl, rfl, rfl, trivial⟩)) ?_
 refine ⟨_, _, _, _, Fn.ren [(1001, 5001)] hrp, trivial, rfl, ?_⟩
 show TrQ _ _ _ _ _ _ _
 refine TrQ.go tblOK (drawOK tblOK) [6] (by kernel_rfl) (Le.trans (Le.frz 5001 rfl) (Le.sub (K' := [(2, vOwn 2001), (7, vP 7), (14, vL uRp [((0 : Int), (0 : Int), Y)]), (15, vI 0)]) (B' := plX L d X f m k) ⟨rfl, rfl, rfl, rfl, trivial⟩ ⟨rfl, rfl, rfl, rfl, rfl, rfl, rfl, trivial⟩)) ?_
 have p0 : (0 : Int) ≤ 0 := by decide
 have p1 : (-9223372036854775808 : Int) ≤ (m : Int) * 16 ∧ (m : Int) * 16 ≤ 9223372036854775807 := by omega
 have p2 : (-9223372036854775808 : Int) ≤ (f : Int) + (m : Int) ∧ (f : Int) + (m : Int) ≤ 9223372036854775807 := by omega
 have p3 : (-9223372036854775808 : Int) ≤ ((f : Int) + (m : Int)) * 16 ∧ ((f : Int) + (m : Int)) * 16 ≤ 9223372036854775807 := by omega
 have p4 : (-9223372036854775808 : Int) ≤ (f : Int) * 16 ∧ (f : Int) * 16 ≤ 9223372036854775807 := by omega
 refine ⟨fun h => absurd h (by decide), fun _ => ?_⟩
 refine ⟨fun h => absurd (show (!decide ((1 : Int) = 1)) = true from h) (by decide), fun _ => ?_⟩
 refine ⟨p0, ((0 : Int), (0 : Int), Y), rfl, ?_⟩
 refine ⟨fun h => absurd (show (!decide ((0 : Int) = 0)) = true from h) (by decide), fun _ => ?_⟩
 refine ⟨p0, ((0 : Int), (0 : Int), Y), rfl, ?_⟩
 refine ⟨p1, ?_⟩
 refine ⟨fun h => absurd (show (!decide (((Y.length : Nat) : Int) = (m : Int) * 16)) = true from h) (by rw [show ((Y.length : Nat) : Int) = (m : Int) * 16 by omega]; simp), fun _ => ?_⟩
 refine ⟨p2, p3, ?_⟩
 refine ⟨indep_of (by kernel_rfl), ?_⟩
 refine ⟨fun h => absurd (show ((X.length : Nat) : Int) < ((f : Int) + (m : Int)) * 16 from of_decide_eq_true h) (by omega), fun _ => ?_⟩
 show TrQ _ _ _ _ _ _ _
 refine TrQ.go tblOK (drawOK tblOK) [] (by kernel_rfl) (Le.refl _ _) ?_
 refine ⟨p4, ?_⟩
 refine ⟨(show (0 : Int) ≤ (f : Int) * 16 ∧ (f : Int) * 16 ≤ ((X.length : Nat) : Int) by omega), ?_⟩
 refine ⟨p0, ((0 : Int), (0 : Int), Y), rfl, ?_⟩
 have eo : ((f : Int) * 16).toNat = 16 * f := by omega
 refine ⟨(by show ((f : Int) * 16).toNat + (X.length - ((f : Int) * 16).toNat) ≤ X.length; omega), ?_⟩
 refine ⟨indep_of (by kernel_rfl), ?_⟩
 have eL : laid X ((f : Int) * 16).toNat (X.length - ((f : Int) * 16).toNat) Y = laid X (16 * f) (16 * m) Y := by
   rw [eo, e1, laid_cut X (16 * f) (X.length - 16 * f) (by omega)]
 exact ⟨_, _, _, Le.refl _ _, rfl, rfl, ⟨rfl, rfl, rfl, rfl, rfl, congrArg (fun z => some (Ch.row 5 .u8 z)) eL, trivial⟩, rfl⟩
end Go.Proofs.YtojaemgabaehdaaGreat
/-!
  ExportPulls: who has a copy of a disk as it was when a bitmap was cleared, and lays over what that tells to be dirty, has the disk as it is.
-/
namespace Go.Proofs.YtojaemgabaehdaaGreat
set_option linter.unusedVariables false
set_option linter.unusedSimpArgs false
set_option maxRecDepth 10000
open Go.RowKit Go.Proofs
/-! ### the invariants -/
abbrev nb : List UInt8 := [98]
/-- What was not written to since is as it was. -/
structure PI (L0 : List Dsk) (N : Nat) (g : Int) (L : List Dsk) (es : List (El uI × El uI)) : Prop where
 cs : CS 1 60 L
 db : ∃ d, dk L nb = some d ∧ d.im.t.length = N
 nd : KNd es
 sec : ∀ s, s < 2 * N → bzIs g es s = false → crdP 1 L nb (dpt L nb) s = crdP 1 L0 nb (dpt L0 nb) s
@[reducible] def cQn (q : Cq) : Int := if qK q = 1 then (((qB q).length : Nat) : Int) / 16 else qL q
theorem PI.step {L0 : List Dsk} {N : Nat} {g : Int} {L : List Dsk} {es : List (El uI × El uI)} (h : PI L0 N g L es) (hg : 1 ≤ g) (q : Cq) : PI L0 N g (doW 1 L nb q).L (bzSet ((2 * N : Nat) : Int) g es (qA q) (cQn q)) := by
 obtain ⟨d, hd, hN⟩ := h.db
 have hl := doW_lm h.cs nb q
 have hsz := (hl.sz nb).1
 have hs := (hl.sz nb).2
 rw [hd] at hs
 refine ⟨doW_cs h.cs nb q, ?_, bzSet_nd h.nd _ _, fun s hs2 hz => ?_⟩
 · cases hd' : dk (doW 1 L nb q).L nb with
   | none => rw [hd'] at hs; cases hs
   | some d' =>
     refine ⟨d', rfl, ?_⟩
     unfold szOf at hsz
     rw [hd, hd'] at hsz
     simp only at hsz
     omega
 · obtain ⟨z1, z2⟩ := bzIs_set hg es _ _ s hz
   rw [doW_sec h.cs q, h.sec s hs2 z1]
   intro d' hd' hin
   rw [hd] at hd'
   injection hd' with hd'
   subst hd'
   have hia := iall_one h.cs hd
   have hia : iall d.im = N * 2 := by rw [hia, hN]
   have hin : iIns d.im (qA q) (cQn q) = 0 := hin
   show ¬ (qA q ≤ (s : Int) ∧ (s : Int) < qA q + cQn q)
   refine z2 ?_
   generalize cQn q = lg at *
   generalize qA q = aa at *
   unfold iIns at hin
   rw [hia] at hin
   unfold bzV
   split at hin
   · exact absurd hin (by decide)
   · split at hin
     · exact absurd hin (by decide)
     · have e : ((2 * N : Nat) : Int) = ((N * 2 : Nat) : Int) := by rw [Nat.mul_comm]
       rw [e]
       omega
/-- What was laid over so far. -/
structure LI (L0 L : List Dsk) (N : Nat) (ks : List Int) (p : Nat) (X : List UInt8) : Prop where
 len : X.length = 16 * (N * 2)
 sec : ∀ s, s < N * 2 → Go.Proofs.YtojaemgabaehdaaGreat.sec X s = if s < p ∧ ks[s]? = some 1 then crdP 1 L nb (dpt L nb) s else crdP 1 L0 nb (dpt L0 nb) s
theorem LI.skip {L0 L : List Dsk} {N : Nat} {ks : List Int} {p m : Nat} {X : List UInt8} (h : LI L0 L N ks p X) (hk : ∀ s, p ≤ s → s < p + m → ks[s]? ≠ some 1) : LI L0 L N ks (p + m) X := by
 refine ⟨h.len, fun s hs => ?_⟩
 rw [h.sec s hs]
 by_cases h1 : ks[s]? = some 1
 · by_cases h2 : s < p
   · rw [if_pos ⟨h2, h1⟩, if_pos ⟨by omega, h1⟩]
   · rw [if_neg (fun e => h2 e.1), if_neg (fun e => hk s (by omega) e.1 h1)]
 · rw [if_neg (fun e => h1 e.2), if_neg (fun e => h1 e.2)]
theorem LI.lay {L0 L : List Dsk} {N : Nat} {ks : List Int} {p m : Nat} {X : List UInt8} (hC : CS 1 60 L) {d : Dsk} (hd : dk L nb = some d) (h : LI L0 L N ks p X) (hpm : p + m ≤ N * 2) (hk : ∀ s, p ≤ s → s < p + m → ks[s]? = some 1) : LI L0 L N ks (p + m) (laid X (16 * p) (16 * m) (crdK 1 L nb (dpt L nb) p m)) := by
 have hyl := crdK_len hC.toChOK hd (hC.dep nb).1 p m
 have hsy := fun j hj => sec_crdK hC hd p m j hj
 generalize crdK 1 L nb (dpt L nb) p m = Y at *
 rw [← hyl]
 have hX := h.len
 refine ⟨by rw [laidF_len (X := X) (ys := Y) (off := 16 * p) (by omega)]; exact hX, fun s hs => ?_⟩
 rw [sec_lay (X := X) (ys := Y) (f := p) (m := m) (by omega) hyl, h.sec s hs]
 by_cases h1 : p ≤ s ∧ s < p + m
 · rw [if_pos h1, hsy (s - p) (by omega), if_pos ⟨h1.2, hk s h1.1 h1.2⟩]
   congr 1
   omega
 · rw [if_neg h1]
   by_cases h2 : s < p
   · by_cases h3 : ks[s]? = some 1
     · rw [if_pos ⟨h2, h3⟩, if_pos ⟨by omega, h3⟩]
     · rw [if_neg (fun e => h3 e.2), if_neg (fun e => h3 e.2)]
   · rw [if_neg (fun e => h2 e.1), if_neg (fun e => h1 ⟨by omega, e.1⟩)]
theorem bzKs_get {g : Int} {es : List (El uI × El uI)} {n s : Nat} (h : s < n) : (bzKs g es n)[s]? = some (if bzIs g es s = true then 1 else 0) := by
 unfold bzKs
 rw [List.getElem?_map, List.getElem?_range h]
 rfl
theorem LI.done {L0 L : List Dsk} {N : Nat} {g : Int} {es : List (El uI × El uI)} {X : List UInt8} (hP : PI L0 N g L es) (h : LI L0 L N (bzKs g es (N * 2)) (N * 2) X) : X = crdK 1 L nb (dpt L nb) 0 (N * 2) := by
 obtain ⟨d, hd, hN⟩ := hP.db
 have hyl := crdK_len hP.cs.toChOK hd (hP.cs.dep nb).1 0 (N * 2)
 refine sec_ext (n := N * 2) h.len hyl fun s hs => ?_
 rw [h.sec s hs, sec_crdK hP.cs hd 0 (N * 2) s hs, Nat.zero_add, bzKs_get hs]
 cases hz : bzIs g es s with
 | true => rw [if_pos ⟨hs, rfl⟩]
 | false => rw [if_neg (fun e => by have := e.2; cases this), hP.sec s (by omega) hz]
theorem LI.start {L0 : List Dsk} {N : Nat} {d : Dsk} (hC : CS 1 60 L0) (hd : dk L0 nb = some d) (L : List Dsk) (ks : List Int) : LI L0 L N ks 0 (crdK 1 L0 nb (dpt L0 nb) 0 (N * 2)) := by
 refine ⟨crdK_len hC.toChOK hd (hC.dep nb).1 0 (N * 2), fun s hs => ?_⟩
 rw [if_neg (fun e => absurd e.1 (Nat.not_lt_zero s)), sec_crdK hC hd 0 (N * 2) s hs, Nat.zero_add]
/-! ### the law -/
@[reducible] def xE (ad ab : Nat) (s g : Int) (es : List (El uI × El uI)) : DEn := ⟨[120], ad, ab, true, true, s, g, es⟩
theorem xE_nms (ad ab : Nat) (s g : Int) (es : List (El uI × El uI)) : dNms [xE ad ab s g es] = [[120]] := by
 unfold dNms keysS
 rw [mkeys_dE]
 exact List.mergeSort_singleton _
theorem xE_ok {ad ab : Nat} {s g : Int} {es : List (El uI × El uI)} (h : (0 ≤ s ∧ s ≤ 4096) ∧ (1 ≤ g ∧ g ≤ 64) ∧ KNd es) : DOK [xE ad ab s g es] :=
 ⟨by simp, by simp, by simp, (fun e he => by rw [List.mem_singleton.1 he]; exact ⟨h.1, h.2.1, h.2.2, (by show ([120] : List UInt8).length ≤ 64; decide)⟩), (by show 1 ≤ 8; decide)⟩
theorem xE_wr (ad ab : Nat) (s g : Int) (es : List (El uI × El uI)) (fr lg : Int) : [xE ad ab s g es].map (wrE fr lg) = [xE ad ab s g (bzSet s g es fr lg)] := by
 show [wrE fr lg (xE ad ab s g es)] = _
 unfold wrE
 rw [if_pos rfl]
@[reducible] def opB (o : Cop) : Cop := (cK o, cSz o, nb, cOt o, cQ o)
@[reducible] def nfK1 (l mo : List Cop) (g : Int) (k : Nat) : KL := [(1, vI g), (2, vL uC mo), (7, vP 1001), (9, vP 1005), (72, vL uC l), (73, vI (l.length : Nat)), (74, vI (k : Nat))]
@[reducible] def nfK2 (mo : List Cop) (g : Int) (am : Nat) : KL := [(1, vI g), (2, vL uC mo), (7, vP 1001), (9, vP 1005), (12, vAd am)]
@[reducible] def nfK3 (mo : List Cop) (N : Nat) : KL := [(2, vL uC mo), (7, vP 1001), (9, vP 1005), (13, vI ((N * 2 : Nat) : Int)), (14, vP 2001), (15, vI 0)]
@[reducible] def nfK4 (mo : List Cop) (N : Nat) (k : Nat) : KL := [(7, vP 1001), (9, vP 1005), (13, vI ((N * 2 : Nat) : Int)), (16, vOwn 2001), (120, vL uC mo), (121, vI (mo.length : Nat)), (122, vI (k : Nat))]
@[reducible] def nfK5 (N : Nat) (Z : List UInt8) : KL := [(7, vP 1001), (9, vP 1005), (13, vI ((N * 2 : Nat) : Int)), (16, vOwn 2001), (21, vL .u8 Z)]
@[reducible] def nfK6 (Z T : List UInt8) : KL := [(7, vP 1001), (9, vP 1005), (16, vOwn 2001), (21, vL .u8 Z), (23, vL .u8 T)]
@[reducible] def nfK7 (Z T : List UInt8) : KL := [(7, vP 1001), (9, vP 1005), (16, vOwn 2001), (21, vL .u8 Z), (25, vL .u8 T)]
@[reducible] def nfK8 (Z Y : List UInt8) : KL := [(7, vP 1001), (9, vP 1005), (16, vOwn 2001), (21, vL .u8 Z), (28, vL uRp [((0 : Int), (0 : Int), Y)]), (29, vI 0)]
@[reducible] def nfK9 (Z : List UInt8) (x : List Xt) : KL := [(7, vP 1001), (9, vP 1005), (16, vOwn 2001), (21, vL .u8 Z), (30, vL uEx x), (31, vI 0)]
@[reducible] def nfKa (Z : List UInt8) (x : List Xt) (k : Nat) : KL := [(7, vP 1001), (9, vP 1005), (16, vOwn 2001), (21, vL .u8 Z), (201, vL uEx x), (202, vI (x.length : Nat)), (203, vI (k : Nat))]
@[reducible] def nfB0 (L : List Dsk) (d : List DEn) : BL := chB 1 60 L ++ dirB5 d
@[reducible] def nfB1 (L : List Dsk) (d : List DEn) (X : List UInt8) : BL := chB 1 60 L ++ (dirB5 d ++ [(2001, .row 5 .u8 X)])
@[reducible] def nfBo (L : List Dsk) (d : List DEn) (X : List UInt8) (o : Cop) : BL := chB 1 60 L ++ (dirB5 d ++ [(2001, .row 5 .u8 X), (19, .cells (copL o))])
set_option maxHeartbeats 8000000 in
theorem exportPulls_fn (l mo : List Cop) (g : Int) (hl : l.length ≤ 1073741824) (ht : (l.map cTot).sum ≤ 1073741824) (hl2 : mo.length ≤ 1073741824) (ht2 : (mo.map cTot).sum ≤ 1073741824) :
   Fn Tryz.prog 8 [vL uC l, vI g, vL uC mo] [] [] (vB true) [] := by
 have hdn := Fn.ren [(1001, 1005), (1002, 1006), (1003, 1007), (1004, 1008)] dnew_fn
 have hf1 := Fn.arg (args := [vL uC l, v1 .nils]) (few20_fn l [] hl ht (by decide) (by decide)) ⟨rfl, rfl, trivial⟩
 have hf2 := Fn.arg (args := [vL uC mo, v1 .nils]) (few20_fn mo [] hl2 ht2 (by decide) (by decide)) ⟨rfl, rfl, trivial⟩
 refine Fn.of tblOK [8,11,13,14,15,17,18,21,26,27,29,30,31,32,33,35,36,38,41,44] _ _ _ _ _ Tryz.func8 rfl rfl (by kernel_rfl) (by kernel_rfl) rfl (drawOK tblOK) rfl ?_
 refine ⟨_, _, _, _, chnew_ok 1 60 (by decide) (by decide), trivial, rfl, ?_⟩
 refine ⟨_, _, _, _, hdn, trivial, rfl, ?_⟩
 refine ⟨fun h => absurd h (by decide), fun _ => ?_⟩
 refine ⟨_, _, _, _, hf1, trivial, rfl, ?_⟩
 refine ⟨fun _ => ?_, fun hfa => ?_⟩
 · refine ⟨fun _ => ?_, fun h => absurd h (by decide)⟩
   refine ⟨_, _, _, _, alive20_fn, trivial, rfl, ?_⟩
   exact ⟨_, _, _, Le.refl _ _, rfl, rfl, trivial, rfl⟩
 refine ⟨_, _, _, _, hf2, trivial, rfl, ?_⟩
 refine ⟨fun _ => ?_, fun hfb => ?_⟩
 · refine ⟨fun _ => ?_, fun h => absurd h (by decide)⟩
   refine ⟨_, _, _, _, alive20_fn, trivial, rfl, ?_⟩
   exact ⟨_, _, _, Le.refl _ _, rfl, rfl, trivial, rfl⟩
 have hfew : fewM l [] = true := by
   have hfa : (!fewM l []) = false := hfa
   simpa using hfa
 have hfew2 : fewM mo [] = true := by
   have hfb : (!fewM mo []) = false := hfb
   simpa using hfb
 obtain ⟨hll, hob, -⟩ := fewM_get hfew
 obtain ⟨hll2, hob2, -⟩ := fewM_get hfew2
 show TrQ _ _ _ _ _ _ _
 refine TrQ.loop tblOK (drawOK tblOK) [8,11,13,14,15,17,18,21,26,27,29,30,31,32,33,35,36,38,41,44] (by kernel_rfl) (X := Nat × List Dsk) (fun x => nfK1 l mo g x.1) (fun x => nfB0 x.2 []) (fun x => x.1 ≤ l.length ∧ CS 1 60 x.2 ∧ Sml x.2) (fun x => l.length - x.1) (0, []) ⟨Nat.zero_le _, CS.nil (by decide) (by decide), Sml.nil⟩ ?_ ?_
 · exact Le.sub ⟨rfl, rfl, rfl, rfl, rfl, rfl, rfl, trivial⟩ ⟨rfl, rfl, rfl, rfl, rfl, rfl, rfl, rfl, trivial⟩
 rintro ⟨k, L⟩ ⟨hk, hC, hS⟩
 have hk : k ≤ l.length := hk
 have hC : CS 1 60 L := hC
 have hS : Sml L := hS
 refine ⟨fun hc => ?_, fun _ => ?_⟩
 · have hc : decide ((k : Int) < ((l.length : Nat) : Int)) = true := hc
   have hk1 : k < l.length := by have := of_decide_eq_true hc; omega
   have hO := hob _ (List.getElem_mem hk1)
   refine ⟨by omega, l[k], lgAt (n := k) hk1, ?_⟩
   refine ⟨rfl, ?_⟩
   show TrQ _ _ _ _ _ _ _
   refine TrQ.regionX tblOK (by kernel_rfl) ?_
   refine ⟨_, _, _, fun g => _, fun g => _, does20_fn hC l[k] (by omega), ⟨rfl, rfl, rfl, rfl, trivial⟩, rfl, fun _ => rfl, fun g => ?_⟩
   exact ⟨by omega, (k + 1, (doD 1 60 L l[k] g.1).L), ⟨hk1, g.2, hS.do hC hO.2⟩, by show l.length - (k + 1) < l.length - k; omega, Le.sub ⟨rfl, rfl, rfl, rfl, rfl, rfl, rfl, trivial⟩ ⟨rfl, rfl, rfl, rfl, rfl, rfl, rfl, rfl, trivial⟩⟩
 cases hd : dk L nb with
 | none =>
   refine ⟨_, _, _, _, image_no _ _ L nb hd, ⟨rfl, rfl, rfl, rfl, trivial⟩, rfl, ?_⟩
   show TrQ _ _ _ _ _ _ _
   refine TrQ.go tblOK (drawOK tblOK) [] (by kernel_rfl) (Le.refl _ _) ?_
   refine ⟨_, _, _, _, alive20_fn, trivial, rfl, ?_⟩
   exact ⟨_, _, _, Le.refl _ _, rfl, rfl, trivial, rfl⟩
 | some db =>
   have hdm := (dk_get hd).1
   have hLm := hC.toChN.M hdm
   have hN12 := hS db hdm
   refine ⟨_, _, _, _, image_fn _ _ L hC.toChN nb db hd, ⟨rfl, rfl, rfl, rfl, trivial⟩, rfl, ?_⟩
   show TrQ _ _ _ _ _ _ _
   refine TrQ.go tblOK (drawOK tblOK) [13,14,15,17,18,21,26,27,29,30,31,32,33,35,36,38,41,44] (by kernel_rfl) (Le.sub (K' := nfK2 mo g db.am) (B' := nfB0 L []) ⟨rfl, rfl, rfl, rfl, rfl, trivial⟩ ⟨rfl, rfl, rfl, rfl, rfl, rfl, rfl, rfl, trivial⟩) ?_
   refine ⟨fun _ _ => ?_, fun h => by cases h⟩
   refine ⟨_, _, _, _, imFn (isize_fn db.im) hLm rfl rfl rfl rfl, ⟨rfl, trivial⟩, rfl, ?_⟩
   refine ⟨fun _ => ?_, fun h1 => ?_⟩
   · refine ⟨_, _, _, _, alive20_fn, trivial, rfl, ?_⟩
     exact ⟨_, _, _, Le.refl _ _, rfl, rfl, trivial, rfl⟩
   have h1 : ¬ ((db.im.t.length : Nat) : Int) < 1 := of_decide_eq_false h1
   have m1 : (0 : Int) ≤ ((db.im.t.length : Nat) : Int) ∧ (0 : Int) ≤ 1 ∧ (1 : Int) ≤ 64 := by omega
   have m2 : (-9223372036854775808 : Int) ≤ ((db.im.t.length : Nat) : Int) * ((2 ^ (1 : Int).toNat : Nat) : Int) ∧ ((db.im.t.length : Nat) : Int) * ((2 ^ (1 : Int).toNat : Nat) : Int) ≤ 9223372036854775807 := by rw [shl1]; omega
   have e2 := shl1 db.im.t.length
   show TrQ _ _ _ _ _ _ _
   refine TrQ.go tblOK (drawOK tblOK) [14,15,17,18,21,26,27,29,30,31,32,33,35,36,38,41,44] (by kernel_rfl) (Le.refl _ _) ?_
   refine ⟨_, _, _, _, imFn (isize_fn db.im) hLm rfl rfl rfl rfl, ⟨rfl, trivial⟩, rfl, ?_⟩
   refine ⟨m1, m2, ?_⟩
   generalize hNN : db.im.t.length = N at *
   show TrQ _ _ _ _ _ _ _
   refine TrQ.le (Le.sub (K' := (13, vI ((N * 2 : Nat) : Int)) :: nfK2 mo g db.am) (B' := nfB0 L []) ⟨e2, rfl, rfl, rfl, rfl, rfl, trivial⟩ ⟨rfl, rfl, rfl, rfl, rfl, rfl, rfl, rfl, trivial⟩) ?_
   refine (Bool.eq_false_or_eq_true (bzOK ((N * 2 : Nat) : Int) g)).elim (fun hz => ?_) (fun hz => ?_)
   rotate_left
   · refine TrQ.go tblOK (drawOK tblOK) [] (by kernel_rfl) (Le.refl _ _) ?_
     refine ⟨_, _, _, _, bznew_no _ g hz, trivial, rfl, ?_⟩
     show TrQ _ _ _ _ _ _ _
     refine TrQ.go tblOK (drawOK tblOK) [] (by kernel_rfl) (Le.refl _ _) ?_
     refine ⟨fun _ => ?_, fun h => absurd h (by decide)⟩
     refine ⟨_, _, _, _, alive20_fn, trivial, rfl, ?_⟩
     exact ⟨_, _, _, Le.refl _ _, rfl, rfl, trivial, rfl⟩
   obtain ⟨z1, z2, z3⟩ := bzOK_get hz
   have hadd := FnX.ren [(1001, 1005), (1002, 1006), (1003, 1007), (1004, 1008)] (dadd_ok DOK.nil [120] (by decide) (by decide) rfl (by decide) ((N * 2 : Nat) : Int) g [] ⟨z1, ⟨z2, z3⟩, List.Pairwise.nil⟩)
   refine TrQ.go tblOK (drawOK tblOK) [15,17,18,21,26,27,29,30,31,32,33,35,36,38,41,44] (by kernel_rfl) (Le.refl _ _) ?_
   refine ⟨_, _, _, _, bznew_ok _ g hz, trivial, rfl, ?_⟩
   show TrQ _ _ _ _ _ _ _
   refine TrQ.le (Le.sub (K' := nfK3 mo N) (B' := nfB0 L [] ++ bzS 2001 2002 ((N * 2 : Nat) : Int) g []) ⟨rfl, rfl, rfl, rfl, rfl, rfl, trivial⟩ ⟨rfl, rfl, rfl, rfl, rfl, rfl, rfl, rfl, rfl, rfl, trivial⟩) ?_
   refine TrQ.regionX tblOK (by kernel_rfl) ?_
   refine ⟨fun h => absurd h (by decide), fun _ => ?_⟩
   refine ⟨_, _, _, fun g => _, fun g => _, hadd, ⟨rfl, rfl, rfl, rfl, rfl, rfl, trivial⟩, rfl, fun _ => rfl, fun p => ?_⟩
   refine ⟨fun h => absurd h (by decide), fun _ => ?_⟩
   obtain ⟨⟨ad, ab⟩, hD0⟩ := p
   have hown := chread_own 1 60 L hC.toChOK nb db hd (dpt L nb) (hC.dep nb).1 (by have := (hC.dep nb).2; omega) 0 (N * 2) (by unfold iIns; have hia := iall_one hC hd; rw [hNN] at hia; have hia : iall db.im = N * 2 := hia; rw [hia, if_neg (by omega), if_neg (by omega)])
   have hXl := crdK_len hC.toChOK hd (hC.dep nb).1 0 (N * 2)
   have hLI := LI.start (N := N) hC hd
   generalize hX0 : crdK 1 L nb (dpt L nb) 0 (N * 2) = X0 at *
   show TrQ _ _ _ _ _ _ _
   refine TrQ.go tblOK (drawOK tblOK) [18,21,26,27,29,30,31,32,33,35,36,38,41,44] (by kernel_rfl) (Le.sub (K' := [(2, vL uC mo), (7, vP 1001), (9, vP 1005), (13, vI ((N * 2 : Nat) : Int))]) (B' := nfB0 L [xE ad ab ((N * 2 : Nat) : Int) g []]) ⟨rfl, rfl, rfl, rfl, trivial⟩ ⟨rfl, rfl, rfl, rfl, rfl, rfl, rfl, rfl, trivial⟩) ?_
   refine ⟨_, _, _, _, hown, ⟨rfl, rfl, rfl, rfl, trivial⟩, rfl, ?_⟩
   show TrQ _ _ _ _ _ _ _
   refine TrQ.go tblOK (drawOK tblOK) [21,26,27,29,30,31,32,33,35,36,38,41,44] (by kernel_rfl) (Le.sub (K' := [(2, vL uC mo), (7, vP 1001), (9, vP 1005), (13, vI ((N * 2 : Nat) : Int)), (16, vOwn 2001)]) (B' := nfB1 L [xE ad ab ((N * 2 : Nat) : Int) g []] X0) ⟨rfl, rfl, rfl, rfl, rfl, trivial⟩ ⟨rfl, rfl, rfl, rfl, rfl, rfl, rfl, rfl, rfl, trivial⟩) ?_
   show TrQ _ _ _ _ _ _ _
   refine TrQ.loop tblOK (drawOK tblOK) [21,26,27,29,30,31,32,33,35,36,38,41,44] (by kernel_rfl) (X := Nat × List Dsk × List (El uI × El uI)) (fun x => nfK4 mo N x.1) (fun x => nfB1 x.2.1 [xE ad ab ((N * 2 : Nat) : Int) g x.2.2] X0) (fun x => x.1 ≤ mo.length ∧ PI L N g x.2.1 x.2.2) (fun x => mo.length - x.1) (0, L, []) ⟨Nat.zero_le _, ⟨hC, ⟨db, hd, hNN⟩, List.Pairwise.nil, fun _ _ _ => rfl⟩⟩ ?_ ?_
   · exact Le.sub ⟨rfl, rfl, rfl, rfl, rfl, rfl, rfl, trivial⟩ ⟨rfl, rfl, rfl, rfl, rfl, rfl, rfl, rfl, rfl, trivial⟩
   rintro ⟨k2, L2, es⟩ ⟨hk2, hP⟩
   have hk2 : k2 ≤ mo.length := hk2
   have hP : PI L N g L2 es := hP
   refine ⟨fun hc => ?_, fun _ => ?_⟩
   · have hc : decide ((k2 : Int) < ((mo.length : Nat) : Int)) = true := hc
     have hk1 : k2 < mo.length := by have := of_decide_eq_true hc; omega
     have hO := hob2 _ (List.getElem_mem hk1)
     have hget := lgAt (n := k2) hk1
     generalize mo[k2] = o at *
     have htt : cTot o = (qB (cQ o)).length + (cNm o).length + (cOt o).length := rfl
     refine ⟨by omega, o, hget, ?_⟩
     refine ⟨rfl, ?_⟩
     show TrQ _ _ _ _ _ _ _
     refine TrQ.go tblOK (drawOK tblOK) [26,27,29,30,31,32,33,35,36,38,41,44] (by kernel_rfl) (Le.sub (K' := (19, vP 19) :: nfK4 mo N k2) (B' := nfBo L2 [xE ad ab ((N * 2 : Nat) : Int) g es] X0 o) ⟨rfl, rfl, rfl, rfl, rfl, rfl, rfl, rfl, trivial⟩ ⟨rfl, rfl, rfl, rfl, rfl, rfl, rfl, rfl, rfl, rfl, trivial⟩) ?_
     refine ⟨fun h3 => ?_, fun h3 => ?_⟩
     · exact ⟨by omega, (k2 + 1, L2, es), ⟨hk1, hP⟩, by show mo.length - (k2 + 1) < mo.length - k2; omega, Le.sub ⟨rfl, rfl, rfl, rfl, rfl, rfl, rfl, trivial⟩ ⟨rfl, rfl, rfl, rfl, rfl, rfl, rfl, rfl, rfl, trivial⟩⟩
     have h3 : cK o = 3 := by
       have h3 : (!decide (cK o = 3)) = false := h3
       simpa using h3
     have hDE : DOK [xE ad ab ((N * 2 : Nat) : Int) g es] := xE_ok ⟨z1, ⟨z2, z3⟩, hP.nd⟩
     have hw := Fn.ren [(1001, 1005), (1002, 1006), (1003, 1007), (1004, 1008)] (dwrite_fn hDE (qA (cQ o)) (cQn (cQ o)))
     rw [xE_wr] at hw
     have hst := hP.step z2 (cQ o)
     have hst : PI L N g (doW 1 L2 nb (cQ o)).L (bzSet ((N * 2 : Nat) : Int) g es (qA (cQ o)) (cQn (cQ o))) := by rw [Nat.mul_comm N 2]; exact hst
     have hdo : ∀ p, (doD 1 60 L2 (opB o) p).L = (doW 1 L2 nb (cQ o)).L := fun p => by
       unfold doD
       rw [if_neg (by show ¬ cK o = 0; omega), if_neg (by show ¬ cK o = 1; omega), if_neg (by show ¬ cK o = 2; omega), if_pos (show cK o = 3 from h3)]
     have htb : cTot (opB o) ≤ 1000000 := by
       show (qB (cQ o)).length + nb.length + (cOt o).length ≤ 1000000
       show (qB (cQ o)).length + 1 + (cOt o).length ≤ 1000000
       omega
     have hdoes := does20_fn hP.cs (opB o) htb
     have q1 : (0 : Int) ≤ (((qB (cQ o)).length : Nat) : Int) ∧ (0 : Int) < 16 := by omega
     have q2 : (-9223372036854775808 : Int) ≤ (((qB (cQ o)).length : Nat) : Int) / 16 ∧ (((qB (cQ o)).length : Nat) : Int) / 16 ≤ 9223372036854775807 := by omega
     refine ⟨fun hq => ?_, fun hq => ?_⟩
     focus
       have hq : qK (cQ o) = 1 := of_decide_eq_true hq
       have eq1 : (((qB (cQ o)).length : Nat) : Int) / 16 = cQn (cQ o) := (if_pos hq).symm
       refine ⟨q1, q2, ?_⟩
       show TrQ _ _ _ _ _ _ _
       refine TrQ.go tblOK (drawOK tblOK) [27,29,30,31,32,33,35,36,38,41,44] (by kernel_rfl) (Le.sub (K' := (19, vP 19) :: (20, vI (cQn (cQ o))) :: nfK4 mo N k2) (B' := nfBo L2 [xE ad ab ((N * 2 : Nat) : Int) g es] X0 (opB o)) ⟨rfl, eq1, rfl, rfl, rfl, rfl, rfl, rfl, rfl, trivial⟩ ⟨rfl, rfl, rfl, rfl, rfl, rfl, rfl, rfl, rfl, rfl, trivial⟩) ?_
     rotate_left
     focus
       have hq : ¬ qK (cQ o) = 1 := of_decide_eq_false hq
       have eq1 : qL (cQ o) = cQn (cQ o) := (if_neg hq).symm
       show TrQ _ _ _ _ _ _ _
       refine TrQ.go tblOK (drawOK tblOK) [27,29,30,31,32,33,35,36,38,41,44] (by kernel_rfl) (Le.sub (K' := (19, vP 19) :: (20, vI (cQn (cQ o))) :: nfK4 mo N k2) (B' := nfBo L2 [xE ad ab ((N * 2 : Nat) : Int) g es] X0 (opB o)) ⟨rfl, eq1, rfl, rfl, rfl, rfl, rfl, rfl, rfl, trivial⟩ ⟨rfl, rfl, rfl, rfl, rfl, rfl, rfl, rfl, rfl, rfl, trivial⟩) ?_
     all_goals
       refine ⟨_, _, _, _, hw, ⟨rfl, rfl, rfl, rfl, trivial⟩, rfl, ?_⟩
       show TrQ _ _ _ _ _ _ _
       refine TrQ.regionX tblOK (by kernel_rfl) ?_
       refine ⟨_, _, _, fun g => _, fun g => _, hdoes, ⟨rfl, rfl, rfl, rfl, trivial⟩, rfl, fun _ => rfl, fun p => ?_⟩
       have hL := hdo p.1
       exact ⟨by omega, (k2 + 1, (doW 1 L2 nb (cQ o)).L, bzSet ((N * 2 : Nat) : Int) g es (qA (cQ o)) (cQn (cQ o))), ⟨hk1, hst⟩, by show mo.length - (k2 + 1) < mo.length - k2; omega, Le.sub ⟨rfl, rfl, rfl, rfl, rfl, rfl, rfl, trivial⟩ ⟨rfl, congrArg (fun l => some (Ch.map .str .adr (chE l))) hL, congrArg (fun l => some (Ch.obj (.pool (chD l)))) hL, congrArg (fun l => some (Ch.obj (.pool (chM l)))) hL, rfl, rfl, rfl, rfl, rfl, trivial⟩⟩
   -- behind the writes
   obtain ⟨d2, hd2, hN2⟩ := hP.db
   have hC2 := hP.cs
   have hDE : DOK [xE ad ab ((N * 2 : Nat) : Int) g es] := xE_ok ⟨z1, ⟨z2, z3⟩, hP.nd⟩
   have hia2 := iall_one hC2 hd2
   have hia2 : iall d2.im = N * 2 := by rw [hia2, hN2]
   have hrd := chread_fn hC2 nb 0 ((N * 2 : Nat) : Int)
   rw [rdC_ok hC2 hd2 (n := N * 2) (by rw [hia2]; exact Nat.le_refl _)] at hrd
   have hfit : rqFit (3, 0, 0, 0, ((N * 2 : Nat) : Int)) = true := by
     show (fit 1 3 && (fit 1 0 && (fit 2 0 && (fit 4 0 && fit 4 ((N * 2 : Nat) : Int))))) = true
     rw [(fit_iff (w := 4) (n := ((N * 2 : Nat) : Int))).2 ⟨by omega, by rw [Int.toNat_natCast]; show N * 2 < 4294967296; omega⟩]
     rfl
   have hak := ask_ok (3, 0, 0, 0, ((N * 2 : Nat) : Int)) hfit rfl
   have hal : (askB (3, 0, 0, 0, ((N * 2 : Nat) : Int))).length = 16 := by
     unfold askB
     simp only [List.length_append, encR_length]
   have hsv := serveAll_fn hC2 hDE nb (askB (3, 0, 0, 0, ((N * 2 : Nat) : Int))) (by omega)
   -- the row of what is dirty
   have hkl : (bzKs g es (N * 2)).length = N * 2 := bzKs_len g es (N * 2)
   have hks : bzRow ((N * 2 : Nat) : Int) g es = exOf (bzKs g es (N * 2)) := by unfold bzRow; rw [Int.toNat_natCast]
   obtain ⟨rt1, rt2⟩ := exOf_rt (ks := bzKs g es (N * 2)) (by rw [hkl]; omega)
   have hend : exEnd (bzRow ((N * 2 : Nat) : Int) g es) = ((N * 2 : Nat) : Int) := by rw [hks, exEnd_rt rt1, rt2, hkl]
   rw [← hks] at rt1 rt2
   obtain ⟨ct1, ct2⟩ := exCut_all rt1 (by rw [hend]; omega) (by rw [hend]; omega)
   rw [hend] at ct1 ct2
   rw [rt2] at ct2
   have hcne : exCut (bzRow ((N * 2 : Nat) : Int) g es) 0 ((N * 2 : Nat) : Int) ≠ [] := fun e => by
     rw [e] at ct2
     have := congrArg List.length ct2
     rw [hkl] at this
     have : 0 = N * 2 := this
     omega
   have hclen : (exCut (bzRow ((N * 2 : Nat) : Int) g es) 0 ((N * 2 : Nat) : Int)).length ≤ 100 := by
     have h1 := exCut_len (bzRow ((N * 2 : Nat) : Int) g es) 0 ((N * 2 : Nat) : Int)
     have h2 := (exOf_ok (bzKs g es (N * 2))).len
     rw [← hks, hkl] at h2
     omega
   have han : anB 1 L2 nb [xE ad ab ((N * 2 : Nat) : Int) g es] (3, 0, 0, 0, ((N * 2 : Nat) : Int)) = tellB 0 0 (xtsB (exCut (bzRow ((N * 2 : Nat) : Int) g es) 0 ((N * 2 : Nat) : Int))) := by
     have e1 : anX 1 L2 nb [xE ad ab ((N * 2 : Nat) : Int) g es] (3, 0, 0, 0, ((N * 2 : Nat) : Int)) = (xtsB (exCut (bzRow ((N * 2 : Nat) : Int) g es) 0 ((N * 2 : Nat) : Int)), 0) := by
       show dtC [xE ad ab ((N * 2 : Nat) : Int) g es] (3, 0, 0, 0, ((N * 2 : Nat) : Int)) = _
       unfold dtC
       rw [xE_nms]
       show (match ek [xE ad ab ((N * 2 : Nat) : Int) g es] [120] with | none => ([], (110 : Int)) | some e => if e.us = true then prC (bzRow e.s e.g e.es) 0 ((N * 2 : Nat) : Int) else ([], 110)) = _
       rw [ek_cons, if_pos rfl]
       simp only [if_true, ite_true]
       unfold prC
       rw [if_neg hcne]
     unfold anB
     rw [e1]
   rw [srv_one _ hfit rfl (by show ¬ (3 : Int) = 4; decide), han] at hsv
   simp only at hsv
   generalize hx : exCut (bzRow ((N * 2 : Nat) : Int) g es) 0 ((N * 2 : Nat) : Int) = x at *
   have hxb := xtsB_len x
   have hk01 : ∀ y, y ∈ x → 0 ≤ y.2.2 ∧ y.2.2 < 256 := fun y hy => by
     obtain ⟨i, hi, rfl⟩ := List.getElem_of_mem hy
     have hm := exK_mem hy (exRt_at ct1 hi).2.1
     rw [ct2] at hm
     unfold bzKs at hm
     obtain ⟨z, _, e⟩ := List.mem_map.1 hm
     rw [← e]
     split <;> decide
   have hdec := xtL_enc x ((xtsB x).length + 1) 0 ct1 (Int.le_refl 0) hk01 (Nat.lt_succ_self _)
   have hext := exts_ok (xtsB x) x (by omega) hdec
   have hT : tellOK 0 0 (xtsB x) = true := by
     show (fit 2 0 && (fit 2 0 && fit 4 (((xtsB x).length : Nat) : Int))) = true
     rw [(fit_iff (w := 4) (n := (((xtsB x).length : Nat) : Int))).2 ⟨by omega, by rw [Int.toNat_natCast]; show (xtsB x).length < 4294967296; omega⟩]
     rfl
   have htl2 : (tellB 0 0 (xtsB x)).length ≤ 2000 := by
     unfold tellB
     simp only [List.length_append, encR_length, encT_length]
     omega
   have hrp := replies_ok (tellB 0 0 (xtsB x)) [(0, 0, xtsB x)] (by omega) (rpl_one hT)
   have hdone := fun X => LI.done (X := X) hP
   have hZl := crdK_len hC2.toChOK hd2 (hC2.dep nb).1 0 (N * 2)
   generalize xtsB x = Y at *
   generalize tellB 0 0 Y = T at *
   generalize askB (3, 0, 0, 0, ((N * 2 : Nat) : Int)) = A at *
   generalize hZ : crdK 1 L2 nb (dpt L2 nb) 0 (N * 2) = Z at *
   generalize hdd : [xE ad ab ((N * 2 : Nat) : Int) g es] = dd at *
   show TrQ _ _ _ _ _ _ _
   refine TrQ.go tblOK (drawOK tblOK) [30,31,32,33,35,36,38,41,44] (by kernel_rfl) (Le.sub (K' := [(7, vP 1001), (9, vP 1005), (13, vI ((N * 2 : Nat) : Int)), (16, vOwn 2001)]) (B' := nfB1 L2 dd X0) ⟨rfl, rfl, rfl, rfl, trivial⟩ ⟨rfl, rfl, rfl, rfl, rfl, rfl, rfl, rfl, rfl, trivial⟩) ?_
   refine ⟨_, _, _, _, hrd, ⟨rfl, rfl, rfl, rfl, trivial⟩, rfl, ?_⟩
   show TrQ _ _ _ _ _ _ _
   refine TrQ.go tblOK (drawOK tblOK) [31,32,33,35,36,38,41,44] (by kernel_rfl) (Le.trans (Le.close 1005 (dirB5 dd) ⟨rfl, rfl, rfl, rfl, trivial⟩ rfl fun _ _ _ _ h => h) (Le.sub (K' := nfK5 N Z) (B' := plB L2 dd X0) ⟨rfl, rfl, rfl, rfl, rfl, trivial⟩ ⟨rfl, rfl, rfl, rfl, rfl, rfl, trivial⟩)) ?_
   refine ⟨_, _, _, _, Fn.arg (Fn.ren [(1001, 5001)] hak) ⟨⟨rfl, rfl, rfl, rfl, rfl, trivial⟩, trivial⟩, trivial, rfl, ?_⟩
   show TrQ _ _ _ _ _ _ _
   refine TrQ.go tblOK (drawOK tblOK) [32,33,35,36,38,41,44] (by kernel_rfl) (Le.trans (Le.frz 5001 rfl) (Le.sub (K' := nfK6 Z A) (B' := plB L2 dd X0) ⟨rfl, rfl, rfl, rfl, rfl, trivial⟩ ⟨rfl, rfl, rfl, rfl, rfl, rfl, trivial⟩)) ?_
   refine ⟨_, _, _, _, hsv, ⟨rfl, rfl, rfl, rfl, rfl, trivial⟩, rfl, ?_⟩
   show TrQ _ _ _ _ _ _ _
   refine TrQ.go tblOK (drawOK tblOK) [33,35,36,38,41,44] (by kernel_rfl) (Le.trans (Le.frz 1009 rfl) (Le.sub (K' := nfK7 Z T) (B' := plB L2 dd X0) ⟨rfl, rfl, rfl, rfl, rfl, trivial⟩ ⟨rfl, rfl, rfl, rfl, rfl, rfl, trivial⟩)) ?_
   refine ⟨_, _, _, _, Fn.ren [(1001, 5001)] hrp, trivial, rfl, ?_⟩
   show TrQ _ _ _ _ _ _ _
   refine TrQ.go tblOK (drawOK tblOK) [35,36,38,41,44] (by kernel_rfl) (Le.trans (Le.frz 5001 rfl) (Le.sub (K' := nfK8 Z Y) (B' := plB L2 dd X0) ⟨rfl, rfl, rfl, rfl, rfl, rfl, trivial⟩ ⟨rfl, rfl, rfl, rfl, rfl, rfl, trivial⟩)) ?_
   have p0 : (0 : Int) ≤ 0 := by decide
   refine ⟨fun h => absurd h (by decide), fun _ => ?_⟩
   refine ⟨fun h => absurd (show (!decide ((1 : Int) = 1)) = true from h) (by decide), fun _ => ?_⟩
   refine ⟨p0, ((0 : Int), (0 : Int), Y), rfl, ?_⟩
   refine ⟨fun h => absurd (show (!decide ((0 : Int) = 0)) = true from h) (by decide), fun _ => ?_⟩
   show TrQ _ _ _ _ _ _ _
   refine TrQ.go tblOK (drawOK tblOK) [36,38,41,44] (by kernel_rfl) (Le.refl _ _) ?_
   refine ⟨p0, ((0 : Int), (0 : Int), Y), rfl, ?_⟩
   refine ⟨_, _, _, _, Fn.ren [(1001, 5001)] hext, trivial, rfl, ?_⟩
   show TrQ _ _ _ _ _ _ _
   refine TrQ.go tblOK (drawOK tblOK) [38,41,44] (by kernel_rfl) (Le.trans (Le.frz 5001 rfl) (Le.sub (K' := nfK9 Z x) (B' := plB L2 dd X0) ⟨rfl, rfl, rfl, rfl, rfl, rfl, trivial⟩ ⟨rfl, rfl, rfl, rfl, rfl, rfl, trivial⟩)) ?_
   refine ⟨fun h => absurd h (by decide), fun _ => ?_⟩
   show TrQ _ _ _ _ _ _ _
   refine TrQ.go tblOK (drawOK tblOK) [41,44] (by kernel_rfl) (Le.refl _ _) ?_
   show TrQ _ _ _ _ _ _ _
   refine TrQ.loop tblOK (drawOK tblOK) [41,44] (by kernel_rfl) (X := Nat × List UInt8) (fun z => nfKa Z x z.1) (fun z => plB L2 dd z.2) (fun z => z.1 ≤ x.length ∧ LI L L2 N (bzKs g es (N * 2)) (exK (x.take z.1)).length z.2) (fun z => x.length - z.1) (0, X0) ⟨Nat.zero_le _, hLI L2 _⟩ ?_ ?_
   · exact Le.sub ⟨rfl, rfl, rfl, rfl, rfl, rfl, rfl, trivial⟩ ⟨rfl, rfl, rfl, rfl, rfl, rfl, trivial⟩
   rintro ⟨i, X⟩ ⟨hi, hLX⟩
   have hi : i ≤ x.length := hi
   have hLX : LI L L2 N (bzKs g es (N * 2)) (exK (x.take i)).length X := hLX
   refine ⟨fun hc => ?_, fun hc => ?_⟩
   · have hc : decide ((i : Int) < ((x.length : Nat) : Int)) = true := hc
     have hi1 : i < x.length := by have := of_decide_eq_true hc; omega
     obtain ⟨at1, at2, at3⟩ := exRt_at ct1 hi1
     have hle := exK_take_le x (i + 1)
     have hget := lgAt (n := i) hi1
     have hkk : ∀ s, (exK (x.take i)).length ≤ s → s < (exK (x.take i)).length + (x[i]).2.1.toNat → (bzKs g es (N * 2))[s]? = some (x[i]).2.2 := fun s hs1 hs2 => by
       rw [← ct2]
       have e1 : exK x = exK (x.take (i + 1)) ++ exK (x.drop (i + 1)) := by rw [← exK_app, List.take_append_drop]
       rw [e1, at3, List.append_assoc, List.getElem?_append_right hs1, List.getElem?_append_left (by rw [List.length_replicate]; omega), List.getElem?_replicate, if_pos (by omega)]
     rw [ct2, hkl, at3, List.length_append, List.length_replicate] at hle
     have hp2 : (exK (x.take (i + 1))).length = (exK (x.take i)).length + (x[i]).2.1.toNat := by rw [at3, List.length_append, List.length_replicate]
     generalize (exK (x.take i)).length = p at *
     generalize x[i] = y at *
     obtain ⟨yf, ym, yk⟩ := y
     have at1 : yf = (p : Int) := at1
     have at2 : 1 ≤ ym := at2
     obtain ⟨m0, rfl⟩ : ∃ m0 : Nat, ym = (m0 : Int) := ⟨ym.toNat, by omega⟩
     subst at1
     simp only [Int.toNat_natCast] at hle hp2 hkk
     have n1 : (-9223372036854775808 : Int) ≤ (i : Int) + 1 ∧ (i : Int) + 1 ≤ 9223372036854775807 := by omega
     refine ⟨by omega, ((p : Int), (m0 : Int), yk), hget, rfl, ?_⟩
     show TrQ _ _ _ _ _ _ _
     refine TrQ.go tblOK (drawOK tblOK) [44] (by kernel_rfl) (Le.refl _ _) ?_
     refine ⟨fun h1 => ?_, fun h1 => ?_⟩
     · have h1 : yk = 1 := of_decide_eq_true h1
       have hpl := pulls20_fn hC2 hDE hd2 X p m0 yk (by omega) (by omega) (by rw [hN2]; omega) (by rw [hN2]; exact hLX.len)
       have hl2 := LI.lay hC2 hd2 hLX (by omega) (fun s hs1 hs2 => by rw [hkk s hs1 hs2, h1])
       rw [← hp2] at hl2
       refine ⟨_, _, _, _, hpl, ⟨rfl, rfl, rfl, rfl, rfl, rfl, trivial⟩, rfl, ?_⟩
       refine ⟨fun h => absurd h (by decide), fun _ => ?_⟩
       exact ⟨n1, (i + 1, laid X (16 * p) (16 * m0) (crdK 1 L2 nb (dpt L2 nb) p m0)), ⟨hi1, hl2⟩, by show x.length - (i + 1) < x.length - i; omega, Le.sub ⟨rfl, rfl, rfl, rfl, rfl, rfl, rfl, trivial⟩ ⟨rfl, rfl, rfl, rfl, rfl, rfl, trivial⟩⟩
     · have h1 : ¬ yk = 1 := of_decide_eq_false h1
       have hl2 := LI.skip (m := m0) hLX (fun s hs1 hs2 => by rw [hkk s hs1 hs2]; exact fun e => h1 (by injection e))
       rw [← hp2] at hl2
       exact ⟨n1, (i + 1, X), ⟨hi1, hl2⟩, by show x.length - (i + 1) < x.length - i; omega, Le.sub ⟨rfl, rfl, rfl, rfl, rfl, rfl, rfl, trivial⟩ ⟨rfl, rfl, rfl, rfl, rfl, rfl, trivial⟩⟩
   · have hc : decide ((i : Int) < ((x.length : Nat) : Int)) = false := hc
     have hi2 : i = x.length := by have := of_decide_eq_false hc; omega
     subst hi2
     rw [List.take_length, ct2, hkl] at hLX
     have hfin := hdone X hLX
     show TrQ _ _ _ _ _ _ _
     refine TrQ.go tblOK (drawOK tblOK) [] (by kernel_rfl) (Le.refl _ _) ?_
     refine ⟨_, _, _, _, alive20_fn, trivial, rfl, ?_⟩
     refine ⟨fun _ => ?_, fun h => absurd h (by decide)⟩
     exact ⟨_, _, _, Le.refl _ _, rfl, (show decide (X = Z) = true from decide_eq_true hfin), trivial, rfl⟩
end Go.Proofs.YtojaemgabaehdaaGreat
