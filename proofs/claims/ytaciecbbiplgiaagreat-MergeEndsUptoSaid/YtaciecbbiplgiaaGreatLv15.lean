/-
  Scripts of law 15: few, does, all.
-/
import Derived.Test.YtaciecbbiplgiaaGreatLt
import Derived.Test.YtaciecbbiplgiaaGreatIb
set_option linter.unusedVariables false
set_option linter.unusedSimpArgs false
set_option maxRecDepth 10000
namespace Go.Proofs.YtaciecbbiplgiaaGreat
open Go.RowKit Go.Proofs
@[reducible] def fjK15 (l : List Cop) (m : List Jop) (k : Nat) : KL := [(0, vL uC l), (1, vL uJ m), (5, vI (cTo l k : Nat)), (10, vL uC l), (11, vI (l.length : Nat)), (12, vI (k : Nat))]
@[reducible] def fjK215 (l : List Cop) (m : List Jop) (k : Nat) : KL := [(0, vL uC l), (1, vL uJ m), (5, vI ((cTo l l.length + jTo m k : Nat) : Int)), (39, vL uJ m), (40, vI (m.length : Nat)), (41, vI (k : Nat))]
theorem few15_fn (l : List Cop) (m : List Jop) (hl : l.length ≤ 1073741824) (ht : (l.map cTot).sum ≤ 1073741824) (hl2 : m.length ≤ 1073741824) (ht2 : (m.map jTot).sum ≤ 1073741824) : Fn Tryz.prog 12 [vL uC l, vL uJ m] [] [] (vB (fewJ l m)) [] := by
  refine Fn.of tblOK [] _ _ _ _ _ Tryz.func12 rfl rfl (by kernel_rfl) (by kernel_rfl) rfl (drawOK tblOK) rfl ?_
  show TrQ _ _ _ _ _ _ _
  refine TrQ.loop tblOK (drawOK tblOK) [] (by kernel_rfl) (X := Nat) (fjK15 l m) (fun _ => []) (fun k => k ≤ l.length ∧ cGood l k) (fun k => l.length - k) 0 ⟨Nat.zero_le _, fun i o hi => by omega⟩ ?_ ?_
  · exact Le.sub ⟨rfl, rfl, rfl, rfl, rfl, rfl, trivial⟩ trivial
  rintro k ⟨hk, hg⟩
  have ht1 := cTo_le l k
  refine ⟨fun hc => ?_, fun hc => ?_⟩
  · have hc : decide ((k : Int) < ((l.length : Nat) : Int)) = true := hc
    have hk1 : k < l.length := by have := of_decide_eq_true hc; omega
    have ht3 := cTo_le l (k + 1)
    have hs := cTo_succ l hk1
    have hbd : cBad l[k] = (decide (12 < cSz l[k]) && decide (cSz l[k] ≤ 256)) := rfl
    have htt : cTot l[k] = (qB (cQ l[k])).length + (cNm l[k]).length + (cOt l[k]).length := rfl
    have hget := lgAt (n := k) hk1
    have hgs := fun hb => hg.succ hk1 hb
    have hbad := fun hb => fewJ_bad (m := m) hk1 hb
    generalize hx : l[k] = o at *
    have m1 : (-9223372036854775808 : Int) ≤ (((qB (cQ o)).length : Nat) : Int) + (((cNm o).length : Nat) : Int) ∧ (((qB (cQ o)).length : Nat) : Int) + (((cNm o).length : Nat) : Int) ≤ 9223372036854775807 := by omega
    have m2 : (-9223372036854775808 : Int) ≤ (((qB (cQ o)).length : Nat) : Int) + (((cNm o).length : Nat) : Int) + (((cOt o).length : Nat) : Int) ∧ (((qB (cQ o)).length : Nat) : Int) + (((cNm o).length : Nat) : Int) + (((cOt o).length : Nat) : Int) ≤ 9223372036854775807 := by omega
    have m3 : (-9223372036854775808 : Int) ≤ ((cTo l k : Nat) : Int) + ((((qB (cQ o)).length : Nat) : Int) + (((cNm o).length : Nat) : Int) + (((cOt o).length : Nat) : Int)) ∧ ((cTo l k : Nat) : Int) + ((((qB (cQ o)).length : Nat) : Int) + (((cNm o).length : Nat) : Int) + (((cOt o).length : Nat) : Int)) ≤ 9223372036854775807 := by omega
    have e3 : ((cTo l k : Nat) : Int) + ((((qB (cQ o)).length : Nat) : Int) + (((cNm o).length : Nat) : Int) + (((cOt o).length : Nat) : Int)) = ((cTo l (k + 1) : Nat) : Int) := by omega
    refine ⟨by omega, o, hget, ?_⟩
    refine ⟨rfl, m1, m2, m3, ?_⟩
    refine ⟨fun cA => ?_, fun cA => ?_⟩
    · have cA : decide (12 < cSz o) = true := cA
      refine ⟨fun cB => ?_, fun cB => ?_⟩
      · have cB : decide (cSz o ≤ 256) = true := cB
        exact ⟨_, _, _, Le.refl _ _, rfl, (hbad (by rw [hbd, cA, cB]; rfl)).symm, trivial, rfl⟩
      · have cB : decide (cSz o ≤ 256) = false := cB
        exact ⟨by omega, k + 1, ⟨hk1, hgs (by rw [hbd, cA, cB]; rfl)⟩, by omega, Le.sub ⟨rfl, rfl, e3, rfl, rfl, rfl, trivial⟩ trivial⟩
    · have cA : decide (12 < cSz o) = false := cA
      exact ⟨by omega, k + 1, ⟨hk1, hgs (by rw [hbd, cA]; rfl)⟩, by omega, Le.sub ⟨rfl, rfl, e3, rfl, rfl, rfl, trivial⟩ trivial⟩
  · have hc : decide ((k : Int) < ((l.length : Nat) : Int)) = false := hc
    have hk2 : k = l.length := by have := of_decide_eq_false hc; omega
    subst hk2
    have hall : (l.all fun o => !cBad o) = true := List.all_eq_true.2 fun o ho => by
      obtain ⟨i, hi, rfl⟩ := List.getElem_of_mem ho
      rw [hg i _ hi (List.getElem?_eq_getElem hi)]
      rfl
    have htt : cTo l l.length = (l.map cTot).sum := by unfold cTo; rw [List.take_length]
    show TrQ _ _ _ _ _ _ _
    refine TrQ.loop tblOK (drawOK tblOK) [] (by kernel_rfl) (X := Nat) (fjK215 l m) (fun _ => []) (fun j => j ≤ m.length) (fun j => m.length - j) 0 (Nat.zero_le _) ?_ ?_
    · exact Le.sub ⟨rfl, rfl, rfl, rfl, rfl, rfl, trivial⟩ trivial
    intro j hj
    have hj1 := jTo_le m j
    refine ⟨fun hc => ?_, fun hc => ?_⟩
    · have hc : decide ((j : Int) < ((m.length : Nat) : Int)) = true := hc
      have hjm : j < m.length := by have := of_decide_eq_true hc; omega
      have hj2 := jTo_le m (j + 1)
      have hs := jTo_succ m hjm
      have hj3 : jTot m[j] = (qB (jQ m[j])).length := rfl
      have hget := lgAt (n := j) hjm
      generalize hx : m[j] = o at *
      have m3 : (-9223372036854775808 : Int) ≤ ((cTo l l.length + jTo m j : Nat) : Int) + (((qB (jQ o)).length : Nat) : Int) ∧ ((cTo l l.length + jTo m j : Nat) : Int) + (((qB (jQ o)).length : Nat) : Int) ≤ 9223372036854775807 := by omega
      have e3 : ((cTo l l.length + jTo m j : Nat) : Int) + (((qB (jQ o)).length : Nat) : Int) = ((cTo l l.length + jTo m (j + 1) : Nat) : Int) := by omega
      refine ⟨by omega, o, hget, ?_⟩
      refine ⟨rfl, m3, ?_⟩
      exact ⟨by omega, j + 1, hjm, by omega, Le.sub ⟨rfl, rfl, e3, rfl, rfl, rfl, trivial⟩ trivial⟩
    · have hc : decide ((j : Int) < ((m.length : Nat) : Int)) = false := hc
      have hj2 : j = m.length := by have := of_decide_eq_false hc; omega
      subst hj2
      have hjt : jTo m m.length = (m.map jTot).sum := by unfold jTo; rw [List.take_length]
      have m4 : (-9223372036854775808 : Int) ≤ ((l.length : Nat) : Int) + ((m.length : Nat) : Int) ∧ ((l.length : Nat) : Int) + ((m.length : Nat) : Int) ≤ 9223372036854775807 := by omega
      refine ⟨m4, ?_⟩
      refine ⟨fun c1 => ?_, fun c1 => ?_⟩
      · have c1 : decide (((l.length : Nat) : Int) + ((m.length : Nat) : Int) ≤ 60) = true := c1
        have c1 : decide (l.length + m.length ≤ 60) = true := decide_eq_true (by have := of_decide_eq_true c1; omega)
        refine ⟨_, _, _, Le.refl _ _, rfl, (show decide (((cTo l l.length + jTo m m.length : Nat) : Int) ≤ 6000) = fewJ l m from ?_), trivial, rfl⟩
        rw [fewJ, hall, c1, htt, hjt, Bool.eq_iff_iff]
        simp
        omega
      · have c1 : decide (((l.length : Nat) : Int) + ((m.length : Nat) : Int) ≤ 60) = false := c1
        have c1 : decide (l.length + m.length ≤ 60) = false := decide_eq_false (by have := of_decide_eq_false c1; omega)
        refine ⟨_, _, _, Le.refl _ _, rfl, (show false = fewJ l m from ?_), trivial, rfl⟩
        rw [fewJ, hall, c1]
        rfl
theorem does15_fn {bits room : Nat} {L : List Dsk} (h : CS bits room L) (o : Cop) (hb : cTot o ≤ 1000000) :
    FnX Tryz.prog 14 [vP 1001, copV o] (chB bits room L) [] (X := { p : Nat × Nat // CS bits room (doD bits room L o p).L }) (fun p => vI (doD bits room L o p.1).e) (fun p => chB bits room (doD bits room L o p.1).L) := by
  have htt : cTot o = (qB (cQ o)).length + (cNm o).length + (cOt o).length := rfl
  have hnm : (cNm o).length ≤ 4294967296 := by omega
  refine FnX.of tblOK [3] _ _ _ _ _ Tryz.func14 rfl rfl (by kernel_rfl) (by kernel_rfl) rfl (drawOK tblOK) rfl ?_
  refine ⟨rfl, ?_⟩
  refine ⟨fun c0 => ?_, fun c0 => ?_⟩
  · have c0 : cK o = 0 := of_decide_eq_true c0
    have hE : ∀ p, doD bits room L o p = adC bits room L (cNm o) (cSz o) (cOt o) p := fun p => if_pos c0
    show TrQ _ _ _ _ _ _ _
    refine TrQ.regionX tblOK (by kernel_rfl) ?_
    refine ⟨_, _, _, fun g => _, fun g => _, chadd_fn h (cNm o) (cSz o) (cOt o) hnm, ⟨rfl, rfl, rfl, rfl, trivial⟩, rfl, fun _ => rfl, fun g => ?_⟩
    have hL := congrArg CR.L (hE g.1)
    exact ⟨⟨g.1, by rw [hE]; exact g.2⟩, _, _, _, Le.refl _ _, rfl, congrArg CR.e (hE g.1).symm, ⟨rfl, congrArg (fun l => some (Ch.map .str .adr (chE l))) hL.symm, congrArg (fun l => some (Ch.obj (.pool (chD l)))) hL.symm, congrArg (fun l => some (Ch.obj (.pool (chM l)))) hL.symm, trivial⟩, rfl⟩
  have c0 : cK o ≠ 0 := of_decide_eq_false c0
  have g0 : CS bits room (doD bits room L o (0, 0)).L := doD_cs h c0 (0, 0)
  refine ⟨fun c1 => ?_, fun c1 => ?_⟩
  · have c1 : cK o = 1 := of_decide_eq_true c1
    have hE : doD bits room L o (0, 0) = rmC L (cNm o) := (if_neg c0).trans (if_pos c1)
    have hL := congrArg CR.L hE
    refine ⟨_, _, _, _, chremove_fn h (cNm o), ⟨rfl, rfl, rfl, rfl, trivial⟩, rfl, ?_⟩
    exact ⟨⟨_, g0⟩, _, _, _, Le.refl _ _, rfl, congrArg CR.e hE.symm, ⟨rfl, congrArg (fun l => some (Ch.map .str .adr (chE l))) hL.symm, congrArg (fun l => some (Ch.obj (.pool (chD l)))) hL.symm, congrArg (fun l => some (Ch.obj (.pool (chM l)))) hL.symm, trivial⟩, rfl⟩
  have c1 : cK o ≠ 1 := of_decide_eq_false c1
  refine ⟨fun c2 => ?_, fun c2 => ?_⟩
  · have c2 : cK o = 2 := of_decide_eq_true c2
    have hE : doD bits room L o (0, 0) = rbC L (cNm o) (cOt o) := (if_neg c0).trans ((if_neg c1).trans (if_pos c2))
    have hL := congrArg CR.L hE
    refine ⟨_, _, _, _, chrebase_fn h (cNm o) (cOt o), ⟨rfl, rfl, rfl, rfl, trivial⟩, rfl, ?_⟩
    exact ⟨⟨_, g0⟩, _, _, _, Le.refl _ _, rfl, congrArg CR.e hE.symm, ⟨rfl, congrArg (fun l => some (Ch.map .str .adr (chE l))) hL.symm, congrArg (fun l => some (Ch.obj (.pool (chD l)))) hL.symm, congrArg (fun l => some (Ch.obj (.pool (chM l)))) hL.symm, trivial⟩, rfl⟩
  have c2 : cK o ≠ 2 := of_decide_eq_false c2
  refine ⟨fun c3 => ?_, fun c3 => ?_⟩
  · have c3 : cK o = 3 := of_decide_eq_true c3
    have hQ : doD bits room L o (0, 0) = doW bits L (cNm o) (cQ o) := (if_neg c0).trans ((if_neg c1).trans ((if_neg c2).trans (if_pos c3)))
    refine ⟨fun d1 => ?_, fun d1 => ?_⟩
    · have d1 : qK (cQ o) = 1 := of_decide_eq_true d1
      have hE := hQ.trans (if_pos d1)
      have hL := congrArg CR.L hE
      refine ⟨_, _, _, _, chwrite_fn h (cNm o) (qA (cQ o)) (qB (cQ o)) (by omega), ⟨rfl, rfl, rfl, rfl, trivial⟩, rfl, ?_⟩
      exact ⟨⟨_, g0⟩, _, _, _, Le.refl _ _, rfl, congrArg CR.e hE.symm, ⟨rfl, congrArg (fun l => some (Ch.map .str .adr (chE l))) hL.symm, congrArg (fun l => some (Ch.obj (.pool (chD l)))) hL.symm, congrArg (fun l => some (Ch.obj (.pool (chM l)))) hL.symm, trivial⟩, rfl⟩
    have d1 : qK (cQ o) ≠ 1 := of_decide_eq_false d1
    refine ⟨fun d2 => ?_, fun d2 => ?_⟩
    · have d2 : qK (cQ o) = 2 := of_decide_eq_true d2
      have hE := hQ.trans ((if_neg d1).trans (if_pos d2))
      have hL := congrArg CR.L hE
      refine ⟨_, _, _, _, chzero_fn h (cNm o) (qA (cQ o)) (qL (cQ o)), ⟨rfl, rfl, rfl, rfl, trivial⟩, rfl, ?_⟩
      exact ⟨⟨_, g0⟩, _, _, _, Le.refl _ _, rfl, congrArg CR.e hE.symm, ⟨rfl, congrArg (fun l => some (Ch.map .str .adr (chE l))) hL.symm, congrArg (fun l => some (Ch.obj (.pool (chD l)))) hL.symm, congrArg (fun l => some (Ch.obj (.pool (chM l)))) hL.symm, trivial⟩, rfl⟩
    have d2 : qK (cQ o) ≠ 2 := of_decide_eq_false d2
    refine ⟨fun d3 => ?_, fun d3 => ?_⟩
    · have d3 : qK (cQ o) = 3 := of_decide_eq_true d3
      have hE := hQ.trans ((if_neg d1).trans ((if_neg d2).trans (if_pos d3)))
      have hL := congrArg CR.L hE
      refine ⟨_, _, _, _, chdisc_fn h (cNm o) (qA (cQ o)) (qL (cQ o)), ⟨rfl, rfl, rfl, rfl, trivial⟩, rfl, ?_⟩
      exact ⟨⟨_, g0⟩, _, _, _, Le.refl _ _, rfl, congrArg CR.e hE.symm, ⟨rfl, congrArg (fun l => some (Ch.map .str .adr (chE l))) hL.symm, congrArg (fun l => some (Ch.obj (.pool (chD l)))) hL.symm, congrArg (fun l => some (Ch.obj (.pool (chM l)))) hL.symm, trivial⟩, rfl⟩
    have d3 : qK (cQ o) ≠ 3 := of_decide_eq_false d3
    have hE := hQ.trans ((if_neg d1).trans ((if_neg d2).trans (if_neg d3)))
    have hL := congrArg CR.L hE
    exact ⟨⟨_, g0⟩, _, _, _, Le.refl _ _, rfl, congrArg CR.e hE.symm, ⟨rfl, congrArg (fun l => some (Ch.map .str .adr (chE l))) hL.symm, congrArg (fun l => some (Ch.obj (.pool (chD l)))) hL.symm, congrArg (fun l => some (Ch.obj (.pool (chM l)))) hL.symm, trivial⟩, rfl⟩
  have c3 : cK o ≠ 3 := of_decide_eq_false c3
  have hE : doD bits room L o (0, 0) = ⟨0, L⟩ := (if_neg c0).trans ((if_neg c1).trans ((if_neg c2).trans (if_neg c3)))
  have hL := congrArg CR.L hE
  exact ⟨⟨_, g0⟩, _, _, _, Le.refl _ _, rfl, congrArg CR.e hE.symm, ⟨rfl, congrArg (fun l => some (Ch.map .str .adr (chE l))) hL.symm, congrArg (fun l => some (Ch.obj (.pool (chD l)))) hL.symm, congrArg (fun l => some (Ch.obj (.pool (chM l)))) hL.symm, trivial⟩, rfl⟩
theorem all15_fn {bits room : Nat} {L : List Dsk} (h : CS bits room L) (nm : List UInt8) : Fn Tryz.prog 19 [vP 1001, vS nm] (chB bits room L) [] (vS (allC bits L nm)) (chB bits room L) := by
  unfold allC
  cases hd : dk L nm with
  | none =>
    simp only
    refine Fn.of tblOK [] _ _ _ _ _ Tryz.func19 rfl rfl (by kernel_rfl) (by kernel_rfl) rfl (drawOK tblOK) rfl ?_
    refine ⟨_, _, _, _, image_no _ _ L nm hd, ⟨rfl, rfl, rfl, rfl, trivial⟩, rfl, ?_⟩
    exact ⟨_, _, _, Le.refl _ _, rfl, rfl, ⟨rfl, rfl, rfl, rfl, trivial⟩, rfl⟩
  | some d =>
    obtain ⟨hO, hbt, _⟩ := h.ims d (dk_get hd).1
    have hLm := h.toChN.M (dk_get hd).1
    have htl := hO.tl
    have hb3 := h.b3
    have hp := pow_le8 h.b3
    have esh : ((d.im.t.length : Nat) : Int) * ((2 ^ ((d.im.bits : Nat) : Int).toNat : Nat) : Int) = ((d.im.t.length * 2 ^ bits : Nat) : Int) := by
      rw [hbt]
      show ((d.im.t.length : Nat) : Int) * ((2 ^ bits : Nat) : Int) = _
      rw [Int.natCast_mul]
    have mk : d.im.t.length * 2 ^ bits ≤ 256 * 8 := Nat.mul_le_mul htl hp.2
    have m1 : (0 : Int) ≤ ((d.im.t.length : Nat) : Int) ∧ (0 : Int) ≤ ((d.im.bits : Nat) : Int) ∧ ((d.im.bits : Nat) : Int) ≤ 64 := by omega
    have m2 : (-9223372036854775808 : Int) ≤ ((d.im.t.length : Nat) : Int) * ((2 ^ ((d.im.bits : Nat) : Int).toNat : Nat) : Int) ∧ ((d.im.t.length : Nat) : Int) * ((2 ^ ((d.im.bits : Nat) : Int).toNat : Nat) : Int) ≤ 9223372036854775807 := by rw [esh]; omega
    have hcr := chread_fn h nm 0 ((d.im.t.length * 2 ^ bits : Nat) : Int)
    rw [rdC_ok h hd (n := d.im.t.length * 2 ^ bits) (by rw [iall_one h hd]; exact Nat.le_refl _), ← esh] at hcr
    simp only
    generalize crdK bits L nm (dpt L nm) 0 (d.im.t.length * 2 ^ bits) = x at *
    refine Fn.of tblOK [] _ _ _ _ _ Tryz.func19 rfl rfl (by kernel_rfl) (by kernel_rfl) rfl (drawOK tblOK) rfl ?_
    refine ⟨_, _, _, _, image_fn _ _ L h.toChN nm d hd, ⟨rfl, rfl, rfl, rfl, trivial⟩, rfl, ?_⟩
    refine ⟨fun _ _ => ?_, fun h => by cases h⟩
    refine ⟨_, _, _, _, imFn (isize_fn d.im) hLm rfl rfl rfl rfl, ⟨rfl, trivial⟩, rfl, ?_⟩
    refine ⟨_, _, _, _, imFn (ibits_fn d.im) hLm rfl rfl rfl rfl, ⟨rfl, trivial⟩, rfl, ?_⟩
    refine ⟨m1, m2, ?_⟩
    refine ⟨_, _, _, _, hcr, ⟨rfl, rfl, rfl, rfl, trivial⟩, rfl, ?_⟩
    exact ⟨_, _, _, Le.refl _ _, rfl, rfl, ⟨rfl, rfl, rfl, rfl, trivial⟩, rfl⟩
end Go.Proofs.YtaciecbbiplgiaaGreat
