/-
  Scripts of law 15: few, does, all.
-/
import Derived.Test.YtbcngglcaeehbaaGreatLt
import Derived.Test.YtbcngglcaeehbaaGreatIb
import Derived.Test.YtbcngglcaeehbaaGreatMk
import Derived.Test.YtbcngglcaeehbaaGreatSe
set_option linter.unusedVariables false
set_option linter.unusedSimpArgs false
set_option maxRecDepth 10000
namespace Go.Proofs.YtbcngglcaeehbaaGreat
open Go.RowKit Go.Proofs
@[reducible] def fjK15 (l : List Cop) (m : List Jop) (k : Nat) : KL := [(0, vL uC l), (1, vL uJ m), (5, vI (cTo l k : Nat)), (10, vL uC l), (11, vI (l.length : Nat)), (12, vI (k : Nat))]
@[reducible] def fjK215 (l : List Cop) (m : List Jop) (k : Nat) : KL := [(0, vL uC l), (1, vL uJ m), (5, vI ((cTo l l.length + jTo m k : Nat) : Int)), (39, vL uJ m), (40, vI (m.length : Nat)), (41, vI (k : Nat))]
theorem few15_fn (l : List Cop) (m : List Jop) (hl : l.length ≤ 1073741824) (ht : (l.map cTot).sum ≤ 1073741824) (hl2 : m.length ≤ 1073741824) (ht2 : (m.map jTot).sum ≤ 1073741824) : Fn Tryz.prog 26 [vL uC l, vL uJ m] [] [] (vB (fewJ l m)) [] := by
  refine Fn.of tblOK [] _ _ _ _ _ Tryz.func26 rfl rfl (by kernel_rfl) (by kernel_rfl) rfl (drawOK tblOK) rfl ?_
  show TrQ _ _ _ _ _ _ _
  refine TrQ.loop tblOK (drawOK tblOK) [] (by kernel_rfl) (X := Nat) (fjK15 l m) (fun _ => []) (fun k => k ≤ l.length ∧ cGood l k) (fun k => l.length - k) 0 ⟨Nat.zero_le _, fun i o hi => by omega⟩ ?_ ?_
  · exact Le.sub ⟨rfl, rfl, rfl, rfl, rfl, rfl, trivial⟩ trivial
  rintro k ⟨hk, hg⟩
  have ht1 := cTo_le l k
  refine ⟨fun hc => ?_, fun hc => ?_⟩
  · have hc : decide ((k : Int) < ((l.length : Nat) : Int)) = true := hc
    have hk1 : k < l.length := by have := of_decide_eq_true hc; omega
    have ht3 := cTo_le l (k + 1)
    have hs := cTo_succ l hk1
    have hbd : cBad l[k] = (decide (12 < cSz l[k]) && decide (cSz l[k] ≤ 256)) := rfl
    have htt : cTot l[k] = (qB (cQ l[k])).length + (cNm l[k]).length + (cOt l[k]).length := rfl
    have hget := lgAt (n := k) hk1
    have hgs := fun hb => hg.succ hk1 hb
    have hbad := fun hb => fewJ_bad (m := m) hk1 hb
    generalize hx : l[k] = o at *
    have m1 : (-9223372036854775808 : Int) ≤ (((qB (cQ o)).length : Nat) : Int) + (((cNm o).length : Nat) : Int) ∧ (((qB (cQ o)).length : Nat) : Int) + (((cNm o).length : Nat) : Int) ≤ 9223372036854775807 := by omega
    have m2 : (-9223372036854775808 : Int) ≤ (((qB (cQ o)).length : Nat) : Int) + (((cNm o).length : Nat) : Int) + (((cOt o).length : Nat) : Int) ∧ (((qB (cQ o)).length : Nat) : Int) + (((cNm o).length : Nat) : Int) + (((cOt o).length : Nat) : Int) ≤ 9223372036854775807 := by omega
    have m3 : (-9223372036854775808 : Int) ≤ ((cTo l k : Nat) : Int) + ((((qB (cQ o)).length : Nat) : Int) + (((cNm o).length : Nat) : Int) + (((cOt o).length : Nat) : Int)) ∧ ((cTo l k : Nat) : Int) + ((((qB (cQ o)).length : Nat) : Int) + (((cNm o).length : Nat) : Int) + (((cOt o).length : Nat) : Int)) ≤ 9223372036854775807 := by omega
    have e3 : ((cTo l k : Nat) : Int) + ((((qB (cQ o)).length : Nat) : Int) + (((cNm o).length : Nat) : Int) + (((cOt o).length : Nat) : Int)) = ((cTo l (k + 1) : Nat) : Int) := by omega
    refine ⟨by omega, o, hget, ?_⟩
    refine ⟨rfl, m1, m2, m3, ?_⟩
    refine ⟨fun cA => ?_, fun cA => ?_⟩
    · have cA : decide (12 < cSz o) = true := cA
      refine ⟨fun cB => ?_, fun cB => ?_⟩
      · have cB : decide (cSz o ≤ 256) = true := cB
        exact ⟨_, _, _, Le.refl _ _, rfl, (hbad (by rw [hbd, cA, cB]; rfl)).symm, trivial, rfl⟩
      · have cB : decide (cSz o ≤ 256) = false := cB
        exact ⟨by omega, k + 1, ⟨hk1, hgs (by rw [hbd, cA, cB]; rfl)⟩, by omega, Le.sub ⟨rfl, rfl, e3, rfl, rfl, rfl, trivial⟩ trivial⟩
    · have cA : decide (12 < cSz o) = false := cA
      exact ⟨by omega, k + 1, ⟨hk1, hgs (by rw [hbd, cA]; rfl)⟩, by omega, Le.sub ⟨rfl, rfl, e3, rfl, rfl, rfl, trivial⟩ trivial⟩
  · have hc : decide ((k : Int) < ((l.length : Nat) : Int)) = false := hc
    have hk2 : k = l.length := by have := of_decide_eq_false hc; omega
    subst hk2
    have hall : (l.all fun o => !cBad o) = true := List.all_eq_true.2 fun o ho => by
      obtain ⟨i, hi, rfl⟩ := List.getElem_of_mem ho
      rw [hg i _ hi (List.getElem?_eq_getElem hi)]
      rfl
    have htt : cTo l l.length = (l.map cTot).sum := by unfold cTo; rw [List.take_length]
    show TrQ _ _ _ _ _ _ _
    refine TrQ.loop tblOK (drawOK tblOK) [] (by kernel_rfl) (X := Nat) (fjK215 l m) (fun _ => []) (fun j => j ≤ m.length) (fun j => m.length - j) 0 (Nat.zero_le _) ?_ ?_
    · exact Le.sub ⟨rfl, rfl, rfl, rfl, rfl, rfl, trivial⟩ trivial
    intro j hj
    have hj1 := jTo_le m j
    refine ⟨fun hc => ?_, fun hc => ?_⟩
    · have hc : decide ((j : Int) < ((m.length : Nat) : Int)) = true := hc
      have hjm : j < m.length := by have := of_decide_eq_true hc; omega
      have hj2 := jTo_le m (j + 1)
      have hs := jTo_succ m hjm
      have hj3 : jTot m[j] = (qB (jQ m[j])).length := rfl
      have hget := lgAt (n := j) hjm
      generalize hx : m[j] = o at *
      have m3 : (-9223372036854775808 : Int) ≤ ((cTo l l.length + jTo m j : Nat) : Int) + (((qB (jQ o)).length : Nat) : Int) ∧ ((cTo l l.length + jTo m j : Nat) : Int) + (((qB (jQ o)).length : Nat) : Int) ≤ 9223372036854775807 := by omega
      have e3 : ((cTo l l.length + jTo m j : Nat) : Int) + (((qB (jQ o)).length : Nat) : Int) = ((cTo l l.length + jTo m (j + 1) : Nat) : Int) := by omega
      refine ⟨by omega, o, hget, ?_⟩
      refine ⟨rfl, m3, ?_⟩
      exact ⟨by omega, j + 1, hjm, by omega, Le.sub ⟨rfl, rfl, e3, rfl, rfl, rfl, trivial⟩ trivial⟩
    · have hc : decide ((j : Int) < ((m.length : Nat) : Int)) = false := hc
      have hj2 : j = m.length := by have := of_decide_eq_false hc; omega
      subst hj2
      have hjt : jTo m m.length = (m.map jTot).sum := by unfold jTo; rw [List.take_length]
      have m4 : (-9223372036854775808 : Int) ≤ ((l.length : Nat) : Int) + ((m.length : Nat) : Int) ∧ ((l.length : Nat) : Int) + ((m.length : Nat) : Int) ≤ 9223372036854775807 := by omega
      refine ⟨m4, ?_⟩
      refine ⟨fun c1 => ?_, fun c1 => ?_⟩
      · have c1 : decide (((l.length : Nat) : Int) + ((m.length : Nat) : Int) ≤ 60) = true := c1
        have c1 : decide (l.length + m.length ≤ 60) = true := decide_eq_true (by have := of_decide_eq_true c1; omega)
        refine ⟨_, _, _, Le.refl _ _, rfl, (show decide (((cTo l l.length + jTo m m.length : Nat) : Int) ≤ 6000) = fewJ l m from ?_), trivial, rfl⟩
        rw [fewJ, hall, c1, htt, hjt, Bool.eq_iff_iff]
        simp
        omega
      · have c1 : decide (((l.length : Nat) : Int) + ((m.length : Nat) : Int) ≤ 60) = false := c1
        have c1 : decide (l.length + m.length ≤ 60) = false := decide_eq_false (by have := of_decide_eq_false c1; omega)
        refine ⟨_, _, _, Le.refl _ _, rfl, (show false = fewJ l m from ?_), trivial, rfl⟩
        rw [fewJ, hall, c1]
        rfl
theorem does15_fn {bits room : Nat} {L : List Dsk} (h : CS bits room L) (o : Cop) (hb : cTot o ≤ 1000000) :
    FnX Tryz.prog 28 [vP 1001, copV o] (chB bits room L) [] (X := { p : Nat × Nat // CS bits room (doD bits room L o p).L }) (fun p => vI (doD bits room L o p.1).e) (fun p => chB bits room (doD bits room L o p.1).L) := by
  have htt : cTot o = (qB (cQ o)).length + (cNm o).length + (cOt o).length := rfl
  have hnm : (cNm o).length ≤ 4294967296 := by omega
  refine FnX.of tblOK [3] _ _ _ _ _ Tryz.func28 rfl rfl (by kernel_rfl) (by kernel_rfl) rfl (drawOK tblOK) rfl ?_
  refine ⟨rfl, ?_⟩
  refine ⟨fun c0 => ?_, fun c0 => ?_⟩
  · have c0 : cK o = 0 := of_decide_eq_true c0
    have hE : ∀ p, doD bits room L o p = adC bits room L (cNm o) (cSz o) (cOt o) p := fun p => if_pos c0
    show TrQ _ _ _ _ _ _ _
    refine TrQ.regionX tblOK (by kernel_rfl) ?_
    refine ⟨_, _, _, fun g => _, fun g => _, chadd_fn h (cNm o) (cSz o) (cOt o) hnm, ⟨rfl, rfl, rfl, rfl, trivial⟩, rfl, fun _ => rfl, fun g => ?_⟩
    have hL := congrArg CR.L (hE g.1)
    exact ⟨⟨g.1, by rw [hE]; exact g.2⟩, _, _, _, Le.refl _ _, rfl, congrArg CR.e (hE g.1).symm, ⟨rfl, congrArg (fun l => some (Ch.map .str .adr (chE l))) hL.symm, congrArg (fun l => some (Ch.obj (.pool (chD l)))) hL.symm, congrArg (fun l => some (Ch.obj (.pool (chM l)))) hL.symm, trivial⟩, rfl⟩
  have c0 : cK o ≠ 0 := of_decide_eq_false c0
  have g0 : CS bits room (doD bits room L o (0, 0)).L := doD_cs h c0 (0, 0)
  refine ⟨fun c1 => ?_, fun c1 => ?_⟩
  · have c1 : cK o = 1 := of_decide_eq_true c1
    have hE : doD bits room L o (0, 0) = rmC L (cNm o) := (if_neg c0).trans (if_pos c1)
    have hL := congrArg CR.L hE
    refine ⟨_, _, _, _, chremove_fn h (cNm o), ⟨rfl, rfl, rfl, rfl, trivial⟩, rfl, ?_⟩
    exact ⟨⟨_, g0⟩, _, _, _, Le.refl _ _, rfl, congrArg CR.e hE.symm, ⟨rfl, congrArg (fun l => some (Ch.map .str .adr (chE l))) hL.symm, congrArg (fun l => some (Ch.obj (.pool (chD l)))) hL.symm, congrArg (fun l => some (Ch.obj (.pool (chM l)))) hL.symm, trivial⟩, rfl⟩
  have c1 : cK o ≠ 1 := of_decide_eq_false c1
  refine ⟨fun c2 => ?_, fun c2 => ?_⟩
  · have c2 : cK o = 2 := of_decide_eq_true c2
    have hE : doD bits room L o (0, 0) = rbC L (cNm o) (cOt o) := (if_neg c0).trans ((if_neg c1).trans (if_pos c2))
    have hL := congrArg CR.L hE
    refine ⟨_, _, _, _, chrebase_fn h (cNm o) (cOt o), ⟨rfl, rfl, rfl, rfl, trivial⟩, rfl, ?_⟩
    exact ⟨⟨_, g0⟩, _, _, _, Le.refl _ _, rfl, congrArg CR.e hE.symm, ⟨rfl, congrArg (fun l => some (Ch.map .str .adr (chE l))) hL.symm, congrArg (fun l => some (Ch.obj (.pool (chD l)))) hL.symm, congrArg (fun l => some (Ch.obj (.pool (chM l)))) hL.symm, trivial⟩, rfl⟩
  have c2 : cK o ≠ 2 := of_decide_eq_false c2
  refine ⟨fun c3 => ?_, fun c3 => ?_⟩
  · have c3 : cK o = 3 := of_decide_eq_true c3
    have hQ : doD bits room L o (0, 0) = doW bits L (cNm o) (cQ o) := (if_neg c0).trans ((if_neg c1).trans ((if_neg c2).trans (if_pos c3)))
    refine ⟨fun d1 => ?_, fun d1 => ?_⟩
    · have d1 : qK (cQ o) = 1 := of_decide_eq_true d1
      have hE := hQ.trans (if_pos d1)
      have hL := congrArg CR.L hE
      refine ⟨_, _, _, _, chwrite_fn h (cNm o) (qA (cQ o)) (qB (cQ o)) (by omega), ⟨rfl, rfl, rfl, rfl, trivial⟩, rfl, ?_⟩
      exact ⟨⟨_, g0⟩, _, _, _, Le.refl _ _, rfl, congrArg CR.e hE.symm, ⟨rfl, congrArg (fun l => some (Ch.map .str .adr (chE l))) hL.symm, congrArg (fun l => some (Ch.obj (.pool (chD l)))) hL.symm, congrArg (fun l => some (Ch.obj (.pool (chM l)))) hL.symm, trivial⟩, rfl⟩
    have d1 : qK (cQ o) ≠ 1 := of_decide_eq_false d1
    refine ⟨fun d2 => ?_, fun d2 => ?_⟩
    · have d2 : qK (cQ o) = 2 := of_decide_eq_true d2
      have hE := hQ.trans ((if_neg d1).trans (if_pos d2))
      have hL := congrArg CR.L hE
      refine ⟨_, _, _, _, chzero_fn h (cNm o) (qA (cQ o)) (qL (cQ o)), ⟨rfl, rfl, rfl, rfl, trivial⟩, rfl, ?_⟩
      exact ⟨⟨_, g0⟩, _, _, _, Le.refl _ _, rfl, congrArg CR.e hE.symm, ⟨rfl, congrArg (fun l => some (Ch.map .str .adr (chE l))) hL.symm, congrArg (fun l => some (Ch.obj (.pool (chD l)))) hL.symm, congrArg (fun l => some (Ch.obj (.pool (chM l)))) hL.symm, trivial⟩, rfl⟩
    have d2 : qK (cQ o) ≠ 2 := of_decide_eq_false d2
    refine ⟨fun d3 => ?_, fun d3 => ?_⟩
    · have d3 : qK (cQ o) = 3 := of_decide_eq_true d3
      have hE := hQ.trans ((if_neg d1).trans ((if_neg d2).trans (if_pos d3)))
      have hL := congrArg CR.L hE
      refine ⟨_, _, _, _, chdisc_fn h (cNm o) (qA (cQ o)) (qL (cQ o)), ⟨rfl, rfl, rfl, rfl, trivial⟩, rfl, ?_⟩
      exact ⟨⟨_, g0⟩, _, _, _, Le.refl _ _, rfl, congrArg CR.e hE.symm, ⟨rfl, congrArg (fun l => some (Ch.map .str .adr (chE l))) hL.symm, congrArg (fun l => some (Ch.obj (.pool (chD l)))) hL.symm, congrArg (fun l => some (Ch.obj (.pool (chM l)))) hL.symm, trivial⟩, rfl⟩
    have d3 : qK (cQ o) ≠ 3 := of_decide_eq_false d3
    have hE := hQ.trans ((if_neg d1).trans ((if_neg d2).trans (if_neg d3)))
    have hL := congrArg CR.L hE
    exact ⟨⟨_, g0⟩, _, _, _, Le.refl _ _, rfl, congrArg CR.e hE.symm, ⟨rfl, congrArg (fun l => some (Ch.map .str .adr (chE l))) hL.symm, congrArg (fun l => some (Ch.obj (.pool (chD l)))) hL.symm, congrArg (fun l => some (Ch.obj (.pool (chM l)))) hL.symm, trivial⟩, rfl⟩
  have c3 : cK o ≠ 3 := of_decide_eq_false c3
  have hE : doD bits room L o (0, 0) = ⟨0, L⟩ := (if_neg c0).trans ((if_neg c1).trans ((if_neg c2).trans (if_neg c3)))
  have hL := congrArg CR.L hE
  exact ⟨⟨_, g0⟩, _, _, _, Le.refl _ _, rfl, congrArg CR.e hE.symm, ⟨rfl, congrArg (fun l => some (Ch.map .str .adr (chE l))) hL.symm, congrArg (fun l => some (Ch.obj (.pool (chD l)))) hL.symm, congrArg (fun l => some (Ch.obj (.pool (chM l)))) hL.symm, trivial⟩, rfl⟩
theorem all15_fn {bits room : Nat} {L : List Dsk} (h : CS bits room L) (nm : List UInt8) : Fn Tryz.prog 31 [vP 1001, vS nm] (chB bits room L) [] (vS (allC bits L nm)) (chB bits room L) := by
  unfold allC
  cases hd : dk L nm with
  | none =>
    simp only
    refine Fn.of tblOK [] _ _ _ _ _ Tryz.func31 rfl rfl (by kernel_rfl) (by kernel_rfl) rfl (drawOK tblOK) rfl ?_
    refine ⟨_, _, _, _, image_no _ _ L nm hd, ⟨rfl, rfl, rfl, rfl, trivial⟩, rfl, ?_⟩
    exact ⟨_, _, _, Le.refl _ _, rfl, rfl, ⟨rfl, rfl, rfl, rfl, trivial⟩, rfl⟩
  | some d =>
    obtain ⟨hO, hbt, _⟩ := h.ims d (dk_get hd).1
    have hLm := h.toChN.M (dk_get hd).1
    have htl := hO.tl
    have hb3 := h.b3
    have hp := pow_le8 h.b3
    have esh : ((d.im.t.length : Nat) : Int) * ((2 ^ ((d.im.bits : Nat) : Int).toNat : Nat) : Int) = ((d.im.t.length * 2 ^ bits : Nat) : Int) := by
      rw [hbt]
      show ((d.im.t.length : Nat) : Int) * ((2 ^ bits : Nat) : Int) = _
      rw [Int.natCast_mul]
    have mk : d.im.t.length * 2 ^ bits ≤ 256 * 8 := Nat.mul_le_mul htl hp.2
    have m1 : (0 : Int) ≤ ((d.im.t.length : Nat) : Int) ∧ (0 : Int) ≤ ((d.im.bits : Nat) : Int) ∧ ((d.im.bits : Nat) : Int) ≤ 64 := by omega
    have m2 : (-9223372036854775808 : Int) ≤ ((d.im.t.length : Nat) : Int) * ((2 ^ ((d.im.bits : Nat) : Int).toNat : Nat) : Int) ∧ ((d.im.t.length : Nat) : Int) * ((2 ^ ((d.im.bits : Nat) : Int).toNat : Nat) : Int) ≤ 9223372036854775807 := by rw [esh]; omega
    have hcr := chread_fn h nm 0 ((d.im.t.length * 2 ^ bits : Nat) : Int)
    rw [rdC_ok h hd (n := d.im.t.length * 2 ^ bits) (by rw [iall_one h hd]; exact Nat.le_refl _), ← esh] at hcr
    simp only
    generalize crdK bits L nm (dpt L nm) 0 (d.im.t.length * 2 ^ bits) = x at *
    refine Fn.of tblOK [] _ _ _ _ _ Tryz.func31 rfl rfl (by kernel_rfl) (by kernel_rfl) rfl (drawOK tblOK) rfl ?_
    refine ⟨_, _, _, _, image_fn _ _ L h.toChN nm d hd, ⟨rfl, rfl, rfl, rfl, trivial⟩, rfl, ?_⟩
    refine ⟨fun _ _ => ?_, fun h => by cases h⟩
    refine ⟨_, _, _, _, imFn (isize_fn d.im) hLm rfl rfl rfl rfl, ⟨rfl, trivial⟩, rfl, ?_⟩
    refine ⟨_, _, _, _, imFn (ibits_fn d.im) hLm rfl rfl rfl rfl, ⟨rfl, trivial⟩, rfl, ?_⟩
    refine ⟨m1, m2, ?_⟩
    refine ⟨_, _, _, _, hcr, ⟨rfl, rfl, rfl, rfl, trivial⟩, rfl, ?_⟩
    exact ⟨_, _, _, Le.refl _ _, rfl, rfl, ⟨rfl, rfl, rfl, rfl, trivial⟩, rfl⟩
/-! Merges: alive of law 15; jobs are kept. -/
def akX : List UInt8 := 120 :: List.replicate 15 0
def bk1 (p : Nat × Nat) : List Dsk := (adC 0 20 [] [97] 4 [] p).L
def bk2 (p q : Nat × Nat) : List Dsk := (adC 0 20 (bk1 p) [98] 4 [97] q).L
def bk3 (p q : Nat × Nat) : List Dsk := (wrC 0 (bk2 p q) [98] 1 akX).L
def bk4 (p q : Nat × Nat) : List Dsk := (brC 0 (bk3 p q) [98] [97] 1).L
def bk5 (p q : Nat × Nat) : List Dsk := (dsC (bk4 p q) [98] 0 ((4 * 2 ^ 0 : Nat) : Int)).L
theorem usr_len (L : List Dsk) (n : List UInt8) : (usrS L n).length = ((mkeys (chE L)).filter (isUsr L n)).length := ((List.mergeSort_perm (mkeys (chE L)) leB).filter _).length_eq
theorem bk_us (p q : Nat × Nat) : ((mkeys (chE (bk3 p q))).filter (isUsr (bk3 p q) [97])).length = 1 := by kernel_rfl
theorem bk_bc (p q : Nat × Nat) : bkC (bk3 p q) [98] = ([97], 0) := by kernel_rfl
theorem bk_za (p q : Nat × Nat) : szOf (bk3 p q) [97] = 4 := by kernel_rfl
theorem bk_zb (p q : Nat × Nat) : szOf (bk3 p q) [98] = 4 := by kernel_rfl
theorem bk_be (p q : Nat × Nat) : mbE (bk3 p q) [98] = 0 := by
  unfold mbE
  rw [bk_bc]
  simp only
  rw [usr_len, bk_us, bk_za, bk_zb]
  rfl
theorem bk_bl (p q : Nat × Nat) : mbL (bk3 p q) [98] = [1] := by kernel_rfl
theorem bk_bk (p q : Nat × Nat) : (bkC (bk3 p q) [98]).1 = [97] := by kernel_rfl
theorem bk_k3 (p q : Nat × Nat) : (dk (bk3 p q) [98]).isSome = true := by kernel_rfl
theorem bk_z3 (p q : Nat × Nat) : szOf (bk3 p q) [98] = 4 := by kernel_rfl
theorem bk_e4 (p q : Nat × Nat) : (brC 0 (bk3 p q) [98] [97] 1).e = 0 := by kernel_rfl
theorem bk_k4 (p q : Nat × Nat) : (dk (bk4 p q) [98]).isSome = true := by kernel_rfl
theorem bk_z4 (p q : Nat × Nat) : szOf (bk4 p q) [98] = 4 := by kernel_rfl
theorem bk_k5 (p q : Nat × Nat) : (dk (bk5 p q) [98]).isSome = true := by kernel_rfl
theorem bk_z5 (p q : Nat × Nat) : szOf (bk5 p q) [98] = 4 := by kernel_rfl
theorem bk_rd (p q : Nat × Nat) : rdC 0 (bk5 p q) [97] 1 1 = (akX, 0) := by kernel_rfl
theorem bk_kd (p q : Nat × Nat) : kdOf (bk5 p q) [98] 1 = 0 := by kernel_rfl
/-! ### a job is kept -/
section
variable {bits room : Nat} {L : List Dsk} {top base : List UInt8} {l : List Nat}
structure MI (bits room : Nat) (L : List Dsk) (top : List UInt8) (l : List Nat) : Prop where
  cs : CS bits room L
  kn : (dk L top).isSome = true
  lt : ∀ k, k ∈ l → k < szOf L top
  nd : l.Nodup
theorem MI.lm {L' : List Dsk} {t : List UInt8} (h : MI bits room L top l) (hl : Lm L t L') : MI bits room L' top l := ⟨hl.cs h.cs, by rw [(hl.sz top).2]; exact h.kn, fun k hk => by rw [(hl.sz top).1]; exact h.lt k hk, h.nd⟩
theorem brC_lm (h : CS bits room L) (top base : List UInt8) (k : Nat) : Lm L base (brC bits L top base k).L := by
  unfold brC
  split
  · exact wrC_lm h _ _ _
  · split
    · exact zrC_lm h _ _ _
    · exact .inl rfl
theorem MI.step (h : MI bits room L top l) (base : List UInt8) (over : Bool) : MI bits room (mstep bits L top base l over).L top (mstep bits L top base l over).l := by
  unfold mstep
  split
  · exact h
  · split
    · exact ⟨(h.lm (dsC_lm h.cs _ _ _)).cs, (h.lm (dsC_lm h.cs _ _ _)).kn, fun k hk => (by cases hk), List.nodup_nil⟩
    · have h1 := h.lm (brC_lm h.cs top base (mnN l))
      refine ⟨h1.cs, h1.kn, fun k hk => h1.lt k ?_, ?_⟩
      · have hk : k ∈ (if (brC bits L top base (mnN l)).e = 0 then l.erase (mnN l) else l) := hk
        split at hk
        · exact List.mem_of_mem_erase hk
        · exact hk
      · show (if (brC bits L top base (mnN l)).e = 0 then l.erase (mnN l) else l).Nodup
        split
        · exact h.nd.erase _
        · exact h.nd
theorem MI.beg (h : CS bits room L) (he : mbE L top = 0) : MI bits room L top (mbL L top) := by
  obtain ⟨d, hd, _⟩ := bkC_ok h (mbE_ok he).1
  exact ⟨h, by rw [hd]; rfl, fun k hk => List.mem_range.1 (List.mem_filter.1 hk).1, List.nodup_range.filter _⟩
theorem MI.get (h : MI bits room L top l) : ∃ d, dk L top = some d ∧ ∀ k, k ∈ l → k < d.im.t.length := by
  obtain ⟨d, hd⟩ := Option.isSome_iff_exists.1 h.kn
  refine ⟨d, hd, fun k hk => ?_⟩
  have := h.lt k hk
  unfold szOf at this
  rw [hd] at this
  exact this
theorem MI.len (h : MI bits room L top l) : l.length ≤ szOf L top ∧ szOf L top ≤ 256 := by
  obtain ⟨d, hd, _⟩ := h.get
  refine ⟨nodup_lt _ l h.nd h.lt, ?_⟩
  unfold szOf
  rw [hd]
  exact (h.cs.ims d (dk_get hd).1).1.tl
theorem MI.stepFn (h : MI bits room L top l) (base : List UInt8) (over : Bool) : Fn Tryz.prog 32 [vP 2001] (mjB bits room L top base l over) [] (.tup [.one (.d (.bool (mstep bits L top base l over).done)), vErr (mstep bits L top base l over).e]) (mjB bits room (mstep bits L top base l over).L top base (mstep bits L top base l over).l (mstep bits L top base l over).over) :=
  let ⟨_, hd, hl⟩ := h.get
  mstep_fn h.cs base l over hd hl h.nd
theorem mwr_mem {bits n : Nat} {l : List Nat} {a long : Int} : ∀ {k : Nat}, k ∈ mwr bits n l a long → k ∈ l ∨ k < n := by
  induction n with
  | zero => exact fun h => .inl h
  | succ n ih =>
    intro k hk
    rw [mwr_succ] at hk
    split at hk
    · rcases lput_mem.1 hk with hk | rfl
      · exact (ih hk).imp id (by omega)
      · exact .inr (by omega)
    · exact (ih hk).imp id (by omega)
theorem mwr_nodup {bits n : Nat} {l : List Nat} {a long : Int} (h : l.Nodup) : (mwr bits n l a long).Nodup := by
  induction n with
  | zero => exact h
  | succ n ih =>
    rw [mwr_succ]
    split
    · exact lput_nodup ih
    · exact ih
theorem MI.wr (h : MI bits room L top l) (over : Bool) (a long : Int) : MI bits room L top (mwC bits L top l over a long) := by
  unfold mwC
  split
  · exact h
  · exact ⟨h.cs, h.kn, fun k hk => (mwr_mem hk).elim (h.lt k) id, mwr_nodup h.nd⟩
end
/-! ### alive -/
@[reducible] def akK : KL := [(1, vP 1001), (3, vL .u8 akX)]
set_option maxHeartbeats 1000000 in
theorem alive15_fn : Fn Tryz.prog 27 [] [] [] (vB true) [] := by
  have c0 : CS 0 20 [] := CS.nil (by decide) (by decide)
  refine Fn.of tblOK [6,7,8,9,12,15,18] _ _ _ _ _ Tryz.func27 rfl rfl (by kernel_rfl) (by kernel_rfl) rfl (drawOK tblOK) rfl ?_
  refine ⟨_, _, _, _, chnew_ok 0 20 (by decide) (by decide), trivial, rfl, ?_⟩
  refine ⟨fun h => absurd h (by decide), fun _ => ?_⟩
  refine ⟨⟨rfl, by decide, by decide⟩, rfl, ?_⟩
  refine ⟨⟨by decide, by decide⟩, ⟨⟨by decide, by decide⟩, by decide⟩, ?_⟩
  show TrQ _ _ _ _ _ _ _
  refine TrQ.le (Le.frz 26 rfl) ?_
  refine TrQ.le (Le.sub (K' := akK) (B' := chB 0 20 []) ⟨rfl, rfl, trivial⟩ ⟨rfl, rfl, rfl, rfl, trivial⟩) ?_
  refine TrQ.regionX tblOK (by kernel_rfl) ?_
  refine ⟨_, _, _, fun g => _, fun g => _, chadd_fn c0 [97] 4 [] (by decide), ⟨rfl, rfl, rfl, rfl, trivial⟩, rfl, fun _ => rfl, fun p => ?_⟩
  obtain ⟨p, c1⟩ := p
  have c1 : CS 0 20 (bk1 p) := c1
  show TrQ _ _ _ _ _ _ _
  refine TrQ.le (Le.sub (K' := akK) (B' := chB 0 20 (bk1 p)) ⟨rfl, rfl, trivial⟩ ⟨rfl, rfl, rfl, rfl, trivial⟩) ?_
  refine TrQ.regionX tblOK (by kernel_rfl) ?_
  refine ⟨_, _, _, fun g => _, fun g => _, chadd_fn c1 [98] 4 [97] (by decide), ⟨rfl, rfl, rfl, rfl, trivial⟩, rfl, fun _ => rfl, fun q => ?_⟩
  obtain ⟨q, c2⟩ := q
  have c2 : CS 0 20 (bk2 p q) := c2
  have c3 : CS 0 20 (bk3 p q) := wrC_cs c2 _ _ _
  have m3 : MI 0 20 (bk3 p q) [98] [1] := by have := MI.beg c3 (bk_be p q); rwa [bk_bl] at this
  have e4 : mstep 0 (bk3 p q) [98] [97] [1] false = ⟨false, 0, bk4 p q, [], false⟩ := by
    have : mstep 0 (bk3 p q) [98] [97] [1] false = ⟨false, (brC 0 (bk3 p q) [98] [97] 1).e, (brC 0 (bk3 p q) [98] [97] 1).L, if (brC 0 (bk3 p q) [98] [97] 1).e = 0 then [] else [1], false⟩ := rfl
    rw [this, bk_e4]
    rfl
  have hs1 := m3.stepFn [97] false
  have m4 := m3.step [97] false
  rw [e4] at hs1 m4
  have m4 : MI 0 20 (bk4 p q) [98] [] := m4
  have e5 : mstep 0 (bk4 p q) [98] [97] [] false = ⟨true, 0, bk5 p q, [], true⟩ := by
    have : mstep 0 (bk4 p q) [98] [97] [] false = ⟨true, 0, (dsC (bk4 p q) [98] 0 ((szOf (bk4 p q) [98] * 2 ^ 0 : Nat) : Int)).L, [], true⟩ := rfl
    rw [this, bk_z4]
    rfl
  have hs2 := m4.stepFn [97] false
  have m5 := m4.step [97] false
  rw [e5] at hs2 m5
  have m5 : MI 0 20 (bk5 p q) [98] [] := m5
  have hs3 := m5.stepFn [97] true
  rw [show mstep 0 (bk5 p q) [98] [97] [] true = ⟨false, 150, bk5 p q, [], true⟩ from rfl] at hs3
  have hw := chwrite_fn c2 [98] 1 akX (by decide)
  have e3 : (wrC 0 (bk2 p q) [98] 1 akX).L = bk3 p q := rfl
  rw [e3] at hw
  generalize (wrC 0 (bk2 p q) [98] 1 akX).e = w4 at hw
  have hb := mbegin_ok c3 [98] (bk_be p q)
  rw [bk_bl, bk_bk] at hb
  have hlf := mleft_fn ((0 : Nat) : Int) ((20 : Nat) : Int) (bk3 p q) [98] [97] [1] false
  have hr := chread_fn m5.cs [97] 1 1
  rw [bk_rd] at hr
  obtain ⟨d, hd⟩ := Option.isSome_iff_exists.1 (bk_k5 p q)
  have hLm := m5.cs.toChN.M (dk_get hd).1
  have htl := (m5.cs.ims d (dk_get hd).1).1.tl
  have hz := bk_z5 p q
  have hkk := bk_kd p q
  have hz : d.im.t.length = 4 := by unfold szOf at hz; rw [hd] at hz; exact hz
  have hik := ikindD_fn d.im htl 1 (by omega)
  have hkk : (d.im.t.getD 1 s0).1 = 0 := by unfold kdOf at hkk; rw [hd] at hkk; exact hkk
  rw [hkk] at hik
  have him := image_fn ((0 : Nat) : Int) ((20 : Nat) : Int) (bk5 p q) m5.cs.toChN [98] d hd
  show TrQ _ _ _ _ _ _ _
  refine TrQ.le (Le.sub (K' := akK) (B' := chB 0 20 (bk2 p q)) ⟨rfl, rfl, trivial⟩ ⟨rfl, rfl, rfl, rfl, trivial⟩) ?_
  clear e3 e4 e5 c3 m3 m4 hkk hz
  generalize bk2 p q = L2 at *
  generalize bk3 p q = L3 at *
  generalize bk4 p q = L4 at *
  generalize bk5 p q = L5 at *
  refine TrQ.go tblOK (drawOK tblOK) [9,12,15,18] (by kernel_rfl) (Le.refl _ _) ?_
  refine ⟨_, _, _, _, hw, ⟨rfl, rfl, rfl, rfl, trivial⟩, rfl, ?_⟩
  show TrQ _ _ _ _ _ _ _
  refine TrQ.go tblOK (drawOK tblOK) [12,15,18] (by kernel_rfl) (Le.sub (K' := akK) (B' := chB 0 20 L3) ⟨rfl, rfl, trivial⟩ ⟨rfl, rfl, rfl, rfl, trivial⟩) ?_
  refine ⟨_, _, _, _, hb, ⟨rfl, rfl, rfl, rfl, trivial⟩, rfl, ?_⟩
  refine ⟨fun h => absurd h (by decide), fun _ => ?_⟩
  show TrQ _ _ _ _ _ _ _
  refine TrQ.go tblOK (drawOK tblOK) [15,18] (by kernel_rfl) (Le.sub (K' := [(1, vP 1001), (3, vL .u8 akX), (4, vP 2001)]) (B' := mjB 0 20 L3 [98] [97] [1] false) ⟨rfl, rfl, rfl, trivial⟩ ⟨rfl, rfl, rfl, rfl, rfl, rfl, trivial⟩) ?_
  refine ⟨_, _, _, _, hlf, ⟨rfl, rfl, rfl, rfl, rfl, rfl, trivial⟩, rfl, ?_⟩
  refine ⟨_, _, _, _, hs1, ⟨rfl, rfl, rfl, rfl, rfl, rfl, trivial⟩, rfl, ?_⟩
  refine ⟨_, _, _, _, hs2, ⟨rfl, rfl, rfl, rfl, rfl, rfl, trivial⟩, rfl, ?_⟩
  show TrQ _ _ _ _ _ _ _
  refine TrQ.go tblOK (drawOK tblOK) [18] (by kernel_rfl) (Le.sub (K' := [(1, vP 1001), (3, vL .u8 akX), (4, vP 2001), (6, vI 1), (7, vB false), (8, vI 0), (9, vB true), (10, vI 0)]) (B' := mjB 0 20 L5 [98] [97] [] true) ⟨rfl, rfl, rfl, rfl, rfl, rfl, rfl, rfl, trivial⟩ ⟨rfl, rfl, rfl, rfl, rfl, rfl, trivial⟩) ?_
  refine ⟨_, _, _, _, hs3, ⟨rfl, rfl, rfl, rfl, rfl, rfl, trivial⟩, rfl, ?_⟩
  refine ⟨_, _, _, _, hr, ⟨rfl, rfl, rfl, rfl, trivial⟩, rfl, ?_⟩
  refine ⟨_, _, _, _, him, ⟨rfl, rfl, rfl, rfl, trivial⟩, rfl, ?_⟩
  show TrQ _ _ _ _ _ _ _
  refine TrQ.go tblOK (drawOK tblOK) [] (by kernel_rfl) (Le.sub (K' := [(3, vL .u8 akX), (6, vI 1), (7, vB false), (8, vI 0), (9, vB true), (10, vI 0), (12, vI 150), (13, vL .u8 akX), (14, vI 0), (15, vAd d.am)]) (B' := chB 0 20 L5) ⟨rfl, rfl, rfl, rfl, rfl, rfl, rfl, rfl, rfl, rfl, trivial⟩ ⟨rfl, rfl, rfl, rfl, trivial⟩) ?_
  refine ⟨fun _ => ?_, fun h => absurd h (by decide)⟩
  refine ⟨fun _ => ?_, fun h => absurd h (by decide)⟩
  refine ⟨fun _ => ?_, fun h => absurd h (by decide)⟩
  refine ⟨fun _ => ?_, fun h => absurd h (by decide)⟩
  refine ⟨fun _ => ?_, fun h => absurd h (by decide)⟩
  refine ⟨fun _ => ?_, fun h => absurd h (by decide)⟩
  refine ⟨fun _ => ?_, fun h => absurd h (by decide)⟩
  refine ⟨fun _ => ?_, fun h => absurd h (by decide)⟩
  refine ⟨fun _ _ => ?_, fun h => by cases h⟩
  refine ⟨_, _, _, _, imFn hik hLm rfl rfl rfl rfl, ⟨rfl, trivial⟩, rfl, ?_⟩
  exact ⟨_, _, _, Le.refl _ _, rfl, rfl, trivial, rfl⟩
/-! Merges, plain: a step of a job with room; how much a write adds. -/
section
variable {bits room : Nat} {L : List Dsk} {top base nm : List UInt8} {l : List Nat}
theorem room_pos (h : CS bits room L) {d : Dsk} (hd : dk L nm = some d) (hr : d.im.t.length < room) : 0 < zeros d.im.l := by
  obtain ⟨hO, hbt, hlen⟩ := h.ims d (dk_get hd).1
  have := used_le hO
  omega
theorem zr_ok (h : CS bits room L) {d : Dsk} (hd : dk L nm = some d) {k : Nat} (hk : k < d.im.t.length) (hz : 0 < zeros d.im.l) : (zrC bits L nm ((k * 2 ^ bits : Nat) : Int) ((2 ^ bits : Nat) : Int)).e = 0 := by
  obtain ⟨hO, hbt, _⟩ := h.ims d (dk_get hd).1
  have hin := clus_in hO hk
  rw [hbt] at hin
  unfold zrC
  rw [hd]
  simp only
  rw [if_neg (fun hh => hh hin)]
  show izE d.im ((k * 2 ^ bits : Nat) : Int).toNat ((2 ^ bits : Nat) : Int).toNat = 0
  unfold izE
  rw [if_pos]
  refine Nat.le_trans (zdK_le _ _ _ _) (Nat.le_trans ?_ hz)
  exact pcN_one h.b3 (wid_eq h hd)
theorem clC_eq {d : Dsk} (hd : dk L top = some d) {k : Nat} (hk : k < d.im.t.length) : clC bits L top (k : Int) = cseen bits L top (dpt L top) k := by
  unfold clC
  rw [hd]
  simp only
  rw [if_pos ⟨by omega, by omega⟩]
  rfl
/-- A job under way, with room for all that it brings. -/
structure MJ (bits room : Nat) (L : List Dsk) (top base : List UInt8) (l : List Nat) : Prop extends MI bits room L top l where
  kb : (dk L base).isSome = true
  le : szOf L top ≤ szOf L base
  sm : szOf L base < room
  bk : bkC L top = (base, 0)
  ne : base ≠ []
theorem MJ.beg (h : CS bits room L) (he : mbE L top = 0) (hs : ∀ n, szOf L n < room) : MJ bits room L top (bkC L top).1 (mbL L top) := by
  obtain ⟨e1, e2, e3, e4⟩ := mbE_ok he
  obtain ⟨d, hd, hb, hkn⟩ := bkC_ok h e1
  obtain ⟨e, hke⟩ := hkn (by rw [← hb]; exact e2)
  rw [← hb] at hke
  exact ⟨MI.beg h he, by rw [hke]; rfl, e4, hs _, by rw [← e1], e2⟩
theorem Lm.bkC {L' : List Dsk} {t : List UInt8} (hl : Lm L t L') (n : List UInt8) : bkC L' n = bkC L n := by
  rcases hl with rfl | ⟨d, im, h0, hs, rfl⟩
  · rfl
  · unfold Go.Proofs.YtbcngglcaeehbaaGreat.bkC
    rw [dk_lim]
    cases hd : dk L n with
    | none => rfl
    | some d => show (_, _) = (_, _); rw [imD_back]
theorem MJ.lm {L' : List Dsk} {t : List UInt8} (h : MJ bits room L top base l) (hl : Lm L t L') : MJ bits room L' top base l := ⟨h.toMI.lm hl, by rw [(hl.sz base).2]; exact h.kb, by rw [(hl.sz base).1, (hl.sz top).1]; exact h.le, by rw [(hl.sz base).1]; exact h.sm, by rw [hl.bkC]; exact h.bk, h.ne⟩
theorem MJ.br (h : MJ bits room L top base l) {k : Nat} (hk : k < szOf L top) : (brC bits L top base k).e = 0 := by
  obtain ⟨d, hd, _⟩ := h.toMI.get
  obtain ⟨e, he⟩ := Option.isSome_iff_exists.1 h.kb
  have hs1 : szOf L top = d.im.t.length := by unfold szOf; rw [hd]
  have hs2 : szOf L base = e.im.t.length := by unfold szOf; rw [he]
  have hle := h.le
  have hsm := h.sm
  have hz := room_pos h.cs he (by omega)
  unfold brC
  split
  · refine wr_ok h.cs he (by omega) ?_ hz
    rw [clC_eq hd (by omega), cseen_len h.cs.toChOK hd (h.cs.dep top).1 k]
  · split
    · exact zr_ok h.cs he (by omega) hz
    · rfl
theorem MJ.stepE (h : MJ bits room L top base l) (hne : l ≠ []) : mstep bits L top base l false = ⟨false, 0, (brC bits L top base (mnN l)).L, l.erase (mnN l), false⟩ := by
  have he := h.br (h.lt _ (mnN_spec hne).2.1)
  unfold mstep
  rw [if_neg (by decide), if_neg hne, he, if_pos rfl]
theorem MJ.step (h : MJ bits room L top base l) (over : Bool) : MJ bits room (mstep bits L top base l over).L top base (mstep bits L top base l over).l := by
  have hm := h.toMI.step base over
  have hl : ∃ t, Lm L t (mstep bits L top base l over).L := by
    unfold mstep
    split
    · exact ⟨top, .inl rfl⟩
    · split
      · exact ⟨top, dsC_lm h.cs _ _ _⟩
      · exact ⟨base, brC_lm h.cs top base _⟩
  obtain ⟨t, hl⟩ := hl
  have h1 := h.lm hl
  exact ⟨hm, h1.kb, h1.le, h1.sm, h1.bk, h1.ne⟩
theorem MJ.wr (h : MJ bits room L top base l) (over : Bool) (a long : Int) : MJ bits room L top base (mwC bits L top l over a long) := ⟨h.toMI.wr over a long, h.kb, h.le, h.sm, h.bk, h.ne⟩
theorem mwr_len1 (n : Nat) (l : List Nat) (a long : Nat) : l.length ≤ (mwr 1 n l (a : Int) (long : Int)).length ∧ (mwr 1 n l (a : Int) (long : Int)).length ≤ l.length + (min n ((a + long + 1) / 2) - a / 2) := by
  induction n with
  | zero => exact ⟨Nat.le_refl _, Nat.le_add_right _ _⟩
  | succ n ih =>
    rw [mwr_succ]
    split
    · rename_i hc
      have := lput_len (mwr 1 n l (a : Int) (long : Int)) n
      omega
    · omega
theorem mwC_len (h : MI 1 room L top l) (over : Bool) (a long : Nat) : l.length ≤ (mwC 1 L top l over (a : Int) (long : Int)).length ∧ (mwC 1 L top l over (a : Int) (long : Int)).length ≤ l.length + long / 2 + 2 := by
  unfold mwC
  split
  · omega
  · rename_i hc
    have := mwr_len1 (szOf L top) l a long
    omega
end
/-! Merges, plain: what is not left reads the same from the base as from the top; steps change nothing of what the top reads. -/
def Sc (bits : Nat) (L : List Dsk) (nm : List UInt8) (s : Nat) : List UInt8 := crdP bits L nm (dpt L nm) s
def MV (bits : Nat) (L : List Dsk) (top base : List UInt8) (l : List Nat) : Prop := ∀ s, s < szOf L top * 2 ^ bits → s / 2 ^ bits ∉ l → Sc bits L top s = Sc bits L base s
section
variable {bits room : Nat} {L L' : List Dsk} {top base t : List UInt8} {l : List Nat}
theorem MJ.dk (h : MJ bits room L top base l) : ∃ d, Go.Proofs.YtbcngglcaeehbaaGreat.dk L top = some d ∧ d.back = base := by
  have hb := h.bk
  unfold bkC at hb
  cases hd : Go.Proofs.YtbcngglcaeehbaaGreat.dk L top with
  | none => rw [hd] at hb; exact absurd (congrArg Prod.snd hb) (show ¬ (140 : Int) = 0 by decide)
  | some d =>
    rw [hd] at hb
    exact ⟨d, rfl, congrArg Prod.fst hb⟩
theorem Sc_of {L L' : List Dsk} {n n' : List UInt8} {s : Nat} (h : cseen bits L' n' (dpt L' n') (s / 2 ^ bits) = cseen bits L n (dpt L n) (s / 2 ^ bits)) : Sc bits L' n' s = Sc bits L n s := by
  unfold Sc
  rw [crdP_sec, crdP_sec, h]
theorem rd_hole (h : CS bits room L) {d : Dsk} (hd : dk L top = some d) (hne : d.back ≠ []) {c : Nat} (hz : (d.im.t.getD c s0).1 = 0) : cseen bits L top (dpt L top) c = cseen bits L d.back (dpt L d.back) c := by
  rw [cseen_hole hd (fun e => e.2 hz), dpt_step h hd hne, belY_step hd]
theorem rd_own {d : Dsk} (hd : dk L top = some d) {kk c : Nat} (hc : c < d.im.t.length) (hz : (d.im.t.getD c s0).1 ≠ 0) : cseen bits L top kk c = clus d.im c none := by
  unfold cseen
  rw [seenL_head hd ⟨hc, hz⟩]
theorem div_in {n s : Nat} (h : s < n * 2 ^ bits) : s / 2 ^ bits < n := (Nat.div_lt_iff_lt_mul (Nat.two_pow_pos bits)).2 h
/-- What is written to the base is seen in the top's holes alone. -/
theorem top_keep (h : CS bits room L) (hl : Lm L base L') {d : Dsk} (hd : dk L top = some d) (hb : d.back = base) (hne : base ≠ []) : dk L' top = some d ∧ CS bits room L' ∧ ∀ s, s < szOf L top * 2 ^ bits →
    ((d.im.t.getD (s / 2 ^ bits) s0).1 ≠ 0 → Sc bits L' top s = Sc bits L top s) ∧ ((d.im.t.getD (s / 2 ^ bits) s0).1 = 0 → Sc bits L' top s = Sc bits L' base s ∧ Sc bits L top s = Sc bits L base s) := by
  subst hb
  have hoff := off_of h hd hne
  have hcs := hl.cs h
  have hd' : dk L' top = some d := by
    rcases hl with rfl | ⟨e, im, h0, hs, rfl⟩
    · exact hd
    · rw [dk_lim_ne (fun e => hoff.ne e.symm), hd]
  refine ⟨hd', hcs, fun s hs => ⟨fun hz => ?_, fun hz => ?_⟩⟩
  · have hc := div_in hs
    have hsz : szOf L top = d.im.t.length := by unfold szOf; rw [hd]
    rw [hsz] at hc
    exact Sc_of (by rw [rd_own hd' hc hz, rd_own hd hc hz])
  · exact ⟨Sc_of (rd_hole hcs hd' hne hz), Sc_of (rd_hole h hd hne hz)⟩
theorem in_clus {k s : Nat} : (k * 2 ^ bits ≤ s ∧ s < k * 2 ^ bits + 2 ^ bits) ↔ s / 2 ^ bits = k := by
  have hp := Nat.two_pow_pos bits
  rw [Nat.div_eq_iff hp]
  have : (k + 1) * 2 ^ bits = k * 2 ^ bits + 2 ^ bits := Nat.succ_mul ..
  omega
theorem in_mod {k s : Nat} (h : s / 2 ^ bits = k) : s - k * 2 ^ bits = s % 2 ^ bits := by
  have h1 := Nat.div_add_mod s (2 ^ bits)
  rw [h, Nat.mul_comm] at h1
  omega
/-- What a step brings. -/
theorem br_sector (h : MJ bits room L top base l) {k : Nat} (hk : k < szOf L top) (s : Nat) : Sc bits (brC bits L top base k).L base s = if s / 2 ^ bits = k then Sc bits L top s else Sc bits L base s := by
  obtain ⟨d, hd, hb⟩ := h.dk
  have he := h.br hk
  have hp := pow_le8 h.cs.b3
  have hsz : szOf L top = d.im.t.length := by unfold szOf; rw [hd]
  have hkd : kdOf L top k = (d.im.t.getD k s0).1 := by unfold kdOf; rw [hd]
  rw [hsz] at hk
  have hO := (h.cs.ims d (dk_get hd).1).1
  by_cases c1 : kdOf L top k = 1
  · have e : brC bits L top base k = wrC bits L base ((k * 2 ^ bits : Nat) : Int) (clC bits L top (k : Int)) := if_pos c1
    rw [e, clC_eq hd hk] at he ⊢
    have hw := wr_sector h.cs he s
    have hlen : (cseen bits L top (dpt L top) k).length = 16 * 2 ^ bits := cseen_len h.cs.toChOK hd (h.cs.dep top).1 k
    rw [hlen, show 16 * 2 ^ bits / 16 = 2 ^ bits by omega] at hw
    have hw : Sc bits (wrC bits L base ((k * 2 ^ bits : Nat) : Int) (cseen bits L top (dpt L top) k)).L base s = if k * 2 ^ bits ≤ s ∧ s < k * 2 ^ bits + 2 ^ bits then sec (cseen bits L top (dpt L top) k) (s - k * 2 ^ bits) else Sc bits L base s := hw
    rw [hw]
    by_cases c : s / 2 ^ bits = k
    · rw [if_pos (in_clus.2 c), if_pos c, in_mod c]
      unfold Sc
      rw [crdP_sec, c]
    · rw [if_neg (fun e => c (in_clus.1 e)), if_neg c]
  · by_cases c2 : kdOf L top k = 2
    · have e : brC bits L top base k = zrC bits L base ((k * 2 ^ bits : Nat) : Int) ((2 ^ bits : Nat) : Int) := (if_neg c1).trans (if_pos c2)
      rw [e] at he ⊢
      have hw : Sc bits (zrC bits L base ((k * 2 ^ bits : Nat) : Int) ((2 ^ bits : Nat) : Int)).L base s = if k * 2 ^ bits ≤ s ∧ s < k * 2 ^ bits + 2 ^ bits then List.replicate 16 0 else Sc bits L base s := zr_sector h.cs he s
      rw [hw]
      by_cases c : s / 2 ^ bits = k
      · rw [if_pos (in_clus.2 c), if_pos c]
        unfold Sc
        rw [crdP_sec, c, rd_own hd hk (by rw [← hkd, c2]; decide)]
        have hg : d.im.t[k]? = some d.im.t[k] := List.getElem?_eq_getElem hk
        have hgd : d.im.t.getD k s0 = d.im.t[k] := by rw [List.getD_eq_getElem?_getD, hg]; rfl
        have hq : d.im.t[k]? = some sZr := by
          rcases hO.slot k _ hg with e | e | ⟨x, e, _⟩
          · rw [hgd, e] at hkd
            rw [hkd] at c2
            exact absurd c2 (by decide)
          · rw [hg, e]
          · rw [hgd, e] at hkd
            rw [hkd] at c2
            exact absurd c2 (show ¬ (1 : Int) = 2 by decide)
        rw [clus_zr hq]
        unfold zer
        rw [wid_eq h.cs hd, sec_zero]
        have := Nat.mod_lt s (Nat.two_pow_pos bits)
        omega
      · rw [if_neg (fun e => c (in_clus.1 e)), if_neg c]
    · have e : brC bits L top base k = ⟨0, L⟩ := (if_neg c1).trans (if_neg c2)
      rw [e]
      show Sc bits L base s = _
      split
      · rename_i c
        have hg : d.im.t[k]? = some d.im.t[k] := List.getElem?_eq_getElem hk
        have hgd : d.im.t.getD k s0 = d.im.t[k] := by rw [List.getD_eq_getElem?_getD, hg]; rfl
        have hz : (d.im.t.getD k s0).1 = 0 := by
          rcases hO.slot k _ hg with e | e | ⟨x, e, _⟩
          · rw [hgd, e]
          · exact absurd (by rw [hkd, hgd, e]) c2
          · exact absurd (by rw [hkd, hgd, e]) c1
        subst hb
        exact (Sc_of (by rw [c]; exact rd_hole h.cs hd h.ne hz)).symm
      · rfl
theorem mv_beg (h : CS bits room L) (he : mbE L top = 0) : MV bits L top (bkC L top).1 (mbL L top) := fun s hs hn => by
  obtain ⟨e1, e2, _⟩ := mbE_ok he
  obtain ⟨d, hd, hb, _⟩ := bkC_ok h e1
  have hc := div_in hs
  have hh : hol L top (s / 2 ^ bits) = true := by
    cases e : hol L top (s / 2 ^ bits) with
    | true => rfl
    | false => exact absurd (List.mem_filter.2 ⟨List.mem_range.2 hc, by rw [e]; rfl⟩) hn
  have hsz : szOf L top = d.im.t.length := by unfold szOf; rw [hd]
  unfold hol at hh
  rw [hd] at hh
  have hh : (decide (d.im.t.length ≤ s / 2 ^ bits) || decide ((d.im.t.getD (s / 2 ^ bits) s0).1 = 0)) = true := hh
  rw [decide_eq_false (by omega), Bool.false_or] at hh
  rw [hb] at e2 ⊢
  exact Sc_of (rd_hole h hd e2 (of_decide_eq_true hh))
theorem mv_br (h : MJ bits room L top base l) (hv : MV bits L top base l) {k : Nat} (hk : k < szOf L top) : MV bits (brC bits L top base k).L top base (l.erase k) ∧ ∀ s, s < szOf L top * 2 ^ bits → Sc bits (brC bits L top base k).L top s = Sc bits L top s := by
  obtain ⟨d, hd, hb⟩ := h.dk
  have hlm := brC_lm h.cs top base k
  obtain ⟨k1, k2, k3⟩ := top_keep h.cs hlm hd hb h.ne
  have hP := br_sector h hk
  have hT : ∀ s, s < szOf L top * 2 ^ bits → Sc bits (brC bits L top base k).L top s = Sc bits L top s := fun s hs => by
    by_cases hz : (d.im.t.getD (s / 2 ^ bits) s0).1 = 0
    · obtain ⟨g1, g2⟩ := (k3 s hs).2 hz
      rw [g1, hP]
      split
      · rfl
      · exact g2.symm
    · exact (k3 s hs).1 hz
  refine ⟨fun s hs hn => ?_, hT⟩
  rw [(hlm.sz top).1] at hs
  rw [hT s hs, hP]
  split
  · rfl
  · rename_i c
    exact hv s hs fun hm => hn ((List.mem_erase_of_ne c).2 hm)
theorem mv_end (h : MJ bits room L top base []) (hv : MV bits L top base []) : MV bits (dsC L top 0 ((szOf L top * 2 ^ bits : Nat) : Int)).L top base [] ∧ (∀ s, s < szOf L top * 2 ^ bits → Sc bits (dsC L top 0 ((szOf L top * 2 ^ bits : Nat) : Int)).L top s = Sc bits L top s) ∧ ∀ k, k < szOf L top → kdOf (dsC L top 0 ((szOf L top * 2 ^ bits : Nat) : Int)).L top k = 0 := by
  obtain ⟨d, hd, hb⟩ := h.dk
  subst hb
  have hO := (h.cs.ims d (dk_get hd).1).1
  have hsz : szOf L top = d.im.t.length := by unfold szOf; rw [hd]
  have hall : szOf L top * 2 ^ bits = iall d.im := by rw [iall_one h.cs hd, hsz]
  have hlm := dsC_lm h.cs top 0 ((szOf L top * 2 ^ bits : Nat) : Int)
  have hcs := hlm.cs h.cs
  have hoff := off_of h.cs hd h.ne
  obtain ⟨_, o2, o3⟩ := hlm.off h.cs hoff
  have hL : (dsC L top 0 ((szOf L top * 2 ^ bits : Nat) : Int)).L = lim L top (idsS d.im 0 (iall d.im)) none := by
    unfold dsC
    rw [hd]
    simp only
    rw [hall, if_neg (fun hh => hh (iIns_zero hO (Nat.le_refl _)))]
    rfl
  have hd' : dk (dsC L top 0 ((szOf L top * 2 ^ bits : Nat) : Int)).L top = some { d with im := idsS d.im 0 (iall d.im), pin := none } := by rw [hL]; exact dk_lim_self hd _ _
  have hk : ∀ k, k < szOf L top → ((idsS d.im 0 (iall d.im)).t.getD k s0).1 = 0 := fun k hk => by
    rw [List.getD_eq_getElem?_getD, ids_all hO (by omega)]
    rfl
  have hB : ∀ s, Sc bits (dsC L top 0 ((szOf L top * 2 ^ bits : Nat) : Int)).L d.back s = Sc bits L d.back s := fun s => Sc_of (o3 _)
  have hT : ∀ s, s < szOf L top * 2 ^ bits → Sc bits (dsC L top 0 ((szOf L top * 2 ^ bits : Nat) : Int)).L top s = Sc bits L d.back s := fun s hs => by
    rw [← hB]
    exact Sc_of (rd_hole hcs hd' h.ne (hk _ (div_in hs)))
  refine ⟨fun s hs _ => ?_, fun s hs => ?_, fun k hk2 => ?_⟩
  · rw [(hlm.sz top).1] at hs
    rw [hT s hs, hB]
  · rw [hT s hs]
    exact (hv s hs (by simp)).symm
  · unfold kdOf
    rw [hd']
    exact hk k hk2
theorem mwr_in {n : Nat} {l : List Nat} {a long : Int} {k : Nat} (h : k ∈ l ∨ (k < n ∧ a < ((k * 2 ^ bits + 2 ^ bits : Nat) : Int) ∧ ((k * 2 ^ bits : Nat) : Int) - long < a)) : k ∈ mwr bits n l a long := by
  induction n with
  | zero =>
    rcases h with h | h
    · exact h
    · exact absurd h.1 (Nat.not_lt_zero _)
  | succ n ih =>
    rw [mwr_succ]
    by_cases c : k = n
    · rcases h with h | ⟨h1, h2⟩
      · have := ih (.inl h)
        split
        · exact lput_mem.2 (.inl this)
        · exact this
      · subst c
        rw [if_pos h2]
        exact lput_mem.2 (.inr rfl)
    · have := ih (h.imp id fun h => ⟨by omega, h.2⟩)
      split
      · exact lput_mem.2 (.inl this)
      · exact this
/-- A write to the top, told to the job. -/
theorem mv_wr (h : MJ bits room L top base l) (hv : MV bits L top base l) {a N : Nat} (hlm : Lm L top L') (hw : ∀ s, ¬ (a ≤ s ∧ s < a + N) → Sc bits L' top s = Sc bits L top s) : MV bits L' top base (mwC bits L' top l false (a : Int) (N : Int)) := fun s hs hn => by
  obtain ⟨d, hd, hb⟩ := h.dk
  subst hb
  obtain ⟨_, o2, o3⟩ := hlm.off h.cs (off_of h.cs hd h.ne)
  rw [(hlm.sz top).1] at hs
  have hB : Sc bits L' d.back s = Sc bits L d.back s := Sc_of (o3 _)
  unfold mwC at hn
  by_cases c0 : (N : Int) < 1
  · rw [if_pos (.inr c0)] at hn
    rw [hB, hw s (by omega)]
    exact hv s hs hn
  · rw [if_neg (by rintro (e | e); cases e; exact c0 e)] at hn
    have h1 : s / 2 ^ bits ∉ l := fun e => hn (mwr_in (.inl e))
    rw [hB, hw s fun ⟨r1, r2⟩ => hn (mwr_in (.inr ⟨by rw [(hlm.sz top).1]; exact div_in hs, ?_, ?_⟩))]
    · exact hv s hs h1
    · have := (in_clus (bits := bits)).2 (rfl : s / 2 ^ bits = s / 2 ^ bits)
      omega
    · have := (in_clus (bits := bits)).2 (rfl : s / 2 ^ bits = s / 2 ^ bits)
      omega
theorem all_of (hs : szOf L' top = szOf L top) (hk : (dk L' top).isSome = (dk L top).isSome) (h : ∀ s, s < szOf L top * 2 ^ bits → Sc bits L' top s = Sc bits L top s) : allC bits L' top = allC bits L top := allC_congr hs hk h
theorem mstep_end (bits : Nat) (L : List Dsk) (top base : List UInt8) : mstep bits L top base [] false = ⟨true, 0, (dsC L top 0 ((szOf L top * 2 ^ bits : Nat) : Int)).L, [], true⟩ := rfl
theorem mv_step (h : MJ bits room L top base l) (hv : MV bits L top base l) (over : Bool) : MV bits (mstep bits L top base l over).L top base (mstep bits L top base l over).l ∧ allC bits (mstep bits L top base l over).L top = allC bits L top := by
  cases over with
  | true => exact ⟨hv, rfl⟩
  | false =>
    by_cases hne : l = []
    · subst hne
      rw [mstep_end]
      obtain ⟨g1, g2, _⟩ := mv_end h hv
      have hlm := dsC_lm h.cs top 0 ((szOf L top * 2 ^ bits : Nat) : Int)
      exact ⟨g1, all_of (hlm.sz top).1 (hlm.sz top).2 g2⟩
    · rw [h.stepE hne]
      obtain ⟨g1, g2⟩ := mv_br h hv (h.lt _ (mnN_spec hne).2.1)
      have hlm := brC_lm h.cs top base (mnN l)
      exact ⟨g1, all_of (hlm.sz top).1 (hlm.sz top).2 g2⟩
end
/-! Law 15's writes: a write to the top, told to the job. -/
def wtC (bits : Nat) (L : List Dsk) (top : List UInt8) (o : Jop) : CR := if qK (jQ o) = 1 then wrC bits L top (qA (jQ o)) (qB (jQ o)) else if qK (jQ o) = 2 then zrC bits L top (qA (jQ o)) (qL (jQ o)) else ⟨1, L⟩
def wtN (o : Jop) : Int := if qK (jQ o) = 1 then (((qB (jQ o)).length / 16 : Nat) : Int) else qL (jQ o)
def wtL (bits : Nat) (L : List Dsk) (top : List UInt8) (l : List Nat) (over : Bool) (o : Jop) : List Nat := if (wtC bits L top o).e = 0 then mwC bits (wtC bits L top o).L top l over (qA (jQ o)) (wtN o) else l
section
variable {bits room : Nat} {L : List Dsk} {top base : List UInt8} {l : List Nat}
theorem wtC_lm (h : CS bits room L) (top : List UInt8) (o : Jop) : Lm L top (wtC bits L top o).L := by
  unfold wtC
  split
  · exact wrC_lm h _ _ _
  · split
    · exact zrC_lm h _ _ _
    · exact .inl rfl
theorem wt_range (h : CS bits room L) {top : List UInt8} {o : Jop} (hb : (qB (jQ o)).length ≤ 1000000) (he : (wtC bits L top o).e = 0) : wtN o ≤ 1000000 := by
  unfold wtC at he
  unfold wtN
  by_cases c1 : qK (jQ o) = 1
  · rw [if_pos c1]
    omega
  · rw [if_neg c1] at he ⊢
    by_cases c2 : qK (jQ o) = 2
    · rw [if_pos c2] at he
      obtain ⟨d, hd, _, hl, hin, _⟩ := zrC_inv he
      have hall := iIns_all hin
      have hia := iall_one h hd
      have htl := (h.ims d (dk_get hd).1).1.tl
      have hp := pow_le8 h.b3
      have mk : d.im.t.length * 2 ^ bits ≤ 256 * 8 := Nat.mul_le_mul htl hp.2
      omega
    · rw [if_neg c2] at he
      exact absurd he (show ¬ (1 : Int) = 0 by decide)
theorem wt_ne {o : Jop} (h1 : qK (jQ o) ≠ 1) (h2 : qK (jQ o) ≠ 2) : wtC bits L top o = ⟨1, L⟩ := (if_neg h1).trans (if_neg h2)
@[reducible] def wtB (bits room : Int) (L : List Dsk) (top base : List UInt8) (l : List Nat) (over : Bool) (o : Jop) : BL := mjB bits room L top base l over ++ [(7, .cells (jopL o))]
@[reducible] def wtK (top : List UInt8) (n e : Int) : KL := [(0, vP 1001), (1, vP 2001), (2, vS top), (7, vP 7), (9, vI n), (10, vI e)]
set_option maxHeartbeats 1000000 in
theorem writes15_fn (h : MI bits room L top l) (base : List UInt8) (over : Bool) (o : Jop) (hb : (qB (jQ o)).length ≤ 1000000) : Fn Tryz.prog 33 [vP 1001, vP 2001, vS top, jopV o] (mjB bits room L top base l over) [] (vB (decide ((wtC bits L top o).e = 0))) (mjB bits room (wtC bits L top o).L top base (wtL bits L top l over o) over) := by
  have hr := fun he => wt_range (top := top) h.cs hb he
  have hM := h.lm (wtC_lm h.cs top o)
  obtain ⟨d', hd'⟩ := Option.isSome_iff_exists.1 hM.kn
  have hw := fun he => mwrote_fn hM.cs base l over (qA (jQ o)) (wtN o) (by have := hr he; omega) hd'
  have e1 : (wtC bits L top o).e = 0 → wtL bits L top l over o = mwC bits (wtC bits L top o).L top l over (qA (jQ o)) (wtN o) := fun e => if_pos e
  have e2 : ¬ (wtC bits L top o).e = 0 → wtL bits L top l over o = l := fun e => if_neg e
  have c1 : qK (jQ o) = 1 → wtC bits L top o = wrC bits L top (qA (jQ o)) (qB (jQ o)) ∧ wtN o = (((qB (jQ o)).length / 16 : Nat) : Int) := fun e => ⟨if_pos e, if_pos e⟩
  have c2 : ¬ qK (jQ o) = 1 → qK (jQ o) = 2 → wtC bits L top o = zrC bits L top (qA (jQ o)) (qL (jQ o)) ∧ wtN o = qL (jQ o) := fun e e' => ⟨(if_neg e).trans (if_pos e'), if_neg e⟩
  have c3 : ¬ qK (jQ o) = 1 → ¬ qK (jQ o) = 2 → (wtC bits L top o).e = 1 ∧ (wtC bits L top o).L = L := fun e e' => by rw [wt_ne e e']; exact ⟨rfl, rfl⟩
  have hwr := chwrite_fn h.cs top (qA (jQ o)) (qB (jQ o)) (by omega)
  have hzr := chzero_fn h.cs top (qA (jQ o)) (qL (jQ o))
  clear hr hM hd'
  generalize wtL bits L top l over o = l' at *
  generalize wtC bits L top o = r at *
  generalize wtN o = wn at *
  generalize wrC bits L top (qA (jQ o)) (qB (jQ o)) = r1 at *
  generalize zrC bits L top (qA (jQ o)) (qL (jQ o)) = r2 at *
  have hq : (((qB (jQ o)).length : Nat) : Int) / 16 = (((qB (jQ o)).length / 16 : Nat) : Int) := by omega
  have mq : (-9223372036854775808 : Int) ≤ (((qB (jQ o)).length : Nat) : Int) / 16 ∧ (((qB (jQ o)).length : Nat) : Int) / 16 ≤ 9223372036854775807 := by omega
  refine Fn.of tblOK [3,5,6,8,9,10] _ _ _ _ _ Tryz.func33 rfl rfl (by kernel_rfl) (by kernel_rfl) rfl (drawOK tblOK) rfl ?_
  refine ⟨rfl, ?_⟩
  show TrQ _ _ _ _ _ _ _
  refine TrQ.go tblOK (drawOK tblOK) [5,6,8,9,10] (by kernel_rfl) (Le.sub (K' := wtK top (qL (jQ o)) 1) (B' := wtB bits room L top base l over o) ⟨rfl, rfl, rfl, rfl, rfl, rfl, trivial⟩ ⟨rfl, rfl, rfl, rfl, rfl, rfl, rfl, trivial⟩) ?_
  refine ⟨fun d1 => ?_, fun d1 => ?_⟩
  · have d1 : qK (jQ o) = 1 := of_decide_eq_true d1
    obtain ⟨rfl, rfl⟩ := c1 d1
    show TrQ _ _ _ _ _ _ _
    refine TrQ.go tblOK (drawOK tblOK) [6,9,10] (by kernel_rfl) (Le.refl _ _) ?_
    refine ⟨⟨by omega, by omega⟩, mq, ?_⟩
    show TrQ _ _ _ _ _ _ _
    refine TrQ.go tblOK (drawOK tblOK) [9,10] (by kernel_rfl) (Le.sub (K' := wtK top (((qB (jQ o)).length / 16 : Nat) : Int) 1) (B' := wtB bits room L top base l over o) ⟨rfl, rfl, rfl, rfl, hq, rfl, trivial⟩ ⟨rfl, rfl, rfl, rfl, rfl, rfl, rfl, trivial⟩) ?_
    refine ⟨_, _, _, _, hwr, ⟨rfl, rfl, rfl, rfl, trivial⟩, rfl, ?_⟩
    show TrQ _ _ _ _ _ _ _
    refine TrQ.go tblOK (drawOK tblOK) [10] (by kernel_rfl) (Le.sub (K' := wtK top (((qB (jQ o)).length / 16 : Nat) : Int) r.e) (B' := wtB bits room r.L top base l over o) ⟨rfl, rfl, rfl, rfl, rfl, rfl, trivial⟩ ⟨rfl, rfl, rfl, rfl, rfl, rfl, rfl, trivial⟩) ?_
    refine ⟨fun he => ?_, fun he => ?_⟩
    · have he : r.e = 0 := of_decide_eq_true he
      show TrQ _ _ _ _ _ _ _
      refine TrQ.go tblOK (drawOK tblOK) [] (by kernel_rfl) (Le.refl _ _) ?_
      refine ⟨_, _, _, _, hw he, ⟨rfl, rfl, rfl, rfl, rfl, rfl, trivial⟩, rfl, ?_⟩
      exact ⟨_, _, _, Le.refl _ _, rfl, rfl, ⟨rfl, rfl, rfl, rfl, rfl, congrArg (fun z => some (Ch.map uI uI (esL z))) (e1 he).symm, trivial⟩, rfl⟩
    · have he : ¬ r.e = 0 := of_decide_eq_false he
      exact ⟨_, _, _, Le.refl _ _, rfl, rfl, ⟨rfl, rfl, rfl, rfl, rfl, congrArg (fun z => some (Ch.map uI uI (esL z))) (e2 he).symm, trivial⟩, rfl⟩
  have d1 : ¬ qK (jQ o) = 1 := of_decide_eq_false d1
  refine ⟨fun d2 => ?_, fun d2 => ?_⟩
  · have d2 : qK (jQ o) = 2 := of_decide_eq_true d2
    obtain ⟨rfl, rfl⟩ := c2 d1 d2
    show TrQ _ _ _ _ _ _ _
    refine TrQ.go tblOK (drawOK tblOK) [9,10] (by kernel_rfl) (Le.refl _ _) ?_
    refine ⟨_, _, _, _, hzr, ⟨rfl, rfl, rfl, rfl, trivial⟩, rfl, ?_⟩
    show TrQ _ _ _ _ _ _ _
    refine TrQ.go tblOK (drawOK tblOK) [10] (by kernel_rfl) (Le.sub (K' := wtK top (qL (jQ o)) r.e) (B' := wtB bits room r.L top base l over o) ⟨rfl, rfl, rfl, rfl, rfl, rfl, trivial⟩ ⟨rfl, rfl, rfl, rfl, rfl, rfl, rfl, trivial⟩) ?_
    refine ⟨fun he => ?_, fun he => ?_⟩
    · have he : r.e = 0 := of_decide_eq_true he
      show TrQ _ _ _ _ _ _ _
      refine TrQ.go tblOK (drawOK tblOK) [] (by kernel_rfl) (Le.refl _ _) ?_
      refine ⟨_, _, _, _, hw he, ⟨rfl, rfl, rfl, rfl, rfl, rfl, trivial⟩, rfl, ?_⟩
      exact ⟨_, _, _, Le.refl _ _, rfl, rfl, ⟨rfl, rfl, rfl, rfl, rfl, congrArg (fun z => some (Ch.map uI uI (esL z))) (e1 he).symm, trivial⟩, rfl⟩
    · have he : ¬ r.e = 0 := of_decide_eq_false he
      exact ⟨_, _, _, Le.refl _ _, rfl, rfl, ⟨rfl, rfl, rfl, rfl, rfl, congrArg (fun z => some (Ch.map uI uI (esL z))) (e2 he).symm, trivial⟩, rfl⟩
  · have d2 : ¬ qK (jQ o) = 2 := of_decide_eq_false d2
    obtain ⟨g1, g2⟩ := c3 d1 d2
    have e3 : l' = l := e2 (by rw [g1]; decide)
    clear e1 e2 c1 c2 c3 hw hwr hzr
    obtain ⟨rE, rL⟩ := r
    have g1 : rE = 1 := g1
    have g2 : rL = L := g2
    subst g1 g2 e3
    show TrQ _ _ _ _ _ _ _
    refine TrQ.go tblOK (drawOK tblOK) [10] (by kernel_rfl) (Le.refl _ _) ?_
    refine ⟨fun h => absurd h (by decide), fun _ => ?_⟩
    exact ⟨_, _, _, Le.refl _ _, rfl, rfl, ⟨rfl, rfl, rfl, rfl, rfl, rfl, trivial⟩, rfl⟩
/-- What a write leaves of the law. -/
theorem wt_mv (h : MJ bits room L top base l) (hv : MV bits L top base l) (o : Jop) : MJ bits room (wtC bits L top o).L top base (wtL bits L top l false o) ∧ MV bits (wtC bits L top o).L top base (wtL bits L top l false o) := by
  have hlm := wtC_lm h.cs top o
  have h1 := h.lm hlm
  unfold wtL
  by_cases he : (wtC bits L top o).e = 0
  · rw [if_pos he]
    refine ⟨h1.wr false _ _, ?_⟩
    unfold wtC at he hlm ⊢
    unfold wtN
    by_cases c1 : qK (jQ o) = 1
    · rw [if_pos c1] at he hlm ⊢
      rw [if_pos c1]
      have hs := wr_sector h.cs he
      obtain ⟨_, _, _, ha, _⟩ := wrC_inv he
      have := mv_wr (a := (qA (jQ o)).toNat) (N := (qB (jQ o)).length / 16) h hv hlm fun s hn => by
        show crdP _ _ _ _ _ = crdP _ _ _ _ _
        rw [hs, if_neg hn]
      rwa [← ha] at this
    · rw [if_neg c1] at he hlm ⊢
      rw [if_neg c1]
      by_cases c2 : qK (jQ o) = 2
      · rw [if_pos c2] at he hlm ⊢
        have hs := zr_sector h.cs he
        obtain ⟨_, _, ha, hl, _⟩ := zrC_inv he
        have := mv_wr (a := (qA (jQ o)).toNat) (N := (qL (jQ o)).toNat) h hv hlm fun s hn => by
          show crdP _ _ _ _ _ = crdP _ _ _ _ _
          rw [hs, if_neg hn]
        rwa [← ha, ← hl] at this
      · rw [if_neg c2] at he
        exact absurd he (show ¬ (1 : Int) = 0 by decide)
  · rw [if_neg he]
    have hL : (wtC bits L top o).L = L := by
      unfold wtC at he ⊢
      split at he
      · rename_i c1; rw [if_pos c1]; exact wrC_err h.cs he
      · rename_i c1
        rw [if_neg c1]
        split at he
        · rename_i c2; rw [if_pos c2]; exact zrC_err h.cs he
        · rename_i c2; rw [if_neg c2]
    rw [hL]
    exact ⟨h, hv⟩
end
end Go.Proofs.YtbcngglcaeehbaaGreat
