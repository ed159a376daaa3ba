/-
Part 17 of the proof that stands in YteoamepgonpdlaaGreatPaRow, with what it needs from the parts ahead; the parts of this text: Ly, Qp.
-/
import Derived.Test.YteoamepgonpdlaaGreatPa16
/-!
  Chains: few, does of law 14.
-/
namespace Go.Proofs.YteoamepgonpdlaaGreat
set_option linter.unusedVariables false
set_option linter.unusedSimpArgs false
set_option maxRecDepth 10000
open Go.RowKit Go.Proofs
@[reducible] def fwcK (l : List Cop) (k : Nat) : KL := [(0, vL uC l), (3, vI (cTo l k : Nat)), (6, vL uC l), (7, vI (l.length : Nat)), (8, vI (k : Nat))]
theorem few14_fn (l : List Cop) (hl : l.length ≤ 1073741824) (ht : (l.map cTot).sum ≤ 1073741824) : Fn Tryz.prog 9 [vL uC l] [] [] (vB (fewO 40 l)) [] := by
 refine Fn.of tblOK [] _ _ _ _ _ Tryz.func9 rfl rfl (by kernel_rfl) (by kernel_rfl) rfl (drawOK tblOK) rfl ?_
 show TrQ _ _ _ _ _ _ _
 refine TrQ.loop tblOK (drawOK tblOK) [] (by kernel_rfl) (X := Nat) (fwcK l) (fun _ => []) (fun k => k ≤ l.length ∧ cGood l k) (fun k => l.length - k) 0 ⟨Nat.zero_le _, fun i o hi => by omega⟩ ?_ ?_
 · exact Le.sub ⟨rfl, rfl, rfl, rfl, rfl, trivial⟩ trivial
 rintro k ⟨hk, hg⟩
 have ht1 := cTo_le l k
 refine ⟨fun hc => ?_, fun hc => ?_⟩
 · have hc : decide ((k : Int) < ((l.length : Nat) : Int)) = true := hc
   have hk1 : k < l.length := by have := of_decide_eq_true hc; omega
   have ht2 := cTo_le l (k + 1)
   have hs := cTo_succ l hk1
   have hbd : cBad l[k] = (decide (12 < cSz l[k]) && decide (cSz l[k] ≤ 256)) := rfl
   have htt : cTot l[k] = (qB (cQ l[k])).length + (cNm l[k]).length + (cOt l[k]).length := rfl
   have hget := lgAt (n := k) hk1
   have hgs := fun hb => hg.succ hk1 hb
   have hbad := fun hb => fewO_bad (m := 40) hk1 hb
   generalize hx : l[k] = o at *
   have m : (-9223372036854775808 : Int) ≤ (((qB (cQ o)).length : Nat) : Int) + (((cNm o).length : Nat) : Int) ∧ (((qB (cQ o)).length : Nat) : Int) + (((cNm o).length : Nat) : Int) ≤ 9223372036854775807 := by omega
   have m2 : (-9223372036854775808 : Int) ≤ (((qB (cQ o)).length : Nat) : Int) + (((cNm o).length : Nat) : Int) + (((cOt o).length : Nat) : Int) ∧ (((qB (cQ o)).length : Nat) : Int) + (((cNm o).length : Nat) : Int) + (((cOt o).length : Nat) : Int) ≤ 9223372036854775807 := by omega
   have m3 : (-9223372036854775808 : Int) ≤ ((cTo l k : Nat) : Int) + ((((qB (cQ o)).length : Nat) : Int) + (((cNm o).length : Nat) : Int) + (((cOt o).length : Nat) : Int)) ∧ ((cTo l k : Nat) : Int) + ((((qB (cQ o)).length : Nat) : Int) + (((cNm o).length : Nat) : Int) + (((cOt o).length : Nat) : Int)) ≤ 9223372036854775807 := by omega
   have e3 : ((cTo l k : Nat) : Int) + ((((qB (cQ o)).length : Nat) : Int) + (((cNm o).length : Nat) : Int) + (((cOt o).length : Nat) : Int)) = ((cTo l (k + 1) : Nat) : Int) := by omega
   refine ⟨by omega, o, hget, ?_⟩
   refine ⟨rfl, m, m2, m3, ?_⟩
   refine ⟨fun cA => ?_, fun cA => ?_⟩
   · have cA : decide (12 < cSz o) = true := cA
     refine ⟨fun cB => ?_, fun cB => ?_⟩
     · have cB : decide (cSz o ≤ 256) = true := cB
       exact ⟨_, _, _, Le.refl _ _, rfl, (hbad (by rw [hbd, cA, cB]; rfl)).symm, trivial, rfl⟩
     · have cB : decide (cSz o ≤ 256) = false := cB
       exact ⟨by omega, k + 1, ⟨hk1, hgs (by rw [hbd, cA, cB]; rfl)⟩, by omega, Le.sub ⟨rfl, e3, rfl, rfl, rfl, trivial⟩ trivial⟩
   · have cA : decide (12 < cSz o) = false := cA
     exact ⟨by omega, k + 1, ⟨hk1, hgs (by rw [hbd, cA]; rfl)⟩, by omega, Le.sub ⟨rfl, e3, rfl, rfl, rfl, trivial⟩ trivial⟩
 · have hc : decide ((k : Int) < ((l.length : Nat) : Int)) = false := hc
   have hk2 : k = l.length := by have := of_decide_eq_false hc; omega
   subst hk2
   have hall : (l.all fun o => !cBad o) = true := List.all_eq_true.2 fun o ho => by
     obtain ⟨i, hi, rfl⟩ := List.getElem_of_mem ho
     rw [hg i _ hi (List.getElem?_eq_getElem hi)]
     rfl
   have htt : cTo l l.length = (l.map cTot).sum := by unfold cTo; rw [List.take_length]
   refine ⟨fun c1 => ?_, fun c1 => ?_⟩
   · have c1 : decide (((l.length : Nat) : Int) ≤ 40) = true := c1
     have c1 : decide (l.length ≤ 40) = true := decide_eq_true (by have := of_decide_eq_true c1; omega)
     refine ⟨_, _, _, Le.refl _ _, rfl, (show decide (((cTo l l.length : Nat) : Int) ≤ 6000) = fewO 40 l from ?_), trivial, rfl⟩
     rw [fewO, hall, c1, htt, Bool.eq_iff_iff]
     simp
     omega
   · have c1 : decide (((l.length : Nat) : Int) ≤ 40) = false := c1
     have c1 : decide (l.length ≤ 40) = false := decide_eq_false (by have := of_decide_eq_false c1; omega)
     refine ⟨_, _, _, Le.refl _ _, rfl, (show false = fewO 40 l from ?_), trivial, rfl⟩
     rw [fewO, hall, c1]
     rfl
theorem does14_fn {bits room : Nat} {L : List Dsk} (h : CS bits room L) (o : Cop) (hb : cTot o ≤ 1000000) :
   FnX Tryz.prog 11 [vP 1001, copV o] (chB bits room L) [] (X := { p : Nat × Nat // CS bits room (doC bits room L o p).L }) (fun p => .tup [.one (.d (.str (doC bits room L o p.1).x)), vErr (doC bits room L o p.1).e]) (fun p => chB bits room (doC bits room L o p.1).L) := by
 have htt : cTot o = (qB (cQ o)).length + (cNm o).length + (cOt o).length := rfl
 have hnm : (cNm o).length ≤ 4294967296 := by omega
 refine FnX.of tblOK [3] _ _ _ _ _ Tryz.func11 rfl rfl (by kernel_rfl) (by kernel_rfl) rfl (drawOK tblOK) rfl ?_
 refine ⟨rfl, ?_⟩
 refine ⟨fun c0 => ?_, fun c0 => ?_⟩
 · have c0 : cK o = 0 := of_decide_eq_true c0
   have hE : ∀ p, doC bits room L o p = (adC bits room L (cNm o) (cSz o) (cOt o) p).dr := fun p => if_pos c0
   show TrQ _ _ _ _ _ _ _
   refine TrQ.regionX tblOK (by kernel_rfl) ?_
   refine ⟨_, _, _, fun g => _, fun g => _, chadd_fn h (cNm o) (cSz o) (cOt o) hnm, ⟨rfl, rfl, rfl, rfl, trivial⟩, rfl, fun _ => rfl, fun g => ?_⟩
   have hL := congrArg DR.L (hE g.1)
   exact ⟨⟨g.1, by rw [hE]; exact g.2⟩, _, _, _, Le.refl _ _, rfl, ⟨congrArg DR.x (hE g.1).symm, congrArg DR.e (hE g.1).symm, trivial⟩, ⟨rfl, congrArg (fun l => some (Ch.map .str .adr (chE l))) hL.symm, congrArg (fun l => some (Ch.obj (.pool (chD l)))) hL.symm, congrArg (fun l => some (Ch.obj (.pool (chM l)))) hL.symm, trivial⟩, rfl⟩
 have c0 : cK o ≠ 0 := of_decide_eq_false c0
 have g0 : CS bits room (doC bits room L o (0, 0)).L := doC_cs h c0 (0, 0)
 refine ⟨fun c1 => ?_, fun c1 => ?_⟩
 · have c1 : cK o = 1 := of_decide_eq_true c1
   have hE : doC bits room L o (0, 0) = (rmC L (cNm o)).dr := (if_neg c0).trans (if_pos c1)
   have hL := congrArg DR.L hE
   refine ⟨_, _, _, _, chremove_fn h (cNm o), ⟨rfl, rfl, rfl, rfl, trivial⟩, rfl, ?_⟩
   exact ⟨⟨_, g0⟩, _, _, _, Le.refl _ _, rfl, ⟨congrArg DR.x hE.symm, congrArg DR.e hE.symm, trivial⟩, ⟨rfl, congrArg (fun l => some (Ch.map .str .adr (chE l))) hL.symm, congrArg (fun l => some (Ch.obj (.pool (chD l)))) hL.symm, congrArg (fun l => some (Ch.obj (.pool (chM l)))) hL.symm, trivial⟩, rfl⟩
 have c1 : cK o ≠ 1 := of_decide_eq_false c1
 refine ⟨fun c2 => ?_, fun c2 => ?_⟩
 · have c2 : cK o = 2 := of_decide_eq_true c2
   have hE : doC bits room L o (0, 0) = (rbC L (cNm o) (cOt o)).dr := (if_neg c0).trans ((if_neg c1).trans (if_pos c2))
   have hL := congrArg DR.L hE
   refine ⟨_, _, _, _, chrebase_fn h (cNm o) (cOt o), ⟨rfl, rfl, rfl, rfl, trivial⟩, rfl, ?_⟩
   exact ⟨⟨_, g0⟩, _, _, _, Le.refl _ _, rfl, ⟨congrArg DR.x hE.symm, congrArg DR.e hE.symm, trivial⟩, ⟨rfl, congrArg (fun l => some (Ch.map .str .adr (chE l))) hL.symm, congrArg (fun l => some (Ch.obj (.pool (chD l)))) hL.symm, congrArg (fun l => some (Ch.obj (.pool (chM l)))) hL.symm, trivial⟩, rfl⟩
 have c2 : cK o ≠ 2 := of_decide_eq_false c2
 refine ⟨fun c3 => ?_, fun c3 => ?_⟩
 · have c3 : cK o = 3 := of_decide_eq_true c3
   have hQ : doC bits room L o (0, 0) = doQ bits L (cNm o) (cQ o) := (if_neg c0).trans ((if_neg c1).trans ((if_neg c2).trans (if_pos c3)))
   refine ⟨fun d0 => ?_, fun d0 => ?_⟩
   · have d0 : qK (cQ o) = 0 := of_decide_eq_true d0
     have hE := hQ.trans (if_pos d0)
     have hL := congrArg DR.L hE
     refine ⟨_, _, _, _, chread_fn h (cNm o) (qA (cQ o)) (qL (cQ o)), ⟨rfl, rfl, rfl, rfl, trivial⟩, rfl, ?_⟩
     exact ⟨⟨_, g0⟩, _, _, _, Le.refl _ _, rfl, ⟨congrArg DR.x hE.symm, congrArg DR.e hE.symm, trivial⟩, ⟨rfl, congrArg (fun l => some (Ch.map .str .adr (chE l))) hL.symm, congrArg (fun l => some (Ch.obj (.pool (chD l)))) hL.symm, congrArg (fun l => some (Ch.obj (.pool (chM l)))) hL.symm, trivial⟩, rfl⟩
   have d0 : qK (cQ o) ≠ 0 := of_decide_eq_false d0
   refine ⟨fun d1 => ?_, fun d1 => ?_⟩
   · have d1 : qK (cQ o) = 1 := of_decide_eq_true d1
     have hE := hQ.trans ((if_neg d0).trans (if_pos d1))
     have hL := congrArg DR.L hE
     refine ⟨_, _, _, _, chwrite_fn h (cNm o) (qA (cQ o)) (qB (cQ o)) (by omega), ⟨rfl, rfl, rfl, rfl, trivial⟩, rfl, ?_⟩
     exact ⟨⟨_, g0⟩, _, _, _, Le.refl _ _, rfl, ⟨congrArg DR.x hE.symm, congrArg DR.e hE.symm, trivial⟩, ⟨rfl, congrArg (fun l => some (Ch.map .str .adr (chE l))) hL.symm, congrArg (fun l => some (Ch.obj (.pool (chD l)))) hL.symm, congrArg (fun l => some (Ch.obj (.pool (chM l)))) hL.symm, trivial⟩, rfl⟩
   have d1 : qK (cQ o) ≠ 1 := of_decide_eq_false d1
   refine ⟨fun d2 => ?_, fun d2 => ?_⟩
   · have d2 : qK (cQ o) = 2 := of_decide_eq_true d2
     have hE := hQ.trans ((if_neg d0).trans ((if_neg d1).trans (if_pos d2)))
     have hL := congrArg DR.L hE
     refine ⟨_, _, _, _, chzero_fn h (cNm o) (qA (cQ o)) (qL (cQ o)), ⟨rfl, rfl, rfl, rfl, trivial⟩, rfl, ?_⟩
     exact ⟨⟨_, g0⟩, _, _, _, Le.refl _ _, rfl, ⟨congrArg DR.x hE.symm, congrArg DR.e hE.symm, trivial⟩, ⟨rfl, congrArg (fun l => some (Ch.map .str .adr (chE l))) hL.symm, congrArg (fun l => some (Ch.obj (.pool (chD l)))) hL.symm, congrArg (fun l => some (Ch.obj (.pool (chM l)))) hL.symm, trivial⟩, rfl⟩
   have d2 : qK (cQ o) ≠ 2 := of_decide_eq_false d2
   refine ⟨fun d3 => ?_, fun d3 => ?_⟩
   · have d3 : qK (cQ o) = 3 := of_decide_eq_true d3
     have hE := hQ.trans ((if_neg d0).trans ((if_neg d1).trans ((if_neg d2).trans (if_pos d3))))
     have hL := congrArg DR.L hE
     refine ⟨_, _, _, _, chdisc_fn h (cNm o) (qA (cQ o)) (qL (cQ o)), ⟨rfl, rfl, rfl, rfl, trivial⟩, rfl, ?_⟩
     exact ⟨⟨_, g0⟩, _, _, _, Le.refl _ _, rfl, ⟨congrArg DR.x hE.symm, congrArg DR.e hE.symm, trivial⟩, ⟨rfl, congrArg (fun l => some (Ch.map .str .adr (chE l))) hL.symm, congrArg (fun l => some (Ch.obj (.pool (chD l)))) hL.symm, congrArg (fun l => some (Ch.obj (.pool (chM l)))) hL.symm, trivial⟩, rfl⟩
   have d3 : qK (cQ o) ≠ 3 := of_decide_eq_false d3
   have hE := hQ.trans ((if_neg d0).trans ((if_neg d1).trans ((if_neg d2).trans (if_neg d3))))
   have hL := congrArg DR.L hE
   exact ⟨⟨_, g0⟩, _, _, _, Le.refl _ _, rfl, ⟨congrArg DR.x hE.symm, congrArg DR.e hE.symm, trivial⟩, ⟨rfl, congrArg (fun l => some (Ch.map .str .adr (chE l))) hL.symm, congrArg (fun l => some (Ch.obj (.pool (chD l)))) hL.symm, congrArg (fun l => some (Ch.obj (.pool (chM l)))) hL.symm, trivial⟩, rfl⟩
 have c3 : cK o ≠ 3 := of_decide_eq_false c3
 have hE : doC bits room L o (0, 0) = ⟨[], 0, L⟩ := (if_neg c0).trans ((if_neg c1).trans ((if_neg c2).trans (if_neg c3)))
 have hL := congrArg DR.L hE
 exact ⟨⟨_, g0⟩, _, _, _, Le.refl _ _, rfl, ⟨congrArg DR.x hE.symm, congrArg DR.e hE.symm, trivial⟩, ⟨rfl, congrArg (fun l => some (Ch.map .str .adr (chE l))) hL.symm, congrArg (fun l => some (Ch.obj (.pool (chD l)))) hL.symm, congrArg (fun l => some (Ch.obj (.pool (chM l)))) hL.symm, trivial⟩, rfl⟩
/-! Chains: alive of law 14. -/
def alX : List UInt8 := 120 :: List.replicate 15 0
def al1 (p : Nat × Nat) : List Dsk := (adC 0 20 [] [97] 4 [] p).L
def al2 (p : Nat × Nat) : List Dsk := (wrC 0 (al1 p) [97] 0 alX).L
def al3 (p q : Nat × Nat) : List Dsk := (adC 0 20 (al2 p) [98] 4 [97] q).L
theorem al_e1 (p : Nat × Nat) : (adC 0 20 [] [97] 4 [] p).e = 0 := by kernel_rfl
theorem al_e2 (p : Nat × Nat) : (wrC 0 (al1 p) [97] 0 alX).e = 0 := by kernel_rfl
theorem al_e3 (p q : Nat × Nat) : (adC 0 20 (al2 p) [98] 4 [97] q).e = 0 := by kernel_rfl
theorem al_rd (p q : Nat × Nat) : rdC 0 (al3 p q) [98] 0 1 = (alX, 0) := by kernel_rfl
@[reducible] def alR : List Xt := [((0 : Int), (1 : Int), (2 : Int)), ((1 : Int), (3 : Int), (0 : Int))]
theorem al_rw (p q : Nat × Nat) : rwC 0 (al3 p q) [98] = (alR, 0) := by kernel_rfl
theorem al_da (p q : Nat × Nat) : (dk (al3 p q) [97]).isSome = true := by kernel_rfl
theorem al_db (p q : Nat × Nat) : (dk (al3 p q) [98]).map (·.back) = some [97] := by kernel_rfl
theorem al_rb (p q : Nat × Nat) : (rbC (al3 p q) [97] [98]).e = 141 := by kernel_rfl
/-- Who has a user cannot be removed. -/
theorem rm_use {bits room : Nat} {L : List Dsk} (h : CS bits room L) {nm u : List UInt8} (h1 : (dk L nm).isSome = true) (h2 : (dk L u).map (·.back) = some nm) : rmC L nm = ⟨143, L⟩ := by
 obtain ⟨d, hd⟩ := Option.isSome_iff_exists.1 h1
 obtain ⟨e, he, hb⟩ := Option.map_eq_some_iff.1 h2
 have hnn : nm ≠ [] := by rw [← (dk_get hd).2]; exact h.ne d (dk_get hd).1
 have hu : usrS L nm ≠ [] := fun x => by
   have := (usr_iff h hnn (dk_get he).1).2 hb
   rw [x] at this
   cases this
 unfold rmC
 rw [hd]
 simp only
 rw [if_neg hu]
@[reducible] def alK1 : KL := [(1, vP 1001), (3, vL .u8 alX)]
@[reducible] def alK2 : KL := [(1, vP 1001), (3, vL .u8 alX), (4, vI 0), (5, vI 0), (6, vI 0)]
@[reducible] def alK3 : KL := [(1, vP 1001), (3, vL .u8 alX), (4, vI 0), (5, vI 0), (6, vI 0), (7, vL .u8 alX), (8, vI 0), (9, vL uEx alR), (10, vI 0)]
theorem alive14_fn : Fn Tryz.prog 8 [] [] [] (vB true) [] := by
 have c0 : CS 0 20 [] := CS.nil (by decide) (by decide)
 refine Fn.of tblOK [6,7,9] _ _ _ _ _ Tryz.func8 rfl rfl (by kernel_rfl) (by kernel_rfl) rfl (drawOK tblOK) rfl ?_
 refine ⟨_, _, _, _, chnew_ok 0 20 (by decide) (by decide), trivial, rfl, ?_⟩
 refine ⟨fun h => absurd h (by decide), fun _ => ?_⟩
 refine ⟨⟨rfl, by decide, by decide⟩, rfl, ?_⟩
 refine ⟨⟨by decide, by decide⟩, ⟨⟨by decide, by decide⟩, by decide⟩, ?_⟩
 show TrQ _ _ _ _ _ _ _
 refine TrQ.le (Le.frz 21 rfl) ?_
 refine TrQ.le (Le.sub (K' := alK1) (B' := chB 0 20 []) ⟨rfl, rfl, trivial⟩ ⟨rfl, rfl, rfl, rfl, trivial⟩) ?_
 refine TrQ.regionX tblOK (by kernel_rfl) ?_
 refine ⟨_, _, _, fun g => _, fun g => _, chadd_fn c0 [97] 4 [] (by decide), ⟨rfl, rfl, rfl, rfl, trivial⟩, rfl, fun _ => rfl, fun p => ?_⟩
 have c1 : CS 0 20 (al1 p.1) := p.2
 have c2 : CS 0 20 (al2 p.1) := wrC_cs c1 _ _ _
 refine ⟨_, _, _, fun g => _, fun g => _, (chwrite_fn c1 [97] 0 alX (by decide)).x, ⟨rfl, rfl, rfl, rfl, trivial⟩, rfl, fun _ => rfl, fun _ => ?_⟩
 refine ⟨_, _, _, fun g => _, fun g => _, chadd_fn c2 [98] 4 [97] (by decide), ⟨rfl, rfl, rfl, rfl, trivial⟩, rfl, fun _ => rfl, fun q => ?_⟩
 have c3 : CS 0 20 (al3 p.1 q.1) := q.2
 show TrQ _ _ _ _ _ _ _
 refine TrQ.go tblOK (drawOK tblOK) [9] (by kernel_rfl) (Le.sub (K' := alK2) (B' := chB 0 20 (al3 p.1 q.1)) ⟨rfl, rfl, al_e1 p.1, al_e2 p.1, al_e3 p.1 q.1, trivial⟩ ⟨rfl, rfl, rfl, rfl, trivial⟩) ?_
 refine ⟨_, _, _, _, chread_fn c3 [98] 0 1, ⟨rfl, rfl, rfl, rfl, trivial⟩, rfl, ?_⟩
 refine ⟨_, _, _, _, chrow_fn c3 [98], ⟨rfl, rfl, rfl, rfl, trivial⟩, rfl, ?_⟩
 show TrQ _ _ _ _ _ _ _
 have e1 := congrArg Prod.fst (al_rd p.1 q.1)
 have e2 := congrArg Prod.snd (al_rd p.1 q.1)
 have e3 := congrArg Prod.fst (al_rw p.1 q.1)
 have e4 := congrArg Prod.snd (al_rw p.1 q.1)
 refine TrQ.go tblOK (drawOK tblOK) [] (by kernel_rfl) (Le.sub (K' := alK3) (B' := chB 0 20 (al3 p.1 q.1)) ⟨rfl, rfl, rfl, rfl, rfl, e1, e2, e3, e4, trivial⟩ ⟨rfl, rfl, rfl, rfl, trivial⟩) ?_
 refine ⟨fun _ => ?_, fun h => absurd h (by decide)⟩
 refine ⟨fun _ => ?_, fun h => absurd h (by decide)⟩
 refine ⟨fun _ => ?_, fun h => absurd h (by decide)⟩
 refine ⟨fun _ => ?_, fun h => absurd h (by decide)⟩
 refine ⟨fun _ => ?_, fun h => absurd h (by decide)⟩
 refine ⟨_, _, _, _, chremove_fn c3 [97], ⟨rfl, rfl, rfl, rfl, trivial⟩, rfl, ?_⟩
 have er : (rmC (al3 p.1 q.1) [97]) = ⟨143, al3 p.1 q.1⟩ := rm_use c3 (al_da p.1 q.1) (al_db p.1 q.1)
 rw [er]
 refine ⟨fun _ => ?_, fun h => absurd (show decide ((143 : Int) = 143) = false from h) (by decide)⟩
 refine ⟨_, _, _, _, chrebase_fn c3 [97] [98], ⟨rfl, rfl, rfl, rfl, trivial⟩, rfl, ?_⟩
 have eb := al_rb p.1 q.1
 refine ⟨fun _ => ?_, fun h => absurd (show decide ((rbC (al3 p.1 q.1) [97] [98]).e = 141) = false from h) (by rw [eb]; decide)⟩
 refine ⟨fun _ => ?_, fun h => absurd h (by decide)⟩
 refine ⟨fun _ => ?_, fun h => absurd h (by decide)⟩
 refine ⟨by decide, _, rfl, ?_⟩
 refine ⟨_, _, fun N => opOK_eqDeep (m := 5) (D := 5) (r := true) (lx := exL (0, 1, 2)) (ly := exL (0, 1, 2)) rfl (by kernel_rfl) (by kernel_rfl) (by decide) rfl rfl rfl rfl rfl (by kernel_rfl) (by kernel_rfl) ⟨fun _ => rfl, fun _ => rfl⟩ N, rfl, ?_⟩
 exact ⟨_, _, _, Le.refl _ _, rfl, rfl, trivial, rfl⟩
end Go.Proofs.YteoamepgonpdlaaGreat
/-!
  ChainAll: any script, and what stands behind each call.
-/
namespace Go.Proofs.YteoamepgonpdlaaGreat
set_option linter.unusedVariables false
set_option linter.unusedSimpArgs false
set_option maxRecDepth 10000
open Go.RowKit Go.Proofs
theorem chnew_bad (bits room : Int) (h : newMay bits 0 room = false) : Fn Tryz.prog 6 [vI bits, vI room] [] [] (.tup [vNilP, vErr 1]) [] := by
 refine Fn.of tblOK [] _ _ _ _ _ Tryz.func6 rfl rfl (by kernel_rfl) (by kernel_rfl) rfl (drawOK tblOK) rfl ?_
 refine ⟨_, _, _, _, inew_bad bits 0 room h, trivial, rfl, ?_⟩
 refine ⟨fun _ => ?_, fun h => absurd h (by decide)⟩
 exact ⟨_, _, _, Le.refl _ _, rfl, ⟨rfl, rfl, trivial⟩, trivial, rfl⟩
theorem RC.nil (bits room : Nat) : RC (2 ^ bits) bits room [] [] where
 n2 := rfl
 nm := (List.length_eq_zero_iff.1 (by rw [nmsS_len]; rfl)).symm
 bk := fun x => rfl
 ri := fun x d e h _ => by cases h
theorem q_name {bits room : Nat} {L : List Dsk} (h : CS bits room L) : dk L [63] = none := by
 cases e : dk L [63] with
 | none => rfl
 | some d =>
   have h1 := h.nok d (dk_get e).1
   rw [(dk_get e).2] at h1
   exact absurd h1 (by decide)
@[reducible] def qpK (l : List Cop) (k : Nat) : KL := [(7, vP 1001), (9, vP 9), (65, vL uC l), (66, vI (l.length : Nat)), (67, vI (k : Nat))]
@[reducible] def qpB (bits room : Nat) (L : List Dsk) (r : List Rdk) : BL := chB bits room L ++ [(9, .cells (rcL bits room r))]
@[reducible] def qpK2 (l : List Cop) (k : Nat) (x : List UInt8) (e : Int) : KL := [(7, vP 1001), (9, vP 9), (14, vS x), (15, vI e), (16, vS x), (17, vI e), (65, vL uC l), (66, vI (l.length : Nat)), (67, vI (k : Nat))]
set_option maxHeartbeats 2000000 in
theorem chainAll_fn (bits room : Int) (l : List Cop) (hl : l.length ≤ 1073741824) (ht : (l.map cTot).sum ≤ 1073741824) : Fn Tryz.prog 3 [vI bits, vI room, vL uC l] [] [] (vB true) [] := by
 refine Fn.of tblOK [] _ _ _ _ _ Tryz.func3 rfl rfl (by kernel_rfl) (by kernel_rfl) rfl (drawOK tblOK) rfl ?_
 cases hm : newMay bits 0 room with
 | false =>
   refine ⟨_, _, _, _, chnew_bad bits room hm, trivial, rfl, ?_⟩
   refine ⟨_, _, _, _, cnew_fn bits room, trivial, rfl, ?_⟩
   rw [hm]
   refine ⟨rfl, ?_⟩
   refine ⟨fun _ => ?_, fun h => absurd h (by decide)⟩
   refine ⟨_, _, _, _, alive14_fn, trivial, rfl, ?_⟩
   refine ⟨fun _ => ?_, fun h => absurd h (by decide)⟩
   refine ⟨fun _ => ?_, fun h => absurd h (by decide)⟩
   exact ⟨_, _, _, Le.refl _ _, rfl, rfl, trivial, rfl⟩
 | true =>
   obtain ⟨-, hr, hb0, hb1⟩ := newMay_get hm
   obtain ⟨b, rfl⟩ : ∃ b : Nat, bits = (b : Int) := ⟨bits.toNat, by omega⟩
   obtain ⟨r, rfl⟩ : ∃ r : Nat, room = (r : Int) := ⟨room.toNat, by omega⟩
   refine ⟨_, _, _, _, chnew_ok b r (by omega) (by omega), trivial, rfl, ?_⟩
   refine ⟨_, _, _, _, cnew_fn (b : Int) (r : Int), trivial, rfl, ?_⟩
   rw [hm]
   refine ⟨rfl, ?_⟩
   refine ⟨fun h => absurd h (by decide), fun _ => ?_⟩
   refine ⟨fun h => absurd h (by decide), fun _ => ?_⟩
   refine ⟨_, _, _, _, few14_fn l hl ht, trivial, rfl, ?_⟩
   refine ⟨fun _ => ?_, fun hf => ?_⟩
   · refine ⟨fun _ => ?_, fun h => absurd h (by decide)⟩
     refine ⟨_, _, _, _, alive14_fn, trivial, rfl, ?_⟩
     exact ⟨_, _, _, Le.refl _ _, rfl, rfl, trivial, rfl⟩
   have hfew : fewO 40 l = true := by
     have hf : (!fewO 40 l) = false := hf
     simpa using hf
   obtain ⟨hll, -, hob⟩ := fewO_get hfew
   show TrQ _ _ _ _ _ _ _
   refine TrQ.loop tblOK (drawOK tblOK) [12,13] (by kernel_rfl) (X := Nat × List Dsk × List Rdk) (fun x => qpK l x.1) (fun x => qpB b r x.2.1 x.2.2) (fun x => x.1 ≤ l.length ∧ CS b r x.2.1 ∧ RC (2 ^ b) b r x.2.1 x.2.2 ∧ ∀ e, e ∈ x.2.2 → (mD (dIm e)).length ≤ 256 * x.1) (fun x => l.length - x.1) (0, [], []) ⟨Nat.zero_le _, CS.nil (by omega) (by omega), RC.nil b r, fun e he => by cases he⟩ ?_ ?_
   · exact Le.sub ⟨rfl, rfl, rfl, rfl, rfl, trivial⟩ ⟨rfl, rfl, rfl, rfl, rfl, trivial⟩
   rintro ⟨k, L, R⟩ ⟨hk, hC, hR, hD⟩
   have hk : k ≤ l.length := hk
   have hC : CS b r L := hC
   have hR : RC (2 ^ b) b r L R := hR
   have hD : ∀ e, e ∈ R → (mD (dIm e)).length ≤ 256 * k := hD
   refine ⟨fun hc => ?_, fun hc => ?_⟩
   · have hc : decide ((k : Int) < ((l.length : Nat) : Int)) = true := hc
     have hk1 : k < l.length := by have := of_decide_eq_true hc; omega
     have hO := (hob _ (List.getElem_mem hk1)).1
     have hget := lgAt (n := k) hk1
     generalize l[k] = o at *
     have htt : cTot o = (qB (cQ o)).length + (cNm o).length + (cOt o).length := rfl
     have hd : ∀ e, e ∈ R → (mD (dIm e)).length + 256 ≤ 100000 := fun e he => by have := hD e he; omega
     have hdo := cdo_fn (hR.cok hC) (b : Int) (r : Int) o (by omega) (by omega) hd
     have hds := does14_fn hC o (by omega)
     have hst := fun p hC' => hR.step hC o p hC' hd
     refine ⟨by omega, o, hget, ?_⟩
     refine ⟨rfl, ?_⟩
     refine ⟨_, _, _, _, hdo, trivial, rfl, ?_⟩
     refine ⟨rfl, ?_⟩
     show TrQ _ _ _ _ _ _ _
     refine TrQ.regionX tblOK (by kernel_rfl) ?_
     refine ⟨_, _, _, fun g => _, fun g => _, hds, ⟨rfl, rfl, rfl, rfl, trivial⟩, rfl, fun _ => rfl, fun g => ?_⟩
     obtain ⟨g, hC2⟩ := g
     obtain ⟨hx, he, hR2, hD2⟩ := hst g hC2
     have hD2 : ∀ e, e ∈ (doR14 (2 ^ b) (b : Int) (r : Int) R o).l → (mD (dIm e)).length ≤ 256 * (k + 1) := fun e h => by
       obtain ⟨j, h1, h2⟩ := hD2 e h
       rcases h2 with h2 | ⟨e0, h2, h3⟩
       · omega
       · have := hD e0 h2
         omega
     show TrQ _ _ _ _ _ _ _
     refine TrQ.go tblOK (drawOK tblOK) [] (by kernel_rfl) (Le.sub (K' := qpK2 l k (doC b r L o g).x (doC b r L o g).e) (B' := qpB b r (doC b r L o g).L (doR14 (2 ^ b) (b : Int) (r : Int) R o).l) ⟨rfl, rfl, hx, he, rfl, rfl, rfl, rfl, rfl, trivial⟩ ⟨rfl, rfl, rfl, rfl, rfl, trivial⟩) ?_
     have hsd := stands_fn hR2 hC2 fun e h => by have := hD2 e h; omega
     generalize (doC b r L o g).x = zx at *
     generalize (doC b r L o g).e = ze at *
     generalize (doC b r L o g).L = L2 at *
     generalize (doR14 (2 ^ b) (b : Int) (r : Int) R o).l = R2 at *
     refine ⟨fun hx => absurd (show (!decide (ze = ze)) = true from hx) (by rw [decide_eq_true rfl]; decide), fun _ => ?_⟩
     refine ⟨fun hx => absurd (show (!decide (zx = zx)) = true from hx) (by rw [decide_eq_true rfl]; decide), fun _ => ?_⟩
     refine ⟨_, _, _, _, hsd, ⟨rfl, rfl, rfl, rfl, trivial⟩, rfl, ?_⟩
     refine ⟨fun hx => absurd hx (by decide), fun _ => ?_⟩
     exact ⟨by omega, (k + 1, L2, R2), ⟨hk1, hC2, hR2, hD2⟩, by show l.length - (k + 1) < l.length - k; omega, Le.sub ⟨rfl, rfl, rfl, rfl, rfl, trivial⟩ ⟨rfl, rfl, rfl, rfl, rfl, trivial⟩⟩
   · have hq := q_name hC
     have hdp := chdepth_fn hC [63]
     rw [show dpC L [63] = (0, 140) by unfold dpC; rw [hq]] at hdp
     have hrw := chrow_fn hC [63]
     rw [show rwC b L [63] = ([], 140) by unfold rwC; rw [hq]] at hrw
     have hcl := chcluster_fn hC [63] 0
     rw [show clC b L [63] 0 = [] by unfold clC; rw [hq]] at hcl
     refine ⟨_, _, _, _, hdp, ⟨rfl, rfl, rfl, rfl, trivial⟩, rfl, ?_⟩
     refine ⟨_, _, _, _, hrw, ⟨rfl, rfl, rfl, rfl, trivial⟩, rfl, ?_⟩
     refine ⟨_, _, _, _, alive14_fn, trivial, rfl, ?_⟩
     refine ⟨fun _ => ?_, fun h => absurd h (by decide)⟩
     refine ⟨fun _ => ?_, fun h => absurd h (by decide)⟩
     refine ⟨fun _ => ?_, fun h => absurd h (by decide)⟩
     refine ⟨_, _, _, _, image_no _ _ L [63] hq, ⟨rfl, rfl, rfl, rfl, trivial⟩, rfl, ?_⟩
     refine ⟨_, _, _, _, hcl, ⟨rfl, rfl, rfl, rfl, trivial⟩, rfl, ?_⟩
     exact ⟨_, _, _, Le.refl _ _, rfl, rfl, trivial, rfl⟩
end Go.Proofs.YteoamepgonpdlaaGreat
