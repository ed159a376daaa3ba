/-
  Scripts of law 17: few, does.
-/
import Derived.Test.YtbcngglcaeehbaaGreatLt
import Derived.Test.YtbcngglcaeehbaaGreatIb
import Derived.Test.YtbcngglcaeehbaaGreatPw
import Derived.Test.YtbcngglcaeehbaaGreatDy
set_option linter.unusedVariables false
set_option linter.unusedSimpArgs false
set_option maxRecDepth 10000
namespace Go.Proofs.YtbcngglcaeehbaaGreat
open Go.RowKit Go.Proofs
/-! ### few, of a script and a list of calls -/
@[reducible] def uKo : U := .pr uI uC
abbrev Kop := Int × Cop
@[reducible] def kKd (o : Kop) : Int := o.1
@[reducible] def kO (o : Kop) : Cop := o.2
@[reducible] def kopL (o : Kop) : List S1 := .d (.int .i64 (kKd o)) :: copL (kO o)
def kTot (o : Kop) : Nat := (qB (cQ (kO o))).length + (cNm (kO o)).length
def kTo (l : List Kop) (k : Nat) : Nat := ((l.take k).map kTot).sum
theorem kTo_le (l : List Kop) (k : Nat) : kTo l k ≤ (l.map kTot).sum := by
  unfold kTo
  rw [List.map_take]
  exact csum_le _ _
theorem kTo_succ (l : List Kop) {k : Nat} (h : k < l.length) : kTo l (k + 1) = kTo l k + kTot l[k] := by
  unfold kTo
  rw [List.take_add_one, List.getElem?_eq_getElem h, List.map_append, List.sum_append]
  rfl
theorem kTot_le {l : List Kop} {o : Kop} (h : o ∈ l) : kTot o ≤ (l.map kTot).sum := by
  induction l with
  | nil => cases h
  | cons x l ih =>
    rw [List.map_cons, List.sum_cons]
    rcases List.mem_cons.1 h with rfl | h
    · omega
    · have := ih h
      omega
def fewK (l : List Cop) (m : List Kop) : Bool := (l.all fun o => !cBad o) && (decide (l.length + m.length ≤ 60) && decide ((l.map cTot).sum + (m.map kTot).sum ≤ 6000))
theorem fewK_bad {l : List Cop} {m : List Kop} {k : Nat} (hk : k < l.length) (hb : cBad l[k] = true) : fewK l m = false := by
  unfold fewK
  rw [show (l.all fun o => !cBad o) = false from Bool.eq_false_iff.2 fun h => by
    have := List.all_eq_true.1 h _ (List.getElem_mem hk)
    rw [hb] at this
    cases this]
  rfl
theorem fewK_get {l : List Cop} {m : List Kop} (h : fewK l m = true) : l.length + m.length ≤ 60 ∧ (∀ o, o ∈ l → cTot o ≤ 6000 ∧ cBad o = false) ∧ ∀ o, o ∈ m → kTot o ≤ 6000 := by
  unfold fewK at h
  simp only [Bool.and_eq_true] at h
  have h2 := of_decide_eq_true h.2.2
  refine ⟨of_decide_eq_true h.2.1, fun o ho => ⟨Nat.le_trans (cTot_le ho) (by omega), ?_⟩, fun o ho => Nat.le_trans (kTot_le ho) (by omega)⟩
  have := List.all_eq_true.1 h.1 o ho
  simpa using this
@[reducible] def fjK17 (l : List Cop) (m : List Kop) (k : Nat) : KL := [(0, vL uC l), (1, vL uKo m), (5, vI (cTo l k : Nat)), (10, vL uC l), (11, vI (l.length : Nat)), (12, vI (k : Nat))]
@[reducible] def fjK217 (l : List Cop) (m : List Kop) (k : Nat) : KL := [(0, vL uC l), (1, vL uKo m), (5, vI ((cTo l l.length + kTo m k : Nat) : Int)), (39, vL uKo m), (40, vI (m.length : Nat)), (41, vI (k : Nat))]
theorem few17_fn (l : List Cop) (m : List Kop) (hl : l.length ≤ 1073741824) (ht : (l.map cTot).sum ≤ 1073741824) (hl2 : m.length ≤ 1073741824) (ht2 : (m.map kTot).sum ≤ 1073741824) : Fn Tryz.prog 9 [vL uC l, vL uKo m] [] [] (vB (fewK l m)) [] := by
  refine Fn.of tblOK [] _ _ _ _ _ Tryz.func9 rfl rfl (by kernel_rfl) (by kernel_rfl) rfl (drawOK tblOK) rfl ?_
  show TrQ _ _ _ _ _ _ _
  refine TrQ.loop tblOK (drawOK tblOK) [] (by kernel_rfl) (X := Nat) (fjK17 l m) (fun _ => []) (fun k => k ≤ l.length ∧ cGood l k) (fun k => l.length - k) 0 ⟨Nat.zero_le _, fun i o hi => by omega⟩ ?_ ?_
  · exact Le.sub ⟨rfl, rfl, rfl, rfl, rfl, rfl, trivial⟩ trivial
  rintro k ⟨hk, hg⟩
  have ht1 := cTo_le l k
  refine ⟨fun hc => ?_, fun hc => ?_⟩
  · have hc : decide ((k : Int) < ((l.length : Nat) : Int)) = true := hc
    have hk1 : k < l.length := by have := of_decide_eq_true hc; omega
    have ht3 := cTo_le l (k + 1)
    have hs := cTo_succ l hk1
    have hbd : cBad l[k] = (decide (12 < cSz l[k]) && decide (cSz l[k] ≤ 256)) := rfl
    have htt : cTot l[k] = (qB (cQ l[k])).length + (cNm l[k]).length + (cOt l[k]).length := rfl
    have hget := lgAt (n := k) hk1
    have hgs := fun hb => hg.succ hk1 hb
    have hbad := fun hb => fewK_bad (m := m) hk1 hb
    generalize hx : l[k] = o at *
    have m1 : (-9223372036854775808 : Int) ≤ (((qB (cQ o)).length : Nat) : Int) + (((cNm o).length : Nat) : Int) ∧ (((qB (cQ o)).length : Nat) : Int) + (((cNm o).length : Nat) : Int) ≤ 9223372036854775807 := by omega
    have m2 : (-9223372036854775808 : Int) ≤ (((qB (cQ o)).length : Nat) : Int) + (((cNm o).length : Nat) : Int) + (((cOt o).length : Nat) : Int) ∧ (((qB (cQ o)).length : Nat) : Int) + (((cNm o).length : Nat) : Int) + (((cOt o).length : Nat) : Int) ≤ 9223372036854775807 := by omega
    have m3 : (-9223372036854775808 : Int) ≤ ((cTo l k : Nat) : Int) + ((((qB (cQ o)).length : Nat) : Int) + (((cNm o).length : Nat) : Int) + (((cOt o).length : Nat) : Int)) ∧ ((cTo l k : Nat) : Int) + ((((qB (cQ o)).length : Nat) : Int) + (((cNm o).length : Nat) : Int) + (((cOt o).length : Nat) : Int)) ≤ 9223372036854775807 := by omega
    have e3 : ((cTo l k : Nat) : Int) + ((((qB (cQ o)).length : Nat) : Int) + (((cNm o).length : Nat) : Int) + (((cOt o).length : Nat) : Int)) = ((cTo l (k + 1) : Nat) : Int) := by omega
    refine ⟨by omega, o, hget, ?_⟩
    refine ⟨rfl, m1, m2, m3, ?_⟩
    refine ⟨fun cA => ?_, fun cA => ?_⟩
    · have cA : decide (12 < cSz o) = true := cA
      refine ⟨fun cB => ?_, fun cB => ?_⟩
      · have cB : decide (cSz o ≤ 256) = true := cB
        exact ⟨_, _, _, Le.refl _ _, rfl, (hbad (by rw [hbd, cA, cB]; rfl)).symm, trivial, rfl⟩
      · have cB : decide (cSz o ≤ 256) = false := cB
        exact ⟨by omega, k + 1, ⟨hk1, hgs (by rw [hbd, cA, cB]; rfl)⟩, by omega, Le.sub ⟨rfl, rfl, e3, rfl, rfl, rfl, trivial⟩ trivial⟩
    · have cA : decide (12 < cSz o) = false := cA
      exact ⟨by omega, k + 1, ⟨hk1, hgs (by rw [hbd, cA]; rfl)⟩, by omega, Le.sub ⟨rfl, rfl, e3, rfl, rfl, rfl, trivial⟩ trivial⟩
  · have hc : decide ((k : Int) < ((l.length : Nat) : Int)) = false := hc
    have hk2 : k = l.length := by have := of_decide_eq_false hc; omega
    subst hk2
    have hall : (l.all fun o => !cBad o) = true := List.all_eq_true.2 fun o ho => by
      obtain ⟨i, hi, rfl⟩ := List.getElem_of_mem ho
      rw [hg i _ hi (List.getElem?_eq_getElem hi)]
      rfl
    have htt : cTo l l.length = (l.map cTot).sum := by unfold cTo; rw [List.take_length]
    show TrQ _ _ _ _ _ _ _
    refine TrQ.loop tblOK (drawOK tblOK) [] (by kernel_rfl) (X := Nat) (fjK217 l m) (fun _ => []) (fun j => j ≤ m.length) (fun j => m.length - j) 0 (Nat.zero_le _) ?_ ?_
    · exact Le.sub ⟨rfl, rfl, rfl, rfl, rfl, rfl, trivial⟩ trivial
    intro j hj
    have hj1 := kTo_le m j
    refine ⟨fun hc => ?_, fun hc => ?_⟩
    · have hc : decide ((j : Int) < ((m.length : Nat) : Int)) = true := hc
      have hjm : j < m.length := by have := of_decide_eq_true hc; omega
      have hj2 := kTo_le m (j + 1)
      have hs := kTo_succ m hjm
      have hj3 : kTot m[j] = (qB (cQ (kO m[j]))).length + (cNm (kO m[j])).length := rfl
      have hget := lgAt (n := j) hjm
      generalize hx : m[j] = o at *
      have m2 : (-9223372036854775808 : Int) ≤ (((qB (cQ (kO o))).length : Nat) : Int) + (((cNm (kO o)).length : Nat) : Int) ∧ (((qB (cQ (kO o))).length : Nat) : Int) + (((cNm (kO o)).length : Nat) : Int) ≤ 9223372036854775807 := by omega
      have m3 : (-9223372036854775808 : Int) ≤ ((cTo l l.length + kTo m j : Nat) : Int) + ((((qB (cQ (kO o))).length : Nat) : Int) + (((cNm (kO o)).length : Nat) : Int)) ∧ ((cTo l l.length + kTo m j : Nat) : Int) + ((((qB (cQ (kO o))).length : Nat) : Int) + (((cNm (kO o)).length : Nat) : Int)) ≤ 9223372036854775807 := by omega
      have e3 : ((cTo l l.length + kTo m j : Nat) : Int) + ((((qB (cQ (kO o))).length : Nat) : Int) + (((cNm (kO o)).length : Nat) : Int)) = ((cTo l l.length + kTo m (j + 1) : Nat) : Int) := by omega
      refine ⟨by omega, o, hget, ?_⟩
      refine ⟨rfl, m2, m3, ?_⟩
      exact ⟨by omega, j + 1, hjm, by omega, Le.sub ⟨rfl, rfl, e3, rfl, rfl, rfl, trivial⟩ trivial⟩
    · have hc : decide ((j : Int) < ((m.length : Nat) : Int)) = false := hc
      have hj2 : j = m.length := by have := of_decide_eq_false hc; omega
      subst hj2
      have hjt : kTo m m.length = (m.map kTot).sum := by unfold kTo; rw [List.take_length]
      have m4 : (-9223372036854775808 : Int) ≤ ((l.length : Nat) : Int) + ((m.length : Nat) : Int) ∧ ((l.length : Nat) : Int) + ((m.length : Nat) : Int) ≤ 9223372036854775807 := by omega
      refine ⟨m4, ?_⟩
      refine ⟨fun c1 => ?_, fun c1 => ?_⟩
      · have c1 : decide (((l.length : Nat) : Int) + ((m.length : Nat) : Int) ≤ 60) = true := c1
        have c1 : decide (l.length + m.length ≤ 60) = true := decide_eq_true (by have := of_decide_eq_true c1; omega)
        refine ⟨_, _, _, Le.refl _ _, rfl, (show decide (((cTo l l.length + kTo m m.length : Nat) : Int) ≤ 6000) = fewK l m from ?_), trivial, rfl⟩
        rw [fewK, hall, c1, htt, hjt, Bool.eq_iff_iff]
        simp
        omega
      · have c1 : decide (((l.length : Nat) : Int) + ((m.length : Nat) : Int) ≤ 60) = false := c1
        have c1 : decide (l.length + m.length ≤ 60) = false := decide_eq_false (by have := of_decide_eq_false c1; omega)
        refine ⟨_, _, _, Le.refl _ _, rfl, (show false = fewK l m from ?_), trivial, rfl⟩
        rw [fewK, hall, c1]
        rfl
theorem does17w_fn {bits room : Nat} {L : List Dsk} (h : CS bits room L) (o : Cop) (hb : (qB (cQ o)).length + (cNm o).length ≤ 1000000) :
    FnX Tryz.prog 14 [vP 1001, copV o] (chB bits room L) [] (X := { p : Nat × Nat // CS bits room (doD bits room L o p).L }) (fun p => vI (doD bits room L o p.1).e) (fun p => chB bits room (doD bits room L o p.1).L) := by
  have hnm : (cNm o).length ≤ 4294967296 := by omega
  refine FnX.of tblOK [3] _ _ _ _ _ Tryz.func14 rfl rfl (by kernel_rfl) (by kernel_rfl) rfl (drawOK tblOK) rfl ?_
  refine ⟨rfl, ?_⟩
  refine ⟨fun c0 => ?_, fun c0 => ?_⟩
  · have c0 : cK o = 0 := of_decide_eq_true c0
    have hE : ∀ p, doD bits room L o p = adC bits room L (cNm o) (cSz o) (cOt o) p := fun p => if_pos c0
    show TrQ _ _ _ _ _ _ _
    refine TrQ.regionX tblOK (by kernel_rfl) ?_
    refine ⟨_, _, _, fun g => _, fun g => _, chadd_fn h (cNm o) (cSz o) (cOt o) hnm, ⟨rfl, rfl, rfl, rfl, trivial⟩, rfl, fun _ => rfl, fun g => ?_⟩
    have hL := congrArg CR.L (hE g.1)
    exact ⟨⟨g.1, by rw [hE]; exact g.2⟩, _, _, _, Le.refl _ _, rfl, congrArg CR.e (hE g.1).symm, ⟨rfl, congrArg (fun l => some (Ch.map .str .adr (chE l))) hL.symm, congrArg (fun l => some (Ch.obj (.pool (chD l)))) hL.symm, congrArg (fun l => some (Ch.obj (.pool (chM l)))) hL.symm, trivial⟩, rfl⟩
  have c0 : cK o ≠ 0 := of_decide_eq_false c0
  have g0 : CS bits room (doD bits room L o (0, 0)).L := doD_cs h c0 (0, 0)
  refine ⟨fun c1 => ?_, fun c1 => ?_⟩
  · have c1 : cK o = 1 := of_decide_eq_true c1
    have hE : doD bits room L o (0, 0) = rmC L (cNm o) := (if_neg c0).trans (if_pos c1)
    have hL := congrArg CR.L hE
    refine ⟨_, _, _, _, chremove_fn h (cNm o), ⟨rfl, rfl, rfl, rfl, trivial⟩, rfl, ?_⟩
    exact ⟨⟨_, g0⟩, _, _, _, Le.refl _ _, rfl, congrArg CR.e hE.symm, ⟨rfl, congrArg (fun l => some (Ch.map .str .adr (chE l))) hL.symm, congrArg (fun l => some (Ch.obj (.pool (chD l)))) hL.symm, congrArg (fun l => some (Ch.obj (.pool (chM l)))) hL.symm, trivial⟩, rfl⟩
  have c1 : cK o ≠ 1 := of_decide_eq_false c1
  refine ⟨fun c2 => ?_, fun c2 => ?_⟩
  · have c2 : cK o = 2 := of_decide_eq_true c2
    have hE : doD bits room L o (0, 0) = rbC L (cNm o) (cOt o) := (if_neg c0).trans ((if_neg c1).trans (if_pos c2))
    have hL := congrArg CR.L hE
    refine ⟨_, _, _, _, chrebase_fn h (cNm o) (cOt o), ⟨rfl, rfl, rfl, rfl, trivial⟩, rfl, ?_⟩
    exact ⟨⟨_, g0⟩, _, _, _, Le.refl _ _, rfl, congrArg CR.e hE.symm, ⟨rfl, congrArg (fun l => some (Ch.map .str .adr (chE l))) hL.symm, congrArg (fun l => some (Ch.obj (.pool (chD l)))) hL.symm, congrArg (fun l => some (Ch.obj (.pool (chM l)))) hL.symm, trivial⟩, rfl⟩
  have c2 : cK o ≠ 2 := of_decide_eq_false c2
  refine ⟨fun c3 => ?_, fun c3 => ?_⟩
  · have c3 : cK o = 3 := of_decide_eq_true c3
    have hQ : doD bits room L o (0, 0) = doW bits L (cNm o) (cQ o) := (if_neg c0).trans ((if_neg c1).trans ((if_neg c2).trans (if_pos c3)))
    refine ⟨fun d1 => ?_, fun d1 => ?_⟩
    · have d1 : qK (cQ o) = 1 := of_decide_eq_true d1
      have hE := hQ.trans (if_pos d1)
      have hL := congrArg CR.L hE
      refine ⟨_, _, _, _, chwrite_fn h (cNm o) (qA (cQ o)) (qB (cQ o)) (by omega), ⟨rfl, rfl, rfl, rfl, trivial⟩, rfl, ?_⟩
      exact ⟨⟨_, g0⟩, _, _, _, Le.refl _ _, rfl, congrArg CR.e hE.symm, ⟨rfl, congrArg (fun l => some (Ch.map .str .adr (chE l))) hL.symm, congrArg (fun l => some (Ch.obj (.pool (chD l)))) hL.symm, congrArg (fun l => some (Ch.obj (.pool (chM l)))) hL.symm, trivial⟩, rfl⟩
    have d1 : qK (cQ o) ≠ 1 := of_decide_eq_false d1
    refine ⟨fun d2 => ?_, fun d2 => ?_⟩
    · have d2 : qK (cQ o) = 2 := of_decide_eq_true d2
      have hE := hQ.trans ((if_neg d1).trans (if_pos d2))
      have hL := congrArg CR.L hE
      refine ⟨_, _, _, _, chzero_fn h (cNm o) (qA (cQ o)) (qL (cQ o)), ⟨rfl, rfl, rfl, rfl, trivial⟩, rfl, ?_⟩
      exact ⟨⟨_, g0⟩, _, _, _, Le.refl _ _, rfl, congrArg CR.e hE.symm, ⟨rfl, congrArg (fun l => some (Ch.map .str .adr (chE l))) hL.symm, congrArg (fun l => some (Ch.obj (.pool (chD l)))) hL.symm, congrArg (fun l => some (Ch.obj (.pool (chM l)))) hL.symm, trivial⟩, rfl⟩
    have d2 : qK (cQ o) ≠ 2 := of_decide_eq_false d2
    refine ⟨fun d3 => ?_, fun d3 => ?_⟩
    · have d3 : qK (cQ o) = 3 := of_decide_eq_true d3
      have hE := hQ.trans ((if_neg d1).trans ((if_neg d2).trans (if_pos d3)))
      have hL := congrArg CR.L hE
      refine ⟨_, _, _, _, chdisc_fn h (cNm o) (qA (cQ o)) (qL (cQ o)), ⟨rfl, rfl, rfl, rfl, trivial⟩, rfl, ?_⟩
      exact ⟨⟨_, g0⟩, _, _, _, Le.refl _ _, rfl, congrArg CR.e hE.symm, ⟨rfl, congrArg (fun l => some (Ch.map .str .adr (chE l))) hL.symm, congrArg (fun l => some (Ch.obj (.pool (chD l)))) hL.symm, congrArg (fun l => some (Ch.obj (.pool (chM l)))) hL.symm, trivial⟩, rfl⟩
    have d3 : qK (cQ o) ≠ 3 := of_decide_eq_false d3
    have hE := hQ.trans ((if_neg d1).trans ((if_neg d2).trans (if_neg d3)))
    have hL := congrArg CR.L hE
    exact ⟨⟨_, g0⟩, _, _, _, Le.refl _ _, rfl, congrArg CR.e hE.symm, ⟨rfl, congrArg (fun l => some (Ch.map .str .adr (chE l))) hL.symm, congrArg (fun l => some (Ch.obj (.pool (chD l)))) hL.symm, congrArg (fun l => some (Ch.obj (.pool (chM l)))) hL.symm, trivial⟩, rfl⟩
  have c3 : cK o ≠ 3 := of_decide_eq_false c3
  have hE : doD bits room L o (0, 0) = ⟨0, L⟩ := (if_neg c0).trans ((if_neg c1).trans ((if_neg c2).trans (if_neg c3)))
  have hL := congrArg CR.L hE
  exact ⟨⟨_, g0⟩, _, _, _, Le.refl _ _, rfl, congrArg CR.e hE.symm, ⟨rfl, congrArg (fun l => some (Ch.map .str .adr (chE l))) hL.symm, congrArg (fun l => some (Ch.obj (.pool (chD l)))) hL.symm, congrArg (fun l => some (Ch.obj (.pool (chM l)))) hL.symm, trivial⟩, rfl⟩
theorem does17_fn {bits room : Nat} {L : List Dsk} (h : CS bits room L) (o : Cop) (hb : cTot o ≤ 1000000) :
    FnX Tryz.prog 14 [vP 1001, copV o] (chB bits room L) [] (X := { p : Nat × Nat // CS bits room (doD bits room L o p).L }) (fun p => vI (doD bits room L o p.1).e) (fun p => chB bits room (doD bits room L o p.1).L) :=
  does17w_fn h o (by have htt : cTot o = (qB (cQ o)).length + (cNm o).length + (cOt o).length := rfl; omega)
/-! Law 17's begun: a chain, and a job of it. -/
/-- What begun tells: the chain; is there a job; what is left of it. -/
structure BG where
  L : List Dsk
  ok : Bool
  l : List Nat
structure BGok (nm : List UInt8) (al : Bool) (rm : Int) (x : BG) : Prop where
  cs : CS 1 40 x.L
  kn : ∃ d, dk x.L nm = some d
  sm : szOf x.L nm ≤ 12
  lt : ∀ k, k ∈ x.l → k < szOf x.L nm
  nd : x.l.Nodup
  rm : 0 ≤ rm
  all : al = true → x.l.length = szOf x.L nm
def bgR : Bool → SV
  | true => .tup [.one (.ptr 1001 0), .one (.ptr 2001 0), .one (.d (.bool true))]
  | false => .tup [.one .any, .one .any, .one (.d (.bool false))]
def bgB (nm : List UInt8) (rm : Int) (x : BG) : Bool → BL
  | true => puB 1 40 x.L nm ((szOf x.L nm : Nat) : Int) rm x.l [] false false
  | false => []
def BGX (nm : List UInt8) (al : Bool) (rm : Int) : Type := { x : BG // x.ok = true → BGok nm al rm x }
@[reducible] def bgK (l : List Cop) (k : Nat) : KL := [(3, vP 3), (7, vP 1001), (27, vL uC l), (28, vI (l.length : Nat)), (29, vI (k : Nat))]
@[reducible] def bgC (L : List Dsk) (nm : List UInt8) (al : Bool) (gr rm : Int) (ds : List Ext3) : BL := chB 1 40 L ++ [(3, .cells (steL nm al gr rm ds))]
@[reducible] def bgC2 (L : List Dsk) (nm : List UInt8) (al : Bool) (gr rm : Int) (ds : List Ext3) (s g : Int) (es : List (El uI × El uI)) : BL := chB 1 40 L ++ [(3, .cells (steL nm al gr rm ds)), (5001, .cells [.d (.int .i64 s), .d (.int .i64 g), .mp 5002]), (5002, .map uI uI es)]
set_option maxHeartbeats 2000000 in
theorem begun_fn (l : List Cop) (nm : List UInt8) (al : Bool) (gr rm : Int) (ds : List Ext3) (hob : ∀ o, o ∈ l → cTot o ≤ 6000 ∧ cBad o = false) (hll : l.length ≤ 100000) : FnX Tryz.prog 11 [vL uC l, steV nm al gr rm ds] [] [1001, 1002, 1003, 1004, 2001, 2002, 2003] (X := BGX nm al rm) (fun x => bgR x.1.ok) (fun x => bgB nm rm x.1 x.1.ok) := by
  refine FnX.of tblOK [7,9,12,15] _ _ _ _ _ Tryz.func11 rfl rfl (by kernel_rfl) (by kernel_rfl) rfl (drawOK tblOK) rfl ?_
  refine ⟨rfl, ?_⟩
  refine ⟨_, _, _, _, chnew_ok 1 40 (by decide) (by decide), trivial, rfl, ?_⟩
  refine ⟨fun h => absurd h (by decide), fun _ => ?_⟩
  show TrQ _ _ _ _ _ _ _
  refine TrQ.loop tblOK (drawOK tblOK) [7,9,12,15] (by kernel_rfl) (X := Nat × List Dsk) (fun x => bgK l x.1) (fun x => bgC x.2 nm al gr rm ds) (fun x => x.1 ≤ l.length ∧ CS 1 40 x.2 ∧ Sml x.2) (fun x => l.length - x.1) (0, []) ⟨Nat.zero_le _, CS.nil (by decide) (by decide), Sml.nil⟩ ?_ ?_
  · exact Le.sub ⟨rfl, rfl, rfl, rfl, rfl, trivial⟩ ⟨rfl, rfl, rfl, rfl, rfl, trivial⟩
  rintro ⟨k, L⟩ ⟨hk, hC, hSm⟩
  have hk : k ≤ l.length := hk
  have hC : CS 1 40 L := hC
  have hSm : Sml L := hSm
  refine ⟨fun hc => ?_, fun _ => ?_⟩
  · have hc : decide ((k : Int) < ((l.length : Nat) : Int)) = true := hc
    have hk1 : k < l.length := by have := of_decide_eq_true hc; omega
    have hO := hob _ (List.getElem_mem hk1)
    refine ⟨by omega, l[k], lgAt (n := k) hk1, ?_⟩
    refine ⟨rfl, ?_⟩
    show TrQ _ _ _ _ _ _ _
    refine TrQ.regionX tblOK (by kernel_rfl) ?_
    refine ⟨_, _, _, fun g => _, fun g => _, does17_fn hC l[k] (by omega), ⟨rfl, rfl, rfl, rfl, trivial⟩, rfl, fun _ => rfl, fun g => ?_⟩
    exact ⟨by omega, (k + 1, (doD 1 40 L l[k] g.1).L), ⟨hk1, g.2, hSm.do hC hO.2⟩, by show l.length - (k + 1) < l.length - k; omega, Le.sub ⟨rfl, rfl, rfl, rfl, rfl, trivial⟩ ⟨rfl, rfl, rfl, rfl, rfl, trivial⟩⟩
  cases hd : dk L nm with
  | none =>
    show TrQ _ _ _ _ _ _ _
    refine TrQ.go tblOK (drawOK tblOK) [12,15] (by kernel_rfl) (Le.refl _ _) ?_
    refine ⟨_, _, _, _, image_no _ _ L nm hd, ⟨rfl, rfl, rfl, rfl, trivial⟩, rfl, ?_⟩
    exact ⟨⟨⟨[], false, []⟩, fun h => by cases h⟩, _, _, _, Le.refl _ _, rfl, ⟨trivial, trivial, rfl, trivial⟩, trivial, rfl⟩
  | some d =>
    have hLm := hC.toChN.M (dk_get hd).1
    have htl := hSm d (dk_get hd).1
    have hsz : szOf L nm = d.im.t.length := by unfold szOf; rw [hd]
    have es1 := shl1 d.im.t.length
    have m1 : (0 : Int) ≤ ((d.im.t.length : Nat) : Int) ∧ (0 : Int) ≤ (1 : Int) ∧ (1 : Int) ≤ 64 := by omega
    have m2 : (-9223372036854775808 : Int) ≤ ((d.im.t.length : Nat) : Int) * ((2 ^ (1 : Int).toNat : Nat) : Int) ∧ ((d.im.t.length : Nat) : Int) * ((2 ^ (1 : Int).toNat : Nat) : Int) ≤ 9223372036854775807 := by rw [es1]; omega
    show TrQ _ _ _ _ _ _ _
    refine TrQ.go tblOK (drawOK tblOK) [12,15] (by kernel_rfl) (Le.refl _ _) ?_
    refine ⟨_, _, _, _, image_fn _ _ L hC.toChN nm d hd, ⟨rfl, rfl, rfl, rfl, trivial⟩, rfl, ?_⟩
    refine ⟨fun _ _ => ?_, fun h => by cases h⟩
    show TrQ _ _ _ _ _ _ _
    refine TrQ.go tblOK (drawOK tblOK) [15] (by kernel_rfl) (Le.sub (K' := [(3, vP 3), (7, vP 1001), (11, vAd d.am)]) (B' := bgC L nm al gr rm ds) ⟨rfl, rfl, rfl, trivial⟩ ⟨rfl, rfl, rfl, rfl, rfl, trivial⟩) ?_
    refine ⟨_, _, _, _, imFn (isize_fn d.im) hLm rfl rfl rfl rfl, ⟨rfl, trivial⟩, rfl, ?_⟩
    refine ⟨m1, m2, ?_⟩
    -- the dirty bits
    have hcl : some (Ch.cells (puC nm ((1 : Nat) : Int) ((d.im.t.length : Nat) : Int) rm false false)) = some (Ch.cells (puC nm 1 ((szOf L nm : Nat) : Int) rm false false)) := by rw [hsz]; rfl
    cases al with
    | true =>
      obtain ⟨r, hdy⟩ := dirty_early nm true gr rm ds (((d.im.t.length : Nat) : Int) * ((2 ^ (1 : Int).toNat : Nat) : Int)) (.inl rfl)
      refine ⟨_, _, _, _, hdy, trivial, rfl, ?_⟩
      refine ⟨rfl, ?_⟩
      refine ⟨rfl, ?_⟩
      refine ⟨fun h => absurd h (by decide), fun _ => ?_⟩
      show TrQ _ _ _ _ _ _ _
      refine TrQ.go tblOK (drawOK tblOK) [] (by kernel_rfl) (Le.sub (K' := [(3, vP 3), (7, vP 1001), (12, .c (.one (.raw (.pointer none))))]) (B' := bgC L nm true gr rm ds) ⟨rfl, rfl, rfl, trivial⟩ ⟨rfl, rfl, rfl, rfl, rfl, trivial⟩) ?_
      by_cases hr : rm < 0
      · refine ⟨_, _, _, _, pubegin_no_nil hC hd rm hr, ⟨rfl, rfl, rfl, rfl, trivial⟩, rfl, ?_⟩
        refine ⟨fun h => absurd h (by decide), fun _ => ?_⟩
        exact ⟨⟨⟨[], false, []⟩, fun h => by cases h⟩, _, _, _, Le.refl _ _, rfl, ⟨trivial, trivial, rfl, trivial⟩, trivial, rfl⟩
      · refine ⟨_, _, _, _, pubegin_nil hC hd rm (by omega), ⟨rfl, rfl, rfl, rfl, trivial⟩, rfl, ?_⟩
        refine ⟨fun _ => ?_, fun h => absurd h (by decide)⟩
        exact ⟨⟨⟨L, true, puL (fun _ => true) 1 (d.im.t.length * 2 ^ 1)⟩, fun _ => ⟨hC, ⟨d, hd⟩, by show szOf L nm ≤ 12; omega, fun k hk => by have := puL_lt (fun _ => true) 1 d.im.t.length _ (Nat.le_refl _) k hk; show k < szOf L nm; omega, puL_nodup _ _ _, by omega, fun _ => (puL_all 1 d.im.t.length).trans hsz.symm⟩⟩, _, _, _, Le.refl _ _, rfl, ⟨rfl, rfl, rfl, trivial⟩, ⟨rfl, rfl, rfl, rfl, hcl, rfl, rfl, trivial⟩, rfl⟩
    | false =>
      by_cases h20 : 20 < ds.length
      · obtain ⟨r, hdy⟩ := dirty_early nm false gr rm ds (((d.im.t.length : Nat) : Int) * ((2 ^ (1 : Int).toNat : Nat) : Int)) (.inr h20)
        refine ⟨_, _, _, _, hdy, trivial, rfl, ?_⟩
        refine ⟨rfl, ?_⟩
        refine ⟨rfl, ?_⟩
        refine ⟨fun _ => ?_, fun h => absurd h (by decide)⟩
        exact ⟨⟨⟨[], false, []⟩, fun h => by cases h⟩, _, _, _, Le.refl _ _, rfl, ⟨trivial, trivial, rfl, trivial⟩, trivial, rfl⟩
      cases hbz : bzOK (((d.im.t.length : Nat) : Int) * ((2 ^ (1 : Int).toNat : Nat) : Int)) gr with
      | false =>
        obtain ⟨r, hdy⟩ := dirty_no nm gr rm ds _ (by omega) hbz
        refine ⟨_, _, _, _, hdy, trivial, rfl, ?_⟩
        refine ⟨rfl, ?_⟩
        refine ⟨rfl, ?_⟩
        refine ⟨fun _ => ?_, fun h => absurd h (by decide)⟩
        exact ⟨⟨⟨[], false, []⟩, fun h => by cases h⟩, _, _, _, Le.refl _ _, rfl, ⟨trivial, trivial, rfl, trivial⟩, trivial, rfl⟩
      | true =>
        have hg := bzOK_get hbz
        obtain ⟨r, hdo⟩ := dirty_ok nm gr rm ds _ (by omega) hbz
        have esx : ((d.im.t.length : Nat) : Int) * ((2 ^ (1 : Int).toNat : Nat) : Int) = ((d.im.t.length * 2 ^ 1 : Nat) : Int) := es1
        rw [esx] at hdo m2 hg ⊢
        generalize hsx : ((d.im.t.length * 2 ^ 1 : Nat) : Int) = sx at *
        refine ⟨_, _, _, _, Fn.ren [(2001, 5001), (2002, 5002)] hdo, trivial, rfl, ?_⟩
        refine ⟨rfl, ?_⟩
        refine ⟨rfl, ?_⟩
        refine ⟨fun h => absurd h (by decide), fun _ => ?_⟩
        subst hsx
        show TrQ _ _ _ _ _ _ _
        refine TrQ.go tblOK (drawOK tblOK) [] (by kernel_rfl) (Le.sub (K' := [(3, vP 3), (7, vP 1001), (12, vP 5001)]) (B' := bgC2 L nm false gr rm ds ((d.im.t.length * 2 ^ 1 : Nat) : Int) gr (bzAll ((d.im.t.length * 2 ^ 1 : Nat) : Int) gr ds ds.length)) ⟨rfl, rfl, rfl, trivial⟩ ⟨rfl, rfl, rfl, rfl, rfl, rfl, rfl, trivial⟩) ?_
        by_cases hr : rm < 0
        · refine ⟨_, _, _, _, pubegin_no_bits hC hd rm hr _ _ _, ⟨rfl, rfl, rfl, rfl, rfl, rfl, trivial⟩, rfl, ?_⟩
          refine ⟨fun h => absurd h (by decide), fun _ => ?_⟩
          exact ⟨⟨⟨[], false, []⟩, fun h => by cases h⟩, _, _, _, Le.refl _ _, rfl, ⟨trivial, trivial, rfl, trivial⟩, trivial, rfl⟩
        · refine ⟨_, _, _, _, pubegin_bits hC hd rm (by omega) gr (bzAll _ gr ds ds.length) hg.2.1, ⟨rfl, rfl, rfl, rfl, rfl, rfl, trivial⟩, rfl, ?_⟩
          refine ⟨fun _ => ?_, fun h => absurd h (by decide)⟩
          exact ⟨⟨⟨L, true, puL (bzIs gr (bzAll ((d.im.t.length * 2 ^ 1 : Nat) : Int) gr ds ds.length)) 1 (d.im.t.length * 2 ^ 1)⟩, fun _ => ⟨hC, ⟨d, hd⟩, by show szOf L nm ≤ 12; omega, fun k hk => by have := puL_lt (bzIs gr (bzAll ((d.im.t.length * 2 ^ 1 : Nat) : Int) gr ds ds.length)) 1 d.im.t.length _ (Nat.le_refl _) k hk; show k < szOf L nm; omega, puL_nodup _ _ _, by omega, fun h => by cases h⟩⟩, _, _, _, Le.refl _ _, rfl, ⟨rfl, rfl, rfl, trivial⟩, ⟨rfl, rfl, rfl, rfl, hcl, rfl, rfl, trivial⟩, rfl⟩
/-! Pushes: Before. -/
theorem pubefore_over (bits room : Int) (L : List Dsk) (nm : List UInt8) (n rm : Int) (l : List Nat) (g : List (Nat × List UInt8)) (done : Bool) (a long : Int) : Fn Tryz.prog 12 [vP 2001, vI a, vI long] (puB bits room L nm n rm l g true done) [] (vI 0) (puB bits room L nm n rm l g true done) := by
  refine Fn.of tblOK [] _ _ _ _ _ Tryz.func12 rfl rfl (by kernel_rfl) (by kernel_rfl) rfl (drawOK tblOK) rfl ?_
  refine ⟨fun _ => ?_, fun h => absurd h (by decide)⟩
  exact ⟨_, _, _, Le.refl _ _, rfl, rfl, ⟨rfl, rfl, rfl, rfl, rfl, rfl, rfl, trivial⟩, rfl⟩
/-- The keys, rising. -/
def srtN (l : List Nat) : List Nat := (sortI (l.map fun k : Nat => (k : Int))).map Int.toNat
theorem srtN_eq (l : List Nat) : sortI (mkeysI (esL l)) = (srtN l).map fun k : Nat => (k : Int) := by
  unfold srtN
  rw [mkeys_esL, List.map_map]
  conv => lhs; rw [← List.map_id (sortI (l.map fun k : Nat => (k : Int)))]
  refine List.map_congr_left fun x hx => ?_
  obtain ⟨k, _, rfl⟩ := List.mem_map.1 ((sortI_perm _).mem_iff.1 hx)
  rfl
theorem srtN_perm (l : List Nat) : (srtN l).Perm l := by
  have h := (sortI_perm (l.map fun k : Nat => (k : Int))).map Int.toNat
  rw [List.map_map] at h
  have e : l.map (Int.toNat ∘ fun k : Nat => (k : Int)) = l := by
    conv => rhs; rw [← List.map_id l]
    exact List.map_congr_left fun x _ => rfl
  rw [e] at h
  exact h
structure BY where
  e : Int
  l : List Nat
  g : List (Nat × List UInt8)
  over : Bool
def pubf (bits : Nat) (L : List Dsk) (nm : List UInt8) (rm a long : Int) : List Nat → List Nat → List (Nat × List UInt8) → BY
  | [], l, g => ⟨0, l, g, false⟩
  | k :: ks, l, g => if ((k * 2 ^ bits + 2 ^ bits : Nat) : Int) ≤ a ∨ a ≤ ((k * 2 ^ bits : Nat) : Int) - long then pubf bits L nm rm a long ks l g else if (pucp bits L nm rm l g k).e = 0 then pubf bits L nm rm a long ks (pucp bits L nm rm l g k).l (pucp bits L nm rm l g k).g else ⟨(pucp bits L nm rm l g k).e, (pucp bits L nm rm l g k).l, (pucp bits L nm rm l g k).g, (pucp bits L nm rm l g k).over⟩
theorem pucp_ok {bits : Nat} {L : List Dsk} {nm : List UInt8} {rm : Int} {l : List Nat} {g : List (Nat × List UInt8)} {k : Nat} (he : (pucp bits L nm rm l g k).e = 0) : (pucp bits L nm rm l g k).over = false ∧ (pucp bits L nm rm l g k).g = g ++ [(k, clC bits L nm (k : Int))] := by
  unfold pucp at he ⊢
  split at he
  · exact absurd he (show ¬ (171 : Int) = 0 by decide)
  · rename_i c
    rw [if_neg c]
    exact ⟨rfl, rfl⟩
@[reducible] def bfK (a long : Int) (b : Nat) (ks : List Int) (i : Nat) : KL := [(0, vP 2001), (1, vI a), (2, vI long), (7, vBnd 39 b), (27, vL uI ks), (28, vI (ks.length : Nat)), (29, vI (i : Nat))]
set_option maxHeartbeats 1000000 in
theorem pubefore_fn {bits room : Nat} {L : List Dsk} (h : CS bits room L) (nm : List UInt8) (n rm : Int) (l : List Nat) (g : List (Nat × List UInt8)) (done : Bool) (a long : Int) (h1 : 1 ≤ long) (h2 : long ≤ 9223372036854775807) (hl : ∀ k, k ∈ l → k ≤ 256) (hl2 : l.length ≤ 256) (hn : l.Nodup) (hg : ∀ k, k ∈ l → k ∉ g.map Prod.fst) :
    Fn Tryz.prog 12 [vP 2001, vI a, vI long] (puB bits room L nm n rm l g false done) [] (vI (pubf bits L nm rm a long (srtN l) l g).e) (puB bits room L nm n rm (pubf bits L nm rm a long (srtN l) l g).l (pubf bits L nm rm a long (srtN l) l g).g (pubf bits L nm rm a long (srtN l) l g).over done) := by
  have hso := sortedI_fn (esL l) (esL_nodup hn) (esL_wf fun k hk => by have := hl k hk; omega) (by rw [esL_len]; omega)
  rw [srtN_eq] at hso
  have hp := pow_le8 h.b3
  have hb3 := h.b3
  have hsl : (srtN l).length = l.length := (srtN_perm l).length_eq
  have hsm : ∀ k, k ∈ srtN l → k ≤ 256 ∧ k ∉ g.map Prod.fst := fun k hk => ⟨hl k ((srtN_perm l).mem_iff.1 hk), hg k ((srtN_perm l).mem_iff.1 hk)⟩
  have hsn : (srtN l).Nodup := (srtN_perm l).nodup_iff.2 hn
  generalize srtN l = sr at *
  generalize hR : pubf bits L nm rm a long sr l g = R at *
  refine Fn.of tblOK [3,4,9] _ _ _ _ _ Tryz.func12 rfl rfl (by kernel_rfl) (by kernel_rfl) rfl (drawOK tblOK) rfl ?_
  refine ⟨fun h => absurd h (by decide), fun _ => ?_⟩
  refine ⟨fun h => absurd (of_decide_eq_true h) (by omega), fun _ => ?_⟩
  show TrQ _ _ _ _ _ _ _
  refine TrQ.leX (LeX.mark 2001 9001 rfl (by decide)) fun b => ?_
  refine TrQ.go tblOK (drawOK tblOK) [4,9] (by kernel_rfl) (Le.sub (K' := [(0, vP 2001), (1, vI a), (2, vI long)]) (B' := puM bits room L nm n rm l g false done b) ⟨rfl, rfl, rfl, trivial⟩ ⟨rfl, rfl, rfl, rfl, rfl, rfl, rfl, rfl, trivial⟩) ?_
  refine ⟨_, _, fun N => opOK_bind (m := 9001) (b := b) rfl rfl rfl N, rfl, ?_⟩
  show TrQ _ _ _ _ _ _ _
  refine TrQ.go tblOK (drawOK tblOK) [9] (by kernel_rfl) (Le.sub (K' := [(0, vP 2001), (1, vI a), (2, vI long), (7, vBnd 39 b)]) (B' := puM bits room L nm n rm l g false done b) ⟨rfl, rfl, rfl, rfl, trivial⟩ ⟨rfl, rfl, rfl, rfl, rfl, rfl, rfl, rfl, trivial⟩) ?_
  refine ⟨_, _, _, _, Fn.ren [(1001, 2002), (2001, 9101)] (mapsKeysI_fn (esL l)), ⟨rfl, trivial⟩, rfl, ?_⟩
  refine ⟨_, _, _, _, Fn.ren [(1001, 2002), (2001, 9101)] hso, ⟨rfl, rfl, trivial⟩, rfl, ?_⟩
  show TrQ _ _ _ _ _ _ _
  refine TrQ.loop tblOK (drawOK tblOK) [9] (by kernel_rfl) (X := Nat × List Nat × List (Nat × List UInt8)) (fun x => bfK a long b (sr.map fun k : Nat => (k : Int)) x.1) (fun x => puM bits room L nm n rm x.2.1 x.2.2 false done b) (fun x => x.1 ≤ sr.length ∧ pubf bits L nm rm a long (sr.drop x.1) x.2.1 x.2.2 = R ∧ ∀ k, k ∈ sr.drop x.1 → k ∉ x.2.2.map Prod.fst) (fun x => sr.length - x.1) (0, l, g) ⟨Nat.zero_le _, hR, fun k hk => (hsm k hk).2⟩ ?_ ?_
  · exact Le.sub ⟨rfl, rfl, rfl, rfl, rfl, rfl, rfl, trivial⟩ ⟨rfl, rfl, rfl, rfl, rfl, rfl, rfl, rfl, trivial⟩
  rintro ⟨i, l2, g2⟩ ⟨hi, hr, hk⟩
  have hi : i ≤ sr.length := hi
  have hr : pubf bits L nm rm a long (sr.drop i) l2 g2 = R := hr
  have hk : ∀ k, k ∈ sr.drop i → k ∉ g2.map Prod.fst := hk
  refine ⟨fun hc => ?_, fun hc => ?_⟩
  · have hc : decide ((i : Int) < (((sr.map fun k : Nat => (k : Int)).length : Nat) : Int)) = true := hc
    have hi1 : i < sr.length := by have := of_decide_eq_true hc; rw [List.length_map] at this; omega
    have hdrop : sr.drop i = sr[i] :: sr.drop (i + 1) := List.drop_eq_getElem_cons hi1
    have hget : lget (α := El uI) (sr.map fun k : Nat => (k : Int)) i = some ((sr[i] : Nat) : Int) := by
      show (sr.map fun k : Nat => (k : Int))[i]? = _
      rw [List.getElem?_map, List.getElem?_eq_getElem hi1]
      rfl
    have hnd := hsn.sublist (List.drop_sublist i sr)
    rw [hdrop] at hr hk hnd
    have hnk := (List.nodup_cons.1 hnd).1
    have hb := (hsm _ (List.getElem_mem hi1)).1
    generalize sr[i] = k at *
    have hcp := pucopyA_fn h nm n rm l2 g2 done k (hk k (List.mem_cons_self ..)) b
    have hok := pucp_ok (bits := bits) (L := L) (nm := nm) (rm := rm) (l := l2) (g := g2) (k := k)
    have hr : (if ((k * 2 ^ bits + 2 ^ bits : Nat) : Int) ≤ a ∨ a ≤ ((k * 2 ^ bits : Nat) : Int) - long then pubf bits L nm rm a long (sr.drop (i + 1)) l2 g2 else if (pucp bits L nm rm l2 g2 k).e = 0 then pubf bits L nm rm a long (sr.drop (i + 1)) (pucp bits L nm rm l2 g2 k).l (pucp bits L nm rm l2 g2 k).g else ⟨(pucp bits L nm rm l2 g2 k).e, (pucp bits L nm rm l2 g2 k).l, (pucp bits L nm rm l2 g2 k).g, (pucp bits L nm rm l2 g2 k).over⟩) = R := hr
    generalize pucp bits L nm rm l2 g2 k = r at *
    have mk : k * 2 ^ bits ≤ 256 * 8 := Nat.mul_le_mul hb hp.2
    have eP : (k : Int) * ((2 ^ ((bits : Nat) : Int).toNat : Nat) : Int) = ((k * 2 ^ bits : Nat) : Int) := by
      show (k : Int) * ((2 ^ bits : Nat) : Int) = _
      rw [Int.natCast_mul]
    have eQ : (1 : Int) * ((2 ^ ((bits : Nat) : Int).toNat : Nat) : Int) = ((2 ^ bits : Nat) : Int) := by rw [Int.one_mul]; rfl
    have q1 : (0 : Int) ≤ (k : Int) ∧ (0 : Int) ≤ ((bits : Nat) : Int) ∧ ((bits : Nat) : Int) ≤ 64 := by omega
    have q2 : (-9223372036854775808 : Int) ≤ (k : Int) * ((2 ^ ((bits : Nat) : Int).toNat : Nat) : Int) ∧ (k : Int) * ((2 ^ ((bits : Nat) : Int).toNat : Nat) : Int) ≤ 9223372036854775807 := by rw [eP]; omega
    have n1 : (0 : Int) ≤ (1 : Int) ∧ (0 : Int) ≤ ((bits : Nat) : Int) ∧ ((bits : Nat) : Int) ≤ 64 := by omega
    have n2 : (-9223372036854775808 : Int) ≤ (1 : Int) * ((2 ^ ((bits : Nat) : Int).toNat : Nat) : Int) ∧ (1 : Int) * ((2 ^ ((bits : Nat) : Int).toNat : Nat) : Int) ≤ 9223372036854775807 := by rw [eQ]; omega
    have n3 : (-9223372036854775808 : Int) ≤ (k : Int) * ((2 ^ ((bits : Nat) : Int).toNat : Nat) : Int) + (1 : Int) * ((2 ^ ((bits : Nat) : Int).toNat : Nat) : Int) ∧ (k : Int) * ((2 ^ ((bits : Nat) : Int).toNat : Nat) : Int) + (1 : Int) * ((2 ^ ((bits : Nat) : Int).toNat : Nat) : Int) ≤ 9223372036854775807 := by rw [eP, eQ]; omega
    have n4 : (-9223372036854775808 : Int) ≤ (k : Int) * ((2 ^ ((bits : Nat) : Int).toNat : Nat) : Int) - long ∧ (k : Int) * ((2 ^ ((bits : Nat) : Int).toNat : Nat) : Int) - long ≤ 9223372036854775807 := by rw [eP]; omega
    refine ⟨by omega, _, hget, ?_⟩
    refine ⟨q1, q2, n1, n2, n3, ?_⟩
    refine ⟨fun c1 => ?_, fun c1 => ?_⟩
    · have c1 := of_decide_eq_true (show decide ((k : Int) * ((2 ^ ((bits : Nat) : Int).toNat : Nat) : Int) + (1 : Int) * ((2 ^ ((bits : Nat) : Int).toNat : Nat) : Int) ≤ a) = true from c1)
      rw [eP, eQ] at c1
      rw [if_pos (.inl (by omega))] at hr
      exact ⟨by omega, (i + 1, l2, g2), ⟨hi1, hr, fun q hq => hk q (List.mem_cons_of_mem _ hq)⟩, by show sr.length - (i + 1) < sr.length - i; omega, Le.sub ⟨rfl, rfl, rfl, rfl, rfl, rfl, rfl, trivial⟩ ⟨rfl, rfl, rfl, rfl, rfl, rfl, rfl, rfl, trivial⟩⟩
    have c1 := of_decide_eq_false (show decide ((k : Int) * ((2 ^ ((bits : Nat) : Int).toNat : Nat) : Int) + (1 : Int) * ((2 ^ ((bits : Nat) : Int).toNat : Nat) : Int) ≤ a) = false from c1)
    rw [eP, eQ] at c1
    refine ⟨n4, ?_⟩
    refine ⟨fun c2 => ?_, fun c2 => ?_⟩
    · have c2 := of_decide_eq_true (show decide (a ≤ (k : Int) * ((2 ^ ((bits : Nat) : Int).toNat : Nat) : Int) - long) = true from c2)
      rw [eP] at c2
      rw [if_pos (.inr c2)] at hr
      exact ⟨by omega, (i + 1, l2, g2), ⟨hi1, hr, fun q hq => hk q (List.mem_cons_of_mem _ hq)⟩, by show sr.length - (i + 1) < sr.length - i; omega, Le.sub ⟨rfl, rfl, rfl, rfl, rfl, rfl, rfl, trivial⟩ ⟨rfl, rfl, rfl, rfl, rfl, rfl, rfl, rfl, trivial⟩⟩
    have c2 := of_decide_eq_false (show decide (a ≤ (k : Int) * ((2 ^ ((bits : Nat) : Int).toNat : Nat) : Int) - long) = false from c2)
    rw [eP] at c2
    rw [if_neg (by rintro (e | e) <;> omega)] at hr
    show TrQ _ _ _ _ _ _ _
    refine TrQ.go tblOK (drawOK tblOK) [] (by kernel_rfl) (Le.sub (K' := [(0, vP 2001), (1, vI a), (2, vI long), (7, vBnd 39 b), (27, vL uI (sr.map fun k : Nat => (k : Int))), (28, vI ((sr.map fun k : Nat => (k : Int)).length : Nat)), (29, vI (i : Nat)), (9, vI (k : Nat))]) (B' := puM bits room L nm n rm l2 g2 false done b) ⟨rfl, rfl, rfl, rfl, rfl, rfl, rfl, rfl, trivial⟩ ⟨rfl, rfl, rfl, rfl, rfl, rfl, rfl, rfl, trivial⟩) ?_
    refine ⟨_, _, fun N => opOK_callB rfl rfl rfl rfl hcp (by exact ⟨rfl, rfl, rfl, rfl, rfl, rfl, rfl, rfl, trivial⟩) rfl N, rfl, ?_⟩
    refine ⟨fun he => ?_, fun he => ?_⟩
    · have he : (!decide (r.e = 0)) = true := he
      have he : ¬ r.e = 0 := by simpa using he
      rw [if_neg he] at hr
      subst hr
      exact ⟨_, _, _, Le.refl _ _, rfl, rfl, ⟨rfl, rfl, rfl, rfl, rfl, rfl, rfl, trivial⟩, rfl⟩
    · have he : (!decide (r.e = 0)) = false := he
      have he : r.e = 0 := by simpa using he
      obtain ⟨o1, o2⟩ := hok he
      rw [if_pos he] at hr
      exact ⟨by omega, (i + 1, r.l, r.g), ⟨hi1, hr, fun q hq hm => by
        rw [o2, List.map_append, List.mem_append] at hm
        rcases hm with hm | hm
        · exact hk q (List.mem_cons_of_mem _ hq) hm
        · have hm : q = k := by simpa using hm
          exact hnk (hm ▸ hq)⟩, by show sr.length - (i + 1) < sr.length - i; omega, Le.sub ⟨rfl, rfl, rfl, rfl, rfl, rfl, rfl, trivial⟩ ⟨rfl, rfl, rfl, rfl, congrArg (fun z => some (Ch.cells (puC nm bits n rm z done))) o1, rfl, rfl, rfl, trivial⟩⟩
  · have hc : decide ((i : Int) < (((sr.map fun k : Nat => (k : Int)).length : Nat) : Int)) = false := hc
    have hi1 : i = sr.length := by have := of_decide_eq_false hc; rw [List.length_map] at this; omega
    subst hi1
    rw [List.drop_length] at hr
    subst hr
    exact ⟨_, _, _, Le.refl _ _, rfl, rfl, ⟨rfl, rfl, rfl, rfl, rfl, rfl, rfl, trivial⟩, rfl⟩
/-! Pushes: a job is kept. -/
section
variable {bits room : Nat} {L : List Dsk} {nm : List UInt8} {rm : Int} {l : List Nat} {g : List (Nat × List UInt8)}
theorem clC_eq17 {d : Dsk} (hd : dk L nm = some d) {k : Nat} (hk : k < d.im.t.length) : clC bits L nm (k : Int) = cseen bits L nm (dpt L nm) k := by
  unfold clC
  rw [hd]
  simp only
  rw [if_pos ⟨by omega, by omega⟩]
  rfl
/-- A job is sound: what is left is of the disk, and what was copied too, no cluster of both. -/
structure PI (bits room : Nat) (L : List Dsk) (nm : List UInt8) (l : List Nat) (g : List (Nat × List UInt8)) : Prop where
  cs : CS bits room L
  kn : (dk L nm).isSome = true
  lt : ∀ k, k ∈ l → k < szOf L nm
  nd : l.Nodup
  gt : ∀ p, p ∈ g → p.1 < szOf L nm ∧ p.2.length = 16 * 2 ^ bits
  gn : (g.map Prod.fst).Nodup
  dj : ∀ k, k ∈ l → k ∉ g.map Prod.fst
theorem PI.sz (h : PI bits room L nm l g) : szOf L nm ≤ 256 := by
  obtain ⟨d, hd⟩ := Option.isSome_iff_exists.1 h.kn
  have := (h.cs.ims d (dk_get hd).1).1.tl
  unfold szOf
  rw [hd]
  exact this
theorem PI.ll (h : PI bits room L nm l g) : l.length ≤ 256 := Nat.le_trans (nodup_lt _ l h.nd h.lt) h.sz
theorem PI.gl (h : PI bits room L nm l g) : g.length ≤ 256 := by
  have := nodup_lt (szOf L nm) (g.map Prod.fst) h.gn fun x hx => by
    obtain ⟨p, hp, rfl⟩ := List.mem_map.1 hx
    exact (h.gt p hp).1
  rw [List.length_map] at this
  exact Nat.le_trans this h.sz
theorem PI.nil (h : PI bits room L nm l g) : PI bits room L nm [] g := ⟨h.cs, h.kn, fun k hk => (by cases hk), List.nodup_nil, h.gt, h.gn, fun k hk => (by cases hk)⟩
theorem PI.lm {L' : List Dsk} {t : List UInt8} (h : PI bits room L nm l g) (hl : Lm L t L') : PI bits room L' nm l g :=
  ⟨hl.cs h.cs, by rw [(hl.sz nm).2]; exact h.kn, fun k hk => by rw [(hl.sz nm).1]; exact h.lt k hk, h.nd, fun p hp => by rw [(hl.sz nm).1]; exact h.gt p hp, h.gn, h.dj⟩
theorem PI.cp (h : PI bits room L nm l g) (rm : Int) {k : Nat} (hk : k ∈ l) : PI bits room L nm (pucp bits L nm rm l g k).l (pucp bits L nm rm l g k).g := by
  unfold pucp
  split
  · exact h.nil
  · obtain ⟨d, hd⟩ := Option.isSome_iff_exists.1 h.kn
    have hs : szOf L nm = d.im.t.length := by unfold szOf; rw [hd]
    have hkl := h.lt k hk
    refine ⟨h.cs, h.kn, fun q hq => h.lt q (List.mem_of_mem_erase hq), h.nd.erase _, fun p hp => ?_, ?_, fun q hq hm => ?_⟩
    · have hp : p ∈ g ++ [(k, clC bits L nm (k : Int))] := hp
      rcases List.mem_append.1 hp with hp | hp
      · exact h.gt p hp
      · obtain rfl := List.mem_singleton.1 hp
        refine ⟨hkl, ?_⟩
        show (clC bits L nm (k : Int)).length = _
        rw [clC_eq17 hd (by omega), cseen_len h.cs.toChOK hd (h.cs.dep nm).1 k]
    · show ((g ++ [(k, clC bits L nm (k : Int))]).map Prod.fst).Nodup
      rw [List.map_append]
      refine List.nodup_append.2 ⟨h.gn, List.pairwise_singleton _ _, fun a ha b hb => ?_⟩
      have hb : b = k := by simpa using hb
      rintro rfl
      exact h.dj k hk (hb ▸ ha)
    · have hq : q ∈ l.erase k := hq
      have hm : q ∈ (g ++ [(k, clC bits L nm (k : Int))]).map Prod.fst := hm
      rw [List.map_append, List.mem_append] at hm
      rcases hm with hm | hm
      · exact h.dj q (List.mem_of_mem_erase hq) hm
      · have hm : q = k := by simpa using hm
        exact ((h.nd.mem_erase_iff).1 hq).1 hm
theorem PI.step (h : PI bits room L nm l g) (rm : Int) (over done : Bool) : PI bits room L nm (pustep bits L nm rm l g over done).l (pustep bits L nm rm l g over done).g := by
  unfold pustep
  split
  · exact h
  · split
    · exact h.nil
    · rename_i hne
      exact h.cp rm (mnN_spec hne).2.1
theorem PI.bf (rm a long : Int) : ∀ (ks l : List Nat) (g : List (Nat × List UInt8)), PI bits room L nm l g → (∀ k, k ∈ ks → k ∈ l) → ks.Nodup → PI bits room L nm (pubf bits L nm rm a long ks l g).l (pubf bits L nm rm a long ks l g).g
  | [], l, g, h, _, _ => h
  | k :: ks, l, g, h, hks, hn => by
    unfold pubf
    have hn := List.nodup_cons.1 hn
    split
    · exact PI.bf rm a long ks l g h (fun q hq => hks q (List.mem_cons_of_mem _ hq)) hn.2
    · have hk := h.cp rm (hks k (List.mem_cons_self ..))
      split
      · rename_i he
        refine PI.bf rm a long ks _ _ hk (fun q hq => ?_) hn.2
        have hql := hks q (List.mem_cons_of_mem _ hq)
        unfold pucp at he ⊢
        split
        · rename_i c
          rw [if_pos c] at he
          exact absurd he (show ¬ (171 : Int) = 0 by decide)
        · exact (h.nd.mem_erase_iff).2 ⟨fun e => hn.1 (e ▸ hq), hql⟩
      · exact hk
theorem PI.get (h : PI bits room L nm l g) : ∃ d, dk L nm = some d := Option.isSome_iff_exists.1 h.kn
theorem PI.stepFn (h : PI bits room L nm l g) (n rm : Int) (over done : Bool) : Fn Tryz.prog 16 [vP 2001] (puB bits room L nm n rm l g over done) [] (.tup [.one (.d (.bool (pustep bits L nm rm l g over done).dn)), vErr (pustep bits L nm rm l g over done).e])
    (puB bits room L nm n rm (pustep bits L nm rm l g over done).l (pustep bits L nm rm l g over done).g (pustep bits L nm rm l g over done).over (pustep bits L nm rm l g over done).done) :=
  pustep_fn h.cs nm n rm l g over done (fun k hk => by have := h.lt k hk; have := h.sz; omega) (by have := h.ll; omega) h.nd h.dj
/-- Before, whatever it is asked. -/
def pubfx (bits : Nat) (L : List Dsk) (nm : List UInt8) (rm a long : Int) (l : List Nat) (g : List (Nat × List UInt8)) (over : Bool) : BY := if over = true then ⟨0, l, g, true⟩ else if long < 1 then ⟨0, l, g, false⟩ else pubf bits L nm rm a long (srtN l) l g
theorem PI.bfx (h : PI bits room L nm l g) (rm a long : Int) (over : Bool) : PI bits room L nm (pubfx bits L nm rm a long l g over).l (pubfx bits L nm rm a long l g over).g := by
  unfold pubfx
  split
  · exact h
  · split
    · exact h
    · exact PI.bf rm a long _ l g h (fun k hk => (srtN_perm l).mem_iff.1 hk) ((srtN_perm l).nodup_iff.2 h.nd)
theorem pubefore_short (bits room : Int) (L : List Dsk) (nm : List UInt8) (n rm : Int) (l : List Nat) (g : List (Nat × List UInt8)) (done : Bool) (a long : Int) (h1 : long < 1) : Fn Tryz.prog 12 [vP 2001, vI a, vI long] (puB bits room L nm n rm l g false done) [] (vI 0) (puB bits room L nm n rm l g false done) := by
  refine Fn.of tblOK [] _ _ _ _ _ Tryz.func12 rfl rfl (by kernel_rfl) (by kernel_rfl) rfl (drawOK tblOK) rfl ?_
  refine ⟨fun h => absurd h (by decide), fun _ => ?_⟩
  refine ⟨fun _ => ?_, fun h => absurd (of_decide_eq_false h) (by omega)⟩
  exact ⟨_, _, _, Le.refl _ _, rfl, rfl, ⟨rfl, rfl, rfl, rfl, rfl, rfl, rfl, trivial⟩, rfl⟩
theorem PI.bfFn (h : PI bits room L nm l g) (n rm : Int) (over done : Bool) (a long : Int) (h2 : long ≤ 9223372036854775807) : Fn Tryz.prog 12 [vP 2001, vI a, vI long] (puB bits room L nm n rm l g over done) [] (vI (pubfx bits L nm rm a long l g over).e)
    (puB bits room L nm n rm (pubfx bits L nm rm a long l g over).l (pubfx bits L nm rm a long l g over).g (pubfx bits L nm rm a long l g over).over done) := by
  cases over with
  | true => exact pubefore_over bits room L nm n rm l g done a long
  | false =>
    by_cases h1 : long < 1
    · have e : pubfx bits L nm rm a long l g false = ⟨0, l, g, false⟩ := (if_neg (by decide)).trans (if_pos h1)
      rw [e]
      exact pubefore_short bits room L nm n rm l g done a long h1
    · have e : pubfx bits L nm rm a long l g false = pubf bits L nm rm a long (srtN l) l g := (if_neg (by decide)).trans (if_neg h1)
      rw [e]
      exact pubefore_fn h.cs nm n rm l g done a long (by omega) h2 (fun k hk => by have := h.lt k hk; have := h.sz; omega) h.ll h.nd h.dj
theorem PI.resFn (h : PI bits room L nm l g) (n rm : Int) (over : Bool) : Fn Tryz.prog 17 [vP 2001] (puB bits room L nm n rm l g over true) [] (.tup [.one (.d (.lst uPiec (pcsL g))), .one (.d (.int .i64 n)), .one (.d (.bool true))]) (puB bits room L nm n rm l g over true) :=
  pures_ok bits room L nm n rm l g over h.gn (fun p hp => by
    have h1 := h.gt p hp
    have h2 := h.sz
    have h3 := pow_le8 h.cs.b3
    exact ⟨by omega, by rw [h1.2]; omega⟩) (by have := h.gl; omega)
end
/-! Pushes: alive of law 17. -/
/-! ### independence, with short lists of who comes ahead -/
def uni : List Nat → List Nat → List Nat
  | [], r => r
  | x :: l, r => match r.contains x with
    | true => uni l r
    | false => uni l (x :: r)
theorem uni_mem {a : Nat} : ∀ {l r : List Nat}, a ∈ uni l r → a ∈ l ∨ a ∈ r
  | [], r, h => .inr h
  | x :: l, r, h => by
    unfold uni at h
    split at h
    · rcases uni_mem h with h | h
      · exact .inl (List.mem_cons_of_mem _ h)
      · exact .inr h
    · rcases uni_mem h with h | h
      · exact .inl (List.mem_cons_of_mem _ h)
      · rcases List.mem_cons.1 h with rfl | h
        · exact .inl (List.mem_cons_self ..)
        · exact .inr h
def ancs1 (acc : List (List Nat)) : List Nat → List Nat
  | [] => []
  | d :: l => uni (d :: acc.getD d []) (ancs1 acc l)
theorem ancs1_mem {acc : List (List Nat)} {a : Nat} : ∀ {l : List Nat}, a ∈ ancs1 acc l → a ∈ l ∨ ∃ d ∈ l, a ∈ acc.getD d []
  | [], h => by cases h
  | d :: l, h => by
    rcases uni_mem h with h | h
    · rcases List.mem_cons.1 h with rfl | h
      · exact .inl (List.mem_cons_self ..)
      · exact .inr ⟨d, List.mem_cons_self .., h⟩
    · rcases ancs1_mem h with h | ⟨e, he, h⟩
      · exact .inl (List.mem_cons_of_mem _ h)
      · exact .inr ⟨e, List.mem_cons_of_mem _ he, h⟩
def ancsU : List Oper → List (List Nat) → List (List Nat)
  | [], acc => acc
  | o :: l, acc => ancsU l (acc ++ [ancs1 acc (depsOf o)])
theorem ancsU_sub : ∀ (l : List Oper) (acc acc' : List (List Nat)), acc.length = acc'.length → (∀ j a, a ∈ acc.getD j [] → a ∈ acc'.getD j []) → ∀ j a, a ∈ (ancsU l acc).getD j [] → a ∈ (ancs l acc').getD j []
  | [], acc, acc', _, h => h
  | o :: l, acc, acc', hl, h => by
    unfold ancsU ancs
    refine ancsU_sub l _ _ (by simp [hl]) ?_
    intro j a ha
    rw [List.getD_eq_getElem?_getD] at ha ⊢
    rcases Nat.lt_trichotomy j acc.length with hlt | heq | hgt
    · rw [List.getElem?_append_left hlt, ← List.getD_eq_getElem?_getD] at ha
      rw [List.getElem?_append_left (hl ▸ hlt), ← List.getD_eq_getElem?_getD]
      exact h j a ha
    · subst heq
      rw [List.getElem?_append_right (Nat.le_refl _)] at ha
      rw [List.getElem?_append_right (Nat.le_of_eq hl.symm)]
      simp only [Nat.sub_self, List.getElem?_cons_zero, Option.getD_some] at ha
      simp only [hl, Nat.sub_self, List.getElem?_cons_zero, Option.getD_some, List.mem_append, List.mem_flatMap]
      rcases ancs1_mem ha with ha | ⟨d, hd, ha⟩
      · exact .inl ha
      · exact .inr ⟨d, hd, h d a ha⟩
    · rw [List.getElem?_eq_none (by simp; omega)] at ha
      simp at ha
theorem pairs_sub {all : List Oper} {an an' : List (List Nat)} (h : ∀ j a, a ∈ an.getD j [] → a ∈ an'.getD j []) : ∀ l : List (Oper × Ent × Nat), pairsOK all an l = true → pairsOK all an' l = true
  | [], _ => rfl
  | (o, n, i) :: l, hp => by
    simp only [pairsOK, Bool.and_eq_true] at hp ⊢
    refine ⟨List.all_eq_true.2 fun x hx => ?_, pairs_sub h l hp.2⟩
    have := List.all_eq_true.1 hp.1 x hx
    obtain ⟨p, m, j⟩ := x
    simp only [Bool.or_eq_true, Bool.and_eq_true, List.contains_iff_mem] at this ⊢
    exact this.imp (fun g => ⟨h _ _ g.1, g.2⟩) id
def indepU (K : KL) (B : BL) (ops : List Oper) (log : List Ent) : Bool :=
  let es := log.reverse
  (ops.zipIdx.all fun (o, i) => (depsOf o).all fun d => Nat.blt d i) && (es.all fun n => n.e.nw.all fun c => noK c K && noB c B) && pairsOK ops (ancsU ops []) ((ops.zip es).zipIdx.map fun ((o, n), i) => (o, n, i))
theorem indep_of {K : KL} {B : BL} {ops : List Oper} {log : List Ent} (h : indepU K B ops log = true) : indep K B ops log = true := by
  simp only [indepU, Bool.and_eq_true] at h
  simp only [indep, Bool.and_eq_true]
  exact ⟨h.1, pairs_sub (ancsU_sub ops [] [] rfl fun _ _ h => h) _ h.2⟩
theorem sortI_pw (l : List Int) : (sortI l).Pairwise fun a b => leZ a b = true :=
  List.pairwise_mergeSort (le := leZ) (fun a b c h1 h2 => decide_eq_true (Int.le_trans (of_decide_eq_true h1) (of_decide_eq_true h2))) (fun a b => by
    rcases Int.le_total a b with h | h
    · rw [show leZ a b = true from decide_eq_true h]; rfl
    · rw [show leZ b a = true from decide_eq_true h]; exact Bool.or_true _) l
theorem sortI_eq {l m : List Int} (hp : m.Perm l) (hs : m.Pairwise fun a b => leZ a b = true) : sortI l = m :=
  List.Perm.eq_of_pairwise (fun a b _ _ h1 h2 => Int.le_antisymm (of_decide_eq_true h1) (of_decide_eq_true h2)) (sortI_pw l) hs ((sortI_perm l).trans hp.symm)
def akA : List UInt8 := 120 :: List.replicate 15 0
def akB : List UInt8 := 121 :: List.replicate 15 0
def akP : List UInt8 := akA ++ akB
def pk1 (p : Nat × Nat) : List Dsk := (adC 0 20 [] [97] 2 [] p).L
def pk2 (p : Nat × Nat) : List Dsk := (wrC 0 (pk1 p) [97] 0 akP).L
def pk3 (p : Nat × Nat) : List Dsk := (wrC 0 (pk2 p) [97] 1 (List.replicate 16 0)).L
theorem pk_d (p : Nat × Nat) : (dk (pk2 p) [97]).isSome = true := by kernel_rfl
theorem pk_d3 (p : Nat × Nat) : (dk (pk3 p) [97]).isSome = true := by kernel_rfl
theorem pk_z (p : Nat × Nat) : szOf (pk2 p) [97] = 2 := by kernel_rfl
theorem pk_z3 (p : Nat × Nat) : szOf (pk3 p) [97] = 2 := by kernel_rfl
theorem pk_c1 (p : Nat × Nat) : clC 0 (pk2 p) [97] ((1 : Nat) : Int) = akB := by kernel_rfl
theorem pk_c0 (p : Nat × Nat) : clC 0 (pk3 p) [97] ((0 : Nat) : Int) = akA := by kernel_rfl
theorem pk_bf (p : Nat × Nat) : pubf 0 (pk2 p) [97] 9 1 1 [0, 1] [0, 1] [] = ⟨0, [0], [(1, clC 0 (pk2 p) [97] ((1 : Nat) : Int))], false⟩ := by kernel_rfl
theorem pk_s1 (p : Nat × Nat) : pustep 0 (pk3 p) [97] 9 [0] [(1, akB)] false false = ⟨false, 0, [], [(1, akB), (0, clC 0 (pk3 p) [97] ((0 : Nat) : Int))], false, false⟩ := by kernel_rfl
theorem pk_s2 (p : Nat × Nat) : pustep 0 (pk3 p) [97] 9 [] [(1, akB), (0, akA)] false false = ⟨true, 0, [], [(1, akB), (0, akA)], true, true⟩ := by kernel_rfl
theorem pk_srt : srtN [0, 1] = [0, 1] := by
  show (sortI [(0 : Int), 1]).map Int.toNat = _
  rw [sortI_eq (m := [0, 1]) (List.Perm.refl _) (by decide)]
  rfl
theorem pk_pcs : pcsL [(1, akB), (0, akA)] = [((0 : Int), akA), ((1 : Int), akB)] := by
  unfold pcsL
  rw [show mkeysI (gL [(1, akB), (0, akA)]) = [1, 0] from rfl, sortI_eq (m := [0, 1]) (List.Perm.swap _ _ _) (by decide)]
  rfl
theorem pk_l : puL (fun _ => true) 0 (2 * 2 ^ 0) = [0, 1] := by kernel_rfl
@[reducible] def pkK : KL := [(1, vP 1001), (3, vL .u8 akP)]
@[reducible] def pkJ (L : List Dsk) (l : List Nat) (g : List (Nat × List UInt8)) (over done : Bool) : BL := puB ((0 : Nat) : Int) ((20 : Nat) : Int) L [97] ((2 : Nat) : Int) 9 l g over done
set_option maxHeartbeats 1000000 in
theorem alive17_fn : Fn Tryz.prog 10 [] [] [] (vB true) [] := by
  have c0 : CS 0 20 [] := CS.nil (by decide) (by decide)
  refine Fn.of tblOK [6,7,8,11,12,13,14,15,16] _ _ _ _ _ Tryz.func10 rfl rfl (by kernel_rfl) (by kernel_rfl) rfl (drawOK tblOK) rfl ?_
  refine ⟨_, _, _, _, chnew_ok 0 20 (by decide) (by decide), trivial, rfl, ?_⟩
  refine ⟨fun h => absurd h (by decide), fun _ => ?_⟩
  refine ⟨⟨rfl, by decide, by decide⟩, rfl, ?_⟩
  refine ⟨⟨by decide, by decide⟩, ⟨⟨by decide, by decide⟩, by decide⟩, ?_⟩
  refine ⟨⟨by decide, by decide⟩, ⟨⟨by decide, by decide⟩, by decide⟩, ?_⟩
  show TrQ _ _ _ _ _ _ _
  refine TrQ.le (Le.frz 24 rfl) ?_
  refine TrQ.le (Le.sub (K' := pkK) (B' := chB 0 20 []) ⟨rfl, rfl, trivial⟩ ⟨rfl, rfl, rfl, rfl, trivial⟩) ?_
  refine TrQ.regionX tblOK (by kernel_rfl) ?_
  refine ⟨_, _, _, fun g => _, fun g => _, chadd_fn c0 [97] 2 [] (by decide), ⟨rfl, rfl, rfl, rfl, trivial⟩, rfl, fun _ => rfl, fun p => ?_⟩
  obtain ⟨p, c1⟩ := p
  have c1 : CS 0 20 (pk1 p) := c1
  have c2 : CS 0 20 (pk2 p) := wrC_cs c1 _ _ _
  have c3 : CS 0 20 (pk3 p) := wrC_cs c2 _ _ _
  obtain ⟨d, hd⟩ := Option.isSome_iff_exists.1 (pk_d p)
  have hz2 := pk_z p
  have hz3 := pk_z3 p
  have hdl : d.im.t.length = 2 := by unfold szOf at hz2; rw [hd] at hz2; exact hz2
  have hw := chwrite_fn c1 [97] 0 akP (by decide)
  rw [show (wrC 0 (pk1 p) [97] 0 akP).L = pk2 p from rfl] at hw
  generalize (wrC 0 (pk1 p) [97] 0 akP).e = w1 at hw
  have hb := pubegin_nil c2 hd 9 (by decide)
  rw [hdl, pk_l] at hb
  have hi1 : PI 0 20 (pk2 p) [97] [0, 1] [] := ⟨c2, pk_d p, fun k hk => by rw [hz2]; simp at hk; omega, by decide, fun p hp => (by cases hp), List.nodup_nil, fun k hk hm => (by cases hm)⟩
  have hbf := hi1.bfFn ((2 : Nat) : Int) 9 false false 1 1 (by decide)
  have eb : pubfx 0 (pk2 p) [97] 9 1 1 [0, 1] [] false = ⟨0, [0], [(1, akB)], false⟩ := by
    show pubf 0 (pk2 p) [97] 9 1 1 (srtN [0, 1]) [0, 1] [] = _
    rw [pk_srt, pk_bf, pk_c1]
  have hi2 := hi1.bfx 9 1 1 false
  rw [eb] at hbf hi2
  have hw2 := Fn.own (args := [vP 1001, vS [97], vI 1, .c (.one (.own 48))]) (d := 48) (e := 5) (u := .u8) (xs := (List.replicate 16 0 : List UInt8)) (chwrite_fn c2 [97] 1 (List.replicate 16 0) (by decide)) rfl
  rw [show (wrC 0 (pk2 p) [97] 1 (List.replicate 16 0)).L = pk3 p from rfl] at hw2
  generalize (wrC 0 (pk2 p) [97] 1 (List.replicate 16 0)).e = w2 at hw2
  have hi3 : PI 0 20 (pk3 p) [97] [0] [(1, akB)] := ⟨c3, pk_d3 p, fun k hk => by rw [hz3]; simp at hk; omega, by decide, fun p hp => by rw [hz3]; simp at hp; subst hp; decide, by decide, fun k hk => by simp at hk; subst hk; decide⟩
  have hs1 := hi3.stepFn ((2 : Nat) : Int) 9 false false
  have hi4 := hi3.step 9 false false
  rw [pk_s1, pk_c0] at hs1 hi4
  have hi4 : PI 0 20 (pk3 p) [97] [] [(1, akB), (0, akA)] := hi4
  have hs2 := hi4.stepFn ((2 : Nat) : Int) 9 false false
  rw [pk_s2] at hs2
  have hr := hi4.resFn ((2 : Nat) : Int) 9 true
  rw [pk_pcs] at hr
  clear hi1 hi2 hi3 hi4 eb hdl hz2 hz3
  show TrQ _ _ _ _ _ _ _
  refine TrQ.le (Le.sub (K' := pkK) (B' := chB ((0 : Nat) : Int) ((20 : Nat) : Int) (pk1 p)) ⟨rfl, rfl, trivial⟩ ⟨rfl, rfl, rfl, rfl, trivial⟩) ?_
  generalize pk1 p = L1 at *
  generalize pk2 p = L2 at *
  generalize pk3 p = L3 at *
  refine TrQ.go tblOK (drawOK tblOK) [8,11,12,13,14,15,16] (by kernel_rfl) (Le.refl _ _) ?_
  refine ⟨_, _, _, _, hw, ⟨rfl, rfl, rfl, rfl, trivial⟩, rfl, ?_⟩
  show TrQ _ _ _ _ _ _ _
  refine TrQ.go tblOK (drawOK tblOK) [11,12,13,14,15,16] (by kernel_rfl) (Le.sub (K' := pkK) (B' := chB ((0 : Nat) : Int) ((20 : Nat) : Int) L2) ⟨rfl, rfl, trivial⟩ ⟨rfl, rfl, rfl, rfl, trivial⟩) ?_
  refine ⟨_, _, _, _, hb, ⟨rfl, rfl, rfl, rfl, trivial⟩, rfl, ?_⟩
  refine ⟨fun h => absurd h (by decide), fun _ => ?_⟩
  show TrQ _ _ _ _ _ _ _
  refine TrQ.go tblOK (drawOK tblOK) [12,13,14,15,16] (by kernel_rfl) (Le.sub (K' := [(1, vP 1001), (3, vL .u8 akP), (4, vP 2001)]) (B' := pkJ L2 [0, 1] [] false false) ⟨rfl, rfl, rfl, trivial⟩ ⟨rfl, rfl, rfl, rfl, rfl, rfl, rfl, trivial⟩) ?_
  refine ⟨_, _, _, _, hbf, ⟨rfl, rfl, rfl, rfl, rfl, rfl, rfl, trivial⟩, rfl, ?_⟩
  show TrQ _ _ _ _ _ _ _
  refine TrQ.go tblOK (drawOK tblOK) [13,14,15,16] (by kernel_rfl) (Le.sub (K' := [(1, vP 1001), (3, vL .u8 akP), (4, vP 2001), (6, vI 0)]) (B' := pkJ L2 [0] [(1, akB)] false false) ⟨rfl, rfl, rfl, rfl, trivial⟩ ⟨rfl, rfl, rfl, rfl, rfl, rfl, rfl, trivial⟩) ?_
  refine ⟨⟨rfl, by decide, by decide⟩, rfl, ?_⟩
  refine ⟨_, _, _, _, hw2, ⟨rfl, rfl, rfl, rfl, rfl, trivial⟩, rfl, ?_⟩
  show TrQ _ _ _ _ _ _ _
  refine TrQ.go tblOK (drawOK tblOK) [14,15,16] (by kernel_rfl) (Le.sub (K' := [(1, vP 1001), (3, vL .u8 akP), (4, vP 2001), (6, vI 0)]) (B' := pkJ L3 [0] [(1, akB)] false false) ⟨rfl, rfl, rfl, rfl, trivial⟩ ⟨rfl, rfl, rfl, rfl, rfl, rfl, rfl, trivial⟩) ?_
  refine ⟨_, _, _, _, hs1, ⟨rfl, rfl, rfl, rfl, rfl, rfl, rfl, trivial⟩, rfl, ?_⟩
  show TrQ _ _ _ _ _ _ _
  refine TrQ.go tblOK (drawOK tblOK) [15,16] (by kernel_rfl) (Le.sub (K' := [(1, vP 1001), (3, vL .u8 akP), (4, vP 2001), (6, vI 0), (7, vB false), (8, vI 0)]) (B' := pkJ L3 [] [(1, akB), (0, akA)] false false) ⟨rfl, rfl, rfl, rfl, rfl, rfl, trivial⟩ ⟨rfl, rfl, rfl, rfl, rfl, rfl, rfl, trivial⟩) ?_
  refine ⟨_, _, _, _, hs2, ⟨rfl, rfl, rfl, rfl, rfl, rfl, rfl, trivial⟩, rfl, ?_⟩
  show TrQ _ _ _ _ _ _ _
  refine TrQ.go tblOK (drawOK tblOK) [16] (by kernel_rfl) (Le.sub (K' := [(1, vP 1001), (3, vL .u8 akP), (4, vP 2001), (6, vI 0), (7, vB false), (8, vI 0), (9, vB true), (10, vI 0)]) (B' := pkJ L3 [] [(1, akB), (0, akA)] true true) ⟨rfl, rfl, rfl, rfl, rfl, rfl, rfl, rfl, trivial⟩ ⟨rfl, rfl, rfl, rfl, rfl, rfl, rfl, trivial⟩) ?_
  refine ⟨_, _, _, _, hr, ⟨rfl, rfl, rfl, rfl, rfl, rfl, rfl, trivial⟩, rfl, ?_⟩
  show TrQ _ _ _ _ _ _ _
  refine TrQ.go tblOK (drawOK tblOK) [] (by kernel_rfl) (Le.sub (K' := [(3, vL .u8 akP), (4, vP 2001), (6, vI 0), (7, vB false), (8, vI 0), (9, vB true), (10, vI 0), (11, vL uPiec [((0 : Int), akA), ((1 : Int), akB)]), (12, vI 2), (13, vB true)]) (B' := pkJ L3 [] [(1, akB), (0, akA)] true true) ⟨rfl, rfl, rfl, rfl, rfl, rfl, rfl, rfl, rfl, rfl, trivial⟩ ⟨rfl, rfl, rfl, rfl, rfl, rfl, rfl, trivial⟩) ?_
  iterate 8 refine ⟨fun _ => ?_, fun h => absurd h (by decide)⟩
  refine ⟨by decide, ((1 : Int), akB), rfl, ?_⟩
  refine ⟨fun _ => ?_, fun h => absurd h (by decide)⟩
  refine ⟨by decide, ((1 : Int), akB), rfl, ?_⟩
  refine ⟨⟨by decide, by decide⟩, ?_⟩
  refine ⟨fun _ => ?_, fun h => absurd h (by decide)⟩
  refine ⟨_, _, _, _, pudone_fn _ _ L3 [97] _ _ [] [(1, akB), (0, akA)] true true, ⟨rfl, rfl, rfl, rfl, rfl, rfl, rfl, trivial⟩, rfl, ?_⟩
  refine ⟨indep_of (by kernel_rfl), ?_⟩
  exact ⟨_, _, _, Le.refl _ _, rfl, rfl, trivial, rfl⟩
theorem PI.beg {nm : List UInt8} {al : Bool} {rm : Int} {x : BG} (h : BGok nm al rm x) : PI 1 40 x.L nm x.l [] :=
  ⟨h.cs, by obtain ⟨d, hd⟩ := h.kn; rw [hd]; rfl, h.lt, h.nd, fun p hp => (by cases hp), List.nodup_nil, fun k _ hm => (by cases hm)⟩
theorem bg_out {nm : List UInt8} {al : Bool} {rm : Int} (g : BGX nm al rm) : outOK [] [1001, 1002, 1003, 1004, 2001, 2002, 2003] (bgB nm rm g.1 g.1.ok) = true := by
  obtain ⟨⟨L, ok, l⟩, h⟩ := g
  cases ok <;> rfl
@[reducible] def psB (L : List Dsk) (nm : List UInt8) (n rm : Int) (l : List Nat) (g : List (Nat × List UInt8)) (over done : Bool) : BL := puB ((1 : Nat) : Int) ((40 : Nat) : Int) L nm n rm l g over done
end Go.Proofs.YtbcngglcaeehbaaGreat
