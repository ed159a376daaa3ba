/-
  MergeStops: a job that is cancelled does nothing more.
-/
import Derived.Test.YtaciecbbiplgiaaGreatLu15
set_option linter.unusedVariables false
set_option linter.unusedSimpArgs false
set_option maxRecDepth 10000
namespace Go.Proofs.YtaciecbbiplgiaaGreat
open Go.RowKit Go.Proofs
@[reducible] def msK (l : List Cop) (top : List UInt8) (st : Int) (k : Nat) : KL := [(0, vL uC l), (1, vS top), (2, vI st), (7, vP 1001), (51, vL uC l), (52, vI (l.length : Nat)), (53, vI (k : Nat))]
@[reducible] def msK2 (top base : List UInt8) (st : Int) (k : Nat) : KL := [(1, vS top), (7, vP 1001), (11, vP 2001), (13, vS base), (84, vI st), (85, vI (k : Nat))]
set_option maxHeartbeats 1000000 in
theorem mergeStops_fn (l : List Cop) (top : List UInt8) (st : Int) (hl : l.length ≤ 1073741824) (ht : (l.map cTot).sum ≤ 1073741824) : Fn Tryz.prog 6 [vL uC l, vS top, vI st] [] [] (vB true) [] := by
  have hfn := Fn.arg (args := [vL uC l, .c (.one .nils)]) (few15_fn l [] hl ht (Nat.zero_le _) (Nat.zero_le _)) ⟨rfl, rfl, trivial⟩
  refine Fn.of tblOK [7,9,12,15,17,18,19,20,21] _ _ _ _ _ Tryz.func6 rfl rfl (by kernel_rfl) (by kernel_rfl) rfl (drawOK tblOK) rfl ?_
  refine ⟨_, _, _, _, chnew_ok 1 200 (by decide) (by decide), trivial, rfl, ?_⟩
  refine ⟨fun h => absurd h (by decide), fun _ => ?_⟩
  refine ⟨_, _, _, _, hfn, trivial, rfl, ?_⟩
  refine ⟨fun _ => ?_, fun hf => ?_⟩
  · refine ⟨fun _ => ?_, fun h => absurd h (by decide)⟩
    refine ⟨_, _, _, _, alive15_fn, trivial, rfl, ?_⟩
    exact ⟨_, _, _, Le.refl _ _, rfl, rfl, trivial, rfl⟩
  refine ⟨fun _ => ?_, fun hs0 => ?_⟩
  · refine ⟨fun _ => ?_, fun h => absurd h (by decide)⟩
    refine ⟨_, _, _, _, alive15_fn, trivial, rfl, ?_⟩
    exact ⟨_, _, _, Le.refl _ _, rfl, rfl, trivial, rfl⟩
  refine ⟨fun _ => ?_, fun hs1 => ?_⟩
  · refine ⟨fun _ => ?_, fun h => absurd h (by decide)⟩
    refine ⟨_, _, _, _, alive15_fn, trivial, rfl, ?_⟩
    exact ⟨_, _, _, Le.refl _ _, rfl, rfl, trivial, rfl⟩
  have hfew : fewJ l [] = true := by
    have hf : (!fewJ l []) = false := hf
    simpa using hf
  obtain ⟨hll, hob, hom⟩ := fewJ_get hfew
  have hs0 : ¬ st < 0 := of_decide_eq_false hs0
  have hs1 : ¬ (20 : Int) < st := of_decide_eq_false hs1
  show TrQ _ _ _ _ _ _ _
  refine TrQ.loop tblOK (drawOK tblOK) [7,9,12,15,17,18,19,20,21] (by kernel_rfl) (X := Nat × List Dsk) (fun x => msK l top st x.1) (fun x => chB 1 200 x.2) (fun x => x.1 ≤ l.length ∧ CS 1 200 x.2) (fun x => l.length - x.1) (0, []) ⟨Nat.zero_le _, CS.nil (by decide) (by decide)⟩ ?_ ?_
  · exact Le.sub ⟨rfl, rfl, rfl, rfl, rfl, rfl, rfl, trivial⟩ ⟨rfl, rfl, rfl, rfl, trivial⟩
  rintro ⟨k, L⟩ ⟨hk, hC⟩
  have hk : k ≤ l.length := hk
  have hC : CS 1 200 L := hC
  refine ⟨fun hc => ?_, fun _ => ?_⟩
  · have hc : decide ((k : Int) < ((l.length : Nat) : Int)) = true := hc
    have hk1 : k < l.length := by have := of_decide_eq_true hc; omega
    have hO := hob _ (List.getElem_mem hk1)
    refine ⟨by omega, l[k], lgAt (n := k) hk1, ?_⟩
    refine ⟨rfl, ?_⟩
    show TrQ _ _ _ _ _ _ _
    refine TrQ.regionX tblOK (by kernel_rfl) ?_
    refine ⟨_, _, _, fun g => _, fun g => _, does15_fn hC l[k] (by omega), ⟨rfl, rfl, rfl, rfl, trivial⟩, rfl, fun _ => rfl, fun g => ?_⟩
    exact ⟨by omega, (k + 1, (doD 1 200 L l[k] g.1).L), ⟨hk1, g.2⟩, by show l.length - (k + 1) < l.length - k; omega, Le.sub ⟨rfl, rfl, rfl, rfl, rfl, rfl, rfl, trivial⟩ ⟨rfl, rfl, rfl, rfl, trivial⟩⟩
  by_cases he : mbE L top = 0
  case neg =>
    have hbn := mbegin_no hC top he
    generalize mbE L top = pe at *
    show TrQ _ _ _ _ _ _ _
    refine TrQ.go tblOK (drawOK tblOK) [12,15,17,18,19,20,21] (by kernel_rfl) (Le.refl _ _) ?_
    refine ⟨_, _, _, _, hbn, ⟨rfl, rfl, rfl, rfl, trivial⟩, rfl, ?_⟩
    refine ⟨fun _ => ?_, fun h => ?_⟩
    · refine ⟨_, _, _, _, alive15_fn, trivial, rfl, ?_⟩
      refine ⟨fun _ => ?_, fun h => absurd h (by decide)⟩
      exact ⟨_, _, _, Le.refl _ _, rfl, (show (!decide (pe = 0)) = true by rw [decide_eq_false he]; rfl), trivial, rfl⟩
    · exfalso
      have h : (!decide (pe = 0)) = false := h
      rw [decide_eq_false he] at h
      cases h
  have hM := MI.beg hC he
  have hbg := mbegin_ok hC top he
  have hbk := chback_fn hC top
  rw [(mbE_ok he).1] at hbk
  generalize (bkC L top).1 = base at *
  generalize mbL L top = l0 at *
  show TrQ _ _ _ _ _ _ _
  refine TrQ.go tblOK (drawOK tblOK) [12,15,17,18,19,20,21] (by kernel_rfl) (Le.refl _ _) ?_
  refine ⟨_, _, _, _, hbg, ⟨rfl, rfl, rfl, rfl, trivial⟩, rfl, ?_⟩
  refine ⟨fun h => absurd h (by decide), fun _ => ?_⟩
  show TrQ _ _ _ _ _ _ _
  refine TrQ.go tblOK (drawOK tblOK) [15,17,18,19,20,21] (by kernel_rfl) (Le.sub (K' := [(1, vS top), (2, vI st), (7, vP 1001), (11, vP 2001)]) (B' := mjB 1 200 L top base l0 false) ⟨rfl, rfl, rfl, rfl, trivial⟩ ⟨rfl, rfl, rfl, rfl, rfl, rfl, trivial⟩) ?_
  refine ⟨_, _, _, _, hbk, ⟨rfl, rfl, rfl, rfl, trivial⟩, rfl, ?_⟩
  show TrQ _ _ _ _ _ _ _
  refine TrQ.loop tblOK (drawOK tblOK) [15,17,18,19,20,21] (by kernel_rfl) (X := Nat × List Dsk × List Nat × Bool) (fun x => msK2 top base st x.1) (fun x => mjB 1 200 x.2.1 top base x.2.2.1 x.2.2.2) (fun x => (x.1 : Int) ≤ st ∧ MI 1 200 x.2.1 top x.2.2.1) (fun x => (st - (x.1 : Int)).toNat) (0, L, l0, false) ⟨by show ((0 : Nat) : Int) ≤ st; omega, hM⟩ ?_ ?_
  · exact Le.sub ⟨rfl, rfl, rfl, rfl, rfl, rfl, trivial⟩ ⟨rfl, rfl, rfl, rfl, rfl, rfl, trivial⟩
  rintro ⟨j, L2, l2, over⟩ ⟨hj, hM2⟩
  have hj : (j : Int) ≤ st := hj
  have hM2 : MI 1 200 L2 top l2 := hM2
  have hst := hM2.stepFn base over
  have hkp := hM2.step base over
  have hMe : MI 1 200 L2 top [] := ⟨hM2.cs, hM2.kn, fun k hk => (by cases hk), List.nodup_nil⟩
  have hst2 := hMe.stepFn base true
  rw [show mstep 1 L2 top base [] true = ⟨false, 150, L2, [], true⟩ from rfl] at hst2
  have ha1 := all15_fn hM2.cs top
  have ha2 := all15_fn hM2.cs base
  have hwr := mwrote_fn hM2.cs base [] true 0 9 (by decide) (Option.isSome_iff_exists.1 hM2.kn).choose_spec
  rw [show mwC 1 L2 top [] true 0 9 = [] from if_pos (.inl rfl)] at hwr
  generalize allC 1 L2 top = a1 at *
  generalize allC 1 L2 base = a2 at *
  refine ⟨fun hc => ?_, fun hc => ?_⟩
  · have hc : decide ((j : Int) < st) = true := hc
    have hc := of_decide_eq_true hc
    show TrQ _ _ _ _ _ _ _
    refine TrQ.go tblOK (drawOK tblOK) [17,18,19,20,21] (by kernel_rfl) (Le.refl _ _) ?_
    refine ⟨_, _, _, _, hst, ⟨rfl, rfl, rfl, rfl, rfl, rfl, trivial⟩, rfl, ?_⟩
    exact ⟨by omega, (j + 1, (mstep 1 L2 top base l2 over).L, (mstep 1 L2 top base l2 over).l, (mstep 1 L2 top base l2 over).over), ⟨by show ((j + 1 : Nat) : Int) ≤ st; omega, hkp⟩, by show (st - ((j + 1 : Nat) : Int)).toNat < (st - (j : Int)).toNat; omega, Le.sub ⟨rfl, rfl, rfl, rfl, rfl, rfl, trivial⟩ ⟨rfl, rfl, rfl, rfl, rfl, rfl, trivial⟩⟩
  · show TrQ _ _ _ _ _ _ _
    refine TrQ.go tblOK (drawOK tblOK) [18,19,20,21] (by kernel_rfl) (Le.refl _ _) ?_
    refine ⟨_, _, _, _, mcancel_fn 1 200 L2 top base l2 over, ⟨rfl, rfl, rfl, rfl, rfl, rfl, trivial⟩, rfl, ?_⟩
    show TrQ _ _ _ _ _ _ _
    refine TrQ.go tblOK (drawOK tblOK) [19,20,21] (by kernel_rfl) (Le.sub (K' := [(1, vS top), (7, vP 1001), (11, vP 2001), (13, vS base)]) (B' := mjB 1 200 L2 top base [] true) ⟨rfl, rfl, rfl, rfl, trivial⟩ ⟨rfl, rfl, rfl, rfl, rfl, rfl, trivial⟩) ?_
    refine ⟨_, _, _, _, ha1, ⟨rfl, rfl, rfl, rfl, trivial⟩, rfl, ?_⟩
    refine ⟨_, _, _, _, ha2, ⟨rfl, rfl, rfl, rfl, trivial⟩, rfl, ?_⟩
    show TrQ _ _ _ _ _ _ _
    refine TrQ.go tblOK (drawOK tblOK) [20,21] (by kernel_rfl) (Le.sub (K' := [(1, vS top), (7, vP 1001), (11, vP 2001), (13, vS base), (15, vS a1), (16, vS a2)]) (B' := mjB 1 200 L2 top base [] true) ⟨rfl, rfl, rfl, rfl, rfl, rfl, trivial⟩ ⟨rfl, rfl, rfl, rfl, rfl, rfl, trivial⟩) ?_
    refine ⟨_, _, _, _, hwr, ⟨rfl, rfl, rfl, rfl, rfl, rfl, trivial⟩, rfl, ?_⟩
    show TrQ _ _ _ _ _ _ _
    refine TrQ.go tblOK (drawOK tblOK) [21] (by kernel_rfl) (Le.sub (K' := [(1, vS top), (7, vP 1001), (11, vP 2001), (13, vS base), (15, vS a1), (16, vS a2)]) (B' := mjB 1 200 L2 top base [] true) ⟨rfl, rfl, rfl, rfl, rfl, rfl, trivial⟩ ⟨rfl, rfl, rfl, rfl, rfl, rfl, trivial⟩) ?_
    refine ⟨_, _, _, _, hst2, ⟨rfl, rfl, rfl, rfl, rfl, rfl, trivial⟩, rfl, ?_⟩
    show TrQ _ _ _ _ _ _ _
    refine TrQ.go tblOK (drawOK tblOK) [] (by kernel_rfl) (Le.sub (K' := [(1, vS top), (7, vP 1001), (11, vP 2001), (13, vS base), (15, vS a1), (16, vS a2), (17, vB false), (18, vI 150)]) (B' := mjB 1 200 L2 top base [] true) ⟨rfl, rfl, rfl, rfl, rfl, rfl, rfl, rfl, trivial⟩ ⟨rfl, rfl, rfl, rfl, rfl, rfl, trivial⟩) ?_
    refine ⟨_, _, _, _, alive15_fn, trivial, rfl, ?_⟩
    refine ⟨fun _ => ?_, fun h => absurd h (by decide)⟩
    refine ⟨fun _ => ?_, fun h => absurd h (by decide)⟩
    refine ⟨fun _ => ?_, fun h => absurd h (by decide)⟩
    refine ⟨_, _, _, _, mover_fn 1 200 L2 top base [] true, ⟨rfl, rfl, rfl, rfl, rfl, rfl, trivial⟩, rfl, ?_⟩
    refine ⟨fun _ => ?_, fun h => absurd h (by decide)⟩
    refine ⟨_, _, _, _, mleft_fn 1 200 L2 top base [] true, ⟨rfl, rfl, rfl, rfl, rfl, rfl, trivial⟩, rfl, ?_⟩
    refine ⟨fun _ => ?_, fun h => absurd h (by decide)⟩
    refine ⟨_, _, _, _, ha1, ⟨rfl, rfl, rfl, rfl, trivial⟩, rfl, ?_⟩
    refine ⟨fun _ => ?_, fun h => ?_⟩
    · refine ⟨_, _, _, _, ha2, ⟨rfl, rfl, rfl, rfl, trivial⟩, rfl, ?_⟩
      exact ⟨_, _, _, Le.refl _ _, rfl, (show decide (a2 = a2) = true from decide_eq_true rfl), trivial, rfl⟩
    · exfalso
      have h : decide (a1 = a1) = false := h
      rw [decide_eq_true rfl] at h
      cases h
end Go.Proofs.YtaciecbbiplgiaaGreat
