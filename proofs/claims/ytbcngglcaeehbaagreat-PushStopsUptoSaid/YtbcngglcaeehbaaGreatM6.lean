/-
  PushStops: a job that is cancelled copies nothing more, and has no result, unless it was done.
-/
import Derived.Test.YtbcngglcaeehbaaGreatLu17
set_option linter.unusedVariables false
set_option linter.unusedSimpArgs false
set_option maxRecDepth 10000
namespace Go.Proofs.YtbcngglcaeehbaaGreat
open Go.RowKit Go.Proofs
@[reducible] def psK (st : Int) (k : Nat) : KL := [(8, vP 2001), (39, vI st), (40, vI (k : Nat))]
set_option maxHeartbeats 1000000 in
theorem pushStops_fn (l : List Cop) (nm : List UInt8) (al : Bool) (gr rm : Int) (ds : List Ext3) (st : Int) (hl : l.length ≤ 1073741824) (ht : (l.map cTot).sum ≤ 1073741824) : Fn Tryz.prog 5 [vL uC l, steV nm al gr rm ds, vI st] [] [] (vB true) [] := by
  have hfn := Fn.arg (args := [vL uC l, .c (.one .nils)]) (few17_fn l [] hl ht (Nat.zero_le _) (Nat.zero_le _)) ⟨rfl, rfl, trivial⟩
  refine Fn.of tblOK [3,6,8,10,11,12,13,14,15] _ _ _ _ _ Tryz.func5 rfl rfl (by kernel_rfl) (by kernel_rfl) rfl (drawOK tblOK) rfl ?_
  refine ⟨rfl, ?_⟩
  refine ⟨_, _, _, _, hfn, trivial, rfl, ?_⟩
  refine ⟨fun _ => ?_, fun hf => ?_⟩
  · refine ⟨_, _, _, _, alive17_fn, trivial, rfl, ?_⟩
    exact ⟨_, _, _, Le.refl _ _, rfl, rfl, trivial, rfl⟩
  refine ⟨fun _ => ?_, fun hs0 => ?_⟩
  · refine ⟨_, _, _, _, alive17_fn, trivial, rfl, ?_⟩
    exact ⟨_, _, _, Le.refl _ _, rfl, rfl, trivial, rfl⟩
  refine ⟨fun _ => ?_, fun hs1 => ?_⟩
  · refine ⟨_, _, _, _, alive17_fn, trivial, rfl, ?_⟩
    exact ⟨_, _, _, Le.refl _ _, rfl, rfl, trivial, rfl⟩
  have hfew : fewK l [] = true := by
    have hf : (!fewK l []) = false := hf
    simpa using hf
  obtain ⟨hll, hob, hom⟩ := fewK_get hfew
  have hs0 : ¬ st < 0 := of_decide_eq_false hs0
  have hs1 : ¬ (20 : Int) < st := of_decide_eq_false hs1
  have hbg := begun_fn l nm al gr rm ds hob (by omega)
  show TrQ _ _ _ _ _ _ _
  refine TrQ.le (Le.sub (K' := [(0, vL uC l), (2, vI st), (4, vP 4)]) (B' := [(4, .cells (steL nm al gr rm ds))]) ⟨rfl, rfl, rfl, trivial⟩ ⟨rfl, trivial⟩) ?_
  refine TrQ.regionX tblOK (by kernel_rfl) ?_
  refine ⟨_, _, _, fun g => _, fun g => _, hbg, trivial, rfl, bg_out, fun g => ?_⟩
  obtain ⟨⟨L, ok, l0⟩, hx⟩ := g
  cases ok with
  | false =>
    refine ⟨fun _ => ?_, fun h => absurd h (by decide)⟩
    refine ⟨_, _, _, _, alive17_fn, trivial, rfl, ?_⟩
    exact ⟨_, _, _, Le.refl _ _, rfl, rfl, trivial, rfl⟩
  | true =>
    have hP : PI 1 40 L nm l0 [] := PI.beg (hx rfl)
    refine ⟨fun h => absurd h (by decide), fun _ => ?_⟩
    generalize hz : ((szOf L nm : Nat) : Int) = z
    show TrQ _ _ _ _ _ _ _
    refine TrQ.go tblOK (drawOK tblOK) [8,10,11,12,13,14,15] (by kernel_rfl) (Le.sub (K' := [(2, vI st), (8, vP 2001)]) (B' := psB L nm z rm l0 [] false false) ⟨rfl, rfl, trivial⟩ ⟨rfl, rfl, rfl, rfl, by rw [← hz]; rfl, rfl, rfl, trivial⟩) ?_
    show TrQ _ _ _ _ _ _ _
    refine TrQ.loop tblOK (drawOK tblOK) [8,10,11,12,13,14,15] (by kernel_rfl) (X := Nat × List Nat × List (Nat × List UInt8) × Bool × Bool) (fun x => psK st x.1) (fun x => psB L nm z rm x.2.1 x.2.2.1 x.2.2.2.1 x.2.2.2.2) (fun x => (x.1 : Int) ≤ st ∧ PI 1 40 L nm x.2.1 x.2.2.1) (fun x => (st - (x.1 : Int)).toNat) (0, l0, [], false, false) ⟨by show ((0 : Nat) : Int) ≤ st; omega, hP⟩ ?_ ?_
    · exact Le.sub ⟨rfl, rfl, rfl, trivial⟩ ⟨rfl, rfl, rfl, rfl, rfl, rfl, rfl, trivial⟩
    rintro ⟨k, l2, g2, over, done⟩ ⟨hk, hP2⟩
    have hk : (k : Int) ≤ st := hk
    have hP2 : PI 1 40 L nm l2 g2 := hP2
    have hst := hP2.stepFn z rm over done
    have hkp := hP2.step rm over done
    have hbf := hP2.nil.bfFn z rm true done 0 9 (by decide)
    have eb : pubfx 1 L nm rm 0 9 [] g2 true = ⟨0, [], g2, true⟩ := if_pos rfl
    rw [eb] at hbf
    have hst2 := hP2.nil.stepFn z rm true done
    have es : pustep 1 L nm rm [] g2 true done = ⟨false, 170, [], g2, true, done⟩ := if_pos rfl
    rw [es] at hst2
    refine ⟨fun hc => ?_, fun hc => ?_⟩
    · have hc : decide ((k : Int) < st) = true := hc
      have hc := of_decide_eq_true hc
      show TrQ _ _ _ _ _ _ _
      refine TrQ.go tblOK (drawOK tblOK) [10,11,12,13,14,15] (by kernel_rfl) (Le.refl _ _) ?_
      refine ⟨_, _, _, _, hst, ⟨rfl, rfl, rfl, rfl, rfl, rfl, rfl, trivial⟩, rfl, ?_⟩
      exact ⟨by omega, (k + 1, _, _, _, _), ⟨by show ((k + 1 : Nat) : Int) ≤ st; omega, hkp⟩, by show (st - ((k + 1 : Nat) : Int)).toNat < (st - (k : Int)).toNat; omega, Le.sub ⟨rfl, rfl, rfl, trivial⟩ ⟨rfl, rfl, rfl, rfl, rfl, rfl, rfl, trivial⟩⟩
    · show TrQ _ _ _ _ _ _ _
      refine TrQ.go tblOK (drawOK tblOK) [11,12,13,14,15] (by kernel_rfl) (Le.refl _ _) ?_
      refine ⟨_, _, _, _, pudone_fn _ _ L nm z rm l2 g2 over done, ⟨rfl, rfl, rfl, rfl, rfl, rfl, rfl, trivial⟩, rfl, ?_⟩
      show TrQ _ _ _ _ _ _ _
      refine TrQ.go tblOK (drawOK tblOK) [12,13,14,15] (by kernel_rfl) (Le.sub (K' := [(8, vP 2001), (10, vB done)]) (B' := psB L nm z rm l2 g2 over done) ⟨rfl, rfl, trivial⟩ ⟨rfl, rfl, rfl, rfl, rfl, rfl, rfl, trivial⟩) ?_
      refine ⟨_, _, _, _, pucancel_fn _ _ L nm z rm l2 g2 over done, ⟨rfl, rfl, rfl, rfl, rfl, rfl, rfl, trivial⟩, rfl, ?_⟩
      show TrQ _ _ _ _ _ _ _
      refine TrQ.go tblOK (drawOK tblOK) [13,14,15] (by kernel_rfl) (Le.sub (K' := [(8, vP 2001), (10, vB done)]) (B' := psB L nm z rm [] g2 true done) ⟨rfl, rfl, trivial⟩ ⟨rfl, rfl, rfl, rfl, rfl, rfl, rfl, trivial⟩) ?_
      refine ⟨_, _, _, _, hbf, ⟨rfl, rfl, rfl, rfl, rfl, rfl, rfl, trivial⟩, rfl, ?_⟩
      show TrQ _ _ _ _ _ _ _
      refine TrQ.go tblOK (drawOK tblOK) [14,15] (by kernel_rfl) (Le.sub (K' := [(8, vP 2001), (10, vB done), (11, vI 0)]) (B' := psB L nm z rm [] g2 true done) ⟨rfl, rfl, rfl, trivial⟩ ⟨rfl, rfl, rfl, rfl, rfl, rfl, rfl, trivial⟩) ?_
      refine ⟨_, _, _, _, hst2, ⟨rfl, rfl, rfl, rfl, rfl, rfl, rfl, trivial⟩, rfl, ?_⟩
      show TrQ _ _ _ _ _ _ _
      have hres : ∃ p q, Fn Tryz.prog 17 [vP 2001] (psB L nm z rm [] g2 true done) [] (.tup [.one (.d (.lst uPiec p)), .one (.d (.int .i64 q)), .one (.d (.bool done))]) (psB L nm z rm [] g2 true done) := by
        cases done with
        | true => exact ⟨_, _, hP2.nil.resFn z rm true⟩
        | false => exact ⟨_, _, pures_no _ _ L nm z rm [] g2 true⟩
      obtain ⟨p, q, hres⟩ := hres
      refine TrQ.go tblOK (drawOK tblOK) [15] (by kernel_rfl) (Le.sub (K' := [(8, vP 2001), (10, vB done), (11, vI 0), (13, vI 170)]) (B' := psB L nm z rm [] g2 true done) ⟨rfl, rfl, rfl, rfl, trivial⟩ ⟨rfl, rfl, rfl, rfl, rfl, rfl, rfl, trivial⟩) ?_
      refine ⟨_, _, _, _, hres, ⟨rfl, rfl, rfl, rfl, rfl, rfl, rfl, trivial⟩, rfl, ?_⟩
      show TrQ _ _ _ _ _ _ _
      refine TrQ.go tblOK (drawOK tblOK) [] (by kernel_rfl) (Le.sub (K' := [(8, vP 2001), (10, vB done), (11, vI 0), (13, vI 170), (16, vB done)]) (B' := psB L nm z rm [] g2 true done) ⟨rfl, rfl, rfl, rfl, rfl, trivial⟩ ⟨rfl, rfl, rfl, rfl, rfl, rfl, rfl, trivial⟩) ?_
      refine ⟨_, _, _, _, alive17_fn, trivial, rfl, ?_⟩
      refine ⟨fun _ => ?_, fun h => absurd h (by decide)⟩
      refine ⟨fun _ => ?_, fun h => absurd h (by decide)⟩
      refine ⟨fun _ => ?_, fun h => absurd h (by decide)⟩
      refine ⟨_, _, _, _, puover_fn _ _ L nm z rm [] g2 true done, ⟨rfl, rfl, rfl, rfl, rfl, rfl, rfl, trivial⟩, rfl, ?_⟩
      refine ⟨fun _ => ?_, fun h => absurd h (by decide)⟩
      refine ⟨_, _, _, _, pudone_fn _ _ L nm z rm [] g2 true done, ⟨rfl, rfl, rfl, rfl, rfl, rfl, rfl, trivial⟩, rfl, ?_⟩
      refine ⟨fun _ => ?_, fun h => ?_⟩
      · refine ⟨fun _ => ?_, fun h => ?_⟩
        · refine ⟨_, _, _, _, puleft_fn _ _ L nm z rm [] g2 true done, ⟨rfl, rfl, rfl, rfl, rfl, rfl, rfl, trivial⟩, rfl, ?_⟩
          exact ⟨_, _, _, Le.refl _ _, rfl, rfl, trivial, rfl⟩
        · exfalso
          have h : decide (done = done) = false := h
          rw [decide_eq_true rfl] at h
          cases h
      · exfalso
        have h : decide (done = done) = false := h
        rw [decide_eq_true rfl] at h
        cases h
end Go.Proofs.YtbcngglcaeehbaaGreat
