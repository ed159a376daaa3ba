/-
  PushEnds: as many steps as are left, and one more, end a job, if there is room; else it is over, not done.
-/
import Derived.Test.YtbcngglcaeehbaaGreatLu17
set_option linter.unusedVariables false
set_option linter.unusedSimpArgs false
set_option maxRecDepth 10000
namespace Go.Proofs.YtbcngglcaeehbaaGreat
open Go.RowKit Go.Proofs
theorem pustep_end (bits : Nat) (L : List Dsk) (nm : List UInt8) (rm : Int) (g : List (Nat × List UInt8)) : pustep bits L nm rm [] g false false = ⟨true, 0, [], g, true, true⟩ := (if_neg (by decide)).trans (if_pos rfl)
theorem pustep_go {bits : Nat} {L : List Dsk} {nm : List UInt8} {rm : Int} {l : List Nat} {g : List (Nat × List UInt8)} (hl : l ≠ []) (hr : ((g.length : Nat) : Int) < rm) :
    pustep bits L nm rm l g false false = ⟨false, 0, l.erase (mnN l), g ++ [(mnN l, clC bits L nm (mnN l : Int))], false, false⟩ := by
  have e : pucp bits L nm rm l g (mnN l) = ⟨0, l.erase (mnN l), g ++ [(mnN l, clC bits L nm (mnN l : Int))], false⟩ := if_neg (by omega)
  exact (if_neg (by decide)).trans ((if_neg hl).trans (by rw [e]))
theorem pustep_full {bits : Nat} {L : List Dsk} {nm : List UInt8} {rm : Int} {l : List Nat} {g : List (Nat × List UInt8)} (hl : l ≠ []) (hr : rm ≤ ((g.length : Nat) : Int)) :
    pustep bits L nm rm l g false false = ⟨false, 171, [], g, true, false⟩ := by
  have e : pucp bits L nm rm l g (mnN l) = ⟨171, [], g, true⟩ := if_pos hr
  exact (if_neg (by decide)).trans ((if_neg hl).trans (by rw [e]))
structure PE (L : List Dsk) (nm : List UInt8) (n k : Nat) (l : List Nat) (g : List (Nat × List UInt8)) (f : Bool) : Prop where
  pi : PI 1 40 L nm l g
  le : k ≤ n + 1
  go : f = false → l.length + k = n ∧ g.length = k
  en : f = true → k = n + 1 ∧ l = [] ∧ g.length = n
@[reducible] def peK (n k : Nat) : KL := [(3, vP 3), (6, vP 2001), (8, vI (n : Nat)), (37, vI ((n + 1 : Nat) : Int)), (38, vI (k : Nat))]
@[reducible] def peB (L : List Dsk) (nm : List UInt8) (al : Bool) (gr z rm : Int) (ds : List Ext3) (l : List Nat) (g : List (Nat × List UInt8)) (over done : Bool) : BL := psB L nm z rm l g over done ++ [(3, .cells (steL nm al gr rm ds))]
set_option maxHeartbeats 2000000 in
theorem pushEnds_fn (l : List Cop) (nm : List UInt8) (al : Bool) (gr rm : Int) (ds : List Ext3) (hl : l.length ≤ 1073741824) (ht : (l.map cTot).sum ≤ 1073741824) : Fn Tryz.prog 4 [vL uC l, steV nm al gr rm ds] [] [] (vB true) [] := by
  have hfn := Fn.arg (args := [vL uC l, .c (.one .nils)]) (few17_fn l [] hl ht (Nat.zero_le _) (Nat.zero_le _)) ⟨rfl, rfl, trivial⟩
  refine Fn.of tblOK [3,6,10,12,14,15,16,18,19] _ _ _ _ _ Tryz.func4 rfl rfl (by kernel_rfl) (by kernel_rfl) rfl (drawOK tblOK) rfl ?_
  refine ⟨rfl, ?_⟩
  refine ⟨_, _, _, _, hfn, trivial, rfl, ?_⟩
  refine ⟨fun _ => ?_, fun hf => ?_⟩
  · refine ⟨_, _, _, _, alive17_fn, trivial, rfl, ?_⟩
    exact ⟨_, _, _, Le.refl _ _, rfl, rfl, trivial, rfl⟩
  have hfew : fewK l [] = true := by
    have hf : (!fewK l []) = false := hf
    simpa using hf
  obtain ⟨hll, hob, hom⟩ := fewK_get hfew
  have hbg := begun_fn l nm al gr rm ds hob (by omega)
  show TrQ _ _ _ _ _ _ _
  refine TrQ.le (Le.sub (K' := [(0, vL uC l), (3, vP 3)]) (B' := [(3, .cells (steL nm al gr rm ds))]) ⟨rfl, rfl, trivial⟩ ⟨rfl, trivial⟩) ?_
  refine TrQ.regionX tblOK (by kernel_rfl) ?_
  refine ⟨_, _, _, fun g => _, fun g => _, hbg, trivial, rfl, bg_out, fun g => ?_⟩
  obtain ⟨⟨L, ok, l0⟩, hx⟩ := g
  cases ok with
  | false =>
    refine ⟨fun _ => ?_, fun h => absurd h (by decide)⟩
    refine ⟨_, _, _, _, alive17_fn, trivial, rfl, ?_⟩
    exact ⟨_, _, _, Le.refl _ _, rfl, rfl, trivial, rfl⟩
  | true =>
    have hx := hx rfl
    have hP := PI.beg hx
    have hP : PI 1 40 L nm l0 [] := hP
    have hr0 : 0 ≤ rm := hx.rm
    have hll0 := hP.ll
    refine ⟨fun h => absurd h (by decide), fun _ => ?_⟩
    generalize hz : ((szOf L nm : Nat) : Int) = z
    generalize hn : l0.length = n at *
    have hlf := puleft_fn ((1 : Nat) : Int) ((40 : Nat) : Int) L nm z rm l0 [] false false
    rw [hn] at hlf
    have mn : (-9223372036854775808 : Int) ≤ ((n : Nat) : Int) + 1 ∧ ((n : Nat) : Int) + 1 ≤ 9223372036854775807 := by omega
    show TrQ _ _ _ _ _ _ _
    refine TrQ.go tblOK (drawOK tblOK) [10,12,14,15,16,18,19] (by kernel_rfl) (Le.sub (K' := [(3, vP 3), (6, vP 2001)]) (B' := peB L nm al gr z rm ds l0 [] false false) ⟨rfl, rfl, trivial⟩ ⟨rfl, rfl, rfl, rfl, by rw [← hz]; rfl, rfl, rfl, rfl, trivial⟩) ?_
    refine ⟨_, _, _, _, hlf, ⟨rfl, rfl, rfl, rfl, rfl, rfl, rfl, trivial⟩, rfl, ?_⟩
    refine ⟨mn, ?_⟩
    show TrQ _ _ _ _ _ _ _
    refine TrQ.loop tblOK (drawOK tblOK) [10,12,14,15,16,18,19] (by kernel_rfl) (X := Nat × List Nat × List (Nat × List UInt8) × Bool) (fun x => peK n x.1) (fun x => peB L nm al gr z rm ds x.2.1 x.2.2.1 x.2.2.2 x.2.2.2) (fun x => PE L nm n x.1 x.2.1 x.2.2.1 x.2.2.2) (fun x => n + 1 - x.1) (0, l0, [], false) ⟨hP, Nat.zero_le _, fun _ => ⟨hn, rfl⟩, fun h => by cases h⟩ ?_ ?_
    · exact Le.sub ⟨rfl, rfl, rfl, rfl, rfl, trivial⟩ ⟨rfl, rfl, rfl, rfl, rfl, rfl, rfl, rfl, trivial⟩
    rintro ⟨k, l2, g2, f⟩ hE
    have hE : PE L nm n k l2 g2 f := hE
    refine ⟨fun hc => ?_, fun hc => ?_⟩
    · have hc : decide ((k : Int) < ((n + 1 : Nat) : Int)) = true := hc
      have hk : k < n + 1 := by have := of_decide_eq_true hc; omega
      have hff : f = false := by
        cases f with
        | false => rfl
        | true => exact absurd (hE.en rfl).1 (by omega)
      subst hff
      obtain ⟨e1, e2⟩ := hE.go rfl
      have mk : (-9223372036854775808 : Int) ≤ (k : Int) + 1 ∧ (k : Int) + 1 ≤ 9223372036854775807 := by omega
      by_cases hkn : k = n
      · have hl2 : l2 = [] := List.length_eq_zero_iff.1 (by omega)
        subst hl2
        have hs := hE.pi.stepFn z rm false false
        rw [pustep_end] at hs
        show TrQ _ _ _ _ _ _ _
        refine TrQ.go tblOK (drawOK tblOK) [12,14,15,16,18,19] (by kernel_rfl) (Le.refl _ _) ?_
        refine ⟨_, _, _, _, hs, ⟨rfl, rfl, rfl, rfl, rfl, rfl, rfl, trivial⟩, rfl, ?_⟩
        refine ⟨fun c1 => ?ra, fun c1 => ?_⟩
        rotate_left
        refine ⟨fun _ => ?rb, fun h => absurd (of_decide_eq_false (show decide ((k : Int) = (n : Int)) = false from h)) (by omega)⟩
        all_goals
          show TrQ _ _ _ _ _ _ _
          refine TrQ.go tblOK (drawOK tblOK) [14,15,16,18,19] (by kernel_rfl) (Le.sub (K' := [(3, vP 3), (6, vP 2001), (8, vI (n : Nat)), (37, vI ((n + 1 : Nat) : Int)), (38, vI (k : Nat)), (9, vI (k : Nat)), (10, vB true), (11, vI 0)]) (B' := peB L nm al gr z rm ds [] g2 true true) ⟨rfl, rfl, rfl, rfl, rfl, rfl, rfl, rfl, trivial⟩ ⟨rfl, rfl, rfl, rfl, rfl, rfl, rfl, rfl, trivial⟩) ?_
          refine ⟨fun h => absurd h (by decide), fun _ => ?_⟩
          refine ⟨fun h => ?_, fun _ => ?_⟩
          · exfalso
            simp [hkn] at h
          exact ⟨mk, (k + 1, [], g2, true), ⟨hE.pi, by show k + 1 ≤ n + 1; omega, fun h => (by cases h), fun _ => ⟨by show k + 1 = n + 1; omega, rfl, by show g2.length = n; omega⟩⟩, by show n + 1 - (k + 1) < n + 1 - k; omega, Le.sub ⟨rfl, rfl, rfl, rfl, rfl, trivial⟩ ⟨rfl, rfl, rfl, rfl, rfl, rfl, rfl, rfl, trivial⟩⟩
      · have hl2 : l2 ≠ [] := fun e => by rw [e] at e1; simp at e1; omega
        have hs := hE.pi.stepFn z rm false false
        by_cases hr : rm ≤ ((g2.length : Nat) : Int)
        · rw [pustep_full hl2 hr] at hs
          have hs2 := hE.pi.nil.stepFn z rm true false
          rw [show pustep 1 L nm rm [] g2 true false = ⟨false, 170, [], g2, true, false⟩ from if_pos rfl] at hs2
          have hres := pures_no ((1 : Nat) : Int) ((40 : Nat) : Int) L nm z rm [] g2 true
          show TrQ _ _ _ _ _ _ _
          refine TrQ.go tblOK (drawOK tblOK) [12,14,15,16,18,19] (by kernel_rfl) (Le.refl _ _) ?_
          refine ⟨_, _, _, _, hs, ⟨rfl, rfl, rfl, rfl, rfl, rfl, rfl, trivial⟩, rfl, ?_⟩
          refine ⟨fun c1 => absurd (of_decide_eq_true (show decide ((k : Int) < rm) = true from c1)) (by omega), fun c1 => ?_⟩
          refine ⟨fun h => absurd (of_decide_eq_true (show decide ((k : Int) = (n : Int)) = true from h)) (by omega), fun _ => ?_⟩
          show TrQ _ _ _ _ _ _ _
          refine TrQ.go tblOK (drawOK tblOK) [15,16,18,19] (by kernel_rfl) (Le.sub (K' := [(6, vP 2001), (11, vI 171)]) (B' := psB L nm z rm [] g2 true false) ⟨rfl, rfl, trivial⟩ ⟨rfl, rfl, rfl, rfl, rfl, rfl, rfl, trivial⟩) ?_
          refine ⟨_, _, _, _, hs2, ⟨rfl, rfl, rfl, rfl, rfl, rfl, rfl, trivial⟩, rfl, ?_⟩
          show TrQ _ _ _ _ _ _ _
          refine TrQ.go tblOK (drawOK tblOK) [16,18,19] (by kernel_rfl) (Le.sub (K' := [(6, vP 2001), (11, vI 171), (13, vI 170)]) (B' := psB L nm z rm [] g2 true false) ⟨rfl, rfl, rfl, trivial⟩ ⟨rfl, rfl, rfl, rfl, rfl, rfl, rfl, trivial⟩) ?_
          refine ⟨_, _, _, _, hres, ⟨rfl, rfl, rfl, rfl, rfl, rfl, rfl, trivial⟩, rfl, ?_⟩
          show TrQ _ _ _ _ _ _ _
          refine TrQ.go tblOK (drawOK tblOK) [18,19] (by kernel_rfl) (Le.sub (K' := [(6, vP 2001), (11, vI 171), (13, vI 170), (14, vL uPiec []), (16, vB false)]) (B' := psB L nm z rm [] g2 true false) ⟨rfl, rfl, rfl, rfl, rfl, trivial⟩ ⟨rfl, rfl, rfl, rfl, rfl, rfl, rfl, trivial⟩) ?_
          refine ⟨_, _, _, _, alive17_fn, trivial, rfl, ?_⟩
          refine ⟨fun _ => ?_, fun h => absurd h (by decide)⟩
          refine ⟨fun _ => ?_, fun h => absurd h (by decide)⟩
          refine ⟨fun _ => ?_, fun h => absurd h (by decide)⟩
          refine ⟨_, _, _, _, puover_fn _ _ L nm z rm [] g2 true false, ⟨rfl, rfl, rfl, rfl, rfl, rfl, rfl, trivial⟩, rfl, ?_⟩
          refine ⟨fun _ => ?_, fun h => absurd h (by decide)⟩
          refine ⟨_, _, _, _, pudone_fn _ _ L nm z rm [] g2 true false, ⟨rfl, rfl, rfl, rfl, rfl, rfl, rfl, trivial⟩, rfl, ?_⟩
          refine ⟨fun _ => ?_, fun h => absurd h (by decide)⟩
          refine ⟨fun _ => ?_, fun h => absurd h (by decide)⟩
          exact ⟨_, _, _, Le.refl _ _, rfl, rfl, trivial, rfl⟩
        · have hmn := (mnN_spec hl2).2.1
          have hlen : (l2.erase (mnN l2)).length + 1 = l2.length := by rw [List.length_erase_of_mem hmn]; have := List.length_pos_of_mem hmn; omega
          have hpi := hE.pi.step rm false false
          rw [pustep_go hl2 (by omega)] at hs hpi
          have hpi : PI 1 40 L nm (l2.erase (mnN l2)) (g2 ++ [(mnN l2, clC 1 L nm (mnN l2 : Int))]) := hpi
          generalize hx1 : g2 ++ [(mnN l2, clC 1 L nm (mnN l2 : Int))] = g3 at *
          have hg3 : g3.length = k + 1 := by rw [← hx1, List.length_append, List.length_singleton]; omega
          generalize l2.erase (mnN l2) = l3 at *
          show TrQ _ _ _ _ _ _ _
          refine TrQ.go tblOK (drawOK tblOK) [12,14,15,16,18,19] (by kernel_rfl) (Le.refl _ _) ?_
          refine ⟨_, _, _, _, hs, ⟨rfl, rfl, rfl, rfl, rfl, rfl, rfl, trivial⟩, rfl, ?_⟩
          refine ⟨fun c1 => ?_, fun c1 => absurd (of_decide_eq_false (show decide ((k : Int) < rm) = false from c1)) (by omega)⟩
          show TrQ _ _ _ _ _ _ _
          refine TrQ.go tblOK (drawOK tblOK) [14,15,16,18,19] (by kernel_rfl) (Le.sub (K' := [(3, vP 3), (6, vP 2001), (8, vI (n : Nat)), (37, vI ((n + 1 : Nat) : Int)), (38, vI (k : Nat)), (9, vI (k : Nat)), (10, vB false), (11, vI 0)]) (B' := peB L nm al gr z rm ds l3 g3 false false) ⟨rfl, rfl, rfl, rfl, rfl, rfl, rfl, rfl, trivial⟩ ⟨rfl, rfl, rfl, rfl, rfl, rfl, rfl, rfl, trivial⟩) ?_
          refine ⟨fun h => absurd h (by decide), fun _ => ?_⟩
          refine ⟨fun h => ?_, fun _ => ?_⟩
          · exfalso
            simp at h
            omega
          exact ⟨mk, (k + 1, l3, g3, false), ⟨hpi, by show k + 1 ≤ n + 1; omega, fun _ => ⟨by show l3.length + (k + 1) = n; omega, hg3⟩, fun h => by cases h⟩, by show n + 1 - (k + 1) < n + 1 - k; omega, Le.sub ⟨rfl, rfl, rfl, rfl, rfl, trivial⟩ ⟨rfl, rfl, rfl, rfl, rfl, rfl, rfl, rfl, trivial⟩⟩
    · have hc : decide ((k : Int) < ((n + 1 : Nat) : Int)) = false := hc
      have hk : ¬ k < n + 1 := by have := of_decide_eq_false hc; omega
      have hle := hE.le
      have hff : f = true := by
        cases f with
        | true => rfl
        | false => have := (hE.go rfl).1; omega
      subst hff
      obtain ⟨e1, e2, e3⟩ := hE.en rfl
      subst e2
      have hres := hE.pi.resFn z rm true
      have hpl : (pcsL g2).length = n := (pcs_len g2).trans e3
      generalize pcsL g2 = ps at *
      show TrQ _ _ _ _ _ _ _
      refine TrQ.go tblOK (drawOK tblOK) [19] (by kernel_rfl) (Le.sub (K' := [(6, vP 2001), (8, vI (n : Nat))]) (B' := psB L nm z rm [] g2 true true) ⟨rfl, rfl, trivial⟩ ⟨rfl, rfl, rfl, rfl, rfl, rfl, rfl, trivial⟩) ?_
      refine ⟨_, _, _, _, hres, ⟨rfl, rfl, rfl, rfl, rfl, rfl, rfl, trivial⟩, rfl, ?_⟩
      show TrQ _ _ _ _ _ _ _
      refine TrQ.go tblOK (drawOK tblOK) [] (by kernel_rfl) (Le.sub (K' := [(6, vP 2001), (8, vI (n : Nat)), (17, vL uPiec ps), (19, vB true)]) (B' := psB L nm z rm [] g2 true true) ⟨rfl, rfl, rfl, rfl, trivial⟩ ⟨rfl, rfl, rfl, rfl, rfl, rfl, rfl, trivial⟩) ?_
      refine ⟨_, _, _, _, alive17_fn, trivial, rfl, ?_⟩
      refine ⟨fun _ => ?_, fun h => absurd h (by decide)⟩
      refine ⟨_, _, _, _, pudone_fn _ _ L nm z rm [] g2 true true, ⟨rfl, rfl, rfl, rfl, rfl, rfl, rfl, trivial⟩, rfl, ?_⟩
      refine ⟨fun _ => ?_, fun h => absurd h (by decide)⟩
      refine ⟨fun _ => ?_, fun h => absurd h (by decide)⟩
      exact ⟨_, _, _, Le.refl _ _, rfl, (show decide (((ps.length : Nat) : Int) = (n : Int)) = true from decide_eq_true (by omega)), trivial, rfl⟩
end Go.Proofs.YtbcngglcaeehbaaGreat
