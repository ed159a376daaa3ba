/-
  PullEnds: as many steps as there are clusters to be brought, and one more, end a job; then its top stands on its base, and reads as ever.
-/
import Derived.Test.YtaciecbbiplgiaaPn
set_option linter.unusedVariables false
set_option linter.unusedSimpArgs false
set_option maxRecDepth 10000
namespace Go.Proofs.Ytaciecbbiplgiaa
open Go.RowKit Go.Proofs
theorem rb_all {bits room : Nat} {L : List Dsk} {top base : List UInt8} (h : CS bits room L) {d : Dsk} (hd : dk L top = some d) (hi : btI L top base = true) (hn : pnx L top base = none) : CS bits room (lset L top base) ∧ allC bits (lset L top base) top = allC bits L top := by
  have hr := rb_ok h hd hi
  have hC' := rbC_cs h top base
  rw [hr] at hC'
  have hC' : CS bits room (lset L top base) := hC'
  have hdl : dk (lset L top base) top = some (rbD top base d) := by rw [dk_lset, hd]; rfl
  refine ⟨hC', allC_congr ?_ (by rw [hdl, hd]; rfl) fun s hs => ?_⟩
  · unfold szOf
    rw [hdl, hd]
    show (rbD top base d).im.t.length = _
    rw [rbD_im]
  · have hsz : szOf L top = d.im.t.length := by unfold szOf; rw [hd]
    rw [hsz] at hs
    have hc : s / 2 ^ bits < d.im.t.length := (Nat.div_lt_iff_lt_mul (Nat.two_pow_pos bits)).2 hs
    have := rb_read h hd hi (by rw [hr]) hc (pnx_none hi hn _ (by rw [hsz]; exact hc))
    rw [hr] at this
    rw [crdP_sec, crdP_sec]
    exact congrArg (fun x => sec x (s % 2 ^ bits)) this
@[reducible] def peK (l : List Cop) (k : Nat) : KL := [(0, vL uC l), (3, vP 3), (5, vP 1001), (45, vL uC l), (46, vI (l.length : Nat)), (47, vI (k : Nat))]
@[reducible] def peK2 (w : List UInt8) (last : Int) (n i : Nat) : KL := [(3, vP 3), (5, vP 1001), (9, vP 2001), (11, vS w), (12, vI last), (83, vI (n : Nat)), (84, vI (i : Nat))]
set_option maxHeartbeats 1000000 in
theorem pullEnds_fn (l : List Cop) (top base : List UInt8) (hl : l.length ≤ 1073741824) (ht : (l.map cTot).sum ≤ 1073741824) : Fn Try.prog 3 [vL uC l, seV top base] [] [] (vB true) [] := by
  have hfn := Fn.arg (args := [vL uC l, .c (.one .nils)]) (few16_fn l [] hl ht (Nat.zero_le _) (Nat.zero_le _)) ⟨rfl, rfl, trivial⟩
  refine Fn.of tblOK [12,14,18,23,25] _ _ _ _ _ Try.func3 rfl rfl (by kernel_rfl) (by kernel_rfl) rfl (drawOK tblOK) rfl ?_
  refine ⟨rfl, ?_⟩
  refine ⟨_, _, _, _, chnew_ok 1 200 (by decide) (by decide), trivial, rfl, ?_⟩
  refine ⟨fun h => absurd h (by decide), fun _ => ?_⟩
  refine ⟨_, _, _, _, hfn, trivial, rfl, ?_⟩
  refine ⟨fun _ => ?_, fun hf => ?_⟩
  · refine ⟨fun _ => ?_, fun h => absurd h (by decide)⟩
    refine ⟨_, _, _, _, alive16_fn, trivial, rfl, ?_⟩
    exact ⟨_, _, _, Le.refl _ _, rfl, rfl, trivial, rfl⟩
  have hfew : fewJ l [] = true := by
    have hf : (!fewJ l []) = false := hf
    simpa using hf
  obtain ⟨hll, hob, hom⟩ := fewJ_get hfew
  show TrQ _ _ _ _ _ _ _
  refine TrQ.loop tblOK (drawOK tblOK) [7,12,14,18,23,25] (by kernel_rfl) (X := Nat × List Dsk) (fun x => peK l x.1) (fun x => chB 1 200 x.2 ++ [(3, .cells (seL top base))]) (fun x => x.1 ≤ l.length ∧ CS 1 200 x.2 ∧ Sml x.2) (fun x => l.length - x.1) (0, []) ⟨Nat.zero_le _, CS.nil (by decide) (by decide), Sml.nil⟩ ?_ ?_
  · exact Le.sub ⟨rfl, rfl, rfl, rfl, rfl, rfl, trivial⟩ ⟨rfl, rfl, rfl, rfl, rfl, trivial⟩
  rintro ⟨k, L⟩ ⟨hk, hC, hSm⟩
  have hk : k ≤ l.length := hk
  have hC : CS 1 200 L := hC
  have hSm : Sml L := hSm
  refine ⟨fun hc => ?_, fun _ => ?_⟩
  · have hc : decide ((k : Int) < ((l.length : Nat) : Int)) = true := hc
    have hk1 : k < l.length := by have := of_decide_eq_true hc; omega
    have hO := hob _ (List.getElem_mem hk1)
    refine ⟨by omega, l[k], lgAt (n := k) hk1, ?_⟩
    refine ⟨rfl, ?_⟩
    show TrQ _ _ _ _ _ _ _
    refine TrQ.regionX tblOK (by kernel_rfl) ?_
    refine ⟨_, _, _, fun g => _, fun g => _, does16_fn hC l[k] (by omega), ⟨rfl, rfl, rfl, rfl, trivial⟩, rfl, fun _ => rfl, fun g => ?_⟩
    exact ⟨by omega, (k + 1, (doD 1 200 L l[k] g.1).L), ⟨hk1, g.2, hSm.do hC hO.2⟩, by show l.length - (k + 1) < l.length - k; omega, Le.sub ⟨rfl, rfl, rfl, rfl, rfl, rfl, trivial⟩ ⟨rfl, rfl, rfl, rfl, rfl, trivial⟩⟩
  by_cases he : pbE L top base = 0
  case neg =>
    have hbn := pbegin_no hC top base he
    generalize pbE L top base = pe at *
    refine ⟨_, _, _, _, hbn, ⟨rfl, rfl, rfl, rfl, trivial⟩, rfl, ?_⟩
    refine ⟨fun _ => ?_, fun h => ?_⟩
    · refine ⟨_, _, _, _, alive16_fn, trivial, rfl, ?_⟩
      refine ⟨fun _ => ?_, fun h => absurd h (by decide)⟩
      exact ⟨_, _, _, Le.refl _ _, rfl, (show (!decide (pe = 0)) = true by rw [decide_eq_false he]; rfl), trivial, rfl⟩
    · exfalso
      have h : (!decide (pe = 0)) = false := h
      rw [decide_eq_false he] at h
      cases h
  obtain ⟨⟨d, hd⟩, hbi, hbl⟩ := pbE_ok he
  refine ⟨_, _, _, _, pbegin_ok hC top base he, ⟨rfl, rfl, rfl, rfl, trivial⟩, rfl, ?_⟩
  refine ⟨fun h => absurd h (by decide), fun _ => ?_⟩

  have hn12 : d.im.t.length ≤ 12 := hSm d (dk_get hd).1
  have hall := all16_fn hC top
  generalize hw : allC 1 L top = w at hall
  show TrQ _ _ _ _ _ _ _
  refine TrQ.go tblOK (drawOK tblOK) [14,18,23,25] (by kernel_rfl) (Le.sub (K' := [(3, vP 3), (5, vP 1001), (9, vP 2001)]) (B' := jbB 200 L top base false 3) ⟨rfl, rfl, rfl, trivial⟩ ⟨rfl, rfl, rfl, rfl, rfl, rfl, trivial⟩) ?_
  refine ⟨_, _, _, _, hall, ⟨rfl, rfl, rfl, rfl, trivial⟩, rfl, ?_⟩
  show TrQ _ _ _ _ _ _ _
  refine TrQ.go tblOK (drawOK tblOK) [18,23,25] (by kernel_rfl) (Le.sub (K' := [(3, vP 3), (5, vP 1001), (9, vP 2001), (11, vS w), (12, vI (-1))]) (B' := jbB 200 L top base false 3) ⟨rfl, rfl, rfl, rfl, rfl, trivial⟩ ⟨rfl, rfl, rfl, rfl, rfl, rfl, trivial⟩) ?_
  refine ⟨_, _, _, _, image_fn _ _ L hC.toChN top d hd, ⟨rfl, rfl, rfl, rfl, trivial⟩, rfl, ?_⟩
  refine ⟨_, _, _, _, imFn (isize_fn d.im) (hC.toChN.M (dk_get hd).1) rfl rfl rfl rfl, ⟨rfl, trivial⟩, rfl, ?_⟩
  show TrQ _ _ _ _ _ _ _
  refine TrQ.loop tblOK (drawOK tblOK) [18,23,25] (by kernel_rfl) (X := Nat × List Dsk × Nat) (fun x => peK2 w ((x.2.2 : Int) - 1) d.im.t.length x.1) (fun x => jbB 200 x.2.1 top base false 3) (fun x => x.1 ≤ d.im.t.length ∧ PJ 1 200 x.2.1 top base d.am d.im.t.length x.2.2 ∧ allC 1 x.2.1 top = w ∧ x.1 ≤ x.2.2) (fun x => d.im.t.length - x.1) (0, L, 0) ⟨Nat.zero_le _, ⟨hC, ⟨d, hd, rfl, rfl⟩, hbi, fun k hk => absurd hk (Nat.not_lt_zero k)⟩, hw, Nat.le_refl _⟩ ?_ ?_
  · exact Le.sub ⟨rfl, rfl, rfl, rfl, rfl, rfl, rfl, trivial⟩ ⟨rfl, rfl, rfl, rfl, rfl, rfl, trivial⟩
  rintro ⟨i, L2, m⟩ ⟨hi, hJ, hw2, him⟩
  have hi : i ≤ d.im.t.length := hi
  have hJ : PJ 1 200 L2 top base d.am d.im.t.length m := hJ
  have hw2 : allC 1 L2 top = w := hw2
  have him : i ≤ m := him
  have hC2 := hJ.cs
  have hnx := pnext_fn hC2 base false hJ.dk.choose_spec.1
  have hst0 := pstep_fn hC2 base false hJ.dk.choose_spec.1
  have hEnd : pnx L2 top base = none → pstep 1 L2 top base false = ⟨true, 0, lset L2 top base, true⟩ ∧ CS 1 200 (lset L2 top base) ∧ allC 1 (lset L2 top base) top = w ∧ bkC (lset L2 top base) top = (base, 0) := fun hn => by
    obtain ⟨d2, hd2, _, _⟩ := hJ.dk
    obtain ⟨g1, g2⟩ := rb_all hC2 hd2 hJ.bt hn
    refine ⟨pstep_end hC2 hd2 hJ.bt hn, g1, g2.trans hw2, ?_⟩
    unfold bkC
    rw [dk_lset, hd2]
    show ((rbD top base d2).back, (0 : Int)) = _
    rw [rbD_back (dk_get hd2).2]
  refine ⟨fun hc => ?_, fun hc => ?_⟩
  · have hc : decide ((i : Int) < ((d.im.t.length : Nat) : Int)) = true := hc
    have hc := of_decide_eq_true hc
    cases hk : pnx L2 top base with
    | none =>
      rw [pnC_none hk] at hnx
      obtain ⟨q1, q2, q3, q4⟩ := hEnd hk
      rw [q1] at hst0
      have hbk := chback_fn q2 top
      rw [q4] at hbk
      have hal := all16_fn q2 top
      rw [q3] at hal
      generalize lset L2 top base = L3 at *
      refine ⟨_, _, _, _, hnx, ⟨rfl, rfl, rfl, rfl, rfl, trivial⟩, rfl, ?_⟩
      refine ⟨fun _ => ?_, fun h => absurd h (by decide)⟩
      show TrQ _ _ _ _ _ _ _
      refine TrQ.go tblOK (drawOK tblOK) [25] (by kernel_rfl) (Le.sub (K' := [(3, vP 3), (5, vP 1001), (9, vP 2001), (11, vS w)]) (B' := jbB 200 L2 top base false 3) ⟨rfl, rfl, rfl, rfl, trivial⟩ ⟨rfl, rfl, rfl, rfl, rfl, rfl, trivial⟩) ?_
      refine ⟨_, _, _, _, hst0, ⟨rfl, rfl, rfl, rfl, rfl, trivial⟩, rfl, ?_⟩
      refine ⟨_, _, _, _, hbk, ⟨rfl, rfl, rfl, rfl, trivial⟩, rfl, ?_⟩
      show TrQ _ _ _ _ _ _ _
      refine TrQ.go tblOK (drawOK tblOK) [] (by kernel_rfl) (Le.sub (K' := [(3, vP 3), (5, vP 1001), (9, vP 2001), (11, vS w), (17, vB true), (18, vI 0), (19, vS base), (20, vI 0)]) (B' := jbB 200 L3 top base true 3) ⟨rfl, rfl, rfl, rfl, rfl, rfl, rfl, rfl, trivial⟩ ⟨rfl, rfl, rfl, rfl, rfl, rfl, trivial⟩) ?_
      refine ⟨_, _, _, _, alive16_fn, trivial, rfl, ?_⟩
      refine ⟨fun _ => ?_, fun h => absurd h (by decide)⟩
      refine ⟨fun _ => ?_, fun h => absurd h (by decide)⟩
      refine ⟨fun _ => ?_, fun h => absurd h (by decide)⟩
      refine ⟨_, _, _, _, pover_fn 1 200 L3 top base true, ⟨rfl, rfl, rfl, rfl, rfl, trivial⟩, rfl, ?_⟩
      refine ⟨fun _ => ?_, fun h => absurd h (by decide)⟩
      refine ⟨fun _ => ?_, fun h => absurd h (by decide)⟩
      refine ⟨fun _ => ?_, fun h => absurd (show decide (base = base) = false from h) (by simp)⟩
      refine ⟨_, _, _, _, hal, ⟨rfl, rfl, rfl, rfl, trivial⟩, rfl, ?_⟩
      exact ⟨_, _, _, Le.refl _ _, rfl, (show decide (w = w) = true from decide_eq_true rfl), trivial, rfl⟩
    | some k =>
      rw [pnC_some hk] at hnx
      obtain ⟨k1, k2, k3, L3, k4, hJ3, k6, k7⟩ := hJ.next (by omega) hk
      have hC3 := hJ3.cs
      rw [k4] at hst0
      refine ⟨_, _, _, _, hnx, ⟨rfl, rfl, rfl, rfl, rfl, trivial⟩, rfl, ?_⟩
      refine ⟨fun h => absurd (show (!true) = true from h) (by decide), fun _ => ?_⟩
      show TrQ _ _ _ _ _ _ _
      refine TrQ.go tblOK (drawOK tblOK) [23,25] (by kernel_rfl) (Le.sub (K' := [(3, vP 3), (5, vP 1001), (9, vP 2001), (11, vS w), (12, vI ((m : Int) - 1)), (83, vI (d.im.t.length : Nat)), (84, vI (i : Nat)), (13, vI (k : Int))]) (B' := jbB 200 L2 top base false 3) ⟨rfl, rfl, rfl, rfl, rfl, rfl, rfl, rfl, trivial⟩ ⟨rfl, rfl, rfl, rfl, rfl, rfl, trivial⟩) ?_
      refine ⟨_, _, _, _, hst0, ⟨rfl, rfl, rfl, rfl, rfl, trivial⟩, rfl, ?_⟩
      refine ⟨fun h => ?_, fun _ => ?_⟩
      · exfalso
        have h : decide ((k : Int) ≤ (m : Int) - 1) = true := h
        have := of_decide_eq_true h
        omega
      refine ⟨fun h => absurd (show false = true from h) (by decide), fun _ => ?_⟩
      refine ⟨fun h => absurd (show (!decide ((0 : Int) = 0)) = true from h) (by decide), fun _ => ?_⟩
      exact ⟨by omega, (i + 1, L3, k + 1), ⟨by omega, hJ3, k7.trans hw2, by show i + 1 ≤ k + 1; omega⟩, by show d.im.t.length - (i + 1) < d.im.t.length - i; omega, Le.sub ⟨rfl, rfl, rfl, rfl, (by show (k : Int) = ((k + 1 : Nat) : Int) - 1; omega), rfl, rfl, trivial⟩ ⟨rfl, rfl, rfl, rfl, rfl, rfl, trivial⟩⟩
  · have hc : decide ((i : Int) < ((d.im.t.length : Nat) : Int)) = false := hc
    have hi2 : i = d.im.t.length := by have := of_decide_eq_false hc; omega
    have hk : pnx L2 top base = none := (show PJ 1 200 L2 top base d.am d.im.t.length d.im.t.length from ⟨hJ.cs, hJ.dk, hJ.bt, fun j hj => hJ.no j (by omega)⟩).last
    obtain ⟨q1, q2, q3, q4⟩ := hEnd hk
    rw [q1] at hst0
    have hbk := chback_fn q2 top
    rw [q4] at hbk
    have hal := all16_fn q2 top
    rw [q3] at hal
    generalize lset L2 top base = L3 at *
    show TrQ _ _ _ _ _ _ _
    refine TrQ.go tblOK (drawOK tblOK) [25] (by kernel_rfl) (Le.sub (K' := [(3, vP 3), (5, vP 1001), (9, vP 2001), (11, vS w)]) (B' := jbB 200 L2 top base false 3) ⟨rfl, rfl, rfl, rfl, trivial⟩ ⟨rfl, rfl, rfl, rfl, rfl, rfl, trivial⟩) ?_
    refine ⟨_, _, _, _, hst0, ⟨rfl, rfl, rfl, rfl, rfl, trivial⟩, rfl, ?_⟩
    refine ⟨_, _, _, _, hbk, ⟨rfl, rfl, rfl, rfl, trivial⟩, rfl, ?_⟩
    show TrQ _ _ _ _ _ _ _
    refine TrQ.go tblOK (drawOK tblOK) [] (by kernel_rfl) (Le.sub (K' := [(3, vP 3), (5, vP 1001), (9, vP 2001), (11, vS w), (17, vB true), (18, vI 0), (19, vS base), (20, vI 0)]) (B' := jbB 200 L3 top base true 3) ⟨rfl, rfl, rfl, rfl, rfl, rfl, rfl, rfl, trivial⟩ ⟨rfl, rfl, rfl, rfl, rfl, rfl, trivial⟩) ?_
    refine ⟨_, _, _, _, alive16_fn, trivial, rfl, ?_⟩
    refine ⟨fun _ => ?_, fun h => absurd h (by decide)⟩
    refine ⟨fun _ => ?_, fun h => absurd h (by decide)⟩
    refine ⟨fun _ => ?_, fun h => absurd h (by decide)⟩
    refine ⟨_, _, _, _, pover_fn 1 200 L3 top base true, ⟨rfl, rfl, rfl, rfl, rfl, trivial⟩, rfl, ?_⟩
    refine ⟨fun _ => ?_, fun h => absurd h (by decide)⟩
    refine ⟨fun _ => ?_, fun h => absurd h (by decide)⟩
    refine ⟨fun _ => ?_, fun h => absurd (show decide (base = base) = false from h) (by simp)⟩
    refine ⟨_, _, _, _, hal, ⟨rfl, rfl, rfl, rfl, trivial⟩, rfl, ?_⟩
    exact ⟨_, _, _, Le.refl _ _, rfl, (show decide (w = w) = true from decide_eq_true rfl), trivial, rfl⟩
end Go.Proofs.Ytaciecbbiplgiaa
