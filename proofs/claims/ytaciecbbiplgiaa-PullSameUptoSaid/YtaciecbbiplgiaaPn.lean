/-
  PullNext: the next cluster is a Hole of the top, and is none any more behind the step that brings it.
-/
import Derived.Test.YtaciecbbiplgiaaPs
set_option linter.unusedVariables false
set_option linter.unusedSimpArgs false
set_option maxRecDepth 10000
namespace Go.Proofs.Ytaciecbbiplgiaa
open Go.RowKit Go.Proofs

/-- A job under way: nothing ahead of i is to be brought. -/
structure PJ (bits room : Nat) (L : List Dsk) (top base : List UInt8) (am n i : Nat) : Prop where
  cs : CS bits room L
  dk : ∃ d, dk L top = some d ∧ d.am = am ∧ d.im.t.length = n
  bt : btI L top base = true
  no : ∀ k, k < i → pnxP L top base k = false
theorem PJ.next {bits room : Nat} {L : List Dsk} {top base : List UInt8} {am n i : Nat} (h : PJ bits room L top base am n i) (hr : n < room) {k : Nat} (hk : pnx L top base = some k) : i ≤ k ∧ k < n ∧ (∀ d, Go.Proofs.Ytaciecbbiplgiaa.dk L top = some d → (d.im.t.getD k s0).1 = 0) ∧
    ∃ L', pstep bits L top base false = ⟨false, 0, L', false⟩ ∧ PJ bits room L' top base am n (k + 1) ∧ (∀ d, Go.Proofs.Ytaciecbbiplgiaa.dk L' top = some d → (d.im.t.getD k s0).1 = 1) ∧ allC bits L' top = allC bits L top := by
  obtain ⟨d, hd, ha, hn⟩ := h.dk
  obtain ⟨h1, h2, h3, h4⟩ := pnx_some hk
  have hsz : szOf L top = n := by unfold szOf; rw [hd]; exact hn
  rw [hsz] at h2
  obtain ⟨L', e1, c1, ⟨d', g1, g2, g3, g4⟩, b1, b2, p1, p2, r1⟩ := pull_step (base := base) h.cs hd (by omega : k < d.im.t.length) (by omega)
  refine ⟨?_, h2, fun x hx => ?_, L', ?_, ⟨c1, ⟨d', g1, g2.trans ha, g3.trans hn⟩, b2.trans h.bt, fun j hj => ?_⟩, fun x hx => ?_, r1⟩
  · rcases Nat.lt_or_ge k i with hh | hh
    · rw [h.no k hh] at h3
      cases h3
    · exact hh
  · rw [hd] at hx
    injection hx with hx
    subst hx
    unfold pnxP at h3
    rw [Bool.and_eq_true] at h3
    have h5 := h3.1
    unfold hol at h5
    rw [hd] at h5
    simp only [Bool.or_eq_true] at h5
    exact h5.elim (fun g => by have := of_decide_eq_true g; omega) of_decide_eq_true
  · rw [pstep_some (room := room) hd hk, e1]
  · by_cases e : j = k
    · rw [e]
      exact p2
    · rw [p1 j e]
      exact h4 j (by omega)
  · rw [g1] at hx
    injection hx with hx
    subst hx
    exact g4
theorem PJ.last {bits room : Nat} {L : List Dsk} {top base : List UInt8} {am n : Nat} (h : PJ bits room L top base am n n) : pnx L top base = none := by
  obtain ⟨d, hd, ha, hn⟩ := h.dk
  refine pnx_none_of fun k hk => h.no k ?_
  unfold szOf at hk
  rw [hd] at hk
  rw [← hn]
  exact hk
theorem PJ.none {bits room : Nat} {L : List Dsk} {top base : List UInt8} {am n i : Nat} (h : PJ bits room L top base am n i) (hk : pnx L top base = none) : PJ bits room L top base am n n := by
  obtain ⟨d, hd, ha, hn⟩ := h.dk
  refine ⟨h.cs, ⟨d, hd, ha, hn⟩, h.bt, fun k hk2 => pnx_none h.bt hk k ?_⟩
  unfold szOf
  rw [hd]
  show k < d.im.t.length
  omega
theorem pnC_some {L : List Dsk} {top base : List UInt8} {k : Nat} (h : pnx L top base = some k) : pnC L top base false = ((k : Int), true) := by
  unfold pnC
  rw [h]
  rfl
theorem pnC_none {L : List Dsk} {top base : List UInt8} (h : pnx L top base = none) : pnC L top base false = (0, false) := by
  unfold pnC
  rw [h]
  rfl
@[reducible] def pnKa (l : List Cop) (k : Nat) : KL := [(0, vL uC l), (3, vP 3), (5, vP 1001), (43, vL uC l), (44, vI (l.length : Nat)), (45, vI (k : Nat))]
@[reducible] def pnKb (am n i : Nat) : KL := [(9, vP 2001), (11, vAd am), (78, vI (n : Nat)), (79, vI (i : Nat))]
set_option maxHeartbeats 1000000 in
theorem pullNext_fn (l : List Cop) (top base : List UInt8) (hl : l.length ≤ 1073741824) (ht : (l.map cTot).sum ≤ 1073741824) : Fn Try.prog 4 [vL uC l, seV top base] [] [] (vB true) [] := by
  have hfn := Fn.arg (args := [vL uC l, .c (.one .nils)]) (few16_fn l [] hl ht (Nat.zero_le _) (Nat.zero_le _)) ⟨rfl, rfl, trivial⟩
  refine Fn.of tblOK [12,17,22] _ _ _ _ _ Try.func4 rfl rfl (by kernel_rfl) (by kernel_rfl) rfl (drawOK tblOK) rfl ?_
  refine ⟨rfl, ?_⟩
  refine ⟨_, _, _, _, chnew_ok 1 200 (by decide) (by decide), trivial, rfl, ?_⟩
  refine ⟨fun h => absurd h (by decide), fun _ => ?_⟩
  refine ⟨_, _, _, _, hfn, trivial, rfl, ?_⟩
  refine ⟨fun _ => ?_, fun hf => ?_⟩
  · refine ⟨fun _ => ?_, fun h => absurd h (by decide)⟩
    refine ⟨_, _, _, _, alive16_fn, trivial, rfl, ?_⟩
    exact ⟨_, _, _, Le.refl _ _, rfl, rfl, trivial, rfl⟩
  have hfew : fewJ l [] = true := by
    have hf : (!fewJ l []) = false := hf
    simpa using hf
  obtain ⟨hll, hob, hom⟩ := fewJ_get hfew
  show TrQ _ _ _ _ _ _ _
  refine TrQ.loop tblOK (drawOK tblOK) [7,12,17,22] (by kernel_rfl) (X := Nat × List Dsk) (fun x => pnKa l x.1) (fun x => chB 1 200 x.2 ++ [(3, .cells (seL top base))]) (fun x => x.1 ≤ l.length ∧ CS 1 200 x.2 ∧ Sml x.2) (fun x => l.length - x.1) (0, []) ⟨Nat.zero_le _, CS.nil (by decide) (by decide), Sml.nil⟩ ?_ ?_
  · exact Le.sub ⟨rfl, rfl, rfl, rfl, rfl, rfl, trivial⟩ ⟨rfl, rfl, rfl, rfl, rfl, trivial⟩
  rintro ⟨k, L⟩ ⟨hk, hC, hSm⟩
  have hk : k ≤ l.length := hk
  have hC : CS 1 200 L := hC
  have hSm : Sml L := hSm
  refine ⟨fun hc => ?_, fun _ => ?_⟩
  · have hc : decide ((k : Int) < ((l.length : Nat) : Int)) = true := hc
    have hk1 : k < l.length := by have := of_decide_eq_true hc; omega
    have hO := hob _ (List.getElem_mem hk1)
    refine ⟨by omega, l[k], lgAt (n := k) hk1, ?_⟩
    refine ⟨rfl, ?_⟩
    show TrQ _ _ _ _ _ _ _
    refine TrQ.regionX tblOK (by kernel_rfl) ?_
    refine ⟨_, _, _, fun g => _, fun g => _, does16_fn hC l[k] (by omega), ⟨rfl, rfl, rfl, rfl, trivial⟩, rfl, fun _ => rfl, fun g => ?_⟩
    exact ⟨by omega, (k + 1, (doD 1 200 L l[k] g.1).L), ⟨hk1, g.2, hSm.do hC hO.2⟩, by show l.length - (k + 1) < l.length - k; omega, Le.sub ⟨rfl, rfl, rfl, rfl, rfl, rfl, trivial⟩ ⟨rfl, rfl, rfl, rfl, rfl, trivial⟩⟩
  by_cases he : pbE L top base = 0
  case neg =>
    have hbn := pbegin_no hC top base he
    generalize pbE L top base = pe at *
    refine ⟨_, _, _, _, hbn, ⟨rfl, rfl, rfl, rfl, trivial⟩, rfl, ?_⟩
    refine ⟨fun _ => ?_, fun h => ?_⟩
    · refine ⟨_, _, _, _, alive16_fn, trivial, rfl, ?_⟩
      refine ⟨fun _ => ?_, fun h => absurd h (by decide)⟩
      exact ⟨_, _, _, Le.refl _ _, rfl, (show (!decide (pe = 0)) = true by rw [decide_eq_false he]; rfl), trivial, rfl⟩
    · exfalso
      have h : (!decide (pe = 0)) = false := h
      rw [decide_eq_false he] at h
      cases h
  obtain ⟨⟨d, hd⟩, hbi, hbl⟩ := pbE_ok he
  refine ⟨_, _, _, _, pbegin_ok hC top base he, ⟨rfl, rfl, rfl, rfl, trivial⟩, rfl, ?_⟩
  refine ⟨fun h => absurd h (by decide), fun _ => ?_⟩

  have hn12 : d.im.t.length ≤ 12 := hSm d (dk_get hd).1
  show TrQ _ _ _ _ _ _ _
  refine TrQ.go tblOK (drawOK tblOK) [17,22] (by kernel_rfl) (Le.refl _ _) ?_
  refine ⟨_, _, _, _, image_fn _ _ L hC.toChN top d hd, ⟨rfl, rfl, rfl, rfl, trivial⟩, rfl, ?_⟩
  refine ⟨_, _, _, _, imFn (isize_fn d.im) (hC.toChN.M (dk_get hd).1) rfl rfl rfl rfl, ⟨rfl, trivial⟩, rfl, ?_⟩
  show TrQ _ _ _ _ _ _ _
  refine TrQ.loop tblOK (drawOK tblOK) [17,22] (by kernel_rfl) (X := Nat × List Dsk) (fun x => pnKb d.am d.im.t.length x.1) (fun x => pjB1 1 200 x.2 top base false) (fun x => x.1 ≤ d.im.t.length ∧ PJ 1 200 x.2 top base d.am d.im.t.length x.1) (fun x => d.im.t.length - x.1) (0, L) ⟨Nat.zero_le _, hC, ⟨d, hd, rfl, rfl⟩, hbi, fun k hk => absurd hk (Nat.not_lt_zero k)⟩ ?_ ?_
  · exact Le.sub ⟨rfl, rfl, rfl, rfl, trivial⟩ ⟨rfl, rfl, rfl, rfl, rfl, trivial⟩
  rintro ⟨i, L2⟩ ⟨hi, hJ⟩
  have hi : i ≤ d.im.t.length := hi
  have hJ : PJ 1 200 L2 top base d.am d.im.t.length i := hJ
  have hC2 := hJ.cs
  have hnx := pnext_fn hC2 base false hJ.dk.choose_spec.1
  refine ⟨fun hc => ?_, fun hc => ?_⟩
  · have hc : decide ((i : Int) < ((d.im.t.length : Nat) : Int)) = true := hc
    have hc := of_decide_eq_true hc
    cases hk : pnx L2 top base with
    | none =>
      rw [pnC_none hk] at hnx
      refine ⟨_, _, _, _, hnx, ⟨rfl, rfl, rfl, rfl, rfl, trivial⟩, rfl, ?_⟩
      refine ⟨fun _ => ?_, fun h => absurd h (by decide)⟩
      show TrQ _ _ _ _ _ _ _
      refine TrQ.go tblOK (drawOK tblOK) [] (by kernel_rfl) (Le.refl _ _) ?_
      refine ⟨_, _, _, _, hnx, ⟨rfl, rfl, rfl, rfl, rfl, trivial⟩, rfl, ?_⟩
      refine ⟨_, _, _, _, alive16_fn, trivial, rfl, ?_⟩
      refine ⟨fun _ => ?_, fun h => absurd h (by decide)⟩
      exact ⟨_, _, _, Le.refl _ _, rfl, rfl, trivial, rfl⟩
    | some k =>
      rw [pnC_some hk] at hnx
      obtain ⟨k1, k2, k3, L3, k4, hJ3, k6, _⟩ := hJ.next (by omega) hk
      obtain ⟨d2, hd2, ha2, hn2⟩ := hJ.dk
      obtain ⟨d3, hd3, ha3, hn3⟩ := hJ3.dk
      have hC3 := hJ3.cs
      have hst := pstep_fn hC2 base false hd2
      rw [k4] at hst
      have hk0 := k3 d2 hd2
      have hk1 := k6 d3 hd3
      have hkd2 := ikindD_fn d2.im (hC2.ims d2 (dk_get hd2).1).1.tl k (by omega)
      rw [hk0] at hkd2
      have hkd3 := ikindD_fn d3.im (hC3.ims d3 (dk_get hd3).1).1.tl k (by omega)
      rw [hk1] at hkd3
      have hm2 := imFn hkd2 (hC2.toChN.M (dk_get hd2).1) rfl rfl rfl rfl
      have hm3 := imFn hkd3 (hC3.toChN.M (dk_get hd3).1) rfl rfl rfl rfl
      rw [ha2] at hm2
      rw [ha3] at hm3
      refine ⟨_, _, _, _, hnx, ⟨rfl, rfl, rfl, rfl, rfl, trivial⟩, rfl, ?_⟩
      refine ⟨fun h => absurd (show (!true) = true from h) (by decide), fun _ => ?_⟩
      show TrQ _ _ _ _ _ _ _
      refine TrQ.go tblOK (drawOK tblOK) [22] (by kernel_rfl) (Le.sub (K' := [(9, vP 2001), (11, vAd d.am), (12, vI (k : Int)), (78, vI (d.im.t.length : Nat)), (79, vI (i : Nat))]) (B' := pjB1 1 200 L2 top base false) ⟨rfl, rfl, rfl, rfl, rfl, trivial⟩ ⟨rfl, rfl, rfl, rfl, rfl, trivial⟩) ?_
      refine ⟨_, _, _, _, hm2, ⟨rfl, trivial⟩, rfl, ?_⟩
      refine ⟨_, _, _, _, hst, ⟨rfl, rfl, rfl, rfl, rfl, trivial⟩, rfl, ?_⟩
      refine ⟨fun h => absurd h (by decide), fun _ => ?_⟩
      refine ⟨fun h => absurd (show (!decide ((0 : Int) = 0)) = true from h) (by decide), fun _ => ?_⟩
      refine ⟨_, _, _, _, hm3, ⟨rfl, trivial⟩, rfl, ?_⟩
      refine ⟨fun h => absurd (show (!decide ((1 : Int) = 1)) = true from h) (by decide), fun _ => ?_⟩
      exact ⟨by omega, (i + 1, L3), ⟨by omega, hC3, ⟨d3, hd3, ha3, hn3⟩, hJ3.bt, fun j hj => hJ3.no j (by omega)⟩, by show d.im.t.length - (i + 1) < d.im.t.length - i; omega, Le.sub ⟨rfl, rfl, rfl, rfl, trivial⟩ ⟨rfl, rfl, rfl, rfl, rfl, trivial⟩⟩
  · have hc : decide ((i : Int) < ((d.im.t.length : Nat) : Int)) = false := hc
    have hi2 : i = d.im.t.length := by have := of_decide_eq_false hc; omega
    have hl : pnx L2 top base = none := by
      rw [hi2] at hJ
      exact hJ.last
    rw [pnC_none hl] at hnx
    show TrQ _ _ _ _ _ _ _
    refine TrQ.go tblOK (drawOK tblOK) [] (by kernel_rfl) (Le.refl _ _) ?_
    refine ⟨_, _, _, _, hnx, ⟨rfl, rfl, rfl, rfl, rfl, trivial⟩, rfl, ?_⟩
    refine ⟨_, _, _, _, alive16_fn, trivial, rfl, ?_⟩
    refine ⟨fun _ => ?_, fun h => absurd h (by decide)⟩
    exact ⟨_, _, _, Le.refl _ _, rfl, rfl, trivial, rfl⟩
end Go.Proofs.Ytaciecbbiplgiaa
