/-
  PullSame: what the top reads is not changed by any step, nor by a cancel, whatever is written to it between.
-/
import Derived.Test.YtaciecbbiplgiaaPe
set_option linter.unusedVariables false
set_option linter.unusedSimpArgs false
set_option maxRecDepth 10000
namespace Go.Proofs.Ytaciecbbiplgiaa
open Go.RowKit Go.Proofs
theorem Lm.bt {bits room : Nat} {L L' : List Dsk} {t top base : List UInt8} (h : CS bits room L) (hl : Lm L t L') : btI L' top base = btI L top base := by
  rcases hl with rfl | ⟨d, im, h0, hs, rfl⟩
  · rfl
  · exact (bt_lim h h0 hs).2
theorem pstep_all {bits room : Nat} {L : List Dsk} {top base : List UInt8} {over : Bool} (h : CS bits room L) {d : Dsk} (hd : dk L top = some d) (hb : over = true ∨ btI L top base = true) : allC bits (pstep bits L top base over).L top = allC bits L top ∧ ((pstep bits L top base over).over = true ∨ btI (pstep bits L top base over).L top base = true) := by
  cases over with
  | true => exact ⟨rfl, .inl rfl⟩
  | false =>
    have hb : btI L top base = true := hb.resolve_left (by decide)
    cases hn : pnx L top base with
    | some k =>
      rw [pstep_some (room := room) hd hn]
      have hk := (pnx_some hn).2.1
      unfold szOf at hk
      rw [hd] at hk
      refine ⟨wr_self h hd hk, .inr ?_⟩
      show btI (wrC bits L top _ _).L top base = true
      rw [(wrC_lm h top _ _).bt h]
      exact hb
    | none =>
      rw [pstep_end h hd hb hn]
      exact ⟨(rb_all h hd hb hn).2, .inl rfl⟩
@[reducible] def pmK (l : List Cop) (m : List Jop) (k : Nat) : KL := [(0, vL uC l), (2, vL uJ m), (4, vP 4), (7, vP 1001), (41, vL uC l), (42, vI (l.length : Nat)), (43, vI (k : Nat))]
@[reducible] def pmK2 (m : List Jop) (k : Nat) : KL := [(4, vP 4), (7, vP 1001), (11, vP 2001), (71, vL uJ m), (72, vI (m.length : Nat)), (73, vI (k : Nat))]
@[reducible] def pmK3 (m : List Jop) (k : Nat) : KL := [(4, vP 4), (7, vP 1001), (11, vP 2001), (71, vL uJ m), (72, vI (m.length : Nat)), (73, vI (k : Nat)), (14, vP 14)]
@[reducible] def pmK4 (m : List Jop) (k : Nat) (w : List UInt8) : KL := [(4, vP 4), (7, vP 1001), (11, vP 2001), (71, vL uJ m), (72, vI (m.length : Nat)), (73, vI (k : Nat)), (15, vS w)]
@[reducible] def pmK5 (m : List Jop) (k : Nat) (w : List UInt8) : KL := [(4, vP 4), (7, vP 1001), (11, vP 2001), (71, vL uJ m), (72, vI (m.length : Nat)), (73, vI (k : Nat)), (15, vS w), (14, vP 14)]
@[reducible] def pmB (L : List Dsk) (top base : List UInt8) (over : Bool) (o : Jop) : BL := jbB 40 L top base over 4 ++ [(14, .cells (jopL o))]
set_option maxHeartbeats 1000000 in
theorem pullSame_fn (l : List Cop) (top base : List UInt8) (m : List Jop) (hl : l.length ≤ 1073741824) (ht : (l.map cTot).sum ≤ 1073741824) (hl2 : m.length ≤ 1073741824) (ht2 : (m.map jTot).sum ≤ 1073741824) : Fn Try.prog 5 [vL uC l, seV top base, vL uJ m] [] [] (vB true) [] := by
  refine Fn.of tblOK [15,16,17,18,21] _ _ _ _ _ Try.func5 rfl rfl (by kernel_rfl) (by kernel_rfl) rfl (drawOK tblOK) rfl ?_
  refine ⟨rfl, ?_⟩
  refine ⟨_, _, _, _, chnew_ok 1 40 (by decide) (by decide), trivial, rfl, ?_⟩
  refine ⟨fun h => absurd h (by decide), fun _ => ?_⟩
  refine ⟨_, _, _, _, few16_fn l m hl ht hl2 ht2, trivial, rfl, ?_⟩
  refine ⟨fun _ => ?_, fun hf => ?_⟩
  · refine ⟨fun _ => ?_, fun h => absurd h (by decide)⟩
    refine ⟨_, _, _, _, alive16_fn, trivial, rfl, ?_⟩
    exact ⟨_, _, _, Le.refl _ _, rfl, rfl, trivial, rfl⟩
  have hfew : fewJ l m = true := by
    have hf : (!fewJ l m) = false := hf
    simpa using hf
  obtain ⟨hll, hob, hom⟩ := fewJ_get hfew
  show TrQ _ _ _ _ _ _ _
  refine TrQ.loop tblOK (drawOK tblOK) [7,15,16,17,18,21] (by kernel_rfl) (X := Nat × List Dsk) (fun x => pmK l m x.1) (fun x => chB 1 40 x.2 ++ [(4, .cells (seL top base))]) (fun x => x.1 ≤ l.length ∧ CS 1 40 x.2 ∧ Sml x.2) (fun x => l.length - x.1) (0, []) ⟨Nat.zero_le _, CS.nil (by decide) (by decide), Sml.nil⟩ ?_ ?_
  · exact Le.sub ⟨rfl, rfl, rfl, rfl, rfl, rfl, rfl, trivial⟩ ⟨rfl, rfl, rfl, rfl, rfl, trivial⟩
  rintro ⟨k, L⟩ ⟨hk, hC, hSm⟩
  have hk : k ≤ l.length := hk
  have hC : CS 1 40 L := hC
  have hSm : Sml L := hSm
  refine ⟨fun hc => ?_, fun _ => ?_⟩
  · have hc : decide ((k : Int) < ((l.length : Nat) : Int)) = true := hc
    have hk1 : k < l.length := by have := of_decide_eq_true hc; omega
    have hO := hob _ (List.getElem_mem hk1)
    refine ⟨by omega, l[k], lgAt (n := k) hk1, ?_⟩
    refine ⟨rfl, ?_⟩
    show TrQ _ _ _ _ _ _ _
    refine TrQ.regionX tblOK (by kernel_rfl) ?_
    refine ⟨_, _, _, fun g => _, fun g => _, does16_fn hC l[k] (by omega), ⟨rfl, rfl, rfl, rfl, trivial⟩, rfl, fun _ => rfl, fun g => ?_⟩
    exact ⟨by omega, (k + 1, (doD 1 40 L l[k] g.1).L), ⟨hk1, g.2, hSm.do hC hO.2⟩, by show l.length - (k + 1) < l.length - k; omega, Le.sub ⟨rfl, rfl, rfl, rfl, rfl, rfl, rfl, trivial⟩ ⟨rfl, rfl, rfl, rfl, rfl, trivial⟩⟩
  by_cases he : pbE L top base = 0
  case neg =>
    have hbn := pbegin_no hC top base he
    generalize pbE L top base = pe at *
    refine ⟨_, _, _, _, hbn, ⟨rfl, rfl, rfl, rfl, trivial⟩, rfl, ?_⟩
    refine ⟨fun _ => ?_, fun h => ?_⟩
    · refine ⟨_, _, _, _, alive16_fn, trivial, rfl, ?_⟩
      refine ⟨fun _ => ?_, fun h => absurd h (by decide)⟩
      exact ⟨_, _, _, Le.refl _ _, rfl, (show (!decide (pe = 0)) = true by rw [decide_eq_false he]; rfl), trivial, rfl⟩
    · exfalso
      have h : (!decide (pe = 0)) = false := h
      rw [decide_eq_false he] at h
      cases h
  obtain ⟨⟨d, hd⟩, hbi, hbl⟩ := pbE_ok he
  refine ⟨_, _, _, _, pbegin_ok hC top base he, ⟨rfl, rfl, rfl, rfl, trivial⟩, rfl, ?_⟩
  refine ⟨fun h => absurd h (by decide), fun _ => ?_⟩

  have hfin : Fn Try.prog 9 [] [] [] (vB true) [] := alive16_fn
  show TrQ _ _ _ _ _ _ _
  refine TrQ.loop tblOK (drawOK tblOK) [15,16,17,18,21] (by kernel_rfl) (X := Nat × List Dsk × Bool) (fun x => pmK2 m x.1) (fun x => jbB 40 x.2.1 top base x.2.2 4) (fun x => x.1 ≤ m.length ∧ CS 1 40 x.2.1 ∧ (∃ d, dk x.2.1 top = some d) ∧ (x.2.2 = true ∨ btI x.2.1 top base = true)) (fun x => m.length - x.1) (0, L, false) ⟨Nat.zero_le _, hC, ⟨d, hd⟩, .inr hbi⟩ ?_ ?_
  · exact Le.sub ⟨rfl, rfl, rfl, rfl, rfl, rfl, trivial⟩ ⟨rfl, rfl, rfl, rfl, rfl, rfl, trivial⟩
  rintro ⟨j, L2, over⟩ ⟨hj, hC2, hk2, hb2⟩
  have hj : j ≤ m.length := hj
  have hC2 : CS 1 40 L2 := hC2
  have hk2 : ∃ d, dk L2 top = some d := hk2
  have hb2 : over = true ∨ btI L2 top base = true := hb2
  have hst := pstep_fn hC2 base over hk2.choose_spec
  have hkp := pstep_keep (base := base) (over := over) hC2 hk2.choose_spec
  have hsa := pstep_all hC2 hk2.choose_spec hb2
  have hal := all16_fn hC2 top
  have hal2 := all16_fn hkp.1 top
  rw [hsa.1] at hal2
  have htl : top.length ≤ 15 := by
    obtain ⟨d2, hd2⟩ := hk2
    rw [← (dk_get hd2).2]
    exact (nameOK_len (hC2.nok d2 (dk_get hd2).1)).2
  have hsb := hsa.2
  generalize pstep 1 L2 top base over = ps at *
  generalize allC 1 L2 top = w at *
  refine ⟨fun hc => ?_, fun hc => ?_⟩
  · have hc : decide ((j : Int) < ((m.length : Nat) : Int)) = true := hc
    have hj1 : j < m.length := by have := of_decide_eq_true hc; omega
    have hO := hom _ (List.getElem_mem hj1)
    have hget := lgAt (n := j) hj1
    generalize m[j] = o at *
    have hjt : jTot o = (qB (jQ o)).length := rfl
    have hdo := does16_fn hC2 (3, 0, top, [], jQ o) (by show (qB (jQ o)).length + top.length + 0 ≤ 1000000; omega)
    have hdoE : ∀ p, doD 1 40 L2 (3, 0, top, [], jQ o) p = doW 1 L2 top (jQ o) := fun p => rfl
    have hcs3 := doW_cs hC2 top (jQ o)
    have hlm3 := doW_lm hC2 top (jQ o)
    have hk3 : ∃ d, dk (doW 1 L2 top (jQ o)).L top = some d := Option.isSome_iff_exists.1 (by rw [(hlm3.sz top).2]; exact Option.isSome_iff_exists.2 hk2)
    have hb3 : over = true ∨ btI (doW 1 L2 top (jQ o)).L top base = true := hb2.imp id fun x => by rw [hlm3.bt hC2]; exact x
    refine ⟨by omega, o, hget, ?_⟩
    refine ⟨rfl, ?_⟩
    show TrQ _ _ _ _ _ _ _
    refine TrQ.go tblOK (drawOK tblOK) [16,17,18,21] (by kernel_rfl) (Le.sub (K' := pmK3 m j) (B' := pmB L2 top base over o) ⟨rfl, rfl, rfl, rfl, rfl, rfl, rfl, trivial⟩ ⟨rfl, rfl, rfl, rfl, rfl, rfl, rfl, trivial⟩) ?_
    refine ⟨fun c1 => ?_, fun c1 => ?_⟩
    · refine ⟨fun c2 => ?_, fun c2 => ?_⟩
      · refine ⟨fun c3 => ?_, fun c3 => ?_⟩
        · show TrQ _ _ _ _ _ _ _
          refine TrQ.le (Le.sub (K' := pmK3 m j) (B' := pmB L2 top base over o) ⟨rfl, rfl, rfl, rfl, rfl, rfl, rfl, trivial⟩ ⟨rfl, rfl, rfl, rfl, rfl, rfl, rfl, trivial⟩) ?_
          refine TrQ.regionX tblOK (by kernel_rfl) ?_
          refine ⟨_, _, _, fun g => _, fun g => _, hdo, ⟨rfl, rfl, rfl, rfl, trivial⟩, rfl, fun _ => rfl, fun g => ?_⟩
          exact ⟨by omega, (j + 1, (doW 1 L2 top (jQ o)).L, over), ⟨hj1, hcs3, hk3, hb3⟩, by show m.length - (j + 1) < m.length - j; omega, Le.sub ⟨rfl, rfl, rfl, rfl, rfl, rfl, trivial⟩ ⟨rfl, rfl, rfl, rfl, rfl, rfl, trivial⟩⟩
        · show TrQ _ _ _ _ _ _ _
          refine TrQ.go tblOK (drawOK tblOK) [18,21] (by kernel_rfl) (Le.sub (K' := pmK3 m j) (B' := pmB L2 top base over o) ⟨rfl, rfl, rfl, rfl, rfl, rfl, rfl, trivial⟩ ⟨rfl, rfl, rfl, rfl, rfl, rfl, rfl, trivial⟩) ?_
          refine ⟨_, _, _, _, hal, ⟨rfl, rfl, rfl, rfl, trivial⟩, rfl, ?_⟩
          show TrQ _ _ _ _ _ _ _
          refine TrQ.go tblOK (drawOK tblOK) [21] (by kernel_rfl) (Le.sub (K' := pmK5 m j w) (B' := pmB L2 top base over o) ⟨rfl, rfl, rfl, rfl, rfl, rfl, rfl, rfl, trivial⟩ ⟨rfl, rfl, rfl, rfl, rfl, rfl, rfl, trivial⟩) ?_
          refine ⟨fun c4 => ?_, fun c4 => ?_⟩
          · refine ⟨_, _, _, _, pcancel_fn 1 40 L2 top base over, ⟨rfl, rfl, rfl, rfl, rfl, trivial⟩, rfl, ?_⟩
            show TrQ _ _ _ _ _ _ _
            refine TrQ.go tblOK (drawOK tblOK) [] (by kernel_rfl) (Le.sub (K' := pmK4 m j w) (B' := jbB 40 L2 top base true 4) ⟨rfl, rfl, rfl, rfl, rfl, rfl, rfl, trivial⟩ ⟨rfl, rfl, rfl, rfl, rfl, rfl, trivial⟩) ?_
            refine ⟨_, _, _, _, hal, ⟨rfl, rfl, rfl, rfl, trivial⟩, rfl, ?_⟩
            refine ⟨fun h => absurd (show (!decide (w = w)) = true from h) (by simp), fun _ => ?_⟩
            exact ⟨by omega, (j + 1, L2, true), ⟨hj1, hC2, hk2, .inl rfl⟩, by show m.length - (j + 1) < m.length - j; omega, Le.sub ⟨rfl, rfl, rfl, rfl, rfl, rfl, trivial⟩ ⟨rfl, rfl, rfl, rfl, rfl, rfl, trivial⟩⟩
          · refine ⟨_, _, _, _, hst, ⟨rfl, rfl, rfl, rfl, rfl, trivial⟩, rfl, ?_⟩
            show TrQ _ _ _ _ _ _ _
            refine TrQ.go tblOK (drawOK tblOK) [] (by kernel_rfl) (Le.sub (K' := pmK4 m j w) (B' := jbB 40 ps.L top base ps.over 4) ⟨rfl, rfl, rfl, rfl, rfl, rfl, rfl, trivial⟩ ⟨rfl, rfl, rfl, rfl, rfl, rfl, trivial⟩) ?_
            refine ⟨_, _, _, _, hal2, ⟨rfl, rfl, rfl, rfl, trivial⟩, rfl, ?_⟩
            refine ⟨fun h => absurd (show (!decide (w = w)) = true from h) (by simp), fun _ => ?_⟩
            exact ⟨by omega, (j + 1, ps.L, ps.over), ⟨hj1, hkp.1, hkp.2, hsb⟩, by show m.length - (j + 1) < m.length - j; omega, Le.sub ⟨rfl, rfl, rfl, rfl, rfl, rfl, trivial⟩ ⟨rfl, rfl, rfl, rfl, rfl, rfl, trivial⟩⟩
      · show TrQ _ _ _ _ _ _ _
        refine TrQ.go tblOK (drawOK tblOK) [18,21] (by kernel_rfl) (Le.sub (K' := pmK3 m j) (B' := pmB L2 top base over o) ⟨rfl, rfl, rfl, rfl, rfl, rfl, rfl, trivial⟩ ⟨rfl, rfl, rfl, rfl, rfl, rfl, rfl, trivial⟩) ?_
        refine ⟨_, _, _, _, hal, ⟨rfl, rfl, rfl, rfl, trivial⟩, rfl, ?_⟩
        show TrQ _ _ _ _ _ _ _
        refine TrQ.go tblOK (drawOK tblOK) [21] (by kernel_rfl) (Le.sub (K' := pmK5 m j w) (B' := pmB L2 top base over o) ⟨rfl, rfl, rfl, rfl, rfl, rfl, rfl, rfl, trivial⟩ ⟨rfl, rfl, rfl, rfl, rfl, rfl, rfl, trivial⟩) ?_
        refine ⟨fun c4 => ?_, fun c4 => ?_⟩
        · refine ⟨_, _, _, _, pcancel_fn 1 40 L2 top base over, ⟨rfl, rfl, rfl, rfl, rfl, trivial⟩, rfl, ?_⟩
          show TrQ _ _ _ _ _ _ _
          refine TrQ.go tblOK (drawOK tblOK) [] (by kernel_rfl) (Le.sub (K' := pmK4 m j w) (B' := jbB 40 L2 top base true 4) ⟨rfl, rfl, rfl, rfl, rfl, rfl, rfl, trivial⟩ ⟨rfl, rfl, rfl, rfl, rfl, rfl, trivial⟩) ?_
          refine ⟨_, _, _, _, hal, ⟨rfl, rfl, rfl, rfl, trivial⟩, rfl, ?_⟩
          refine ⟨fun h => absurd (show (!decide (w = w)) = true from h) (by simp), fun _ => ?_⟩
          exact ⟨by omega, (j + 1, L2, true), ⟨hj1, hC2, hk2, .inl rfl⟩, by show m.length - (j + 1) < m.length - j; omega, Le.sub ⟨rfl, rfl, rfl, rfl, rfl, rfl, trivial⟩ ⟨rfl, rfl, rfl, rfl, rfl, rfl, trivial⟩⟩
        · refine ⟨_, _, _, _, hst, ⟨rfl, rfl, rfl, rfl, rfl, trivial⟩, rfl, ?_⟩
          show TrQ _ _ _ _ _ _ _
          refine TrQ.go tblOK (drawOK tblOK) [] (by kernel_rfl) (Le.sub (K' := pmK4 m j w) (B' := jbB 40 ps.L top base ps.over 4) ⟨rfl, rfl, rfl, rfl, rfl, rfl, rfl, trivial⟩ ⟨rfl, rfl, rfl, rfl, rfl, rfl, trivial⟩) ?_
          refine ⟨_, _, _, _, hal2, ⟨rfl, rfl, rfl, rfl, trivial⟩, rfl, ?_⟩
          refine ⟨fun h => absurd (show (!decide (w = w)) = true from h) (by simp), fun _ => ?_⟩
          exact ⟨by omega, (j + 1, ps.L, ps.over), ⟨hj1, hkp.1, hkp.2, hsb⟩, by show m.length - (j + 1) < m.length - j; omega, Le.sub ⟨rfl, rfl, rfl, rfl, rfl, rfl, trivial⟩ ⟨rfl, rfl, rfl, rfl, rfl, rfl, trivial⟩⟩
    · show TrQ _ _ _ _ _ _ _
      refine TrQ.go tblOK (drawOK tblOK) [18,21] (by kernel_rfl) (Le.sub (K' := pmK3 m j) (B' := pmB L2 top base over o) ⟨rfl, rfl, rfl, rfl, rfl, rfl, rfl, trivial⟩ ⟨rfl, rfl, rfl, rfl, rfl, rfl, rfl, trivial⟩) ?_
      refine ⟨_, _, _, _, hal, ⟨rfl, rfl, rfl, rfl, trivial⟩, rfl, ?_⟩
      show TrQ _ _ _ _ _ _ _
      refine TrQ.go tblOK (drawOK tblOK) [21] (by kernel_rfl) (Le.sub (K' := pmK5 m j w) (B' := pmB L2 top base over o) ⟨rfl, rfl, rfl, rfl, rfl, rfl, rfl, rfl, trivial⟩ ⟨rfl, rfl, rfl, rfl, rfl, rfl, rfl, trivial⟩) ?_
      refine ⟨fun c4 => ?_, fun c4 => ?_⟩
      · refine ⟨_, _, _, _, pcancel_fn 1 40 L2 top base over, ⟨rfl, rfl, rfl, rfl, rfl, trivial⟩, rfl, ?_⟩
        show TrQ _ _ _ _ _ _ _
        refine TrQ.go tblOK (drawOK tblOK) [] (by kernel_rfl) (Le.sub (K' := pmK4 m j w) (B' := jbB 40 L2 top base true 4) ⟨rfl, rfl, rfl, rfl, rfl, rfl, rfl, trivial⟩ ⟨rfl, rfl, rfl, rfl, rfl, rfl, trivial⟩) ?_
        refine ⟨_, _, _, _, hal, ⟨rfl, rfl, rfl, rfl, trivial⟩, rfl, ?_⟩
        refine ⟨fun h => absurd (show (!decide (w = w)) = true from h) (by simp), fun _ => ?_⟩
        exact ⟨by omega, (j + 1, L2, true), ⟨hj1, hC2, hk2, .inl rfl⟩, by show m.length - (j + 1) < m.length - j; omega, Le.sub ⟨rfl, rfl, rfl, rfl, rfl, rfl, trivial⟩ ⟨rfl, rfl, rfl, rfl, rfl, rfl, trivial⟩⟩
      · refine ⟨_, _, _, _, hst, ⟨rfl, rfl, rfl, rfl, rfl, trivial⟩, rfl, ?_⟩
        show TrQ _ _ _ _ _ _ _
        refine TrQ.go tblOK (drawOK tblOK) [] (by kernel_rfl) (Le.sub (K' := pmK4 m j w) (B' := jbB 40 ps.L top base ps.over 4) ⟨rfl, rfl, rfl, rfl, rfl, rfl, rfl, trivial⟩ ⟨rfl, rfl, rfl, rfl, rfl, rfl, trivial⟩) ?_
        refine ⟨_, _, _, _, hal2, ⟨rfl, rfl, rfl, rfl, trivial⟩, rfl, ?_⟩
        refine ⟨fun h => absurd (show (!decide (w = w)) = true from h) (by simp), fun _ => ?_⟩
        exact ⟨by omega, (j + 1, ps.L, ps.over), ⟨hj1, hkp.1, hkp.2, hsb⟩, by show m.length - (j + 1) < m.length - j; omega, Le.sub ⟨rfl, rfl, rfl, rfl, rfl, rfl, trivial⟩ ⟨rfl, rfl, rfl, rfl, rfl, rfl, trivial⟩⟩
  · refine ⟨_, _, _, _, hfin, trivial, rfl, ?_⟩
    exact ⟨_, _, _, Le.refl _ _, rfl, rfl, trivial, rfl⟩
end Go.Proofs.Ytaciecbbiplgiaa
