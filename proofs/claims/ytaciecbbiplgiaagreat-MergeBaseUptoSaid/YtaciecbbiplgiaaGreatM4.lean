/-
  MergeBase: at a job's end the base reads as the top does, as far as that goes.
-/
import Derived.Test.YtaciecbbiplgiaaGreatM3
set_option linter.unusedVariables false
set_option linter.unusedSimpArgs false
set_option maxRecDepth 10000
namespace Go.Proofs.YtaciecbbiplgiaaGreat
open Go.RowKit Go.Proofs
@[reducible] def mbaK (l : List Cop) (top : List UInt8) (m : List Jop) (k : Nat) : KL := [(0, vL uC l), (1, vS top), (2, vL uJ m), (7, vP 1001), (44, vL uC l), (45, vI (l.length : Nat)), (46, vI (k : Nat))]
@[reducible] def mbaK2 (top base : List UInt8) (m : List Jop) (k : Nat) : KL := [(1, vS top), (7, vP 1001), (11, vP 2001), (13, vS base), (77, vL uJ m), (78, vI (m.length : Nat)), (79, vI (k : Nat))]
@[reducible] def mbaK3 (top base : List UInt8) (n k : Nat) : KL := [(1, vS top), (7, vP 1001), (11, vP 2001), (13, vS base), (101, vI (((n : Nat) : Int) + 1)), (102, vI (k : Nat))]
@[reducible] def mbaB (L : List Dsk) (top base : List UInt8) (l : List Nat) (over : Bool) (o : Jop) : BL := mjB 1 200 L top base l over ++ [(16, .cells (jopL o))]
theorem crdK_split (bits : Nat) (L : List Dsk) (nm : List UInt8) (kk a n : Nat) : ∀ j, ∃ r, crdK bits L nm kk a (n + j) = crdK bits L nm kk a n ++ r
  | 0 => ⟨[], by simp⟩
  | j + 1 => by
    obtain ⟨r, hr⟩ := crdK_split bits L nm kk a n j
    refine ⟨r ++ crdP bits L nm kk (a + (n + j)), ?_⟩
    show crdK bits L nm kk a (n + j) ++ crdP bits L nm kk (a + (n + j)) = _
    rw [hr, List.append_assoc]
/-- Nothing is left: the base begins as the top. -/
theorem mv_pre {room : Nat} {L : List Dsk} {top base : List UInt8} (h : MJ 1 room L top base []) (hv : MV 1 L top base []) : ∃ r, allC 1 L base = allC 1 L top ++ r := by
  obtain ⟨d, hd, _⟩ := h.dk
  obtain ⟨e, he⟩ := Option.isSome_iff_exists.1 h.kb
  have hs1 : szOf L top = d.im.t.length := by unfold szOf; rw [hd]
  have hs2 : szOf L base = e.im.t.length := by unfold szOf; rw [he]
  have hle := h.le
  have e1 : allC 1 L top = crdK 1 L top (dpt L top) 0 (d.im.t.length * 2 ^ 1) := by unfold allC; rw [hd]
  have e2 : allC 1 L base = crdK 1 L base (dpt L base) 0 (e.im.t.length * 2 ^ 1) := by unfold allC; rw [he]
  obtain ⟨r, hr⟩ := crdK_split 1 L base (dpt L base) 0 (d.im.t.length * 2 ^ 1) (e.im.t.length * 2 ^ 1 - d.im.t.length * 2 ^ 1)
  rw [show d.im.t.length * 2 ^ 1 + (e.im.t.length * 2 ^ 1 - d.im.t.length * 2 ^ 1) = e.im.t.length * 2 ^ 1 by omega] at hr
  refine ⟨r, ?_⟩
  rw [e1, e2, hr]
  congr 1
  refine crdK_congr _ fun i hi => ?_
  have := hv (0 + i) (by omega) (by simp)
  exact this.symm
/-- A job's state under MergeBase. -/
structure MB (room : Nat) (L : List Dsk) (top base : List UInt8) (l : List Nat) (ov : Bool) : Prop where
  mj : MJ 1 room L top base l
  mv : MV 1 L top base l
  no : ov = true → l = []
theorem MB.step {room : Nat} {L : List Dsk} {top base : List UInt8} {l : List Nat} {ov : Bool} (h : MB room L top base l ov) : MB room (mstep 1 L top base l ov).L top base (mstep 1 L top base l ov).l (mstep 1 L top base l ov).over ∧ ((mstep 1 L top base l ov).over = true ∨ (ov = false ∧ (mstep 1 L top base l ov).l.length + 1 = l.length)) := by
  have hm := h.mj.step ov
  have hv := (mv_step h.mj h.mv ov).1
  cases ov with
  | true =>
    exact ⟨⟨hm, hv, fun _ => h.no rfl⟩, .inl rfl⟩
  | false =>
    by_cases hne : l = []
    · subst hne
      rw [mstep_end] at hm hv ⊢
      exact ⟨⟨hm, hv, fun _ => rfl⟩, .inl rfl⟩
    · have hl := List.length_erase_of_mem (mnN_spec hne).2.1
      have h0 := List.length_pos_iff.2 hne
      rw [h.mj.stepE hne] at hm hv ⊢
      exact ⟨⟨hm, hv, fun e => by cases e⟩, .inr ⟨rfl, by show (l.erase (mnN l)).length + 1 = l.length; omega⟩⟩
set_option maxHeartbeats 2000000 in
theorem mergeBase_fn (l : List Cop) (top : List UInt8) (m : List Jop) (hl : l.length ≤ 1073741824) (ht : (l.map cTot).sum ≤ 1073741824) (hl2 : m.length ≤ 1073741824) (ht2 : (m.map jTot).sum ≤ 1073741824) : Fn Tryz.prog 4 [vL uC l, vS top, vL uJ m] [] [] (vB true) [] := by
  refine Fn.of tblOK [7,9,10,13,16,17,18,20,22,24,25] _ _ _ _ _ Tryz.func4 rfl rfl (by kernel_rfl) (by kernel_rfl) rfl (drawOK tblOK) rfl ?_
  refine ⟨_, _, _, _, chnew_ok 1 200 (by decide) (by decide), trivial, rfl, ?_⟩
  refine ⟨fun h => absurd h (by decide), fun _ => ?_⟩
  refine ⟨_, _, _, _, few15_fn l m hl ht hl2 ht2, trivial, rfl, ?_⟩
  refine ⟨fun _ => ?_, fun hf => ?_⟩
  · refine ⟨fun _ => ?_, fun h => absurd h (by decide)⟩
    refine ⟨_, _, _, _, alive15_fn, trivial, rfl, ?_⟩
    exact ⟨_, _, _, Le.refl _ _, rfl, rfl, trivial, rfl⟩
  have hfew : fewJ l m = true := by
    have hf : (!fewJ l m) = false := hf
    simpa using hf
  obtain ⟨hll, hob, hom⟩ := fewJ_get hfew
  show TrQ _ _ _ _ _ _ _
  refine TrQ.loop tblOK (drawOK tblOK) [7,9,10,13,16,17,18,20,22,24,25] (by kernel_rfl) (X := Nat × List Dsk) (fun x => mbaK l top m x.1) (fun x => chB 1 200 x.2) (fun x => x.1 ≤ l.length ∧ CS 1 200 x.2 ∧ Sml x.2) (fun x => l.length - x.1) (0, []) ⟨Nat.zero_le _, CS.nil (by decide) (by decide), Sml.nil⟩ ?_ ?_
  · exact Le.sub ⟨rfl, rfl, rfl, rfl, rfl, rfl, rfl, trivial⟩ ⟨rfl, rfl, rfl, rfl, trivial⟩
  rintro ⟨k, L⟩ ⟨hk, hC, hSm⟩
  have hk : k ≤ l.length := hk
  have hC : CS 1 200 L := hC
  have hSm : Sml L := hSm
  refine ⟨fun hc => ?_, fun _ => ?_⟩
  · have hc : decide ((k : Int) < ((l.length : Nat) : Int)) = true := hc
    have hk1 : k < l.length := by have := of_decide_eq_true hc; omega
    have hO := hob _ (List.getElem_mem hk1)
    refine ⟨by omega, l[k], lgAt (n := k) hk1, ?_⟩
    refine ⟨rfl, ?_⟩
    show TrQ _ _ _ _ _ _ _
    refine TrQ.regionX tblOK (by kernel_rfl) ?_
    refine ⟨_, _, _, fun g => _, fun g => _, does15_fn hC l[k] (by omega), ⟨rfl, rfl, rfl, rfl, trivial⟩, rfl, fun _ => rfl, fun g => ?_⟩
    exact ⟨by omega, (k + 1, (doD 1 200 L l[k] g.1).L), ⟨hk1, g.2, hSm.do hC hO.2⟩, by show l.length - (k + 1) < l.length - k; omega, Le.sub ⟨rfl, rfl, rfl, rfl, rfl, rfl, rfl, trivial⟩ ⟨rfl, rfl, rfl, rfl, trivial⟩⟩
  by_cases he : mbE L top = 0
  case neg =>
    have hbn := mbegin_no hC top he
    have hbk := chback_fn hC top
    generalize mbE L top = pe at *
    generalize bkC L top = bk at *
    show TrQ _ _ _ _ _ _ _
    refine TrQ.go tblOK (drawOK tblOK) [10,13,16,17,18,20,22,24,25] (by kernel_rfl) (Le.refl _ _) ?_
    refine ⟨_, _, _, _, hbn, ⟨rfl, rfl, rfl, rfl, trivial⟩, rfl, ?_⟩
    show TrQ _ _ _ _ _ _ _
    refine TrQ.go tblOK (drawOK tblOK) [13,16,17,18,20,22,24,25] (by kernel_rfl) (Le.refl _ _) ?_
    refine ⟨_, _, _, _, hbk, ⟨rfl, rfl, rfl, rfl, trivial⟩, rfl, ?_⟩
    refine ⟨fun _ => ?_, fun h => ?_⟩
    · refine ⟨_, _, _, _, alive15_fn, trivial, rfl, ?_⟩
      refine ⟨fun _ => ?_, fun h => absurd h (by decide)⟩
      exact ⟨_, _, _, Le.refl _ _, rfl, (show (!decide (pe = 0)) = true by rw [decide_eq_false he]; rfl), trivial, rfl⟩
    · exfalso
      have h : (!decide (pe = 0)) = false := h
      rw [decide_eq_false he] at h
      cases h
  have hM := MJ.beg hC he fun n => by have := hSm.sz n; omega
  have hV := mv_beg hC he
  have hbg := mbegin_ok hC top he
  have hbk := chback_fn hC top
  rw [(mbE_ok he).1] at hbk
  have hB0 : MB 200 L top (bkC L top).1 (mbL L top) false := ⟨hM, hV, fun e => by cases e⟩
  generalize (bkC L top).1 = base at *
  generalize mbL L top = l0 at *
  show TrQ _ _ _ _ _ _ _
  refine TrQ.go tblOK (drawOK tblOK) [10,13,16,17,18,20,22,24,25] (by kernel_rfl) (Le.refl _ _) ?_
  refine ⟨_, _, _, _, hbg, ⟨rfl, rfl, rfl, rfl, trivial⟩, rfl, ?_⟩
  show TrQ _ _ _ _ _ _ _
  refine TrQ.go tblOK (drawOK tblOK) [13,16,17,18,20,22,24,25] (by kernel_rfl) (Le.sub (K' := [(1, vS top), (2, vL uJ m), (7, vP 1001), (11, vP 2001), (12, vI 0)]) (B' := mjB 1 200 L top base l0 false) ⟨rfl, rfl, rfl, rfl, rfl, trivial⟩ ⟨rfl, rfl, rfl, rfl, rfl, rfl, trivial⟩) ?_
  refine ⟨_, _, _, _, hbk, ⟨rfl, rfl, rfl, rfl, trivial⟩, rfl, ?_⟩
  refine ⟨fun h => absurd h (by decide), fun _ => ?_⟩
  show TrQ _ _ _ _ _ _ _
  refine TrQ.go tblOK (drawOK tblOK) [16,17,18,20,22,24,25] (by kernel_rfl) (Le.sub (K' := [(1, vS top), (2, vL uJ m), (7, vP 1001), (11, vP 2001), (13, vS base)]) (B' := mjB 1 200 L top base l0 false) ⟨rfl, rfl, rfl, rfl, rfl, trivial⟩ ⟨rfl, rfl, rfl, rfl, rfl, rfl, trivial⟩) ?_
  show TrQ _ _ _ _ _ _ _
  refine TrQ.loop tblOK (drawOK tblOK) [16,17,18,20,22,24,25] (by kernel_rfl) (X := Nat × List Dsk × List Nat × Bool) (fun x => mbaK2 top base m x.1) (fun x => mjB 1 200 x.2.1 top base x.2.2.1 x.2.2.2) (fun x => x.1 ≤ m.length ∧ MB 200 x.2.1 top base x.2.2.1 x.2.2.2) (fun x => m.length - x.1) (0, L, l0, false) ⟨Nat.zero_le _, hB0⟩ ?_ ?_
  · exact Le.sub ⟨rfl, rfl, rfl, rfl, rfl, rfl, rfl, trivial⟩ ⟨rfl, rfl, rfl, rfl, rfl, rfl, trivial⟩
  rintro ⟨j, L2, l2, ov⟩ ⟨hj, hB2⟩
  have hj : j ≤ m.length := hj
  have hB2 : MB 200 L2 top base l2 ov := hB2
  have hlf := mleft_fn ((1 : Nat) : Int) ((200 : Nat) : Int) L2 top base l2 ov
  have hov := mover_fn ((1 : Nat) : Int) ((200 : Nat) : Int) L2 top base l2 ov
  have hst := hB2.mj.toMI.stepFn base ov
  have hkp := hB2.step.1
  have hll2 := hB2.mj.toMI.len
  refine ⟨fun hc => ?_, fun hc => ?_⟩
  · have hc : decide ((j : Int) < ((m.length : Nat) : Int)) = true := hc
    have hj1 : j < m.length := by have := of_decide_eq_true hc; omega
    have hO := hom _ (List.getElem_mem hj1)
    have hget := lgAt (n := j) hj1
    generalize m[j] = o at *
    have hjt : jTot o = (qB (jQ o)).length := rfl
    have hw := writes15_fn hB2.mj.toMI base ov o (by omega)
    have hwv := wt_mv hB2.mj hB2.mv o
    generalize mstep 1 L2 top base l2 ov = ms at *
    refine ⟨by omega, o, hget, ?_⟩
    refine ⟨rfl, ?_⟩
    show TrQ _ _ _ _ _ _ _
    refine TrQ.go tblOK (drawOK tblOK) [17,18,20,22,24,25] (by kernel_rfl) (Le.sub (K' := [(1, vS top), (7, vP 1001), (11, vP 2001), (13, vS base), (77, vL uJ m), (78, vI (m.length : Nat)), (79, vI (j : Nat)), (16, vP 16)]) (B' := mbaB L2 top base l2 ov o) ⟨rfl, rfl, rfl, rfl, rfl, rfl, rfl, rfl, trivial⟩ ⟨rfl, rfl, rfl, rfl, rfl, rfl, rfl, trivial⟩) ?_
    refine ⟨fun c1 => ?_, fun c1 => ?_⟩
    · refine ⟨_, _, _, _, hov, ⟨rfl, rfl, rfl, rfl, rfl, rfl, trivial⟩, rfl, ?_⟩
      refine ⟨fun c2 => ?_, fun c2 => ?_⟩
      · have c2 : ov = false := by
          have c2 : (!ov) = true := c2
          simpa using c2
        subst c2
        show TrQ _ _ _ _ _ _ _
        refine TrQ.go tblOK (drawOK tblOK) [18,20,22,24,25] (by kernel_rfl) (Le.sub (K' := [(1, vS top), (7, vP 1001), (11, vP 2001), (13, vS base), (77, vL uJ m), (78, vI (m.length : Nat)), (79, vI (j : Nat)), (16, vP 16)]) (B' := mbaB L2 top base l2 false o) ⟨rfl, rfl, rfl, rfl, rfl, rfl, rfl, rfl, trivial⟩ ⟨rfl, rfl, rfl, rfl, rfl, rfl, rfl, trivial⟩) ?_
        refine ⟨_, _, _, _, hw, ⟨rfl, rfl, rfl, rfl, rfl, rfl, trivial⟩, rfl, ?_⟩
        exact ⟨by omega, (j + 1, (wtC 1 L2 top o).L, wtL 1 L2 top l2 false o, false), ⟨hj1, hwv.1, hwv.2, fun e => by cases e⟩, by show m.length - (j + 1) < m.length - j; omega, Le.sub ⟨rfl, rfl, rfl, rfl, rfl, rfl, rfl, trivial⟩ ⟨rfl, rfl, rfl, rfl, rfl, rfl, trivial⟩⟩
      · show TrQ _ _ _ _ _ _ _
        refine TrQ.go tblOK (drawOK tblOK) [20,22,24,25] (by kernel_rfl) (Le.sub (K' := mbaK2 top base m j) (B' := mjB 1 200 L2 top base l2 ov) ⟨rfl, rfl, rfl, rfl, rfl, rfl, rfl, trivial⟩ ⟨rfl, rfl, rfl, rfl, rfl, rfl, trivial⟩) ?_
        refine ⟨_, _, _, _, hst, ⟨rfl, rfl, rfl, rfl, rfl, rfl, trivial⟩, rfl, ?_⟩
        exact ⟨by omega, (j + 1, ms.L, ms.l, ms.over), ⟨hj1, hkp⟩, by show m.length - (j + 1) < m.length - j; omega, Le.sub ⟨rfl, rfl, rfl, rfl, rfl, rfl, rfl, trivial⟩ ⟨rfl, rfl, rfl, rfl, rfl, rfl, trivial⟩⟩
    · show TrQ _ _ _ _ _ _ _
      refine TrQ.go tblOK (drawOK tblOK) [20,22,24,25] (by kernel_rfl) (Le.sub (K' := mbaK2 top base m j) (B' := mjB 1 200 L2 top base l2 ov) ⟨rfl, rfl, rfl, rfl, rfl, rfl, rfl, trivial⟩ ⟨rfl, rfl, rfl, rfl, rfl, rfl, trivial⟩) ?_
      refine ⟨_, _, _, _, hst, ⟨rfl, rfl, rfl, rfl, rfl, rfl, trivial⟩, rfl, ?_⟩
      exact ⟨by omega, (j + 1, ms.L, ms.l, ms.over), ⟨hj1, hkp⟩, by show m.length - (j + 1) < m.length - j; omega, Le.sub ⟨rfl, rfl, rfl, rfl, rfl, rfl, rfl, trivial⟩ ⟨rfl, rfl, rfl, rfl, rfl, rfl, trivial⟩⟩
  generalize hn : l2.length = n at *
  show TrQ _ _ _ _ _ _ _
  refine TrQ.go tblOK (drawOK tblOK) [22,24,25] (by kernel_rfl) (Le.refl _ _) ?_
  refine ⟨_, _, _, _, hlf, ⟨rfl, rfl, rfl, rfl, rfl, rfl, trivial⟩, rfl, ?_⟩
  refine ⟨by omega, ?_⟩
  show TrQ _ _ _ _ _ _ _
  refine TrQ.loop tblOK (drawOK tblOK) [22,24,25] (by kernel_rfl) (X := Nat × List Dsk × List Nat × Bool) (fun x => mbaK3 top base n x.1) (fun x => mjB 1 200 x.2.1 top base x.2.2.1 x.2.2.2) (fun x => x.1 ≤ n + 1 ∧ MB 200 x.2.1 top base x.2.2.1 x.2.2.2 ∧ (x.2.2.2 = true ∨ x.2.2.1.length + x.1 ≤ n)) (fun x => n + 1 - x.1) (0, L2, l2, ov) ⟨Nat.zero_le _, hB2, .inr (Nat.le_of_eq hn)⟩ ?_ ?_
  · exact Le.sub ⟨rfl, rfl, rfl, rfl, rfl, rfl, trivial⟩ ⟨rfl, rfl, rfl, rfl, rfl, rfl, trivial⟩
  rintro ⟨i, L3, l3, ov3⟩ ⟨hi, hB3, hE⟩
  have hi : i ≤ n + 1 := hi
  have hB3 : MB 200 L3 top base l3 ov3 := hB3
  have hE : ov3 = true ∨ l3.length + i ≤ n := hE
  have hst3 := hB3.mj.toMI.stepFn base ov3
  have hov3 := mover_fn ((1 : Nat) : Int) ((200 : Nat) : Int) L3 top base l3 ov3
  obtain ⟨hkp3, hdn3⟩ := hB3.step
  have hdn4 : (mstep 1 L3 top base l3 ov3).over = true ∨ (mstep 1 L3 top base l3 ov3).l.length + (i + 1) ≤ n := by
    rcases hdn3 with h | ⟨h1, h2⟩
    · exact .inl h
    · rcases hE with hE | hE
      · rw [h1] at hE; cases hE
      · exact .inr (by omega)
  have ha1 := all15_fn hB3.mj.cs top
  have ha2 := all15_fn hB3.mj.cs base
  have hpre := fun (e : l3 = []) => mv_pre (e ▸ hB3.mj) (e ▸ hB3.mv)
  have hno := hB3.no
  generalize mstep 1 L3 top base l3 ov3 = ms3 at *
  generalize allC 1 L3 top = a1 at *
  generalize allC 1 L3 base = a2 at *
  refine ⟨fun hc => ?_, fun hc => ?_⟩
  · have hc : decide ((i : Int) < ((n : Nat) : Int) + 1) = true := hc
    have hi1 : i < n + 1 := by have := of_decide_eq_true hc; omega
    show TrQ _ _ _ _ _ _ _
    refine TrQ.go tblOK (drawOK tblOK) [24,25] (by kernel_rfl) (Le.refl _ _) ?_
    refine ⟨_, _, _, _, hst3, ⟨rfl, rfl, rfl, rfl, rfl, rfl, trivial⟩, rfl, ?_⟩
    exact ⟨by omega, (i + 1, ms3.L, ms3.l, ms3.over), ⟨hi1, hkp3, hdn4⟩, by show n + 1 - (i + 1) < n + 1 - i; omega, Le.sub ⟨rfl, rfl, rfl, rfl, rfl, rfl, trivial⟩ ⟨rfl, rfl, rfl, rfl, rfl, rfl, trivial⟩⟩
  · have hc : decide ((i : Int) < ((n : Nat) : Int) + 1) = false := hc
    have hi2 : ¬ i < n + 1 := by have := of_decide_eq_false hc; omega
    have ho : ov3 = true := hE.resolve_right (by omega)
    subst ho
    obtain ⟨r, hr⟩ := hpre (hno rfl)
    show TrQ _ _ _ _ _ _ _
    refine TrQ.go tblOK (drawOK tblOK) [25] (by kernel_rfl) (Le.refl _ _) ?_
    refine ⟨_, _, _, _, ha1, ⟨rfl, rfl, rfl, rfl, trivial⟩, rfl, ?_⟩
    refine ⟨_, _, _, _, ha2, ⟨rfl, rfl, rfl, rfl, trivial⟩, rfl, ?_⟩
    show TrQ _ _ _ _ _ _ _
    refine TrQ.go tblOK (drawOK tblOK) [] (by kernel_rfl) (Le.sub (K' := [(11, vP 2001), (17, vS a1), (18, vS a2)]) (B' := mjB 1 200 L3 top base l3 true) ⟨rfl, rfl, rfl, trivial⟩ ⟨rfl, rfl, rfl, rfl, rfl, rfl, trivial⟩) ?_
    refine ⟨_, _, _, _, alive15_fn, trivial, rfl, ?_⟩
    refine ⟨fun _ => ?_, fun h => absurd h (by decide)⟩
    refine ⟨_, _, _, _, hov3, ⟨rfl, rfl, rfl, rfl, rfl, rfl, trivial⟩, rfl, ?_⟩
    refine ⟨fun _ => ?_, fun h => absurd h (by decide)⟩
    have hlen : a1.length ≤ a2.length := by rw [hr, List.length_append]; omega
    refine ⟨fun _ => ?_, fun h => ?_⟩
    · refine ⟨by omega, ?_⟩
      refine ⟨_, _, _, Le.refl _ _, rfl, ?_, trivial, rfl⟩
      show decide (_ = a1) = true
      refine decide_eq_true ?_
      subst hr
      simp
    · exfalso
      have h : decide (((a1.length : Nat) : Int) ≤ ((a2.length : Nat) : Int)) = false := h
      have := of_decide_eq_false h
      omega
end Go.Proofs.YtaciecbbiplgiaaGreat
