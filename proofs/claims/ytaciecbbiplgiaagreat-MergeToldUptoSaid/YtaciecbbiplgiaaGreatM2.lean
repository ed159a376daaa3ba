/-
  MergeTold: what is left is told cluster by cluster.
-/
import Derived.Test.YtaciecbbiplgiaaGreatMq
set_option linter.unusedVariables false
set_option linter.unusedSimpArgs false
set_option maxRecDepth 10000
namespace Go.Proofs.YtaciecbbiplgiaaGreat
open Go.RowKit Go.Proofs
@[reducible] def rwL (a b : Int) : List S1 := [.d (.int .i64 a), .d (.int .i64 b)]
@[reducible] def rwV (a b : Int) : SV := .c (.agg (rwL a b))
@[reducible] def mtK (l : List Cop) (top : List UInt8) (a b : Int) (k : Nat) : KL := [(0, vL uC l), (1, vS top), (7, vI a), (8, vI b), (9, vP 1001), (46, vL uC l), (47, vI (l.length : Nat)), (48, vI (k : Nat))]
set_option maxHeartbeats 1000000 in
theorem mergeTold_fn (l : List Cop) (top : List UInt8) (a b : Int) (hl : l.length ≤ 1073741824) (ht : (l.map cTot).sum ≤ 1073741824) : Fn Tryz.prog 5 [vL uC l, vS top, rwV a b] [] [] (vB true) [] := by
  have hfn := Fn.arg (args := [vL uC l, .c (.one .nils)]) (few15_fn l [] hl ht (Nat.zero_le _) (Nat.zero_le _)) ⟨rfl, rfl, trivial⟩
  refine Fn.of tblOK [2,8,10,13,14,15,16,18,20,21,22] _ _ _ _ _ Tryz.func5 rfl rfl (by kernel_rfl) (by kernel_rfl) rfl (drawOK tblOK) rfl ?_
  refine ⟨rfl, ?_⟩
  refine ⟨rfl, ?_⟩
  show TrQ _ _ _ _ _ _ _
  refine TrQ.go tblOK (drawOK tblOK) [8,10,13,14,15,16,18,20,21,22] (by kernel_rfl) (Le.sub (K' := [(0, vL uC l), (1, vS top), (7, vI a), (8, vI b)]) (B' := []) ⟨rfl, rfl, rfl, rfl, trivial⟩ trivial) ?_
  refine ⟨_, _, _, _, chnew_ok 1 200 (by decide) (by decide), trivial, rfl, ?_⟩
  refine ⟨fun h => absurd h (by decide), fun _ => ?_⟩
  refine ⟨_, _, _, _, hfn, trivial, rfl, ?_⟩
  refine ⟨fun _ => ?_, fun hf => ?_⟩
  · refine ⟨fun _ => ?_, fun h => absurd h (by decide)⟩
    refine ⟨_, _, _, _, alive15_fn, trivial, rfl, ?_⟩
    exact ⟨_, _, _, Le.refl _ _, rfl, rfl, trivial, rfl⟩
  have hfew : fewJ l [] = true := by
    have hf : (!fewJ l []) = false := hf
    simpa using hf
  obtain ⟨hll, hob, hom⟩ := fewJ_get hfew
  show TrQ _ _ _ _ _ _ _
  refine TrQ.loop tblOK (drawOK tblOK) [8,10,13,14,15,16,18,20,21,22] (by kernel_rfl) (X := Nat × List Dsk) (fun x => mtK l top a b x.1) (fun x => chB 1 200 x.2) (fun x => x.1 ≤ l.length ∧ CS 1 200 x.2 ∧ Sml x.2) (fun x => l.length - x.1) (0, []) ⟨Nat.zero_le _, CS.nil (by decide) (by decide), Sml.nil⟩ ?_ ?_
  · exact Le.sub ⟨rfl, rfl, rfl, rfl, rfl, rfl, rfl, rfl, trivial⟩ ⟨rfl, rfl, rfl, rfl, trivial⟩
  rintro ⟨k, L⟩ ⟨hk, hC, hSm⟩
  have hk : k ≤ l.length := hk
  have hC : CS 1 200 L := hC
  have hSm : Sml L := hSm
  refine ⟨fun hc => ?_, fun _ => ?_⟩
  · have hc : decide ((k : Int) < ((l.length : Nat) : Int)) = true := hc
    have hk1 : k < l.length := by have := of_decide_eq_true hc; omega
    have hO := hob _ (List.getElem_mem hk1)
    refine ⟨by omega, l[k], lgAt (n := k) hk1, ?_⟩
    refine ⟨rfl, ?_⟩
    show TrQ _ _ _ _ _ _ _
    refine TrQ.regionX tblOK (by kernel_rfl) ?_
    refine ⟨_, _, _, fun g => _, fun g => _, does15_fn hC l[k] (by omega), ⟨rfl, rfl, rfl, rfl, trivial⟩, rfl, fun _ => rfl, fun g => ?_⟩
    exact ⟨by omega, (k + 1, (doD 1 200 L l[k] g.1).L), ⟨hk1, g.2, hSm.do hC hO.2⟩, by show l.length - (k + 1) < l.length - k; omega, Le.sub ⟨rfl, rfl, rfl, rfl, rfl, rfl, rfl, rfl, trivial⟩ ⟨rfl, rfl, rfl, rfl, trivial⟩⟩
  by_cases he : mbE L top = 0
  case neg =>
    have hbn := mbegin_no hC top he
    generalize mbE L top = pe at *
    show TrQ _ _ _ _ _ _ _
    refine TrQ.go tblOK (drawOK tblOK) [13,14,15,16,18,20,21,22] (by kernel_rfl) (Le.refl _ _) ?_
    refine ⟨_, _, _, _, hbn, ⟨rfl, rfl, rfl, rfl, trivial⟩, rfl, ?_⟩
    refine ⟨fun _ => ?_, fun h => ?_⟩
    · refine ⟨_, _, _, _, alive15_fn, trivial, rfl, ?_⟩
      refine ⟨fun _ => ?_, fun h => absurd h (by decide)⟩
      exact ⟨_, _, _, Le.refl _ _, rfl, (show (!decide (pe = 0)) = true by rw [decide_eq_false he]; rfl), trivial, rfl⟩
    · exfalso
      have h : (!decide (pe = 0)) = false := h
      rw [decide_eq_false he] at h
      cases h
  have hM := MJ.beg hC he fun n => by have := hSm.sz n; omega
  have hbg := mbegin_ok hC top he
  generalize (bkC L top).1 = base at *
  generalize mbL L top = l0 at *
  have hlen := hM.toMI.len
  have hst := hM.toMI.stepFn base false
  have hM2 := hM.step false
  have hkey : ∃ (dn : Bool) (er : Int) (L2 : List Dsk) (l2 : List Nat) (ov : Bool), mstep 1 L top base l0 false = ⟨dn, er, L2, l2, ov⟩ ∧ ((0 < l0.length ∧ l2.length + 1 = l0.length) ∨ (l0.length = 0 ∧ l2.length = 0 ∧ ov = true)) := by
    by_cases hne : l0 = []
    · have e0 : mstep 1 L top base l0 false = ⟨true, 0, (dsC L top 0 ((szOf L top * 2 ^ 1 : Nat) : Int)).L, [], true⟩ := by
        unfold mstep
        rw [if_neg (by decide), if_pos hne]
      exact ⟨_, _, _, _, _, e0, .inr ⟨by rw [hne]; rfl, rfl, rfl⟩⟩
    · refine ⟨_, _, _, _, _, hM.stepE hne, .inl ⟨List.length_pos_iff.2 hne, ?_⟩⟩
      have := List.length_erase_of_mem (mnN_spec hne).2.1
      have h0 := List.length_pos_iff.2 hne
      omega
  obtain ⟨dn, er, L2, l2, ov, hms, hkey⟩ := hkey
  rw [hms] at hst hM2
  have hM2 : MJ 1 200 L2 top base l2 := hM2
  have hlen2 := hM2.toMI.len
  have hlf1 := mleft_fn ((1 : Nat) : Int) ((200 : Nat) : Int) L top base l0 false
  have hlf2 := mleft_fn ((1 : Nat) : Int) ((200 : Nat) : Int) L2 top base l2 ov
  show TrQ _ _ _ _ _ _ _
  refine TrQ.go tblOK (drawOK tblOK) [13,14,15,16,18,20,21,22] (by kernel_rfl) (Le.refl _ _) ?_
  refine ⟨_, _, _, _, hbg, ⟨rfl, rfl, rfl, rfl, trivial⟩, rfl, ?_⟩
  refine ⟨fun h => absurd h (by decide), fun _ => ?_⟩
  show TrQ _ _ _ _ _ _ _
  refine TrQ.go tblOK (drawOK tblOK) [14,15,16,18,20,21,22] (by kernel_rfl) (Le.sub (K' := [(1, vS top), (7, vI a), (8, vI b), (9, vP 1001), (13, vP 2001)]) (B' := mjB 1 200 L top base l0 false) ⟨rfl, rfl, rfl, rfl, rfl, trivial⟩ ⟨rfl, rfl, rfl, rfl, rfl, rfl, trivial⟩) ?_
  refine ⟨_, _, _, _, hlf1, ⟨rfl, rfl, rfl, rfl, rfl, rfl, trivial⟩, rfl, ?_⟩
  show TrQ _ _ _ _ _ _ _
  refine TrQ.go tblOK (drawOK tblOK) [15,16,18,20,21,22] (by kernel_rfl) (Le.sub (K' := [(1, vS top), (7, vI a), (8, vI b), (9, vP 1001), (13, vP 2001), (15, vI (l0.length : Nat))]) (B' := mjB 1 200 L top base l0 false) ⟨rfl, rfl, rfl, rfl, rfl, rfl, trivial⟩ ⟨rfl, rfl, rfl, rfl, rfl, rfl, trivial⟩) ?_
  refine ⟨_, _, _, _, hst, ⟨rfl, rfl, rfl, rfl, rfl, rfl, trivial⟩, rfl, ?_⟩
  show TrQ _ _ _ _ _ _ _
  refine TrQ.go tblOK (drawOK tblOK) [16,18,20,21,22] (by kernel_rfl) (Le.sub (K' := [(1, vS top), (7, vI a), (8, vI b), (9, vP 1001), (13, vP 2001), (15, vI (l0.length : Nat))]) (B' := mjB 1 200 L2 top base l2 ov) ⟨rfl, rfl, rfl, rfl, rfl, rfl, trivial⟩ ⟨rfl, rfl, rfl, rfl, rfl, rfl, trivial⟩) ?_
  refine ⟨_, _, _, _, hlf2, ⟨rfl, rfl, rfl, rfl, rfl, rfl, trivial⟩, rfl, ?_⟩
  have mA : (-9223372036854775808 : Int) ≤ ((l0.length : Nat) : Int) - 1 ∧ ((l0.length : Nat) : Int) - 1 ≤ 9223372036854775807 := by omega
  obtain ⟨d2, hd2, _⟩ := hM2.toMI.get
  have hLm2 := hM2.cs.toChN.M (dk_get hd2).1
  have hs2 : szOf L2 top = d2.im.t.length := by unfold szOf; rw [hd2]
  show TrQ _ _ _ _ _ _ _
  refine TrQ.go tblOK (drawOK tblOK) [18,20,21,22] (by kernel_rfl) (Le.sub (K' := [(1, vS top), (7, vI a), (8, vI b), (9, vP 1001), (13, vP 2001), (15, vI (l0.length : Nat)), (16, vI (l2.length : Nat))]) (B' := mjB 1 200 L2 top base l2 ov) ⟨rfl, rfl, rfl, rfl, rfl, rfl, rfl, trivial⟩ ⟨rfl, rfl, rfl, rfl, rfl, rfl, trivial⟩) ?_
  rcases hkey with ⟨p1, p2⟩ | ⟨p1, p2, p3⟩
  · refine ⟨fun _ => ?_, fun h => ?_⟩
    case refine_2 =>
      exfalso
      have h : decide ((0 : Int) < ((l0.length : Nat) : Int)) = false := h
      have := of_decide_eq_false h
      omega
    refine ⟨mA, ?_⟩
    refine ⟨fun h => ?_, fun _ => ?_⟩
    · exfalso
      have h : (!decide (((l2.length : Nat) : Int) = ((l0.length : Nat) : Int) - 1)) = true := h
      rw [decide_eq_true (by omega)] at h
      cases h
    refine ⟨fun h => ?_, fun _ => ?_⟩
    · exfalso
      have h : decide (((l0.length : Nat) : Int) = 0) = true := h
      have := of_decide_eq_true h
      omega
    show TrQ _ _ _ _ _ _ _
    refine TrQ.go tblOK (drawOK tblOK) [20,21,22] (by kernel_rfl) (Le.sub (K' := [(1, vS top), (7, vI a), (8, vI b), (9, vP 1001), (13, vP 2001), (16, vI (l2.length : Nat))]) (B' := mjB 1 200 L2 top base l2 ov) ⟨rfl, rfl, rfl, rfl, rfl, rfl, trivial⟩ ⟨rfl, rfl, rfl, rfl, rfl, rfl, trivial⟩) ?_
    refine ⟨fun _ => ?_, fun a0 => ?_⟩
    · refine ⟨_, _, _, _, alive15_fn, trivial, rfl, ?_⟩
      exact ⟨_, _, _, Le.refl _ _, rfl, rfl, trivial, rfl⟩
    refine ⟨fun _ => ?_, fun a1 => ?_⟩
    · refine ⟨_, _, _, _, alive15_fn, trivial, rfl, ?_⟩
      exact ⟨_, _, _, Le.refl _ _, rfl, rfl, trivial, rfl⟩
    refine ⟨fun _ => ?_, fun b0 => ?_⟩
    · refine ⟨_, _, _, _, alive15_fn, trivial, rfl, ?_⟩
      exact ⟨_, _, _, Le.refl _ _, rfl, rfl, trivial, rfl⟩
    refine ⟨fun _ => ?_, fun b1 => ?_⟩
    · refine ⟨_, _, _, _, alive15_fn, trivial, rfl, ?_⟩
      exact ⟨_, _, _, Le.refl _ _, rfl, rfl, trivial, rfl⟩
    have a0 : ¬ a < 0 := of_decide_eq_false a0
    have b0 : ¬ b < 0 := of_decide_eq_false b0
    have b1 : ¬ (100 : Int) < b := of_decide_eq_false b1
    have hw := mwrote_fn hM2.cs base l2 ov a b (by omega) hd2
    have hq := mwC_len hM2.toMI ov a.toNat b.toNat
    rw [show ((a.toNat : Nat) : Int) = a by omega, show ((b.toNat : Nat) : Int) = b by omega] at hq
    have hq2 := (hM2.toMI.wr ov a b).len
    generalize mwC 1 L2 top l2 ov a b = l3 at *
    have hlf3 := mleft_fn ((1 : Nat) : Int) ((200 : Nat) : Int) L2 top base l3 ov
    have mB : (-9223372036854775808 : Int) ≤ b / 2 ∧ b / 2 ≤ 9223372036854775807 := by omega
    have mC : (-9223372036854775808 : Int) ≤ ((l2.length : Nat) : Int) + b / 2 ∧ ((l2.length : Nat) : Int) + b / 2 ≤ 9223372036854775807 := by omega
    have mD : (-9223372036854775808 : Int) ≤ ((l2.length : Nat) : Int) + b / 2 + 2 ∧ ((l2.length : Nat) : Int) + b / 2 + 2 ≤ 9223372036854775807 := by omega
    show TrQ _ _ _ _ _ _ _
    refine TrQ.go tblOK (drawOK tblOK) [21,22] (by kernel_rfl) (Le.refl _ _) ?_
    refine ⟨_, _, _, _, hw, ⟨rfl, rfl, rfl, rfl, rfl, rfl, trivial⟩, rfl, ?_⟩
    show TrQ _ _ _ _ _ _ _
    refine TrQ.go tblOK (drawOK tblOK) [22] (by kernel_rfl) (Le.sub (K' := [(1, vS top), (8, vI b), (9, vP 1001), (13, vP 2001), (16, vI (l2.length : Nat))]) (B' := mjB 1 200 L2 top base l3 ov) ⟨rfl, rfl, rfl, rfl, rfl, trivial⟩ ⟨rfl, rfl, rfl, rfl, rfl, rfl, trivial⟩) ?_
    refine ⟨_, _, _, _, hlf3, ⟨rfl, rfl, rfl, rfl, rfl, rfl, trivial⟩, rfl, ?_⟩
    show TrQ _ _ _ _ _ _ _
    refine TrQ.go tblOK (drawOK tblOK) [] (by kernel_rfl) (Le.sub (K' := [(1, vS top), (8, vI b), (9, vP 1001), (16, vI (l2.length : Nat)), (17, vI (l3.length : Nat))]) (B' := mjB 1 200 L2 top base l3 ov) ⟨rfl, rfl, rfl, rfl, rfl, trivial⟩ ⟨rfl, rfl, rfl, rfl, rfl, rfl, trivial⟩) ?_
    refine ⟨_, _, _, _, alive15_fn, trivial, rfl, ?_⟩
    refine ⟨fun _ => ?_, fun h => absurd h (by decide)⟩
    refine ⟨fun _ => ?_, fun h => ?_⟩
    · refine ⟨⟨by omega, by omega⟩, mB, mC, mD, ?_⟩
      refine ⟨fun _ => ?_, fun h => ?_⟩
      · refine ⟨_, _, _, _, image_fn _ _ L2 hM2.cs.toChN top d2 hd2, ⟨rfl, rfl, rfl, rfl, trivial⟩, rfl, ?_⟩
        refine ⟨_, _, _, _, imFn (isize_fn d2.im) hLm2 rfl rfl rfl rfl, ⟨rfl, trivial⟩, rfl, ?_⟩
        exact ⟨_, _, _, Le.refl _ _, rfl, (show decide (((l3.length : Nat) : Int) ≤ ((d2.im.t.length : Nat) : Int)) = true from decide_eq_true (by omega)), trivial, rfl⟩
      · exfalso
        have h : decide (((l3.length : Nat) : Int) ≤ ((l2.length : Nat) : Int) + b / 2 + 2) = false := h
        have := of_decide_eq_false h
        omega
    · exfalso
      have h : decide (((l2.length : Nat) : Int) ≤ ((l3.length : Nat) : Int)) = false := h
      have := of_decide_eq_false h
      omega
  · refine ⟨fun h => ?_, fun _ => ?_⟩
    · exfalso
      have h : decide ((0 : Int) < ((l0.length : Nat) : Int)) = true := h
      have := of_decide_eq_true h
      omega
    refine ⟨fun _ => ?_, fun h => ?_⟩
    case refine_2 =>
      exfalso
      have h : decide (((l0.length : Nat) : Int) = 0) = false := h
      have := of_decide_eq_false h
      omega
    refine ⟨fun h => ?_, fun _ => ?_⟩
    · exfalso
      have h : (!decide (((l2.length : Nat) : Int) = 0)) = true := h
      rw [decide_eq_true (by omega)] at h
      cases h
    refine ⟨_, _, _, _, mover_fn 1 200 L2 top base l2 ov, ⟨rfl, rfl, rfl, rfl, rfl, rfl, trivial⟩, rfl, ?_⟩
    refine ⟨fun h => ?_, fun _ => ?_⟩
    · exfalso
      have h : (!ov) = true := h
      rw [p3] at h
      cases h
    show TrQ _ _ _ _ _ _ _
    refine TrQ.go tblOK (drawOK tblOK) [20,21,22] (by kernel_rfl) (Le.sub (K' := [(1, vS top), (7, vI a), (8, vI b), (9, vP 1001), (13, vP 2001), (16, vI (l2.length : Nat))]) (B' := mjB 1 200 L2 top base l2 ov) ⟨rfl, rfl, rfl, rfl, rfl, rfl, trivial⟩ ⟨rfl, rfl, rfl, rfl, rfl, rfl, trivial⟩) ?_
    refine ⟨fun _ => ?_, fun a0 => ?_⟩
    · refine ⟨_, _, _, _, alive15_fn, trivial, rfl, ?_⟩
      exact ⟨_, _, _, Le.refl _ _, rfl, rfl, trivial, rfl⟩
    refine ⟨fun _ => ?_, fun a1 => ?_⟩
    · refine ⟨_, _, _, _, alive15_fn, trivial, rfl, ?_⟩
      exact ⟨_, _, _, Le.refl _ _, rfl, rfl, trivial, rfl⟩
    refine ⟨fun _ => ?_, fun b0 => ?_⟩
    · refine ⟨_, _, _, _, alive15_fn, trivial, rfl, ?_⟩
      exact ⟨_, _, _, Le.refl _ _, rfl, rfl, trivial, rfl⟩
    refine ⟨fun _ => ?_, fun b1 => ?_⟩
    · refine ⟨_, _, _, _, alive15_fn, trivial, rfl, ?_⟩
      exact ⟨_, _, _, Le.refl _ _, rfl, rfl, trivial, rfl⟩
    have a0 : ¬ a < 0 := of_decide_eq_false a0
    have b0 : ¬ b < 0 := of_decide_eq_false b0
    have b1 : ¬ (100 : Int) < b := of_decide_eq_false b1
    have hw := mwrote_fn hM2.cs base l2 ov a b (by omega) hd2
    have hq := mwC_len hM2.toMI ov a.toNat b.toNat
    rw [show ((a.toNat : Nat) : Int) = a by omega, show ((b.toNat : Nat) : Int) = b by omega] at hq
    have hq2 := (hM2.toMI.wr ov a b).len
    generalize mwC 1 L2 top l2 ov a b = l3 at *
    have hlf3 := mleft_fn ((1 : Nat) : Int) ((200 : Nat) : Int) L2 top base l3 ov
    have mB : (-9223372036854775808 : Int) ≤ b / 2 ∧ b / 2 ≤ 9223372036854775807 := by omega
    have mC : (-9223372036854775808 : Int) ≤ ((l2.length : Nat) : Int) + b / 2 ∧ ((l2.length : Nat) : Int) + b / 2 ≤ 9223372036854775807 := by omega
    have mD : (-9223372036854775808 : Int) ≤ ((l2.length : Nat) : Int) + b / 2 + 2 ∧ ((l2.length : Nat) : Int) + b / 2 + 2 ≤ 9223372036854775807 := by omega
    show TrQ _ _ _ _ _ _ _
    refine TrQ.go tblOK (drawOK tblOK) [21,22] (by kernel_rfl) (Le.refl _ _) ?_
    refine ⟨_, _, _, _, hw, ⟨rfl, rfl, rfl, rfl, rfl, rfl, trivial⟩, rfl, ?_⟩
    show TrQ _ _ _ _ _ _ _
    refine TrQ.go tblOK (drawOK tblOK) [22] (by kernel_rfl) (Le.sub (K' := [(1, vS top), (8, vI b), (9, vP 1001), (13, vP 2001), (16, vI (l2.length : Nat))]) (B' := mjB 1 200 L2 top base l3 ov) ⟨rfl, rfl, rfl, rfl, rfl, trivial⟩ ⟨rfl, rfl, rfl, rfl, rfl, rfl, trivial⟩) ?_
    refine ⟨_, _, _, _, hlf3, ⟨rfl, rfl, rfl, rfl, rfl, rfl, trivial⟩, rfl, ?_⟩
    show TrQ _ _ _ _ _ _ _
    refine TrQ.go tblOK (drawOK tblOK) [] (by kernel_rfl) (Le.sub (K' := [(1, vS top), (8, vI b), (9, vP 1001), (16, vI (l2.length : Nat)), (17, vI (l3.length : Nat))]) (B' := mjB 1 200 L2 top base l3 ov) ⟨rfl, rfl, rfl, rfl, rfl, trivial⟩ ⟨rfl, rfl, rfl, rfl, rfl, rfl, trivial⟩) ?_
    refine ⟨_, _, _, _, alive15_fn, trivial, rfl, ?_⟩
    refine ⟨fun _ => ?_, fun h => absurd h (by decide)⟩
    refine ⟨fun _ => ?_, fun h => ?_⟩
    · refine ⟨⟨by omega, by omega⟩, mB, mC, mD, ?_⟩
      refine ⟨fun _ => ?_, fun h => ?_⟩
      · refine ⟨_, _, _, _, image_fn _ _ L2 hM2.cs.toChN top d2 hd2, ⟨rfl, rfl, rfl, rfl, trivial⟩, rfl, ?_⟩
        refine ⟨_, _, _, _, imFn (isize_fn d2.im) hLm2 rfl rfl rfl rfl, ⟨rfl, trivial⟩, rfl, ?_⟩
        exact ⟨_, _, _, Le.refl _ _, rfl, (show decide (((l3.length : Nat) : Int) ≤ ((d2.im.t.length : Nat) : Int)) = true from decide_eq_true (by omega)), trivial, rfl⟩
      · exfalso
        have h : decide (((l3.length : Nat) : Int) ≤ ((l2.length : Nat) : Int) + b / 2 + 2) = false := h
        have := of_decide_eq_false h
        omega
    · exfalso
      have h : decide (((l2.length : Nat) : Int) ≤ ((l3.length : Nat) : Int)) = false := h
      have := of_decide_eq_false h
      omega
end Go.Proofs.YtaciecbbiplgiaaGreat
