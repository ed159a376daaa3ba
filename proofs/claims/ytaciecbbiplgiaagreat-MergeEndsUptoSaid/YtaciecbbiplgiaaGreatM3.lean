/-
  MergeEnds: as many steps as clusters are left, and one more, end a job, if there is room; then the top has Holes alone, and reads as ever.
-/
import Derived.Test.YtaciecbbiplgiaaGreatMv
set_option linter.unusedVariables false
set_option linter.unusedSimpArgs false
set_option maxRecDepth 10000
namespace Go.Proofs.YtaciecbbiplgiaaGreat
open Go.RowKit Go.Proofs
@[reducible] def meK (l : List Cop) (top : List UInt8) (m : List Jop) (k : Nat) : KL := [(0, vL uC l), (1, vS top), (2, vL uJ m), (7, vP 1001), (47, vL uC l), (48, vI (l.length : Nat)), (49, vI (k : Nat))]
@[reducible] def meK2 (top : List UInt8) (m : List Jop) (k : Nat) : KL := [(1, vS top), (7, vP 1001), (11, vP 2001), (74, vL uJ m), (75, vI (m.length : Nat)), (76, vI (k : Nat))]
@[reducible] def meK3 (top was : List UInt8) (n k : Nat) : KL := [(1, vS top), (7, vP 1001), (11, vP 2001), (15, vS was), (16, vI (n : Nat)), (100, vI (((n : Nat) : Int) + 1)), (101, vI (k : Nat))]
@[reducible] def meK4 (top was : List UInt8) (am n k : Nat) : KL := [(1, vS top), (7, vP 1001), (11, vP 2001), (15, vS was), (20, vAd am), (123, vI (n : Nat)), (124, vI (k : Nat))]
@[reducible] def meB (L : List Dsk) (top base : List UInt8) (l : List Nat) (over : Bool) (o : Jop) : BL := mjB 1 200 L top base l over ++ [(14, .cells (jopL o))]
/-- A job's last steps. -/
structure ME (room : Nat) (L : List Dsk) (top base was : List UInt8) (l : List Nat) (ov : Bool) (n j : Nat) : Prop where
  mj : MJ 1 room L top base l
  mv : MV 1 L top base l
  al : allC 1 L top = was
  st : (ov = false ∧ l.length + j = n) ∨ (ov = true ∧ j = n + 1 ∧ ∀ k, k < szOf L top → kdOf L top k = 0)
theorem ME.next {room : Nat} {L : List Dsk} {top base was : List UInt8} {l : List Nat} {ov : Bool} {n j : Nat} (h : ME room L top base was l ov n j) (hj : j < n + 1) : ov = false ∧ ∃ L' l', mstep 1 L top base l ov = ⟨decide (j = n), 0, L', l', decide (j = n)⟩ ∧ ME room L' top base was l' (decide (j = n)) n (j + 1) := by
  rcases h.st with ⟨h1, h2⟩ | ⟨_, h2, _⟩
  · refine ⟨h1, ?_⟩
    subst h1
    have hm := h.mj.step false
    obtain ⟨hv, ha⟩ := mv_step h.mj h.mv false
    by_cases hne : l = []
    · subst hne
      have hjn : j = n := by simpa using h2
      rw [mstep_end] at hm hv ha ⊢
      obtain ⟨_, _, g3⟩ := mv_end h.mj h.mv
      rw [decide_eq_true hjn]
      refine ⟨_, _, rfl, hm, hv, ha.trans h.al, .inr ⟨rfl, by omega, fun k hk => g3 k ?_⟩⟩
      rw [((dsC_lm h.mj.cs top 0 ((szOf L top * 2 ^ 1 : Nat) : Int)).sz top).1] at hk
      exact hk
    · have hl := List.length_erase_of_mem (mnN_spec hne).2.1
      have h0 := List.length_pos_iff.2 hne
      have hjn : ¬ j = n := by omega
      rw [h.mj.stepE hne] at hm hv ha ⊢
      rw [decide_eq_false hjn]
      exact ⟨_, _, rfl, hm, hv, ha.trans h.al, .inl ⟨rfl, by omega⟩⟩
  · omega
set_option maxHeartbeats 2000000 in
theorem mergeEnds_fn (l : List Cop) (top : List UInt8) (m : List Jop) (hl : l.length ≤ 1073741824) (ht : (l.map cTot).sum ≤ 1073741824) (hl2 : m.length ≤ 1073741824) (ht2 : (m.map jTot).sum ≤ 1073741824) : Fn Tryz.prog 3 [vL uC l, vS top, vL uJ m] [] [] (vB true) [] := by
  refine Fn.of tblOK [7,9,12,15,16,17,18,20,21,22,25,26,29,33,36] _ _ _ _ _ Tryz.func3 rfl rfl (by kernel_rfl) (by kernel_rfl) rfl (drawOK tblOK) rfl ?_
  refine ⟨_, _, _, _, chnew_ok 1 200 (by decide) (by decide), trivial, rfl, ?_⟩
  refine ⟨fun h => absurd h (by decide), fun _ => ?_⟩
  refine ⟨_, _, _, _, few15_fn l m hl ht hl2 ht2, trivial, rfl, ?_⟩
  refine ⟨fun _ => ?_, fun hf => ?_⟩
  · refine ⟨fun _ => ?_, fun h => absurd h (by decide)⟩
    refine ⟨_, _, _, _, alive15_fn, trivial, rfl, ?_⟩
    exact ⟨_, _, _, Le.refl _ _, rfl, rfl, trivial, rfl⟩
  have hfew : fewJ l m = true := by
    have hf : (!fewJ l m) = false := hf
    simpa using hf
  obtain ⟨hll, hob, hom⟩ := fewJ_get hfew
  show TrQ _ _ _ _ _ _ _
  refine TrQ.loop tblOK (drawOK tblOK) [7,9,12,15,16,17,18,20,21,22,25,26,29,33,36] (by kernel_rfl) (X := Nat × List Dsk) (fun x => meK l top m x.1) (fun x => chB 1 200 x.2) (fun x => x.1 ≤ l.length ∧ CS 1 200 x.2 ∧ Sml x.2) (fun x => l.length - x.1) (0, []) ⟨Nat.zero_le _, CS.nil (by decide) (by decide), Sml.nil⟩ ?_ ?_
  · exact Le.sub ⟨rfl, rfl, rfl, rfl, rfl, rfl, rfl, trivial⟩ ⟨rfl, rfl, rfl, rfl, trivial⟩
  rintro ⟨k, L⟩ ⟨hk, hC, hSm⟩
  have hk : k ≤ l.length := hk
  have hC : CS 1 200 L := hC
  have hSm : Sml L := hSm
  refine ⟨fun hc => ?_, fun _ => ?_⟩
  · have hc : decide ((k : Int) < ((l.length : Nat) : Int)) = true := hc
    have hk1 : k < l.length := by have := of_decide_eq_true hc; omega
    have hO := hob _ (List.getElem_mem hk1)
    refine ⟨by omega, l[k], lgAt (n := k) hk1, ?_⟩
    refine ⟨rfl, ?_⟩
    show TrQ _ _ _ _ _ _ _
    refine TrQ.regionX tblOK (by kernel_rfl) ?_
    refine ⟨_, _, _, fun g => _, fun g => _, does15_fn hC l[k] (by omega), ⟨rfl, rfl, rfl, rfl, trivial⟩, rfl, fun _ => rfl, fun g => ?_⟩
    exact ⟨by omega, (k + 1, (doD 1 200 L l[k] g.1).L), ⟨hk1, g.2, hSm.do hC hO.2⟩, by show l.length - (k + 1) < l.length - k; omega, Le.sub ⟨rfl, rfl, rfl, rfl, rfl, rfl, rfl, trivial⟩ ⟨rfl, rfl, rfl, rfl, trivial⟩⟩
  by_cases he : mbE L top = 0
  case neg =>
    have hbn := mbegin_no hC top he
    generalize mbE L top = pe at *
    show TrQ _ _ _ _ _ _ _
    refine TrQ.go tblOK (drawOK tblOK) [12,15,16,17,18,20,21,22,25,26,29,33,36] (by kernel_rfl) (Le.refl _ _) ?_
    refine ⟨_, _, _, _, hbn, ⟨rfl, rfl, rfl, rfl, trivial⟩, rfl, ?_⟩
    refine ⟨fun _ => ?_, fun h => ?_⟩
    · refine ⟨_, _, _, _, alive15_fn, trivial, rfl, ?_⟩
      refine ⟨fun _ => ?_, fun h => absurd h (by decide)⟩
      exact ⟨_, _, _, Le.refl _ _, rfl, (show (!decide (pe = 0)) = true by rw [decide_eq_false he]; rfl), trivial, rfl⟩
    · exfalso
      have h : (!decide (pe = 0)) = false := h
      rw [decide_eq_false he] at h
      cases h
  have hM := MJ.beg hC he fun n => by have := hSm.sz n; omega
  have hV := mv_beg hC he
  have hbg := mbegin_ok hC top he
  generalize (bkC L top).1 = base at *
  generalize mbL L top = l0 at *
  show TrQ _ _ _ _ _ _ _
  refine TrQ.go tblOK (drawOK tblOK) [12,15,16,17,18,20,21,22,25,26,29,33,36] (by kernel_rfl) (Le.refl _ _) ?_
  refine ⟨_, _, _, _, hbg, ⟨rfl, rfl, rfl, rfl, trivial⟩, rfl, ?_⟩
  refine ⟨fun h => absurd h (by decide), fun _ => ?_⟩
  show TrQ _ _ _ _ _ _ _
  refine TrQ.go tblOK (drawOK tblOK) [15,16,17,18,20,21,22,25,26,29,33,36] (by kernel_rfl) (Le.sub (K' := [(1, vS top), (2, vL uJ m), (7, vP 1001), (11, vP 2001)]) (B' := mjB 1 200 L top base l0 false) ⟨rfl, rfl, rfl, rfl, trivial⟩ ⟨rfl, rfl, rfl, rfl, rfl, rfl, trivial⟩) ?_
  show TrQ _ _ _ _ _ _ _
  refine TrQ.loop tblOK (drawOK tblOK) [15,16,17,18,20,21,22,25,26,29,33,36] (by kernel_rfl) (X := Nat × List Dsk × List Nat) (fun x => meK2 top m x.1) (fun x => mjB 1 200 x.2.1 top base x.2.2 false) (fun x => x.1 ≤ m.length ∧ MJ 1 200 x.2.1 top base x.2.2 ∧ MV 1 x.2.1 top base x.2.2) (fun x => m.length - x.1) (0, L, l0) ⟨Nat.zero_le _, hM, hV⟩ ?_ ?_
  · exact Le.sub ⟨rfl, rfl, rfl, rfl, rfl, rfl, trivial⟩ ⟨rfl, rfl, rfl, rfl, rfl, rfl, trivial⟩
  rintro ⟨j, L2, l2⟩ ⟨hj, hM2, hV2⟩
  have hj : j ≤ m.length := hj
  have hM2 : MJ 1 200 L2 top base l2 := hM2
  have hV2 : MV 1 L2 top base l2 := hV2
  have hlf := mleft_fn ((1 : Nat) : Int) ((200 : Nat) : Int) L2 top base l2 false
  have hal := all15_fn hM2.cs top
  have hst := hM2.toMI.stepFn base false
  have hkp := hM2.step false
  have hkv := (mv_step hM2 hV2 false).1
  have hll2 := hM2.toMI.len
  have hme : ME 200 L2 top base (allC 1 L2 top) l2 false l2.length 0 := ⟨hM2, hV2, rfl, .inl ⟨rfl, rfl⟩⟩
  generalize allC 1 L2 top = was at *
  refine ⟨fun hc => ?_, fun hc => ?_⟩
  · have hc : decide ((j : Int) < ((m.length : Nat) : Int)) = true := hc
    have hj1 : j < m.length := by have := of_decide_eq_true hc; omega
    have hO := hom _ (List.getElem_mem hj1)
    have hget := lgAt (n := j) hj1
    generalize m[j] = o at *
    have hjt : jTot o = (qB (jQ o)).length := rfl
    have hw := writes15_fn hM2.toMI base false o (by omega)
    obtain ⟨hwm, hwv⟩ := wt_mv hM2 hV2 o
    refine ⟨by omega, o, hget, ?_⟩
    refine ⟨rfl, ?_⟩
    show TrQ _ _ _ _ _ _ _
    refine TrQ.go tblOK (drawOK tblOK) [16,17,18,20,21,22,25,26,29,33,36] (by kernel_rfl) (Le.sub (K' := [(1, vS top), (7, vP 1001), (11, vP 2001), (74, vL uJ m), (75, vI (m.length : Nat)), (76, vI (j : Nat)), (14, vP 14)]) (B' := meB L2 top base l2 false o) ⟨rfl, rfl, rfl, rfl, rfl, rfl, rfl, trivial⟩ ⟨rfl, rfl, rfl, rfl, rfl, rfl, rfl, trivial⟩) ?_
    refine ⟨fun c1 => ?_, fun c1 => ?_⟩
    · show TrQ _ _ _ _ _ _ _
      refine TrQ.go tblOK (drawOK tblOK) [17,18,20,21,22,25,26,29,33,36] (by kernel_rfl) (Le.refl _ _) ?_
      refine ⟨_, _, _, _, hw, ⟨rfl, rfl, rfl, rfl, rfl, rfl, trivial⟩, rfl, ?_⟩
      exact ⟨by omega, (j + 1, (wtC 1 L2 top o).L, wtL 1 L2 top l2 false o), ⟨hj1, hwm, hwv⟩, by show m.length - (j + 1) < m.length - j; omega, Le.sub ⟨rfl, rfl, rfl, rfl, rfl, rfl, trivial⟩ ⟨rfl, rfl, rfl, rfl, rfl, rfl, trivial⟩⟩
    · show TrQ _ _ _ _ _ _ _
      refine TrQ.go tblOK (drawOK tblOK) [18,20,21,22,25,26,29,33,36] (by kernel_rfl) (Le.sub (K' := meK2 top m j) (B' := mjB 1 200 L2 top base l2 false) ⟨rfl, rfl, rfl, rfl, rfl, rfl, trivial⟩ ⟨rfl, rfl, rfl, rfl, rfl, rfl, trivial⟩) ?_
      refine ⟨_, _, _, _, hlf, ⟨rfl, rfl, rfl, rfl, rfl, rfl, trivial⟩, rfl, ?_⟩
      refine ⟨fun c2 => ?_, fun c2 => ?_⟩
      · have c2 : decide ((0 : Int) < ((l2.length : Nat) : Int)) = true := c2
        have c2 := of_decide_eq_true c2
        have hne : l2 ≠ [] := List.length_pos_iff.1 (by omega)
        rw [hM2.stepE hne] at hst hkp hkv
        show TrQ _ _ _ _ _ _ _
        refine TrQ.go tblOK (drawOK tblOK) [20,21,22,25,26,29,33,36] (by kernel_rfl) (Le.sub (K' := meK2 top m j) (B' := mjB 1 200 L2 top base l2 false) ⟨rfl, rfl, rfl, rfl, rfl, rfl, trivial⟩ ⟨rfl, rfl, rfl, rfl, rfl, rfl, trivial⟩) ?_
        refine ⟨_, _, _, _, hst, ⟨rfl, rfl, rfl, rfl, rfl, rfl, trivial⟩, rfl, ?_⟩
        exact ⟨by omega, (j + 1, (brC 1 L2 top base (mnN l2)).L, l2.erase (mnN l2)), ⟨hj1, hkp, hkv⟩, by show m.length - (j + 1) < m.length - j; omega, Le.sub ⟨rfl, rfl, rfl, rfl, rfl, rfl, trivial⟩ ⟨rfl, rfl, rfl, rfl, rfl, rfl, trivial⟩⟩
      · exact ⟨by omega, (j + 1, L2, l2), ⟨hj1, hM2, hV2⟩, by show m.length - (j + 1) < m.length - j; omega, Le.sub ⟨rfl, rfl, rfl, rfl, rfl, rfl, trivial⟩ ⟨rfl, rfl, rfl, rfl, rfl, rfl, trivial⟩⟩
  generalize hn : l2.length = n at *
  show TrQ _ _ _ _ _ _ _
  refine TrQ.go tblOK (drawOK tblOK) [21,22,25,26,29,33,36] (by kernel_rfl) (Le.refl _ _) ?_
  refine ⟨_, _, _, _, hal, ⟨rfl, rfl, rfl, rfl, trivial⟩, rfl, ?_⟩
  show TrQ _ _ _ _ _ _ _
  refine TrQ.go tblOK (drawOK tblOK) [22,25,26,29,33,36] (by kernel_rfl) (Le.sub (K' := [(1, vS top), (7, vP 1001), (11, vP 2001), (15, vS was)]) (B' := mjB 1 200 L2 top base l2 false) ⟨rfl, rfl, rfl, rfl, trivial⟩ ⟨rfl, rfl, rfl, rfl, rfl, rfl, trivial⟩) ?_
  refine ⟨_, _, _, _, hlf, ⟨rfl, rfl, rfl, rfl, rfl, rfl, trivial⟩, rfl, ?_⟩
  show TrQ _ _ _ _ _ _ _
  refine TrQ.go tblOK (drawOK tblOK) [25,26,29,33,36] (by kernel_rfl) (Le.sub (K' := [(1, vS top), (7, vP 1001), (11, vP 2001), (15, vS was), (16, vI (n : Nat))]) (B' := mjB 1 200 L2 top base l2 false) ⟨rfl, rfl, rfl, rfl, rfl, trivial⟩ ⟨rfl, rfl, rfl, rfl, rfl, rfl, trivial⟩) ?_
  refine ⟨by omega, ?_⟩
  show TrQ _ _ _ _ _ _ _
  refine TrQ.loop tblOK (drawOK tblOK) [25,26,29,33,36] (by kernel_rfl) (X := Nat × List Dsk × List Nat × Bool) (fun x => meK3 top was n x.1) (fun x => mjB 1 200 x.2.1 top base x.2.2.1 x.2.2.2) (fun x => x.1 ≤ n + 1 ∧ ME 200 x.2.1 top base was x.2.2.1 x.2.2.2 n x.1) (fun x => n + 1 - x.1) (0, L2, l2, false) ⟨Nat.zero_le _, hme⟩ ?_ ?_
  · exact Le.sub ⟨rfl, rfl, rfl, rfl, rfl, rfl, rfl, trivial⟩ ⟨rfl, rfl, rfl, rfl, rfl, rfl, trivial⟩
  rintro ⟨i, L3, l3, ov⟩ ⟨hi, hE⟩
  have hi : i ≤ n + 1 := hi
  have hE : ME 200 L3 top base was l3 ov n i := hE
  have hnx := hE.next
  have hst3 := hE.mj.toMI.stepFn base ov
  have hal3 := all15_fn hE.mj.cs top
  rw [hE.al] at hal3
  have hcs3 := hE.mj.cs
  have hstt := hE.st
  have hget3 := hE.mj.toMI.get
  have hov := mover_fn ((1 : Nat) : Int) ((200 : Nat) : Int) L3 top base l3 ov
  refine ⟨fun hc => ?_, fun hc => ?_⟩
  · have hc : decide ((i : Int) < ((n : Nat) : Int) + 1) = true := hc
    have hi1 : i < n + 1 := by have := of_decide_eq_true hc; omega
    obtain ⟨ho, L4, l4, hms, hE4⟩ := hnx hi1
    subst ho
    rw [hms] at hst3
    have hdec : decide ((i : Int) = ((n : Nat) : Int)) = decide (i = n) := by
      by_cases e : i = n
      · rw [decide_eq_true e, decide_eq_true (by omega)]
      · rw [decide_eq_false e, decide_eq_false (by omega)]
    generalize decide (i = n) = dn at *
    show TrQ _ _ _ _ _ _ _
    refine TrQ.go tblOK (drawOK tblOK) [26,29,33,36] (by kernel_rfl) (Le.sub (K' := [(1, vS top), (7, vP 1001), (11, vP 2001), (15, vS was), (16, vI (n : Nat)), (100, vI (((n : Nat) : Int) + 1)), (101, vI (i : Nat)), (17, vI (i : Nat))]) (B' := mjB 1 200 L3 top base l3 false) ⟨rfl, rfl, rfl, rfl, rfl, rfl, rfl, rfl, trivial⟩ ⟨rfl, rfl, rfl, rfl, rfl, rfl, trivial⟩) ?_
    refine ⟨_, _, _, _, hst3, ⟨rfl, rfl, rfl, rfl, rfl, rfl, trivial⟩, rfl, ?_⟩
    show TrQ _ _ _ _ _ _ _
    refine TrQ.go tblOK (drawOK tblOK) [29,33,36] (by kernel_rfl) (Le.sub (K' := [(1, vS top), (7, vP 1001), (11, vP 2001), (15, vS was), (16, vI (n : Nat)), (100, vI (((n : Nat) : Int) + 1)), (101, vI (i : Nat)), (17, vI (i : Nat)), (18, vB dn), (19, vI 0)]) (B' := mjB 1 200 L4 top base l4 dn) ⟨rfl, rfl, rfl, rfl, rfl, rfl, rfl, rfl, rfl, rfl, trivial⟩ ⟨rfl, rfl, rfl, rfl, rfl, rfl, trivial⟩) ?_
    refine ⟨fun h => absurd h (by decide), fun _ => ?_⟩
    refine ⟨fun h => ?_, fun _ => ?_⟩
    · exfalso
      have h : (!(dn == decide ((i : Int) = ((n : Nat) : Int)))) = true := h
      rw [hdec] at h
      simp at h
    · exact ⟨by omega, (i + 1, L4, l4, dn), ⟨hi1, hE4⟩, by show n + 1 - (i + 1) < n + 1 - i; omega, Le.sub ⟨rfl, rfl, rfl, rfl, rfl, rfl, rfl, trivial⟩ ⟨rfl, rfl, rfl, rfl, rfl, rfl, trivial⟩⟩
  · have hc : decide ((i : Int) < ((n : Nat) : Int) + 1) = false := hc
    have hi2 : ¬ i < n + 1 := by have := of_decide_eq_false hc; omega
    obtain ⟨ho, hin, hkd⟩ := hstt.resolve_left (fun e => by omega)
    subst ho
    obtain ⟨d, hd, _⟩ := hget3
    have hLm := hcs3.toChN.M (dk_get hd).1
    have htl := (hcs3.ims d (dk_get hd).1).1.tl
    have hsz : szOf L3 top = d.im.t.length := by unfold szOf; rw [hd]
    have hkd : ∀ k, k < d.im.t.length → (d.im.t.getD k s0).1 = 0 := fun k hk => by
      have := hkd k (by omega)
      unfold kdOf at this
      rw [hd] at this
      exact this
    show TrQ _ _ _ _ _ _ _
    refine TrQ.go tblOK (drawOK tblOK) [33,36] (by kernel_rfl) (Le.refl _ _) ?_
    refine ⟨_, _, _, _, image_fn _ _ L3 hcs3.toChN top d hd, ⟨rfl, rfl, rfl, rfl, trivial⟩, rfl, ?_⟩
    refine ⟨_, _, _, _, imFn (isize_fn d.im) hLm rfl rfl rfl rfl, ⟨rfl, trivial⟩, rfl, ?_⟩
    show TrQ _ _ _ _ _ _ _
    refine TrQ.loop tblOK (drawOK tblOK) [33,36] (by kernel_rfl) (X := Nat) (fun k => meK4 top was d.am d.im.t.length k) (fun _ => mjB 1 200 L3 top base l3 true) (fun k => k ≤ d.im.t.length) (fun k => d.im.t.length - k) 0 (Nat.zero_le _) ?_ ?_
    · exact Le.sub ⟨rfl, rfl, rfl, rfl, rfl, rfl, rfl, trivial⟩ ⟨rfl, rfl, rfl, rfl, rfl, rfl, trivial⟩
    intro q hq
    have hq : q ≤ d.im.t.length := hq
    refine ⟨fun hc => ?_, fun _ => ?_⟩
    · have hc : decide ((q : Int) < ((d.im.t.length : Nat) : Int)) = true := hc
      have hq1 : q < d.im.t.length := by have := of_decide_eq_true hc; omega
      have hik := ikindD_fn d.im htl q hq1
      rw [hkd q hq1] at hik
      show TrQ _ _ _ _ _ _ _
      refine TrQ.go tblOK (drawOK tblOK) [36] (by kernel_rfl) (Le.refl _ _) ?_
      refine ⟨_, _, _, _, imFn hik hLm rfl rfl rfl rfl, ⟨rfl, trivial⟩, rfl, ?_⟩
      refine ⟨fun h => absurd h (by decide), fun _ => ?_⟩
      exact ⟨by omega, q + 1, hq1, by omega, Le.sub ⟨rfl, rfl, rfl, rfl, rfl, rfl, rfl, trivial⟩ ⟨rfl, rfl, rfl, rfl, rfl, rfl, trivial⟩⟩
    · show TrQ _ _ _ _ _ _ _
      refine TrQ.go tblOK (drawOK tblOK) [] (by kernel_rfl) (Le.refl _ _) ?_
      refine ⟨_, _, _, _, alive15_fn, trivial, rfl, ?_⟩
      refine ⟨fun _ => ?_, fun h => absurd h (by decide)⟩
      refine ⟨_, _, _, _, hov, ⟨rfl, rfl, rfl, rfl, rfl, rfl, trivial⟩, rfl, ?_⟩
      refine ⟨fun _ => ?_, fun h => absurd h (by decide)⟩
      refine ⟨_, _, _, _, hal3, ⟨rfl, rfl, rfl, rfl, trivial⟩, rfl, ?_⟩
      exact ⟨_, _, _, Le.refl _ _, rfl, (show decide (was = was) = true from decide_eq_true rfl), trivial, rfl⟩
end Go.Proofs.YtaciecbbiplgiaaGreat
