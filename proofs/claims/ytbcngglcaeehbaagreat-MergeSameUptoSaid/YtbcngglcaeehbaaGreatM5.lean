/-
  MergeSame: what the top reads is what was written to it, whatever steps the job does meanwhile.
-/
import Derived.Test.YtbcngglcaeehbaaGreatMv
import Derived.Test.YtbcngglcaeehbaaGreatCz
set_option linter.unusedVariables false
set_option linter.unusedSimpArgs false
set_option maxRecDepth 10000
namespace Go.Proofs.YtbcngglcaeehbaaGreat
open Go.RowKit Go.Proofs
section
variable {bits room : Nat} {L Ld : List Dsk} {top base : List UInt8} {l : List Nat} {over : Bool}
theorem mv_stepS (h : MJ bits room L top base l) (hv : MV bits L top base l) : ∀ s, s < szOf L top * 2 ^ bits → Sc bits (mstep bits L top base l false).L top s = Sc bits L top s := by
  by_cases hne : l = []
  · subst hne
    rw [mstep_end]
    exact (mv_end h hv).2.1
  · rw [h.stepE hne]
    exact (mv_br h hv (h.lt _ (mnN_spec hne).2.1)).2
theorem mstep_lm (h : CS bits room L) (over : Bool) : ∃ t, Lm L t (mstep bits L top base l over).L := by
  unfold mstep
  split
  · exact ⟨top, .inl rfl⟩
  · split
    · exact ⟨top, dsC_lm h _ _ _⟩
    · exact ⟨base, brC_lm h _ _ _⟩
theorem wtC_err (h : CS bits room L) {o : Jop} (he : ¬ (wtC bits L top o).e = 0) : (wtC bits L top o).L = L := by
  unfold wtC at he ⊢
  split
  · rename_i c
    rw [if_pos c] at he
    exact wrC_err h he
  · rename_i c
    rw [if_neg c] at he
    split
    · rename_i c2
      rw [if_pos c2] at he
      exact zrC_err h he
    · rfl
/-- A chain with a job, and one that has no job: the top reads the same. -/
structure MS (L : List Dsk) (top base : List UInt8) (l : List Nat) (over : Bool) (Ld : List Dsk) : Prop where
  mj : MJ 1 40 L top base l
  mv : over = false → MV 1 L top base l
  cd : CS 1 40 Ld
  kd : (dk Ld top).isSome = (dk L top).isSome
  sz : szOf Ld top = szOf L top
  eq : ∀ s, s < szOf L top * 2 ^ 1 → Sc 1 L top s = Sc 1 Ld top s
theorem MS.all (h : MS L top base l over Ld) : allC 1 L top = allC 1 Ld top := allC_congr h.sz.symm h.kd.symm fun s hs => h.eq s (by rw [← h.sz]; exact hs)
theorem MS.step (h : MS L top base l over Ld) : MS (mstep 1 L top base l over).L top base (mstep 1 L top base l over).l (mstep 1 L top base l over).over Ld ∧ allC 1 (mstep 1 L top base l over).L top = allC 1 L top := by
  cases over with
  | true => exact ⟨⟨h.mj, (fun e => by cases e), h.cd, h.kd, h.sz, h.eq⟩, rfl⟩
  | false =>
    have hv := h.mv rfl
    obtain ⟨t, hlm⟩ := mstep_lm (top := top) (base := base) (l := l) h.mj.cs false
    have hS := mv_stepS h.mj hv
    obtain ⟨g1, g2⟩ := mv_step h.mj hv false
    refine ⟨⟨h.mj.step false, fun _ => g1, h.cd, h.kd.trans (hlm.sz top).2.symm, h.sz.trans (hlm.sz top).1.symm, fun s hs => ?_⟩, g2⟩
    rw [(hlm.sz top).1] at hs
    rw [hS s hs]
    exact h.eq s hs
theorem MS.cancel (h : MS L top base l over Ld) : MS L top base [] true Ld :=
  ⟨⟨⟨h.mj.cs, h.mj.kn, fun k hk => (by cases hk), List.nodup_nil⟩, h.mj.kb, h.mj.le, h.mj.sm, h.mj.bk, h.mj.ne⟩, fun e => (by cases e), h.cd, h.kd, h.sz, h.eq⟩
theorem MS.no (h : MS L top base l over Ld) {o : Jop} (he : ¬ (wtC 1 L top o).e = 0) : MS (wtC 1 L top o).L top base (wtL 1 L top l over o) over Ld := by
  have e : wtL 1 L top l over o = l := if_neg he
  rw [wtC_err h.mj.cs he, e]
  exact h
theorem MS.wt (h : MS L top base l over Ld) {o : Jop} (he : (wtC 1 L top o).e = 0) (hd : (doW 1 Ld top (jQ o)).e = 0) : MS (wtC 1 L top o).L top base (wtL 1 L top l over o) over (doW 1 Ld top (jQ o)).L := by
  have hlm := wtC_lm h.mj.cs top o
  have hlm2 := doW_lm h.cd top (jQ o)
  have h1 := h.mj.lm hlm
  refine ⟨?_, fun ho => ?_, hlm2.cs h.cd, (hlm2.sz top).2.trans (h.kd.trans (hlm.sz top).2.symm), (hlm2.sz top).1.trans (h.sz.trans (hlm.sz top).1.symm), fun s hs => ?_⟩
  · unfold wtL
    rw [if_pos he]
    exact h1.wr over _ _
  · subst ho
    exact (wt_mv h.mj (h.mv rfl) o).2
  · rw [(hlm.sz top).1] at hs
    have heq := h.eq s hs
    unfold wtC at he ⊢
    unfold doW at hd ⊢
    by_cases c1 : qK (jQ o) = 1
    · rw [if_pos c1] at he hd ⊢
      rw [if_pos c1]
      show crdP _ _ _ _ _ = crdP _ _ _ _ _
      rw [wr_sector h.mj.cs he s, wr_sector h.cd hd s]
      split
      · rfl
      · exact heq
    · rw [if_neg c1] at he hd ⊢
      rw [if_neg c1]
      by_cases c2 : qK (jQ o) = 2
      · rw [if_pos c2] at he hd ⊢
        rw [if_pos c2]
        show crdP _ _ _ _ _ = crdP _ _ _ _ _
        rw [zr_sector h.mj.cs he s, zr_sector h.cd hd s]
        split
        · rfl
        · exact heq
      · rw [if_neg c2] at he
        exact absurd he (show ¬ (1 : Int) = 0 by decide)
end
def opS (top : List UInt8) (q : Cq) : Cop := (3, 0, top, [], q)
theorem opS_do {room : Nat} {L : List Dsk} (top : List UInt8) (q : Cq) (p : Nat × Nat) : doD 1 room L (opS top q) p = doW 1 L top q :=
  (if_neg (show ¬ (3 : Int) = 0 by decide)).trans ((if_neg (show ¬ (3 : Int) = 1 by decide)).trans ((if_neg (show ¬ (3 : Int) = 2 by decide)).trans (if_pos (show (3 : Int) = 3 from rfl))))
@[reducible] def sameL (l : List Cop) (top : List UInt8) (m : List Jop) (k : Nat) : KL := [(0, vL uC l), (1, vS top), (2, vL uJ m), (7, vP 1001), (42, vL uC l), (43, vI (l.length : Nat)), (44, vI (k : Nat))]
@[reducible] def sameK (top : List UInt8) (m : List Jop) (k : Nat) : KL := [(1, vS top), (7, vP 1001), (11, vP 7001), (12, vP 2001), (75, vL uJ m), (76, vI (m.length : Nat)), (77, vI (k : Nat))]
@[reducible] def sameK1 (top : List UInt8) (m : List Jop) (k : Nat) : KL := [(1, vS top), (7, vP 1001), (11, vP 7001), (12, vP 2001), (75, vL uJ m), (76, vI (m.length : Nat)), (77, vI (k : Nat)), (15, vP 15)]
@[reducible] def sameK2 (top : List UInt8) (m : List Jop) (k : Nat) (was : List UInt8) : KL := [(1, vS top), (7, vP 1001), (11, vP 7001), (12, vP 2001), (75, vL uJ m), (76, vI (m.length : Nat)), (77, vI (k : Nat)), (15, vP 15), (16, vS was)]
@[reducible] def chB7 (L : List Dsk) : BL := [(7001, .cells [.d (.int .i64 ((1 : Nat) : Int)), .d (.int .i64 ((40 : Nat) : Int)), .mp 7002]), (7002, .map .str .adr (chE L)), (7003, .obj (.pool (chD L))), (7004, .obj (.pool (chM L)))]
@[reducible] def sameB (L : List Dsk) (top base : List UInt8) (l : List Nat) (over : Bool) (Ld : List Dsk) : BL := mjB ((1 : Nat) : Int) ((40 : Nat) : Int) L top base l over ++ [(7001, .cells [.d (.int .i64 ((1 : Nat) : Int)), .d (.int .i64 ((40 : Nat) : Int)), .mp 7002]), (7002, .map .str .adr (chE Ld)), (7003, .obj (.pool (chD Ld))), (7004, .obj (.pool (chM Ld)))]
@[reducible] def sameB1 (L : List Dsk) (top base : List UInt8) (l : List Nat) (over : Bool) (Ld : List Dsk) (o : Jop) : BL := mjB ((1 : Nat) : Int) ((40 : Nat) : Int) L top base l over ++ [(7001, .cells [.d (.int .i64 ((1 : Nat) : Int)), .d (.int .i64 ((40 : Nat) : Int)), .mp 7002]), (7002, .map .str .adr (chE Ld)), (7003, .obj (.pool (chD Ld))), (7004, .obj (.pool (chM Ld))), (15, .cells (jopL o))]
@[reducible] def sameB0 (L Ld : List Dsk) : BL := chB ((1 : Nat) : Int) ((40 : Nat) : Int) L ++ [(7001, .cells [.d (.int .i64 ((1 : Nat) : Int)), .d (.int .i64 ((40 : Nat) : Int)), .mp 7002]), (7002, .map .str .adr (chE Ld)), (7003, .obj (.pool (chD Ld))), (7004, .obj (.pool (chM Ld)))]
set_option maxHeartbeats 2000000 in
theorem mergeSame_fn (l : List Cop) (top : List UInt8) (m : List Jop) (hl : l.length ≤ 1073741824) (ht : (l.map cTot).sum ≤ 1073741824) (hl2 : m.length ≤ 1073741824) (ht2 : (m.map jTot).sum ≤ 1073741824) : Fn Tryz.prog 8 [vL uC l, vS top, vL uJ m] [] [] (vB true) [] := by
  refine Fn.of tblOK [7,9,10,16,19,20,23,26,27,29,32] _ _ _ _ _ Tryz.func8 rfl rfl (by kernel_rfl) (by kernel_rfl) rfl (drawOK tblOK) rfl ?_
  refine ⟨_, _, _, _, chnew_ok 1 40 (by decide) (by decide), trivial, rfl, ?_⟩
  refine ⟨fun h => absurd h (by decide), fun _ => ?_⟩
  refine ⟨_, _, _, _, few15_fn l m hl ht hl2 ht2, trivial, rfl, ?_⟩
  refine ⟨fun _ => ?_, fun hf => ?_⟩
  · refine ⟨fun _ => ?_, fun h => absurd h (by decide)⟩
    refine ⟨_, _, _, _, alive15_fn, trivial, rfl, ?_⟩
    exact ⟨_, _, _, Le.refl _ _, rfl, rfl, trivial, rfl⟩
  have hfew : fewJ l m = true := by
    have hf : (!fewJ l m) = false := hf
    simpa using hf
  obtain ⟨hll, hob, hom⟩ := fewJ_get hfew
  show TrQ _ _ _ _ _ _ _
  refine TrQ.loop tblOK (drawOK tblOK) [7,9,10,16,19,20,23,26,27,29,32] (by kernel_rfl) (X := Nat × List Dsk) (fun x => sameL l top m x.1) (fun x => chB 1 40 x.2) (fun x => x.1 ≤ l.length ∧ CS 1 40 x.2 ∧ Sml x.2) (fun x => l.length - x.1) (0, []) ⟨Nat.zero_le _, CS.nil (by decide) (by decide), Sml.nil⟩ ?_ ?_
  · exact Le.sub ⟨rfl, rfl, rfl, rfl, rfl, rfl, rfl, trivial⟩ ⟨rfl, rfl, rfl, rfl, trivial⟩
  rintro ⟨k, L⟩ ⟨hk, hC, hSm⟩
  have hk : k ≤ l.length := hk
  have hC : CS 1 40 L := hC
  have hSm : Sml L := hSm
  refine ⟨fun hc => ?_, fun _ => ?_⟩
  · have hc : decide ((k : Int) < ((l.length : Nat) : Int)) = true := hc
    have hk1 : k < l.length := by have := of_decide_eq_true hc; omega
    have hO := hob _ (List.getElem_mem hk1)
    refine ⟨by omega, l[k], lgAt (n := k) hk1, ?_⟩
    refine ⟨rfl, ?_⟩
    show TrQ _ _ _ _ _ _ _
    refine TrQ.regionX tblOK (by kernel_rfl) ?_
    refine ⟨_, _, _, fun g => _, fun g => _, does15_fn hC l[k] (by omega), ⟨rfl, rfl, rfl, rfl, trivial⟩, rfl, fun _ => rfl, fun g => ?_⟩
    exact ⟨by omega, (k + 1, (doD 1 40 L l[k] g.1).L), ⟨hk1, g.2, hSm.do hC hO.2⟩, by show l.length - (k + 1) < l.length - k; omega, Le.sub ⟨rfl, rfl, rfl, rfl, rfl, rfl, rfl, trivial⟩ ⟨rfl, rfl, rfl, rfl, trivial⟩⟩
  have hcpy := FnX.ren [(2001, 7001), (2002, 7002), (2003, 7003), (2004, 7004)] (chcopy_fn hC)
  show TrQ _ _ _ _ _ _ _
  refine TrQ.le (Le.sub (K' := [(1, vS top), (2, vL uJ m), (7, vP 1001)]) (B' := chB ((1 : Nat) : Int) ((40 : Nat) : Int) L) ⟨rfl, rfl, rfl, trivial⟩ ⟨rfl, rfl, rfl, rfl, trivial⟩) ?_
  refine TrQ.regionX tblOK (by kernel_rfl) ?_
  refine ⟨_, _, _, fun g => _, fun g => _, hcpy, ⟨rfl, rfl, rfl, rfl, trivial⟩, rfl, fun _ => rfl, fun g => ?_⟩
  obtain ⟨Ld0, hcp⟩ := g
  by_cases he : mbE L top = 0
  case neg =>
    have hbn := mbegin_no hC top he
    generalize mbE L top = pe at *
    show TrQ _ _ _ _ _ _ _
    refine TrQ.go tblOK (drawOK tblOK) [16,19,20,23,26,27,29,32] (by kernel_rfl) (Le.sub (K' := [(1, vS top), (7, vP 1001), (11, vP 7001)]) (B' := sameB0 L Ld0) ⟨rfl, rfl, rfl, trivial⟩ ⟨rfl, rfl, rfl, rfl, rfl, rfl, rfl, rfl, trivial⟩) ?_
    refine ⟨_, _, _, _, hbn, ⟨rfl, rfl, rfl, rfl, trivial⟩, rfl, ?_⟩
    refine ⟨fun _ => ?_, fun h => ?_⟩
    · refine ⟨_, _, _, _, alive15_fn, trivial, rfl, ?_⟩
      refine ⟨fun _ => ?_, fun h => absurd h (by decide)⟩
      exact ⟨_, _, _, Le.refl _ _, rfl, (show (!decide (pe = 0)) = true by rw [decide_eq_false he]; rfl), trivial, rfl⟩
    · exfalso
      have h : (!decide (pe = 0)) = false := h
      rw [decide_eq_false he] at h
      cases h
  have hM := MJ.beg hC he fun n => by have := hSm.sz n; omega
  have hV := mv_beg hC he
  have hbg := mbegin_ok hC top he
  generalize (bkC L top).1 = base at *
  generalize mbL L top = l0 at *
  have hMS : MS L top base l0 false Ld0 := by
    have hk2 : (dk Ld0 top).isSome = (dk L top).isSome := by
      have := congrArg Option.isSome (hcp.eq top)
      rwa [Option.isSome_map, Option.isSome_map] at this
    refine ⟨hM, fun _ => hV, hcp.cs, hk2, ?_, fun s _ => ?_⟩
    · unfold szOf
      cases hd : dk L top with
      | none => rw [hcp.eq.no hd]
      | some d =>
        obtain ⟨d', e1, _, _, e2⟩ := hcp.eq.get hd
        rw [e1]
        simp only
        rw [e2]
    · exact (Sc_of (hcp.eq.cseen hC top _)).symm
  have hnl : top.length ≤ 15 := by
    obtain ⟨d, hd, _⟩ := hM.toMI.get
    have h1 := nameOK_len (hC.nok d (dk_get hd).1)
    rw [(dk_get hd).2] at h1
    exact h1.2
  show TrQ _ _ _ _ _ _ _
  refine TrQ.go tblOK (drawOK tblOK) [16,19,20,23,26,27,29,32] (by kernel_rfl) (Le.sub (K' := [(1, vS top), (2, vL uJ m), (7, vP 1001), (11, vP 7001)]) (B' := sameB0 L Ld0) ⟨rfl, rfl, rfl, rfl, trivial⟩ ⟨rfl, rfl, rfl, rfl, rfl, rfl, rfl, rfl, trivial⟩) ?_
  refine ⟨_, _, _, _, hbg, ⟨rfl, rfl, rfl, rfl, trivial⟩, rfl, ?_⟩
  refine ⟨fun h => absurd h (by decide), fun _ => ?_⟩
  show TrQ _ _ _ _ _ _ _
  refine TrQ.loop tblOK (drawOK tblOK) [16,19,20,23,26,27,29,32] (by kernel_rfl) (X := Nat × List Dsk × List Nat × Bool × List Dsk) (fun x => sameK top m x.1) (fun x => sameB x.2.1 top base x.2.2.1 x.2.2.2.1 x.2.2.2.2) (fun x => x.1 ≤ m.length ∧ MS x.2.1 top base x.2.2.1 x.2.2.2.1 x.2.2.2.2) (fun x => m.length - x.1) (0, L, l0, false, Ld0) ⟨Nat.zero_le _, hMS⟩ ?_ ?_
  · exact Le.sub ⟨rfl, rfl, rfl, rfl, rfl, rfl, rfl, trivial⟩ ⟨rfl, rfl, rfl, rfl, rfl, rfl, rfl, rfl, rfl, rfl, trivial⟩
  clear hMS hM hV hbg hcp
  rintro ⟨k, L2, l2, over, Ld⟩ ⟨hk, hS⟩
  have hk : k ≤ m.length := hk
  have hS : MS L2 top base l2 over Ld := hS
  have hfa := all15_fn hS.mj.cs top
  have hst := hS.mj.toMI.stepFn base over
  obtain ⟨hsS, hsA⟩ := hS.step
  have hsa := all15_fn hsS.mj.cs top
  rw [hsA] at hsa
  refine ⟨fun hc => ?_, fun hc => ?_⟩
  · have hc : decide ((k : Int) < ((m.length : Nat) : Int)) = true := hc
    have hk1 : k < m.length := by have := of_decide_eq_true hc; omega
    have hmem := List.getElem_mem hk1
    have hO := hom _ hmem
    have hget := lgAt (n := k) hk1
    generalize m[k] = o at *
    have hqb : (qB (jQ o)).length ≤ 1000000 := by unfold jTot at hO; omega
    have hwt := writes15_fn hS.mj.toMI base over o hqb
    have hdo := does15_fn hS.cd (opS top (jQ o)) (by show (qB (jQ o)).length + top.length + 0 ≤ 1000000; unfold jTot at hO; omega)
    have hno := hS.no (o := o)
    have hok := hS.wt (o := o)
    refine ⟨by omega, o, hget, ?_⟩
    refine ⟨rfl, ?_⟩
    show TrQ _ _ _ _ _ _ _
    refine TrQ.go tblOK (drawOK tblOK) [19,20,23,26,27,29,32] (by kernel_rfl) (Le.sub (K' := sameK1 top m k) (B' := sameB1 L2 top base l2 over Ld o) ⟨rfl, rfl, rfl, rfl, rfl, rfl, rfl, rfl, trivial⟩ ⟨rfl, rfl, rfl, rfl, rfl, rfl, rfl, rfl, rfl, rfl, rfl, trivial⟩) ?_
    refine ⟨_, _, _, _, hfa, ⟨rfl, rfl, rfl, rfl, trivial⟩, rfl, ?_⟩
    refine ⟨fun c0 => ?_, fun c0 => ?_⟩
    · show TrQ _ _ _ _ _ _ _
      refine TrQ.go tblOK (drawOK tblOK) [20,23,26,27,29,32] (by kernel_rfl) (Le.sub (K' := sameK2 top m k (allC 1 L2 top)) (B' := sameB1 L2 top base l2 over Ld o) ⟨rfl, rfl, rfl, rfl, rfl, rfl, rfl, rfl, rfl, trivial⟩ ⟨rfl, rfl, rfl, rfl, rfl, rfl, rfl, rfl, rfl, rfl, rfl, trivial⟩) ?_
      refine ⟨_, _, _, _, hst, ⟨rfl, rfl, rfl, rfl, rfl, rfl, trivial⟩, rfl, ?_⟩
      generalize mstep 1 L2 top base l2 over = r at *
      generalize allC 1 L2 top = A at *
      show TrQ _ _ _ _ _ _ _
      refine TrQ.go tblOK (drawOK tblOK) [23,26,27,29,32] (by kernel_rfl) (Le.sub (K' := sameK2 top m k A) (B' := sameB1 r.L top base r.l r.over Ld o) ⟨rfl, rfl, rfl, rfl, rfl, rfl, rfl, rfl, rfl, trivial⟩ ⟨rfl, rfl, rfl, rfl, rfl, rfl, rfl, rfl, rfl, rfl, rfl, trivial⟩) ?_
      refine ⟨_, _, _, _, hsa, ⟨rfl, rfl, rfl, rfl, trivial⟩, rfl, ?_⟩
      refine ⟨fun h => ?_, fun _ => ?_⟩
      · exfalso
        have h : (!decide (A = A)) = true := h
        rw [decide_eq_true rfl] at h
        cases h
      show TrQ _ _ _ _ _ _ _
      refine TrQ.go tblOK (drawOK tblOK) [32] (by kernel_rfl) (Le.sub (K' := sameK top m k) (B' := sameB r.L top base r.l r.over Ld) ⟨rfl, rfl, rfl, rfl, rfl, rfl, rfl, trivial⟩ ⟨rfl, rfl, rfl, rfl, rfl, rfl, rfl, rfl, rfl, rfl, trivial⟩) ?_
      have hfa := all15_fn hsS.mj.cs top
      have hfd := all15_fn hsS.cd top
      rw [← hsS.all] at hfd
      generalize allC 1 r.L top = A2 at hfa hfd
      refine ⟨_, _, _, _, hfa, ⟨rfl, rfl, rfl, rfl, trivial⟩, rfl, ?_⟩
      refine ⟨_, _, _, _, Fn.ren [(1001, 7001), (1002, 7002), (1003, 7003), (1004, 7004)] hfd, ⟨rfl, rfl, rfl, rfl, trivial⟩, rfl, ?_⟩
      refine ⟨fun h => ?_, fun _ => ?_⟩
      · exfalso
        have h : (!decide (A2 = A2)) = true := h
        rw [decide_eq_true rfl] at h
        cases h
      exact ⟨by omega, (k + 1, r.L, r.l, r.over, Ld), ⟨hk1, hsS⟩, by show m.length - (k + 1) < m.length - k; omega, Le.sub ⟨rfl, rfl, rfl, rfl, rfl, rfl, rfl, trivial⟩ ⟨rfl, rfl, rfl, rfl, rfl, rfl, rfl, rfl, rfl, rfl, trivial⟩⟩
    refine ⟨fun c1 => ?_, fun c1 => ?_⟩
    · show TrQ _ _ _ _ _ _ _
      refine TrQ.le (Le.sub (K' := sameK1 top m k) (B' := sameB1 L2 top base l2 over Ld o) ⟨rfl, rfl, rfl, rfl, rfl, rfl, rfl, rfl, trivial⟩ ⟨rfl, rfl, rfl, rfl, rfl, rfl, rfl, rfl, rfl, rfl, rfl, trivial⟩) ?_
      refine TrQ.regionX tblOK (by kernel_rfl) ?_
      refine ⟨_, _, _, fun g => _, fun g => _, hwt.x, ⟨rfl, rfl, rfl, rfl, rfl, rfl, trivial⟩, rfl, fun _ => rfl, fun g => ?_⟩
      refine ⟨fun w => ?_, fun w => ?_⟩
      · have w : (wtC 1 L2 top o).e = 0 := of_decide_eq_true w
        have hok := hok w
        refine ⟨_, _, _, fun g => _, fun g => _, FnX.ren [(1001, 7001), (1002, 7002), (1003, 7003), (1004, 7004)] hdo, ⟨rfl, rfl, rfl, rfl, trivial⟩, rfl, fun _ => rfl, fun p => ?_⟩
        have ed := opS_do (room := 40) (L := Ld) top (jQ o) p.1
        refine ⟨fun e => ?_, fun e => ?_⟩
        · refine ⟨_, _, _, _, alive15_fn, trivial, rfl, ?_⟩
          exact ⟨_, _, _, Le.refl _ _, rfl, rfl, trivial, rfl⟩
        have e : (doD 1 40 Ld (opS top (jQ o)) p.1).e = 0 := by
          have e : (!decide ((doD 1 40 Ld (opS top (jQ o)) p.1).e = 0)) = false := e
          simpa using e
        have hok : MS (wtC 1 L2 top o).L top base (wtL 1 L2 top l2 over o) over (doD 1 40 Ld (opS top (jQ o)) p.1).L := by
          rw [ed] at e ⊢
          exact hok e
        show TrQ _ _ _ _ _ _ _
        refine TrQ.go tblOK (drawOK tblOK) [32] (by kernel_rfl) (Le.sub (K' := sameK top m k) (B' := sameB (wtC 1 L2 top o).L top base (wtL 1 L2 top l2 over o) over (doD 1 40 Ld (opS top (jQ o)) p.1).L) ⟨rfl, rfl, rfl, rfl, rfl, rfl, rfl, trivial⟩ ⟨rfl, rfl, rfl, rfl, rfl, rfl, rfl, rfl, rfl, rfl, trivial⟩) ?_
        have hfa := all15_fn hok.mj.cs top
        have hfd := all15_fn hok.cd top
        rw [← hok.all] at hfd
        generalize allC 1 (wtC 1 L2 top o).L top = A2 at hfa hfd
        refine ⟨_, _, _, _, hfa, ⟨rfl, rfl, rfl, rfl, trivial⟩, rfl, ?_⟩
        refine ⟨_, _, _, _, Fn.ren [(1001, 7001), (1002, 7002), (1003, 7003), (1004, 7004)] hfd, ⟨rfl, rfl, rfl, rfl, trivial⟩, rfl, ?_⟩
        refine ⟨fun h => ?_, fun _ => ?_⟩
        · exfalso
          have h : (!decide (A2 = A2)) = true := h
          rw [decide_eq_true rfl] at h
          cases h
        exact ⟨by omega, (k + 1, (wtC 1 L2 top o).L, (wtL 1 L2 top l2 over o), over, (doD 1 40 Ld (opS top (jQ o)) p.1).L), ⟨hk1, hok⟩, by show m.length - (k + 1) < m.length - k; omega, Le.sub ⟨rfl, rfl, rfl, rfl, rfl, rfl, rfl, trivial⟩ ⟨rfl, rfl, rfl, rfl, rfl, rfl, rfl, rfl, rfl, rfl, trivial⟩⟩
      · have w : ¬ (wtC 1 L2 top o).e = 0 := of_decide_eq_false w
        have hno := hno w
        generalize (wtC 1 L2 top o).L = L3 at *
        generalize wtL 1 L2 top l2 over o = l3 at *
        show TrQ _ _ _ _ _ _ _
        refine TrQ.go tblOK (drawOK tblOK) [32] (by kernel_rfl) (Le.sub (K' := sameK top m k) (B' := sameB L3 top base l3 over Ld) ⟨rfl, rfl, rfl, rfl, rfl, rfl, rfl, trivial⟩ ⟨rfl, rfl, rfl, rfl, rfl, rfl, rfl, rfl, rfl, rfl, trivial⟩) ?_
        have hfa := all15_fn hno.mj.cs top
        have hfd := all15_fn hno.cd top
        rw [← hno.all] at hfd
        generalize allC 1 L3 top = A2 at hfa hfd
        refine ⟨_, _, _, _, hfa, ⟨rfl, rfl, rfl, rfl, trivial⟩, rfl, ?_⟩
        refine ⟨_, _, _, _, Fn.ren [(1001, 7001), (1002, 7002), (1003, 7003), (1004, 7004)] hfd, ⟨rfl, rfl, rfl, rfl, trivial⟩, rfl, ?_⟩
        refine ⟨fun h => ?_, fun _ => ?_⟩
        · exfalso
          have h : (!decide (A2 = A2)) = true := h
          rw [decide_eq_true rfl] at h
          cases h
        exact ⟨by omega, (k + 1, L3, l3, over, Ld), ⟨hk1, hno⟩, by show m.length - (k + 1) < m.length - k; omega, Le.sub ⟨rfl, rfl, rfl, rfl, rfl, rfl, rfl, trivial⟩ ⟨rfl, rfl, rfl, rfl, rfl, rfl, rfl, rfl, rfl, rfl, trivial⟩⟩
    refine ⟨fun c2 => ?_, fun c2 => ?_⟩
    · have hcn := mcancel_fn ((1 : Nat) : Int) ((40 : Nat) : Int) L2 top base l2 over
      have hSc := hS.cancel
      show TrQ _ _ _ _ _ _ _
      refine TrQ.go tblOK (drawOK tblOK) [27,29,32] (by kernel_rfl) (Le.sub (K' := sameK2 top m k (allC 1 L2 top)) (B' := sameB1 L2 top base l2 over Ld o) ⟨rfl, rfl, rfl, rfl, rfl, rfl, rfl, rfl, rfl, trivial⟩ ⟨rfl, rfl, rfl, rfl, rfl, rfl, rfl, rfl, rfl, rfl, rfl, trivial⟩) ?_
      refine ⟨_, _, _, _, hcn, ⟨rfl, rfl, rfl, rfl, rfl, rfl, trivial⟩, rfl, ?_⟩
      show TrQ _ _ _ _ _ _ _
      refine TrQ.go tblOK (drawOK tblOK) [29,32] (by kernel_rfl) (Le.sub (K' := sameK2 top m k (allC 1 L2 top)) (B' := sameB1 L2 top base [] true Ld o) ⟨rfl, rfl, rfl, rfl, rfl, rfl, rfl, rfl, rfl, trivial⟩ ⟨rfl, rfl, rfl, rfl, rfl, rfl, rfl, rfl, rfl, rfl, rfl, trivial⟩) ?_
      refine ⟨_, _, _, _, hfa, ⟨rfl, rfl, rfl, rfl, trivial⟩, rfl, ?_⟩
      refine ⟨fun h => ?_, fun _ => ?_⟩
      · exfalso
        have h : (!decide (allC 1 L2 top = allC 1 L2 top)) = true := h
        rw [decide_eq_true rfl] at h
        cases h
      show TrQ _ _ _ _ _ _ _
      refine TrQ.go tblOK (drawOK tblOK) [32] (by kernel_rfl) (Le.sub (K' := sameK top m k) (B' := sameB L2 top base [] true Ld) ⟨rfl, rfl, rfl, rfl, rfl, rfl, rfl, trivial⟩ ⟨rfl, rfl, rfl, rfl, rfl, rfl, rfl, rfl, rfl, rfl, trivial⟩) ?_
      have hfa := all15_fn hSc.mj.cs top
      have hfd := all15_fn hSc.cd top
      rw [← hSc.all] at hfd
      generalize allC 1 L2 top = A2 at hfa hfd
      refine ⟨_, _, _, _, hfa, ⟨rfl, rfl, rfl, rfl, trivial⟩, rfl, ?_⟩
      refine ⟨_, _, _, _, Fn.ren [(1001, 7001), (1002, 7002), (1003, 7003), (1004, 7004)] hfd, ⟨rfl, rfl, rfl, rfl, trivial⟩, rfl, ?_⟩
      refine ⟨fun h => ?_, fun _ => ?_⟩
      · exfalso
        have h : (!decide (A2 = A2)) = true := h
        rw [decide_eq_true rfl] at h
        cases h
      exact ⟨by omega, (k + 1, L2, [], true, Ld), ⟨hk1, hSc⟩, by show m.length - (k + 1) < m.length - k; omega, Le.sub ⟨rfl, rfl, rfl, rfl, rfl, rfl, rfl, trivial⟩ ⟨rfl, rfl, rfl, rfl, rfl, rfl, rfl, rfl, rfl, rfl, trivial⟩⟩
    · skip
      show TrQ _ _ _ _ _ _ _
      refine TrQ.go tblOK (drawOK tblOK) [32] (by kernel_rfl) (Le.sub (K' := sameK top m k) (B' := sameB L2 top base l2 over Ld) ⟨rfl, rfl, rfl, rfl, rfl, rfl, rfl, trivial⟩ ⟨rfl, rfl, rfl, rfl, rfl, rfl, rfl, rfl, rfl, rfl, trivial⟩) ?_
      have hfa := all15_fn hS.mj.cs top
      have hfd := all15_fn hS.cd top
      rw [← hS.all] at hfd
      generalize allC 1 L2 top = A2 at hfa hfd
      refine ⟨_, _, _, _, hfa, ⟨rfl, rfl, rfl, rfl, trivial⟩, rfl, ?_⟩
      refine ⟨_, _, _, _, Fn.ren [(1001, 7001), (1002, 7002), (1003, 7003), (1004, 7004)] hfd, ⟨rfl, rfl, rfl, rfl, trivial⟩, rfl, ?_⟩
      refine ⟨fun h => ?_, fun _ => ?_⟩
      · exfalso
        have h : (!decide (A2 = A2)) = true := h
        rw [decide_eq_true rfl] at h
        cases h
      exact ⟨by omega, (k + 1, L2, l2, over, Ld), ⟨hk1, hS⟩, by show m.length - (k + 1) < m.length - k; omega, Le.sub ⟨rfl, rfl, rfl, rfl, rfl, rfl, rfl, trivial⟩ ⟨rfl, rfl, rfl, rfl, rfl, rfl, rfl, rfl, rfl, rfl, trivial⟩⟩
  · show TrQ _ _ _ _ _ _ _
    refine TrQ.go tblOK (drawOK tblOK) [] (by kernel_rfl) (Le.refl _ _) ?_
    refine ⟨_, _, _, _, alive15_fn, trivial, rfl, ?_⟩
    exact ⟨_, _, _, Le.refl _ _, rfl, rfl, trivial, rfl⟩
end Go.Proofs.YtbcngglcaeehbaaGreat
