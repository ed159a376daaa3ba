/-
  PullStops: a job that is cancelled does nothing more, and has no next cluster.
-/
import Derived.Test.YtaciecbbiplgiaaLu16
set_option linter.unusedVariables false
set_option linter.unusedSimpArgs false
set_option maxRecDepth 10000
namespace Go.Proofs.Ytaciecbbiplgiaa
open Go.RowKit Go.Proofs
@[reducible] def uSe : U := .pr .str .str
@[reducible] def seL (top base : List UInt8) : List S1 := [.d (.str top), .d (.str base)]
@[reducible] def seV (top base : List UInt8) : SV := .c (.agg (seL top base))
theorem pstep_keep {bits room : Nat} {L : List Dsk} {top base : List UInt8} {over : Bool} (h : CS bits room L) {d : Dsk} (hd : dk L top = some d) : CS bits room (pstep bits L top base over).L ∧ ∃ d', dk (pstep bits L top base over).L top = some d' := by
  cases over with
  | true => exact ⟨h, d, hd⟩
  | false =>
    cases hn : pnx L top base with
    | some k =>
      rw [pstep_some (room := room) hd hn]
      refine ⟨wrC_cs h _ _ _, Option.isSome_iff_exists.1 ?_⟩
      show (dk (wrC bits L top _ _).L top).isSome = true
      rw [((wrC_lm h top _ _).sz top).2, hd]
      rfl
    | none =>
      rw [pstep_none (room := room) hd hn]
      refine ⟨rbC_cs h _ _, Option.isSome_iff_exists.1 ?_⟩
      show (dk (rbC L top base).L top).isSome = true
      unfold rbC
      split
      · rw [hd]; rfl
      · split
        · rw [hd]; rfl
        · split
          · show (dk (lset L top base) top).isSome = true
            rw [dk_lset, hd]
            rfl
          · rw [hd]; rfl
@[reducible] def jbB (room : Int) (L : List Dsk) (top base : List UInt8) (over : Bool) (c : Nat) : BL := pjB1 1 room L top base over ++ [(c, .cells (seL top base))]
@[reducible] def psK (l : List Cop) (st : Int) (k : Nat) : KL := [(0, vL uC l), (2, vI st), (4, vP 4), (7, vP 1001), (53, vL uC l), (54, vI (l.length : Nat)), (55, vI (k : Nat))]
@[reducible] def psK2 (st : Int) (k : Nat) : KL := [(4, vP 4), (7, vP 1001), (11, vP 2001), (83, vI st), (84, vI (k : Nat))]
set_option maxHeartbeats 1000000 in
theorem pullStops_fn (l : List Cop) (top base : List UInt8) (st : Int) (hl : l.length ≤ 1073741824) (ht : (l.map cTot).sum ≤ 1073741824) : Fn Try.prog 6 [vL uC l, seV top base, vI st] [] [] (vB true) [] := by
  have hfn := Fn.arg (args := [vL uC l, .c (.one .nils)]) (few16_fn l [] hl ht (Nat.zero_le _) (Nat.zero_le _)) ⟨rfl, rfl, trivial⟩
  refine Fn.of tblOK [14,16,18,20,21] _ _ _ _ _ Try.func6 rfl rfl (by kernel_rfl) (by kernel_rfl) rfl (drawOK tblOK) rfl ?_
  refine ⟨rfl, ?_⟩
  refine ⟨_, _, _, _, chnew_ok 1 200 (by decide) (by decide), trivial, rfl, ?_⟩
  refine ⟨fun h => absurd h (by decide), fun _ => ?_⟩
  refine ⟨_, _, _, _, hfn, trivial, rfl, ?_⟩
  refine ⟨fun _ => ?_, fun hf => ?_⟩
  · refine ⟨fun _ => ?_, fun h => absurd h (by decide)⟩
    refine ⟨_, _, _, _, alive16_fn, trivial, rfl, ?_⟩
    exact ⟨_, _, _, Le.refl _ _, rfl, rfl, trivial, rfl⟩
  refine ⟨fun _ => ?_, fun hs0 => ?_⟩
  · refine ⟨fun _ => ?_, fun h => absurd h (by decide)⟩
    refine ⟨_, _, _, _, alive16_fn, trivial, rfl, ?_⟩
    exact ⟨_, _, _, Le.refl _ _, rfl, rfl, trivial, rfl⟩
  refine ⟨fun _ => ?_, fun hs1 => ?_⟩
  · refine ⟨fun _ => ?_, fun h => absurd h (by decide)⟩
    refine ⟨_, _, _, _, alive16_fn, trivial, rfl, ?_⟩
    exact ⟨_, _, _, Le.refl _ _, rfl, rfl, trivial, rfl⟩
  have hfew : fewJ l [] = true := by
    have hf : (!fewJ l []) = false := hf
    simpa using hf
  obtain ⟨hll, hob, hom⟩ := fewJ_get hfew
  have hs0 : ¬ st < 0 := of_decide_eq_false hs0
  have hs1 : ¬ (20 : Int) < st := of_decide_eq_false hs1
  show TrQ _ _ _ _ _ _ _
  refine TrQ.loop tblOK (drawOK tblOK) [7,14,16,18,20,21] (by kernel_rfl) (X := Nat × List Dsk) (fun x => psK l st x.1) (fun x => chB 1 200 x.2 ++ [(4, .cells (seL top base))]) (fun x => x.1 ≤ l.length ∧ CS 1 200 x.2 ∧ Sml x.2) (fun x => l.length - x.1) (0, []) ⟨Nat.zero_le _, CS.nil (by decide) (by decide), Sml.nil⟩ ?_ ?_
  · exact Le.sub ⟨rfl, rfl, rfl, rfl, rfl, rfl, rfl, trivial⟩ ⟨rfl, rfl, rfl, rfl, rfl, trivial⟩
  rintro ⟨k, L⟩ ⟨hk, hC, hSm⟩
  have hk : k ≤ l.length := hk
  have hC : CS 1 200 L := hC
  have hSm : Sml L := hSm
  refine ⟨fun hc => ?_, fun _ => ?_⟩
  · have hc : decide ((k : Int) < ((l.length : Nat) : Int)) = true := hc
    have hk1 : k < l.length := by have := of_decide_eq_true hc; omega
    have hO := hob _ (List.getElem_mem hk1)
    refine ⟨by omega, l[k], lgAt (n := k) hk1, ?_⟩
    refine ⟨rfl, ?_⟩
    show TrQ _ _ _ _ _ _ _
    refine TrQ.regionX tblOK (by kernel_rfl) ?_
    refine ⟨_, _, _, fun g => _, fun g => _, does16_fn hC l[k] (by omega), ⟨rfl, rfl, rfl, rfl, trivial⟩, rfl, fun _ => rfl, fun g => ?_⟩
    exact ⟨by omega, (k + 1, (doD 1 200 L l[k] g.1).L), ⟨hk1, g.2, hSm.do hC hO.2⟩, by show l.length - (k + 1) < l.length - k; omega, Le.sub ⟨rfl, rfl, rfl, rfl, rfl, rfl, rfl, trivial⟩ ⟨rfl, rfl, rfl, rfl, rfl, trivial⟩⟩
  by_cases he : pbE L top base = 0
  case neg =>
    have hbn := pbegin_no hC top base he
    generalize pbE L top base = pe at *
    refine ⟨_, _, _, _, hbn, ⟨rfl, rfl, rfl, rfl, trivial⟩, rfl, ?_⟩
    refine ⟨fun _ => ?_, fun h => ?_⟩
    · refine ⟨_, _, _, _, alive16_fn, trivial, rfl, ?_⟩
      refine ⟨fun _ => ?_, fun h => absurd h (by decide)⟩
      exact ⟨_, _, _, Le.refl _ _, rfl, (show (!decide (pe = 0)) = true by rw [decide_eq_false he]; rfl), trivial, rfl⟩
    · exfalso
      have h : (!decide (pe = 0)) = false := h
      rw [decide_eq_false he] at h
      cases h
  obtain ⟨⟨d, hd⟩, hbi, hbl⟩ := pbE_ok he
  refine ⟨_, _, _, _, pbegin_ok hC top base he, ⟨rfl, rfl, rfl, rfl, trivial⟩, rfl, ?_⟩
  refine ⟨fun h => absurd h (by decide), fun _ => ?_⟩

  show TrQ _ _ _ _ _ _ _
  refine TrQ.loop tblOK (drawOK tblOK) [14,16,18,20,21] (by kernel_rfl) (X := Nat × List Dsk × Bool) (fun x => psK2 st x.1) (fun x => jbB 200 x.2.1 top base x.2.2 4) (fun x => (x.1 : Int) ≤ st ∧ CS 1 200 x.2.1 ∧ ∃ d, dk x.2.1 top = some d) (fun x => (st - (x.1 : Int)).toNat) (0, L, false) ⟨by show ((0 : Nat) : Int) ≤ st; omega, hC, d, hd⟩ ?_ ?_
  · exact Le.sub ⟨rfl, rfl, rfl, rfl, rfl, trivial⟩ ⟨rfl, rfl, rfl, rfl, rfl, rfl, trivial⟩
  rintro ⟨j, L2, over⟩ ⟨hj, hC2, hk2⟩
  have hj : (j : Int) ≤ st := hj
  have hC2 : CS 1 200 L2 := hC2
  have hk2 : ∃ d, dk L2 top = some d := hk2
  have hst := fun d (hd : dk L2 top = some d) => pstep_fn hC2 base over hd
  have hkp := fun d (hd : dk L2 top = some d) => pstep_keep (base := base) (over := over) hC2 hd
  have hnt := fun d (hd : dk L2 top = some d) => pnext_fn hC2 base true hd
  have hst2 := fun d (hd : dk L2 top = some d) => pstep_fn hC2 base true hd
  have hst := hst _ hk2.choose_spec
  have hkp := hkp _ hk2.choose_spec
  have hnt := hnt _ hk2.choose_spec
  have hst2 := hst2 _ hk2.choose_spec
  rw [show pnC L2 top base true = (0, false) from rfl] at hnt
  rw [show pstep 1 L2 top base true = ⟨false, 160, L2, true⟩ from rfl] at hst2
  have hbk := chback_fn hC2 top
  generalize bkC L2 top = bk at *
  refine ⟨fun hc => ?_, fun hc => ?_⟩
  · have hc : decide ((j : Int) < st) = true := hc
    have hc := of_decide_eq_true hc
    show TrQ _ _ _ _ _ _ _
    refine TrQ.go tblOK (drawOK tblOK) [16,18,20,21] (by kernel_rfl) (Le.refl _ _) ?_
    refine ⟨_, _, _, _, hst, ⟨rfl, rfl, rfl, rfl, rfl, trivial⟩, rfl, ?_⟩
    exact ⟨by omega, (j + 1, (pstep 1 L2 top base over).L, (pstep 1 L2 top base over).over), ⟨by show ((j + 1 : Nat) : Int) ≤ st; omega, hkp⟩, by show (st - ((j + 1 : Nat) : Int)).toNat < (st - (j : Int)).toNat; omega, Le.sub ⟨rfl, rfl, rfl, rfl, rfl, trivial⟩ ⟨rfl, rfl, rfl, rfl, rfl, rfl, trivial⟩⟩
  · show TrQ _ _ _ _ _ _ _
    refine TrQ.go tblOK (drawOK tblOK) [18,20,21] (by kernel_rfl) (Le.refl _ _) ?_
    refine ⟨_, _, _, _, pcancel_fn 1 200 L2 top base over, ⟨rfl, rfl, rfl, rfl, rfl, trivial⟩, rfl, ?_⟩
    refine ⟨_, _, _, _, hbk, ⟨rfl, rfl, rfl, rfl, trivial⟩, rfl, ?_⟩
    show TrQ _ _ _ _ _ _ _
    refine TrQ.go tblOK (drawOK tblOK) [20,21] (by kernel_rfl) (Le.sub (K' := [(4, vP 4), (7, vP 1001), (11, vP 2001), (13, vS bk.1)]) (B' := jbB 200 L2 top base true 4) ⟨rfl, rfl, rfl, rfl, trivial⟩ ⟨rfl, rfl, rfl, rfl, rfl, rfl, trivial⟩) ?_
    refine ⟨_, _, _, _, hnt, ⟨rfl, rfl, rfl, rfl, rfl, trivial⟩, rfl, ?_⟩
    refine ⟨_, _, _, _, hst2, ⟨rfl, rfl, rfl, rfl, rfl, trivial⟩, rfl, ?_⟩
    show TrQ _ _ _ _ _ _ _
    refine TrQ.go tblOK (drawOK tblOK) [21] (by kernel_rfl) (Le.sub (K' := [(4, vP 4), (7, vP 1001), (11, vP 2001), (13, vS bk.1), (16, vB false), (17, vB false), (18, vI 160)]) (B' := jbB 200 L2 top base true 4) ⟨rfl, rfl, rfl, rfl, rfl, rfl, rfl, trivial⟩ ⟨rfl, rfl, rfl, rfl, rfl, rfl, trivial⟩) ?_
    refine ⟨_, _, _, _, hbk, ⟨rfl, rfl, rfl, rfl, trivial⟩, rfl, ?_⟩
    show TrQ _ _ _ _ _ _ _
    refine TrQ.go tblOK (drawOK tblOK) [] (by kernel_rfl) (Le.sub (K' := [(11, vP 2001), (13, vS bk.1), (16, vB false), (17, vB false), (18, vI 160), (19, vS bk.1)]) (B' := pjB1 1 200 L2 top base true) ⟨rfl, rfl, rfl, rfl, rfl, rfl, trivial⟩ ⟨rfl, rfl, rfl, rfl, rfl, trivial⟩) ?_
    refine ⟨_, _, _, _, alive16_fn, trivial, rfl, ?_⟩
    refine ⟨fun _ => ?_, fun h => absurd h (by decide)⟩
    refine ⟨fun _ => ?_, fun h => absurd h (by decide)⟩
    refine ⟨fun _ => ?_, fun h => absurd h (by decide)⟩
    refine ⟨fun _ => ?_, fun h => absurd h (by decide)⟩
    refine ⟨_, _, _, _, pover_fn 1 200 L2 top base true, ⟨rfl, rfl, rfl, rfl, rfl, trivial⟩, rfl, ?_⟩
    refine ⟨fun _ => ?_, fun h => absurd h (by decide)⟩
    exact ⟨_, _, _, Le.refl _ _, rfl, (show decide (bk.1 = bk.1) = true from decide_eq_true rfl), trivial, rfl⟩
end Go.Proofs.Ytaciecbbiplgiaa
