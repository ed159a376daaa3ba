/-
  ChainDepths: nothing stands on itself, and nothing is deeper than it may be.
-/
import Derived.Test.YtclklmajbnadcaaUa
set_option linter.unusedVariables false
set_option linter.unusedSimpArgs false
set_option maxRecDepth 10000
namespace Go.Proofs.Ytclklmajbnadcaa
open Go.RowKit Go.Proofs
section
variable {bits room : Nat} {L : List Dsk}
theorem down_known (h : CS bits room L) {nm : List UInt8} {k : Nat} (hd : Dn L nm k) (h0 : ∃ d, dk L nm = some d) : ∀ j, j ≤ k → ∃ e, dk L (downTo L j nm) = some e
  | 0, _ => h0
  | j + 1, hj => by
    obtain ⟨e, he⟩ := down_known h hd h0 j (by omega)
    have hat := dn_at hd j (by omega)
    rw [downTo_succ, he]
    simp only
    generalize hm : k - j = m at hat
    cases hat with
    | gone hg => rw [he] at hg; cases hg
    | base _ _ => omega
    | step h1 h2 _ =>
      rw [he] at h1
      injection h1 with h1
      subst h1
      exact h.kn e (dk_get he).1 h2
theorem down_end (h : CS bits room L) {nm : List UInt8} {k : Nat} (hd : Dn L nm k) (h0 : ∃ d, dk L nm = some d) : downTo L (k + 1) nm = [] := by
  obtain ⟨e, he⟩ := down_known h hd h0 k (Nat.le_refl _)
  have hat := dn_at hd k (Nat.le_refl _)
  rw [Nat.sub_self] at hat
  rw [downTo_succ, he]
  simp only
  cases hat with
  | gone hg => rw [he] at hg; cases hg
  | base h1 h2 =>
    rw [he] at h1
    injection h1 with h1
    subst h1
    exact h2
theorem known_ne (h : CS bits room L) {n : List UInt8} (hn : ∃ e, dk L n = some e) : n ≠ [] := by
  obtain ⟨e, he⟩ := hn
  rw [← (dk_get he).2]
  exact h.ne e (dk_get he).1
end
@[reducible] def ubK (l : List Cop) (k : Nat) : KL := [(0, vL uC l), (3, vP 1001), (37, vL uC l), (38, vI (l.length : Nat)), (39, vI (k : Nat))]
@[reducible] def ubK2 (l : List Cop) (k : Nat) (N : List (List UInt8)) (i : Nat) : KL := [(0, vL uC l), (3, vP 1001), (37, vL uC l), (38, vI (l.length : Nat)), (39, vI (k : Nat)), (47, vL .str N), (48, vI (N.length : Nat)), (49, vI (i : Nat))]
@[reducible] def ubK3 (l : List Cop) (k : Nat) (N : List (List UInt8)) (i : Nat) (d : Nat) (j : Nat) (at_ : List UInt8) : KL := [(0, vL uC l), (3, vP 1001), (37, vL uC l), (38, vI (l.length : Nat)), (39, vI (k : Nat)), (47, vL .str N), (48, vI (N.length : Nat)), (49, vI (i : Nat)), (9, vI (d : Nat)), (10, vI 0), (11, vI (j : Nat)), (12, vS at_)]
set_option maxHeartbeats 1000000 in
theorem chainDepths_fn (l : List Cop) (hl : l.length ≤ 1073741824) (ht : (l.map cTot).sum ≤ 1073741824) : Fn Try.prog 5 [vL uC l] [] [] (vB true) [] := by
  refine Fn.of tblOK [] _ _ _ _ _ Try.func5 rfl rfl (by kernel_rfl) (by kernel_rfl) rfl (drawOK tblOK) rfl ?_
  refine ⟨_, _, _, _, chnew_ok 0 30 (by decide) (by decide), trivial, rfl, ?_⟩
  refine ⟨fun h => absurd h (by decide), fun _ => ?_⟩
  refine ⟨_, _, _, _, few14_fn l hl ht, trivial, rfl, ?_⟩
  refine ⟨fun _ => ?_, fun hf => ?_⟩
  · refine ⟨fun _ => ?_, fun h => absurd h (by decide)⟩
    refine ⟨_, _, _, _, alive14_fn, trivial, rfl, ?_⟩
    exact ⟨_, _, _, Le.refl _ _, rfl, rfl, trivial, rfl⟩
  have hfew : fewO 40 l = true := by
    have hf : (!fewO 40 l) = false := hf
    simpa using hf
  obtain ⟨hll, -, hob⟩ := fewO_get hfew
  show TrQ _ _ _ _ _ _ _
  refine TrQ.loop tblOK (drawOK tblOK) [7,8] (by kernel_rfl) (X := Nat × List Dsk) (fun x => ubK l x.1) (fun x => chB 0 30 x.2) (fun x => x.1 ≤ l.length ∧ CS 0 30 x.2) (fun x => l.length - x.1) (0, []) ⟨Nat.zero_le _, CS.nil (by decide) (by decide)⟩ ?_ ?_
  · exact Le.sub ⟨rfl, rfl, rfl, rfl, rfl, trivial⟩ ⟨rfl, rfl, rfl, rfl, trivial⟩
  rintro ⟨k, L⟩ ⟨hk, hC⟩
  have hk : k ≤ l.length := hk
  have hC : CS 0 30 L := hC
  refine ⟨fun hc => ?_, fun hc => ?_⟩
  · have hc : decide ((k : Int) < ((l.length : Nat) : Int)) = true := hc
    have hk1 : k < l.length := by have := of_decide_eq_true hc; omega
    have hO := (hob _ (List.getElem_mem hk1)).1
    refine ⟨by omega, l[k], lgAt (n := k) hk1, ?_⟩
    refine ⟨rfl, ?_⟩
    show TrQ _ _ _ _ _ _ _
    refine TrQ.regionX tblOK (by kernel_rfl) ?_
    refine ⟨_, _, _, fun g => _, fun g => _, does14_fn hC l[k] (by omega), ⟨rfl, rfl, rfl, rfl, trivial⟩, rfl, fun _ => rfl, fun g => ?_⟩
    obtain ⟨g, hC2⟩ := g
    show TrQ _ _ _ _ _ _ _
    refine TrQ.le (Le.sub (K' := ubK l k) (B' := chB 0 30 (doC 0 30 L l[k] g).L) ⟨rfl, rfl, rfl, rfl, rfl, trivial⟩ ⟨rfl, rfl, rfl, rfl, trivial⟩) ?_
    generalize (doC 0 30 L l[k] g).L = L2 at hC2
    have hnl := nmsS_len L2
    have hL16 := hC2.len
    refine TrQ.go tblOK (drawOK tblOK) [] (by kernel_rfl) (Le.refl _ _) ?_
    refine ⟨_, _, _, _, chnames_fn hC2, ⟨rfl, rfl, rfl, rfl, trivial⟩, rfl, ?_⟩
    show TrQ _ _ _ _ _ _ _
    refine TrQ.loop tblOK (drawOK tblOK) [12,16] (by kernel_rfl) (X := Nat) (fun i => ubK2 l k (nmsS L2) i) (fun _ => chB 0 30 L2) (fun i => i ≤ (nmsS L2).length) (fun i => (nmsS L2).length - i) 0 (Nat.zero_le _) ?_ ?_
    · exact Le.sub ⟨rfl, rfl, rfl, rfl, rfl, rfl, rfl, rfl, trivial⟩ ⟨rfl, rfl, rfl, rfl, trivial⟩
    intro i hi
    refine ⟨fun hc => ?_, fun hc => ?_⟩
    · have hc : decide ((i : Int) < (((nmsS L2).length : Nat) : Int)) = true := hc
      have hi1 : i < (nmsS L2).length := by have := of_decide_eq_true hc; omega
      have hget := lgAt (n := i) hi1
      obtain ⟨d, hd⟩ := nmsS_mem (List.getElem_mem hi1)
      generalize hx : (nmsS L2)[i] = nm at *
      refine ⟨by omega, nm, hget, ?_⟩
      have hdp := chdepth_fn hC2 nm
      rw [show dpC L2 nm = (((dpt L2 nm : Nat) : Int), 0) by unfold dpC; rw [hd]] at hdp
      obtain ⟨hD, h8⟩ := hC2.dep nm
      generalize dpt L2 nm = dd at *
      have hbk : ∀ j, j ≤ dd → bkC L2 (downTo L2 j nm) = (downTo L2 (j + 1) nm, 0) ∧ downTo L2 j nm ≠ [] := fun j hj => by
        obtain ⟨e, he⟩ := down_known hC2 hD ⟨d, hd⟩ j hj
        refine ⟨?_, known_ne hC2 ⟨e, he⟩⟩
        unfold bkC
        rw [downTo_succ, he]
      have hend := down_end hC2 hD ⟨d, hd⟩
      refine ⟨_, _, _, _, hdp, ⟨rfl, rfl, rfl, rfl, trivial⟩, rfl, ?_⟩
      show TrQ _ _ _ _ _ _ _
      refine TrQ.go tblOK (drawOK tblOK) [16] (by kernel_rfl) (Le.sub (K' := [(0, vL uC l), (3, vP 1001), (37, vL uC l), (38, vI (l.length : Nat)), (39, vI (k : Nat)), (47, vL .str (nmsS L2)), (48, vI ((nmsS L2).length : Nat)), (49, vI (i : Nat)), (9, vI (dd : Nat)), (10, vI 0), (8, vS nm)]) (B' := chB 0 30 L2) ⟨rfl, rfl, rfl, rfl, rfl, rfl, rfl, rfl, rfl, rfl, rfl, trivial⟩ ⟨rfl, rfl, rfl, rfl, trivial⟩) ?_
      show TrQ _ _ _ _ _ _ _
      refine TrQ.loop tblOK (drawOK tblOK) [16] (by kernel_rfl) (X := Nat) (fun j => ubK3 l k (nmsS L2) i dd j (downTo L2 j nm)) (fun _ => chB 0 30 L2) (fun j => j ≤ dd + 1) (fun j => dd + 1 - j) 0 (Nat.zero_le _) ?_ ?_
      · exact Le.sub ⟨rfl, rfl, rfl, rfl, rfl, rfl, rfl, rfl, rfl, rfl, rfl, rfl, trivial⟩ ⟨rfl, rfl, rfl, rfl, trivial⟩
      intro j hj
      refine ⟨fun h1 => ?_, fun h1 => ?_⟩
      · have h1 : (!decide (downTo L2 j nm = [])) = true := h1
        have h1 : ¬ downTo L2 j nm = [] := by simpa using h1
        have hjd : j ≤ dd := by
          rcases Nat.lt_or_ge dd j with h | h
          · have : j = dd + 1 := by omega
            subst this
            exact absurd hend h1
          · exact h
        have hcb := chback_fn hC2 (downTo L2 j nm)
        rw [(hbk j hjd).1] at hcb
        refine ⟨fun _ => ?_, fun h2 => ?_⟩
        · refine ⟨_, _, _, _, hcb, ⟨rfl, rfl, rfl, rfl, trivial⟩, rfl, ?_⟩
          exact ⟨by omega, j + 1, by omega, by omega, Le.sub ⟨rfl, rfl, rfl, rfl, rfl, rfl, rfl, rfl, rfl, rfl, rfl, rfl, trivial⟩ ⟨rfl, rfl, rfl, rfl, trivial⟩⟩
        · exfalso
          have h2 : decide ((j : Int) ≤ 16) = false := h2
          have := of_decide_eq_false h2
          omega
      · have h1 : (!decide (downTo L2 j nm = [])) = false := h1
        have h1 : downTo L2 j nm = [] := by simpa using h1
        have hj2 : j = dd + 1 := by
          rcases Nat.lt_or_ge dd j with h | h
          · omega
          · exact absurd h1 (hbk j h).2
        show TrQ _ _ _ _ _ _ _
        refine TrQ.go tblOK (drawOK tblOK) [] (by kernel_rfl) (Le.refl _ _) ?_
        refine ⟨fun h => absurd h (by decide), fun _ => ?_⟩
        refine ⟨by omega, ?_⟩
        refine ⟨fun h => ?_, fun _ => ?_⟩
        · exfalso
          have h : (!decide ((dd : Int) = ((j : Nat) : Int) - 1)) = true := h
          simp at h
          omega
        refine ⟨fun h => ?_, fun _ => ?_⟩
        · exfalso
          have h : decide ((8 : Int) < (dd : Int)) = true := h
          have := of_decide_eq_true h
          omega
        refine ⟨fun h2 => ?_, fun _ => ?_⟩
        · exfalso
          have h2 : (!decide (downTo L2 j nm = [])) = true := h2
          rw [h1] at h2
          exact absurd h2 (by decide)
        exact ⟨by omega, i + 1, hi1, by omega, Le.sub ⟨rfl, rfl, rfl, rfl, rfl, rfl, rfl, rfl, trivial⟩ ⟨rfl, rfl, rfl, rfl, trivial⟩⟩
    · have hc : decide ((i : Int) < (((nmsS L2).length : Nat) : Int)) = false := hc
      exact ⟨by omega, (k + 1, L2), ⟨hk1, hC2⟩, by show l.length - (k + 1) < l.length - k; omega, Le.sub ⟨rfl, rfl, rfl, rfl, rfl, trivial⟩ ⟨rfl, rfl, rfl, rfl, trivial⟩⟩
  · refine ⟨_, _, _, _, alive14_fn, trivial, rfl, ?_⟩
    exact ⟨_, _, _, Le.refl _ _, rfl, rfl, trivial, rfl⟩
end Go.Proofs.Ytclklmajbnadcaa
