/-
  ChainRows: what the row tells.
-/
import Derived.Test.YtclklmajbnadcaaUc
set_option linter.unusedVariables false
set_option linter.unusedSimpArgs false
set_option maxRecDepth 10000
namespace Go.Proofs.Ytclklmajbnadcaa
open Go.RowKit Go.Proofs

theorem ex_at {bits : Nat} {L : List Dsk} {nm : List UInt8} {n : Nat} {x : Xt} (hx : x ∈ exOf (awyL bits L nm n)) : 0 ≤ x.1 ∧ 1 ≤ x.2.1 ∧ x.1 + x.2.1 ≤ (n : Int) ∧ ∀ k : Nat, x.1 ≤ (k : Int) → (k : Int) < x.1 + x.2.1 → x.2.2 = ((awy bits L nm k : Nat) : Int) := by
  obtain ⟨h1, h2, h3, h4⟩ := (exOf_ok (awyL bits L nm n)).each x hx
  rw [awyL_len] at h3
  refine ⟨h1, h2, h3, fun k hk1 hk2 => ?_⟩
  have h5 := h4 k hk1 hk2
  unfold awyL at h5
  rw [List.getElem?_map, List.getElem?_range (by omega)] at h5
  injection h5 with h5
  exact h5.symm
@[reducible] def udK (nm : List UInt8) (e d : Int) (R : List Xt) (i : Nat) : KL := [(1, vS nm), (5, vP 1001), (10, vI e), (11, vI d), (64, vL uEx R), (65, vI (R.length : Nat)), (66, vI (i : Nat))]
@[reducible] def udK1 (nm : List UInt8) (e d : Int) (R : List Xt) (i : Nat) : KL := [(1, vS nm), (5, vP 1001), (10, vI e), (11, vI d), (64, vL uEx R), (65, vI (R.length : Nat)), (66, vI (i : Nat)), (14, vP 14)]
@[reducible] def udK2 (nm : List UInt8) (e d : Int) (R : List Xt) (i : Nat) (x : Xt) (j : Nat) : KL := [(1, vS nm), (5, vP 1001), (10, vI e), (11, vI d), (64, vL uEx R), (65, vI (R.length : Nat)), (66, vI (i : Nat)), (14, vP 14), (15, vI (x.1 + (j : Int)))]
@[reducible] def udB (L : List Dsk) (x : Xt) : BL := chB 1 40 L ++ [(14, .cells (exL x))]
set_option maxHeartbeats 1000000 in
theorem chainRows_fn (l : List Cop) (nm : List UInt8) (hl : l.length ≤ 1073741824) (ht : (l.map cTot).sum ≤ 1073741824) : Fn Try.prog 6 [vL uC l, vS nm] [] [] (vB true) [] := by
  refine Fn.of tblOK [14,17,22] _ _ _ _ _ Try.func6 rfl rfl (by kernel_rfl) (by kernel_rfl) rfl (drawOK tblOK) rfl ?_
  refine ⟨_, _, _, _, chnew_ok 1 40 (by decide) (by decide), trivial, rfl, ?_⟩
  refine ⟨fun h => absurd h (by decide), fun _ => ?_⟩
  refine ⟨_, _, _, _, few14_fn l hl ht, trivial, rfl, ?_⟩
  refine ⟨fun _ => ?_, fun hf => ?_⟩
  · refine ⟨fun _ => ?_, fun h => absurd h (by decide)⟩
    refine ⟨_, _, _, _, alive14_fn, trivial, rfl, ?_⟩
    exact ⟨_, _, _, Le.refl _ _, rfl, rfl, trivial, rfl⟩
  have hfew : fewO 40 l = true := by
    have hf : (!fewO 40 l) = false := hf
    simpa using hf
  obtain ⟨hll, -, hob⟩ := fewO_get hfew
  show TrQ _ _ _ _ _ _ _
  refine TrQ.loop tblOK (drawOK tblOK) [7] (by kernel_rfl) (X := Nat × List Dsk) (fun x => ucK nm l x.1) (fun x => chB 1 40 x.2) (fun x => x.1 ≤ l.length ∧ CS 1 40 x.2) (fun x => l.length - x.1) (0, []) ⟨Nat.zero_le _, CS.nil (by decide) (by decide)⟩ ?_ ?_
  · exact Le.sub ⟨rfl, rfl, rfl, rfl, rfl, rfl, trivial⟩ ⟨rfl, rfl, rfl, rfl, trivial⟩
  rintro ⟨k, L⟩ ⟨hk, hC⟩
  have hk : k ≤ l.length := hk
  have hC : CS 1 40 L := hC
  refine ⟨fun hc => ?_, fun _ => ?_⟩
  · have hc : decide ((k : Int) < ((l.length : Nat) : Int)) = true := hc
    have hk1 : k < l.length := by have := of_decide_eq_true hc; omega
    have hO := (hob _ (List.getElem_mem hk1)).1
    refine ⟨by omega, l[k], lgAt (n := k) hk1, ?_⟩
    refine ⟨rfl, ?_⟩
    show TrQ _ _ _ _ _ _ _
    refine TrQ.regionX tblOK (by kernel_rfl) ?_
    refine ⟨_, _, _, fun g => _, fun g => _, does14_fn hC l[k] (by omega), ⟨rfl, rfl, rfl, rfl, trivial⟩, rfl, fun _ => rfl, fun g => ?_⟩
    exact ⟨by omega, (k + 1, (doC 1 40 L l[k] g.1).L), ⟨hk1, g.2⟩, by show l.length - (k + 1) < l.length - k; omega, Le.sub ⟨rfl, rfl, rfl, rfl, rfl, rfl, trivial⟩ ⟨rfl, rfl, rfl, rfl, trivial⟩⟩
  refine ⟨_, _, _, _, chrow_fn hC nm, ⟨rfl, rfl, rfl, rfl, trivial⟩, rfl, ?_⟩
  refine ⟨_, _, _, _, chdepth_fn hC nm, ⟨rfl, rfl, rfl, rfl, trivial⟩, rfl, ?_⟩
  show TrQ _ _ _ _ _ _ _
  have hR : ∀ x, x ∈ (rwC 1 L nm).1 → ∃ d, dk L nm = some d ∧ x ∈ exOf (awyL 1 L nm d.im.t.length) := fun x hx => by
    unfold rwC at hx
    cases hd : dk L nm with
    | none => rw [hd] at hx; cases hx
    | some d => rw [hd] at hx; exact ⟨d, rfl, hx⟩
  have hRl : (rwC 1 L nm).1.length ≤ 256 := by
    unfold rwC
    cases hd : dk L nm with
    | none => exact Nat.zero_le _
    | some d =>
      have h1 := (exOf_ok (awyL 1 L nm d.im.t.length)).len
      rw [awyL_len] at h1
      exact Nat.le_trans h1 (hC.ims d (dk_get hd).1).1.tl
  have hRe : (rwC 1 L nm).2 = (match dk L nm with | none => 140 | some _ => 0) := by unfold rwC; cases dk L nm <;> rfl
  have hde : ∀ d, dk L nm = some d → (dpC L nm).1 = ((dpt L nm : Nat) : Int) := fun d hd => by unfold dpC; rw [hd]
  generalize (rwC 1 L nm).1 = R at *
  generalize (rwC 1 L nm).2 = re at *
  generalize (dpC L nm).1 = dp at *
  refine TrQ.loop tblOK (drawOK tblOK) [14,17,22] (by kernel_rfl) (X := Nat) (udK nm re dp R) (fun _ => chB 1 40 L) (fun i => i ≤ R.length) (fun i => R.length - i) 0 (Nat.zero_le _) ?_ ?_
  · exact Le.sub ⟨rfl, rfl, rfl, rfl, rfl, rfl, rfl, trivial⟩ ⟨rfl, rfl, rfl, rfl, trivial⟩
  intro i hi
  refine ⟨fun hc => ?_, fun _ => ?_⟩
  · have hc : decide ((i : Int) < ((R.length : Nat) : Int)) = true := hc
    have hi1 : i < R.length := by have := of_decide_eq_true hc; omega
    obtain ⟨d, hd, hx⟩ := hR _ (List.getElem_mem hi1)
    have hget := lgAt (n := i) hi1
    generalize R[i] = x at *
    refine ⟨by omega, x, hget, ?_⟩
    refine ⟨rfl, ?_⟩
    have ho := (hC.ims d (dk_get hd).1).1
    have htl := ho.tl
    obtain ⟨x1, x2, x3, x4⟩ := ex_at hx
    have hdp := hde d hd
    have hd8 := (hC.dep nm).2
    show TrQ _ _ _ _ _ _ _
    refine TrQ.go tblOK (drawOK tblOK) [17,22] (by kernel_rfl) (Le.sub (K' := udK1 nm re dp R i) (B' := udB L x) ⟨rfl, rfl, rfl, rfl, rfl, rfl, rfl, rfl, trivial⟩ ⟨rfl, rfl, rfl, rfl, rfl, trivial⟩) ?_
    show TrQ _ _ _ _ _ _ _
    refine TrQ.loop tblOK (drawOK tblOK) [17,22] (by kernel_rfl) (X := Nat) (udK2 nm re dp R i x) (fun _ => udB L x) (fun j => (j : Int) ≤ x.2.1) (fun j => (x.2.1 - (j : Int)).toNat) 0 (by show ((0 : Nat) : Int) ≤ x.2.1; omega) ?_ ?_
    · exact Le.sub ⟨rfl, rfl, rfl, rfl, rfl, rfl, rfl, rfl, (by show x.1 = x.1 + ((0 : Nat) : Int); omega), trivial⟩ ⟨rfl, rfl, rfl, rfl, rfl, trivial⟩
    intro j hj
    have m : (-9223372036854775808 : Int) ≤ x.1 + x.2.1 ∧ x.1 + x.2.1 ≤ 9223372036854775807 := by omega
    refine ⟨m, ?_⟩
    refine ⟨fun hc => ?_, fun _ => ?_⟩
    · have hc : decide (x.1 + (j : Int) < x.1 + x.2.1) = true := hc
      have hc := of_decide_eq_true hc
      obtain ⟨kn, hkn⟩ : ∃ kn : Nat, x.1 + (j : Int) = (kn : Int) := ⟨(x.1 + (j : Int)).toNat, by omega⟩
      have hkl : kn < d.im.t.length := by omega
      have hxk := x4 kn (by omega) (by omega)
      have hcc := chcluster_fn hC nm (kn : Int)
      rw [show clC 1 L nm (kn : Int) = cseen 1 L nm (dpt L nm) kn by unfold clC; rw [hd]; simp only; rw [if_pos ⟨by omega, by omega⟩]; rfl] at hcc
      have h1 := awy_one hC hd (c := kn)
      have h0 := fun e => awy_zero hC hd (c := kn) e
      have hle := awy_le hC hd (c := kn)
      generalize cseen 1 L nm (dpt L nm) kn = z at *
      generalize hkd : (d.im.t.getD kn s0).1 = kd at *
      have hik := ikindD_fn d.im htl kn hkl
      rw [hkd] at hik
      show TrQ _ _ _ _ _ _ _
      refine TrQ.go tblOK (drawOK tblOK) [22] (by kernel_rfl) (Le.sub (K' := [(1, vS nm), (5, vP 1001), (10, vI re), (11, vI dp), (64, vL uEx R), (65, vI (R.length : Nat)), (66, vI (i : Nat)), (14, vP 14), (15, vI (kn : Int))]) (B' := udB L x) ⟨rfl, rfl, rfl, rfl, rfl, rfl, rfl, rfl, hkn, trivial⟩ ⟨rfl, rfl, rfl, rfl, rfl, trivial⟩) ?_
      refine ⟨_, _, _, _, hcc, ⟨rfl, rfl, rfl, rfl, trivial⟩, rfl, ?_⟩
      refine ⟨_, _, _, _, image_fn _ _ L hC.toChN nm d hd, ⟨rfl, rfl, rfl, rfl, trivial⟩, rfl, ?_⟩
      refine ⟨_, _, _, _, imFn hik (hC.toChN.M (dk_get hd).1) rfl rfl rfl rfl, ⟨rfl, trivial⟩, rfl, ?_⟩
      have m2 : (-9223372036854775808 : Int) ≤ dp + 1 ∧ dp + 1 ≤ 9223372036854775807 := by omega
      have m3 : (-9223372036854775808 : Int) ≤ (kn : Int) + 1 ∧ (kn : Int) + 1 ≤ 9223372036854775807 := by omega
      refine ⟨fun c1 => ?_, fun c1 => ?_⟩
      · have c1 : x.2.2 = 0 := of_decide_eq_true c1
        refine ⟨⟨rfl, by decide, by decide⟩, rfl, ?_⟩
        refine ⟨fun h => ?_, fun _ => ?_⟩
        · exfalso
          have h : (!decide (z = List.replicate (32 : Int).toNat 0)) = true := h
          rw [h0 (by omega)] at h
          exact absurd h (by decide)
        refine ⟨fun h => ?_, fun _ => ?_⟩
        · exfalso
          have h : (decide (x.2.2 = 1) == decide (kd = 0)) = true := h
          by_cases hk0 : kd = 0
          · rw [decide_eq_true hk0] at h
            have h : x.2.2 = 1 := by simpa using h
            exact (h1.1 (by omega)).2 hk0
          · rw [decide_eq_false hk0] at h
            have h : ¬ x.2.2 = 1 := by simpa using h
            have := h1.2 ⟨hkl, hk0⟩
            omega
        refine ⟨fun h => ?_, fun _ => ?_⟩
        · exfalso
          have h : decide (x.2.2 < 0) = true := h
          have := of_decide_eq_true h
          omega
        refine ⟨m2, rfl, ?_⟩
        refine ⟨fun h => ?_, fun _ => ?_⟩
        · exfalso
          have h : decide (dp + 1 < x.2.2) = true := h
          have := of_decide_eq_true h
          omega
        exact ⟨m3, j + 1, by show ((j + 1 : Nat) : Int) ≤ x.2.1; omega, by show (x.2.1 - ((j + 1 : Nat) : Int)).toNat < (x.2.1 - (j : Int)).toNat; omega, Le.sub ⟨rfl, rfl, rfl, rfl, rfl, rfl, rfl, rfl, (by show (kn : Int) + 1 = x.1 + ((j + 1 : Nat) : Int); omega), trivial⟩ ⟨rfl, rfl, rfl, rfl, rfl, trivial⟩⟩
      · have c1 : ¬ x.2.2 = 0 := of_decide_eq_false c1
        refine ⟨fun h => ?_, fun _ => ?_⟩
        · exfalso
          have h : (decide (x.2.2 = 1) == decide (kd = 0)) = true := h
          by_cases hk0 : kd = 0
          · rw [decide_eq_true hk0] at h
            have h : x.2.2 = 1 := by simpa using h
            exact (h1.1 (by omega)).2 hk0
          · rw [decide_eq_false hk0] at h
            have h : ¬ x.2.2 = 1 := by simpa using h
            have := h1.2 ⟨hkl, hk0⟩
            omega
        refine ⟨fun h => ?_, fun _ => ?_⟩
        · exfalso
          have h : decide (x.2.2 < 0) = true := h
          have := of_decide_eq_true h
          omega
        refine ⟨m2, rfl, ?_⟩
        refine ⟨fun h => ?_, fun _ => ?_⟩
        · exfalso
          have h : decide (dp + 1 < x.2.2) = true := h
          have := of_decide_eq_true h
          omega
        exact ⟨m3, j + 1, by show ((j + 1 : Nat) : Int) ≤ x.2.1; omega, by show (x.2.1 - ((j + 1 : Nat) : Int)).toNat < (x.2.1 - (j : Int)).toNat; omega, Le.sub ⟨rfl, rfl, rfl, rfl, rfl, rfl, rfl, rfl, (by show (kn : Int) + 1 = x.1 + ((j + 1 : Nat) : Int); omega), trivial⟩ ⟨rfl, rfl, rfl, rfl, rfl, trivial⟩⟩
    · exact ⟨by omega, i + 1, hi1, by omega, Le.sub ⟨rfl, rfl, rfl, rfl, rfl, rfl, rfl, trivial⟩ ⟨rfl, rfl, rfl, rfl, trivial⟩⟩
  · show TrQ _ _ _ _ _ _ _
    refine TrQ.go tblOK (drawOK tblOK) [] (by kernel_rfl) (Le.refl _ _) ?_
    refine ⟨_, _, _, _, alive14_fn, trivial, rfl, ?_⟩
    refine ⟨fun _ => ?_, fun h => absurd h (by decide)⟩
    cases hd : dk L nm with
    | none =>
      rw [hd] at hRe
      refine ⟨_, _, _, _, image_no _ _ L nm hd, ⟨rfl, rfl, rfl, rfl, trivial⟩, rfl, ?_⟩
      exact ⟨_, _, _, Le.refl _ _, rfl, (show (decide (re = 0) == false) = true by rw [hRe]; rfl), trivial, rfl⟩
    | some d =>
      rw [hd] at hRe
      refine ⟨_, _, _, _, image_fn _ _ L hC.toChN nm d hd, ⟨rfl, rfl, rfl, rfl, trivial⟩, rfl, ?_⟩
      refine ⟨fun _ _ => ?_, fun h => by cases h⟩
      exact ⟨_, _, _, Le.refl _ _, rfl, (show (decide (re = 0) == true) = true by rw [hRe]; rfl), trivial, rfl⟩
end Go.Proofs.Ytclklmajbnadcaa
