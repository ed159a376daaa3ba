/-
  ChainCopies: what is done with a copy is not seen in the first one.
-/
import Derived.Test.YtbcngglcaeehbaaLy
import Derived.Test.YtbcngglcaeehbaaCz
set_option linter.unusedVariables false
set_option linter.unusedSimpArgs false
set_option maxRecDepth 10000
namespace Go.Proofs.Ytbcngglcaeehbaa
open Go.RowKit Go.Proofs
theorem sameT_fn (a b : List (List UInt8)) (hl : a.length ≤ 4294967296) : Fn Try.prog 11 [vL .str a, vL .str b] [] [] (vB (decide (a = b))) [] := by
  refine Fn.of tblOK [] _ _ _ _ _ Try.func11 rfl rfl (by kernel_rfl) (by kernel_rfl) rfl (drawOK tblOK) rfl ?_
  refine ⟨fun h => ?_, fun h => ?_⟩
  · refine ⟨_, _, _, Le.refl _ _, rfl, (show false = decide (a = b) from ?_), trivial, rfl⟩
    have hne : a.length ≠ b.length := fun e => by
      have h : (!decide ((a.length : Int) = (b.length : Int))) = true := h
      simp [e] at h
    exact (decide_eq_false fun e => hne (by rw [e])).symm
  have hlen : a.length = b.length := by
    have h : (!decide ((a.length : Int) = (b.length : Int))) = false := h
    simp at h
    omega
  show TrQ _ _ _ _ _ _ _
  refine TrQ.loop tblOK (drawOK tblOK) [] (by kernel_rfl) (X := Nat) (fun k => [(0, vL .str a), (1, vL .str b), (5, vI (k : Nat))]) (fun _ => []) (fun k => k ≤ a.length ∧ ∀ (i : Nat), i < k → a[i]? = b[i]?) (fun k => a.length - k) 0 ⟨Nat.zero_le _, fun i h => absurd h (Nat.not_lt_zero _)⟩ ?_ ?_
  · exact Le.sub ⟨rfl, rfl, rfl, trivial⟩ trivial
  intro k ⟨hk, hp⟩
  refine ⟨fun h => ?_, fun h => ?_⟩
  · have hk1 : k < a.length := by
      have h : decide ((k : Int) < (a.length : Int)) = true := h
      simpa using h
    have hk2 : k < b.length := by omega
    refine ⟨by omega, a[k], lgetAt (n := k) hk1, ?_⟩
    refine ⟨by omega, b[k], lgetAt (n := k) hk2, ?_⟩
    refine ⟨rfl, fun h2 => ?_, fun h2 => ?_⟩
    · refine ⟨_, _, _, Le.refl _ _, rfl, (show false = decide (a = b) from ?_), trivial, rfl⟩
      have h2 : (!decide (a[k] = b[k])) = true := h2
      refine (decide_eq_false fun e => ?_).symm
      subst e
      simp at h2
    · have h2 : (!decide (a[k] = b[k])) = false := h2
      have h3 : a[k] = b[k] := by simpa using h2
      refine ⟨by omega, k + 1, ⟨by omega, fun i hi => ?_⟩, by omega, Le.sub ⟨rfl, rfl, rfl, trivial⟩ trivial⟩
      rcases Nat.lt_or_ge i k with h4 | h4
      · exact hp i h4
      · have : i = k := by omega
        subst this
        rw [List.getElem?_eq_getElem hk1, List.getElem?_eq_getElem hk2, h3]
  · have h : decide ((k : Int) < (a.length : Int)) = false := h
    have hk2 : k = a.length := by simp at h; omega
    refine ⟨_, _, _, Le.refl _ _, rfl, (show true = decide (a = b) from ?_), trivial, rfl⟩
    refine (decide_eq_true ?_).symm
    apply List.ext_getElem?
    intro i
    rcases Nat.lt_or_ge i a.length with h4 | h4
    · exact hp i (by omega)
    · rw [List.getElem?_eq_none h4, List.getElem?_eq_none (by omega)]
theorem nms_eqv {L L' : List Dsk} (h : (L'.map coreD).Perm (L.map coreD)) : nmsS L' = nmsS L := by
  have tr : ∀ a b c : List UInt8, Go.leB a b = true → Go.leB b c = true → Go.leB a c = true := fun a b c h1 h2 => by simp only [Go.leB, decide_eq_true_eq] at *; exact List.le_trans h1 h2
  have to : ∀ a b : List UInt8, (Go.leB a b || Go.leB b a) = true := fun a b => by simp only [Go.leB, Bool.or_eq_true, decide_eq_true_eq]; exact List.le_total a b
  have e : ∀ M : List Dsk, mkeys (chE M) = (M.map coreD).map (·.1) := fun M => by
    unfold chE mkeys
    rw [List.map_map, List.map_map]
    rfl
  have hp : (mkeys (chE L')).Perm (mkeys (chE L)) := by rw [e, e]; exact h.map _
  unfold nmsS keysS
  exact List.Perm.eq_of_pairwise (fun a b _ _ h1 h2 => by simp only [Go.leB, decide_eq_true_eq] at h1 h2; exact List.le_antisymm h1 h2) (List.pairwise_mergeSort tr to _) (List.pairwise_mergeSort tr to _) ((List.mergeSort_perm _ _).trans (hp.trans (List.mergeSort_perm _ _).symm))
@[reducible] def ufK (l m : List Cop) (k : Nat) : KL := [(1, vL uC m), (5, vP 1001), (50, vL uC l), (51, vI (l.length : Nat)), (52, vI (k : Nat))]
@[reducible] def ufK2 (m : List Cop) (k : Nat) : KL := [(5, vP 1001), (9, vP 7001), (10, vP 8001), (70, vL uC m), (71, vI (m.length : Nat)), (72, vI (k : Nat))]
@[reducible] def ufK3 (N : List (List UInt8)) (i : Nat) : KL := [(5, vP 1001), (10, vP 8001), (87, vL .str N), (88, vI (N.length : Nat)), (89, vI (i : Nat))]
@[reducible] def ufB (L Ld Lf : List Dsk) : BL := chB ((1 : Nat) : Int) ((40 : Nat) : Int) L ++ [(7001, .cells [.d (.int .i64 ((1 : Nat) : Int)), .d (.int .i64 ((40 : Nat) : Int)), .mp 7002]), (7002, .map .str .adr (chE Ld)), (7003, .obj (.pool (chD Ld))), (7004, .obj (.pool (chM Ld))), (8001, .cells [.d (.int .i64 ((1 : Nat) : Int)), .d (.int .i64 ((40 : Nat) : Int)), .mp 8002]), (8002, .map .str .adr (chE Lf)), (8003, .obj (.pool (chD Lf))), (8004, .obj (.pool (chM Lf)))]
@[reducible] def ufB2 (L Lf : List Dsk) : BL := chB ((1 : Nat) : Int) ((40 : Nat) : Int) L ++ [(8001, .cells [.d (.int .i64 ((1 : Nat) : Int)), .d (.int .i64 ((40 : Nat) : Int)), .mp 8002]), (8002, .map .str .adr (chE Lf)), (8003, .obj (.pool (chD Lf))), (8004, .obj (.pool (chM Lf)))]
@[reducible] def ufB1 (L Ld : List Dsk) : BL := chB ((1 : Nat) : Int) ((40 : Nat) : Int) L ++ [(7001, .cells [.d (.int .i64 ((1 : Nat) : Int)), .d (.int .i64 ((40 : Nat) : Int)), .mp 7002]), (7002, .map .str .adr (chE Ld)), (7003, .obj (.pool (chD Ld))), (7004, .obj (.pool (chM Ld)))]
set_option maxHeartbeats 2000000 in
theorem chainCopies_fn (l m : List Cop) (hl : l.length ≤ 1073741824) (ht : (l.map cTot).sum ≤ 1073741824) (hl2 : m.length ≤ 1073741824) (ht2 : (m.map cTot).sum ≤ 1073741824) : Fn Try.prog 3 [vL uC l, vL uC m] [] [] (vB true) [] := by
  refine Fn.of tblOK [7,9,15,17,18,23,24,25,26,29] _ _ _ _ _ Try.func3 rfl rfl (by kernel_rfl) (by kernel_rfl) rfl (drawOK tblOK) rfl ?_
  refine ⟨_, _, _, _, chnew_ok 1 40 (by decide) (by decide), trivial, rfl, ?_⟩
  refine ⟨fun h => absurd h (by decide), fun _ => ?_⟩
  refine ⟨_, _, _, _, few14_fn l hl ht, trivial, rfl, ?_⟩
  refine ⟨fun _ => ?_, fun hf => ?_⟩
  · refine ⟨fun _ => ?_, fun h => absurd h (by decide)⟩
    refine ⟨_, _, _, _, alive14_fn, trivial, rfl, ?_⟩
    exact ⟨_, _, _, Le.refl _ _, rfl, rfl, trivial, rfl⟩
  refine ⟨_, _, _, _, few14_fn m hl2 ht2, trivial, rfl, ?_⟩
  refine ⟨fun _ => ?_, fun hf2 => ?_⟩
  · refine ⟨fun _ => ?_, fun h => absurd h (by decide)⟩
    refine ⟨_, _, _, _, alive14_fn, trivial, rfl, ?_⟩
    exact ⟨_, _, _, Le.refl _ _, rfl, rfl, trivial, rfl⟩
  have hfew : fewO 40 l = true := by
    have hf : (!fewO 40 l) = false := hf
    simpa using hf
  have hfew2 : fewO 40 m = true := by
    have hf2 : (!fewO 40 m) = false := hf2
    simpa using hf2
  obtain ⟨hll, -, hob⟩ := fewO_get hfew
  obtain ⟨hlm, -, hom⟩ := fewO_get hfew2
  show TrQ _ _ _ _ _ _ _
  refine TrQ.loop tblOK (drawOK tblOK) [7,9,15,17,18,23,24,25,26,29] (by kernel_rfl) (X := Nat × List Dsk) (fun x => ufK l m x.1) (fun x => chB 1 40 x.2) (fun x => x.1 ≤ l.length ∧ CS 1 40 x.2) (fun x => l.length - x.1) (0, []) ⟨Nat.zero_le _, CS.nil (by decide) (by decide)⟩ ?_ ?_
  · exact Le.sub ⟨rfl, rfl, rfl, rfl, rfl, trivial⟩ ⟨rfl, rfl, rfl, rfl, trivial⟩
  rintro ⟨k, L⟩ ⟨hk, hC⟩
  have hk : k ≤ l.length := hk
  have hC : CS 1 40 L := hC
  refine ⟨fun hc => ?_, fun hc => ?_⟩
  · have hc : decide ((k : Int) < ((l.length : Nat) : Int)) = true := hc
    have hk1 : k < l.length := by have := of_decide_eq_true hc; omega
    have hO := (hob _ (List.getElem_mem hk1)).1
    refine ⟨by omega, l[k], lgAt (n := k) hk1, ?_⟩
    refine ⟨rfl, ?_⟩
    show TrQ _ _ _ _ _ _ _
    refine TrQ.regionX tblOK (by kernel_rfl) ?_
    refine ⟨_, _, _, fun g => _, fun g => _, does14_fn hC l[k] (by omega), ⟨rfl, rfl, rfl, rfl, trivial⟩, rfl, fun _ => rfl, fun g => ?_⟩
    exact ⟨by omega, (k + 1, (doC 1 40 L l[k] g.1).L), ⟨hk1, g.2⟩, by show l.length - (k + 1) < l.length - k; omega, Le.sub ⟨rfl, rfl, rfl, rfl, rfl, trivial⟩ ⟨rfl, rfl, rfl, rfl, trivial⟩⟩
  have hcp1 := FnX.ren [(2001, 7001), (2002, 7002), (2003, 7003), (2004, 7004)] (chcopy_fn hC)
  have hcp2 := FnX.ren [(2001, 8001), (2002, 8002), (2003, 8003), (2004, 8004)] (chcopy_fn hC)
  show TrQ _ _ _ _ _ _ _
  refine TrQ.le (Le.sub (K' := [(1, vL uC m), (5, vP 1001)]) (B' := chB ((1 : Nat) : Int) ((40 : Nat) : Int) L) ⟨rfl, rfl, trivial⟩ ⟨rfl, rfl, rfl, rfl, trivial⟩) ?_
  refine TrQ.regionX tblOK (by kernel_rfl) ?_
  refine ⟨_, _, _, fun g => _, fun g => _, hcp1, ⟨rfl, rfl, rfl, rfl, trivial⟩, rfl, fun _ => rfl, fun g => ?_⟩
  refine ⟨_, _, _, fun g => _, fun g => _, hcp2, ⟨rfl, rfl, rfl, rfl, trivial⟩, rfl, fun _ => rfl, fun g2 => ?_⟩
  obtain ⟨Ld0, hd0⟩ := g
  obtain ⟨Lf, hf0⟩ := g2
  show TrQ _ _ _ _ _ _ _
  refine TrQ.loop tblOK (drawOK tblOK) [15,17,18,23,24,25,26,29] (by kernel_rfl) (X := Nat × List Dsk) (fun x => ufK2 m x.1) (fun x => ufB L x.2 Lf) (fun x => x.1 ≤ m.length ∧ CS 1 40 x.2) (fun x => m.length - x.1) (0, Ld0) ⟨Nat.zero_le _, hd0.cs⟩ ?_ ?_
  · exact Le.sub ⟨rfl, rfl, rfl, rfl, rfl, rfl, trivial⟩ ⟨rfl, rfl, rfl, rfl, rfl, rfl, rfl, rfl, rfl, rfl, rfl, rfl, trivial⟩
  clear hcp1 hcp2 hd0
  rintro ⟨k2, Ld⟩ ⟨hk2, hCd⟩
  have hk2 : k2 ≤ m.length := hk2
  have hCd : CS 1 40 Ld := hCd
  refine ⟨fun hc => ?_, fun hc => ?_⟩
  · have hc : decide ((k2 : Int) < ((m.length : Nat) : Int)) = true := hc
    have hk1 : k2 < m.length := by have := of_decide_eq_true hc; omega
    have hO := (hom _ (List.getElem_mem hk1)).1
    refine ⟨by omega, m[k2], lgAt (n := k2) hk1, ?_⟩
    refine ⟨rfl, ?_⟩
    show TrQ _ _ _ _ _ _ _
    refine TrQ.regionX tblOK (by kernel_rfl) ?_
    refine ⟨_, _, _, fun g => _, fun g => _, FnX.ren [(1001, 7001), (1002, 7002), (1003, 7003), (1004, 7004)] (does14_fn hCd m[k2] (by omega)), ⟨rfl, rfl, rfl, rfl, trivial⟩, rfl, fun _ => rfl, fun g => ?_⟩
    exact ⟨by omega, (k2 + 1, (doC 1 40 Ld m[k2] g.1).L), ⟨hk1, g.2⟩, by show m.length - (k2 + 1) < m.length - k2; omega, Le.sub ⟨rfl, rfl, rfl, rfl, rfl, rfl, trivial⟩ ⟨rfl, rfl, rfl, rfl, rfl, rfl, rfl, rfl, rfl, rfl, rfl, rfl, trivial⟩⟩
  have hnc := chnames_fn hC
  have hnf := Fn.ren [(1001, 8001), (1002, 8002), (1003, 8003), (1004, 8004)] (chnames_fn hf0.cs)
  have hne := nms_eqv hf0.pm
  have hnl := nmsS_len L
  have hL16 := hC.len
  have hnm := fun n => @nmsS_mem L n
  rw [hne] at hnf
  generalize nmsS L = N at *
  have hst := sameT_fn N N (by omega)
  rw [decide_eq_true rfl] at hst
  show TrQ _ _ _ _ _ _ _
  refine TrQ.go tblOK (drawOK tblOK) [18,23,24,25,26,29] (by kernel_rfl) (Le.sub (K' := [(5, vP 1001), (10, vP 8001)]) (B' := ufB2 L Lf) ⟨rfl, rfl, trivial⟩ ⟨rfl, rfl, rfl, rfl, rfl, rfl, rfl, rfl, trivial⟩) ?_
  refine ⟨_, _, _, _, hnc, ⟨rfl, rfl, rfl, rfl, trivial⟩, rfl, ?_⟩
  show TrQ _ _ _ _ _ _ _
  refine TrQ.go tblOK (drawOK tblOK) [23,24,25,26,29] (by kernel_rfl) (Le.sub (K' := [(5, vP 1001), (10, vP 8001), (13, vL .str N)]) (B' := ufB2 L Lf) ⟨rfl, rfl, rfl, trivial⟩ ⟨rfl, rfl, rfl, rfl, rfl, rfl, rfl, rfl, trivial⟩) ?_
  refine ⟨_, _, _, _, hnf, ⟨rfl, rfl, rfl, rfl, trivial⟩, rfl, ?_⟩
  refine ⟨_, _, _, _, hst, trivial, rfl, ?_⟩
  refine ⟨fun h => absurd h (by decide), fun _ => ?_⟩
  show TrQ _ _ _ _ _ _ _
  refine TrQ.loop tblOK (drawOK tblOK) [23,24,25,26,29] (by kernel_rfl) (X := Nat) (fun i => ufK3 N i) (fun _ => ufB2 L Lf) (fun i => i ≤ N.length) (fun i => N.length - i) 0 (Nat.zero_le _) ?_ ?_
  · exact Le.sub ⟨rfl, rfl, rfl, rfl, rfl, trivial⟩ ⟨rfl, rfl, rfl, rfl, rfl, rfl, rfl, rfl, trivial⟩
  intro i hi
  have hi : i ≤ N.length := hi
  refine ⟨fun hc => ?_, fun hc => ?_⟩
  · have hc : decide ((i : Int) < ((N.length : Nat) : Int)) = true := hc
    have hi1 : i < N.length := by have := of_decide_eq_true hc; omega
    have hget := lgAt (n := i) hi1
    obtain ⟨d, hd⟩ := hnm _ (List.getElem_mem hi1)
    generalize N[i] = nm at *
    have hLm := hC.toChN.M (dk_get hd).1
    have htl := (hC.ims d (dk_get hd).1).1.tl
    have es1 := shl1 d.im.t.length
    have m1 : (0 : Int) ≤ ((d.im.t.length : Nat) : Int) ∧ (0 : Int) ≤ (1 : Int) ∧ (1 : Int) ≤ 64 := by omega
    have m2 : (-9223372036854775808 : Int) ≤ ((d.im.t.length : Nat) : Int) * ((2 ^ (1 : Int).toNat : Nat) : Int) ∧ ((d.im.t.length : Nat) : Int) * ((2 ^ (1 : Int).toNat : Nat) : Int) ≤ 9223372036854775807 := by rw [es1]; omega
    have him := image_fn ((1 : Nat) : Int) ((40 : Nat) : Int) L hC.toChN nm d hd
    have hr1 := fun a => chread_fn hC nm 0 a
    have hr2 := fun a => Fn.ren [(1001, 8001), (1002, 8002), (1003, 8003), (1004, 8004)] (chread_fn hf0.cs nm 0 a)
    have hre := fun a => hf0.eq.rd hC nm 0 a
    refine ⟨by omega, nm, hget, ?_⟩
    show TrQ _ _ _ _ _ _ _
    refine TrQ.go tblOK (drawOK tblOK) [24,25,26,29] (by kernel_rfl) (Le.sub (K' := [(5, vP 1001), (10, vP 8001), (87, vL .str N), (88, vI (N.length : Nat)), (89, vI (i : Nat)), (15, vS nm)]) (B' := ufB2 L Lf) ⟨rfl, rfl, rfl, rfl, rfl, rfl, trivial⟩ ⟨rfl, rfl, rfl, rfl, rfl, rfl, rfl, rfl, trivial⟩) ?_
    refine ⟨_, _, _, _, him, ⟨rfl, rfl, rfl, rfl, trivial⟩, rfl, ?_⟩
    refine ⟨_, _, _, _, imFn (isize_fn d.im) hLm rfl rfl rfl rfl, ⟨rfl, trivial⟩, rfl, ?_⟩
    refine ⟨m1, m2, ?_⟩
    generalize hN0 : ((d.im.t.length : Nat) : Int) * ((2 ^ (1 : Int).toNat : Nat) : Int) = n0
    have hr1 := hr1 n0
    have hr2 := hr2 n0
    have hre := hre n0
    rw [hre] at hr2
    generalize (rdC 1 L nm 0 n0).1 = xa at *
    generalize (rdC 1 L nm 0 n0).2 = xe at *
    show TrQ _ _ _ _ _ _ _
    refine TrQ.go tblOK (drawOK tblOK) [25,26,29] (by kernel_rfl) (Le.sub (K' := [(5, vP 1001), (10, vP 8001), (87, vL .str N), (88, vI (N.length : Nat)), (89, vI (i : Nat)), (15, vS nm), (16, vI n0)]) (B' := ufB2 L Lf) ⟨rfl, rfl, rfl, rfl, rfl, rfl, (by first | rfl | exact hN0), trivial⟩ ⟨rfl, rfl, rfl, rfl, rfl, rfl, rfl, rfl, trivial⟩) ?_
    refine ⟨_, _, _, _, hr1, ⟨rfl, rfl, rfl, rfl, trivial⟩, rfl, ?_⟩
    show TrQ _ _ _ _ _ _ _
    refine TrQ.go tblOK (drawOK tblOK) [26,29] (by kernel_rfl) (Le.sub (K' := [(5, vP 1001), (10, vP 8001), (87, vL .str N), (88, vI (N.length : Nat)), (89, vI (i : Nat)), (15, vS nm), (16, vI n0), (17, vL .u8 xa), (18, vI xe)]) (B' := ufB2 L Lf) ⟨rfl, rfl, rfl, rfl, rfl, rfl, rfl, rfl, rfl, trivial⟩ ⟨rfl, rfl, rfl, rfl, rfl, rfl, rfl, rfl, trivial⟩) ?_
    refine ⟨_, _, _, _, hr2, ⟨rfl, rfl, rfl, rfl, trivial⟩, rfl, ?_⟩
    show TrQ _ _ _ _ _ _ _
    refine TrQ.go tblOK (drawOK tblOK) [29] (by kernel_rfl) (Le.sub (K' := [(5, vP 1001), (10, vP 8001), (87, vL .str N), (88, vI (N.length : Nat)), (89, vI (i : Nat)), (17, vL .u8 xa), (18, vI xe), (19, vL .u8 xa), (20, vI xe)]) (B' := ufB2 L Lf) ⟨rfl, rfl, rfl, rfl, rfl, rfl, rfl, rfl, rfl, trivial⟩ ⟨rfl, rfl, rfl, rfl, rfl, rfl, rfl, rfl, trivial⟩) ?_
    refine ⟨fun h => ?_, fun _ => ?_⟩
    · exfalso
      have h : (!decide (xe = xe)) = true := h
      rw [decide_eq_true rfl] at h
      cases h
    refine ⟨fun h => ?_, fun _ => ?_⟩
    · exfalso
      have h : (!decide (xa = xa)) = true := h
      rw [decide_eq_true rfl] at h
      cases h
    exact ⟨by omega, i + 1, hi1, by omega, Le.sub ⟨rfl, rfl, rfl, rfl, rfl, trivial⟩ ⟨rfl, rfl, rfl, rfl, rfl, rfl, rfl, rfl, trivial⟩⟩
  · show TrQ _ _ _ _ _ _ _
    refine TrQ.go tblOK (drawOK tblOK) [] (by kernel_rfl) (Le.refl _ _) ?_
    refine ⟨_, _, _, _, alive14_fn, trivial, rfl, ?_⟩
    exact ⟨_, _, _, Le.refl _ _, rfl, rfl, trivial, rfl⟩
end Go.Proofs.Ytbcngglcaeehbaa
