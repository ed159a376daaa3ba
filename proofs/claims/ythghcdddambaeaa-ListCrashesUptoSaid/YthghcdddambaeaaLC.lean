/-
  Drop; the law ListNames: the walk.
-/
import Derived.Test.YthghcdddambaeaaLA
import Derived.Test.YthghcdddambaeaaDel
set_option linter.unusedVariables false
set_option linter.unusedSimpArgs false
set_option maxRecDepth 10000
namespace Go.Proofs.Ythghcdddambaeaa
open Go.RowKit Go.Proofs

/-- What Drop answers; what it leaves. -/
def dropE (L : List Bup) (nm : List UInt8) : Int := if fnd L nm < 0 then 181 else if isPar L nm = true then 1 else 0
def dropL (L : List Bup) (nm : List UInt8) : List Bup := if dropE L nm = 0 then L.eraseIdx (fnd L nm).toNat else L
theorem drop_spec (L : List Bup) (nm : List UInt8) (hL : L.length ≤ 1000000) : Fn Try.prog 23 [vP 1001, vS nm] (lstB L) [1003] (vI (dropE L nm)) (lstC (dropL L nm)) := by
  have hfind := find_spec nm L (by omega)
  have hcon := contains_spec 62 _ nm L (by omega) fun b => dropc_spec b nm
  rcases ixL_cases (fun x => decide (bNm x = nm)) L with ⟨h, _⟩ | ⟨k, x, h, hx, _⟩
  · have hf : fnd L nm = -1 := h
    have hE : dropE L nm = 181 := by unfold dropE; rw [if_pos (by omega)]
    have hD : dropL L nm = L := by unfold dropL; rw [if_neg (by omega)]
    rw [hf] at hfind
    rw [hE, hD]
    refine Fn.of tblOK [] _ _ _ _ _ Try.func23 rfl rfl (by kernel_rfl) (by kernel_rfl) rfl (drawOK tblOK) rfl ?_
    refine ⟨rfl, ?_⟩
    refine ⟨_, _, _, _, hfind, ⟨rfl, rfl, trivial⟩, rfl, ?_⟩
    refine ⟨fun h => ?_, fun h => absurd h (by decide)⟩
    exact ⟨_, _, _, Le.ren 1002 1003 rfl, rfl, rfl, ⟨rfl, rfl, trivial⟩, rfl⟩
  · have hf : fnd L nm = k := h
    have hk : k < L.length := (List.getElem?_eq_some_iff.1 hx).1
    rw [hf] at hfind
    have hE : dropE L nm = if isPar L nm = true then 1 else 0 := by unfold dropE; rw [if_neg (by omega)]
    refine Fn.of tblOK [] _ _ _ _ _ Try.func23 rfl rfl (by kernel_rfl) (by kernel_rfl) rfl (drawOK tblOK) rfl ?_
    refine ⟨rfl, ?_⟩
    refine ⟨_, _, _, _, hfind, ⟨rfl, rfl, trivial⟩, rfl, ?_⟩
    refine ⟨fun h => absurd (of_decide_eq_true h) (by omega), fun h => ?_⟩
    refine ⟨_, _, _, _, Fn.ren [(1001, 3)] hcon, ⟨rfl, rfl, trivial⟩, rfl, ?_⟩
    refine ⟨fun h2 => ?_, fun h2 => ?_⟩
    · have hp : isPar L nm = true := h2
      rw [hp, if_pos rfl] at hE
      have hD : dropL L nm = L := by unfold dropL; rw [if_neg (by omega)]
      rw [hE, hD]
      exact ⟨_, _, _, Le.ren 1002 1003 rfl, rfl, rfl, ⟨rfl, rfl, trivial⟩, rfl⟩
    · have hp : isPar L nm = false := h2
      rw [hp, if_neg (by simp)] at hE
      have hD : dropL L nm = L.eraseIdx k := by unfold dropL; rw [if_pos hE, hf]; rfl
      rw [hE, hD]
      refine ⟨_, _, _, _, Fn.ren [(1001, 1002), (1002, 2001)] (cloneB_fn L (by omega) (by omega)), ⟨rfl, trivial⟩, rfl, ?_⟩
      refine ⟨by omega, ?_⟩
      refine ⟨_, _, _, _, Fn.ren [(1001, 2001), (1002, 2002)] (deleteB_fn L k hk), ⟨rfl, trivial⟩, rfl, ?_⟩
      exact ⟨_, _, _, Le.ren 2002 1003 rfl, rfl, rfl, ⟨rfl, rfl, trivial⟩, rfl⟩

/-! ### the law ListNames -/
def nmOp (L : List Bup) (o : LOp) : List Bup := if decide (dKind o = 1) = true then dropL (addOp L o) (oName o) else addOp L o
structure InvN (L : List Bup) : Prop where
  len : L.length ≤ 64
  nd : (L.map bNm).Nodup
theorem fnd_neg {L : List Bup} {nm : List UInt8} (h : fnd L nm < 0) : nm ∉ L.map bNm := fun hm => by
  obtain ⟨b, hb, rfl⟩ := List.mem_map.1 hm
  have := fnd_mem hb
  omega
theorem InvN.op {L : List Bup} (h : InvN L) (o : LOp) : InvN (nmOp L o) := by
  have h1 : InvN (addOp L o) := by
    unfold addOp
    split
    · unfold addL
      split
      · rename_i hE
        obtain ⟨_, e2, e3, _⟩ := addE_zero hE
        refine ⟨by simp; omega, ?_⟩
        rw [List.map_append, List.nodup_append]
        refine ⟨h.nd, by simp, fun a ha b hb => ?_⟩
        simp only [List.map_cons, List.map_nil, List.mem_singleton] at hb
        subst hb
        exact fun e => fnd_neg e2 (e ▸ ha)
      · exact h
    · exact h
  unfold nmOp
  split
  · unfold dropL
    split
    · exact ⟨Nat.le_trans (List.length_eraseIdx_le _ _) h1.len, List.Sublist.nodup ((List.eraseIdx_sublist _ _).map bNm) h1.nd⟩
    · exact h1
  · exact h1
theorem foldl_nmOp_inv : ∀ (m : List LOp) (L : List Bup), InvN L → InvN (m.foldl nmOp L)
  | [], L, h => h
  | o :: m, L, h => foldl_nmOp_inv m _ (h.op o)
@[reducible] def naK (l : List LOp) (k : Nat) : KL := [(3, vP 1001), (22, vL uLO l), (23, vI (l.length : Nat)), (24, vI (k : Nat))]
@[reducible] def naK2 (l : List LOp) (ns : List (List UInt8)) (k i : Nat) : KL := [(3, vP 1001), (6, vL .str ns), (22, vL uLO l), (23, vI (l.length : Nat)), (24, vI (k : Nat)), (46, vI (ns.length : Nat)), (47, vI (i : Nat))]
@[reducible] def naK3 (l : List LOp) (ns : List (List UInt8)) (k i j : Nat) : KL := [(3, vP 1001), (6, vL .str ns), (7, vI (i : Nat)), (22, vL uLO l), (23, vI (l.length : Nat)), (24, vI (k : Nat)), (46, vI (ns.length : Nat)), (47, vI (i : Nat)), (50, vI (i : Nat)), (51, vI (j : Nat))]
set_option maxHeartbeats 4000000 in
theorem lnames_spec (l : List LOp) (hl : l.length ≤ 1000000) (hc : costs l ≤ 1000000000) (hks : ∀ o, o ∈ l → (fKs (oF o)).length ≤ 1000000) : Fn Try.prog 6 [vL uLO l] [] [] (vB true) [] := by
  refine Fn.of tblOK [11] _ _ _ _ _ Try.func6 rfl rfl (by kernel_rfl) (by kernel_rfl) rfl (drawOK tblOK) rfl ?_
  refine ⟨_, _, _, _, new_spec, trivial, rfl, ?_⟩
  refine ⟨_, _, _, _, few_spec l hl hc hks, trivial, rfl, ?_⟩
  refine ⟨fun h => ?_, fun h1 => ?_⟩
  · refine ⟨_, _, _, _, alive_spec, trivial, rfl, ?_⟩
    exact ⟨_, _, _, Le.refl _ _, rfl, rfl, trivial, rfl⟩
  have hf1 : fewL l = true := by simpa using h1
  have hc1 : costs l ≤ 4000 := by
    unfold fewL at hf1
    simp only [Bool.and_eq_true, decide_eq_true_eq] at hf1
    exact hf1.2
  show TrQ _ _ _ _ _ _ _
  refine TrQ.loop tblOK (drawOK tblOK) [11] (by kernel_rfl) (X := Nat) (naK l) (fun k => lstR 1002 ((l.take k).foldl nmOp [])) (fun k => k ≤ l.length) (fun k => l.length - k) 0 (Nat.zero_le _) ?_ ?_
  · exact Le.sub ⟨rfl, rfl, rfl, rfl, trivial⟩ ⟨rfl, rfl, trivial⟩
  intro k hk
  refine ⟨fun h => ?_, fun h => ?_⟩
  · have hk1 : k < l.length := by simpa using h
    obtain ⟨s1, s2, s3⟩ := cost_small (List.getElem_mem hk1) hc1
    have hI := foldl_nmOp_inv (l.take k) [] ⟨by simp, by simp⟩
    have hs := foldl_step nmOp [] hk1
    generalize List.foldl nmOp [] (l.take k) = L at *
    refine ⟨by omega, l[k], lget_at rfl hk1, rfl, ?_⟩
    have hI2 := hI.op l[k]
    generalize l[k] = o at *
    have hlen := hI.len
    refine ⟨fun h => ?a, fun h => ?d⟩
    case' a =>
      refine ⟨_, _, _, _, own_spec (bO o) (by omega) (fun p hp => by have := s3 p hp; omega), trivial, rfl, ?_⟩
      refine ⟨_, _, _, _, add_spec L (ownOf (bO o)) (by omega) (Nat.le_trans s1 (by decide)) (by
        show ((rPc (bO o)).map pieOf).length ≤ 1000000
        rw [List.length_map]; omega) (fun p hp => by
        obtain ⟨q, hq, rfl⟩ := List.mem_map.1 hp
        exact Nat.le_trans (s3 q hq) (by decide)), ⟨rfl, rfl, trivial⟩, rfl, ?_⟩
      refine ⟨fun h5 => absurd h (by
        have h5 : decide (dKind o = 1) = true := h5
        simp at h5
        simp [h5]), fun h5 => ?_⟩
      have hop : nmOp L o = addL L (ownOf (bO o)) := by
        have h5 : decide (dKind o = 1) = false := h5
        unfold nmOp addOp
        rw [if_neg (by rw [h5]; simp), if_pos h]
      rw [hop] at hI2 hs
      generalize addL L (ownOf (bO o)) = L' at *
      show TrQ _ _ _ _ _ _ _
      refine TrQ.go tblOK (drawOK tblOK) [] (by kernel_rfl) (Le.trans (Le.sub (K' := naK l k) (B' := lstR 1003 L') ⟨rfl, rfl, rfl, rfl, trivial⟩ ⟨rfl, rfl, trivial⟩) (Le.ren 1003 1002 rfl)) ?_
      clear h h5 hop
    case' d =>
      have hadd : addOp L o = L := by unfold addOp; rw [if_neg (by rw [show decide (dKind o = 0) = false from h]; simp)]
      refine ⟨fun h5 => ?b, fun h5 => ?c⟩
    case' b =>
      refine ⟨_, _, _, _, drop_spec L (oName o) (by omega), ⟨rfl, rfl, trivial⟩, rfl, ?_⟩
      have hop : nmOp L o = dropL L (oName o) := by
        unfold nmOp
        rw [if_pos h5, hadd]
      rw [hop] at hI2 hs
      generalize dropL L (oName o) = L' at *
      show TrQ _ _ _ _ _ _ _
      refine TrQ.go tblOK (drawOK tblOK) [] (by kernel_rfl) (Le.trans (Le.sub (K' := naK l k) (B' := lstR 1003 L') ⟨rfl, rfl, rfl, rfl, trivial⟩ ⟨rfl, rfl, trivial⟩) (Le.ren 1003 1002 rfl)) ?_
      clear h h5 hop hadd
    case' c =>
      have hop : nmOp L o = L := by
        unfold nmOp
        rw [if_neg (by rw [show decide (dKind o = 1) = false from h5]; simp), hadd]
      rw [hop] at hI2 hs
      generalize L = L' at *
      show TrQ _ _ _ _ _ _ _
      refine TrQ.go tblOK (drawOK tblOK) [] (by kernel_rfl) (Le.sub (K' := naK l k) (B' := lstR 1002 L') ⟨rfl, rfl, rfl, rfl, trivial⟩ ⟨rfl, rfl, trivial⟩) ?_
      clear h h5 hop hadd
    all_goals
      have hlen := hI2.len
      have hnd := hI2.nd
      have hN : ∀ ns : List (List UInt8), ns = L'.map bNm → Fn Try.prog 26 [vP 1001] (lstB L') [] (vL .str ns) (lstB L') := fun ns h => by
        rw [h]; exact names_spec L' (by omega)
      have hN := hN (L'.map bNm) rfl
      have hnl : (L'.map bNm).length = L'.length := List.length_map _
      have hlast : lastN L' = (L'.map bNm).getLast?.getD [] := by
        unfold lastN
        rw [List.getLast?_map]
        cases L'.getLast? <;> rfl
      generalize L'.map bNm = ns at *
      have hLa := last_spec L' (by omega)
      refine ⟨_, _, _, _, hN, ⟨rfl, rfl, trivial⟩, rfl, ?_⟩
      show TrQ _ _ _ _ _ _ _
      refine TrQ.loop tblOK (drawOK tblOK) [] (by kernel_rfl) (X := Nat) (naK2 l ns k) (fun _ => lstR 1002 L') (fun i => i ≤ ns.length) (fun i => ns.length - i) 0 (Nat.zero_le _) ?_ ?_
      · exact Le.sub ⟨rfl, rfl, rfl, rfl, rfl, rfl, rfl, trivial⟩ ⟨rfl, rfl, trivial⟩
      intro i hi
      refine ⟨fun h => ?_, fun h => ?_⟩
      · have hi1 : i < ns.length := by simpa using h
        show TrQ _ _ _ _ _ _ _
        refine TrQ.loop tblOK (drawOK tblOK) [] (by kernel_rfl) (X := Nat) (naK3 l ns k i) (fun _ => lstR 1002 L') (fun j => j ≤ i) (fun j => i - j) 0 (Nat.zero_le _) ?_ ?_
        · exact Le.sub ⟨rfl, rfl, rfl, rfl, rfl, rfl, rfl, rfl, rfl, rfl, trivial⟩ ⟨rfl, rfl, trivial⟩
        intro j hj
        refine ⟨fun h => ?_, fun h => ?_⟩
        · have hj1 : j < i := by simpa using h
          have hj2 : j < ns.length := by omega
          refine ⟨by omega, ns[i], lget_at rfl hi1, ?_⟩
          refine ⟨by omega, ns[j], lget_at rfl hj2, ?_⟩
          refine ⟨rfl, fun h => ?_, fun h => ?_⟩
          · exact absurd (of_decide_eq_true h) (fun e => by have := (List.getElem_inj hnd).1 e; omega)
          refine ⟨by omega, j + 1, hj1, by omega, ?_⟩
          exact Le.sub ⟨rfl, rfl, rfl, rfl, rfl, rfl, rfl, rfl, rfl, rfl, trivial⟩ ⟨rfl, rfl, trivial⟩
        refine ⟨by omega, i + 1, hi1, by omega, ?_⟩
        exact Le.sub ⟨rfl, rfl, rfl, rfl, rfl, rfl, rfl, trivial⟩ ⟨rfl, rfl, trivial⟩
      refine ⟨fun h => ?_, fun h => ?_⟩
      · have h0 : (ns.length : Int) = 0 := of_decide_eq_true h
        have h0 : ns.length = 0 := by omega
        have hl0 : lastN L' = [] := by rw [hlast, List.eq_nil_of_length_eq_zero h0]; rfl
        rw [hl0] at hLa
        refine ⟨_, _, _, _, hLa, ⟨rfl, rfl, trivial⟩, rfl, ?_⟩
        refine ⟨fun h => absurd h (by decide), fun h => ?_⟩
        refine ⟨fun h => absurd (show (0 : Int) < (ns.length : Int) from of_decide_eq_true h) (by omega), fun h => ?_⟩
        refine ⟨rfl, ?_⟩
        refine ⟨by omega, k + 1, hk1, by omega, ?_⟩
        rw [hs]
        exact Le.sub ⟨rfl, rfl, rfl, rfl, trivial⟩ ⟨rfl, rfl, trivial⟩
      · have h0 : ¬ (ns.length : Int) = 0 := of_decide_eq_false h
        have h0 : 0 < ns.length := by omega
        have hg : lget ns (ns.length - 1) = some (lastN L') := by
          rw [hlast, List.getLast?_eq_getElem?]
          unfold lget
          rw [List.getElem?_eq_getElem (by omega)]
          rfl
        generalize lastN L' = la at *
        refine ⟨fun h => ?_, fun h => absurd (show ¬ (0 : Int) < (ns.length : Int) from of_decide_eq_false h) (by omega)⟩
        refine ⟨_, _, _, _, hLa, ⟨rfl, rfl, trivial⟩, rfl, ?_⟩
        have b1 : -9223372036854775808 ≤ (ns.length : Int) - 1 ∧ (ns.length : Int) - 1 ≤ 9223372036854775807 := by omega
        have b2 : 0 ≤ (ns.length : Int) - 1 := by omega
        refine ⟨b1, b2, la, ?_, ?_⟩
        · show lget ns ((ns.length : Int) - 1).toNat = some la
          rw [show ((ns.length : Int) - 1).toNat = ns.length - 1 by omega]
          exact hg
        refine ⟨rfl, ?_⟩
        refine ⟨fun h => absurd h (by simp), fun h => ?_⟩
        refine ⟨by omega, k + 1, hk1, by omega, ?_⟩
        rw [hs]
        exact Le.sub ⟨rfl, rfl, rfl, rfl, trivial⟩ ⟨rfl, rfl, trivial⟩
  refine ⟨_, _, _, _, alive_spec, trivial, rfl, ?_⟩
  exact ⟨_, _, _, Le.refl _ _, rfl, rfl, trivial, rfl⟩
end Go.Proofs.Ythghcdddambaeaa
