/-
  ListCrashes: behind a crash the list that was committed is loaded.
-/
import Derived.Test.YthghcdddambaeaaOt
import Derived.Test.YthghcdddambaeaaLA
import Derived.Test.YthghcdddambaeaaRd
set_option linter.unusedVariables false
set_option linter.unusedSimpArgs false
set_option maxRecDepth 10000
namespace Go.Proofs.Ythghcdddambaeaa
open Go.RowKit Go.Proofs
def keepN (l : List Kp) : Nat := (l.map fun k => (kL k).length).sum
theorem keepN_step {l : List Kp} {k : Nat} (h : k < l.length) : keepN (l.take (k + 1)) = keepN (l.take k) + (kL l[k]).length := sum_step (fun k : Kp => (kL k).length) h
theorem keepN_le (l : List Kp) (k : Nat) : keepN (l.take k) ≤ keepN l := sum_le (fun k : Kp => (kL k).length) l k
/-- The call that has keeps alone. -/
@[reducible] def lopC (l : List Kp) : LOp := ((0 : Int), (0 : Int), (([] : List UInt8), ([] : List UInt8), (0 : Int), (0 : Int), ([] : List RPie)), ([] : List UInt8), ((0 : Int), (0 : Int), ([] : List UInt8), ([] : List UInt8), l, (0 : Int), (0 : Int), (0 : Int), ([] : List UInt8), ([] : List Int)))
theorem costs_one (l : List Kp) : costs [lopC l] = costK l := by
  have e : cost1 (lopC l) = 0 := rfl
  have e2 : costP (rPc (bO (lopC l))) = 0 := rfl
  unfold costs cost
  rw [List.map_cons, List.map_nil, List.sum_cons, List.sum_nil, e, e2]
  show 0 + 0 + costK l + 0 = _
  omega
@[reducible] def c0K (a b : List LOp) (l : List Kp) (k : Nat) : KL := [(0, vL uLO a), (1, vL uLO b), (2, vL uK l), (27, vL uK l), (28, vI (l.length : Nat)), (29, vI (k : Nat)), (7, vI (keepN (l.take k) : Nat))]
@[reducible] def c2K (a b : List LOp) (l : List Kp) (N : Int) (k : Nat) : KL := [(1, vL uLO b), (2, vL uK l), (7, vI N), (10, vP 1001), (12, vP 3001), (13, vP 4001), (78, vL uLO a), (79, vI (a.length : Nat)), (80, vI (k : Nat))]
@[reducible] def c4K (b : List LOp) (l : List Kp) (N : Int) (k : Nat) : KL := [(2, vL uK l), (7, vI N), (10, vP 1001), (12, vP 3001), (13, vP 4001), (98, vL uLO b), (99, vI (b.length : Nat)), (100, vI (k : Nat))]
theorem adb_fold (m : List LOp) {L : List Bup} (h : Adb L) : Adb (m.foldl addOp L) := by
  induction m generalizing L with
  | nil => exact h
  | cons o m ih =>
    refine ih ?_
    unfold addOp
    split
    · exact h.add _
    · exact h
theorem adb_all (m : List LOp) : Adb (addAll m) := adb_fold m Adb.nil
@[reducible] def crE2 (b1 b2 : Nat) : FMap := [mkA lNm (some b1), mkA nNm (some b2)]
@[reducible] def c6K (l : List Kp) (M i : Nat) : KL := [(2, vL uK l), (10, vP 1001), (12, vP 3001), (13, vP 4001), (20, vP 2001), (144, vI (M : Nat)), (145, vI (i : Nat))]
@[reducible] def c6B (b1 b2 : Nat) (L : SPool) (Q1 Q2 : List Bup) (stps : List SvS) : BL := flS 1001 1002 1003 4000 (crE2 b1 b2) L ++ lstP 3001 3002 Q1 ++ lstP 4001 4002 Q2 ++ [(2001, .obj (svO b2 stps 0))]
theorem pool2_ok {b1 b2 : Nat} (h : b2 ≠ b1) {m1 m2 : StM} (h1 : StOK m1) (h2 : StOK m2) {W : Nat} (w1 : m1.loose.length ≤ W) (w2 : m2.loose.length ≤ W) : PoolOK (crE2 b1 b2) [(b2, m2), (b1, m1)] W := by
  refine ⟨fun p hp => ?_, ?_, ?_, fun p hp => ?_, fun p hp => ?_⟩
  · rcases List.mem_cons.1 hp with rfl | hp
    · exact ⟨b1, rfl, by simp⟩
    · rw [List.mem_singleton] at hp
      subst hp
      exact ⟨b2, rfl, by simp⟩
  · show [some b1, some b2].Nodup
    simp
    exact fun e => h e.symm
  · show [b2, b1].Nodup
    simp
    exact h
  · rcases List.mem_cons.1 hp with rfl | hp
    · exact h2
    · rw [List.mem_singleton] at hp
      subst hp
      exact h1
  · rcases List.mem_cons.1 hp with rfl | hp
    · exact w2
    · rw [List.mem_singleton] at hp
      subst hp
      exact w1
theorem pool3_ok {b3 : Nat} {m3 : StM} {L : SPool} (hb : b3 ∉ L.map (·.1)) (h3 : StOK m3) {W : Nat} (w3 : m3.loose.length ≤ W) {es : FMap} (h : PoolOK es L W) : PoolOK [mkA lNm (some b3)] ((b3, m3) :: L) W := by
  refine ⟨fun p hp => ?_, ?_, ?_, fun p hp => ?_, fun p hp => ?_⟩
  · rw [List.mem_singleton] at hp
    subst hp
    exact ⟨b3, rfl, by simp⟩
  · show [some b3].Nodup
    simp
  · rw [List.map_cons]
    exact List.nodup_cons.2 ⟨hb, h.nl⟩
  · rcases List.mem_cons.1 hp with rfl | hp
    · exact h3
    · exact h.ok p hp
  · rcases List.mem_cons.1 hp with rfl | hp
    · exact w3
    · exact h.few p hp
theorem crE_saved3 {b3 : Nat} {m1 : StM} {n room : Int} {b : List UInt8} (h : SavK m1 n room b) (ks : List Kp) : crE ks [mkA lNm (some b3)] b3 m1 = m1 := by
  have e : [mkA lNm (some b3)].find? (fun p => decide (pA p = some b3)) = some (mkA lNm (some b3)) := by
    rw [List.find?_cons_of_pos]
    exact decide_eq_true rfl
  unfold crE
  rw [e]
  exact h.crash _
theorem crE_saved {b1 b2 : Nat} {m1 : StM} {n room : Int} {b : List UInt8} (h : SavK m1 n room b) (ks : List Kp) : crE ks (crE2 b1 b2) b1 m1 = m1 := by
  have e : (crE2 b1 b2).find? (fun p => decide (pA p = some b1)) = some (mkA lNm (some b1)) := by
    rw [List.find?_cons_of_pos]
    exact decide_eq_true rfl
  unfold crE
  rw [e]
  exact h.crash _
@[reducible] def crsB (r1 r2 : Nat) (L1 L2 : List Bup) : BL := flB 1001 1002 4000 [] ++ lstP 3001 r1 L1 ++ lstP 4001 r2 L2
set_option maxHeartbeats 8000000 in
theorem lcrashes_spec (a b : List LOp) (l : List Kp) (ha : a.length ≤ 1000000) (hca : costs a ≤ 1000000000) (hka : ∀ o, o ∈ a → (fKs (oF o)).length ≤ 1000000) (hb : b.length ≤ 1000000) (hcb : costs b ≤ 1000000000) (hkb : ∀ o, o ∈ b → (fKs (oF o)).length ≤ 1000000)
    (hl : l.length ≤ 1000000) (hkl : keepN l ≤ 1000000000) (hcl : costK l ≤ 1000000000) (hk1 : ∀ k ∈ l, (kL k).length ≤ 1048576) : Fn Try.prog 9 [vL uLO a, vL uLO b, vL uK l] [] [] (vB true) [] := by
  refine Fn.of tblOK [24,26,27,40,43] _ _ _ _ _ Try.func9 rfl rfl (by kernel_rfl) (by kernel_rfl) rfl (drawOK tblOK) rfl ?_
  show TrQ _ _ _ _ _ _ _
  refine TrQ.loop tblOK (drawOK tblOK) [] (by kernel_rfl) (X := Nat) (c0K a b l) (fun _ => []) (fun k => k ≤ l.length) (fun k => l.length - k) 0 (Nat.zero_le _) ?_ ?_
  · exact Le.sub ⟨rfl, rfl, rfl, rfl, rfl, rfl, rfl, trivial⟩ trivial
  intro k hk
  have hkn := keepN_le l k
  refine ⟨fun h => ?_, fun h => ?_⟩
  · have h : decide ((k : Int) < (l.length : Nat)) = true := h
    have hk2 : k < l.length := by simpa using h
    have hks := keepN_step hk2
    have hkn2 := keepN_le l (k + 1)
    refine ⟨by omega, l[k], lgAt (n := k) hk2, ?_⟩
    refine ⟨rfl, ?_⟩
    have q : -9223372036854775808 ≤ ((keepN (l.take k) : Nat) : Int) + ((kL l[k]).length : Nat) ∧ ((keepN (l.take k) : Nat) : Int) + ((kL l[k]).length : Nat) ≤ 9223372036854775807 := by omega
    refine ⟨q, ?_⟩
    refine ⟨by omega, k + 1, by omega, by omega, Le.sub ⟨rfl, rfl, rfl, rfl, rfl, rfl, ?_, trivial⟩ trivial⟩
    show ((keepN (l.take k) : Nat) : Int) + ((kL l[k]).length : Nat) = _
    rw [hks]
    omega
  have h : decide ((k : Int) < (l.length : Nat)) = false := h
  have hk2 : k = l.length := by simp at h; omega
  subst hk2
  refine ⟨_, _, _, _, fnew_ok 4000 (by decide), trivial, rfl, ?_⟩
  refine ⟨_, _, _, _, Fn.ren [(1001, 3001), (1002, 3002)] new_spec, trivial, rfl, ?_⟩
  refine ⟨_, _, _, _, Fn.ren [(1001, 4001), (1002, 4002)] new_spec, trivial, rfl, ?_⟩
  refine ⟨fun h => absurd h (by decide), fun _ => ?_⟩
  refine ⟨_, _, _, _, few_spec a ha hca hka, trivial, rfl, ?_⟩
  refine ⟨fun _ => ?_, fun h1 => ?_⟩
  · refine ⟨_, _, _, _, alive_spec, trivial, rfl, ?_⟩
    exact ⟨_, _, _, Le.refl _ _, rfl, rfl, trivial, rfl⟩
  refine ⟨_, _, _, _, few_spec b hb hcb hkb, trivial, rfl, ?_⟩
  refine ⟨fun _ => ?_, fun h2 => ?_⟩
  · refine ⟨_, _, _, _, alive_spec, trivial, rfl, ?_⟩
    exact ⟨_, _, _, Le.refl _ _, rfl, rfl, trivial, rfl⟩
  refine ⟨_, _, _, _, few_spec [lopC l] (by simp) (by rw [costs_one]; exact hcl) (fun o ho => by rw [List.mem_singleton] at ho; rw [ho]; exact hl), trivial, rfl, ?_⟩
  refine ⟨fun _ => ?_, fun h3 => ?_⟩
  · refine ⟨_, _, _, _, alive_spec, trivial, rfl, ?_⟩
    exact ⟨_, _, _, Le.refl _ _, rfl, rfl, trivial, rfl⟩
  have hfa : fewL a = true := by simpa using h1
  have hfb : fewL b = true := by simpa using h2
  have hca4 : costs a ≤ 4000 ∧ a.length ≤ 30 := by
    unfold fewL at hfa
    simp only [Bool.and_eq_true, decide_eq_true_eq] at hfa
    exact ⟨hfa.2, hfa.1.2⟩
  have hcb4 : costs b ≤ 4000 ∧ b.length ≤ 30 := by
    unfold fewL at hfb
    simp only [Bool.and_eq_true, decide_eq_true_eq] at hfb
    exact ⟨hfb.2, hfb.1.2⟩
  obtain ⟨N, hN⟩ : ∃ N : Int, N = ((keepN (List.take l.length l) : Nat) : Int) := ⟨_, rfl⟩
  show TrQ _ _ _ _ _ _ _
  refine TrQ.loop tblOK (drawOK tblOK) [] (by kernel_rfl) (X := Nat) (c2K a b l N) (fun k => crsB 3002 4002 (addAll (a.take k)) (addAll (a.take k))) (fun k => k ≤ a.length) (fun k => a.length - k) 0 (Nat.zero_le _) ?_ ?_
  · exact Le.sub ⟨rfl, rfl, hN.symm, rfl, rfl, rfl, rfl, rfl, rfl, trivial⟩ ⟨rfl, rfl, rfl, rfl, rfl, rfl, trivial⟩
  intro k hk
  refine ⟨fun h => ?_, fun h => ?_⟩
  · have h : decide ((k : Int) < (a.length : Nat)) = true := h
    have hk2 : k < a.length := by simpa using h
    obtain ⟨s1, s2, s3⟩ := cost_small (List.getElem_mem hk2) hca4.1
    have hI := addAll_inv (a.take k)
    have hs := addAll_step hk2
    refine ⟨by omega, a[k], lgAt (n := k) hk2, rfl, ?_⟩
    generalize a[k] = o at *
    refine ⟨fun h => ?_, fun h => ?_⟩
    · have hadd := add_spec (addAll (a.take k)) (ownOf (bO o)) (by have := hI.len; omega) (Nat.le_trans s1 (by decide)) (by
        show ((rPc (bO o)).map pieOf).length ≤ 1000000
        rw [List.length_map]; omega) (fun p hp => by
        obtain ⟨q, hq, rfl⟩ := List.mem_map.1 hp
        exact Nat.le_trans (s3 q hq) (by decide))
      have hown := own_spec (bO o) (by omega) (fun p hp => by have := s3 p hp; omega)
      refine ⟨_, _, _, _, hown, trivial, rfl, ?_⟩
      refine ⟨_, _, _, _, Fn.ren [(1001, 3001), (1002, 3002), (1003, 3003)] hadd, ⟨rfl, rfl, trivial⟩, rfl, ?_⟩
      refine ⟨_, _, _, _, hown, trivial, rfl, ?_⟩
      refine ⟨_, _, _, _, Fn.ren [(1001, 4001), (1002, 4002), (1003, 4003)] hadd, ⟨rfl, rfl, trivial⟩, rfl, ?_⟩
      refine ⟨by omega, k + 1, hk2, by omega, ?_⟩
      rw [hs, show addOp (addAll (a.take k)) o = addL (addAll (a.take k)) (ownOf (bO o)) by unfold addOp; rw [if_pos h]]
      exact Le.trans (Le.sub (K' := c2K a b l N (k + 1)) (B' := crsB 3003 4003 (addL (addAll (a.take k)) (ownOf (bO o))) (addL (addAll (a.take k)) (ownOf (bO o)))) ⟨rfl, rfl, rfl, rfl, rfl, rfl, rfl, rfl, rfl, trivial⟩ ⟨rfl, rfl, rfl, rfl, rfl, rfl, trivial⟩) ((Le.ren 3003 3002 rfl).trans (Le.ren 4003 4002 rfl))
    · refine ⟨by omega, k + 1, hk2, by omega, ?_⟩
      rw [hs, show addOp (addAll (a.take k)) o = addAll (a.take k) by unfold addOp; rw [if_neg (by rw [h]; simp)]]
      exact Le.sub ⟨rfl, rfl, rfl, rfl, rfl, rfl, rfl, rfl, rfl, trivial⟩ ⟨rfl, rfl, rfl, rfl, rfl, rfl, trivial⟩
  have h : decide ((k : Int) < (a.length : Nat)) = false := h
  have hk2 : k = a.length := by simp at h; omega
  subst hk2
  have hD0 : addAll (a.take a.length) = addAll a := by rw [List.take_length]
  show TrQ _ _ _ _ _ _ _
  refine TrQ.loop tblOK (drawOK tblOK) [] (by kernel_rfl) (X := Nat) (c4K b l N) (fun k => crsB 3002 4002 (addAll a) ((b.take k).foldl addOp (addAll a))) (fun k => k ≤ b.length) (fun k => b.length - k) 0 (Nat.zero_le _) ?_ ?_
  · refine Le.sub ⟨rfl, rfl, rfl, rfl, rfl, rfl, rfl, rfl, trivial⟩ ⟨rfl, rfl, rfl, ?_, rfl, ?_, trivial⟩
    · rw [← hD0]; rfl
    · show _ = some (Ch.row _ uB (addAll a))
      rw [← hD0]
      rfl
  intro k hk
  have hfi : ∀ (m : List LOp) (L : List Bup), InvL L → InvL (m.foldl addOp L) := fun m => by
    induction m with
    | nil => exact fun L h => h
    | cons o m ih => exact fun L h => ih _ (addOp_inv h o)
  have hIa := addAll_inv a
  refine ⟨fun h => ?_, fun h => ?_⟩
  · have h : decide ((k : Int) < (b.length : Nat)) = true := h
    have hk2 : k < b.length := by simpa using h
    obtain ⟨s1, s2, s3⟩ := cost_small (List.getElem_mem hk2) hcb4.1
    have hI := hfi (b.take k) _ hIa
    have hs : (b.take (k + 1)).foldl addOp (addAll a) = addOp ((b.take k).foldl addOp (addAll a)) b[k] := foldl_step addOp (addAll a) hk2
    refine ⟨by omega, b[k], lgAt (n := k) hk2, rfl, ?_⟩
    generalize b[k] = o at *
    generalize (b.take k).foldl addOp (addAll a) = L2 at *
    refine ⟨fun h => ?_, fun h => ?_⟩
    · have hadd := add_spec L2 (ownOf (bO o)) (by have := hI.len; omega) (Nat.le_trans s1 (by decide)) (by
        show ((rPc (bO o)).map pieOf).length ≤ 1000000
        rw [List.length_map]; omega) (fun p hp => by
        obtain ⟨q, hq, rfl⟩ := List.mem_map.1 hp
        exact Nat.le_trans (s3 q hq) (by decide))
      have hown := own_spec (bO o) (by omega) (fun p hp => by have := s3 p hp; omega)
      refine ⟨_, _, _, _, hown, trivial, rfl, ?_⟩
      refine ⟨_, _, _, _, Fn.ren [(1001, 4001), (1002, 4002), (1003, 4003)] hadd, ⟨rfl, rfl, trivial⟩, rfl, ?_⟩
      refine ⟨by omega, k + 1, hk2, by omega, ?_⟩
      rw [hs, show addOp L2 o = addL L2 (ownOf (bO o)) by unfold addOp; rw [if_pos h]]
      exact Le.trans (Le.sub (K' := c4K b l N (k + 1)) (B' := crsB 3002 4003 (addAll a) (addL L2 (ownOf (bO o)))) ⟨rfl, rfl, rfl, rfl, rfl, rfl, rfl, rfl, trivial⟩ ⟨rfl, rfl, rfl, rfl, rfl, rfl, trivial⟩) (Le.ren 4003 4002 rfl)
    · refine ⟨by omega, k + 1, hk2, by omega, ?_⟩
      rw [hs, show addOp L2 o = L2 by unfold addOp; rw [if_neg (by rw [h]; simp)]]
      exact Le.sub ⟨rfl, rfl, rfl, rfl, rfl, rfl, rfl, rfl, trivial⟩ ⟨rfl, rfl, rfl, rfl, rfl, rfl, trivial⟩
  have h : decide ((k : Int) < (b.length : Nat)) = false := h
  have hk2 : k = b.length := by simp at h; omega
  subst hk2
  have hT0 : (b.take b.length).foldl addOp (addAll a) = b.foldl addOp (addAll a) := by rw [List.take_length]
  have hIb := hfi b _ hIa
  have hL1 : LenOK (addAll a) a.length (costs a) := by
    have := LenOK.fold a (L := []) (k := 0) (c := 0) ⟨Nat.le_refl _, Nat.le_refl _⟩
    rwa [Nat.zero_add, Nat.zero_add] at this
  have hL2 := LenOK.fold b hL1
  have he1 := hL1.enc (by omega) (by omega)
  have he2 := hL2.enc (by omega) (by omega)
  obtain ⟨Q1, hQ1⟩ : ∃ Q1, Q1 = addAll a := ⟨_, rfl⟩
  obtain ⟨Q2, hQ2⟩ : ∃ Q2, Q2 = b.foldl addOp (addAll a) := ⟨_, rfl⟩
  rw [← hQ1] at he1 hIa
  rw [← hQ2] at he2 hIb
  have hl1 := hIa.len
  have hl2 := hIb.len
  show TrQ _ _ _ _ _ _ _
  refine TrQ.le ((Le.emp 1003 rfl).trans (Le.sub (K' := c4K b l N b.length) (B' := flS 1001 1002 1003 4000 [] [] ++ lstP 3001 3002 Q1 ++ lstP 4001 4002 Q2) ⟨rfl, rfl, rfl, rfl, rfl, rfl, rfl, rfl, trivial⟩ ⟨rfl, rfl, rfl, rfl, by rw [hQ1]; rfl, rfl, by rw [hQ2, ← hT0]; rfl, trivial⟩)) ?_
  refine TrQ.regionX tblOK (by kernel_rfl) ?_
  refine ⟨_, _, _, fun g => _, fun g => _, commit_fn 4000 (by decide) [] (M := []) rfl (by decide) (fun _ => rfl) (Q := Q1) (by omega) (fun x hx => wr_of hIa hx) he1, ⟨rfl, rfl, rfl, rfl, rfl, trivial⟩, rfl, fun _ => rfl, fun g1 => ?_⟩
  obtain ⟨b1, hb1⟩ := g1
  refine ⟨fun h => absurd h (by decide), fun _ => ?_⟩
  show TrQ _ _ _ _ _ _ _
  have hS1 : SavK (savedM 2000 4000 (encL Q1)) 2000 4000 (encL Q1) := saved_ok rfl (by decide) (by decide) (by rw [show areaS 2000 = 999 by decide]; omega)
  generalize savedM 2000 4000 (encL Q1) = m1 at hS1 ⊢
  refine TrQ.regionX tblOK (by kernel_rfl) ?_
  refine ⟨Nat, _, _, fun b => _, fun b => _, fcreate_ok 4000 [mkA lNm (some b1)] (poolS [(b1, m1)]) nNm 2000 (by decide) rfl rfl rfl (show 1 < 16 by decide), ⟨rfl, rfl, rfl, trivial⟩, rfl, fun _ => rfl, fun b2 => ?_⟩
  show TrQ _ _ _ _ _ _ _
  refine TrQ.leX (LeX.poolNew 1003 (L := [(b1, m1)]) (b := b2) (m := freshM 2000 4000) rfl) fun hb2 => ?_
  refine TrQ.go tblOK (drawOK tblOK) [] (by kernel_rfl) (Le.refl _ _) ?_
  refine ⟨fun h => absurd h (by decide), fun _ => ?_⟩
  refine ⟨fun _ _ => ?_, fun h => by cases h⟩
  refine ⟨_, _, _, _, Fn.ren [(1001, 4001), (1002, 4002)] (encode_spec Q2 (by omega) (fun x hx => wr_of hIb hx)), ⟨rfl, rfl, trivial⟩, rfl, ?_⟩
  have hM2 : sget [(b2, freshM 2000 4000), (b1, m1)] b2 = some (freshM 2000 4000) := by rw [sget_cons, if_pos rfl]
  have hfo : StOK (freshM 2000 4000) := StOK.new (n := 2000) (room := 4000) rfl
  have hbl2 : ((encL Q2).length : Int) ≤ areaS (freshM 2000 4000).n * 16 := by
    show _ ≤ areaS 2000 * 16
    rw [show areaS 2000 = 999 by decide]; omega
  have hbg := begin_fn hfo (show (2 : Int) ≤ 2000 by decide) hM2 (encL Q2) hbl2 (by rw [newJ_fresh]; decide) (by rw [newJ_fresh]; decide) (by rw [newJ_fresh]; decide)
  have hok := stpsB_ok hfo (show (2 : Int) ≤ 2000 by decide) hbl2 (k := ((newJ (freshM 2000 4000) 2).1 + 1) % 2) (by rw [newJ_fresh]; exact .inl rfl) (newJ (freshM 2000 4000) 2).2.2
  have hsl := stpsB_len (encL Q2) (((newJ (freshM 2000 4000) 2).1 + 1) % 2) (areaS (freshM 2000 4000).n) (newJ (freshM 2000 4000) 2).2.2
  generalize stpsB (encL Q2) (((newJ (freshM 2000 4000) 2).1 + 1) % 2) (areaS (freshM 2000 4000).n) (newJ (freshM 2000 4000) 2).2.2 = stps at hbg hok hsl
  refine ⟨_, _, _, _, hbg, ⟨rfl, trivial⟩, rfl, ?_⟩
  refine ⟨fun h => absurd h (by decide), fun _ => ?_⟩
  refine ⟨_, _, _, _, Fn.ren [(1001, 2001)] (svLeft_fn b2 stps 0), ⟨rfl, trivial⟩, rfl, ?_⟩
  obtain ⟨Mn, hMn⟩ : ∃ Mn : Nat, min N (stps.length : Int) = (Mn : Nat) := ⟨(min N (stps.length : Int)).toNat, by omega⟩
  have hMl : Mn ≤ stps.length := by omega
  have hcn : stps.length ≤ 100000 := by rw [hsl]; unfold cntS; omega
  have hne : b2 ≠ b1 := by
    have := hb2.down
    simpa using this
  show TrQ _ _ _ _ _ _ _
  refine TrQ.loop tblOK (drawOK tblOK) [] (by kernel_rfl) (X := Nat) (fun i => c6K l Mn i) (fun i => c6B b1 b2 (sset [(b2, freshM 2000 4000), (b1, m1)] b2 (runL (freshM 2000 4000) (stps.take i))) Q1 Q2 (stps.drop i)) (fun i => i ≤ Mn) (fun i => Mn - i) 0 (Nat.zero_le _) ?_ ?_
  · refine Le.sub ⟨rfl, rfl, rfl, rfl, rfl, ?_, rfl, trivial⟩ ⟨rfl, rfl, ?_, rfl, rfl, rfl, rfl, rfl, trivial⟩
    · rw [← hMn]; rfl
    · show _ = some (Ch.obj (.pool (poolS _)))
      rw [List.take_zero, show runL (freshM 2000 4000) [] = freshM 2000 4000 from rfl, sset_same hM2]
      rfl
  intro i hi
  refine ⟨fun h => ?_, fun h => ?_⟩
  · have h : decide ((i : Int) < (Mn : Nat)) = true := h
    have hi1 : i < Mn := by simpa using h
    refine ⟨_, _, _, _, Fn.ren [(1001, 2001)] (svRun_fn hfo (show (2000 : Int) ≤ 4000 by decide) hM2 hok (by show 0 + _ ≤ _; omega) (show i < stps.length by omega)), ⟨rfl, rfl, trivial⟩, rfl, ?_⟩
    exact ⟨by omega, i + 1, by omega, by omega, Le.sub ⟨rfl, rfl, rfl, rfl, rfl, rfl, rfl, trivial⟩ ⟨rfl, rfl, rfl, rfl, rfl, rfl, rfl, rfl, trivial⟩⟩
  have h : decide ((i : Int) < (Mn : Nat)) = false := h
  have hi1 : i = Mn := by simp at h; omega
  subst hi1
  have hrl := runL_ok hfo (show (2000 : Int) ≤ 4000 by decide) i stps hok (by omega)
  have hss : sset [(b2, freshM 2000 4000), (b1, m1)] b2 (runL (freshM 2000 4000) (stps.take i)) = [(b2, runL (freshM 2000 4000) (stps.take i)), (b1, m1)] := if_pos rfl
  rw [hss]
  have hlo := hrl.lo
  have hkr := hrl.ok
  generalize runL (freshM 2000 4000) (stps.take i) = m2 at hlo hkr ⊢
  have hpo := pool2_ok hne hS1.ok hkr (W := 1000000) (by rw [hS1.lo]; exact Nat.zero_le _) (by have : (freshM 2000 4000).loose.length = 0 := rfl; omega)
  refine ⟨_, _, _, _, Fn.arg (other_fn 4000 (crE2 b1 b2) _ 1000000 l hpo (by decide) (by omega) (fun k hk => Nat.le_trans (hk1 k hk) (by decide))) ⟨rfl, ⟨rfl, rfl, rfl, rfl, rfl, rfl, rfl, rfl, rfl, rfl, trivial⟩, trivial⟩, ⟨rfl, rfl, rfl, trivial⟩, rfl, ?_⟩
  have hmp : sget (mapP (crE l (crE2 b1 b2)) [(b2, m2), (b1, m1)]) b1 = some m1 := by
    rw [sget_mapP, sget_cons, if_neg hne, sget_cons, if_pos rfl, Option.map_some, crE_saved hS1]
  have hj1 := newJ_saved hS1 (by rw [show areaS 2000 = 999 by decide]; omega) (by omega)
  have hA1 : Adb Q1 := hQ1 ▸ adb_all a
  refine ⟨_, _, _, _, Fn.ren [(2001, 5001), (2002, 5002)] (lload_fn 4000 (crE2 b1 b2) (L := mapP (crE l (crE2 b1 b2)) [(b2, m2), (b1, m1)]) rfl hmp hS1.ok (by rw [hS1.n]; decide) hj1 (by omega) hA1 (fun x hx => wr_of hIa hx) (by omega)), ⟨rfl, rfl, rfl, trivial⟩, rfl, ?_⟩
  rw [map_toR]
  refine ⟨fun h => absurd h Bool.false_ne_true, fun _ => ?_⟩
  refine ⟨_, _, _, _, Fn.ren [(1001, 5001), (1002, 5002)] (encode_spec Q1 (by omega) (fun x hx => wr_of hIa hx)), ⟨rfl, rfl, trivial⟩, rfl, ?_⟩
  refine ⟨_, _, _, _, Fn.ren [(1001, 3001), (1002, 3002)] (encode_spec Q1 (by omega) (fun x hx => wr_of hIa hx)), ⟨rfl, rfl, trivial⟩, rfl, ?_⟩
  refine ⟨rfl, ?_⟩
  refine ⟨fun h => absurd h (by simp), fun _ => ?_⟩
  show TrQ _ _ _ _ _ _ _
  generalize hL0 : mapP (crE l (crE2 b1 b2)) [(b2, m2), (b1, m1)] = L0 at *
  refine TrQ.le (Le.sub (K' := [(2, vL uK l), (10, vP 1001), (13, vP 4001)]) (B' := flS 1001 1002 1003 4000 (crE2 b1 b2) L0 ++ lstP 4001 4002 Q2) ⟨rfl, rfl, rfl, trivial⟩ ⟨rfl, rfl, rfl, rfl, rfl, trivial⟩) ?_
  refine TrQ.regionX tblOK (by kernel_rfl) ?_
  refine ⟨_, _, _, fun g => _, fun g => _, FnX.ren [(3001, 4001), (3002, 4002)] (commit_fn 4000 (by decide) (crE2 b1 b2) (M := L0) rfl (show 1 < 16 by decide) (fun _ => rfl) (Q := Q2) (by omega) (fun x hx => wr_of hIb hx) he2), ⟨rfl, rfl, rfl, rfl, rfl, trivial⟩, rfl, fun _ => rfl, fun g3 => ?_⟩
  obtain ⟨b3, hb3⟩ := g3
  have hS2 : SavK (savedM 2000 4000 (encL Q2)) 2000 4000 (encL Q2) := saved_ok rfl (by decide) (by decide) (by rw [show areaS 2000 = 999 by decide]; omega)
  generalize savedM 2000 4000 (encL Q2) = m3 at hS2 ⊢
  have hp2 := hpo.map (f := crE l (crE2 b1 b2)) (fun a m => crE_ok _ _ a m) (fun a m => crE_few _ _ _ a m)
  rw [hL0] at hp2
  have hp3 := pool3_ok hb3 hS2.ok (W := 1000000) (by rw [hS2.lo]; exact Nat.zero_le _) hp2
  refine ⟨_, _, _, _, Fn.arg (other_fn 4000 [mkA lNm (some b3)] _ 1000000 l hp3 (by decide) (by omega) (fun k hk => Nat.le_trans (hk1 k hk) (by decide))) ⟨rfl, ⟨rfl, rfl, rfl, rfl, rfl, rfl, rfl, rfl, rfl, rfl, trivial⟩, trivial⟩, ⟨rfl, rfl, rfl, trivial⟩, rfl, ?_⟩
  have hmp3 : sget (mapP (crE l [mkA lNm (some b3)]) ((b3, m3) :: L0)) b3 = some m3 := by
    rw [sget_mapP, sget_cons, if_pos rfl, Option.map_some, crE_saved3 hS2]
  have hj3 := newJ_saved hS2 (by rw [show areaS 2000 = 999 by decide]; omega) (by omega)
  have hA2 : Adb Q2 := hQ2 ▸ adb_fold b (adb_all a)
  refine ⟨_, _, _, _, Fn.ren [(2001, 6001), (2002, 6002)] (lload_fn 4000 [mkA lNm (some b3)] (L := mapP (crE l [mkA lNm (some b3)]) ((b3, m3) :: L0)) rfl hmp3 hS2.ok (by rw [hS2.n]; decide) hj3 (by omega) hA2 (fun x hx => wr_of hIb hx) (by omega)), ⟨rfl, rfl, rfl, trivial⟩, rfl, ?_⟩
  rw [map_toR]
  show TrQ _ _ _ _ _ _ _
  refine TrQ.go tblOK (drawOK tblOK) [] (by kernel_rfl) (Le.sub (K' := [(13, vP 4001), (24, vI 0), (25, vP 6001), (26, vI 0)]) (B' := lstP 6001 6002 Q2 ++ lstP 4001 4002 Q2) ⟨rfl, rfl, rfl, rfl, trivial⟩ ⟨rfl, rfl, rfl, rfl, trivial⟩) ?_
  refine ⟨_, _, _, _, alive_spec, trivial, rfl, ?_⟩
  refine ⟨fun _ => ?_, fun h => absurd h (by decide)⟩
  refine ⟨fun _ => ?_, fun h => absurd h (by decide)⟩
  refine ⟨fun _ => ?_, fun h => absurd h (by decide)⟩
  refine ⟨_, _, _, _, Fn.ren [(1001, 6001), (1002, 6002)] (encode_spec Q2 (by omega) (fun x hx => wr_of hIb hx)), ⟨rfl, rfl, trivial⟩, rfl, ?_⟩
  refine ⟨_, _, _, _, Fn.ren [(1001, 4001), (1002, 4002)] (encode_spec Q2 (by omega) (fun x hx => wr_of hIb hx)), ⟨rfl, rfl, trivial⟩, rfl, ?_⟩
  refine ⟨rfl, ?_⟩
  exact ⟨_, _, _, Le.refl _ _, rfl, (show decide (encL Q2 = encL Q2) = true from decide_eq_true rfl), trivial, rfl⟩
theorem crInts : ∀ b : List Int, bulkU (.sl uI) b = 1 + b.length
  | [] => rfl
  | x :: b => by
    have h := crInts b
    show 1 + (1 + (List.map (bulkU uI) b).sum) = _
    have h : 1 + (List.map (bulkU uI) b).sum = 1 + b.length := h
    rw [h, List.length_cons]
    omega
theorem crKp (k : Kp) : bulkU uK k = 2 + ((kL k).length + (kNm k).length) := by
  have h := crInts (kL k)
  show (1 + (kNm k).length) + bulkU (.sl uI) (kL k) = _
  rw [h]
  omega
theorem costK_cons (k : Kp) (l : List Kp) : costK (k :: l) = ((kL k).length + (kNm k).length) + costK l := rfl
theorem keepN_cons (k : Kp) (l : List Kp) : keepN (k :: l) = (kL k).length + keepN l := rfl
theorem crKps : ∀ l : List Kp, bulkU (.sl uK) l = 1 + 2 * l.length + costK l ∧ keepN l ≤ costK l ∧ ∀ k ∈ l, (kL k).length ≤ costK l
  | [] => ⟨rfl, Nat.le_refl _, fun k h => by cases h⟩
  | k :: l => by
    obtain ⟨h, h2, h3⟩ := crKps l
    have h : 1 + (List.map (bulkU uK) l).sum = 1 + 2 * l.length + costK l := h
    have e : bulkU (.sl uK) (k :: l) = 1 + (bulkU uK k + (List.map (bulkU uK) l).sum) := rfl
    rw [e, crKp, costK_cons, keepN_cons, List.length_cons]
    refine ⟨by omega, by omega, fun j hj => ?_⟩
    rcases List.mem_cons.1 hj with rfl | hj
    · omega
    · have := h3 j hj; omega
end Go.Proofs.Ythghcdddambaeaa
