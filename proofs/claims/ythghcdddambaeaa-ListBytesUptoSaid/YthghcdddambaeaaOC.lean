/-
  The law ListBytes: the walk.
-/
import Derived.Test.YthghcdddambaeaaOA
set_option linter.unusedVariables false
set_option linter.unusedSimpArgs false
set_option maxRecDepth 10000
namespace Go.Proofs.Ythghcdddambaeaa
open Go.RowKit Go.Proofs

structure InvA (L : List Bup) : Prop extends InvL L where
  adb : Adb L
theorem InvA.op {L : List Bup} (h : InvA L) (o : LOp) : InvA (nmOp L o) := by
  have h1 : InvA (addOp L o) := by
    unfold addOp
    split
    · exact ⟨h.toInvL.add _, h.adb.add _⟩
    · exact h
  unfold nmOp
  split
  · exact ⟨dropL_inv h1.toInvL _, h1.adb.drop _⟩
  · exact h1
theorem foldl_inva : ∀ (m : List LOp) (L : List Bup), InvA L → InvA (m.foldl nmOp L)
  | [], L, h => h
  | o :: m, L, h => foldl_inva m _ (h.op o)
@[reducible] def byK (l : List LOp) (k : Nat) : KL := [(5, vP 1001), (68, vL uLO l), (69, vI (l.length : Nat)), (70, vI (k : Nat))]
set_option maxRecDepth 100000 in
set_option maxHeartbeats 4000000 in
theorem lbytes_spec (l : List LOp) (b : List UInt8) (hl : l.length ≤ 1000000) (hc : costs l ≤ 1000000000) (hks : ∀ o, o ∈ l → (fKs (oF o)).length ≤ 1000000) : Fn Try.prog 7 [vL uLO l, vL .u8 b] [] [] (vB true) [] := by
  refine Fn.of tblOK [8] _ _ _ _ _ Try.func7 rfl rfl (by kernel_rfl) (by kernel_rfl) rfl (drawOK tblOK) rfl ?_
  refine ⟨_, _, _, _, new_spec, trivial, rfl, ?_⟩
  refine ⟨_, _, _, _, few_spec l hl hc hks, trivial, rfl, ?_⟩
  refine ⟨fun h => ?_, fun h1 => ?_⟩
  · refine ⟨_, _, _, _, alive_spec, trivial, rfl, ?_⟩
    exact ⟨_, _, _, Le.refl _ _, rfl, rfl, trivial, rfl⟩
  refine ⟨fun h => ?_, fun h2 => ?_⟩
  · refine ⟨_, _, _, _, alive_spec, trivial, rfl, ?_⟩
    exact ⟨_, _, _, Le.refl _ _, rfl, rfl, trivial, rfl⟩
  have hf1 : fewB l = true := by simpa using h1
  have hc1 : costs l ≤ 4000 := by
    unfold fewB at hf1
    simp only [Bool.and_eq_true, decide_eq_true_eq] at hf1
    exact hf1.2
  have h2 : ¬ (4000 : Int) < (b.length : Int) := of_decide_eq_false h2
  have hIP : ∀ r, dec b = some r → InvP (r.map ownOf) := fun r h => by
    unfold dec at h
    split at h
    · cases h
    · rename_i l' st' hk
      split at h
      · injection h with h; subst h; exact decK_inv hk
      · cases h
  rcases hd : dec b with _ | r
  focus
    have hD := decode_both b (by omega) none hd
    have hR := decodeR_both b (by omega) none hd
    simp only at hD hR
    refine ⟨_, _, _, _, hD, trivial, rfl, ?_⟩
    refine ⟨_, _, _, _, hR, trivial, rfl, ?_⟩
    refine ⟨fun h => absurd h (by decide), fun _ => ?_⟩
    refine ⟨fun h => absurd h (by decide), fun _ => ?_⟩
    refine ⟨fun _ => ?_, fun h => absurd h (by decide)⟩
    refine ⟨fun h => absurd h (by decide), fun _ => ?_⟩
    show TrQ _ _ _ _ _ _ _
    refine TrQ.go tblOK (drawOK tblOK) [] (by kernel_rfl) (Le.sub (K' := [(0, vL uLO l), (5, vP 1001)]) (B' := lstR 1002 []) ⟨rfl, rfl, trivial⟩ ⟨rfl, rfl, trivial⟩) ?_
  rotate_left
  focus
    have hD := decode_both b (by omega) (some r) hd
    have hR := decodeR_both b (by omega) (some r) hd
    simp only at hD hR
    have hS := same_spec r (hIP r hd)
    refine ⟨_, _, _, _, Fn.ren [(1001, 3001), (1002, 3002)] hD, trivial, rfl, ?_⟩
    refine ⟨_, _, _, _, hR, trivial, rfl, ?_⟩
    refine ⟨fun h => absurd h (by decide), fun _ => ?_⟩
    refine ⟨fun _ => ?_, fun h => absurd h (by decide)⟩
    refine ⟨_, _, _, _, Fn.ren [(1001, 3001), (1002, 3002)] hS, ⟨rfl, rfl, trivial⟩, rfl, ?_⟩
    refine ⟨fun h => absurd h (by decide), fun _ => ?_⟩
    refine ⟨fun h => absurd h (by decide), fun _ => ?_⟩
    show TrQ _ _ _ _ _ _ _
    refine TrQ.go tblOK (drawOK tblOK) [] (by kernel_rfl) (Le.sub (K' := [(0, vL uLO l), (5, vP 1001)]) (B' := lstR 1002 []) ⟨rfl, rfl, trivial⟩ ⟨rfl, rfl, trivial⟩) ?_
  all_goals
    clear hd hIP
    show TrQ _ _ _ _ _ _ _
    refine TrQ.loop tblOK (drawOK tblOK) [] (by kernel_rfl) (X := Nat) (byK l) (fun k => lstR 1002 ((l.take k).foldl nmOp [])) (fun k => k ≤ l.length) (fun k => l.length - k) 0 (Nat.zero_le _) ?_ ?_
    · exact Le.sub ⟨rfl, rfl, rfl, rfl, trivial⟩ ⟨rfl, rfl, trivial⟩
    intro k hk
    refine ⟨fun h => ?_, fun h => ?_⟩
    · have hk1 : k < l.length := by simpa using h
      obtain ⟨s1, s2, s3⟩ := cost_small (List.getElem_mem hk1) hc1
      have hI := foldl_inva (l.take k) [] ⟨InvL.nil, Adb.nil⟩
      have hs := foldl_step nmOp [] hk1
      generalize List.foldl nmOp [] (l.take k) = L at *
      refine ⟨by omega, l[k], lget_at rfl hk1, rfl, ?_⟩
      generalize l[k] = o at *
      have hlen := hI.len
      refine ⟨fun h => ?_, fun h => ?_⟩
      · refine ⟨_, _, _, _, own_spec (oB o) (by omega) (fun p hp => by have := s3 p hp; omega), trivial, rfl, ?_⟩
        refine ⟨_, _, _, _, add_spec L (ownOf (oB o)) (by omega) (Nat.le_trans s1 (by decide)) (by
          show ((rPc (oB o)).map pieOf).length ≤ 1000000
          rw [List.length_map]; omega) (fun p hp => by
          obtain ⟨q, hq, rfl⟩ := List.mem_map.1 hp
          exact Nat.le_trans (s3 q hq) (by decide)), ⟨rfl, rfl, trivial⟩, rfl, ?_⟩
        refine ⟨fun h5 => absurd h (by
          have h5 : decide (oKind o = 1) = true := h5
          simp at h5
          simp [h5]), fun h5 => ?_⟩
        have hop : nmOp L o = addL L (ownOf (oB o)) := by
          have h5 : decide (oKind o = 1) = false := h5
          unfold nmOp addOp
          rw [if_neg (by rw [h5]; simp), if_pos h]
        rw [hop] at hs
        generalize addL L (ownOf (oB o)) = L' at *
        refine ⟨by omega, k + 1, hk1, by omega, ?_⟩
        rw [hs]
        exact Le.trans (Le.sub (K' := byK l (k + 1)) (B' := lstR 1003 L') ⟨rfl, rfl, rfl, rfl, trivial⟩ ⟨rfl, rfl, trivial⟩) (Le.ren 1003 1002 rfl)
      · have hadd : addOp L o = L := by unfold addOp; rw [if_neg (by rw [show decide (oKind o = 0) = false from h]; simp)]
        refine ⟨fun h5 => ?_, fun h5 => ?_⟩
        · refine ⟨_, _, _, _, drop_spec L (oName o) (by omega), ⟨rfl, rfl, trivial⟩, rfl, ?_⟩
          have hop : nmOp L o = dropL L (oName o) := by
            unfold nmOp
            rw [if_pos h5, hadd]
          rw [hop] at hs
          generalize dropL L (oName o) = L' at *
          refine ⟨by omega, k + 1, hk1, by omega, ?_⟩
          rw [hs]
          exact Le.trans (Le.sub (K' := byK l (k + 1)) (B' := lstR 1003 L') ⟨rfl, rfl, rfl, rfl, trivial⟩ ⟨rfl, rfl, trivial⟩) (Le.ren 1003 1002 rfl)
        · have hop : nmOp L o = L := by
            unfold nmOp
            rw [if_neg (by rw [show decide (oKind o = 1) = false from h5]; simp), hadd]
          rw [hop] at hs
          refine ⟨by omega, k + 1, hk1, by omega, ?_⟩
          rw [hs]
          exact Le.sub ⟨rfl, rfl, rfl, rfl, trivial⟩ ⟨rfl, rfl, trivial⟩
    have hk1 : k = l.length := by have : ¬ k < l.length := by simpa using h
                                  omega
    subst hk1
    rw [List.take_length]
    have hI := foldl_inva l [] ⟨InvL.nil, Adb.nil⟩
    generalize List.foldl nmOp [] l = L at *
    have hlen := hI.len
    have hw : ∀ b, b ∈ L → Wr b := fun b hb => wr_of hI.toInvL hb
    have hE := encode_spec L (by omega) hw
    have hel : (encL L).length ≤ 100000000 := by
      have h1 := flat_le encB 35000 L fun b hb => encB_length (hw b hb)
      have h2 : L.length * 35000 ≤ 64 * 35000 := Nat.mul_le_mul_right _ hlen
      unfold encL
      rw [List.length_append, encR_length]
      omega
    have hdc := dec_enc hI.adb hw hlen
    have hD := decode_both (encL L) hel (some (L.map toR)) hdc
    simp only at hD
    rw [map_toR] at hD
    have hLa := last_spec L (by omega)
    generalize encL L = el at *
    generalize lastN L = la at *
    refine ⟨_, _, _, _, hE, ⟨rfl, rfl, trivial⟩, rfl, ?_⟩
    refine ⟨_, _, _, _, Fn.ren [(1001, 3001), (1002, 3002)] hD, trivial, rfl, ?_⟩
    refine ⟨_, _, _, _, alive_spec, trivial, rfl, ?_⟩
    refine ⟨fun _ => ?_, fun h => absurd h (by decide)⟩
    refine ⟨fun _ => ?_, fun h => absurd h (by decide)⟩
    refine ⟨_, _, _, _, Fn.ren [(1001, 3001), (1002, 3002)] hE, ⟨rfl, rfl, trivial⟩, rfl, ?_⟩
    refine ⟨_, _, _, _, hE, ⟨rfl, rfl, trivial⟩, rfl, ?_⟩
    refine ⟨fun _ => ?_, fun h => absurd (show decide (el = el) = false from h) (by simp)⟩
    refine ⟨_, _, _, _, Fn.ren [(1001, 3001), (1002, 3002)] hLa, ⟨rfl, rfl, trivial⟩, rfl, ?_⟩
    refine ⟨_, _, _, _, hLa, ⟨rfl, rfl, trivial⟩, rfl, ?_⟩
    refine ⟨rfl, ?_⟩
    exact ⟨_, _, _, Le.refl _ _, rfl, (show decide (la = la) = true by simp), trivial, rfl⟩
end Go.Proofs.Ythghcdddambaeaa
