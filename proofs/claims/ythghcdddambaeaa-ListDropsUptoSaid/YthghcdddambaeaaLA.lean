/-
  The law ListOver: the walk.
-/
import Derived.Test.YthghcdddambaeaaL9
set_option linter.unusedVariables false
set_option linter.unusedSimpArgs false
set_option maxRecDepth 10000
namespace Go.Proofs.Ythghcdddambaeaa
open Go.RowKit Go.Proofs

/-- A list behind calls of Add. -/
def addOp (L : List Bup) (o : LOp) : List Bup := if decide (oKind o = 0) = true then addL L (ownOf (oB o)) else L
def addAll (l : List LOp) : List Bup := l.foldl addOp []
theorem addOp_inv {L : List Bup} (hI : InvL L) (o : LOp) : InvL (addOp L o) := by
  unfold addOp
  split
  · exact hI.add _
  · exact hI
theorem addAll_inv (l : List LOp) : InvL (addAll l) := by
  have : ∀ (l : List LOp) (L : List Bup), InvL L → InvL (l.foldl addOp L) := fun l => by
    induction l with
    | nil => exact fun L h => h
    | cons o l ih => exact fun L h => ih _ (addOp_inv h o)
  exact this l [] InvL.nil
theorem addAll_step {l : List LOp} {k : Nat} (h : k < l.length) : addAll (l.take (k + 1)) = addOp (addAll (l.take k)) l[k] := foldl_step addOp [] h
theorem le_sum {α : Type} (f : α → Nat) : ∀ (l : List α) (x : α), x ∈ l → f x ≤ (l.map f).sum
  | [], x, h => by cases h
  | y :: l, x, h => by
    simp only [List.map_cons, List.sum_cons]
    rcases List.mem_cons.1 h with rfl | h
    · omega
    · have := le_sum f l x h; omega
theorem cost_small {l : List LOp} {o : LOp} (ho : o ∈ l) (h : costs l ≤ 4000) : (rNm (oB o)).length ≤ 4000 ∧ (rPc (oB o)).length ≤ 4000 ∧ ∀ p, p ∈ rPc (oB o) → (rB p).length ≤ 4000 := by
  have h1 := le_sum cost l o ho
  have h2 : cost o ≤ 4000 := Nat.le_trans h1 h
  have h3 := costP_len (rPc (oB o))
  unfold cost cost1 at h2
  refine ⟨by omega, by omega, fun p hp => ?_⟩
  have := le_sum (fun p : RPie => (rB p).length + 1) _ p hp
  unfold costP at h2
  omega
def bitOp (nm : List UInt8) (n : Int) (o : LOp) : Int := if (decide (oKind o = 0) && decide (rNm (oB o) = nm)) = true then rBits (oB o) else n
def bitsOf (nm : List UInt8) (l : List LOp) : Int := l.foldl (bitOp nm) 0
theorem bitsOf_step (nm : List UInt8) {l : List LOp} {k : Nat} (h : k < l.length) : bitsOf nm (l.take (k + 1)) = bitOp nm (bitsOf nm (l.take k)) l[k] := foldl_step (bitOp nm) 0 h
@[reducible] def overK (l : List LOp) (sz : Int) (k : Nat) : KL := [(0, vL uLO l), (1, vI sz), (5, vP 1001), (38, vL uLO l), (39, vI (l.length : Nat)), (40, vI (k : Nat))]
@[reducible] def lstR (r : Nat) (L : List Bup) : BL := [(1001, .cells [.own r]), (r, .row 43 uB L)]
set_option maxHeartbeats 2000000 in
theorem over_spec (l : List LOp) (sz : Int) (hl : l.length ≤ 1000000) (hc : costs l ≤ 1000000000) (hks : ∀ o, o ∈ l → (fKs (oF o)).length ≤ 1000000) : Fn Try.prog 3 [vL uLO l, vI sz] [] [] (vB true) [] := by
  refine Fn.of tblOK [] _ _ _ _ _ Try.func3 rfl rfl (by kernel_rfl) (by kernel_rfl) rfl (drawOK tblOK) rfl ?_
  refine ⟨_, _, _, _, new_spec, trivial, rfl, ?_⟩
  refine ⟨_, _, _, _, few_spec l hl hc hks, trivial, rfl, ?_⟩
  refine ⟨fun h => ?_, fun h1 => ?_⟩
  · refine ⟨_, _, _, _, alive_spec, trivial, rfl, ?_⟩
    exact ⟨_, _, _, Le.refl _ _, rfl, rfl, trivial, rfl⟩
  refine ⟨fun h => ?_, fun h2 => ?_⟩
  · refine ⟨_, _, _, _, alive_spec, trivial, rfl, ?_⟩
    exact ⟨_, _, _, Le.refl _ _, rfl, rfl, trivial, rfl⟩
  refine ⟨fun h => ?_, fun h3 => ?_⟩
  · refine ⟨_, _, _, _, alive_spec, trivial, rfl, ?_⟩
    exact ⟨_, _, _, Le.refl _ _, rfl, rfl, trivial, rfl⟩
  have hf : fewB l = true := by simpa using h1
  have hc4 : costs l ≤ 4000 := by
    unfold fewB at hf
    simp only [Bool.and_eq_true, decide_eq_true_eq] at hf
    exact hf.2
  have hsz : 0 ≤ sz ∧ sz ≤ 12 := by
    simp only [decide_eq_false_iff_not] at h2 h3
    omega
  show TrQ _ _ _ _ _ _ _
  refine TrQ.loop tblOK (drawOK tblOK) [] (by kernel_rfl) (X := Nat) (overK l sz) (fun k => lstR 1002 (addAll (l.take k))) (fun k => k ≤ l.length) (fun k => l.length - k) 0 (Nat.zero_le _) ?_ ?_
  · exact Le.sub ⟨rfl, rfl, rfl, rfl, rfl, rfl, trivial⟩ ⟨rfl, rfl, trivial⟩
  intro k hk
  refine ⟨fun h => ?_, fun h => ?_⟩
  · have hk1 : k < l.length := by simpa using h
    obtain ⟨s1, s2, s3⟩ := cost_small (List.getElem_mem hk1) hc4
    have hI := addAll_inv (l.take k)
    have hs := addAll_step hk1
    refine ⟨by omega, l[k], lget_at rfl hk1, rfl, ?_⟩
    generalize l[k] = o at *
    refine ⟨fun h => ?_, fun h => ?_⟩
    · refine ⟨_, _, _, _, own_spec (oB o) (by omega) (fun p hp => by have := s3 p hp; omega), trivial, rfl, ?_⟩
      refine ⟨_, _, _, _, add_spec (addAll (l.take k)) (ownOf (oB o)) (by have := hI.len; omega) (Nat.le_trans s1 (by decide)) (by
        show ((rPc (oB o)).map pieOf).length ≤ 1000000
        rw [List.length_map]; omega) (fun p hp => by
        obtain ⟨q, hq, rfl⟩ := List.mem_map.1 hp
        exact Nat.le_trans (s3 q hq) (by decide)), ⟨rfl, rfl, trivial⟩, rfl, ?_⟩
      refine ⟨by omega, k + 1, hk1, by omega, ?_⟩
      rw [hs, show addOp (addAll (l.take k)) o = addL (addAll (l.take k)) (ownOf (oB o)) by unfold addOp; rw [if_pos h]]
      exact Le.trans (Le.sub (K' := overK l sz (k + 1)) (B' := lstR 1003 (addL (addAll (l.take k)) (ownOf (oB o)))) ⟨rfl, rfl, rfl, rfl, rfl, rfl, trivial⟩ ⟨rfl, rfl, trivial⟩) (Le.ren 1003 1002 rfl)
    · refine ⟨by omega, k + 1, hk1, by omega, ?_⟩
      rw [hs, show addOp (addAll (l.take k)) o = addAll (l.take k) by unfold addOp; rw [if_neg (by rw [h]; simp)]]
      exact Le.sub ⟨rfl, rfl, rfl, rfl, rfl, rfl, trivial⟩ ⟨rfl, rfl, trivial⟩
  have hk1 : k = l.length := by have : ¬ k < l.length := by simpa using h
                                omega
  subst hk1
  rw [List.take_length]
  have hI := addAll_inv l
  generalize addAll l = L at *
  refine ⟨_, _, _, _, last_spec L (by have := hI.len; omega), ⟨rfl, rfl, trivial⟩, rfl, ?_⟩
  show TrQ _ _ _ _ _ _ _
  refine TrQ.loop tblOK (drawOK tblOK) [] (by kernel_rfl) (X := Nat) (fun k => [(0, vL uLO l), (1, vI sz), (5, vP 1001), (8, vS (lastN L)), (9, vI (bitsOf (lastN L) (l.take k))), (55, vL uLO l), (56, vI (l.length : Nat)), (57, vI (k : Nat))]) (fun k => lstR 1002 L) (fun k => k ≤ l.length) (fun k => l.length - k) 0 (Nat.zero_le _) ?_ ?_
  · exact Le.sub ⟨rfl, rfl, rfl, rfl, rfl, rfl, rfl, rfl, trivial⟩ ⟨rfl, rfl, trivial⟩
  intro k hk
  refine ⟨fun h => ?_, fun h => ?_⟩
  · have hk1 : k < l.length := by simpa using h
    have hs := bitsOf_step (lastN L) hk1
    refine ⟨by omega, l[k], lget_at rfl hk1, rfl, ?_⟩
    generalize l[k] = o at *
    refine ⟨fun h => ?_, fun h => ?_⟩
    · refine ⟨fun h5 => ?_, fun h5 => ?_⟩
      · refine ⟨by omega, k + 1, hk1, by omega, ?_⟩
        rw [hs]
        unfold bitOp
        rw [if_pos (show (decide (oKind o = 0) && decide (rNm (oB o) = lastN L)) = true by rw [show decide (oKind o = 0) = true from h, show decide (rNm (oB o) = lastN L) = true from h5]; rfl)]
        exact Le.sub ⟨rfl, rfl, rfl, rfl, rfl, rfl, rfl, rfl, trivial⟩ ⟨rfl, rfl, trivial⟩
      · refine ⟨by omega, k + 1, hk1, by omega, ?_⟩
        rw [hs]
        unfold bitOp
        rw [if_neg (show ¬ (decide (oKind o = 0) && decide (rNm (oB o) = lastN L)) = true by rw [show decide (rNm (oB o) = lastN L) = false from h5]; simp)]
        exact Le.sub ⟨rfl, rfl, rfl, rfl, rfl, rfl, rfl, rfl, trivial⟩ ⟨rfl, rfl, trivial⟩
    · refine ⟨by omega, k + 1, hk1, by omega, ?_⟩
      rw [hs]
      unfold bitOp
      rw [if_neg (show ¬ (decide (oKind o = 0) && decide (rNm (oB o) = lastN L)) = true by rw [show decide (oKind o = 0) = false from h]; simp)]
      exact Le.sub ⟨rfl, rfl, rfl, rfl, rfl, rfl, rfl, rfl, trivial⟩ ⟨rfl, rfl, trivial⟩
  have hk1 : k = l.length := by have : ¬ k < l.length := by simpa using h
                                omega
  subst hk1
  rw [List.take_length]
  generalize bitsOf (lastN L) l = bits at *
  have hlen := hI.len
  refine ⟨_, _, _, _, restore_spec hI (lastN L), ⟨rfl, rfl, trivial⟩, rfl, ?_⟩
  refine ⟨fun h => ?_, fun h6 => ?_⟩
  · refine ⟨_, _, _, _, alive_spec, trivial, rfl, ?_⟩
    exact ⟨_, _, _, Le.refl _ _, rfl, rfl, trivial, rfl⟩
  have hrE : restE L (lastN L) = 0 := by
    have h6 : (!decide (restE L (lastN L) = 0)) = false := h6
    simpa using h6
  have hfd : 0 ≤ fnd L (lastN L) := by
    unfold restE at hrE
    split at hrE
    · cases hrE
    · rename_i hh
      simp only [decide_eq_true_eq] at hh
      omega
  have hne : ¬ lastN L = [] := fun he => by
    rcases ixL_cases (fun b => decide (bNm b = lastN L)) L with ⟨hh, _⟩ | ⟨k, x, _, hx, hx2, _⟩
    · unfold fnd at hfd; omega
    · have hr := hI.right x (List.mem_of_getElem? hx)
      simp only [decide_eq_true_eq] at hx2
      simp only [rightB, Bool.and_eq_true] at hr
      have := hr.1.1.1.1.1.1
      rw [hx2, he] at this
      exact absurd this (by decide)
  obtain ⟨ov, hov⟩ : ∃ ov : Bup, ov = ([111, 118, 101, 114], lastN L, bits, sz, []) := ⟨_, rfl⟩
  have e1 : bNm ov = [111, 118, 101, 114] := by rw [hov]
  have e2 : bPa ov = lastN L := by rw [hov]
  have e3 : bSz ov = sz := by rw [hov]
  have e4 : bPc ov = [] := by rw [hov]
  have hadd := add_spec L ov (by omega) (by rw [e1]; decide) (by rw [e4]; decide) (fun p hp => by rw [e4] at hp; cases hp)
  refine ⟨_, _, _, _, Fn.arg hadd ⟨rfl, by rw [hov]; exact ⟨rfl, rfl, rfl, rfl, rfl, trivial⟩, trivial⟩, ⟨rfl, rfl, trivial⟩, rfl, ?_⟩
  refine ⟨fun h => ?_, fun h7 => ?_⟩
  · refine ⟨_, _, _, _, alive_spec, trivial, rfl, ?_⟩
    exact ⟨_, _, _, Le.refl _ _, rfl, rfl, trivial, rfl⟩
  have hA : addE L ov = 0 := by
    have h7 : (!decide (addE L ov = 0)) = false := h7
    simpa using h7
  have hI2 := hI.add ov
  have hR := restore_spec hI2 [111, 118, 101, 114]
  have hL2 : addL L ov = L ++ [ov] := by unfold addL; rw [if_pos hA]
  obtain ⟨q1, q2⟩ := rest_over hI hA e4 (by rw [e2]; exact hfd) (by rw [e2]; exact hne)
  rw [e1, ← hL2] at q1 q2
  rw [e2, laid_zeros] at q2
  obtain ⟨a1, a2, _⟩ := addE_zero hA
  obtain ⟨b1, b2, b3, b4⟩ := rightB_small a1
  obtain ⟨c1, c2⟩ := clB_le b1 b2
  have hm : (bSz ov * clB (bBits ov)).toNat ≤ 32768 := by
    have : bSz ov * clB (bBits ov) ≤ 256 * 128 := Int.mul_le_mul b4 c2 (by omega) (by omega)
    omega
  obtain ⟨o1, o2, o3⟩ := over_bytes (bSz ov * clB (bBits ov)).toNat (restL L (lastN L))
  rw [← q2] at o1 o2 o3
  rw [q1] at hR
  generalize (bSz ov * clB (bBits ov)).toNat = m at *
  generalize restL L (lastN L) = A at *
  generalize restL (addL L ov) [111, 118, 101, 114] = S at *
  refine ⟨_, _, _, _, Fn.ren [(1002, 1003)] hR, ⟨rfl, rfl, trivial⟩, rfl, ?_⟩
  refine ⟨_, _, _, _, alive_spec, trivial, rfl, ?_⟩
  refine ⟨fun h => ?_, fun h => by cases h⟩
  refine ⟨fun h8 => ?_, fun h8 => absurd h8 (by decide)⟩
  have hmin : (min (A.length : Int) (S.length : Int)).toNat = min A.length m := by rw [o1]; omega
  have hb1 : 0 ≤ min (A.length : Int) (S.length : Int) ∧ min (A.length : Int) (S.length : Int) ≤ (A.length : Int) := by omega
  have hb2 : 0 ≤ min (A.length : Int) (S.length : Int) ∧ min (A.length : Int) (S.length : Int) ≤ (S.length : Int) := by omega
  have hb3 : -9223372036854775808 ≤ (S.length : Int) - min (A.length : Int) (S.length : Int) ∧ (S.length : Int) - min (A.length : Int) (S.length : Int) ≤ 9223372036854775807 := by omega
  have hb4 : 0 ≤ (S.length : Int) - min (A.length : Int) (S.length : Int) ∧ (S.length : Int) - min (A.length : Int) (S.length : Int) ≤ 4294967296 := by omega
  have hd : ((S.length : Int) - min (A.length : Int) (S.length : Int)).toNat = m - min A.length m := by rw [o1]; omega
  have t1 : (A.take (min (A.length : Int) (S.length : Int)).toNat).drop 0 = (S.take (min (A.length : Int) (S.length : Int)).toNat).drop 0 := by rw [hmin]; exact o2
  have t2 : (S.take S.length).drop (min (A.length : Int) (S.length : Int)).toNat = List.replicate ((S.length : Int) - min (A.length : Int) (S.length : Int)).toNat 0 := by rw [hmin, hd, List.take_length]; exact o3
  refine ⟨hb1, hb2, ?_⟩
  refine ⟨fun h9 => ?_, fun h9 => absurd (decide_eq_false_iff_not.1 h9) (fun hh => hh t1)⟩
  refine ⟨hb2, hb3, ⟨rfl, hb4.1, hb4.2⟩, rfl, rfl, ?_⟩
  refine ⟨_, _, _, Le.refl _ _, rfl, ?_, trivial, rfl⟩
  have t3 : @Eq (List UInt8) (List.drop (α := UInt8) (min (A.length : Int) (S.length : Int)).toNat (List.take (α := UInt8) S.length S)) (List.replicate (α := UInt8) ((S.length : Int) - min (A.length : Int) (S.length : Int)).toNat 0) := t2
  have t4 := decide_eq_true t3
  exact t4
end Go.Proofs.Ythghcdddambaeaa
