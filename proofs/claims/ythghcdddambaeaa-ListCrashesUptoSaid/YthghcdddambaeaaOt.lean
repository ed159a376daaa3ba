/-
  The law's crash of all files.
-/
import Derived.Test.YthghcdddambaeaaLi
import Derived.Test.YthghcdddambaeaaOA
set_option linter.unusedVariables false
set_option linter.unusedSimpArgs false
set_option maxRecDepth 10000
namespace Go.Proofs.Ythghcdddambaeaa
open Go.RowKit Go.Proofs
@[reducible] def opC (ks : List Kp) : Op4 := ((3 : Int), (0 : Int), ([] : List UInt8), ([] : List UInt8), ks, (0 : Int), (0 : Int), (0 : Int), ([] : List UInt8), ([] : List Int))
@[reducible] def otK (ks : List Kp) (k r : Nat) : KL := [(0, vP 1001), (3, vP 3), (7, vOwn r), (43, vL uK ks), (44, vI (ks.length : Nat)), (45, vI (k : Nat))]
@[reducible] def otB (room : Int) (es : FMap) (L : SPool) (ks : List Kp) (k r : Nat) : BL := flS 1001 1002 1003 room es L ++ [(3, .cells (op4L (opC ks))), (r, .row 149 uK (ks.take k))]
@[reducible] def otE (room : Int) (es : FMap) (L : SPool) (ks : List Kp) : BL := flS 1001 1002 1003 room es L ++ [(3, .cells (op4L (opC ks))), (2003, .row 149 uK ks)]
set_option maxHeartbeats 1000000 in
theorem other_fn (room : Int) (es : FMap) (L : SPool) (W : Nat) (ks : List Kp) (h : PoolOK es L W) (hW : W ≤ 1073741824) (hk : ks.length ≤ 1073741824) (hkl : ∀ k ∈ ks, (kL k).length ≤ 1073741824) :
    Fn Try.prog 40 [vP 1001, op4V (opC ks)] (flS 1001 1002 1003 room es L) [] (vI 0) (flS 1001 1002 1003 room es (mapP (crE ks es) L)) := by
  refine Fn.of tblOK [16] _ _ _ _ _ Try.func40 rfl rfl (by kernel_rfl) (by kernel_rfl) rfl (drawOK tblOK) rfl ?_
  refine ⟨rfl, ?_⟩
  refine ⟨fun h => absurd h (show ¬ decide ((3 : Int) = 0) = true by decide), fun _ => ?_⟩
  refine ⟨fun h => absurd h (show ¬ decide ((3 : Int) = 1) = true by decide), fun _ => ?_⟩
  refine ⟨fun h => absurd h (show ¬ decide ((3 : Int) = 2) = true by decide), fun _ => ?_⟩
  refine ⟨fun _ => ?_, fun h => absurd h (show ¬ decide ((3 : Int) = 3) = false by decide)⟩
  show TrQ _ _ _ _ _ _ _
  refine TrQ.loop tblOK (drawOK tblOK) [16] (by kernel_rfl) (X := Nat) (fun k => otK ks k 2003) (fun k => otB room es L ks k 2003) (fun k => k ≤ ks.length) (fun k => ks.length - k) 0 (Nat.zero_le _) ?_ ?_
  · exact Le.trans (Le.nil 7 2003 149 uK rfl rfl) (Le.sub ⟨rfl, rfl, rfl, rfl, rfl, rfl, trivial⟩ ⟨rfl, rfl, rfl, rfl, rfl, trivial⟩)
  intro k hk1
  refine ⟨fun hc => ?_, fun hc => ?_⟩
  · have hc : decide ((k : Int) < (ks.length : Nat)) = true := hc
    have hk2 : k < ks.length := by simpa using hc
    refine ⟨by omega, ks[k], lgAt (n := k) hk2, ?_⟩
    refine ⟨rfl, ?_⟩
    have hb : (ks.take k).length + 1 ≤ 4294967296 := by rw [List.length_take]; omega
    refine ⟨hb, rfl, ?_⟩
    refine ⟨by omega, k + 1, by omega, by omega, Le.trans (Le.sub (K' := otK ks (k + 1) 52) (B' := otB room es L ks (k + 1) 52) ⟨rfl, rfl, rfl, rfl, rfl, rfl, trivial⟩ ⟨rfl, rfl, rfl, rfl, ?_, trivial⟩) (Le.ren 52 2003 rfl)⟩
    rw [List.take_succ_eq_append_getElem hk2]
    rfl
  · have hc : decide ((k : Int) < (ks.length : Nat)) = false := hc
    have hk2 : k = ks.length := by simp at hc; omega
    subst hk2
    show TrQ _ _ _ _ _ _ _
    refine TrQ.go tblOK (drawOK tblOK) [] (by kernel_rfl) (Le.trans (Le.sub (K' := otK ks ks.length 2003) (B' := otE room es L ks) ⟨rfl, rfl, rfl, rfl, rfl, rfl, trivial⟩ ⟨rfl, rfl, rfl, rfl, congrArg (fun l => some (Ch.row 149 uK l)) List.take_length, trivial⟩) (Le.frz 2003 rfl)) ?_
    refine ⟨_, _, _, _, fcrash_fn room es L W ks h hW hk hkl, ⟨rfl, rfl, rfl, trivial⟩, rfl, ?_⟩
    exact ⟨_, _, _, Le.refl _ _, rfl, rfl, ⟨rfl, rfl, rfl, trivial⟩, rfl⟩
/-! How long a list of a few's scripts is, written. -/
theorem okP_len {sz cl : Int} : ∀ {l : List Pie} {last : Int}, okP sz cl last l = true → ∀ p ∈ l, ((pB p).length : Int) = cl
  | [], _, _, p, hp => by cases hp
  | q :: l, last, h, p, hp => by
    unfold okP at h
    simp only [Bool.and_eq_true, Bool.not_eq_true', Bool.or_eq_false_iff, Bool.not_eq_false', decide_eq_true_eq] at h
    rcases List.mem_cons.1 hp with rfl | hp
    · exact h.1.2
    · exact okP_len h.2 p hp
theorem encPs_len : ∀ l : List Pie, (l.flatMap encP).length = (l.map fun p => (pB p).length + 4).sum
  | [] => rfl
  | p :: l => by
    rw [List.flatMap_cons, List.length_append, encPs_len l, List.map_cons, List.sum_cons]
    unfold encP
    rw [List.length_append, encR_length, encT_length]
    omega
theorem pcs_bound : ∀ (l : List RPie), (∀ p ∈ l, 16 ≤ (rB p).length) → 17 * ((l.map pieOf).map fun p => (pB p).length + 4).sum ≤ 20 * costP l
  | [], _ => Nat.zero_le _
  | p :: l, h => by
    have h1 := pcs_bound l fun q hq => h q (List.mem_cons_of_mem _ hq)
    have h2 := h p (List.mem_cons_self ..)
    have e : costP (p :: l) = ((rB p).length + 1) + costP l := by unfold costP; rw [List.map_cons, List.sum_cons]
    rw [e, List.map_cons, List.map_cons, List.sum_cons]
    have e2 : (pB (pieOf p)).length = (rB p).length := rfl
    rw [e2]
    omega
theorem encB_bound {b : RBup} (h : rightB (ownOf b) = true) : 17 * (encB (ownOf b)).length ≤ 119 + 20 * ((rNm b).length + (rPa b).length + costP (rPc b)) := by
  have h2 := rightB_small h
  have h3 := clB_le h2.1 h2.2.1
  have hok : okP (bSz (ownOf b)) (clB (bBits (ownOf b))) (-1) (bPc (ownOf b)) = true := by
    simp only [rightB, Bool.and_eq_true] at h
    exact h.1.2
  have hp : ∀ p ∈ rPc b, 16 ≤ (rB p).length := fun p hp => by
    have := okP_len hok (pieOf p) (List.mem_map_of_mem hp)
    have e : (pB (pieOf p)).length = (rB p).length := rfl
    omega
  have h4 := pcs_bound (rPc b) hp
  have e : (encB (ownOf b)).length = 7 + (rNm b).length + (rPa b).length + (((rPc b).map pieOf).map fun p => (pB p).length + 4).sum := by
    unfold encB
    simp only [List.length_append, encR_length, encT_length]
    have h5 := encPs_len (bPc (ownOf b))
    have e6 : bPc (ownOf b) = (rPc b).map pieOf := rfl
    rw [h5, e6]
    have e7 : (bNm (ownOf b)).length = (rNm b).length := rfl
    have e8 : (bPa (ownOf b)).length = (rPa b).length := rfl
    rw [e7, e8]
    omega
  rw [e]
  omega
/-- A list, and what was spent for it. -/
def LenOK (L : List Bup) (k c : Nat) : Prop := L.length ≤ k ∧ 17 * (L.flatMap encB).length ≤ 119 * L.length + 20 * c
theorem LenOK.add {L : List Bup} {k c : Nat} (h : LenOK L k c) (o : LOp) : LenOK (addOp L o) (k + 1) (c + cost o) := by
  have h0 : LenOK L (k + 1) (c + cost o) := ⟨by have := h.1; omega, by have := h.2; omega⟩
  unfold addOp
  split
  · unfold addL
    split
    · rename_i hE
      have hr := (addE_iff.1 hE).1
      have hb := encB_bound hr
      refine ⟨by rw [List.length_append]; have := h.1; simp; omega, ?_⟩
      rw [List.flatMap_append, List.length_append, List.length_append]
      simp only [List.flatMap_cons, List.flatMap_nil, List.append_nil, List.length_cons, List.length_nil]
      have hc : (rNm (bO o)).length + (rPa (bO o)).length + costP (rPc (bO o)) ≤ cost o := by unfold cost cost1; omega
      have := h.2
      omega
    · exact h0
  · exact h0
theorem LenOK.fold : ∀ (l : List LOp) {L : List Bup} {k c : Nat}, LenOK L k c → LenOK (l.foldl addOp L) (k + l.length) (c + costs l)
  | [], L, k, c, h => h
  | o :: l, L, k, c, h => by
    have := LenOK.fold l (h.add o)
    rw [List.foldl_cons, List.length_cons]
    have e : costs (o :: l) = cost o + costs l := by unfold costs; rw [List.map_cons, List.sum_cons]
    rw [e]
    exact ⟨by have := this.1; omega, by have := this.2; omega⟩
theorem LenOK.enc {L : List Bup} {k c : Nat} (h : LenOK L k c) (hk : k ≤ 60) (hc : c ≤ 8000) : (encL L).length ≤ 15984 := by
  unfold encL
  rw [List.length_append, encR_length]
  have := h.1
  have := h.2
  omega
end Go.Proofs.Ythghcdddambaeaa
