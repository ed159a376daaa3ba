/-
  The law ListOver: the walk.
-/
import Derived.Test.YthghcdddambaeaaL5
set_option linter.unusedVariables false
set_option linter.unusedSimpArgs false
set_option maxRecDepth 10000
namespace Go.Proofs.Ythghcdddambaeaa
open Go.RowKit Go.Proofs

/-- A list behind calls of Add. -/
def addOp (L : List Bup) (o : LOp) : List Bup := if decide (dKind o = 0) = true then addL L (ownOf (bO o)) else L
def addAll (l : List LOp) : List Bup := l.foldl addOp []
theorem addOp_inv {L : List Bup} (hI : InvL L) (o : LOp) : InvL (addOp L o) := by
  unfold addOp
  split
  · exact hI.add _
  · exact hI
theorem addAll_inv (l : List LOp) : InvL (addAll l) := by
  have : ∀ (l : List LOp) (L : List Bup), InvL L → InvL (l.foldl addOp L) := fun l => by
    induction l with
    | nil => exact fun L h => h
    | cons o l ih => exact fun L h => ih _ (addOp_inv h o)
  exact this l [] InvL.nil
theorem addAll_step {l : List LOp} {k : Nat} (h : k < l.length) : addAll (l.take (k + 1)) = addOp (addAll (l.take k)) l[k] := foldl_step addOp [] h
theorem le_sum {α : Type} (f : α → Nat) : ∀ (l : List α) (x : α), x ∈ l → f x ≤ (l.map f).sum
  | [], x, h => by cases h
  | y :: l, x, h => by
    simp only [List.map_cons, List.sum_cons]
    rcases List.mem_cons.1 h with rfl | h
    · omega
    · have := le_sum f l x h; omega
theorem cost_small {l : List LOp} {o : LOp} (ho : o ∈ l) (h : costs l ≤ 4000) : (rNm (bO o)).length ≤ 4000 ∧ (rPc (bO o)).length ≤ 4000 ∧ ∀ p, p ∈ rPc (bO o) → (rB p).length ≤ 4000 := by
  have h1 := le_sum cost l o ho
  have h2 : cost o ≤ 4000 := Nat.le_trans h1 h
  have h3 := costP_len (rPc (bO o))
  unfold cost cost1 at h2
  refine ⟨by omega, by omega, fun p hp => ?_⟩
  have := le_sum (fun p : RPie => (rB p).length + 1) _ p hp
  unfold costP at h2
  omega
def bitOp (nm : List UInt8) (n : Int) (o : LOp) : Int := if (decide (dKind o = 0) && decide (rNm (bO o) = nm)) = true then rBits (bO o) else n
def bitsOf (nm : List UInt8) (l : List LOp) : Int := l.foldl (bitOp nm) 0
theorem bitsOf_step (nm : List UInt8) {l : List LOp} {k : Nat} (h : k < l.length) : bitsOf nm (l.take (k + 1)) = bitOp nm (bitsOf nm (l.take k)) l[k] := foldl_step (bitOp nm) 0 h
@[reducible] def overK (l : List LOp) (sz : Int) (k : Nat) : KL := [(0, vL uLO l), (1, vI sz), (5, vP 1001), (38, vL uLO l), (39, vI (l.length : Nat)), (40, vI (k : Nat))]
@[reducible] def lstR (r : Nat) (L : List Bup) : BL := [(1001, .cells [.own r]), (r, .row 43 uB L)]
set_option maxHeartbeats 2000000 in
theorem over_spec (l : List LOp) (sz : Int) (hl : l.length ≤ 1000000) (hc : costs l ≤ 1000000000) (hks : ∀ o, o ∈ l → (fKs (oF o)).length ≤ 1000000) : Fn Try.prog 3 [vL uLO l, vI sz] [] [] (vB true) [] := by
  refine Fn.of tblOK [] _ _ _ _ _ Try.func3 rfl rfl (by kernel_rfl) (by kernel_rfl) rfl (drawOK tblOK) rfl ?_
  refine ⟨_, _, _, _, new_spec, trivial, rfl, ?_⟩
  refine ⟨_, _, _, _, few_spec l hl hc hks, trivial, rfl, ?_⟩
  refine ⟨fun h => ?_, fun h1 => ?_⟩
  · refine ⟨_, _, _, _, alive_spec, trivial, rfl, ?_⟩
    exact ⟨_, _, _, Le.refl _ _, rfl, rfl, trivial, rfl⟩
  refine ⟨fun h => ?_, fun h2 => ?_⟩
  · refine ⟨_, _, _, _, alive_spec, trivial, rfl, ?_⟩
    exact ⟨_, _, _, Le.refl _ _, rfl, rfl, trivial, rfl⟩
  refine ⟨fun h => ?_, fun h3 => ?_⟩
  · refine ⟨_, _, _, _, alive_spec, trivial, rfl, ?_⟩
    exact ⟨_, _, _, Le.refl _ _, rfl, rfl, trivial, rfl⟩
  have hf : fewL l = true := by simpa using h1
  have hc4 : costs l ≤ 4000 := by
    unfold fewL at hf
    simp only [Bool.and_eq_true, decide_eq_true_eq] at hf
    exact hf.2
  have hsz : 0 ≤ sz ∧ sz ≤ 12 := by
    simp only [decide_eq_false_iff_not] at h2 h3
    omega
  show TrQ _ _ _ _ _ _ _
  refine TrQ.loop tblOK (drawOK tblOK) [] (by kernel_rfl) (X := Nat) (overK l sz) (fun k => lstR 1002 (addAll (l.take k))) (fun k => k ≤ l.length) (fun k => l.length - k) 0 (Nat.zero_le _) ?_ ?_
  · exact Le.sub ⟨rfl, rfl, rfl, rfl, rfl, rfl, trivial⟩ ⟨rfl, rfl, trivial⟩
  intro k hk
  refine ⟨fun h => ?_, fun h => ?_⟩
  · have hk1 : k < l.length := by simpa using h
    obtain ⟨s1, s2, s3⟩ := cost_small (List.getElem_mem hk1) hc4
    have hI := addAll_inv (l.take k)
    have hs := addAll_step hk1
    refine ⟨by omega, l[k], lget_at rfl hk1, rfl, ?_⟩
    generalize l[k] = o at *
    refine ⟨fun h => ?_, fun h => ?_⟩
    · refine ⟨_, _, _, _, own_spec (bO o) (by omega) (fun p hp => by have := s3 p hp; omega), trivial, rfl, ?_⟩
      refine ⟨_, _, _, _, add_spec (addAll (l.take k)) (ownOf (bO o)) (by have := hI.len; omega) (Nat.le_trans s1 (by decide)) (by
        show ((rPc (bO o)).map pieOf).length ≤ 1000000
        rw [List.length_map]; omega) (fun p hp => by
        obtain ⟨q, hq, rfl⟩ := List.mem_map.1 hp
        exact Nat.le_trans (s3 q hq) (by decide)), ⟨rfl, rfl, trivial⟩, rfl, ?_⟩
      refine ⟨by omega, k + 1, hk1, by omega, ?_⟩
      rw [hs, show addOp (addAll (l.take k)) o = addL (addAll (l.take k)) (ownOf (bO o)) by unfold addOp; rw [if_pos h]]
      exact Le.trans (Le.sub (K' := overK l sz (k + 1)) (B' := lstR 1003 (addL (addAll (l.take k)) (ownOf (bO o)))) ⟨rfl, rfl, rfl, rfl, rfl, rfl, trivial⟩ ⟨rfl, rfl, trivial⟩) (Le.ren 1003 1002 rfl)
    · refine ⟨by omega, k + 1, hk1, by omega, ?_⟩
      rw [hs, show addOp (addAll (l.take k)) o = addAll (l.take k) by unfold addOp; rw [if_neg (by rw [h]; simp)]]
      exact Le.sub ⟨rfl, rfl, rfl, rfl, rfl, rfl, trivial⟩ ⟨rfl, rfl, trivial⟩
  have hk1 : k = l.length := by have : ¬ k < l.length := by simpa using h
                                omega
  subst hk1
  rw [List.take_length]
  have hI := addAll_inv l
  generalize addAll l = L at *
  refine ⟨_, _, _, _, last_spec L (by have := hI.len; omega), ⟨rfl, rfl, trivial⟩, rfl, ?_⟩
  show TrQ _ _ _ _ _ _ _
  refine TrQ.loop tblOK (drawOK tblOK) [] (by kernel_rfl) (X := Nat) (fun k => [(0, vL uLO l), (1, vI sz), (5, vP 1001), (8, vS (lastN L)), (9, vI (bitsOf (lastN L) (l.take k))), (55, vL uLO l), (56, vI (l.length : Nat)), (57, vI (k : Nat))]) (fun k => lstR 1002 L) (fun k => k ≤ l.length) (fun k => l.length - k) 0 (Nat.zero_le _) ?_ ?_
  · exact Le.sub ⟨rfl, rfl, rfl, rfl, rfl, rfl, rfl, rfl, trivial⟩ ⟨rfl, rfl, trivial⟩
  intro k hk
  refine ⟨fun h => ?_, fun h => ?_⟩
  · have hk1 : k < l.length := by simpa using h
    have hs := bitsOf_step (lastN L) hk1
    refine ⟨by omega, l[k], lget_at rfl hk1, rfl, ?_⟩
    generalize l[k] = o at *
    refine ⟨fun h => ?_, fun h => ?_⟩
    · refine ⟨fun h5 => ?_, fun h5 => ?_⟩
      · refine ⟨by omega, k + 1, hk1, by omega, ?_⟩
        rw [hs]
        unfold bitOp
        rw [if_pos (show (decide (dKind o = 0) && decide (rNm (bO o) = lastN L)) = true by rw [show decide (dKind o = 0) = true from h, show decide (rNm (bO o) = lastN L) = true from h5]; rfl)]
        exact Le.sub ⟨rfl, rfl, rfl, rfl, rfl, rfl, rfl, rfl, trivial⟩ ⟨rfl, rfl, trivial⟩
      · refine ⟨by omega, k + 1, hk1, by omega, ?_⟩
        rw [hs]
        unfold bitOp
        rw [if_neg (show ¬ (decide (dKind o = 0) && decide (rNm (bO o) = lastN L)) = true by rw [show decide (rNm (bO o) = lastN L) = false from h5]; simp)]
        exact Le.sub ⟨rfl, rfl, rfl, rfl, rfl, rfl, rfl, rfl, trivial⟩ ⟨rfl, rfl, trivial⟩
    · refine ⟨by omega, k + 1, hk1, by omega, ?_⟩
      rw [hs]
      unfold bitOp
      rw [if_neg (show ¬ (decide (dKind o = 0) && decide (rNm (bO o) = lastN L)) = true by rw [show decide (dKind o = 0) = false from h]; simp)]
      exact Le.sub ⟨rfl, rfl, rfl, rfl, rfl, rfl, rfl, rfl, trivial⟩ ⟨rfl, rfl, trivial⟩
  have hk1 : k = l.length := by have : ¬ k < l.length := by simpa using h
                                omega
  subst hk1
  rw [List.take_length]
  generalize bitsOf (lastN L) l = bits at *
  have hlen := hI.len
  refine ⟨_, _, _, _, restore_spec hI (lastN L), ⟨rfl, rfl, trivial⟩, rfl, ?_⟩
  refine ⟨fun h => ?_, fun h6 => ?_⟩
  · refine ⟨_, _, _, _, alive_spec, trivial, rfl, ?_⟩
    exact ⟨_, _, _, Le.refl _ _, rfl, rfl, trivial, rfl⟩
  have hrE : restE L (lastN L) = 0 := by
    have h6 : (!decide (restE L (lastN L) = 0)) = false := h6
    simpa using h6
  have hfd : 0 ≤ fnd L (lastN L) := by
    unfold restE at hrE
    split at hrE
    · cases hrE
    · rename_i hh
      simp only [decide_eq_true_eq] at hh
      omega
  have hne : ¬ lastN L = [] := fun he => by
    rcases ixL_cases (fun b => decide (bNm b = lastN L)) L with ⟨hh, _⟩ | ⟨k, x, _, hx, hx2, _⟩
    · unfold fnd at hfd; omega
    · have hr := hI.right x (List.mem_of_getElem? hx)
      simp only [decide_eq_true_eq] at hx2
      simp only [rightB, Bool.and_eq_true] at hr
      have := hr.1.1.1.1.1.1
      rw [hx2, he] at this
      exact absurd this (by decide)
  obtain ⟨ov, hov⟩ : ∃ ov : Bup, ov = ([111, 118, 101, 114], lastN L, bits, sz, []) := ⟨_, rfl⟩
  have e1 : bNm ov = [111, 118, 101, 114] := by rw [hov]
  have e2 : bPa ov = lastN L := by rw [hov]
  have e3 : bSz ov = sz := by rw [hov]
  have e4 : bPc ov = [] := by rw [hov]
  have hadd := add_spec L ov (by omega) (by rw [e1]; decide) (by rw [e4]; decide) (fun p hp => by rw [e4] at hp; cases hp)
  refine ⟨_, _, _, _, Fn.arg hadd ⟨rfl, by rw [hov]; exact ⟨rfl, rfl, rfl, rfl, rfl, trivial⟩, trivial⟩, ⟨rfl, rfl, trivial⟩, rfl, ?_⟩
  refine ⟨fun h => ?_, fun h7 => ?_⟩
  · refine ⟨_, _, _, _, alive_spec, trivial, rfl, ?_⟩
    exact ⟨_, _, _, Le.refl _ _, rfl, rfl, trivial, rfl⟩
  have hA : addE L ov = 0 := by
    have h7 : (!decide (addE L ov = 0)) = false := h7
    simpa using h7
  have hI2 := hI.add ov
  have hR := restore_spec hI2 [111, 118, 101, 114]
  have hL2 : addL L ov = L ++ [ov] := by unfold addL; rw [if_pos hA]
  obtain ⟨q1, q2⟩ := rest_over hI hA e4 (by rw [e2]; exact hfd) (by rw [e2]; exact hne)
  rw [e1, ← hL2] at q1 q2
  rw [e2, laid_zeros] at q2
  obtain ⟨a1, a2, _⟩ := addE_zero hA
  obtain ⟨b1, b2, b3, b4⟩ := rightB_small a1
  obtain ⟨c1, c2⟩ := clB_le b1 b2
  have hm : (bSz ov * clB (bBits ov)).toNat ≤ 32768 := by
    have : bSz ov * clB (bBits ov) ≤ 256 * 128 := Int.mul_le_mul b4 c2 (by omega) (by omega)
    omega
  obtain ⟨o1, o2, o3⟩ := over_bytes (bSz ov * clB (bBits ov)).toNat (restL L (lastN L))
  rw [← q2] at o1 o2 o3
  rw [q1] at hR
  generalize (bSz ov * clB (bBits ov)).toNat = m at *
  generalize restL L (lastN L) = A at *
  generalize restL (addL L ov) [111, 118, 101, 114] = S at *
  refine ⟨_, _, _, _, Fn.ren [(1002, 1003)] hR, ⟨rfl, rfl, trivial⟩, rfl, ?_⟩
  refine ⟨_, _, _, _, alive_spec, trivial, rfl, ?_⟩
  refine ⟨fun h => ?_, fun h => by cases h⟩
  refine ⟨fun h8 => ?_, fun h8 => absurd h8 (by decide)⟩
  have hmin : (min (A.length : Int) (S.length : Int)).toNat = min A.length m := by rw [o1]; omega
  have hb1 : 0 ≤ min (A.length : Int) (S.length : Int) ∧ min (A.length : Int) (S.length : Int) ≤ (A.length : Int) := by omega
  have hb2 : 0 ≤ min (A.length : Int) (S.length : Int) ∧ min (A.length : Int) (S.length : Int) ≤ (S.length : Int) := by omega
  have hb3 : -9223372036854775808 ≤ (S.length : Int) - min (A.length : Int) (S.length : Int) ∧ (S.length : Int) - min (A.length : Int) (S.length : Int) ≤ 9223372036854775807 := by omega
  have hb4 : 0 ≤ (S.length : Int) - min (A.length : Int) (S.length : Int) ∧ (S.length : Int) - min (A.length : Int) (S.length : Int) ≤ 4294967296 := by omega
  have hd : ((S.length : Int) - min (A.length : Int) (S.length : Int)).toNat = m - min A.length m := by rw [o1]; omega
  have t1 : (A.take (min (A.length : Int) (S.length : Int)).toNat).drop 0 = (S.take (min (A.length : Int) (S.length : Int)).toNat).drop 0 := by rw [hmin]; exact o2
  have t2 : (S.take S.length).drop (min (A.length : Int) (S.length : Int)).toNat = List.replicate ((S.length : Int) - min (A.length : Int) (S.length : Int)).toNat 0 := by rw [hmin, hd, List.take_length]; exact o3
  refine ⟨hb1, hb2, ?_⟩
  refine ⟨fun h9 => ?_, fun h9 => absurd (decide_eq_false_iff_not.1 h9) (fun hh => hh t1)⟩
  refine ⟨hb2, hb3, ⟨rfl, hb4.1, hb4.2⟩, rfl, rfl, ?_⟩
  refine ⟨_, _, _, Le.refl _ _, rfl, ?_, trivial, rfl⟩
  have t3 : @Eq (List UInt8) (List.drop (α := UInt8) (min (A.length : Int) (S.length : Int)).toNat (List.take (α := UInt8) S.length S)) (List.replicate (α := UInt8) ((S.length : Int) - min (A.length : Int) (S.length : Int)).toNat 0) := t2
  have t4 := decide_eq_true t3
  exact t4
end Go.Proofs.Ythghcdddambaeaa
/-
  Names; what stays of a list to which is added.
-/
set_option linter.unusedVariables false
set_option linter.unusedSimpArgs false
set_option maxRecDepth 10000
namespace Go.Proofs.Ythghcdddambaeaa
open Go.RowKit Go.Proofs

@[reducible] def nmsK (r k : Nat) (L : List Bup) : KL := [(3, vOwn r), (9, vOwn 1002), (10, vI (L.length : Nat)), (11, vI (k : Nat))]
@[reducible] def nmsB (L : List Bup) (r : Nat) (l : List (List UInt8)) : BL := (r, .row 9 .str l) :: lstB L
theorem names_spec (L : List Bup) (hL : L.length ≤ 1000000) : Fn Try.prog 26 [vP 1001] (lstB L) [] (vL .str (L.map bNm)) (lstB L) := by
  refine Fn.of tblOK [] _ _ _ _ _ Try.func26 rfl rfl (by kernel_rfl) (by kernel_rfl) rfl (drawOK tblOK) rfl ?_
  show TrQ _ _ _ _ _ _ _
  refine TrQ.loop tblOK (drawOK tblOK) [] (by kernel_rfl) (X := Nat) (fun k => nmsK 2002 k L) (fun k => nmsB L 2002 ((L.take k).map bNm)) (fun k => k ≤ L.length) (fun k => L.length - k) 0 (Nat.zero_le _) ?_ ?_
  · exact Le.trans (Le.nil 3 2002 9 .str rfl rfl) (Le.sub ⟨rfl, rfl, rfl, rfl, trivial⟩ ⟨rfl, rfl, rfl, trivial⟩)
  intro k hk
  refine ⟨fun h => ?_, fun h => ?_⟩
  · have hk1 : k < L.length := by simpa using h
    refine ⟨⟨by omega, by omega⟩, L[k], lget_at rfl hk1, rfl, ?_⟩
    refine ⟨?_, rfl, ?_⟩
    · show ((L.take k).map bNm).length + 1 ≤ 4294967296
      rw [List.length_map, List.length_take]; omega
    refine ⟨by omega, k + 1, hk1, by omega, ?_⟩
    exact Le.trans (Le.sub (K' := nmsK 19 (k + 1) L) (B' := nmsB L 19 ((L.take (k + 1)).map bNm)) ⟨rfl, rfl, rfl, rfl, trivial⟩ ⟨congrArg (fun l => some (Ch.row _ .str l)) (map_take_step bNm hk1), rfl, rfl, trivial⟩) (Le.ren 19 2002 rfl)
  · have hk1 : k = L.length := by have : ¬ k < L.length := by simpa using h
                                  omega
    subst hk1
    exact ⟨_, _, _, Le.frz 2002 rfl, rfl, (show (L.take L.length).map bNm = L.map bNm by rw [List.take_length]), ⟨rfl, rfl, trivial⟩, rfl⟩

/-! ### the plain law: what stays -/
theorem fnd_mem {L : List Bup} {b : Bup} (h : b ∈ L) : 0 ≤ fnd L (bNm b) := by
  unfold fnd
  rcases ixL_cases (fun x => decide (bNm x = bNm b)) L with ⟨_, hn⟩ | ⟨k, x, h, _⟩
  · obtain ⟨i, hi, rfl⟩ := List.getElem_of_mem h
    have := hn i _ (List.getElem?_eq_getElem hi)
    simp at this
  · omega
theorem restB_fuel {L : List Bup} (hI : InvL L) : ∀ (n m : Nat) (nm : List UInt8), fnd L nm < n → fnd L nm < m → restB L n nm = restB L m nm := by
  intro n
  induction n with
  | zero =>
    intro m nm h1 h2
    cases m with
    | zero => rfl
    | succ m =>
      show [] = restS L nm (restB L m)
      unfold restS lgetI
      rw [if_neg (by omega)]
  | succ n ih =>
    intro m nm h1 h2
    cases m with
    | zero =>
      show restS L nm (restB L n) = []
      unfold restS lgetI
      rw [if_neg (by omega)]
    | succ m =>
      show restS L nm (restB L n) = restS L nm (restB L m)
      unfold restS
      cases hx : lgetI L (fnd L nm) with
      | none => rfl
      | some x =>
        simp only
        obtain ⟨k, hk, hb⟩ := lgetI_some hx
        by_cases hp : bPa x = []
        · unfold diskB
          simp only [hp, decide_true, if_true]
        · have := (hI.par k x hb (by simpa using hp))
          rw [ih m (bPa x) (by omega) (by omega)]
/-- What is restored of who is there stays. -/
theorem restL_stays {L : List Bup} (hI : InvL L) (b : Bup) {nm : List UInt8} (h : 0 ≤ fnd L nm) : restL (addL L b) nm = restL L nm ∧ restE (addL L b) nm = restE L nm ∧ 0 ≤ fnd (addL L b) nm := by
  unfold addL
  split
  · have hf : fnd (L ++ [b]) nm = fnd L nm := ixL_append b h
    have hlt := fnd_lt L nm
    refine ⟨?_, by unfold restE; rw [hf], by omega⟩
    unfold restL
    rw [restB_append hI b _ _ h]
    exact restB_fuel hI _ _ _ (by simp; omega) (by omega)
  · exact ⟨rfl, rfl, h⟩
theorem stays_all (nm : List UInt8) : ∀ (m : List LOp) (L : List Bup), InvL L → 0 ≤ fnd L nm → InvL (m.foldl addOp L) ∧ restL (m.foldl addOp L) nm = restL L nm ∧ restE (m.foldl addOp L) nm = restE L nm
  | [], L, hI, _ => ⟨hI, rfl, rfl⟩
  | o :: m, L, hI, h => by
    have hI2 := addOp_inv hI o
    have hs : restL (addOp L o) nm = restL L nm ∧ restE (addOp L o) nm = restE L nm ∧ 0 ≤ fnd (addOp L o) nm := by
      unfold addOp
      split
      · exact restL_stays hI _ h
      · exact ⟨rfl, rfl, h⟩
    obtain ⟨q1, q2, q3⟩ := stays_all nm m _ hI2 hs.2.2
    exact ⟨q1, q2.trans hs.1, q3.trans hs.2.1⟩
theorem foldl_addOp_inv : ∀ (m : List LOp) (L : List Bup), InvL L → InvL (m.foldl addOp L)
  | [], L, h => h
  | o :: m, L, h => foldl_addOp_inv m _ (addOp_inv h o)
theorem restE_there {L : List Bup} {nm : List UInt8} (h : 0 ≤ fnd L nm) : restE L nm = 0 := by
  unfold restE
  rw [if_neg (by simp; omega)]

/-! ### the walk -/
@[reducible] def stK1 (l m : List LOp) (k : Nat) : KL := [(1, vL uLO m), (5, vP 1001), (38, vL uLO l), (39, vI (l.length : Nat)), (40, vI (k : Nat))]
@[reducible] def stK2 (m : List LOp) (ns : List (List UInt8)) (r k : Nat) : KL := [(1, vL uLO m), (5, vP 1001), (8, vOwn r), (9, vL .str ns), (55, vL .str ns), (56, vI (ns.length : Nat)), (57, vI (k : Nat))]
@[reducible] def stB2 (L : List Bup) (r : Nat) (l : List (List UInt8)) : BL := (r, .row 9 .str l) :: lstR 1002 L
@[reducible] def stK3 (m : List LOp) (ns was : List (List UInt8)) (k : Nat) : KL := [(5, vP 1001), (8, vL .str was), (9, vL .str ns), (73, vL uLO m), (74, vI (m.length : Nat)), (75, vI (k : Nat))]
@[reducible] def stK4 (ns was : List (List UInt8)) (k : Nat) : KL := [(5, vP 1001), (8, vL .str was), (88, vL .str ns), (89, vI (ns.length : Nat)), (90, vI (k : Nat))]
set_option maxHeartbeats 4000000 in
theorem stays_spec (l m : List LOp) (hl : l.length ≤ 1000000) (hc : costs l ≤ 1000000000) (hks : ∀ o, o ∈ l → (fKs (oF o)).length ≤ 1000000) (hm : m.length ≤ 1000000) (hcm : costs m ≤ 1000000000) (hkm : ∀ o, o ∈ m → (fKs (oF o)).length ≤ 1000000) :
    Fn Try.prog 5 [vL uLO l, vL uLO m] [] [] (vB true) [] := by
  refine Fn.of tblOK [] _ _ _ _ _ Try.func5 rfl rfl (by kernel_rfl) (by kernel_rfl) rfl (drawOK tblOK) rfl ?_
  refine ⟨_, _, _, _, new_spec, trivial, rfl, ?_⟩
  refine ⟨_, _, _, _, few_spec l hl hc hks, trivial, rfl, ?_⟩
  refine ⟨fun h => ?_, fun h1 => ?_⟩
  · refine ⟨_, _, _, _, alive_spec, trivial, rfl, ?_⟩
    exact ⟨_, _, _, Le.refl _ _, rfl, rfl, trivial, rfl⟩
  refine ⟨_, _, _, _, few_spec m hm hcm hkm, trivial, rfl, ?_⟩
  refine ⟨fun h => ?_, fun h2 => ?_⟩
  · refine ⟨_, _, _, _, alive_spec, trivial, rfl, ?_⟩
    exact ⟨_, _, _, Le.refl _ _, rfl, rfl, trivial, rfl⟩
  have hf1 : fewL l = true := by simpa using h1
  have hf2 : fewL m = true := by simpa using h2
  have hc1 : costs l ≤ 4000 := by
    unfold fewL at hf1
    simp only [Bool.and_eq_true, decide_eq_true_eq] at hf1
    exact hf1.2
  have hc2 : costs m ≤ 4000 := by
    unfold fewL at hf2
    simp only [Bool.and_eq_true, decide_eq_true_eq] at hf2
    exact hf2.2
  show TrQ _ _ _ _ _ _ _
  refine TrQ.loop tblOK (drawOK tblOK) [] (by kernel_rfl) (X := Nat) (stK1 l m) (fun k => lstR 1002 (addAll (l.take k))) (fun k => k ≤ l.length) (fun k => l.length - k) 0 (Nat.zero_le _) ?_ ?_
  · exact Le.sub ⟨rfl, rfl, rfl, rfl, rfl, trivial⟩ ⟨rfl, rfl, trivial⟩
  intro k hk
  refine ⟨fun h => ?_, fun h => ?_⟩
  · have hk1 : k < l.length := by simpa using h
    obtain ⟨s1, s2, s3⟩ := cost_small (List.getElem_mem hk1) hc1
    have hI := addAll_inv (l.take k)
    have hs := addAll_step hk1
    refine ⟨by omega, l[k], lget_at rfl hk1, rfl, ?_⟩
    generalize l[k] = o at *
    refine ⟨fun h => ?_, fun h => ?_⟩
    · refine ⟨_, _, _, _, own_spec (bO o) (by omega) (fun p hp => by have := s3 p hp; omega), trivial, rfl, ?_⟩
      refine ⟨_, _, _, _, add_spec (addAll (l.take k)) (ownOf (bO o)) (by have := hI.len; omega) (Nat.le_trans s1 (by decide)) (by
        show ((rPc (bO o)).map pieOf).length ≤ 1000000
        rw [List.length_map]; omega) (fun p hp => by
        obtain ⟨q, hq, rfl⟩ := List.mem_map.1 hp
        exact Nat.le_trans (s3 q hq) (by decide)), ⟨rfl, rfl, trivial⟩, rfl, ?_⟩
      refine ⟨by omega, k + 1, hk1, by omega, ?_⟩
      rw [hs, show addOp (addAll (l.take k)) o = addL (addAll (l.take k)) (ownOf (bO o)) by unfold addOp; rw [if_pos h]]
      exact Le.trans (Le.sub (K' := stK1 l m (k + 1)) (B' := lstR 1003 (addL (addAll (l.take k)) (ownOf (bO o)))) ⟨rfl, rfl, rfl, rfl, rfl, trivial⟩ ⟨rfl, rfl, trivial⟩) (Le.ren 1003 1002 rfl)
    · refine ⟨by omega, k + 1, hk1, by omega, ?_⟩
      rw [hs, show addOp (addAll (l.take k)) o = addAll (l.take k) by unfold addOp; rw [if_neg (by rw [h]; simp)]]
      exact Le.sub ⟨rfl, rfl, rfl, rfl, rfl, trivial⟩ ⟨rfl, rfl, trivial⟩
  have hk1 : k = l.length := by have : ¬ k < l.length := by simpa using h
                                omega
  subst hk1
  rw [List.take_length]
  have hI := addAll_inv l
  generalize addAll l = L at *
  have hlen := hI.len
  have hN : ∀ ns : List (List UInt8), ns = L.map bNm → Fn Try.prog 26 [vP 1001] (lstB L) [] (vL .str ns) (lstB L) := fun ns h => by
    rw [h]; exact names_spec L (by omega)
  have hN := hN (L.map bNm) rfl
  have hns : ∀ nm, nm ∈ L.map bNm → 0 ≤ fnd L nm := fun nm h => by
    obtain ⟨b, hb, rfl⟩ := List.mem_map.1 h
    exact fnd_mem hb
  have hnl : (L.map bNm).length ≤ 64 := by rw [List.length_map]; exact hlen
  generalize L.map bNm = ns at *
  refine ⟨_, _, _, _, hN, ⟨rfl, rfl, trivial⟩, rfl, ?_⟩
  show TrQ _ _ _ _ _ _ _
  refine TrQ.loop tblOK (drawOK tblOK) [] (by kernel_rfl) (X := Nat) (stK2 m ns 2002) (fun k => stB2 L 2002 ((ns.take k).map (restL L))) (fun k => k ≤ ns.length) (fun k => ns.length - k) 0 (Nat.zero_le _) ?_ ?_
  · exact Le.trans (Le.nil 8 2002 9 .str rfl rfl) (Le.sub ⟨rfl, rfl, rfl, rfl, rfl, rfl, rfl, trivial⟩ ⟨rfl, rfl, rfl, trivial⟩)
  intro k hk
  refine ⟨fun h => ?_, fun h => ?_⟩
  · have hk1 : k < ns.length := by simpa using h
    refine ⟨by omega, ns[k], lget_at rfl hk1, ?_⟩
    refine ⟨_, _, _, _, restore_spec hI ns[k], ⟨rfl, rfl, trivial⟩, rfl, ?_⟩
    refine ⟨?_, rfl, ?_⟩
    · show ((ns.take k).map (restL L)).length + 1 ≤ 4294967296
      rw [List.length_map, List.length_take]; omega
    refine ⟨by omega, k + 1, hk1, by omega, ?_⟩
    exact Le.trans (Le.sub (K' := stK2 m ns 71 (k + 1)) (B' := stB2 L 71 ((ns.take (k + 1)).map (restL L))) ⟨rfl, rfl, rfl, rfl, rfl, rfl, rfl, trivial⟩ ⟨congrArg (fun l => some (Ch.row _ .str l)) (map_take_step (restL L) hk1), rfl, rfl, trivial⟩) (Le.ren 71 2002 rfl)
  have hk1 : k = ns.length := by have : ¬ k < ns.length := by simpa using h
                                 omega
  subst hk1
  rw [List.take_length]
  generalize hwas : ns.map (restL L) = was at *
  have hwl : was.length = ns.length := by rw [← hwas, List.length_map]
  show TrQ _ _ _ _ _ _ _
  refine TrQ.loop tblOK (drawOK tblOK) [] (by kernel_rfl) (X := Nat) (stK3 m ns was) (fun k => lstR 1002 ((m.take k).foldl addOp L)) (fun k => k ≤ m.length) (fun k => m.length - k) 0 (Nat.zero_le _) ?_ ?_
  · exact Le.trans (Le.frz 2002 rfl) (Le.sub ⟨rfl, rfl, rfl, rfl, rfl, rfl, trivial⟩ ⟨rfl, rfl, trivial⟩)
  intro k hk
  refine ⟨fun h => ?_, fun h => ?_⟩
  · have hk1 : k < m.length := by simpa using h
    obtain ⟨s1, s2, s3⟩ := cost_small (List.getElem_mem hk1) hc2
    have hI := foldl_addOp_inv (m.take k) L hI
    have hs := foldl_step addOp L hk1
    generalize List.foldl addOp L (m.take k) = L' at *
    refine ⟨by omega, m[k], lget_at rfl hk1, rfl, ?_⟩
    generalize m[k] = o at *
    refine ⟨fun h => ?_, fun h => ?_⟩
    · refine ⟨_, _, _, _, own_spec (bO o) (by omega) (fun p hp => by have := s3 p hp; omega), trivial, rfl, ?_⟩
      refine ⟨_, _, _, _, add_spec L' (ownOf (bO o)) (by have := hI.len; omega) (Nat.le_trans s1 (by decide)) (by
        show ((rPc (bO o)).map pieOf).length ≤ 1000000
        rw [List.length_map]; omega) (fun p hp => by
        obtain ⟨q, hq, rfl⟩ := List.mem_map.1 hp
        exact Nat.le_trans (s3 q hq) (by decide)), ⟨rfl, rfl, trivial⟩, rfl, ?_⟩
      refine ⟨by omega, k + 1, hk1, by omega, ?_⟩
      rw [hs, show addOp L' o = addL L' (ownOf (bO o)) by unfold addOp; rw [if_pos h]]
      exact Le.trans (Le.sub (K' := stK3 m ns was (k + 1)) (B' := lstR 1003 (addL L' (ownOf (bO o)))) ⟨rfl, rfl, rfl, rfl, rfl, rfl, trivial⟩ ⟨rfl, rfl, trivial⟩) (Le.ren 1003 1002 rfl)
    · refine ⟨by omega, k + 1, hk1, by omega, ?_⟩
      rw [hs, show addOp L' o = L' by unfold addOp; rw [if_neg (by rw [h]; simp)]]
      exact Le.sub ⟨rfl, rfl, rfl, rfl, rfl, rfl, trivial⟩ ⟨rfl, rfl, trivial⟩
  have hk1 : k = m.length := by have : ¬ k < m.length := by simpa using h
                                omega
  subst hk1
  rw [List.take_length]
  have hst : ∀ nm, nm ∈ ns → restL (m.foldl addOp L) nm = restL L nm ∧ restE (m.foldl addOp L) nm = 0 := fun nm h => by
    obtain ⟨q1, q2, q3⟩ := stays_all nm m L hI (hns nm h)
    exact ⟨q2, q3.trans (restE_there (hns nm h))⟩
  have hI3 := foldl_addOp_inv m L hI
  generalize m.foldl addOp L = L' at *
  show TrQ _ _ _ _ _ _ _
  refine TrQ.loop tblOK (drawOK tblOK) [] (by kernel_rfl) (X := Nat) (stK4 ns was) (fun k => lstR 1002 L') (fun k => k ≤ ns.length) (fun k => ns.length - k) 0 (Nat.zero_le _) ?_ ?_
  · exact Le.sub ⟨rfl, rfl, rfl, rfl, rfl, trivial⟩ ⟨rfl, rfl, trivial⟩
  intro k hk
  refine ⟨fun h => ?_, fun h => ?_⟩
  · have hk1 : k < ns.length := by simpa using h
    have hR := restore_spec hI3 ns[k]
    obtain ⟨w1, w2⟩ := hst _ (List.getElem_mem hk1)
    have hw : lget was k = some (restL L ns[k]) := by
      rw [← hwas]
      unfold lget
      rw [List.getElem?_map, List.getElem?_eq_getElem hk1]
      rfl
    rw [w1, w2] at hR
    generalize restL L ns[k] = x at *
    refine ⟨by omega, ns[k], lget_at rfl hk1, ?_⟩
    refine ⟨_, _, _, _, hR, ⟨rfl, rfl, trivial⟩, rfl, ?_⟩
    refine ⟨fun h => absurd h (by decide), fun h => ?_⟩
    refine ⟨by omega, x, hw, ?_⟩
    refine ⟨rfl, fun h => ?_, fun h => ?_⟩
    · exact absurd h (by simp)
    refine ⟨by omega, k + 1, hk1, by omega, ?_⟩
    exact Le.sub ⟨rfl, rfl, rfl, rfl, rfl, trivial⟩ ⟨rfl, rfl, trivial⟩
  refine ⟨_, _, _, _, alive_spec, trivial, rfl, ?_⟩
  exact ⟨_, _, _, Le.refl _ _, rfl, rfl, trivial, rfl⟩
end Go.Proofs.Ythghcdddambaeaa
