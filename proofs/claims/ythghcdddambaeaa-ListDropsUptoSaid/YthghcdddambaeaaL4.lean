/-
  Restore.
-/
import Derived.Test.YthghcdddambaeaaL3
set_option linter.unusedVariables false
set_option linter.unusedSimpArgs false
set_option maxRecDepth 10000
namespace Go.Proofs.Ythghcdddambaeaa
open Go.RowKit Go.Proofs

theorem okP_mem (size n : Int) : ∀ (l : List Pie) (last : Int), okP size n last l = true → ∀ p, p ∈ l → last < pC p ∧ pC p < size ∧ ((pB p).length : Int) = n
  | [], _, _, p, hp => by cases hp
  | q :: l, last, h, p, hp => by
    simp only [okP, Bool.and_eq_true, Bool.not_eq_true', Bool.or_eq_false_iff, decide_eq_false_iff_not, Bool.not_eq_false', decide_eq_true_eq] at h
    obtain ⟨⟨⟨h1, h2⟩, h3⟩, h4⟩ := h
    rcases List.mem_cons.1 hp with rfl | hp
    · exact ⟨by omega, by omega, h3⟩
    · have := okP_mem size n l (pC q) h4 p hp
      exact ⟨by omega, this.2.1, this.2.2⟩
/-- A piece is laid over. -/
def layP (cl : Int) (acc : List UInt8) (p : Pie) : List UInt8 := laid acc (pC p * cl).toNat (acc.length - (pC p * cl).toNat) (pB p)
/-- The disk of a backup, over the one below. -/
def diskB (b : Bup) (below : List UInt8) : List UInt8 :=
  let z := List.replicate (bSz b * clB (bBits b)).toNat (0 : UInt8)
  (bPc b).foldl (layP (clB (bBits b))) (if decide (bPa b = []) = true then z else laid z 0 z.length below)
def lgetI (L : List Bup) (i : Int) : Option Bup := if 0 ≤ i then lget L i.toNat else none
/-- What is restored of a name, if of the parent's is restored what 'pr' says. -/
def restS (L : List Bup) (nm : List UInt8) (pr : List UInt8 → List UInt8) : List UInt8 := match lgetI L (fnd L nm) with
  | none => []
  | some b => diskB b (pr (bPa b))
def restE (L : List Bup) (nm : List UInt8) : Int := if decide (fnd L nm < 0) = true then 181 else 0
def vRest (out : List UInt8) (e : Int) : SV := .tup [.one (.d (.lst .u8 out)), .one (.d (.int .i64 e))]
theorem layP_length {size cl : Int} {b : List UInt8} {p : Pie} (h0 : 0 ≤ cl) (h1 : 0 ≤ pC p) (h2 : pC p < size) (hb : b.length = (size * cl).toNat) : (pC p * cl).toNat ≤ b.length ∧ (layP cl b p).length = b.length := by
  have : pC p * cl ≤ size * cl := Int.mul_le_mul_of_nonneg_right (by omega) h0
  have h3 : (pC p * cl).toNat ≤ b.length := by omega
  exact ⟨h3, laid_length _ _ (by omega)⟩
theorem layN_length {size cl : Int} (h0 : 0 ≤ cl) : ∀ (l : List Pie) (acc : List UInt8), (∀ p, p ∈ l → 0 ≤ pC p ∧ pC p < size) → acc.length = (size * cl).toNat → (l.foldl (layP cl) acc).length = (size * cl).toNat
  | [], acc, _, ha => ha
  | p :: l, acc, hp, ha => layN_length h0 l (layP cl acc p) (fun q hq => hp q (List.mem_cons_of_mem _ hq)) (by
      have := hp p List.mem_cons_self
      rw [(layP_length h0 this.1 this.2 ha).2, ha])
theorem foldl_step {α β : Type} (f : β → α → β) (x : β) {l : List α} {k : Nat} (h : k < l.length) : (l.take (k + 1)).foldl f x = f ((l.take k).foldl f x) l[k] := by
  rw [← take_step h, List.foldl_append]
  rfl
/-- Restore's loop. -/
@[reducible] def resK (b : Bup) (k : Nat) : KL := [(7, vP 7), (8, vOwn 30), (45, vL uP (bPc b)), (46, vI ((bPc b).length : Nat)), (47, vI (k : Nat))]
@[reducible] def resB (L : List Bup) (b : Bup) (x : List UInt8) : BL := [(30, .row 5 .u8 x), (7, .cells (bkL b)), (1001, .cells [.own 1002]), (1002, .row 43 uB L)]
set_option maxHeartbeats 1000000 in
theorem restore_step (L : List Bup) (nm : List UInt8) (hL : L.length ≤ 1000000) (hr : ∀ b, b ∈ L → rightB b = true ∧ (bPc b).length ≤ 1000000) (pr : List UInt8 → List UInt8)
    (ih : ∀ b, lgetI L (fnd L nm) = some b → (!decide (bPa b = [])) = true → Fn Try.prog 21 [vP 1001, vS (bPa b)] (lstB L) [] (vRest (pr (bPa b)) (restE L (bPa b))) (lstB L)) :
    Fn Try.prog 21 [vP 1001, vS nm] (lstB L) [] (vRest (restS L nm pr) (restE L nm)) (lstB L) := by
  refine Fn.of tblOK [] _ _ _ _ _ Try.func21 rfl rfl (by kernel_rfl) (by kernel_rfl) rfl (drawOK tblOK) rfl ?_
  refine ⟨_, _, _, _, find_spec nm L (by omega), ⟨rfl, rfl, trivial⟩, rfl, ?_⟩
  refine ⟨fun h => ?_, fun h => ?_⟩
  · have h1 : ¬ 0 ≤ fnd L nm := by simp only [decide_eq_true_eq] at h; omega
    exact ⟨_, _, _, Le.refl _ _, rfl, ⟨(show restS L nm pr = [] by unfold restS lgetI; rw [if_neg h1]), (show (181 : Int) = restE L nm by unfold restE; rw [if_pos h]), trivial⟩, ⟨rfl, rfl, trivial⟩, rfl⟩
  have hf : ¬ fnd L nm < 0 := by simpa using h
  have hk : ∃ k : Nat, ∃ hk : k < L.length, fnd L nm = (k : Nat) := by
    rcases ixL_cases (fun x => decide (bNm x = nm)) L with ⟨h, _⟩ | ⟨k, x, h, hx, _⟩
    · exact absurd (show fnd L nm < 0 by unfold fnd; omega) hf
    · exact ⟨k, (List.getElem?_eq_some_iff.1 hx).1, h⟩
  obtain ⟨k, hk, hfk⟩ := hk
  have hg : lgetI L (fnd L nm) = some L[k] := by unfold lgetI; rw [if_pos (by omega)]; exact lget_at hfk hk
  have hE : restE L nm = 0 := by unfold restE; rw [if_neg (by rw [h]; simp)]
  have hS : restS L nm pr = diskB L[k] (pr (bPa L[k])) := by unfold restS; rw [hg]
  have ih := ih _ hg
  rw [hE, hS]
  refine ⟨⟨by omega, by omega⟩, L[k], lget_at hfk hk, ?_⟩
  obtain ⟨hrb, hpl⟩ := hr _ (List.getElem_mem hk)
  generalize hbk : L[k] = b at *
  obtain ⟨r1, r2, r3, r4⟩ := rightB_small hrb
  obtain ⟨c1, c2⟩ := clB_le r1 r2
  have hmul : 0 ≤ bSz b * clB (bBits b) ∧ bSz b * clB (bBits b) ≤ 32768 := ⟨Int.mul_nonneg (by omega) (by omega), by
    have : bSz b * clB (bBits b) ≤ 256 * 128 := Int.mul_le_mul r4 c2 (by omega) (by omega)
    omega⟩
  have hz : (List.replicate (bSz b * clB (bBits b)).toNat (0 : UInt8)).length = (bSz b * clB (bBits b)).toNat := List.length_replicate
  have hpm : ∀ p, p ∈ bPc b → 0 ≤ pC p ∧ pC p < bSz b := fun p hp => by
    have hrb := hrb
    simp only [rightB, Bool.and_eq_true] at hrb
    have := okP_mem _ _ _ _ hrb.1.2 p hp
    omega
  refine ⟨rfl, ?_⟩
  refine ⟨_, _, _, _, bytes_spec b r1 r2, trivial, rfl, ?_⟩
  have hmulA : -9223372036854775808 ≤ bSz b * clB (bBits b) ∧ bSz b * clB (bBits b) ≤ 9223372036854775807 := by omega
  have hmulB : bSz b * clB (bBits b) ≤ 4294967296 := by omega
  refine ⟨hmulA, ⟨rfl, hmul.1, hmulB⟩, rfl, rfl, ?_⟩
  refine ⟨fun h4 => ?a, fun h4 => ?b⟩
  case' a =>
    refine ⟨_, _, _, _, ih h4, ⟨rfl, rfl, trivial⟩, rfl, ?_⟩
    refine ⟨by omega, ?_⟩
    have hb : ∃ y, diskB b (pr (bPa b)) = (bPc b).foldl (layP (clB (bBits b))) y ∧ y = laid (List.replicate (bSz b * clB (bBits b)).toNat (0 : UInt8)) 0 (List.replicate (bSz b * clB (bBits b)).toNat (0 : UInt8)).length (pr (bPa b)) ∧ y.length = (bSz b * clB (bBits b)).toNat := ⟨_, by
      unfold diskB
      simp only
      rw [show decide (bPa b = []) = false by simpa using h4]
      rfl, rfl, (laid_length _ _ (by omega)).trans hz⟩
    obtain ⟨y, hd, hy, hyl⟩ := hb
  case' b =>
    have hb : ∃ y, diskB b (pr (bPa b)) = (bPc b).foldl (layP (clB (bBits b))) y ∧ y = (List.replicate (bSz b * clB (bBits b)).toNat (0 : UInt8)) ∧ y.length = (bSz b * clB (bBits b)).toNat := ⟨_, by
      unfold diskB
      simp only
      rw [show decide (bPa b = []) = true by simpa using h4]
      rfl, rfl, hz⟩
    obtain ⟨y, hd, hy, hyl⟩ := hb
  all_goals
    rw [hd]
    show TrQ _ _ _ _ _ _ _
    refine TrQ.loop tblOK (drawOK tblOK) [] (by kernel_rfl) (X := Nat) (resK b) (fun k => resB L b (((bPc b).take k).foldl (layP (clB (bBits b))) y)) (fun k => k ≤ (bPc b).length) (fun k => (bPc b).length - k) 0 (Nat.zero_le _) ?_ ?_
    · exact Le.sub ⟨rfl, rfl, rfl, rfl, rfl, trivial⟩ ⟨congrArg (fun l => some (Ch.row _ .u8 l)) hy.symm, rfl, rfl, rfl, trivial⟩
    intro j hj
    refine ⟨fun h => ?_, fun h => ?_⟩
    · have hj1 : j < (bPc b).length := by simpa using h
      have hpj := hpm _ (List.getElem_mem hj1)
      have hacc : (((bPc b).take j).foldl (layP (clB (bBits b))) y).length = (bSz b * clB (bBits b)).toNat := layN_length (by omega) _ _ (fun p hp => hpm p (List.mem_of_mem_take hp)) (by omega)
      obtain ⟨q1, q2⟩ := layP_length (by omega) hpj.1 hpj.2 hacc
      have hq0 : 0 ≤ pC (bPc b)[j] * clB (bBits b) := Int.mul_nonneg hpj.1 (by omega)
      have hqA : -9223372036854775808 ≤ pC (bPc b)[j] * clB (bBits b) ∧ pC (bPc b)[j] * clB (bBits b) ≤ 9223372036854775807 := by omega
      refine ⟨by omega, (bPc b)[j], lget_at rfl hj1, rfl, ?_⟩
      refine ⟨_, _, _, _, bytes_spec b r1 r2, trivial, rfl, ?_⟩
      refine ⟨hqA, ⟨hq0, ?_⟩, ?_⟩
      · show pC (bPc b)[j] * clB (bBits b) ≤ ((((bPc b).take j).foldl (layP (clB (bBits b))) y).length : Int)
        omega
      refine ⟨?_, rfl, ?_⟩
      · show (pC (bPc b)[j] * clB (bBits b)).toNat + ((((bPc b).take j).foldl (layP (clB (bBits b))) y).length - (pC (bPc b)[j] * clB (bBits b)).toNat) ≤ (((bPc b).take j).foldl (layP (clB (bBits b))) y).length
        omega
      · refine ⟨by omega, j + 1, hj1, by omega, ?_⟩
        exact Le.sub ⟨rfl, rfl, rfl, rfl, rfl, trivial⟩ ⟨congrArg (fun l => some (Ch.row _ .u8 l)) (foldl_step (layP (clB (bBits b))) y hj1).symm, rfl, rfl, rfl, trivial⟩
    · have hj1 : j = (bPc b).length := by have : ¬ j < (bPc b).length := by simpa using h
                                          omega
      subst hj1
      exact ⟨_, _, _, Le.trans (Le.frz 30 rfl) (Le.refl _ _), rfl, ⟨(show ((bPc b).take (bPc b).length).foldl (layP (clB (bBits b))) y = (bPc b).foldl (layP (clB (bBits b))) y by rw [List.take_length]), rfl, trivial⟩, ⟨rfl, rfl, trivial⟩, rfl⟩
def restB (L : List Bup) : Nat → List UInt8 → List UInt8
  | 0, _ => []
  | n + 1, nm => restS L nm (restB L n)
/-- What a list always is: who may not be is not there; parents come first. -/
structure InvL (L : List Bup) : Prop where
  len : L.length ≤ 64
  right : ∀ b, b ∈ L → rightB b = true
  par : ∀ (k : Nat) b, L[k]? = some b → decide (bPa b = []) = false → 0 ≤ fnd L (bPa b) ∧ fnd L (bPa b) < k
theorem right_few {b : Bup} (h : rightB b = true) : (bPc b).length ≤ 256 := by
  have h2 := rightB_small h
  simp only [rightB, Bool.and_eq_true] at h
  have key : ∀ (l : List Pie) (last : Int), okP (bSz b) (clB (bBits b)) last l = true → (l.length : Int) ≤ max 0 (bSz b - 1 - last) := by
    intro l
    induction l with
    | nil => intro last _; simp only [List.length_nil]; omega
    | cons p l ih =>
      intro last h
      simp only [okP, Bool.and_eq_true, Bool.not_eq_true', Bool.or_eq_false_iff, decide_eq_false_iff_not] at h
      have := ih _ h.2
      simp only [List.length_cons]
      omega
  have := key _ _ h.1.2
  omega
theorem fnd_lt (L : List Bup) (nm : List UInt8) : fnd L nm < L.length := by
  rcases ixL_cases (fun x => decide (bNm x = nm)) L with ⟨h, _⟩ | ⟨k, x, h, hx, _⟩
  · unfold fnd; omega
  · have := (List.getElem?_eq_some_iff.1 hx).1
    unfold fnd; omega
theorem lgetI_some {L : List Bup} {i : Int} {b : Bup} (h : lgetI L i = some b) : ∃ k : Nat, i = k ∧ L[k]? = some b := by
  unfold lgetI at h
  split at h
  · exact ⟨i.toNat, by omega, h⟩
  · cases h
theorem restore_fuel {L : List Bup} (hI : InvL L) : ∀ (n : Nat) (nm : List UInt8), fnd L nm < n → Fn Try.prog 21 [vP 1001, vS nm] (lstB L) [] (vRest (restB L n nm) (restE L nm)) (lstB L) := by
  have hL : L.length ≤ 1000000 := by have := hI.len; omega
  have hr : ∀ b, b ∈ L → rightB b = true ∧ (bPc b).length ≤ 1000000 := fun b hb => ⟨hI.right b hb, by have := right_few (hI.right b hb); omega⟩
  intro n
  induction n with
  | zero =>
    intro nm h
    have h0 : lgetI L (fnd L nm) = none := by unfold lgetI; rw [if_neg (by omega)]
    have := restore_step L nm hL hr (fun _ => []) (fun b hb => by rw [h0] at hb; cases hb)
    rw [show restS L nm (fun _ => []) = [] by unfold restS; rw [h0]] at this
    exact this
  | succ n ih =>
    intro nm h
    exact restore_step L nm hL hr (restB L n) (fun b hb hp => ih (bPa b) (by
      obtain ⟨k, hk, hb⟩ := lgetI_some hb
      have := (hI.par k b hb (by simpa using hp)).2
      omega))
/-- What is restored of a name. -/
def restL (L : List Bup) (nm : List UInt8) : List UInt8 := restB L (L.length + 1) nm
theorem restore_spec {L : List Bup} (hI : InvL L) (nm : List UInt8) : Fn Try.prog 21 [vP 1001, vS nm] (lstB L) [] (vRest (restL L nm) (restE L nm)) (lstB L) :=
  restore_fuel hI _ nm (by have := fnd_lt L nm; omega)
end Go.Proofs.Ythghcdddambaeaa
