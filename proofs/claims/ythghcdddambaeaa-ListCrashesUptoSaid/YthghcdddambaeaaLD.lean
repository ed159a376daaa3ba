/-
  The document's list: many, right, Find, Add.
-/
import Derived.Test.YthghcdddambaeaaLC
set_option linter.unusedVariables false
set_option linter.unusedSimpArgs false
set_option maxRecDepth 10000
namespace Go.Proofs.Ythghcdddambaeaa
open Go.RowKit Go.Proofs

theorem many_spec (bi : Int) (h0 : 0 ≤ bi) (h1 : bi ≤ 3) : Fn Try.prog 65 [vI bi] [] [] (vI (clB bi)) [] := by
  refine Fn.of tblOK [] _ _ _ _ _ Try.func65 rfl rfl (by kernel_rfl) (by kernel_rfl) rfl (drawOK tblOK) rfl ?_
  show TrQ _ _ _ _ _ _ _
  refine TrQ.loop tblOK (drawOK tblOK) [] (by kernel_rfl) (X := Nat) (fun i => [(0, vI bi), (3, vI (16 * ((2 ^ i : Nat) : Int))), (4, vI (i : Nat))]) (fun _ => []) (fun i => (i : Int) ≤ bi) (fun i => 3 - i) 0 h0 ?_ ?_
  · exact Le.sub ⟨rfl, rfl, rfl, trivial⟩ trivial
  intro i hi
  refine ⟨fun h => ?_, fun h => ?_⟩
  · have hi1 : (i : Int) < bi := of_decide_eq_true h
    have hp : 1 ≤ ((2 ^ i : Nat) : Int) ∧ ((2 ^ i : Nat) : Int) ≤ 4 := by
      have : i = 0 ∨ i = 1 ∨ i = 2 := by omega
      rcases this with rfl | rfl | rfl <;> decide
    have h2 : 2 ^ (i + 1) = 2 ^ i + 2 ^ i := by rw [Nat.pow_succ]; omega
    refine ⟨by omega, by omega, i + 1, hi1, by omega, ?_⟩
    refine Le.sub ⟨rfl, ?_, rfl, trivial⟩ trivial
    show (_ : Int) = _
    rw [h2]
    omega
  · have hi1 : ¬ (i : Int) < bi := of_decide_eq_false h
    have : i = bi.toNat := by omega
    subst this
    exact ⟨_, _, _, Le.refl _ _, rfl, rfl, trivial, rfl⟩

def signsL : List UInt8 := [97, 98, 99, 100, 101, 102, 103, 104, 105, 106, 107, 108, 109, 110, 111, 112, 113, 114, 115, 116, 117, 118, 119, 120, 121, 122, 48, 49, 50, 51, 52, 53, 54, 55, 56, 57, 46, 45]
theorem sign_any (c : UInt8) : signB c = signsL.any (fun x => decide (x = c)) := by
  have h : ∀ n : Fin 256, signB (UInt8.ofNat n.val) = signsL.any (fun x => decide (x = UInt8.ofNat n.val)) := by decide +kernel
  have := h ⟨c.toNat, c.toNat_lt⟩
  simpa using this
theorem any_take {α : Type} (p : α → Bool) {l : List α} {k : Nat} (h : k < l.length) : (l.take (k + 1)).any p = ((l.take k).any p || p l[k]) := by
  rw [← take_step h, List.any_append]
  simp
theorem all_take {α : Type} (p : α → Bool) {l : List α} {k : Nat} (h : k < l.length) : (l.take (k + 1)).all p = ((l.take k).all p && p l[k]) := by
  rw [← take_step h, List.all_append]
  simp
theorem nameOK_bad {s : List UInt8} {i : Nat} (hi : i < s.length) (h : signB s[i] = false) : nameOK s = false := by
  unfold nameOK
  rw [show s.all signB = false by
    rw [List.all_eq_false]
    exact ⟨s[i], List.getElem_mem hi, by simp [h]⟩]
  simp
set_option maxHeartbeats 1000000 in
theorem right04_spec (s : List UInt8) (hs : s.length ≤ 4294967296) : Fn Try.prog 35 [vS s] [] [] (vB (nameOK s)) [] := by
  have hsl : signsL.length = 38 := rfl
  refine Fn.of tblOK [] _ _ _ _ _ Try.func35 rfl rfl (by kernel_rfl) (by kernel_rfl) rfl (drawOK tblOK) rfl ?_
  show TrQ _ _ _ _ _ _ _
  refine TrQ.loop tblOK (drawOK tblOK) [] (by kernel_rfl) (X := Nat) (fun i => [(0, vS s), (3, vS signsL), (4, vI (i : Nat))]) (fun _ => []) (fun i => i ≤ s.length ∧ (s.take i).all signB = true) (fun i => s.length - i) 0 ⟨Nat.zero_le _, rfl⟩ ?_ ?_
  · exact Le.sub ⟨rfl, rfl, rfl, trivial⟩ trivial
  rintro i ⟨hi, ha⟩
  refine ⟨fun h => ?_, fun h => ?_⟩
  · have hi1 : i < s.length := by simpa using h
    show TrQ _ _ _ _ _ _ _
    refine TrQ.loop tblOK (drawOK tblOK) [] (by kernel_rfl) (X := Nat) (fun k => [(0, vS s), (3, vS signsL), (4, vI (i : Nat)), (5, vB ((signsL.take k).any fun x => decide (x = s[i]))), (6, vI (k : Nat))]) (fun _ => []) (fun k => k ≤ signsL.length) (fun k => signsL.length - k) 0 (Nat.zero_le _) ?_ ?_
    · exact Le.sub ⟨rfl, rfl, rfl, rfl, rfl, trivial⟩ trivial
    intro k hk
    refine ⟨fun h => ?_, fun h => ?_⟩
    · have hk1 : k < signsL.length := by
        have h : (k : Int) < (signsL.length : Int) := of_decide_eq_true h
        omega
      refine ⟨by omega, signsL[k], lget_at rfl hk1, by omega, s[i], lget_at rfl hi1, ?_⟩
      have ht := any_take (fun x => decide (x = s[i])) hk1
      refine ⟨rfl, fun h => ?_, fun h => ?_⟩
      · refine ⟨by omega, k + 1, hk1, by omega, ?_⟩
        rw [ht, show decide (signsL[k] = s[i]) = true from decide_eq_true (UInt8.toNat_inj.1 (Int.ofNat.inj (of_decide_eq_true h)))]
        refine Le.sub ⟨rfl, rfl, rfl, ?_, rfl, trivial⟩ trivial
        show true = _
        simp
      · refine ⟨by omega, k + 1, hk1, by omega, ?_⟩
        rw [ht, show decide (signsL[k] = s[i]) = false from decide_eq_false (fun e => of_decide_eq_false h (by rw [e]))]
        refine Le.sub ⟨rfl, rfl, rfl, ?_, rfl, trivial⟩ trivial
        show (_ : Bool) = _
        simp
    · have hk1 : k = signsL.length := by
        have h : ¬ (k : Int) < (signsL.length : Int) := of_decide_eq_false h
        omega
      subst hk1
      rw [List.take_length, ← sign_any]
      refine ⟨fun h => ?_, fun h => ?_⟩
      · have h : (!signB s[i]) = true := h
        exact ⟨_, _, _, Le.refl _ _, rfl, (nameOK_bad hi1 (by simpa using h)).symm, trivial, rfl⟩
      · have h : (!signB s[i]) = false := h
        refine ⟨by omega, i + 1, ⟨hi1, by rw [all_take signB hi1, ha]; simpa using h⟩, by omega, ?_⟩
        exact Le.sub ⟨rfl, rfl, rfl, trivial⟩ trivial
  · have hi1 : i = s.length := by have : ¬ i < s.length := by simpa using h
                                  omega
    subst hi1
    rw [List.take_length] at ha
    have hr : nameOK s = (decide (1 ≤ s.length) && decide (s.length ≤ 15)) := by unfold nameOK; rw [ha]; simp
    rw [hr]
    refine ⟨fun h => ?_, fun h => ?_⟩
    · have h : 0 < (s.length : Int) := of_decide_eq_true h
      refine ⟨_, _, _, Le.refl _ _, rfl, ?_, trivial, rfl⟩
      show decide ((s.length : Int) < 16) = _
      rw [Bool.eq_iff_iff]; simp; omega
    · have h : ¬ 0 < (s.length : Int) := of_decide_eq_false h
      refine ⟨_, _, _, Le.refl _ _, rfl, ?_, trivial, rfl⟩
      show false = _
      rw [Eq.comm]; simp; omega
end Go.Proofs.Ythghcdddambaeaa
/-
  The document's list: right, Find, Add.
-/
set_option linter.unusedVariables false
set_option linter.unusedSimpArgs false
set_option maxRecDepth 10000
namespace Go.Proofs.Ythghcdddambaeaa
open Go.RowKit Go.Proofs

def lastC (l : List RPie) : Nat → Int
  | 0 => -1
  | j + 1 => match lget l j with
    | some p => rC p
    | none => -1
theorem okP_stepR (size n last : Int) (l : List RPie) (k : Nat) (hk : k < l.length) :
    okP size n last ((l.map pieOf).drop k) = (!(decide (rC l[k] ≤ last) || decide (size ≤ rC l[k]) || !decide (((rB l[k]).length : Int) = n)) && okP size n (rC l[k]) ((l.map pieOf).drop (k + 1))) := by
  rw [okP_step size n last (l.map pieOf) k (by rw [List.length_map]; exact hk), List.getElem_map]
  rfl
set_option maxRecDepth 100000 in
set_option maxHeartbeats 2000000 in
theorem rightR_spec (b : RBup) (hn : (rNm b).length ≤ 4294967296) (hl : (rPc b).length ≤ 1000000) (hp : ∀ p, p ∈ rPc b → (rB p).length ≤ 4294967296) : Fn Try.prog 60 [rbV b] [] [] (vB (rightB (ownOf b))) [] := by
  have hr0 : rightB (ownOf b) = (nameOK (rNm b) && decide (0 ≤ rBits b) && decide (rBits b ≤ 3) && decide (0 ≤ rSz b) && decide (rSz b ≤ 256) && okP (rSz b) (clB (rBits b)) (-1) ((rPc b).map pieOf) && (!decide (rPa b = []) || decide (((rPc b).length : Int) = rSz b))) := by
    rw [← List.length_map (f := pieOf)]
    rfl
  refine Fn.of tblOK [] _ _ _ _ _ Try.func60 rfl rfl (by kernel_rfl) (by kernel_rfl) rfl (drawOK tblOK) rfl ?_
  refine ⟨rfl, ?_⟩
  refine ⟨_, _, _, _, right04_spec _ hn, trivial, rfl, ?_⟩
  refine ⟨fun h => ?_, fun h1 => ?_⟩
  · exact ⟨_, _, _, Le.refl _ _, rfl, (show false = rightB (ownOf b) by rw [hr0]; simp_all), trivial, rfl⟩
  refine ⟨fun h => ?_, fun h2 => ?_⟩
  · exact ⟨_, _, _, Le.refl _ _, rfl, (show false = rightB (ownOf b) by simp at h; rw [hr0]; simp; omega), trivial, rfl⟩
  refine ⟨fun h => ?_, fun h3 => ?_⟩
  · exact ⟨_, _, _, Le.refl _ _, rfl, (show false = rightB (ownOf b) by simp at h; rw [hr0]; simp; omega), trivial, rfl⟩
  refine ⟨fun h => ?_, fun h4 => ?_⟩
  · exact ⟨_, _, _, Le.refl _ _, rfl, (show false = rightB (ownOf b) by simp at h; rw [hr0]; simp; omega), trivial, rfl⟩
  refine ⟨fun h => ?_, fun h5 => ?_⟩
  · exact ⟨_, _, _, Le.refl _ _, rfl, (show false = rightB (ownOf b) by simp at h; rw [hr0]; simp; omega), trivial, rfl⟩
  have h1 : (!nameOK (rNm b)) = false := h1
  simp only [decide_eq_false_iff_not, Bool.not_eq_false'] at h1 h2 h3 h4 h5
  have hr : rightB (ownOf b) = (okP (rSz b) (clB (rBits b)) (-1) ((rPc b).map pieOf) && (!decide (rPa b = []) || decide (((rPc b).length : Int) = rSz b))) := by
    rw [hr0, h1, decide_eq_true (show 0 ≤ rBits b by omega), decide_eq_true (show rBits b ≤ 3 by omega), decide_eq_true (show 0 ≤ rSz b by omega), decide_eq_true (show rSz b ≤ 256 by omega)]
    simp
  show TrQ _ _ _ _ _ _ _
  refine TrQ.loop tblOK (drawOK tblOK) [] (by kernel_rfl) (X := Nat) (fun i => [(1, vP 1), (3, vI (i : Nat))]) (fun _ => [(1, .cells (rbL b))]) (fun i => i ≤ (rPc b).length ∧ -1 ≤ lastC (rPc b) i ∧ okP (rSz b) (clB (rBits b)) (-1) ((rPc b).map pieOf) = okP (rSz b) (clB (rBits b)) (lastC (rPc b) i) (((rPc b).map pieOf).drop i)) (fun i => (rPc b).length - i) 0 ⟨Nat.zero_le _, by simp [lastC], rfl⟩ ?_ ?_
  · exact Le.sub ⟨rfl, rfl, trivial⟩ ⟨rfl, trivial⟩
  rintro k ⟨hk, hla, hi⟩
  refine ⟨fun h => ?_, fun h => ?_⟩
  · have hk1 : k < (rPc b).length := by
      have h : (k : Int) < ((rPc b).length : Int) := of_decide_eq_true h
      omega
    rw [okP_stepR _ _ _ _ _ hk1] at hi
    have hpl := hp _ (List.getElem_mem hk1)
    have hg := lget_at (L := rPc b) (n := (k : Nat)) rfl hk1
    have hnext : lastC (rPc b) (k + 1) = rC (rPc b)[k] := by
      show (match lget (rPc b) k with | some p => rC p | none => -1) = _
      rw [show lget (rPc b) k = some (rPc b)[k] from hg]
    generalize hpk : (rPc b)[k] = p at *
    refine ⟨by omega, p, hg, rfl, ?_⟩
    refine ⟨fun h => ?_, fun h6 => ?_⟩
    · refine ⟨rfl, ?_⟩
      have h : rC p < 0 := of_decide_eq_true h
      exact ⟨_, _, _, Le.refl _ _, rfl, (show false = rightB (ownOf b) by rw [hr, hi, decide_eq_true (show rC p ≤ lastC (rPc b) k by omega)]; rfl), trivial, rfl⟩
    refine ⟨fun h => ?_, fun h7 => ?_⟩
    · refine ⟨rfl, ?_⟩
      exact ⟨_, _, _, Le.refl _ _, rfl, (show false = rightB (ownOf b) by rw [hr, hi, show decide (rSz b ≤ rC p) = true from h]; simp), trivial, rfl⟩
    refine ⟨_, _, _, _, many_spec (rBits b) (by omega) (by omega), trivial, rfl, ?_⟩
    refine ⟨fun h => ?_, fun h8 => ?_⟩
    · refine ⟨rfl, ?_⟩
      exact ⟨_, _, _, Le.refl _ _, rfl, (show false = rightB (ownOf b) by rw [hr, hi, show (!decide (((rB p).length : Int) = clB (rBits b))) = true from h]; simp), trivial, rfl⟩
    have h6 : ¬ rC p < 0 := of_decide_eq_false h6
    have h7 : decide (rSz b ≤ rC p) = false := h7
    have h8 : (!decide (((rB p).length : Int) = clB (rBits b))) = false := h8
    refine ⟨fun h => ?_, fun h9 => ?_⟩
    · have hk0 : 0 < (k : Int) := of_decide_eq_true h
      have hk2 : k - 1 < (rPc b).length := by omega
      have hla2 : lastC (rPc b) k = rC (rPc b)[k - 1] := by
        obtain ⟨j, rfl⟩ : ∃ j, k = j + 1 := ⟨k - 1, by omega⟩
        show (match lget (rPc b) j with | some p => rC p | none => -1) = _
        rw [show lget (rPc b) j = some (rPc b)[j] from List.getElem?_eq_getElem (by omega)]
        rfl
      refine ⟨by omega, by omega, (rPc b)[k - 1], lget_at (by omega) hk2, ?_⟩
      rw [hla2] at hi
      refine ⟨rfl, fun h => ?_, fun h => ?_⟩
      · exact ⟨_, _, _, Le.refl _ _, rfl, (show false = rightB (ownOf b) by rw [hr, hi, show decide (rC p ≤ rC (rPc b)[k - 1]) = true from h]; simp), trivial, rfl⟩
      · refine ⟨by omega, k + 1, ⟨hk1, by rw [hnext]; omega, ?_⟩, by omega, ?_⟩
        · rw [hi, hnext, show decide (rC p ≤ rC (rPc b)[k - 1]) = false from h, h7, h8]; rfl
        · exact Le.sub ⟨rfl, rfl, trivial⟩ ⟨rfl, trivial⟩
    · have hk0 : ¬ 0 < (k : Int) := of_decide_eq_false h9
      obtain rfl : k = 0 := by omega
      refine ⟨rfl, ?_⟩
      refine ⟨by omega, 0 + 1, ⟨hk1, by rw [hnext]; omega, ?_⟩, by omega, ?_⟩
      · rw [hi, hnext, decide_eq_false (show ¬ rC p ≤ lastC (rPc b) 0 by show ¬ rC p ≤ -1; omega), h7, h8]; rfl
      · exact Le.sub ⟨rfl, rfl, trivial⟩ ⟨rfl, trivial⟩
  · have hk1 : k = (rPc b).length := by
      have h : ¬ (k : Int) < ((rPc b).length : Int) := of_decide_eq_false h
      omega
    rw [List.drop_eq_nil_of_le (by rw [List.length_map]; omega)] at hi
    refine ⟨fun h => ?_, fun h => ?_⟩
    · exact ⟨_, _, _, Le.refl _ _, rfl, (show true = rightB (ownOf b) by rw [hr, hi, show (!decide (rPa b = [])) = true from h]; rfl), trivial, rfl⟩
    · exact ⟨_, _, _, Le.refl _ _, rfl, (show decide (((rPc b).length : Int) = rSz b) = rightB (ownOf b) by rw [hr, hi, show (!decide (rPa b = [])) = false from h]; rfl), trivial, rfl⟩
end Go.Proofs.Ythghcdddambaeaa
/-
  The document's list: Find, Add.
-/
set_option linter.unusedVariables false
set_option linter.unusedSimpArgs false
set_option maxRecDepth 10000
namespace Go.Proofs.Ythghcdddambaeaa
open Go.RowKit Go.Proofs

theorem ixL_map {α β : Type} (f : α → β) (p : β → Bool) (L : List α) : ixL p (L.map f) = ixL (fun x => p (f x)) L := by
  unfold ixL
  rw [List.findIdx?_map]
  rfl
theorem fndR (r : List RBup) (nm : List UInt8) : fnd (r.map ownOf) nm = ixL (fun b => decide (rNm b = nm)) r := ixL_map ownOf _ r
theorem findR_spec (r : List RBup) (nm : List UInt8) (hr : r.length ≤ 4294967296) : Fn Try.prog 24 [vL uRB r, vS nm] [] [] (vI (fnd (r.map ownOf) nm)) [] := by
  rw [fndR]
  refine Fn.of tblOK [] _ _ _ _ _ Try.func24 rfl rfl (by kernel_rfl) (by kernel_rfl) rfl (drawOK tblOK) rfl ?_
  show TrQ _ _ _ _ _ _ _
  refine TrQ.loop tblOK (drawOK tblOK) [] (by kernel_rfl) (X := Nat) (fun k => [(0, vL uRB r), (1, vS nm), (5, vI (k : Nat))]) (fun _ => []) (fun k => k ≤ r.length ∧ ∀ (i : Nat) b, i < k → r[i]? = some b → decide (rNm b = nm) = false) (fun k => r.length - k) 0 ⟨Nat.zero_le _, fun i b h => absurd h (Nat.not_lt_zero _)⟩ ?_ ?_
  · exact Le.sub ⟨rfl, rfl, rfl, trivial⟩ trivial
  rintro k ⟨hk, hp⟩
  refine ⟨fun h => ?_, fun h => ?_⟩
  · have h1 : k < r.length := by
      have h : (k : Int) < (r.length : Int) := of_decide_eq_true h
      omega
    refine ⟨by omega, r[k], lget_at rfl h1, ?_⟩
    refine ⟨fun h => ?_, fun h => ?_⟩
    · exact ⟨_, _, _, Le.refl _ _, rfl, (ixL_at (p := fun b => decide (rNm b = nm)) h1 hp h).symm, trivial, rfl⟩
    · refine ⟨by omega, k + 1, ⟨by omega, prefix_step (p := fun b => decide (rNm b = nm) = false) h1 hp h⟩, by omega, ?_⟩
      exact Le.sub ⟨rfl, rfl, rfl, trivial⟩ trivial
  · have h1 : ¬ k < r.length := by
      have h : ¬ (k : Int) < (r.length : Int) := of_decide_eq_false h
      omega
    exact ⟨_, _, _, Le.refl _ _, rfl, (ixL_none (p := fun b => decide (rNm b = nm)) fun i b hi hb => hp i b (by omega) hb).symm, trivial, rfl⟩
/-- The document's list behind Add. -/
def addR (r : List RBup) (b : RBup) : List RBup := if addE (r.map ownOf) (ownOf b) = 0 then r ++ [b] else r
theorem addR_map (r : List RBup) (b : RBup) : (addR r b).map ownOf = addL (r.map ownOf) (ownOf b) := by
  unfold addR addL
  split
  · simp
  · rfl
def vAddR (l : List RBup) (e : Int) : SV := .tup [.one (.d (.lst uRB l)), .one (.d (.int .i64 e))]
set_option maxRecDepth 100000 in
set_option maxHeartbeats 2000000 in
theorem addR_spec (r : List RBup) (b : RBup) (hr : r.length ≤ 1000000) (hn : (rNm b).length ≤ 4294967296) (hl : (rPc b).length ≤ 1000000) (hp : ∀ p, p ∈ rPc b → (rB p).length ≤ 4294967296) :
    Fn Try.prog 22 [vL uRB r, rbV b] [] [] (vAddR (addR r b) (addE (r.map ownOf) (ownOf b))) [] := by
  have hno : ∀ e, addE (r.map ownOf) (ownOf b) = e → e ≠ 0 → addR r b = r := fun e h1 h2 => by unfold addR; rw [if_neg (by omega)]
  have hrl : (r.map ownOf).length = r.length := List.length_map _
  have hf1 := findR_spec r (rNm b) (by omega)
  have hf2 := findR_spec r (rPa b) (by omega)
  have hbits : ∀ (k : Nat) (hk : k < r.length), lget (r.map ownOf) k = some (ownOf r[k]) := fun k hk => by
    unfold lget
    rw [List.getElem?_map, List.getElem?_eq_getElem hk]
    rfl
  have hE0 : addE (r.map ownOf) (ownOf b) = if (!rightB (ownOf b) || decide (0 ≤ fnd (r.map ownOf) (rNm b)) || decide (64 ≤ (r.length : Int))) = true then 1
      else if (!decide (rPa b = []) && decide (fnd (r.map ownOf) (rPa b) < 0)) = true then 181
      else if (!decide (rPa b = []) && !decide ((match lget (r.map ownOf) (fnd (r.map ownOf) (rPa b)).toNat with | some x => bBits x | none => rBits b) = rBits b)) = true then 1 else 0 := by
    rw [← hrl]; rfl
  have hfc : fnd (r.map ownOf) (rPa b) = -1 ∨ ∃ k, k < r.length ∧ fnd (r.map ownOf) (rPa b) = (k : Nat) := by
    rcases ixL_cases (fun x => decide (bNm x = rPa b)) (r.map ownOf) with ⟨h, _⟩ | ⟨k, x, h, hx, _⟩
    · exact .inl h
    · exact .inr ⟨k, by have := (List.getElem?_eq_some_iff.1 hx).1; omega, h⟩
  have hR : addE (r.map ownOf) (ownOf b) = 0 → addR r b = r ++ [b] := fun h => by unfold addR; rw [if_pos h]
  generalize addE (r.map ownOf) (ownOf b) = E at *
  generalize addR r b = R at *
  generalize hF1 : fnd (r.map ownOf) (rNm b) = f1 at *
  generalize hF2 : fnd (r.map ownOf) (rPa b) = f2 at *
  refine Fn.of tblOK [] _ _ _ _ _ Try.func22 rfl rfl (by kernel_rfl) (by kernel_rfl) rfl (drawOK tblOK) rfl ?_
  refine ⟨rfl, ?_⟩
  refine ⟨_, _, _, _, rightR_spec b hn hl hp, trivial, rfl, ?_⟩
  refine ⟨fun h => ?_, fun h1 => ?_⟩
  · have h : (!rightB (ownOf b)) = true := h
    rw [h] at hE0
    rw [hno 1 hE0 (by omega), hE0]
    exact ⟨_, _, _, Le.refl _ _, rfl, ⟨rfl, rfl, trivial⟩, trivial, rfl⟩
  refine ⟨_, _, _, _, hf1, trivial, rfl, ?_⟩
  refine ⟨fun h => ?_, fun h2 => ?_⟩
  · rw [show decide (0 ≤ f1) = true from h] at hE0
    simp only [Bool.or_true, Bool.true_or, if_true] at hE0
    rw [hno 1 hE0 (by omega), hE0]
    exact ⟨_, _, _, Le.refl _ _, rfl, ⟨rfl, rfl, trivial⟩, trivial, rfl⟩
  refine ⟨fun h => ?_, fun h3 => ?_⟩
  · rw [show decide (64 ≤ (r.length : Int)) = true from h] at hE0
    simp only [Bool.or_true, if_true] at hE0
    rw [hno 1 hE0 (by omega), hE0]
    exact ⟨_, _, _, Le.refl _ _, rfl, ⟨rfl, rfl, trivial⟩, trivial, rfl⟩
  rw [show (!rightB (ownOf b)) = false from h1, show decide (0 ≤ f1) = false from h2, show decide (64 ≤ (r.length : Int)) = false from h3] at hE0
  simp only [Bool.or_false, Bool.false_eq_true, if_false] at hE0
  refine ⟨_, _, _, _, hf2, trivial, rfl, ?_⟩
  refine ⟨fun h4 => ?a, fun h4 => ?b⟩
  case' a =>
    rw [show (!decide (rPa b = [])) = true from h4] at hE0
    simp only [Bool.true_and] at hE0
    refine ⟨fun h => ?_, fun h5 => ?_⟩
    · rw [show decide (f2 < 0) = true from h, if_pos rfl] at hE0
      rw [hno 181 hE0 (by omega), hE0]
      exact ⟨_, _, _, Le.refl _ _, rfl, ⟨rfl, rfl, trivial⟩, trivial, rfl⟩
    rw [show decide (f2 < 0) = false from h5, if_neg (by simp)] at hE0
    have h5 : ¬ f2 < 0 := of_decide_eq_false h5
    obtain ⟨k, hk, rfl⟩ : ∃ k, k < r.length ∧ f2 = (k : Nat) := by
      rcases hfc with h | h
      · omega
      · exact h
    rw [Int.toNat_natCast, hbits k hk] at hE0
    refine ⟨fun h6 => ?_, fun h6 => absurd (h4.symm.trans h6) (by simp)⟩
    refine ⟨by omega, r[k], lget_at rfl hk, ?_⟩
    refine ⟨rfl, fun h => ?_, fun h => ?_⟩
    · rw [show (!decide (bBits (ownOf r[k]) = rBits b)) = true from h, if_pos rfl] at hE0
      rw [hno 1 hE0 (by omega), hE0]
      exact ⟨_, _, _, Le.refl _ _, rfl, ⟨rfl, rfl, trivial⟩, trivial, rfl⟩
    rw [show (!decide (bBits (ownOf r[k]) = rBits b)) = false from h, if_neg (by simp)] at hE0
    clear h h6 h5
  case' b =>
    rw [show (!decide (rPa b = [])) = false from h4] at hE0
    simp only [Bool.false_and, Bool.false_eq_true, if_false] at hE0
    refine ⟨fun h6 => absurd (h4.symm.trans h6) (by simp), fun h6 => ?_⟩
    refine ⟨rfl, ?_⟩
    clear h6
  all_goals
    rw [hR hE0, hE0]
    refine ⟨rfl, ?_⟩
    refine ⟨?_, rfl, ?_⟩
    · show 0 + r.length ≤ 4294967296
      omega
    refine ⟨?_, rfl, ?_⟩
    · show ([] ++ r).length + 1 ≤ 4294967296
      rw [List.nil_append]; omega
    exact ⟨_, _, _, Le.frz 56 rfl, rfl, ⟨rfl, rfl, trivial⟩, trivial, rfl⟩
end Go.Proofs.Ythghcdddambaeaa
/-
  Cluster by cluster, or piece over piece: the same disk. And who is found behind a drop.
-/
set_option linter.unusedVariables false
set_option linter.unusedSimpArgs false
namespace Go.Proofs.Ythghcdddambaeaa
open Go.RowKit Go.Proofs

/-- A cluster, as the document says. -/
def cluI (n : Nat) (below : List UInt8) (c : Nat) : List UInt8 := if n * c + n ≤ below.length then (below.take (n * c + n)).drop (n * c) else List.replicate n 0
def cluS (c : Nat) (x : List UInt8) (p : Pie) : List UInt8 := if pC p = c then pB p else x
def clu (n : Nat) (below : List UInt8) (l : List Pie) (c : Nat) : List UInt8 := l.foldl (cluS c) (cluI n below c)
def diskC (S n : Nat) (below : List UInt8) (l : List Pie) : List UInt8 := (List.range S).flatMap (clu n below l)

theorem cluI_length (n : Nat) (below : List UInt8) (c : Nat) : (cluI n below c).length = n := by
  unfold cluI
  split
  · rw [List.length_drop, List.length_take]; omega
  · simp
theorem clu_length {n : Nat} (c : Nat) : ∀ (l : List Pie) (x : List UInt8), x.length = n → (∀ p, p ∈ l → (pB p).length = n) → (l.foldl (cluS c) x).length = n
  | [], x, h, _ => h
  | p :: l, x, h, hp => by
    refine clu_length c l _ ?_ fun q hq => hp q (List.mem_cons_of_mem _ hq)
    unfold cluS
    split
    · exact hp p List.mem_cons_self
    · exact h
theorem flat_length {n : Nat} {f : Nat → List UInt8} (hf : ∀ c, (f c).length = n) : ∀ S : Nat, ((List.range S).flatMap f).length = S * n
  | 0 => by simp
  | S + 1 => by
    rw [List.range_succ, List.flatMap_append, List.length_append, flat_length hf S]
    simp [hf, Nat.succ_mul]
theorem flat_get {n : Nat} {f : Nat → List UInt8} (hf : ∀ c, (f c).length = n) : ∀ (S c j : Nat), c < S → j < n → ((List.range S).flatMap f)[n * c + j]? = (f c)[j]?
  | 0, c, j, h, _ => by omega
  | S + 1, c, j, h, hj => by
    have hl := flat_length hf S
    have hc : n * (c + 1) = n * c + n := Nat.mul_succ n c
    have hsn : S * n = n * S := Nat.mul_comm _ _
    rw [List.range_succ, List.flatMap_append]
    rcases Nat.lt_or_ge c S with h1 | h1
    · have : n * (c + 1) ≤ n * S := Nat.mul_le_mul_left n h1
      rw [List.getElem?_append_left (by rw [hl]; omega)]
      exact flat_get hf S c j h1 hj
    · obtain rfl : c = S := by omega
      rw [List.getElem?_append_right (by rw [hl]; omega), hl, Nat.mul_comm c n]
      simp
theorem laid_get {acc ys : List UInt8} {off m : Nat} (hm : ys.length ≤ m) (ho : off + ys.length ≤ acc.length) (i : Nat) : (laid acc off m ys)[i]? = if off ≤ i ∧ i < off + ys.length then ys[i - off]? else acc[i]? := by
  unfold laid
  rw [List.take_of_length_le hm]
  have h1 : (acc.take off).length = off := by rw [List.length_take]; omega
  split
  · rename_i h
    rw [List.append_assoc, List.getElem?_append_right (by omega), List.getElem?_append_left (by omega), h1]
  · rename_i h
    rcases Nat.lt_or_ge i off with h2 | h2
    · rw [List.append_assoc, List.getElem?_append_left (by omega), List.getElem?_take, if_pos h2]
    · rw [List.getElem?_append_right (by rw [List.length_append]; omega), List.getElem?_drop, List.length_append, h1]
      congr 1
      omega
theorem lay_eq {n S : Nat} {c j : Nat} (hj : j < n) (hc : c < S) : ∀ (l : List Pie) (acc x : List UInt8), (∀ p, p ∈ l → 0 ≤ pC p ∧ pC p < (S : Int) ∧ (pB p).length = n) → acc.length = S * n → acc[n * c + j]? = x[j]? →
    (l.foldl (layP (n : Int)) acc)[n * c + j]? = (l.foldl (cluS c) x)[j]?
  | [], acc, x, _, _, h => h
  | p :: l, acc, x, hp, ha, h => by
    obtain ⟨h0, h1, h2⟩ := hp p List.mem_cons_self
    obtain ⟨k, hk⟩ : ∃ k : Nat, pC p = k := ⟨(pC p).toNat, by omega⟩
    have hks : k < S := by omega
    have e1 : (pC p * (n : Int)).toNat = n * k := by rw [hk, ← Int.natCast_mul, Int.toNat_natCast, Nat.mul_comm]
    have e2 : n * (k + 1) ≤ S * n := by rw [Nat.mul_comm S n]; exact Nat.mul_le_mul_left n hks
    have e3 : n * (k + 1) = n * k + n := Nat.mul_succ n k
    have e4 : n * (c + 1) = n * c + n := Nat.mul_succ n c
    have hlen : (layP (n : Int) acc p).length = acc.length := by
      unfold layP
      rw [e1]
      exact laid_length _ _ (by omega)
    refine lay_eq hj hc l _ _ (fun q hq => hp q (List.mem_cons_of_mem _ hq)) (by rw [hlen]; exact ha) ?_
    unfold layP
    rw [e1, laid_get (by omega) (by omega), h2]
    unfold cluS
    rcases Nat.lt_trichotomy c k with hck | hck | hck
    · have : n * (c + 1) ≤ n * k := Nat.mul_le_mul_left n hck
      rw [if_neg (by omega), if_neg (by omega)]
      exact h
    · subst hck
      rw [if_pos (by omega), if_pos hk]
      congr 1
      omega
    · have : n * (k + 1) ≤ n * c := Nat.mul_le_mul_left n hck
      rw [if_neg (by omega), if_neg (by omega)]
      exact h
/-- A disk, cluster by cluster. -/
theorem disk_eq {n S : Nat} (hn : 0 < n) (l : List Pie) (below acc : List UInt8) (hp : ∀ p, p ∈ l → 0 ≤ pC p ∧ pC p < (S : Int) ∧ (pB p).length = n) (ha : acc.length = S * n)
    (hb : ∀ c j, c < S → j < n → acc[n * c + j]? = (cluI n below c)[j]?) : l.foldl (layP (n : Int)) acc = diskC S n below l := by
  have hcl : ∀ c, (clu n below l c).length = n := fun c => clu_length c l _ (cluI_length n below c) fun p h => (hp p h).2.2
  have hl1 : (l.foldl (layP (n : Int)) acc).length = S * n := by
    have := layN_length (size := (S : Int)) (cl := (n : Int)) (by omega) l acc (fun p h => ⟨(hp p h).1, (hp p h).2.1⟩) (by rw [ha, ← Int.natCast_mul, Int.toNat_natCast])
    rw [this, ← Int.natCast_mul, Int.toNat_natCast]
  have hl2 : (diskC S n below l).length = S * n := flat_length hcl S
  refine List.ext_getElem? fun i => ?_
  rcases Nat.lt_or_ge i (S * n) with h | h
  · have h1 : i / n < S := (Nat.div_lt_iff_lt_mul hn).2 h
    have h2 : i % n < n := Nat.mod_lt _ hn
    have h3 : n * (i / n) + i % n = i := Nat.div_add_mod i n
    have := lay_eq h2 h1 l acc (cluI n below (i / n)) hp ha (hb _ _ h1 h2)
    rw [h3] at this
    rw [this]
    have := flat_get hcl S (i / n) (i % n) h1 h2
    rw [h3] at this
    exact this.symm
  · rw [List.getElem?_eq_none (by omega), List.getElem?_eq_none (by omega)]
theorem zeros_clu {n S : Nat} (c j : Nat) (hc : c < S) (hj : j < n) : (List.replicate (S * n) (0 : UInt8))[n * c + j]? = (cluI n [] c)[j]? := by
  have : n * (c + 1) ≤ n * S := Nat.mul_le_mul_left n hc
  have e4 : n * (c + 1) = n * c + n := Nat.mul_succ n c
  unfold cluI
  have hsn : S * n = n * S := Nat.mul_comm _ _
  rw [if_neg (by simp; omega), List.getElem?_replicate, if_pos (by omega), List.getElem?_replicate, if_pos hj]
theorem over_clu {n S m : Nat} (below : List UInt8) (hb : below.length = m * n) (c j : Nat) (hc : c < S) (hj : j < n) : (laid (List.replicate (S * n) (0 : UInt8)) 0 (S * n) below)[n * c + j]? = (cluI n below c)[j]? := by
  have h1 : n * (c + 1) ≤ n * S := Nat.mul_le_mul_left n hc
  have e4 : n * (c + 1) = n * c + n := Nat.mul_succ n c
  have e5 : S * n = n * S := Nat.mul_comm _ _
  rw [laid_zeros]
  unfold cluI
  rcases Nat.lt_or_ge c m with h | h
  · have h2 : n * (c + 1) ≤ n * m := Nat.mul_le_mul_left n h
    have e6 : m * n = n * m := Nat.mul_comm _ _
    rw [if_pos (by omega), List.getElem?_append_left (by rw [List.length_take]; omega), List.getElem?_take, if_pos (by omega), List.getElem?_drop, List.getElem?_take, if_pos (by omega)]
  · have h2 : n * m ≤ n * c := Nat.mul_le_mul_left n h
    have e6 : m * n = n * m := Nat.mul_comm _ _
    rw [if_neg (by omega), List.getElem?_append_right (by rw [List.length_take]; omega), List.getElem?_replicate, List.length_take, if_pos (by omega), List.getElem?_replicate, if_pos hj]

/-! ### who is found -/
theorem get_ixL {α : Type} (p : α → Bool) : ∀ (L : List α), (if 0 ≤ ixL p L then lget L (ixL p L).toNat else none) = L.find? p := by
  intro L
  rcases ixL_cases p L with ⟨h, hn⟩ | ⟨k, x, h, hx, hp, hlt⟩
  · rw [h, if_neg (by omega)]
    refine (List.find?_eq_none.2 fun x hx => ?_).symm
    obtain ⟨i, hi, rfl⟩ := List.getElem_of_mem hx
    rw [hn i _ (List.getElem?_eq_getElem hi)]; simp
  · rw [h, if_pos (by omega), Int.toNat_natCast]
    unfold lget
    rw [hx]
    refine (List.find?_eq_some_iff_getElem.2 ⟨hp, k, (List.getElem?_eq_some_iff.1 hx).1, (List.getElem?_eq_some_iff.1 hx).2, fun j hj => ?_⟩).symm
    have := hlt j _ hj (List.getElem?_eq_getElem (by have := (List.getElem?_eq_some_iff.1 hx).1; omega))
    simpa using this
theorem lgetI_find (L : List Bup) (nm : List UInt8) : lgetI L (fnd L nm) = L.find? (fun b => decide (bNm b = nm)) := get_ixL _ L
theorem find_erase {α : Type} (p : α → Bool) : ∀ (L : List α) (k : Nat) (x : α), L[k]? = some x → p x = false → (L.eraseIdx k).find? p = L.find? p
  | [], k, x, h, _ => by simp at h
  | a :: L, 0, x, h, hp => by
    simp only [List.getElem?_cons_zero, Option.some.injEq] at h
    subst h
    simp [List.find?_cons, hp]
  | a :: L, k + 1, x, h, hp => by
    simp only [List.getElem?_cons_succ] at h
    rw [List.eraseIdx_cons_succ, List.find?_cons, List.find?_cons, find_erase p L k x h hp]
theorem fnd_neg_iff (L : List Bup) (nm : List UInt8) : fnd L nm < 0 ↔ L.find? (fun b => decide (bNm b = nm)) = none := by
  rw [← lgetI_find]
  unfold lgetI
  constructor
  · intro h; rw [if_neg (by omega)]
  · intro h
    rcases ixL_cases (fun b => decide (bNm b = nm)) L with ⟨h2, _⟩ | ⟨k, x, h2, hx, _⟩
    · unfold fnd; omega
    · have h2 : fnd L nm = k := h2
      rw [if_pos (by omega), h2, Int.toNat_natCast] at h
      unfold lget at h
      rw [hx] at h
      cases h
/-- What is restored goes by who is found. -/
theorem restB_find {L L' : List Bup} (nm0 : List UInt8) (h : ∀ nm, nm ≠ nm0 → L'.find? (fun b => decide (bNm b = nm)) = L.find? (fun b => decide (bNm b = nm))) (hp : ∀ b, b ∈ L → bPa b ≠ nm0) :
    ∀ (n : Nat) (nm : List UInt8), nm ≠ nm0 → restB L' n nm = restB L n nm
  | 0, _, _ => rfl
  | n + 1, nm, hn => by
    show restS L' nm (restB L' n) = restS L nm (restB L n)
    unfold restS
    rw [lgetI_find, lgetI_find, h nm hn]
    cases hx : L.find? (fun b => decide (bNm b = nm)) with
    | none => rfl
    | some b =>
      simp only
      rw [restB_find nm0 h hp n _ (hp b (List.mem_of_find?_eq_some hx))]
end Go.Proofs.Ythghcdddambaeaa
/-
  The document's Restore.
-/
set_option linter.unusedVariables false
set_option linter.unusedSimpArgs false
set_option maxRecDepth 10000
namespace Go.Proofs.Ythghcdddambaeaa
open Go.RowKit Go.Proofs

/-- A list in which clusters are as great as the parent's. -/
structure InvP (L : List Bup) : Prop extends InvL L where
  bits : ∀ b, b ∈ L → bPa b ≠ [] → ∀ x, L.find? (fun y => decide (bNm y = bPa b)) = some x → bBits x = bBits b
theorem InvP.nil : InvP [] := ⟨InvL.nil, fun b h => by cases h⟩
theorem find_there {L : List Bup} {nm : List UInt8} (h : 0 ≤ fnd L nm) : ∃ x, L.find? (fun y => decide (bNm y = nm)) = some x := by
  cases hx : L.find? (fun y => decide (bNm y = nm)) with
  | some x => exact ⟨x, rfl⟩
  | none => have := (fnd_neg_iff L nm).2 hx; omega
theorem find_append_there {L : List Bup} (b : Bup) {nm : List UInt8} (h : 0 ≤ fnd L nm) : (L ++ [b]).find? (fun y => decide (bNm y = nm)) = L.find? (fun y => decide (bNm y = nm)) := by
  obtain ⟨x, hx⟩ := find_there h
  rw [List.find?_append, hx]
  rfl
theorem par_there {L : List Bup} (hI : InvL L) {b : Bup} (hb : b ∈ L) (hp : bPa b ≠ []) : 0 ≤ fnd L (bPa b) := by
  obtain ⟨k, hk, rfl⟩ := List.getElem_of_mem hb
  exact (hI.par k _ (List.getElem?_eq_getElem hk) (by simpa using hp)).1
theorem InvP.add {L : List Bup} (hI : InvP L) (b : Bup) : InvP (addL L b) := by
  refine ⟨hI.toInvL.add b, ?_⟩
  unfold addL
  split
  · rename_i hE
    intro c hc hp x hx
    rcases List.mem_append.1 hc with hc | hc
    · rw [find_append_there b (par_there hI.toInvL hc hp)] at hx
      exact hI.bits c hc hp x hx
    · simp only [List.mem_singleton] at hc
      subst hc
      have h0 := (addE_zero hE).2.2.2 (by simpa using hp)
      rw [find_append_there c h0] at hx
      rw [← lgetI_find] at hx
      unfold lgetI at hx
      rw [if_pos h0] at hx
      by_cases hb : bBits x = bBits c
      · exact hb
      · exfalso
        unfold addE at hE
        rw [hx] at hE
        split at hE
        · cases hE
        split at hE
        · cases hE
        rw [if_pos (by simp [hp, hb])] at hE
        cases hE
  · exact hI.bits
theorem rBits_le {b : Bup} (h : rightB b = true) : 16 ≤ clB (bBits b) ∧ clB (bBits b) ≤ 128 := by
  obtain ⟨h1, h2, _, _⟩ := rightB_small h
  exact clB_le h1 h2
theorem right_pieces {b : Bup} (h : rightB b = true) : ∀ p, p ∈ bPc b → 0 ≤ pC p ∧ pC p < bSz b ∧ ((pB p).length : Int) = clB (bBits b) := fun p hp => by
  simp only [rightB, Bool.and_eq_true] at h
  have := okP_mem _ _ _ _ h.1.2 p hp
  omega
theorem diskB_length {b : Bup} (h : rightB b = true) (below : List UInt8) : (diskB b below).length = (bSz b * clB (bBits b)).toNat := by
  have h1 := rBits_le h
  unfold diskB
  refine layN_length (by omega) _ _ (fun p hp => by have := right_pieces h p hp; omega) ?_
  split
  · simp
  · rw [laid_length _ _ (by omega)]; simp
/-- The disk of a backup, cluster by cluster. -/
theorem diskB_eq {b : Bup} (h : rightB b = true) (below : List UInt8) (hp : bPa b ≠ [] → ∃ m, below.length = m * (clB (bBits b)).toNat) (hn : bPa b = [] → below = []) :
    diskB b below = diskC (bSz b).toNat (clB (bBits b)).toNat below (bPc b) := by
  have h1 := rBits_le h
  have h2 := (rightB_small h).2.2.1
  have hpc := right_pieces h
  obtain ⟨s, hs⟩ : ∃ s : Nat, bSz b = s := ⟨(bSz b).toNat, by omega⟩
  obtain ⟨n, hcn⟩ : ∃ n : Nat, clB (bBits b) = n := ⟨(clB (bBits b)).toNat, by omega⟩
  unfold diskB
  simp only
  rw [hcn, Int.toNat_natCast] at hp
  rw [hs, hcn, ← Int.natCast_mul, Int.toNat_natCast, Int.toNat_natCast, Int.toNat_natCast]
  refine disk_eq (by omega) (bPc b) below _ (fun p hp => ?_) ?_ ?_
  · have := hpc p hp; omega
  · split
    · simp
    · rw [laid_length _ _ (by omega)]; simp
  · intro c j hc hj
    split
    · rename_i hh
      rw [hn (of_decide_eq_true hh)]
      exact zeros_clu c j hc hj
    · rename_i hh
      obtain ⟨m, hm⟩ := hp (by simpa using hh)
      rw [List.length_replicate]
      exact over_clu below hm c j hc hj
theorem restL_length {L : List Bup} (hI : InvL L) {nm : List UInt8} {x : Bup} (hx : L.find? (fun y => decide (bNm y = nm)) = some x) : (restL L nm).length = (bSz x * clB (bBits x)).toNat := by
  show (restS L nm (restB L L.length)).length = _
  unfold restS
  rw [lgetI_find, hx]
  exact diskB_length (hI.right x (List.mem_of_find?_eq_some hx)) _
/-- What is restored: of who is found, over what is restored of its parent. -/
theorem restL_eq {L : List Bup} (hI : InvP L) {nm : List UInt8} {x : Bup} (hx : L.find? (fun y => decide (bNm y = nm)) = some x) :
    restL L nm = diskC (bSz x).toNat (clB (bBits x)).toNat (if decide (bPa x = []) = true then [] else restL L (bPa x)) (bPc x) := by
  have hxm := List.mem_of_find?_eq_some hx
  have hr := hI.right x hxm
  have e : restL L nm = diskB x (restB L L.length (bPa x)) := by
    show restS L nm (restB L L.length) = _
    unfold restS
    rw [lgetI_find, hx]
  rw [e]
  by_cases hp : bPa x = []
  · rw [if_pos (by simp [hp])]
    rw [← diskB_eq hr [] (fun h => absurd hp h) (fun _ => rfl)]
    unfold diskB
    simp only [hp, decide_true, if_true]
  · rw [if_neg (by simp [hp])]
    have h0 := par_there hI.toInvL hxm hp
    have hlt := fnd_lt L (bPa x)
    rw [restB_fuel hI.toInvL L.length (L.length + 1) (bPa x) (by omega) (by omega)]
    obtain ⟨y, hy⟩ := find_there h0
    refine diskB_eq hr _ (fun _ => ⟨(bSz y).toNat, ?_⟩) (fun h => absurd h hp)
    show (restL L (bPa x)).length = _
    rw [restL_length hI.toInvL hy, hI.bits x hxm hp y hy]
    have h1 := rBits_le hr
    have h2 := (rightB_small (hI.right y (List.mem_of_find?_eq_some hy))).2.2.1
    obtain ⟨s, hs⟩ : ∃ s : Nat, bSz y = s := ⟨(bSz y).toNat, by omega⟩
    obtain ⟨n, hn⟩ : ∃ n : Nat, clB (bBits x) = n := ⟨(clB (bBits x)).toNat, by omega⟩
    rw [hs, hn, ← Int.natCast_mul]
    rfl

/-! ### the walk -/
def vRestR (out : List UInt8) (e : Int) : SV := .tup [.one (.d (.str out)), .one (.d (.int .i64 e))]
def cluSR (c : Nat) (x : List UInt8) (p : RPie) : List UInt8 := if rC p = c then rB p else x
theorem cluSR_pos {c : Nat} {x : List UInt8} {p : RPie} (h : decide (rC p = (c : Int)) = true) : cluSR c x p = rB p := if_pos (of_decide_eq_true h)
theorem cluSR_neg {c : Nat} {x : List UInt8} {p : RPie} (h : decide (rC p = (c : Int)) = false) : cluSR c x p = x := if_neg (of_decide_eq_false h)
theorem clu_map (n : Nat) (below : List UInt8) (l : List RPie) (c : Nat) : clu n below (l.map pieOf) c = l.foldl (cluSR c) (cluI n below c) := by
  unfold clu
  rw [List.foldl_map]
  rfl
@[reducible] def reK (r : List RBup) (k n : Nat) (below : List UInt8) (c : Nat) (out : List UInt8) : KL := [(0, vL uRB r), (6, vI (k : Nat)), (7, vS below), (10, vI (n : Nat)), (11, vS out), (12, vI (c : Nat))]
set_option maxRecDepth 100000 in
set_option maxHeartbeats 4000000 in
theorem restoreR_step (r : List RBup) (nm : List UInt8) (hI : InvP (r.map ownOf))
    (ih : ∀ b, (r.map ownOf).find? (fun y => decide (bNm y = nm)) = some b → bPa b ≠ [] → Fn Try.prog 25 [vL uRB r, vS (bPa b)] [] [] (vRestR (restL (r.map ownOf) (bPa b)) (restE (r.map ownOf) (bPa b))) []) :
    Fn Try.prog 25 [vL uRB r, vS nm] [] [] (vRestR (restL (r.map ownOf) nm) (restE (r.map ownOf) nm)) [] := by
  have hlen := hI.len
  rw [List.length_map] at hlen
  have hfind := findR_spec r nm (by omega)
  rcases ixL_cases (fun b => decide (bNm b = nm)) (r.map ownOf) with ⟨h, _⟩ | ⟨k, x, h, hx, hxn, hlt⟩
  · have hf : fnd (r.map ownOf) nm = -1 := h
    have h1 : restE (r.map ownOf) nm = 181 := by unfold restE; rw [if_pos (by simp [hf])]
    have h2 : restL (r.map ownOf) nm = [] := by
      show restS (r.map ownOf) nm _ = []
      unfold restS lgetI
      rw [if_neg (by omega)]
    rw [h1, h2]
    rw [hf] at hfind
    refine Fn.of tblOK [] _ _ _ _ _ Try.func25 rfl rfl (by kernel_rfl) (by kernel_rfl) rfl (drawOK tblOK) rfl ?_
    refine ⟨_, _, _, _, hfind, trivial, rfl, ?_⟩
    refine ⟨fun h => ?_, fun h => absurd h (by decide)⟩
    exact ⟨_, _, _, Le.refl _ _, rfl, ⟨rfl, rfl, trivial⟩, trivial, rfl⟩
  · have hf : fnd (r.map ownOf) nm = k := h
    have hk : k < r.length := by have := (List.getElem?_eq_some_iff.1 hx).1; rwa [List.length_map] at this
    have hxk : x = ownOf r[k] := by
      rw [List.getElem?_map, List.getElem?_eq_getElem hk] at hx
      injection hx with hx
      exact hx.symm
    have hfd : (r.map ownOf).find? (fun y => decide (bNm y = nm)) = some x := by
      rw [← lgetI_find]
      unfold lgetI
      rw [if_pos (by omega), hf]
      exact hx
    have hE : restE (r.map ownOf) nm = 0 := by unfold restE; rw [if_neg (by simp; omega)]
    have hL := restL_eq hI hfd
    have hr := hI.right x (List.mem_of_getElem? hx)
    have hi := ih x hfd
    obtain ⟨q1, q2, q3, q4⟩ := rightB_small hr
    have hcl := rBits_le hr
    have hpcs := right_pieces hr
    have hpl := right_few hr
    obtain ⟨n, hn⟩ : ∃ n : Nat, clB (bBits x) = n := ⟨(clB (bBits x)).toNat, by omega⟩
    have hn2 : (clB (bBits x)).toNat = n := by omega
    rw [hE, hL, hn2]
    have hgk := lget_at (L := r) (n := (k : Nat)) rfl hk
    have hil : ∀ y : Bup, (r.map ownOf).find? (fun z => decide (bNm z = bPa x)) = some y → (restL (r.map ownOf) (bPa x)).length ≤ 32768 := fun y hy => by
      rw [restL_length hI.toInvL hy]
      have hr' := hI.right y (List.mem_of_find?_eq_some hy)
      have a1 := rBits_le hr'
      obtain ⟨_, _, a2, a3⟩ := rightB_small hr'
      have : bSz y * clB (bBits y) ≤ 256 * 128 := Int.mul_le_mul a3 a1.2 (by omega) (by omega)
      omega
    have hpar := fun h => par_there hI.toInvL (List.mem_of_getElem? hx) h
    rw [hf] at hfind
    clear hE hL ih h
    subst hxk
    have hil2 : bPa (ownOf r[k]) ≠ [] → (restL (r.map ownOf) (bPa (ownOf r[k]))).length ≤ 32768 := fun h => by
      obtain ⟨y, hy⟩ := find_there (hpar h)
      exact hil y hy
    have hlen2 : (rPc r[k]).length ≤ 256 := by
      have : ((rPc r[k]).map pieOf).length ≤ 256 := hpl
      rwa [List.length_map] at this
    have hSz : ∃ S : Nat, rSz r[k] = S ∧ S ≤ 256 ∧ (bSz (ownOf r[k])).toNat = S := ⟨(rSz r[k]).toNat, by
      have q3 : 0 ≤ rSz r[k] := q3
      omega, by
      have q4 : rSz r[k] ≤ 256 := q4
      omega, rfl⟩
    obtain ⟨S, hS, hS2, hS3⟩ := hSz
    rw [hS3]
    have hn3 : clB (rBits r[k]) = n := hn
    have hmany := many_spec (rBits r[k]) q1 q2
    rw [hn3] at hmany
    have hpb : ∀ p, p ∈ rPc r[k] → (rB p).length = n := fun p hp => by
      have h : ((rB p).length : Int) = clB (rBits r[k]) := (hpcs (pieOf p) (List.mem_map_of_mem hp)).2.2
      omega
    have hn16 : 16 ≤ n ∧ n ≤ 128 := by omega
    have hpc : bPc (ownOf r[k]) = (rPc r[k]).map pieOf := rfl
    rw [hpc]
    have hpa : bPa (ownOf r[k]) = rPa r[k] := rfl
    rw [hpa] at hi hil2 ⊢
    have hpE : rPa r[k] ≠ [] → restE (r.map ownOf) (rPa r[k]) = 0 := fun h => restE_there (hpar h)
    generalize restL (r.map ownOf) (rPa r[k]) = bl at *
    clear hx hxn hlt hfd hr hpcs hpl hil hpar hcl hn2 hS3 hpc hpa q1 q2 q3 q4 hn hI
    generalize hbe : (if decide (rPa r[k] = []) = true then ([] : List UInt8) else bl) = be
    refine Fn.of tblOK [] _ _ _ _ _ Try.func25 rfl rfl (by kernel_rfl) (by kernel_rfl) rfl (drawOK tblOK) rfl ?_
    refine ⟨_, _, _, _, hfind, trivial, rfl, ?_⟩
    refine ⟨fun h => absurd (of_decide_eq_true h) (by omega), fun h => ?_⟩
    refine ⟨by omega, r[k], hgk, ?_⟩
    refine ⟨fun h4 => ?a, fun h4 => ?b⟩
    case' a =>
      have hpn : rPa r[k] ≠ [] := by
        have h4 : (!decide (rPa r[k] = [])) = true := h4
        simpa using h4
      refine ⟨by omega, r[k], hgk, ?_⟩
      have hi2 := hi hpn
      rw [hpE hpn] at hi2
      refine ⟨_, _, _, _, hi2, trivial, rfl, ?_⟩
      rw [if_neg (by simp [hpn])] at hbe
      have hbl : be.length ≤ 32768 := by rw [← hbe]; exact hil2 hpn
    case' b =>
      have hpn : rPa r[k] = [] := by
        have h4 : (!decide (rPa r[k] = [])) = false := h4
        simpa using h4
      rw [if_pos (by simp [hpn])] at hbe
      have hbl : be.length ≤ 32768 := by rw [← hbe]; decide
    all_goals
      refine ⟨by omega, r[k], hgk, ?_⟩
      refine ⟨_, _, _, _, hmany, trivial, rfl, ?_⟩
      show TrQ _ _ _ _ _ _ _
      refine TrQ.loop tblOK (drawOK tblOK) [] (by kernel_rfl) (X := Nat) (fun c => reK r k n be c ((List.range c).flatMap (clu n be ((rPc r[k]).map pieOf)))) (fun _ => []) (fun c => c ≤ S) (fun c => S - c) 0 (Nat.zero_le _) ?_ ?_
      · exact Le.sub ⟨rfl, rfl, hbe, rfl, rfl, rfl, trivial⟩ trivial
      intro c hc
      have hcl : ∀ c, (clu n be ((rPc r[k]).map pieOf) c).length = n := fun c => clu_length c _ _ (cluI_length n be c) fun p hp => by
        obtain ⟨q, hq, rfl⟩ := List.mem_map.1 hp
        exact hpb q hq
      have hout := flat_length hcl c
      have hout2 : c * n ≤ 256 * 128 := Nat.mul_le_mul (by omega) hn16.2
      refine ⟨by omega, r[k], hgk, ?_⟩
      refine ⟨fun h => ?_, fun h => ?_⟩
      · have hc1 : c < S := by
          have h : (c : Int) < rSz r[k] := of_decide_eq_true h
          omega
        have hm1 : (n : Int) * (c : Int) = ((n * c : Nat) : Int) := (Int.natCast_mul n c).symm
        have hm2 : n * c ≤ 128 * 256 := Nat.mul_le_mul hn16.2 (by omega)
        have m0 : (n : Int) = n ∧ 0 ≤ (n : Int) ∧ (n : Int) ≤ 4294967296 := by omega
        have m1 : -9223372036854775808 ≤ (n : Int) * (c : Int) ∧ (n : Int) * (c : Int) ≤ 9223372036854775807 := by omega
        have m2 : -9223372036854775808 ≤ (n : Int) * (c : Int) + (n : Int) ∧ (n : Int) * (c : Int) + (n : Int) ≤ 9223372036854775807 := by omega
        refine ⟨m0, rfl, m1, m2, ?_⟩
        refine ⟨fun h => ?_, fun h => ?_⟩
        focus
          have hle : n * c + n ≤ be.length := by
            have h : (n : Int) * (c : Int) + (n : Int) ≤ (be.length : Int) := of_decide_eq_true h
            omega
          have hI0 : cluI n be c = (be.take ((n : Int) * (c : Int) + (n : Int)).toNat).drop ((n : Int) * (c : Int)).toNat := by
            unfold cluI
            rw [if_pos hle, hm1, ← Int.natCast_add, Int.toNat_natCast, Int.toNat_natCast]
          have m3 : 0 ≤ (n : Int) * (c : Int) ∧ (n : Int) * (c : Int) ≤ (n : Int) * (c : Int) + (n : Int) ∧ (n : Int) * (c : Int) + (n : Int) ≤ (be.length : Int) := by omega
          refine ⟨m1, m1, m2, m3, ?_⟩
        rotate_left
        focus
          have hI0 : cluI n be c = List.replicate (n : Int).toNat 0 := by
            have h : ¬ (n : Int) * (c : Int) + (n : Int) ≤ (be.length : Int) := of_decide_eq_false h
            unfold cluI
            rw [if_neg (by omega), Int.toNat_natCast]
        all_goals
          show TrQ _ _ _ _ _ _ _
          refine TrQ.loop tblOK (drawOK tblOK) [] (by kernel_rfl) (X := Nat) (fun i => (13, vS (((rPc r[k]).take i).foldl (cluSR c) (cluI n be c))) :: (14, vI (i : Nat)) :: reK r k n be c ((List.range c).flatMap (clu n be ((rPc r[k]).map pieOf)))) (fun _ => []) (fun i => i ≤ (rPc r[k]).length) (fun i => (rPc r[k]).length - i) 0 (Nat.zero_le _) ?_ ?_
          · exact Le.sub ⟨hI0.symm, rfl, rfl, rfl, rfl, rfl, rfl, rfl, trivial⟩ trivial
          intro i hi
          refine ⟨by omega, r[k], hgk, ?_⟩
          refine ⟨fun h => ?_, fun h => ?_⟩
          · have hi1 : i < (rPc r[k]).length := by
              have h : (i : Int) < ((rPc r[k]).length : Int) := of_decide_eq_true h
              omega
            have hs := foldl_step (cluSR c) (cluI n be c) hi1
            refine ⟨by omega, r[k], hgk, by omega, (rPc r[k])[i], lget_at rfl hi1, ?_⟩
            refine ⟨fun h => ?_, fun h => ?_⟩
            · refine ⟨by omega, r[k], hgk, by omega, (rPc r[k])[i], lget_at rfl hi1, ?_⟩
              refine ⟨by omega, i + 1, hi1, by omega, ?_⟩
              rw [hs, cluSR_pos h]
              exact Le.sub ⟨rfl, rfl, rfl, rfl, rfl, rfl, rfl, rfl, trivial⟩ trivial
            · refine ⟨by omega, i + 1, hi1, by omega, ?_⟩
              rw [hs, cluSR_neg h]
              exact Le.sub ⟨rfl, rfl, rfl, rfl, rfl, rfl, rfl, rfl, trivial⟩ trivial
          · have hi1 : i = (rPc r[k]).length := by
              have h : ¬ (i : Int) < ((rPc r[k]).length : Int) := of_decide_eq_false h
              omega
            subst hi1
            rw [List.take_length, ← clu_map]
            have hadd : ((List.range c).flatMap (clu n be ((rPc r[k]).map pieOf))).length + (clu n be ((rPc r[k]).map pieOf) c).length ≤ 4294967296 := by rw [hout, hcl]; omega
            refine ⟨hadd, ?_⟩
            refine ⟨by omega, c + 1, hc1, by omega, ?_⟩
            rw [List.range_succ, List.flatMap_append]
            refine Le.sub ⟨rfl, rfl, rfl, rfl, ?_, rfl, trivial⟩ trivial
            show _ = _
            simp
      · have hc1 : c = S := by
          have h : ¬ (c : Int) < rSz r[k] := of_decide_eq_false h
          omega
        subst hc1
        exact ⟨_, _, _, Le.refl _ _, rfl, ⟨rfl, rfl, trivial⟩, trivial, rfl⟩
theorem restoreR_fuel {r : List RBup} (hI : InvP (r.map ownOf)) : ∀ (n : Nat) (nm : List UInt8), fnd (r.map ownOf) nm < n → Fn Try.prog 25 [vL uRB r, vS nm] [] [] (vRestR (restL (r.map ownOf) nm) (restE (r.map ownOf) nm)) [] := by
  intro n
  induction n with
  | zero =>
    intro nm h
    refine restoreR_step r nm hI fun b hb => ?_
    rw [(fnd_neg_iff _ _).1 (by omega)] at hb
    cases hb
  | succ n ih =>
    intro nm h
    refine restoreR_step r nm hI fun b hb hp => ih (bPa b) ?_
    rw [← lgetI_find] at hb
    obtain ⟨k, hk, hb⟩ := lgetI_some hb
    have := (hI.par k b hb (by simpa using hp)).2
    omega
theorem restoreR_spec {r : List RBup} (hI : InvP (r.map ownOf)) (nm : List UInt8) : Fn Try.prog 25 [vL uRB r, vS nm] [] [] (vRestR (restL (r.map ownOf) nm) (restE (r.map ownOf) nm)) [] :=
  restoreR_fuel hI _ nm (fnd_lt (r.map ownOf) nm)
end Go.Proofs.Ythghcdddambaeaa
/-
  The law ListDrops: the walk.
-/
set_option linter.unusedVariables false
set_option linter.unusedSimpArgs false
set_option maxRecDepth 10000
namespace Go.Proofs.Ythghcdddambaeaa
open Go.RowKit Go.Proofs

theorem ixL_erase {α : Type} (p : α → Bool) {L : List α} {q k : Nat} (hq : ixL p L = q) (hne : q ≠ k) : ixL p (L.eraseIdx k) = ((if q < k then q else q - 1 : Nat) : Int) := by
  rcases ixL_cases p L with ⟨h, _⟩ | ⟨j, x, h, hx, hp, hlt⟩
  · omega
  · obtain rfl : j = q := by omega
    have hg : ∀ i : Nat, (L.eraseIdx k)[i]? = if i < k then L[i]? else L[i + 1]? := fun i => List.getElem?_eraseIdx ..
    have hx' : (L.eraseIdx k)[if j < k then j else j - 1]? = some x := by
      rw [hg]
      by_cases h1 : j < k
      · rw [if_pos h1, if_pos h1]; exact hx
      · rw [if_neg h1, if_neg (by omega), show j - 1 + 1 = j by omega]; exact hx
    have hlt' := (List.getElem?_eq_some_iff.1 hx').1
    refine ixL_at hlt' (fun i b hi hb => ?_) (by rw [(List.getElem?_eq_some_iff.1 hx').2]; exact hp)
    rw [hg] at hb
    by_cases h1 : j < k
    · rw [if_pos h1] at hi
      rw [if_pos (by omega)] at hb
      exact hlt i b hi hb
    · rw [if_neg h1] at hi
      split at hb
      · exact hlt i b (by omega) hb
      · exact hlt (i + 1) b (by omega) hb
theorem not_par {L : List Bup} {nm : List UInt8} (h : isPar L nm = false) {b : Bup} (hb : b ∈ L) : bPa b ≠ nm := fun e => by
  obtain ⟨i, hi, rfl⟩ := List.getElem_of_mem hb
  rcases ixL_cases (fun b => decide (bPa b = nm)) L with ⟨_, hn⟩ | ⟨k, x, h2, _⟩
  · have := hn i _ (List.getElem?_eq_getElem hi)
    simp [e] at this
  · have : isPar L nm = true := by unfold isPar; rw [h2]; simp
    rw [h] at this
    cases this
theorem dropE_zero {L : List Bup} {nm : List UInt8} (h : dropE L nm = 0) : 0 ≤ fnd L nm ∧ isPar L nm = false := by
  unfold dropE at h
  split at h
  · cases h
  split at h
  · cases h
  · rename_i h1 h2
    exact ⟨by omega, by simpa using h2⟩
theorem dropL_inv {L : List Bup} (hI : InvL L) (nm : List UInt8) : InvL (dropL L nm) := by
  unfold dropL
  split
  · rename_i hE
    obtain ⟨h1, h2⟩ := dropE_zero hE
    obtain ⟨k, hk⟩ : ∃ k : Nat, fnd L nm = k := ⟨(fnd L nm).toNat, by omega⟩
    rw [hk, Int.toNat_natCast]
    refine ⟨Nat.le_trans (List.length_eraseIdx_le _ _) hI.len, fun b hb => hI.right b (List.mem_of_mem_eraseIdx hb), fun k' b hb hp => ?_⟩
    have hbm : b ∈ L := List.mem_of_mem_eraseIdx (List.mem_of_getElem? hb)
    have hne := not_par h2 hbm
    rw [List.getElem?_eraseIdx] at hb
    obtain ⟨j, hj, hjk⟩ : ∃ j, L[j]? = some b ∧ ((k' < k ∧ j = k') ∨ (k ≤ k' ∧ j = k' + 1)) := by
      split at hb
      · exact ⟨k', hb, .inl ⟨by omega, rfl⟩⟩
      · exact ⟨k' + 1, hb, .inr ⟨by omega, rfl⟩⟩
    obtain ⟨p1, p2⟩ := hI.par j b hj hp
    obtain ⟨q, hq⟩ : ∃ q : Nat, fnd L (bPa b) = q := ⟨(fnd L (bPa b)).toNat, by omega⟩
    have hqk : q ≠ k := fun e => by
      subst e
      have a1 := lgetI_find L (bPa b)
      have a2 := lgetI_find L nm
      rw [hq] at a1
      rw [hk] at a2
      obtain ⟨x, hx⟩ := find_there (L := L) (nm := nm) (by omega)
      rw [hx] at a2
      rw [a2] at a1
      have b1 := List.find?_some hx
      have b2 := List.find?_some a1.symm
      simp only [decide_eq_true_eq] at b1 b2
      exact hne (b2.symm.trans b1)
    have he : fnd (L.eraseIdx k) (bPa b) = ((if q < k then q else q - 1 : Nat) : Int) := ixL_erase _ hq hqk
    rw [he]
    split <;> omega
  · exact hI
/-- All others are restored as they were. -/
theorem drop_stays {L : List Bup} (hI : InvL L) {nm nm' : List UInt8} (h : ¬ (nm' = nm ∧ dropE L nm = 0)) : restL (dropL L nm) nm' = restL L nm' ∧ restE (dropL L nm) nm' = restE L nm' := by
  unfold dropL
  split
  · rename_i hE
    have hn : nm' ≠ nm := fun e => h ⟨e, hE⟩
    obtain ⟨h1, h2⟩ := dropE_zero hE
    obtain ⟨x, hx⟩ := find_there h1
    have hxm : (fnd L nm).toNat < L.length ∧ L[(fnd L nm).toNat]? = some x := by
      have a2 := lgetI_find L nm
      unfold lgetI at a2
      rw [if_pos h1, hx] at a2
      exact ⟨(List.getElem?_eq_some_iff.1 a2).1, a2⟩
    have b1 := List.find?_some hx
    simp only [decide_eq_true_eq] at b1
    have hf : ∀ nm', nm' ≠ nm → (L.eraseIdx (fnd L nm).toNat).find? (fun b => decide (bNm b = nm')) = L.find? (fun b => decide (bNm b = nm')) := fun nm' hn =>
      find_erase _ L _ x hxm.2 (by rw [b1]; simpa using fun e => hn e.symm)
    have hlt := fnd_lt L nm'
    have hl : (L.eraseIdx (fnd L nm).toNat).length = L.length - 1 := List.length_eraseIdx_of_lt hxm.1
    refine ⟨?_, ?_⟩
    · unfold restL
      rw [restB_find nm hf (fun b hb => not_par h2 hb) _ nm' hn]
      exact restB_fuel hI _ _ _ (by omega) (by omega)
    · unfold restE
      have e : fnd (L.eraseIdx (fnd L nm).toNat) nm' < 0 ↔ fnd L nm' < 0 := by rw [fnd_neg_iff, fnd_neg_iff, hf nm' hn]
      rw [show decide (fnd (L.eraseIdx (fnd L nm).toNat) nm' < 0) = decide (fnd L nm' < 0) from decide_eq_decide.2 e]
  · exact ⟨rfl, rfl⟩
/-- The document's list behind calls. -/
def rOp (r : List RBup) (o : LOp) : List RBup := if decide (dKind o = 0) = true then addR r (bO o) else r
theorem rOp_map (r : List RBup) (o : LOp) : (rOp r o).map ownOf = addOp (r.map ownOf) o := by
  unfold rOp addOp
  split
  · exact addR_map r _
  · rfl
theorem rOps_inv (l : List LOp) : ∀ r : List RBup, InvP (r.map ownOf) → InvP ((l.foldl rOp r).map ownOf) := by
  induction l with
  | nil => exact fun r h => h
  | cons o l ih =>
    refine fun r h => ih _ ?_
    rw [rOp_map]
    unfold addOp
    split
    · exact h.add _
    · exact h
def parR (r : List RBup) (nm : List UInt8) : Bool := r.any fun b => decide (rPa b = nm)
theorem parR_eq (r : List RBup) (nm : List UInt8) : parR r nm = isPar (r.map ownOf) nm := by
  unfold parR isPar
  rw [ixL_map]
  rcases ixL_cases (fun x => decide (bPa (ownOf x) = nm)) r with ⟨h, hn⟩ | ⟨k, x, h, hx, hp, _⟩
  · rw [h, List.any_eq_false.2 fun x hx => by
      obtain ⟨i, hi, rfl⟩ := List.getElem_of_mem hx
      have := hn i _ (List.getElem?_eq_getElem hi)
      exact fun h2 => by have this : decide (rPa r[i] = nm) = false := this; rw [this] at h2; cases h2]
    rfl
  · rw [h, List.any_eq_true.2 ⟨x, List.mem_of_getElem? hx, hp⟩]
    simp
@[reducible] def drK1 (l : List LOp) (nm : List UInt8) (r : List RBup) (k : Nat) : KL := [(1, vS nm), (5, vP 1001), (6, vL uRB r), (34, vL uLO l), (35, vI (l.length : Nat)), (36, vI (k : Nat))]
@[reducible] def drK2 (nm : List UInt8) (r : List RBup) (p : Bool) (k : Nat) : KL := [(1, vS nm), (5, vP 1001), (6, vL uRB r), (11, vB p), (57, vL uRB r), (58, vI (r.length : Nat)), (59, vI (k : Nat))]
@[reducible] def drK3 (nm : List UInt8) (r : List RBup) (e : Int) (k : Nat) : KL := [(1, vS nm), (5, vP 1001), (6, vL uRB r), (14, vI e), (85, vL uRB r), (86, vI (r.length : Nat)), (87, vI (k : Nat))]
set_option maxRecDepth 100000 in
set_option maxHeartbeats 4000000 in
theorem ldrops_spec (l : List LOp) (nm : List UInt8) (hl : l.length ≤ 1000000) (hc : costs l ≤ 1000000000) (hks : ∀ o, o ∈ l → (fKs (oF o)).length ≤ 1000000) : Fn Try.prog 4 [vL uLO l, vS nm] [] [] (vB true) [] := by
  refine Fn.of tblOK [] _ _ _ _ _ Try.func4 rfl rfl (by kernel_rfl) (by kernel_rfl) rfl (drawOK tblOK) rfl ?_
  refine ⟨_, _, _, _, new_spec, trivial, rfl, ?_⟩
  refine ⟨_, _, _, _, few_spec l hl hc hks, trivial, rfl, ?_⟩
  refine ⟨fun h => ?_, fun h1 => ?_⟩
  · refine ⟨_, _, _, _, alive_spec, trivial, rfl, ?_⟩
    exact ⟨_, _, _, Le.refl _ _, rfl, rfl, trivial, rfl⟩
  have hf1 : fewL l = true := by simpa using h1
  have hc1 : costs l ≤ 4000 := by
    unfold fewL at hf1
    simp only [Bool.and_eq_true, decide_eq_true_eq] at hf1
    exact hf1.2
  show TrQ _ _ _ _ _ _ _
  refine TrQ.loop tblOK (drawOK tblOK) [] (by kernel_rfl) (X := Nat) (fun k => drK1 l nm ((l.take k).foldl rOp []) k) (fun k => lstR 1002 (((l.take k).foldl rOp []).map ownOf)) (fun k => k ≤ l.length) (fun k => l.length - k) 0 (Nat.zero_le _) ?_ ?_
  · exact Le.sub ⟨rfl, rfl, rfl, rfl, rfl, rfl, trivial⟩ ⟨rfl, rfl, trivial⟩
  intro k hk
  refine ⟨fun h => ?_, fun h => ?_⟩
  · have hk1 : k < l.length := by simpa using h
    obtain ⟨s1, s2, s3⟩ := cost_small (List.getElem_mem hk1) hc1
    have hI := rOps_inv (l.take k) [] InvP.nil
    have hs := foldl_step rOp [] hk1
    generalize List.foldl rOp [] (l.take k) = r at *
    have hlen := hI.len
    rw [List.length_map] at hlen
    refine ⟨by omega, l[k], lget_at rfl hk1, rfl, ?_⟩
    have hm := rOp_map r l[k]
    generalize l[k] = o at *
    have hrp : ∀ p, p ∈ rPc (bO o) → (rB p).length ≤ 4294967296 := fun p hp => by have := s3 p hp; omega
    refine ⟨fun h => ?_, fun h => ?_⟩
    · refine ⟨_, _, _, _, addR_spec r (bO o) (by omega) (Nat.le_trans s1 (by decide)) (by omega) hrp, trivial, rfl, ?_⟩
      refine ⟨_, _, _, _, own_spec (bO o) (by omega) hrp, trivial, rfl, ?_⟩
      refine ⟨_, _, _, _, add_spec (r.map ownOf) (ownOf (bO o)) (by rw [List.length_map]; omega) (Nat.le_trans s1 (by decide)) (by
        show ((rPc (bO o)).map pieOf).length ≤ 1000000
        rw [List.length_map]; omega) (fun p hp => by
        obtain ⟨q, hq, rfl⟩ := List.mem_map.1 hp
        exact Nat.le_trans (s3 q hq) (by decide)), ⟨rfl, rfl, trivial⟩, rfl, ?_⟩
      have e1 : rOp r o = addR r (bO o) := by unfold rOp; rw [if_pos h]
      rw [e1] at hs hm
      rw [addR_map] at hm
      refine ⟨by omega, k + 1, hk1, by omega, ?_⟩
      rw [hs]
      refine Le.trans (Le.sub (K' := drK1 l nm (addR r (bO o)) (k + 1)) (B' := lstR 1003 ((addR r (bO o)).map ownOf)) ⟨rfl, rfl, rfl, rfl, rfl, rfl, trivial⟩ ⟨rfl, ?_, trivial⟩) (Le.ren 1003 1002 rfl)
      rw [addR_map]
      rfl
    · have e1 : rOp r o = r := by unfold rOp; rw [if_neg (by rw [show decide (dKind o = 0) = false from h]; simp)]
      rw [e1] at hs
      refine ⟨by omega, k + 1, hk1, by omega, ?_⟩
      rw [hs]
      exact Le.sub ⟨rfl, rfl, rfl, rfl, rfl, rfl, trivial⟩ ⟨rfl, rfl, trivial⟩
  have hk1 : k = l.length := by have : ¬ k < l.length := by simpa using h
                                omega
  subst hk1
  rw [List.take_length]
  have hI := rOps_inv l [] InvP.nil
  generalize List.foldl rOp [] l = r at *
  have hlen := hI.len
  rw [List.length_map] at hlen
  show TrQ _ _ _ _ _ _ _
  refine TrQ.loop tblOK (drawOK tblOK) [] (by kernel_rfl) (X := Nat) (fun k => drK2 nm r (parR (r.take k) nm) k) (fun _ => lstR 1002 (r.map ownOf)) (fun k => k ≤ r.length) (fun k => r.length - k) 0 (Nat.zero_le _) ?_ ?_
  · exact Le.sub ⟨rfl, rfl, rfl, rfl, rfl, rfl, rfl, trivial⟩ ⟨rfl, rfl, trivial⟩
  intro k hk
  refine ⟨fun h => ?_, fun h => ?_⟩
  · have hk1 : k < r.length := by simpa using h
    have ht : parR (r.take (k + 1)) nm = (parR (r.take k) nm || decide (rPa r[k] = nm)) := any_take _ hk1
    refine ⟨by omega, r[k], lget_at rfl hk1, rfl, ?_⟩
    refine ⟨fun h => ?_, fun h => ?_⟩
    · refine ⟨by omega, k + 1, hk1, by omega, ?_⟩
      rw [ht]
      refine Le.sub ⟨rfl, rfl, rfl, ?_, rfl, rfl, rfl, trivial⟩ ⟨rfl, rfl, trivial⟩
      show true = _
      rw [show parR (r.take k) nm = true from h]; rfl
    · refine ⟨by omega, k + 1, hk1, by omega, ?_⟩
      rw [ht]
      refine Le.sub ⟨rfl, rfl, rfl, ?_, rfl, rfl, rfl, trivial⟩ ⟨rfl, rfl, trivial⟩
      show _ = (_ : Bool)
      rw [show parR (r.take k) nm = false from h]; rfl
  have hk1 : k = r.length := by have : ¬ k < r.length := by simpa using h
                                omega
  subst hk1
  rw [List.take_length]
  have hpe := parR_eq r nm
  generalize hpv : parR r nm = pv at *
  have hD := drop_spec (r.map ownOf) nm (by rw [List.length_map]; omega)
  have hI2 := dropL_inv hI.toInvL nm
  have hst := fun nm' h => drop_stays hI.toInvL (nm := nm) (nm' := nm') h
  have hEv : dropE (r.map ownOf) nm = if fnd (r.map ownOf) nm < 0 then 181 else if pv = true then 1 else 0 := by rw [hpe]; rfl
  have hF := findR_spec r nm (by omega)
  generalize dropE (r.map ownOf) nm = e at *
  generalize dropL (r.map ownOf) nm = L' at *
  generalize fnd (r.map ownOf) nm = f at *
  refine ⟨_, _, _, _, hD, ⟨rfl, rfl, trivial⟩, rfl, ?_⟩
  refine ⟨_, _, _, _, hF, trivial, rfl, ?_⟩
  have key : decide (e = 0) = (decide (0 ≤ f) && !pv) := by
    rw [hEv]
    by_cases h1 : f < 0
    · rw [if_pos h1]; simp; omega
    · rw [if_neg h1]
      cases pv <;> simp <;> omega
  refine ⟨fun h => ?cA, fun h => ?cB⟩
  case' cA =>
    refine ⟨fun h2 => absurd (show (!(decide (e = 0) == !pv)) = true from h2) (by rw [key, show decide (0 ≤ f) = true from h]; simp), fun h2 => ?_⟩
  case' cB =>
    refine ⟨fun h2 => absurd (show (!(decide (e = 0) == false)) = true from h2) (by rw [key, show decide (0 ≤ f) = false from h]; simp), fun h2 => ?_⟩
  all_goals
    clear h h2 key hEv hF hD hpv hpe
    show TrQ _ _ _ _ _ _ _
    refine TrQ.loop tblOK (drawOK tblOK) [] (by kernel_rfl) (X := Nat) (drK3 nm r e) (fun _ => lstR 1003 L') (fun k => k ≤ r.length) (fun k => r.length - k) 0 (Nat.zero_le _) ?_ ?_
    · exact Le.sub ⟨rfl, rfl, rfl, rfl, rfl, rfl, rfl, trivial⟩ ⟨rfl, rfl, trivial⟩
    intro k hk
    refine ⟨fun h => ?_, fun h => ?_⟩
    · have hk1 : k < r.length := by simpa using h
      refine ⟨by omega, r[k], lget_at rfl hk1, rfl, ?_⟩
      generalize hrk : r[k] = b at *
      refine ⟨fun h => ?_, fun h => ?_⟩
      focus
        refine ⟨fun h4 => ?_, fun h4 => ?_⟩
        · refine ⟨by omega, k + 1, hk1, by omega, ?_⟩
          exact Le.sub ⟨rfl, rfl, rfl, rfl, rfl, rfl, rfl, trivial⟩ ⟨rfl, rfl, trivial⟩
        have hcond : ¬ (rNm b = nm ∧ e = 0) := fun hh => by
          have h4 : decide (e = 0) = false := h4
          rw [hh.2] at h4
          cases h4
      rotate_left
      focus
        have hcond : ¬ (rNm b = nm ∧ e = 0) := fun hh => by
          have h : decide (rNm b = nm) = false := h
          simp [hh.1] at h
      all_goals
        obtain ⟨w1, w2⟩ := hst (rNm b) hcond
        have hA := restore_spec hI2 (rNm b)
        have hB := restoreR_spec hI (rNm b)
        rw [w1, w2] at hA
        generalize restL (r.map ownOf) (rNm b) = x at *
        generalize restE (r.map ownOf) (rNm b) = g at *
        refine ⟨_, _, _, _, Fn.ren [(1002, 1003)] hA, ⟨rfl, rfl, trivial⟩, rfl, ?_⟩
        refine ⟨_, _, _, _, hB, trivial, rfl, ?_⟩
        refine ⟨fun h => absurd (show (!decide (g = g)) = true from h) (by simp), fun h => ?_⟩
        refine ⟨fun h => absurd (show (!decide (x = x)) = true from h) (by simp), fun h => ?_⟩
        refine ⟨by omega, k + 1, hk1, by omega, ?_⟩
        exact Le.sub ⟨rfl, rfl, rfl, rfl, rfl, rfl, rfl, trivial⟩ ⟨rfl, rfl, trivial⟩
    refine ⟨_, _, _, _, alive_spec, trivial, rfl, ?_⟩
    exact ⟨_, _, _, Le.refl _ _, rfl, rfl, trivial, rfl⟩
end Go.Proofs.Ythghcdddambaeaa
