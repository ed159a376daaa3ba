/-
  Whether a backup may be, but for its parent.
-/
import Derived.Test.YthghcdddambaeaaL1
set_option linter.unusedVariables false
set_option linter.unusedSimpArgs false
set_option maxRecDepth 10000
namespace Go.Proofs.Ythghcdddambaeaa
open Go.RowKit Go.Proofs

/-- How many bytes a cluster has. -/
def clB (bits : Int) : Int := 16 * ((2 ^ bits.toNat : Nat) : Int)
theorem pow_bits {bi : Int} (h0 : 0 ≤ bi) (h1 : bi ≤ 3) : 1 ≤ ((2 ^ bi.toNat : Nat) : Int) ∧ ((2 ^ bi.toNat : Nat) : Int) ≤ 8 := by
  have : bi = 0 ∨ bi = 1 ∨ bi = 2 ∨ bi = 3 := by omega
  rcases this with rfl | rfl | rfl | rfl <;> decide
theorem clB_le {bi : Int} (h0 : 0 ≤ bi) (h1 : bi ≤ 3) : 16 ≤ clB bi ∧ clB bi ≤ 128 := by
  have := pow_bits h0 h1
  unfold clB
  omega
/-- Do the pieces rise, above 'last', below 'size', each of 'n' bytes? -/
def okP (size n : Int) : Int → List Pie → Bool
  | _, [] => true
  | last, p :: r => !(decide (pC p ≤ last) || decide (size ≤ pC p) || !decide (((pB p).length : Int) = n)) && okP size n (pC p) r
/-- Whether a backup may be, but for its parent. -/
def rightB (b : Bup) : Bool :=
  nameOK (bNm b) && decide (0 ≤ bBits b) && decide (bBits b ≤ 3) && decide (0 ≤ bSz b) && decide (bSz b ≤ 256) && okP (bSz b) (clB (bBits b)) (-1) (bPc b) &&
    (!decide (bPa b = []) || decide (((bPc b).length : Int) = bSz b))
theorem bytes_spec (b : Bup) (h0 : 0 ≤ bBits b) (h1 : bBits b ≤ 3) : Fn Try.prog 59 [bkV b] [] [] (vI (clB (bBits b))) [] := by
  have hp := pow_bits h0 h1
  refine Fn.of tblOK [] _ _ _ _ _ Try.func59 rfl rfl (by kernel_rfl) (by kernel_rfl) rfl (drawOK tblOK) rfl ?_
  refine ⟨rfl, ?_⟩
  refine ⟨⟨by omega, by omega, by omega⟩, ⟨by omega, by omega⟩, ?_⟩
  exact ⟨_, _, _, Le.refl _ _, rfl, rfl, trivial, rfl⟩
theorem okP_step (size n last : Int) (l : List Pie) (k : Nat) (hk : k < l.length) : okP size n last (l.drop k) = (!(decide (pC l[k] ≤ last) || decide (size ≤ pC l[k]) || !decide (((pB l[k]).length : Int) = n)) && okP size n (pC l[k]) (l.drop (k + 1))) := by
  rw [List.drop_eq_getElem_cons hk]
  rfl
set_option maxHeartbeats 1000000 in
theorem right_spec (b : Bup) (hn : (bNm b).length ≤ 4294967296) (hl : (bPc b).length ≤ 4294967296) (hp : ∀ p, p ∈ bPc b → (pB p).length ≤ 4294967296) : Fn Try.prog 57 [bkV b] [] [] (vB (rightB b)) [] := by
  refine Fn.of tblOK [] _ _ _ _ _ Try.func57 rfl rfl (by kernel_rfl) (by kernel_rfl) rfl (drawOK tblOK) rfl ?_
  refine ⟨rfl, ?_⟩
  refine ⟨_, _, _, _, files_Right_fn _ hn, trivial, rfl, ?_⟩
  refine ⟨fun h => ?_, fun h1 => ?_⟩
  · exact ⟨_, _, _, Le.refl _ _, rfl, (show false = rightB b by simp_all [rightB]), trivial, rfl⟩
  refine ⟨fun h => ?_, fun h2 => ?_⟩
  · exact ⟨_, _, _, Le.refl _ _, rfl, (show false = rightB b by simp at h; simp [rightB]; omega), trivial, rfl⟩
  refine ⟨fun h => ?_, fun h3 => ?_⟩
  · exact ⟨_, _, _, Le.refl _ _, rfl, (show false = rightB b by simp at h; simp [rightB]; omega), trivial, rfl⟩
  refine ⟨fun h => ?_, fun h4 => ?_⟩
  · exact ⟨_, _, _, Le.refl _ _, rfl, (show false = rightB b by simp at h; simp [rightB]; omega), trivial, rfl⟩
  refine ⟨fun h => ?_, fun h5 => ?_⟩
  · exact ⟨_, _, _, Le.refl _ _, rfl, (show false = rightB b by simp at h; simp [rightB]; omega), trivial, rfl⟩
  simp only [decide_eq_false_iff_not, Bool.not_eq_false'] at h1 h2 h3 h4 h5
  have hr : rightB b = (okP (bSz b) (clB (bBits b)) (-1) (bPc b) && (!decide (bPa b = []) || decide (((bPc b).length : Int) = bSz b))) := by
    unfold rightB
    rw [h1, decide_eq_true (show 0 ≤ bBits b by omega), decide_eq_true (show bBits b ≤ 3 by omega), decide_eq_true (show 0 ≤ bSz b by omega), decide_eq_true (show bSz b ≤ 256 by omega)]
    simp
  show TrQ _ _ _ _ _ _ _
  refine TrQ.loop tblOK (drawOK tblOK) [] (by kernel_rfl) (X := Nat × Int) (fun x => [(1, vP 1), (31, vL uP (bPc b)), (3, vI x.2), (32, vI ((bPc b).length : Nat)), (33, vI (x.1 : Nat))]) (fun _ => [(1, .cells (bkL b))]) (fun x => x.1 ≤ (bPc b).length ∧ okP (bSz b) (clB (bBits b)) (-1) (bPc b) = okP (bSz b) (clB (bBits b)) x.2 ((bPc b).drop x.1)) (fun x => (bPc b).length - x.1) (0, -1) ⟨Nat.zero_le _, rfl⟩ ?_ ?_
  · exact Le.sub ⟨rfl, rfl, rfl, rfl, rfl, trivial⟩ ⟨rfl, trivial⟩
  rintro ⟨k, last⟩ ⟨hk, hi⟩
  refine ⟨fun h => ?_, fun h => ?_⟩
  · have hk1 : k < (bPc b).length := by simpa using h
    rw [okP_step _ _ _ _ _ hk1] at hi
    have hpl := hp _ (List.getElem_mem hk1)
    refine ⟨by omega, (bPc b)[k], lget_at rfl hk1, rfl, ?_⟩
    refine ⟨fun h => ?_, fun h6 => ?_⟩
    · refine ⟨rfl, ?_⟩
      exact ⟨_, _, _, Le.refl _ _, rfl, (show false = rightB b by rw [hr, hi, h]; rfl), trivial, rfl⟩
    refine ⟨fun h => ?_, fun h7 => ?_⟩
    · refine ⟨rfl, ?_⟩
      exact ⟨_, _, _, Le.refl _ _, rfl, (show false = rightB b by rw [hr, hi, h6, h]; rfl), trivial, rfl⟩
    refine ⟨_, _, _, _, bytes_spec b (by omega) (by omega), trivial, rfl, rfl, ?_⟩
    refine ⟨fun h => ?_, fun h8 => ?_⟩
    · exact ⟨_, _, _, Le.refl _ _, rfl, (show false = rightB b by rw [hr, hi, h6, h7, show (!decide (((pB (bPc b)[k]).length : Int) = clB (bBits b))) = true from h]; rfl), trivial, rfl⟩
    · refine ⟨by omega, (k + 1, pC (bPc b)[k]), ⟨by simp only; omega, ?_⟩, by simp only; omega, ?_⟩
      · rw [hi, h6, h7, show (!decide (((pB (bPc b)[k]).length : Int) = clB (bBits b))) = false from h8]; rfl
      · exact Le.sub ⟨rfl, rfl, rfl, rfl, rfl, trivial⟩ ⟨rfl, trivial⟩
  · have hk1 : ¬ k < (bPc b).length := by simpa using h
    rw [List.drop_eq_nil_of_le (by omega)] at hi
    refine ⟨fun h => ?_, fun h => ?_⟩
    · exact ⟨_, _, _, Le.refl _ _, rfl, (show true = rightB b by rw [hr, hi, show (!decide (bPa b = [])) = true from h]; rfl), trivial, rfl⟩
    · exact ⟨_, _, _, Le.refl _ _, rfl, (show decide (((bPc b).length : Int) = bSz b) = rightB b by rw [hr, hi, show (!decide (bPa b = [])) = false from h]; rfl), trivial, rfl⟩
end Go.Proofs.Ythghcdddambaeaa
