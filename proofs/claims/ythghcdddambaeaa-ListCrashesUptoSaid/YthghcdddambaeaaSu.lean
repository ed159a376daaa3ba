/-
  Sums: Of.
-/
import Derived.Test.YthghcdddambaeaaTbl
import Derived.Test.YthghcdddambaeaaSt2
set_option linter.unusedVariables false
set_option linter.unusedSimpArgs false
set_option maxRecDepth 10000
namespace Go.Proofs.Ythghcdddambaeaa
open Go.RowKit Go.Proofs
def stepA (c : UInt8) (p : Int × Int) : Int × Int := ((p.1 + (UInt8.toNat c : Int)) % 65521, (p.2 + (p.1 + (UInt8.toNat c : Int)) % 65521) % 65521)
def adl (x : List UInt8) (p : Int × Int) : Int × Int := x.foldl (fun p c => stepA c p) p
def okA (p : Int × Int) : Prop := (0 ≤ p.1 ∧ p.1 < 65521) ∧ (0 ≤ p.2 ∧ p.2 < 65521)
theorem stepA_ok {c : UInt8} {p : Int × Int} (h : okA p) : okA (stepA c p) := by
  unfold okA stepA
  simp only
  have := h.1
  have := h.2
  omega
theorem adl_ok : ∀ {x : List UInt8} {p : Int × Int}, okA p → okA (adl x p)
  | [], _, h => h
  | c :: x, p, h => adl_ok (x := x) (stepA_ok h)
theorem adl_snoc (x : List UInt8) (c : UInt8) (p : Int × Int) : adl (x ++ [c]) p = stepA c (adl x p) := by
  unfold adl
  rw [List.foldl_append]
  rfl
theorem adl_app (x y : List UInt8) (p : Int × Int) : adl (x ++ y) p = adl y (adl x p) := by
  unfold adl
  rw [List.foldl_append]
def sumO (x : List UInt8) : Int := 65536 * (adl x (1, 0)).2 + (adl x (1, 0)).1
theorem sumO_ok (x : List UInt8) : 0 ≤ sumO x ∧ sumO x < 4294967296 := by
  have h := adl_ok (x := x) (p := (1, 0)) ⟨by decide, by decide⟩
  unfold sumO
  have := h.1
  have := h.2
  omega
theorem sumStep_fn (c : UInt8) (p : Int × Int) (h : okA p) : Fn Try.prog 119 [v1 (.d (.int .u8 (UInt8.toNat c : Int))), vP 1001, vP 1002] [(1001, .cells [.d (.int .i64 p.1)]), (1002, .cells [.d (.int .i64 p.2)])] [] (.tup [.one (.d (.int .i64 (stepA c p).1)), .one (.d (.int .i64 (stepA c p).2))]) [(1001, .cells [.d (.int .i64 p.1)]), (1002, .cells [.d (.int .i64 p.2)])] := by
  have hc : UInt8.toNat c < 256 := UInt8.toNat_lt c
  obtain ⟨⟨h1, h2⟩, h3, h4⟩ := h
  refine Fn.of tblOK [] _ _ _ _ _ Try.func119 rfl rfl (by kernel_rfl) (by kernel_rfl) rfl (drawOK tblOK) rfl ?_
  have q1 : -9223372036854775808 ≤ (UInt8.toNat c : Int) ∧ (UInt8.toNat c : Int) ≤ 9223372036854775807 := by omega
  refine ⟨q1, ?_⟩
  have q2 : -9223372036854775808 ≤ p.1 + (UInt8.toNat c : Int) ∧ p.1 + (UInt8.toNat c : Int) ≤ 9223372036854775807 := by omega
  refine ⟨q2, ?_⟩
  have q3 : 0 ≤ p.1 + (UInt8.toNat c : Int) ∧ (0 : Int) < 65521 := by omega
  have q4 : -9223372036854775808 ≤ (p.1 + (UInt8.toNat c : Int)) % 65521 ∧ (p.1 + (UInt8.toNat c : Int)) % 65521 ≤ 9223372036854775807 := by omega
  refine ⟨q3, q4, ?_⟩
  have q5 : -9223372036854775808 ≤ p.2 + (p.1 + (UInt8.toNat c : Int)) % 65521 ∧ p.2 + (p.1 + (UInt8.toNat c : Int)) % 65521 ≤ 9223372036854775807 := by omega
  refine ⟨q5, ?_⟩
  have q6 : 0 ≤ p.2 + (p.1 + (UInt8.toNat c : Int)) % 65521 ∧ (0 : Int) < 65521 := by omega
  have q7 : -9223372036854775808 ≤ (p.2 + (p.1 + (UInt8.toNat c : Int)) % 65521) % 65521 ∧ (p.2 + (p.1 + (UInt8.toNat c : Int)) % 65521) % 65521 ≤ 9223372036854775807 := by omega
  refine ⟨q6, q7, rfl, ?_⟩
  exact ⟨_, _, _, Le.refl _ _, rfl, ⟨rfl, rfl, trivial⟩, ⟨rfl, rfl, trivial⟩, rfl⟩
@[reducible] def ofB (p : Int × Int) : BL := [(3, .cells [.d (.int .i64 p.1)]), (4, .cells [.d (.int .i64 p.2)])]
@[reducible] def ofK (ps : List (List UInt8)) (i : Nat) : KL := [(3, vP 3), (4, vP 4), (5, .c (.one (.clo 119 [.p 3 0, .p 4 0]))), (11, vL (.sl .u8) ps), (12, vI (ps.length : Nat)), (13, vI (i : Nat))]
@[reducible] def ofK2 (ps : List (List UInt8)) (i : Nat) (x : List UInt8) (j : Nat) : KL := [(3, vP 3), (4, vP 4), (5, .c (.one (.clo 119 [.p 3 0, .p 4 0]))), (11, vL (.sl .u8) ps), (12, vI (ps.length : Nat)), (13, vI (i : Nat)), (17, vL .u8 x), (18, vI (x.length : Nat)), (19, vI (j : Nat))]
theorem flat_succ {ps : List (List UInt8)} {i : Nat} (h : i < ps.length) : (ps.take (i + 1)).flatten = (ps.take i).flatten ++ ps[i] := by
  rw [List.take_succ_eq_append_getElem h, List.flatten_append]
  simp
theorem sumOf_fn (ps : List (List UInt8)) (hl : ps.length ≤ 1000000) (hp : ∀ x ∈ ps, x.length ≤ 4294967296) : Fn Try.prog 87 [vL (.sl .u8) ps] [] [] (vI (sumO ps.flatten)) [] := by
  refine Fn.of tblOK [] _ _ _ _ _ Try.func87 rfl rfl (by kernel_rfl) (by kernel_rfl) rfl (drawOK tblOK) rfl ?_
  refine ⟨rfl, ?_⟩
  refine ⟨rfl, ?_⟩
  show TrQ _ _ _ _ _ _ _
  refine TrQ.loop tblOK (drawOK tblOK) [] (by kernel_rfl) (X := Nat) (ofK ps) (fun i => ofB (adl (ps.take i).flatten (1, 0))) (fun i => i ≤ ps.length) (fun i => ps.length - i) 0 (Nat.zero_le _) ?_ ?_
  · exact Le.sub ⟨rfl, rfl, rfl, rfl, rfl, rfl, trivial⟩ ⟨rfl, rfl, trivial⟩
  intro i hi
  refine ⟨fun h => ?_, fun h => ?_⟩
  · have h : decide ((i : Int) < (ps.length : Int)) = true := h
    have hi1 : i < ps.length := by simpa using h
    have hx := hp _ (List.getElem_mem hi1)
    refine ⟨by omega, ps[i], lgAt (n := i) hi1, ?_⟩
    show TrQ _ _ _ _ _ _ _
    refine TrQ.loop tblOK (drawOK tblOK) [] (by kernel_rfl) (X := Nat) (fun j => ofK2 ps i ps[i] j) (fun j => ofB (adl ((ps.take i).flatten ++ ps[i].take j) (1, 0))) (fun j => j ≤ ps[i].length) (fun j => ps[i].length - j) 0 (Nat.zero_le _) ?_ ?_
    · refine Le.sub ⟨rfl, rfl, rfl, rfl, rfl, rfl, rfl, rfl, rfl, trivial⟩ ⟨?_, ?_, trivial⟩
      · rw [List.take_zero, List.append_nil]; rfl
      · rw [List.take_zero, List.append_nil]; rfl
    intro j hj
    refine ⟨fun h2 => ?_, fun h2 => ?_⟩
    · have h2 : decide ((j : Int) < (ps[i].length : Int)) = true := h2
      have hj1 : j < ps[i].length := by simpa using h2
      have hs : adl ((ps.take i).flatten ++ ps[i].take (j + 1)) (1, 0) = stepA ps[i][j] (adl ((ps.take i).flatten ++ ps[i].take j) (1, 0)) := by
        rw [List.take_succ_eq_append_getElem hj1, ← List.append_assoc, adl_snoc]
      have hok := adl_ok (x := (ps.take i).flatten ++ ps[i].take j) (p := (1, 0)) ⟨by decide, by decide⟩
      refine ⟨by omega, ps[i][j], lgAt (n := j) hj1, ?_⟩
      refine ⟨_, _, _, _, Fn.ren [(1001, 3), (1002, 4)] (sumStep_fn ps[i][j] _ hok), ⟨rfl, rfl, trivial⟩, rfl, ?_⟩
      refine ⟨by omega, j + 1, by omega, by omega, Le.sub ⟨rfl, rfl, rfl, rfl, rfl, rfl, rfl, rfl, rfl, trivial⟩ ⟨?_, ?_, trivial⟩⟩
      · rw [hs]; rfl
      · rw [hs]; rfl
    · have h2 : decide ((j : Int) < (ps[i].length : Int)) = false := h2
      have hj1 : j = ps[i].length := by simp at h2; omega
      subst hj1
      refine ⟨by omega, i + 1, by omega, by omega, Le.sub ⟨rfl, rfl, rfl, rfl, rfl, rfl, trivial⟩ ⟨?_, ?_, trivial⟩⟩
      · rw [flat_succ hi1, List.take_length]; rfl
      · rw [flat_succ hi1, List.take_length]; rfl
  · have h : decide ((i : Int) < (ps.length : Int)) = false := h
    have hi1 : i = ps.length := by simp at h; omega
    subst hi1
    rw [List.take_length]
    obtain ⟨⟨h1, h2⟩, h3, h4⟩ := adl_ok (x := ps.flatten) (p := (1, 0)) ⟨by decide, by decide⟩
    have q1 : -9223372036854775808 ≤ 65536 * (adl ps.flatten (1, 0)).2 ∧ 65536 * (adl ps.flatten (1, 0)).2 ≤ 9223372036854775807 := by omega
    refine ⟨q1, ?_⟩
    have q2 : -9223372036854775808 ≤ 65536 * (adl ps.flatten (1, 0)).2 + (adl ps.flatten (1, 0)).1 ∧ 65536 * (adl ps.flatten (1, 0)).2 + (adl ps.flatten (1, 0)).1 ≤ 9223372036854775807 := by omega
    refine ⟨q2, ?_⟩
    exact ⟨_, _, _, Le.refl _ _, rfl, rfl, trivial, rfl⟩
end Go.Proofs.Ythghcdddambaeaa
