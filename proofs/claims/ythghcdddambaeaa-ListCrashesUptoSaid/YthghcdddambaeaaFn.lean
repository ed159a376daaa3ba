/-
  Files: Names; the law's alive (layer 4); FilesNames.
-/
import Derived.Test.YthghcdddambaeaaKs
import Derived.Test.YthghcdddambaeaaFl
import Derived.Test.YthghcdddambaeaaSm
set_option linter.unusedVariables false
set_option linter.unusedSimpArgs false
set_option maxRecDepth 10000
namespace Go.Proofs.Ythghcdddambaeaa
open Go.RowKit Go.Proofs
/-- The files' names are right: no name twice, none too long. -/
structure NamesOK {vu : U} (es : List (El .str × El vu)) : Prop where
  nd : (mkeys es).Nodup
  ok : ∀ s ∈ mkeys es, nameOK s = true
  few : es.length ≤ 16
theorem nameOK_le {s : List UInt8} (h : nameOK s = true) : s.length ≤ 15 := by
  simp [nameOK] at h
  exact h.1.2
theorem NamesOK.le {vu : U} {es : List (El .str × El vu)} (h : NamesOK es) : ∀ s ∈ mkeys es, s.length ≤ maxLen := fun s hs => by
  have := nameOK_le (h.ok s hs)
  have : (15 : Nat) ≤ maxLen := by decide
  omega
theorem fnames_spec (room : Int) (es : List (El .str × El .adr)) (h : NamesOK es) : Fn Try.prog 44 [vP 1001] (flB 1001 1002 room es) [] (vL .str (keysS es)) (flB 1001 1002 room es) := by
  refine Fn.of tblOK [] _ _ _ _ _ Try.func44 rfl rfl (by kernel_rfl) (by kernel_rfl) rfl (drawOK tblOK) rfl ?_
  refine ⟨_, _, _, _, Fn.ren [(1001, 1002)] (mapsKeys_fn es), ⟨rfl, trivial⟩, rfl, ?_⟩
  refine ⟨_, _, _, _, Fn.ren [(1001, 1002)] (sortedKeys_fn es h.nd h.le (by have := h.few; omega)), ⟨rfl, rfl, trivial⟩, rfl, ?_⟩
  exact ⟨_, _, _, Le.refl _ _, rfl, rfl, ⟨rfl, rfl, trivial⟩, rfl⟩
@[reducible] def nA : List UInt8 := [97]
@[reducible] def nB : List UInt8 := [98]
@[reducible] def nUpA : List UInt8 := [65]
@[reducible] def es1 (b : Nat) : List (El .str × El .adr) := mput [] (nA : El .str) (some b : Option Nat)
@[reducible] def es2 (b : Nat) : List (El .str × El .adr) := mput (mdel (es1 b) (nA : El .str)) (nB : El .str) (some b : Option Nat)
theorem es2_ok (b : Nat) : NamesOK (es2 b) := by
  have e : es2 b = [(nB, some b)] := rfl
  rw [e]
  refine ⟨?_, ?_, ?_⟩
  · show [nB].Nodup
    simp
  · intro s hs
    have hs : s ∈ [nB] := hs
    simp only [List.mem_singleton] at hs
    subst hs
    rfl
  · show 1 ≤ 16
    omega
theorem keysS_es2 (b : Nat) : keysS (es2 b) = [nB] := by
  have e : es2 b = [(nB, some b)] := rfl
  rw [e]
  show [nB].mergeSort Go.leB = _
  simp
theorem alive4_spec : Fn Try.prog 32 [] [] [] (vB true) [] := by
  refine Fn.of tblOK [4] _ _ _ _ _ Try.func32 rfl rfl (by kernel_rfl) (by kernel_rfl) rfl (drawOK tblOK) rfl ?_
  refine ⟨_, _, _, _, fnew_ok 9 (by decide), trivial, rfl, ?_⟩
  refine ⟨fun h => absurd h (by decide), fun _ => ?_⟩
  show TrQ _ _ _ _ _ _ _
  refine TrQ.le (Le.emp 1003 rfl) ?_
  refine TrQ.regionX tblOK (by kernel_rfl) ?_
  refine ⟨Nat, _, _, fun b => _, fun b => _, fcreate_ok 9 [] [] nA 4 (by decide) rfl rfl rfl (by decide), ⟨rfl, rfl, rfl, trivial⟩, rfl, fun _ => rfl, fun b => ?_⟩
  refine ⟨_, _, _, _, fcreate_there 9 (es1 b) nA 4 b (by decide) rfl rfl rfl, ⟨rfl, rfl, trivial⟩, rfl, ?_⟩
  refine ⟨_, _, _, _, fcreate_arg 9 (es1 b) nUpA 4 (by decide) rfl, ⟨rfl, rfl, trivial⟩, rfl, ?_⟩
  refine ⟨_, _, _, _, frename_ok 9 (es1 b) nA nB b (by decide) rfl rfl, ⟨rfl, rfl, trivial⟩, rfl, ?_⟩
  refine ⟨_, _, _, _, fopen_no 9 (es2 b) nA rfl, ⟨rfl, rfl, trivial⟩, rfl, ?_⟩
  refine ⟨_, _, _, _, fopen_ok 9 (es2 b) nB b rfl, ⟨rfl, rfl, trivial⟩, rfl, ?_⟩
  refine ⟨fun _ => ?_, fun h => absurd h (by decide)⟩
  refine ⟨fun b' e => ?_, fun e => by cases e⟩
  refine ⟨fun _ => ?_, fun h => absurd h (by decide)⟩
  refine ⟨fun _ => ?_, fun h => absurd h (by decide)⟩
  refine ⟨fun _ => ?_, fun h => absurd h (by decide)⟩
  refine ⟨fun _ => ?_, fun h => absurd h (by decide)⟩
  refine ⟨fun _ => ?_, fun h => absurd h (by decide)⟩
  refine ⟨rfl, ?_⟩
  refine ⟨_, _, _, _, fnames_spec 9 (es2 b) (es2_ok b), ⟨rfl, rfl, trivial⟩, rfl, ?_⟩
  refine ⟨_, _, _, _, sameT_spec (keysS (es2 b)) [nB] (by rw [keysS_es2]; decide), trivial, rfl, ?_⟩
  refine ⟨_, _, _, Le.refl _ _, rfl, (show decide (keysS (es2 b) = [nB]) = true from decide_eq_true (keysS_es2 b)), trivial, rfl⟩
theorem fnamesL_spec (name : List UInt8) (hl : name.length ≤ 4294967296) : Fn Try.prog 8 [vS name] [] [] (vB true) [] := by
  refine Fn.of tblOK [5] _ _ _ _ _ Try.func8 rfl rfl (by kernel_rfl) (by kernel_rfl) rfl (drawOK tblOK) rfl ?_
  refine ⟨_, _, _, _, fnew_ok 9 (by decide), trivial, rfl, ?_⟩
  refine ⟨fun h => absurd h (by decide), fun _ => ?_⟩
  refine ⟨fun h => ?_, fun h => ?_⟩
  · refine ⟨fun _ => ?_, fun h => absurd h (by decide)⟩
    refine ⟨_, _, _, _, alive4_spec, trivial, rfl, ?_⟩
    exact ⟨_, _, _, Le.refl _ _, rfl, rfl, trivial, rfl⟩
  refine ⟨_, _, _, _, files_Right_fn name hl, trivial, rfl, ?_⟩
  show TrQ _ _ _ _ _ _ _
  rcases Bool.eq_false_or_eq_true (nameOK name) with hn | hn
  · refine TrQ.le (Le.emp 1003 rfl) ?_
    refine TrQ.regionX tblOK (by kernel_rfl) ?_
    refine ⟨Nat, _, _, fun b => _, fun b => _, fcreate_ok 9 [] [] name 1 hl hn rfl rfl (by decide), ⟨rfl, rfl, rfl, trivial⟩, rfl, fun _ => rfl, fun b => ?_⟩
    refine ⟨_, _, _, _, alive4_spec, trivial, rfl, ?_⟩
    refine ⟨fun _ => ?_, fun h => absurd h (by decide)⟩
    refine ⟨_, _, _, _, refRight_spec name hl, trivial, rfl, ?_⟩
    rw [hn]
    refine ⟨fun _ => ?_, fun h => absurd h (by decide)⟩
    refine ⟨fun _ => ?_, fun h => absurd h (by decide)⟩
    refine ⟨fun _ => ?_, fun h => absurd h (by decide)⟩
    exact ⟨_, _, _, Le.refl _ _, rfl, rfl, trivial, rfl⟩
  · refine TrQ.go tblOK (drawOK tblOK) [] (by kernel_rfl) (Le.refl _ _) ?_
    refine ⟨_, _, _, _, fcreate_arg 9 [] name 1 hl (by rw [hn]; rfl), ⟨rfl, rfl, trivial⟩, rfl, ?_⟩
    refine ⟨_, _, _, _, alive4_spec, trivial, rfl, ?_⟩
    refine ⟨fun _ => ?_, fun h => absurd h (by decide)⟩
    refine ⟨_, _, _, _, refRight_spec name hl, trivial, rfl, ?_⟩
    rw [hn]
    refine ⟨fun _ => ?_, fun h => absurd h (by decide)⟩
    refine ⟨fun _ => ?_, fun h => absurd h (by decide)⟩
    refine ⟨fun h => absurd h (by decide), fun _ => ?_⟩
    exact ⟨_, _, _, Le.refl _ _, rfl, rfl, trivial, rfl⟩
end Go.Proofs.Ythghcdddambaeaa
