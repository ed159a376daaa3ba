/-
  alive.
-/
import Derived.Test.YthghcdddambaeaaL6
set_option linter.unusedVariables false
set_option linter.unusedSimpArgs false
set_option maxRecDepth 10000
namespace Go.Proofs.Ythghcdddambaeaa
open Go.RowKit Go.Proofs

def bkA : Bup := ([97], [], (0 : Int), (2 : Int), [pie1 0 120, pie1 1 121])
def bkB : Bup := ([98], [97], (0 : Int), (2 : Int), [pie1 1 122])
theorem addE_A : addE [] bkA = 0 := by kernel_rfl
theorem addL_A : addL [] bkA = [bkA] := by unfold addL; rw [addE_A]; rfl
theorem addE_B : addE [bkA] bkB = 0 := by kernel_rfl
theorem addL_B : addL [bkA] bkB = [bkA, bkB] := by unfold addL; rw [addE_B]; rfl
theorem right_A : rightB bkA = true := by kernel_rfl
theorem right_B : rightB bkB = true := by kernel_rfl
theorem inv_AB : InvL [bkA, bkB] := by
  refine ⟨by decide, fun b hb => ?_, fun k b hk hp => ?_⟩
  · simp only [List.mem_cons, List.not_mem_nil, or_false] at hb
    rcases hb with rfl | rfl
    · exact right_A
    · exact right_B
  · match k, hk with
    | 0, hk => simp only [List.getElem?_cons_zero, Option.some.injEq] at hk; subst hk; exact absurd hp (by decide)
    | 1, hk => simp at hk; subst hk; exact ⟨by decide, by decide⟩
    | k + 2, hk => simp at hk
theorem rest_AB : (restL [bkA, bkB] [98]).length = 32 ∧ lget (restL [bkA, bkB] [98]) 0 = some 120 ∧ lget (restL [bkA, bkB] [98]) 16 = some 122 := ⟨by kernel_rfl, by kernel_rfl, by kernel_rfl⟩
theorem restE_AB : restE [bkA, bkB] [98] = 0 := by kernel_rfl
theorem fnd_AB : 0 ≤ fnd [bkA, bkB] [97] := by decide
theorem par_AB : isPar [bkA, bkB] [97] = true := by kernel_rfl
theorem last_AB : lastN [bkA, bkB] = [98] := by kernel_rfl
set_option maxHeartbeats 1000000 in
theorem alive_spec : Fn Try.prog 17 [] [] [] (vB true) [] := by
  have hA := add_spec [] bkA (by decide) (by decide) (by decide) (by decide)
  rw [addE_A, addL_A] at hA
  have hB := add_spec [bkA] bkB (by decide) (by decide) (by decide) (by decide)
  rw [addE_B, addL_B] at hB
  have hR := restore_spec inv_AB [98]
  rw [restE_AB] at hR
  have hD := drop_busy [bkA, bkB] [97] (by decide) fnd_AB par_AB
  have hL := last_spec [bkA, bkB] (by decide)
  rw [last_AB] at hL
  obtain ⟨r1, r2, r3⟩ := rest_AB
  generalize restL [bkA, bkB] [98] = R at *
  refine Fn.of tblOK [] _ _ _ _ _ Try.func17 rfl rfl (by kernel_rfl) (by kernel_rfl) rfl (drawOK tblOK) rfl ?_
  refine ⟨_, _, _, _, new_spec, trivial, rfl, ?_⟩
  refine ⟨_, _, _, _, piece_spec 0 120 (by decide) (by decide), trivial, rfl, ?_⟩
  refine ⟨_, _, _, _, piece_spec 1 121 (by decide) (by decide), trivial, rfl, ?_⟩
  refine ⟨_, _, _, _, hA, ⟨rfl, rfl, trivial⟩, rfl, ?_⟩
  refine ⟨_, _, _, _, piece_spec 1 122 (by decide) (by decide), trivial, rfl, ?_⟩
  refine ⟨_, _, _, _, Fn.ren [(1002, 1003), (1003, 1004)] hB, ⟨rfl, rfl, trivial⟩, rfl, ?_⟩
  refine ⟨_, _, _, _, Fn.ren [(1002, 1004)] hR, ⟨rfl, rfl, trivial⟩, rfl, ?_⟩
  refine ⟨fun h => ?_, fun h => absurd h (by decide)⟩
  refine ⟨fun h => ?_, fun h => absurd h (by decide)⟩
  refine ⟨fun h => ?_, fun h => absurd h (by decide)⟩
  refine ⟨fun h => ?_, fun h => absurd (show decide ((List.length (α := UInt8) R : Int) = 32) = false from h) (by rw [r1]; decide)⟩
  refine ⟨by decide, (120 : UInt8), r2, ?_⟩
  refine ⟨fun h => ?_, fun h => absurd h (by decide)⟩
  refine ⟨by decide, (122 : UInt8), r3, ?_⟩
  refine ⟨fun h => ?_, fun h => absurd h (by decide)⟩
  refine ⟨_, _, _, _, Fn.ren [(1002, 1004)] hD, ⟨rfl, rfl, trivial⟩, rfl, ?_⟩
  refine ⟨fun h => ?_, fun h => absurd h (by decide)⟩
  refine ⟨_, _, _, _, Fn.ren [(1002, 1004)] hL, ⟨rfl, rfl, trivial⟩, rfl, ?_⟩
  exact ⟨_, _, _, Le.refl _ _, rfl, rfl, trivial, rfl⟩
end Go.Proofs.Ythghcdddambaeaa
