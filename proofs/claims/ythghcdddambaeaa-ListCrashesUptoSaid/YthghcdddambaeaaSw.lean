/-
  Sums: Seal, Open. A store's areas.
-/
import Derived.Test.YthghcdddambaeaaSu
import Derived.Test.YthghcdddambaeaaSv
import Derived.Test.YthghcdddambaeaaEq
import Derived.Test.YthghcdddambaeaaO3
import Derived.Test.YthghcdddambaeaaO7
set_option linter.unusedVariables false
set_option linter.unusedSimpArgs false
set_option maxRecDepth 10000
namespace Go.Proofs.Ythghcdddambaeaa
open Go.RowKit Go.Proofs
theorem cloneO_fn (x : List UInt8) (hx : x.length ≤ 4294967296) : Fn Try.prog 58 [vL .u8 x] [] [2001] (vOwn 2001) (byR 2001 x) := by
  refine Fn.of tblOK [1] _ _ _ _ _ Try.func58 rfl rfl (by kernel_rfl) (by kernel_rfl) rfl (drawOK tblOK) rfl ?_
  show TrQ _ _ _ _ _ _ _
  refine TrQ.regionX tblOK (by kernel_rfl) ?_
  refine ⟨_, opS_lstNil rfl rfl Try.underlying31, fun v e h => ?_⟩
  obtain ⟨b, hb, rfl, rfl⟩ := h
  cases b
  · refine ⟨rfl, ?_⟩
    have hl : 0 + x.length ≤ 4294967296 := by omega
    refine ⟨hl, rfl, ?_⟩
    exact ⟨_, _, _, Le.ren 7 2001 rfl, rfl, rfl, ⟨rfl, trivial⟩, rfl⟩
  · have hb := hb rfl
    subst hb
    exact ⟨_, _, _, Le.nil 2 2001 5 .u8 rfl rfl, rfl, rfl, ⟨rfl, trivial⟩, rfl⟩
def sealB (x : List UInt8) : List UInt8 := x ++ encR (sumO x).toNat 4
theorem seal_fn (x : List UInt8) (hx : x.length ≤ 1000000) : Fn Try.prog 88 [vL .u8 x] [] [] (vL .u8 (sealB x)) [] := by
  have h := sumO_ok x
  refine Fn.of tblOK [2] _ _ _ _ _ Try.func88 rfl rfl (by kernel_rfl) (by kernel_rfl) rfl (drawOK tblOK) rfl ?_
  refine ⟨_, _, _, _, cloneO_fn x (by omega), trivial, rfl, ?_⟩
  refine ⟨_, _, _, _, sumOf_fn [x] (by simp) (fun y hy => by rw [List.mem_singleton] at hy; rw [hy]; omega), trivial, rfl, ?_⟩
  have e1 : ([x] : List (List UInt8)).flatten = x := by simp
  rw [e1]
  refine ⟨_, _, _, _, Fn.arg (Fn.ren [(1001, 2001), (1002, 3002)] (put_spec x 4 [(sumO x).toNat] (by unfold W; omega) (fun n hn => by rw [List.mem_singleton] at hn; rw [hn]; omega) (by simp) (by omega))) ⟨rfl, rfl, ints1 h.1, trivial⟩, ⟨rfl, trivial⟩, rfl, ?_⟩
  show TrQ _ _ _ _ _ _ _
  refine TrQ.go tblOK (drawOK tblOK) [] (by kernel_rfl) (Le.frz 3002 rfl) ?_
  exact ⟨_, _, _, Le.refl _ _, rfl, (show x ++ encNs 4 [(sumO x).toNat] = sealB x by unfold sealB encNs; simp), trivial, rfl⟩
def areaS (n : Int) : Int := max (n - 2) 0 / 2
theorem area_fn (n : Int) (h0 : 0 ≤ n) (h1 : n ≤ 4096) : Fn Try.prog 86 [vI n] [] [] (vI (areaS n)) [] := by
  refine Fn.of tblOK [] _ _ _ _ _ Try.func86 rfl rfl (by kernel_rfl) (by kernel_rfl) rfl (drawOK tblOK) rfl ?_
  have q1 : -9223372036854775808 ≤ n - 2 ∧ n - 2 ≤ 9223372036854775807 := by omega
  refine ⟨q1, ?_⟩
  have q2 : 0 ≤ max (n - 2) 0 ∧ (0 : Int) < 2 := by omega
  have q3 : -9223372036854775808 ≤ max (n - 2) 0 / 2 ∧ max (n - 2) 0 / 2 ≤ 9223372036854775807 := by omega
  refine ⟨q2, q3, ?_⟩
  exact ⟨_, _, _, Le.refl _ _, rfl, rfl, trivial, rfl⟩
theorem most_fn (n : Int) (h0 : 0 ≤ n) (h1 : n ≤ 4096) : Fn Try.prog 80 [vI n] [] [] (vI (areaS n * 16)) [] := by
  refine Fn.of tblOK [] _ _ _ _ _ Try.func80 rfl rfl (by kernel_rfl) (by kernel_rfl) rfl (drawOK tblOK) rfl ?_
  refine ⟨_, _, _, _, area_fn n h0 h1, trivial, rfl, ?_⟩
  have q3 : -9223372036854775808 ≤ areaS n * 16 ∧ areaS n * 16 ≤ 9223372036854775807 := by unfold areaS; omega
  refine ⟨q3, ?_⟩
  exact ⟨_, _, _, Le.refl _ _, rfl, rfl, trivial, rfl⟩
end Go.Proofs.Ythghcdddambaeaa
