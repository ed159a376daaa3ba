/-
  ContainsFunc; a Drop that is refused; piece.
-/
import Derived.Test.YthghcdddambaeaaL5
set_option linter.unusedVariables false
set_option linter.unusedSimpArgs false
set_option maxRecDepth 10000
namespace Go.Proofs.Ythghcdddambaeaa
open Go.RowKit Go.Proofs

theorem dropc_spec (b : Bup) (nm : List UInt8) : Fn Try.prog 62 [bkV b, vP 1001] [(1001, .cells [.d (.str nm)])] [] (vB (decide (bPa b = nm))) [(1001, .cells [.d (.str nm)])] := by
  refine Fn.of tblOK [] _ _ _ _ _ Try.func62 rfl rfl (by kernel_rfl) (by kernel_rfl) rfl (drawOK tblOK) rfl ?_
  refine ⟨rfl, ?_⟩
  exact ⟨_, _, _, Le.refl _ _, rfl, rfl, ⟨rfl, trivial⟩, rfl⟩
theorem contains_spec (g : Nat) (p : Bup → Bool) (nm : List UInt8) (L : List Bup) (hL : L.length ≤ 4294967296) (hs : ∀ b, Fn Try.prog g [bkV b, vP 1001] [(1001, .cells [.d (.str nm)])] [] (vB (p b)) [(1001, .cells [.d (.str nm)])]) :
    Fn Try.prog 61 [vOwn 1002, v1 (.clo g [.p 1001 0])] [(1001, .cells [.d (.str nm)]), (1002, .row 43 uB L)] [] (vB (decide (0 ≤ ixL p L))) [(1001, .cells [.d (.str nm)]), (1002, .row 43 uB L)] := by
  refine Fn.of tblOK [] _ _ _ _ _ Try.func61 rfl rfl (by kernel_rfl) (by kernel_rfl) rfl (drawOK tblOK) rfl ?_
  refine ⟨_, _, _, _, ix_spec g p nm L hL hs, ⟨rfl, rfl, trivial⟩, rfl, ?_⟩
  exact ⟨_, _, _, Le.refl _ _, rfl, rfl, ⟨rfl, rfl, trivial⟩, rfl⟩
/-- Is a name the parent of some backup? -/
def isPar (L : List Bup) (nm : List UInt8) : Bool := decide (0 ≤ ixL (fun b => decide (bPa b = nm)) L)
/-- A parent is not dropped. -/
theorem drop_busy (L : List Bup) (nm : List UInt8) (hL : L.length ≤ 4294967296) (hf : 0 ≤ fnd L nm) (hp : isPar L nm = true) : Fn Try.prog 23 [vP 1001, vS nm] (lstB L) [] (vI 1) (lstB L) := by
  refine Fn.of tblOK [] _ _ _ _ _ Try.func23 rfl rfl (by kernel_rfl) (by kernel_rfl) rfl (drawOK tblOK) rfl ?_
  refine ⟨rfl, ?_⟩
  refine ⟨_, _, _, _, find_spec nm L hL, ⟨rfl, rfl, trivial⟩, rfl, ?_⟩
  refine ⟨fun h => absurd hf (by simp only [decide_eq_true_eq] at h; omega), fun h => ?_⟩
  refine ⟨_, _, _, _, Fn.ren [(1001, 3)] (contains_spec 62 _ nm L hL fun b => dropc_spec b nm), ⟨rfl, rfl, trivial⟩, rfl, ?_⟩
  refine ⟨fun h => ?_, fun h => absurd hp (by rw [show isPar L nm = false from h]; simp)⟩
  exact ⟨_, _, _, Le.refl _ _, rfl, rfl, ⟨rfl, rfl, trivial⟩, rfl⟩
/-- A cluster of one letter. -/
def pie1 (c n : Int) : Pie := (c, UInt8.ofNat n.toNat :: List.replicate 15 (0 : UInt8))
theorem piece_spec (c n : Int) (h0 : 0 ≤ n) (h1 : n < 256) : Fn Try.prog 55 [vI c, v1 (.d (.int .u8 n))] [] [] (.c (.agg [.d (.int .i64 c), .d (.lst .u8 (pB (pie1 c n)))])) [] := by
  refine Fn.of tblOK [] _ _ _ _ _ Try.func55 rfl rfl (by kernel_rfl) (by kernel_rfl) rfl (drawOK tblOK) rfl ?_
  refine ⟨rfl, ⟨rfl, by decide, by decide⟩, rfl, ⟨by decide, by decide⟩, ⟨⟨h0, h1⟩, by decide⟩, ?_⟩
  exact ⟨_, _, _, Le.frz 6 rfl, rfl, ⟨rfl, rfl, trivial⟩, trivial, rfl⟩
end Go.Proofs.Ythghcdddambaeaa
