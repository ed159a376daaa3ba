/-
  FilesNames: the row: for all arguments of bulk at most 1048576 the law returns true, and leaves its arguments as they were.
-/
import Derived.Test.YthghcdddambaeaaRowG
import Derived.Test.YthghcdddambaeaaFn
set_option linter.unusedVariables false
set_option linter.unusedSimpArgs false
set_option maxRecDepth 10000
namespace Go.Proofs.Ythghcdddambaeaa.filesNames
open Go.ChangeShapes Go.WideShapes Go.ChangeAt Go.RowKit

theorem contract (H : Type) (enc : TypeId × Value → H) (W : World) (args : Array Value) (ds gs : List (DataW H)) (before : List MemPlace) (base : Nat)
    (hval : ∀ (j : Nat) t v, Try.f8.params[j]? = some t → args[j]? = some v → Value.okWide Try.prog W .any base t v)
    (hW : DataW.Whole enc Try.prog Try.f8.params.toList Rows.filesNamesSpec.vars false W args.toList ds gs before) (hk : Rows.uptoSmall H (ds ++ gs) = true) :
    Calls Try.prog 8 args W fun e W' => ∃ v, e = .returned v ∧ Rows.filesNamesSpec.post enc Try.prog Try.f8 false true false false W args v W' :=
  row_of 8 Try.f8 Rows.filesNamesSpec [.str] 1048576 rfl rfl (by kernel_rfl) (fun ds h => by
    match ds, h with
    | [_], _ => exact ⟨rfl, rfl, rfl⟩) hval hW (of_decide_eq_true hk) fun a hb hr => by
    obtain ⟨nm, u⟩ := a
    have hb : 1 + List.length (α := UInt8) nm + 0 ≤ 1048576 := hb
    exact fnamesL_spec nm (by omega)

set_option maxRecDepth 100000 in
theorem lifted (os : Os) (started : os.Started) (H : Type) (enc : TypeId × Value → H) (F : Stop.Interp) :
    ReturnsInHanded {} Try.checked os 8 .any ((Rows.OpenSpec.upto Rows.filesNamesSpec).pre6 enc Try.prog Try.f8 Rows.filesNamesUptoRow.domain false) (((Rows.OpenSpec.upto Rows.filesNamesSpec).at F).post enc Try.prog Try.f8 false true false false) := by
  refine returnsInHanded_of_cond (C := Try.checked) (s := Rows.OpenSpec.upto Rows.filesNamesSpec) (k := Rows.uptoSmall) rfl own_knob started (by kernel_rfl) Try.func8
    (OpenSpec.witness (enc := enc) (C := Try.checked) (s := Rows.OpenSpec.upto Rows.filesNamesSpec) (k := Rows.uptoSmall) rfl false ⟨#[], #[.string ⟨#[]⟩], []⟩ 8 (by kernel_rfl) (by kernel_rfl) (by kernel_rfl)
      (x := ([.lit (.string [])], [], [])) (by kernel_rfl) rfl (by kernel_rfl)) ?_
  intro W base args ds gs before hval hW _ hk _
  exact contract H enc W args ds gs before base hval hW hk

theorem proved : Rows.FilesNamesUptoSaid :=
  OpenClaim.holds_of_cond 8 Try.f8 rfl rfl rfl rfl rfl rfl rfl ⟨rfl, rfl, rfl, rfl, rfl⟩ rfl rfl rfl rfl rfl (by kernel_rfl) Try.func8 (by kernel_rfl)
    (of_decide_eq_true (by kernel_rfl)) (by unfold Func.isWrapper; first | (rw [if_pos (by decide +kernel)]; kernel_rfl) | (rw [if_neg (by decide +kernel)]; exact ⟨rfl, rfl⟩))
    (fun os started H enc _ F => lifted os started H enc F)
end Go.Proofs.Ythghcdddambaeaa.filesNames
