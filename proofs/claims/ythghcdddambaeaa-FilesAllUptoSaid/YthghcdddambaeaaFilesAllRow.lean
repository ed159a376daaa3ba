/-
  FilesAll: the row: for all arguments of bulk at most 1048576 the law returns true, and leaves its arguments as they were.
-/
import Derived.Test.YthghcdddambaeaaRowG
import Derived.Test.YthghcdddambaeaaRD
set_option linter.unusedVariables false
set_option linter.unusedSimpArgs false
set_option maxRecDepth 10000
namespace Go.Proofs.Ythghcdddambaeaa.filesAll
open Go.ChangeShapes Go.WideShapes Go.ChangeAt Go.RowKit

theorem contract (H : Type) (enc : TypeId × Value → H) (W : World) (args : Array Value) (ds gs : List (DataW H)) (before : List MemPlace) (base : Nat)
    (hval : ∀ (j : Nat) t v, Try.f12.params[j]? = some t → args[j]? = some v → Value.okWide Try.prog W .any base t v)
    (hW : DataW.Whole enc Try.prog Try.f12.params.toList Rows.filesAllSpec.vars false W args.toList ds gs before) (hk : Rows.uptoSmall H (ds ++ gs) = true) :
    Calls Try.prog 12 args W fun e W' => ∃ v, e = .returned v ∧ Rows.filesAllSpec.post enc Try.prog Try.f12 false true false false W args v W' :=
  row_of 12 Try.f12 Rows.filesAllSpec [.int .i64, .sl uO4] 1048576 rfl rfl (by kernel_rfl) (fun ds h => by
    match ds, h with
    | [_, _], _ => exact ⟨rfl, rfl, rfl⟩) hval hW (of_decide_eq_true hk) fun a hb hr => by
    obtain ⟨room, l, u⟩ := a
    have hb : 1 + (bulkU (.sl uO4) l + 0) ≤ 1048576 := hb
    exact fall_spec room l (ScrOK.of (by omega))

set_option maxRecDepth 100000 in
theorem lifted (os : Os) (started : os.Started) (H : Type) (enc : TypeId × Value → H) (F : Stop.Interp) :
    ReturnsInHanded {} Try.checked os 12 .any ((Rows.OpenSpec.upto Rows.filesAllSpec).pre6 enc Try.prog Try.f12 Rows.filesAllUptoRow.domain false) (((Rows.OpenSpec.upto Rows.filesAllSpec).at F).post enc Try.prog Try.f12 false true false false) := by
  refine returnsInHanded_of_cond (C := Try.checked) (s := Rows.OpenSpec.upto Rows.filesAllSpec) (k := Rows.uptoSmall) rfl own_knob started (by kernel_rfl) Try.func12
    (OpenSpec.witness (enc := enc) (C := Try.checked) (s := Rows.OpenSpec.upto Rows.filesAllSpec) (k := Rows.uptoSmall) rfl false ⟨#[], #[.int .i64 0, .slice none 0 0], []⟩ 8 (by kernel_rfl) (by kernel_rfl) (by kernel_rfl)
      (x := ([.lit (.int .i64 0), .nil], [], [])) (by kernel_rfl) rfl (by kernel_rfl)) ?_
  intro W base args ds gs before hval hW _ hk _
  exact contract H enc W args ds gs before base hval hW hk

theorem proved : Rows.FilesAllUptoSaid :=
  OpenClaim.holds_of_cond 12 Try.f12 rfl rfl rfl rfl rfl rfl rfl ⟨rfl, rfl, rfl, rfl, rfl⟩ rfl rfl rfl rfl rfl (by kernel_rfl) Try.func12 (by kernel_rfl)
    (of_decide_eq_true (by kernel_rfl)) (by unfold Func.isWrapper; first | (rw [if_pos (by decide +kernel)]; kernel_rfl) | (rw [if_neg (by decide +kernel)]; exact ⟨rfl, rfl⟩))
    (fun os started H enc _ F => lifted os started H enc F)
end Go.Proofs.Ythghcdddambaeaa.filesAll
