/-
  PullSame: the row: for all arguments of bulk at most 1048576 the law returns true, and leaves its arguments as they were.
-/
import Derived.Test.YtaciecbbiplgiaaRowG
import Derived.Test.YtaciecbbiplgiaaPm
set_option linter.unusedVariables false
set_option linter.unusedSimpArgs false
set_option maxRecDepth 10000
namespace Go.Proofs.Ytaciecbbiplgiaa.pullSame
open Go.ChangeShapes Go.WideShapes Go.ChangeAt Go.RowKit

theorem contract (H : Type) (enc : TypeId × Value → H) (W : World) (args : Array Value) (ds gs : List (DataW H)) (before : List MemPlace) (base : Nat)
    (hval : ∀ (j : Nat) t v, Try.f5.params[j]? = some t → args[j]? = some v → Value.okWide Try.prog W .any base t v)
    (hW : DataW.Whole enc Try.prog Try.f5.params.toList Rows.pullSameSpec.vars false W args.toList ds gs before) (hk : Rows.uptoSmall H (ds ++ gs) = true) :
    Calls Try.prog 5 args W fun e W' => ∃ v, e = .returned v ∧ Rows.pullSameSpec.post enc Try.prog Try.f5 false true false false W args v W' :=
  row_of 5 Try.f5 Rows.pullSameSpec [.sl uC, uSe, .sl uJ] 1048576 rfl rfl (by kernel_rfl) (fun ds h => by
    match ds, h with
    | [_, _, _], _ => exact ⟨rfl, rfl, rfl⟩) hval hW (of_decide_eq_true hk) fun a hb hr => by
    obtain ⟨l, x, m, u⟩ := a
    have hb : bulkU (.sl uC) l + (bulkU uSe x + (bulkU (.sl uJ) m + 0)) ≤ 1048576 := hb
    have hl := bulkc_ops l
    have hm := bulkj_ops m
    exact pullSame_fn l x.1 x.2 m (by omega) (by omega) (by omega) (by omega)

set_option maxRecDepth 100000 in
theorem lifted (os : Os) (started : os.Started) (H : Type) (enc : TypeId × Value → H) (F : Stop.Interp) :
    ReturnsInHanded {} Try.checked os 5 .any ((Rows.OpenSpec.upto Rows.pullSameSpec).pre6 enc Try.prog Try.f5 Rows.pullSameUptoRow.domain false) (((Rows.OpenSpec.upto Rows.pullSameSpec).at F).post enc Try.prog Try.f5 false true false false) := by
  refine returnsInHanded_of_cond (C := Try.checked) (s := Rows.OpenSpec.upto Rows.pullSameSpec) (k := Rows.uptoSmall) rfl own_knob started (by kernel_rfl) Try.func5
    (OpenSpec.witness (enc := enc) (C := Try.checked) (s := Rows.OpenSpec.upto Rows.pullSameSpec) (k := Rows.uptoSmall) rfl false ⟨#[], #[.slice none 0 0, .agg #[.string ⟨#[]⟩, .string ⟨#[]⟩], .slice none 0 0], []⟩ 8 (by kernel_rfl) (by kernel_rfl) (by kernel_rfl)
      (x := ([.nil, .agg [.lit (.string []), .lit (.string [])], .nil], [], [])) (by kernel_rfl) rfl (by kernel_rfl)) ?_
  intro W base args ds gs before hval hW _ hk _
  exact contract H enc W args ds gs before base hval hW hk

theorem proved : Rows.PullSameUptoSaid :=
  OpenClaim.holds_of_cond 5 Try.f5 rfl rfl rfl rfl rfl rfl rfl ⟨rfl, rfl, rfl, rfl, rfl⟩ rfl rfl rfl rfl rfl (by kernel_rfl) Try.func5 (by kernel_rfl)
    (of_decide_eq_true (by kernel_rfl)) (by unfold Func.isWrapper; first | (rw [if_pos (by decide +kernel)]; kernel_rfl) | (rw [if_neg (by decide +kernel)]; exact ⟨rfl, rfl⟩))
    (fun os started H enc _ F => lifted os started H enc F)
end Go.Proofs.Ytaciecbbiplgiaa.pullSame
