/-
  PushFrozen: the row: for all arguments of bulk at most 1048576 the law returns true, and leaves its arguments as they were.
-/
import Derived.Test.YtbcngglcaeehbaaGreatRowG
import Derived.Test.YtbcngglcaeehbaaGreatMA
set_option linter.unusedVariables false
set_option linter.unusedSimpArgs false
set_option maxRecDepth 10000
namespace Go.Proofs.YtbcngglcaeehbaaGreat.pushFrozen
open Go.ChangeShapes Go.WideShapes Go.ChangeAt Go.RowKit

theorem contract (H : Type) (enc : TypeId × Value → H) (W : World) (args : Array Value) (ds gs : List (DataW H)) (before : List MemPlace) (base : Nat)
    (hval : ∀ (j : Nat) t v, Tryz.f7.params[j]? = some t → args[j]? = some v → Value.okWide Tryz.prog W .any base t v)
    (hW : DataW.Whole enc Tryz.prog Tryz.f7.params.toList Rows.pushFrozenSpec.vars false W args.toList ds gs before) (hk : Rows.uptoSmall H (ds ++ gs) = true) :
    Calls Tryz.prog 7 args W fun e W' => ∃ v, e = .returned v ∧ Rows.pushFrozenSpec.post enc Tryz.prog Tryz.f7 false true false false W args v W' :=
  row_of 7 Tryz.f7 Rows.pushFrozenSpec [.sl uC, .pr .str (.pr .bool (.pr uI (.pr uI (.sl uE)))), .sl uKo] 1048576 rfl rfl (by kernel_rfl) (fun ds h => by
    match ds, h with
    | [_, _, _], _ => exact ⟨rfl, rfl, rfl⟩) hval hW (of_decide_eq_true hk) fun a hb hr => by
    obtain ⟨l, x, m, u⟩ := a
    have hb : bulkU (.sl uC) l + (bulkU (.pr .str (.pr .bool (.pr uI (.pr uI (.sl uE))))) x + (bulkU (.sl uKo) m + 0)) ≤ 1048576 := hb
    have hl := bulkc_ops l
    have hm := bulkk_ops m
    exact pushFrozen_fn l x.1 x.2.1 x.2.2.1 x.2.2.2.1 x.2.2.2.2 m (by omega) (by omega) (by omega) (by omega) (rngk_ops hr.2.2.1)

set_option maxRecDepth 100000 in
theorem lifted (os : Os) (started : os.Started) (H : Type) (enc : TypeId × Value → H) (F : Stop.Interp) :
    ReturnsInHanded {} Tryz.checked os 7 .any ((Rows.OpenSpec.upto Rows.pushFrozenSpec).pre6 enc Tryz.prog Tryz.f7 Rows.pushFrozenUptoRow.domain false) (((Rows.OpenSpec.upto Rows.pushFrozenSpec).at F).post enc Tryz.prog Tryz.f7 false true false false) := by
  refine returnsInHanded_of_cond (C := Tryz.checked) (s := Rows.OpenSpec.upto Rows.pushFrozenSpec) (k := Rows.uptoSmall) rfl own_knob started (by kernel_rfl) Tryz.func7
    (OpenSpec.witness (enc := enc) (C := Tryz.checked) (s := Rows.OpenSpec.upto Rows.pushFrozenSpec) (k := Rows.uptoSmall) rfl false ⟨#[], #[.slice none 0 0, .agg #[.string ⟨#[]⟩, .bool false, .int .i64 0, .int .i64 0, .slice none 0 0], .slice none 0 0], []⟩ 8 (by kernel_rfl) (by kernel_rfl) (by kernel_rfl)
      (x := ([.nil, .agg [.lit (.string []), .lit (.bool false), .lit (.int .i64 0), .lit (.int .i64 0), .nil], .nil], [], [])) (by kernel_rfl) rfl (by kernel_rfl)) ?_
  intro W base args ds gs before hval hW _ hk _
  exact contract H enc W args ds gs before base hval hW hk

theorem proved : Rows.PushFrozenUptoSaid :=
  OpenClaim.holds_of_cond 7 Tryz.f7 rfl rfl rfl rfl rfl rfl rfl ⟨rfl, rfl, rfl, rfl, rfl⟩ rfl rfl rfl rfl rfl (by kernel_rfl) Tryz.func7 (by kernel_rfl)
    (of_decide_eq_true (by kernel_rfl)) (by unfold Func.isWrapper; first | (rw [if_pos (by decide +kernel)]; kernel_rfl) | (rw [if_neg (by decide +kernel)]; exact ⟨rfl, rfl⟩))
    (fun os started H enc _ F => lifted os started H enc F)
end Go.Proofs.YtbcngglcaeehbaaGreat.pushFrozen
