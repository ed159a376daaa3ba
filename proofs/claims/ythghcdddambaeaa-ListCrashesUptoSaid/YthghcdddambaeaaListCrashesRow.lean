/-
  ListCrashes: the row: for all arguments of bulk at most 1048576 the law returns true, and leaves its arguments as they were.
-/
import Derived.Test.YthghcdddambaeaaRowG
import Derived.Test.YthghcdddambaeaaCr
import Derived.Test.YthghcdddambaeaaLBk
set_option linter.unusedVariables false
set_option linter.unusedSimpArgs false
set_option maxRecDepth 10000
namespace Go.Proofs.Ythghcdddambaeaa.listCrashes
open Go.ChangeShapes Go.WideShapes Go.ChangeAt Go.RowKit

theorem contract (H : Type) (enc : TypeId × Value → H) (W : World) (args : Array Value) (ds gs : List (DataW H)) (before : List MemPlace) (base : Nat)
    (hval : ∀ (j : Nat) t v, Try.f9.params[j]? = some t → args[j]? = some v → Value.okWide Try.prog W .any base t v)
    (hW : DataW.Whole enc Try.prog Try.f9.params.toList Rows.listCrashesSpec.vars false W args.toList ds gs before) (hk : Rows.uptoSmall H (ds ++ gs) = true) :
    Calls Try.prog 9 args W fun e W' => ∃ v, e = .returned v ∧ Rows.listCrashesSpec.post enc Try.prog Try.f9 false true false false W args v W' :=
  row_of 9 Try.f9 Rows.listCrashesSpec [.sl uLO, .sl uLO, .sl uK] 1048576 rfl rfl (by kernel_rfl) (fun ds h => by
    match ds, h with
    | [_, _, _], _ => exact ⟨rfl, rfl, rfl⟩) hval hW (of_decide_eq_true hk) fun a hb hr => by
    obtain ⟨l, m, ks, u⟩ := a
    have hb : bulkU (.sl uLO) l + (bulkU (.sl uLO) m + (bulkU (.sl uK) ks + 0)) ≤ 1048576 := hb
    obtain ⟨h1, h2, h3⟩ := bulk_ops (n := 1048576) (l := l) (by omega)
    obtain ⟨k1, k2, k3⟩ := bulk_ops (n := 1048576) (l := m) (by omega)
    obtain ⟨j1, j2, j3⟩ := crKps ks
    exact lcrashes_spec l m ks (by omega) (by omega) (fun o ho => by have := h3 o ho; omega) (by omega) (by omega) (fun o ho => by have := k3 o ho; omega) (by omega) (by omega) (by omega) (fun k hk => by have := j3 k hk; omega)

set_option maxRecDepth 100000 in
theorem lifted (os : Os) (started : os.Started) (H : Type) (enc : TypeId × Value → H) (F : Stop.Interp) :
    ReturnsInHanded {} Try.checked os 9 .any ((Rows.OpenSpec.upto Rows.listCrashesSpec).pre6 enc Try.prog Try.f9 Rows.listCrashesUptoRow.domain false) (((Rows.OpenSpec.upto Rows.listCrashesSpec).at F).post enc Try.prog Try.f9 false true false false) := by
  refine returnsInHanded_of_cond (C := Try.checked) (s := Rows.OpenSpec.upto Rows.listCrashesSpec) (k := Rows.uptoSmall) rfl own_knob started (by kernel_rfl) Try.func9
    (OpenSpec.witness (enc := enc) (C := Try.checked) (s := Rows.OpenSpec.upto Rows.listCrashesSpec) (k := Rows.uptoSmall) rfl false ⟨#[], #[.slice none 0 0, .slice none 0 0, .slice none 0 0], []⟩ 8 (by kernel_rfl) (by kernel_rfl) (by kernel_rfl)
      (x := ([.nil, .nil, .nil], [], [])) (by kernel_rfl) rfl (by kernel_rfl)) ?_
  intro W base args ds gs before hval hW _ hk _
  exact contract H enc W args ds gs before base hval hW hk

theorem proved : Rows.ListCrashesUptoSaid :=
  OpenClaim.holds_of_cond 9 Try.f9 rfl rfl rfl rfl rfl rfl rfl ⟨rfl, rfl, rfl, rfl, rfl⟩ rfl rfl rfl rfl rfl (by kernel_rfl) Try.func9 (by kernel_rfl)
    (of_decide_eq_true (by kernel_rfl)) (by unfold Func.isWrapper; first | (rw [if_pos (by decide +kernel)]; kernel_rfl) | (rw [if_neg (by decide +kernel)]; exact ⟨rfl, rfl⟩))
    (fun os started H enc _ F => lifted os started H enc F)
end Go.Proofs.Ythghcdddambaeaa.listCrashes
