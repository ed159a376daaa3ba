/-
The theorem of this claim, with no condition; its proof stands on the parts ahead.
-/
import Derived.Test.YteoamepgonpdlaaGreatPa17
/-!
  ChainAll: the row: for all arguments of bulk at most 1048576 the law returns true, and leaves its arguments as they were.
-/
namespace Go.Proofs.YteoamepgonpdlaaGreat.chainAll
set_option linter.unusedVariables false
set_option linter.unusedSimpArgs false
set_option maxRecDepth 10000
open Go.ChangeShapes Go.WideShapes Go.ChangeAt Go.RowKit
theorem contract (H : Type) (enc : TypeId × Value → H) (W : World) (args : Array Value) (ds gs : List (DataW H)) (before : List MemPlace) (base : Nat)
   (hval : ∀ (j : Nat) t v, Tryz.f3.params[j]? = some t → args[j]? = some v → Value.okWide Tryz.prog W .any base t v)
   (hW : DataW.Whole enc Tryz.prog Tryz.f3.params.toList Rows.chainAllSpec.vars false W args.toList ds gs before) (hk : Rows.uptoSmall H (ds ++ gs) = true) :
   Calls Tryz.prog 3 args W fun e W' => ∃ v, e = .returned v ∧ Rows.chainAllSpec.post enc Tryz.prog Tryz.f3 false true false false W args v W' :=
 row_of 3 Tryz.f3 Rows.chainAllSpec [.int .i64, .int .i64, .sl uC] 1048576 rfl rfl (by kernel_rfl) (fun ds h => by
   match ds, h with
   | [_, _, _], _ => exact ⟨rfl, rfl, rfl⟩) hval hW (of_decide_eq_true hk) fun a hb hr => by
   obtain ⟨b, r, l, u⟩ := a
   have hb : 1 + (1 + (bulkU (.sl uC) l + 0)) ≤ 1048576 := hb
   have k1 := bulkc_ops l
   exact chainAll_fn b r l (by omega) (by omega)
set_option maxRecDepth 100000 in
theorem lifted (os : Os) (started : os.Started) (H : Type) (enc : TypeId × Value → H) (F : Stop.Interp) :
   ReturnsInHanded {} Tryz.checked os 3 .any ((Rows.OpenSpec.upto Rows.chainAllSpec).pre6 enc Tryz.prog Tryz.f3 Rows.chainAllUptoRow.domain false) (((Rows.OpenSpec.upto Rows.chainAllSpec).at F).post enc Tryz.prog Tryz.f3 false true false false) := by
 refine returnsInHanded_of_cond (C := Tryz.checked) (s := Rows.OpenSpec.upto Rows.chainAllSpec) (k := Rows.uptoSmall) rfl own_knob started (by kernel_rfl) Tryz.func3
   (OpenSpec.witness (enc := enc) (C := Tryz.checked) (s := Rows.OpenSpec.upto Rows.chainAllSpec) (k := Rows.uptoSmall) rfl false ⟨#[], #[.int .i64 0, .int .i64 0, .slice none 0 0], []⟩ 8 (by kernel_rfl) (by kernel_rfl) (by kernel_rfl)
     (x := ([.lit (.int .i64 0), .lit (.int .i64 0), .nil], [], [])) (by kernel_rfl) rfl (by kernel_rfl)) ?_
 intro W base args ds gs before hval hW _ hk _
 exact contract H enc W args ds gs before base hval hW hk
set_option maxRecDepth 100000 in
theorem jInPlace : (Rows.chainAllUptoRow.inPlace == Tryz.prog.inPlace 3) = true := by kernel_rfl
set_option maxRecDepth 100000 in
theorem jUnfollowed : (Rows.chainAllUptoRow.unfollowed == Tryz.prog.unfollowed 3) = true := by kernel_rfl
set_option maxRecDepth 100000 in
theorem jRecurses : (Rows.chainAllUptoRow.recurses == Tryz.prog.recurses 3) = true := by kernel_rfl
set_option maxRecDepth 100000 in
theorem jNamed : (Rows.chainAllUptoRow.named == Tryz.prog.varsNamed 3) = true := by kernel_rfl
set_option maxRecDepth 100000 in
theorem jFunc : Tryz.prog.funcNamed Rows.chainAllUptoRow.func = some 3 := by kernel_rfl
set_option maxRecDepth 100000 in
theorem joined : joinedFacts Tryz.prog 3 Tryz.f3 (Rows.OpenSpec.upto Rows.chainAllSpec).bare Rows.chainAllUptoRow = true := by
   unfold joinedFacts
   refine band2 (band2 (band2 (band2 (band2 (band2 (band2 (band2 (band2 (band2 (band2 (band2 (band2 (band2 (band2 (band2 (band2 (band2 (band2 (band2 (band2 (band2 (band2 (band2 (band2 (band2 (band2 (band2 (band2 (band2 (band2 ?_ ?_) ?_) ?_) ?_) ?_) ?_) ?_) ?_) ?_) ?_) ?_) ?_) ?_) ?_) ?_) ?_) ?_) ?_) ?_) ?_) ?_) ?_) ?_) ?_) ?_) ?_) ?_) ?_) ?_) ?_) ?_
   · kernel_rfl
   · exact fcLaid
   · exact fcMaps
   · kernel_rfl
   · kernel_rfl
   · kernel_rfl
   · kernel_rfl
   · kernel_rfl
   · kernel_rfl
   · exact jInPlace
   · exact jUnfollowed
   · exact jRecurses
   · exact jNamed
   · kernel_rfl
   · kernel_rfl
   · kernel_rfl
   · kernel_rfl
   · kernel_rfl
   · kernel_rfl
   · kernel_rfl
   · kernel_rfl
   · kernel_rfl
   · exact fcPlain
   · kernel_rfl
   · kernel_rfl
   · exact fcEnter
   · exact fcLift
   · exact fcMake
   · kernel_rfl
   · kernel_rfl
   · kernel_rfl
   · kernel_rfl
theorem proved : Rows.ChainAllUptoSaid :=
 OpenClaim.holds_of_cond 3 Tryz.f3 rfl rfl rfl rfl rfl rfl rfl ⟨rfl, rfl, rfl, rfl, rfl⟩ rfl rfl rfl rfl rfl jFunc Tryz.func3 joined
   (of_decide_eq_true (by kernel_rfl)) (by unfold Func.isWrapper; first | (rw [if_pos (by decide +kernel)]; kernel_rfl) | (rw [if_neg (by decide +kernel)]; exact ⟨rfl, rfl⟩))
   (fun os started H enc _ F => lifted os started H enc F)
end Go.Proofs.YteoamepgonpdlaaGreat.chainAll
