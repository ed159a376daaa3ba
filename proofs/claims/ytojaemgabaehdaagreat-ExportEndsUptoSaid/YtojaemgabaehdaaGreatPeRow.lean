/-
The theorem of this claim, with no condition; its proof stands on the parts ahead.
-/
import Derived.Test.YtojaemgabaehdaaGreatPe17
/-!
  ExportEnds: the row: for all arguments of bulk at most 1048576 the law returns true, and leaves its arguments as they were.
-/
namespace Go.Proofs.YtojaemgabaehdaaGreat.exportEnds
set_option linter.unusedVariables false
set_option linter.unusedSimpArgs false
set_option maxRecDepth 10000
open Go.ChangeShapes Go.WideShapes Go.ChangeAt Go.RowKit
theorem contract (H : Type) (enc : TypeId × Value → H) (W : World) (args : Array Value) (ds gs : List (DataW H)) (before : List MemPlace) (base : Nat)
   (hval : ∀ (j : Nat) t v, Tryz.f10.params[j]? = some t → args[j]? = some v → Value.okWide Tryz.prog W .any base t v)
   (hW : DataW.Whole enc Tryz.prog Tryz.f10.params.toList Rows.exportEndsSpec.vars false W args.toList ds gs before) (hk : Rows.uptoSmall H (ds ++ gs) = true) :
   Calls Tryz.prog 10 args W fun e W' => ∃ v, e = .returned v ∧ Rows.exportEndsSpec.post enc Tryz.prog Tryz.f10 false true false false W args v W' :=
 row_of 10 Tryz.f10 Rows.exportEndsSpec [.pr (.sl uC) (.sl uM), .sl .u8, .sl .u8] 1048576 rfl rfl (by kernel_rfl) (fun ds h => by
   match ds, h with
   | [_, _, _], _ => exact ⟨rfl, rfl, rfl⟩) hval hW (of_decide_eq_true hk) fun a hb hr => by
   obtain ⟨x, b, c, u⟩ := a
   obtain ⟨l, m⟩ := x
   have hb : (bulkU (.sl uC) l + bulkU (.sl uM) m) + (bulkU (.sl .u8) b + (bulkU (.sl .u8) c + 0)) ≤ 1048576 := hb
   have k1 := bulkc_ops l
   have k2 := bulk_mops m
   have k3 := bulkc_u8 b
   have k4 := bulkc_u8 c
   exact exportEnds_fn l m b c (by omega) (by omega) (by omega) (by omega) (by omega)
set_option maxRecDepth 100000 in
theorem lifted (os : Os) (started : os.Started) (H : Type) (enc : TypeId × Value → H) (F : Stop.Interp) :
   ReturnsInHanded {} Tryz.checked os 10 .any ((Rows.OpenSpec.upto Rows.exportEndsSpec).pre6 enc Tryz.prog Tryz.f10 Rows.exportEndsUptoRow.domain false) (((Rows.OpenSpec.upto Rows.exportEndsSpec).at F).post enc Tryz.prog Tryz.f10 false true false false) := by
 refine returnsInHanded_of_cond (C := Tryz.checked) (s := Rows.OpenSpec.upto Rows.exportEndsSpec) (k := Rows.uptoSmall) rfl own_knob started (by kernel_rfl) Tryz.func10
   (OpenSpec.witness (enc := enc) (C := Tryz.checked) (s := Rows.OpenSpec.upto Rows.exportEndsSpec) (k := Rows.uptoSmall) rfl false ⟨#[], #[.agg #[.slice none 0 0, .slice none 0 0], .slice none 0 0, .slice none 0 0], []⟩ 8 (by kernel_rfl) (by kernel_rfl) (by kernel_rfl)
     (x := ([.agg [.nil, .nil], .nil, .nil], [], [])) (by kernel_rfl) rfl (by kernel_rfl)) ?_
 intro W base args ds gs before hval hW _ hk _
 exact contract H enc W args ds gs before base hval hW hk
set_option maxRecDepth 100000 in
theorem jInPlace : (Rows.exportEndsUptoRow.inPlace == Tryz.prog.inPlace 10) = true := by kernel_rfl
set_option maxRecDepth 100000 in
theorem jUnfollowed : (Rows.exportEndsUptoRow.unfollowed == Tryz.prog.unfollowed 10) = true := by kernel_rfl
set_option maxRecDepth 100000 in
theorem jRecurses : (Rows.exportEndsUptoRow.recurses == Tryz.prog.recurses 10) = true := by kernel_rfl
set_option maxRecDepth 100000 in
theorem jNamed : (Rows.exportEndsUptoRow.named == Tryz.prog.varsNamed 10) = true := by kernel_rfl
set_option maxRecDepth 100000 in
theorem jFunc : Tryz.prog.funcNamed Rows.exportEndsUptoRow.func = some 10 := by kernel_rfl
set_option maxRecDepth 100000 in
theorem joined : joinedFacts Tryz.prog 10 Tryz.f10 (Rows.OpenSpec.upto Rows.exportEndsSpec).bare Rows.exportEndsUptoRow = true := by
   unfold joinedFacts
   refine band2 (band2 (band2 (band2 (band2 (band2 (band2 (band2 (band2 (band2 (band2 (band2 (band2 (band2 (band2 (band2 (band2 (band2 (band2 (band2 (band2 (band2 (band2 (band2 (band2 (band2 (band2 (band2 (band2 (band2 (band2 ?_ ?_) ?_) ?_) ?_) ?_) ?_) ?_) ?_) ?_) ?_) ?_) ?_) ?_) ?_) ?_) ?_) ?_) ?_) ?_) ?_) ?_) ?_) ?_) ?_) ?_) ?_) ?_) ?_) ?_) ?_) ?_
   · kernel_rfl
   · exact fcLaid
   · exact fcMaps
   · kernel_rfl
   · kernel_rfl
   · kernel_rfl
   · kernel_rfl
   · kernel_rfl
   · kernel_rfl
   · exact jInPlace
   · exact jUnfollowed
   · exact jRecurses
   · exact jNamed
   · kernel_rfl
   · kernel_rfl
   · kernel_rfl
   · kernel_rfl
   · kernel_rfl
   · kernel_rfl
   · kernel_rfl
   · kernel_rfl
   · kernel_rfl
   · exact fcPlain
   · kernel_rfl
   · kernel_rfl
   · exact fcEnter
   · exact fcLift
   · exact fcMake
   · kernel_rfl
   · kernel_rfl
   · kernel_rfl
   · kernel_rfl
theorem proved : Rows.ExportEndsUptoSaid :=
 OpenClaim.holds_of_cond 10 Tryz.f10 rfl rfl rfl rfl rfl rfl rfl ⟨rfl, rfl, rfl, rfl, rfl⟩ rfl rfl rfl rfl rfl jFunc Tryz.func10 joined
   (of_decide_eq_true (by kernel_rfl)) (by unfold Func.isWrapper; first | (rw [if_pos (by decide +kernel)]; kernel_rfl) | (rw [if_neg (by decide +kernel)]; exact ⟨rfl, rfl⟩))
   (fun os started H enc _ F => lifted os started H enc F)
end Go.Proofs.YtojaemgabaehdaaGreat.exportEnds
