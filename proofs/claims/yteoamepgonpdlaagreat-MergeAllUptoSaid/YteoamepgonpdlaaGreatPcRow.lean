/-
The theorem of this claim, with no condition; its proof stands on the parts ahead.
-/
import Derived.Test.YteoamepgonpdlaaGreatPc19
set_option linter.unusedVariables false
set_option linter.unusedSimpArgs false
set_option maxRecDepth 10000
namespace Go.Proofs.YteoamepgonpdlaaGreat.mergeAll
open Go.ChangeShapes Go.WideShapes Go.ChangeAt Go.RowKit
theorem contract (H:Type) (enc:TypeId×Value→H) (W:World) (args:Array Value) (ds gs:List (DataW H)) (before:List MemPlace) (base:Nat)
  (hval: ∀(j:Nat) t v,Tryz.f5.params[j]? =some t→args[j]? =some v→Value.okWide Tryz.prog W .any base t v)
  (dY:DataW.Whole enc Tryz.prog Tryz.f5.params.toList Rows.mergeAllSpec.vars false W args.toList ds gs before) (aq:Rows.uptoSmall H (ds++gs)=true):
  Calls Tryz.prog 5 args W fun e ny=> ∃v,e= .returned v∧Rows.mergeAllSpec.post enc Tryz.prog Tryz.f5 false true false false W args v ny:=
 TU 5 Tryz.f5 Rows.mergeAllSpec [.sl pg,.str,.sl kU] 1048576 rfl rfl (by kernel_rfl) (fun ds h=>by
  match ds,h with
  | [_,_,_],_=>exact⟨rfl,rfl,rfl⟩) hval dY (of_decide_eq_true aq) fun a ag hr=>by
  obtain⟨l,x,m,u⟩:=a
  have ag:fV (.sl pg) l+(fV .str x+(fV (.sl kU) m+0))≤1048576:=ag
  have aB:=Pw l
  have hm:=Qe m
  exact acq l x m (by omega) (by omega) (by omega) (by omega)
set_option maxRecDepth 100000 in
theorem lifted (os:Os) (started:os.Started) (H:Type) (enc:TypeId×Value→H) (F:Stop.Interp):
  ReturnsInHanded {} Tryz.checked os 5 .any ((Rows.OpenSpec.upto Rows.mergeAllSpec).pre6 enc Tryz.prog Tryz.f5 Rows.mergeAllUptoRow.domain false) (((Rows.OpenSpec.upto Rows.mergeAllSpec).at F).post enc Tryz.prog Tryz.f5 false true false false):=by
 refine returnsInHanded_of_cond (C:=Tryz.checked) (s:=Rows.OpenSpec.upto Rows.mergeAllSpec) (k:=Rows.uptoSmall) rfl TS started (by kernel_rfl) Tryz.func5
  (OpenSpec.witness (enc:=enc) (C:=Tryz.checked) (s:=Rows.OpenSpec.upto Rows.mergeAllSpec) (k:=Rows.uptoSmall) rfl false ⟨#[],#[.slice none 0 0,.string ⟨#[]⟩,.slice none 0 0],[]⟩ 8 (by kernel_rfl) (by kernel_rfl) (by kernel_rfl)
   (x:=([.nil,.lit (.string []),.nil],[],[])) (by kernel_rfl) rfl (by kernel_rfl)) ?_
 intro W base args ds gs before hval dY _ aq _
 exact contract H enc W args ds gs before base hval dY aq
set_option maxRecDepth 100000 in
theorem acI:(Rows.mergeAllUptoRow.inPlace == Tryz.prog.inPlace 5)=true:=by kernel_rfl
set_option maxRecDepth 100000 in
theorem acJ:(Rows.mergeAllUptoRow.unfollowed == Tryz.prog.unfollowed 5)=true:=by kernel_rfl
set_option maxRecDepth 100000 in
theorem acK:(Rows.mergeAllUptoRow.recurses == Tryz.prog.recurses 5)=true:=by kernel_rfl
set_option maxRecDepth 100000 in
theorem acL:(Rows.mergeAllUptoRow.named == Tryz.prog.varsNamed 5)=true:=by kernel_rfl
set_option maxRecDepth 100000 in
theorem acM:Tryz.prog.funcNamed Rows.mergeAllUptoRow.func=some 5:=by kernel_rfl
set_option maxRecDepth 100000 in
theorem acN:joinedFacts Tryz.prog 5 Tryz.f5 (Rows.OpenSpec.upto Rows.mergeAllSpec).bare Rows.mergeAllUptoRow=true:=by
 unfold joinedFacts
 refine iy (iy (iy (iy (iy (iy (iy (iy (iy (iy (iy (iy (iy (iy (iy (iy (iy (iy (iy (iy (iy (iy (iy (iy (iy (iy (iy (iy (iy (iy (iy ?_ ?_) ?_) ?_) ?_) ?_) ?_) ?_) ?_) ?_) ?_) ?_) ?_) ?_) ?_) ?_) ?_) ?_) ?_) ?_) ?_) ?_) ?_) ?_) ?_) ?_) ?_) ?_) ?_) ?_) ?_) ?_
 ·kernel_rfl
 ·exact TV
 ·exact TW
 ·kernel_rfl
 ·kernel_rfl
 ·kernel_rfl
 ·kernel_rfl
 ·kernel_rfl
 ·kernel_rfl
 ·exact acI
 ·exact acJ
 ·exact acK
 ·exact acL
 ·kernel_rfl
 ·kernel_rfl
 ·kernel_rfl
 ·kernel_rfl
 ·kernel_rfl
 ·kernel_rfl
 ·kernel_rfl
 ·kernel_rfl
 ·kernel_rfl
 ·exact TX
 ·kernel_rfl
 ·kernel_rfl
 ·exact TY
 ·exact TZ
 ·exact T1
 ·kernel_rfl
 ·kernel_rfl
 ·kernel_rfl
 ·kernel_rfl
theorem proved:Rows.MergeAllUptoSaid:=
 OpenClaim.holds_of_cond 5 Tryz.f5 rfl rfl rfl rfl rfl rfl rfl ⟨rfl,rfl,rfl,rfl,rfl⟩ rfl rfl rfl rfl rfl acM Tryz.func5 acN
  (of_decide_eq_true (by kernel_rfl)) (by unfold Func.isWrapper;first |(rw[if_pos (by decide+kernel)];kernel_rfl) |(rw[if_neg (by decide+kernel)];exact⟨rfl,rfl⟩))
  (fun os started H enc _ F=>lifted os started H enc F)
end Go.Proofs.YteoamepgonpdlaaGreat.mergeAll
