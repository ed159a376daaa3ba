/-
SimNames: the disk is an image of the chain, of as many clusters as at first, and stands on nothing that is no image. The theorem has no condition: the given statement says for which arguments.
-/
import Derived.Test.YthnboghbhgapcaaGreatZb21
set_option linter.unusedVariables false
set_option linter.unusedSimpArgs false
set_option maxRecDepth 10000
set_option maxHeartbeats 4000000
namespace Go.Proofs.YthnboghbhgapcaaGreat.simNames
open Go.ChangeShapes Go.WideShapes Go.ChangeAt Go.RowKit
theorem aoE (hE:Type) (enc:TypeId×Value->hE) (W:World) (args:Array Value) (ds gs:List (DataW hE)) (oO:List MemPlace) (base:Nat)
  (uz: ∀(j:Nat) t v,Tryz.f4.params[j]? =some t->args[j]? =some v->Value.okWide Tryz.prog W .any base t v)
  (d2:DataW.Whole enc Tryz.prog Tryz.f4.params.toList Rows.simNamesSpec.vars false W args.toList ds gs oO) (ab:Rows.uptoSmall hE (ds++gs)=true):
  Calls Tryz.prog 4 args W fun e j2=> ∃v,e= .returned v/\Rows.simNamesSpec.post enc Tryz.prog Tryz.f4 false true false false W args v j2:=
 abv 4 Tryz.f4 Rows.simNamesSpec [.bQ ak (.bQ ak ak),.b7 iL] 1048576 rfl rfl au8 (fun ds h=>by
  match ds,h with
  | [_,_],_=>exact⟨rfl,rfl,rfl⟩) uz d2 (gd ab) fun a O aF=>by
  obtain⟨x,l,u⟩:=a;have O:fM (.bQ ak (.bQ ak ak)) x+(fM (.b7 iL) l+0)<=1048576:=O;exact aoA x.1 x.2.1 x.2.2 l (rT.of au5 (aoy aF.2.1))
set_option maxRecDepth 100000 in
theorem lifted (os:Os) (N6:os.Started) (hE:Type) (enc:TypeId×Value->hE) (F:Stop.Interp):
  ReturnsInHanded {} Tryz.checked os 4 .any ((Rows.OpenSpec.upto Rows.simNamesSpec).pre6 enc Tryz.prog Tryz.f4 Rows.simNamesUptoRow.domain false) (((Rows.OpenSpec.upto Rows.simNamesSpec).at F).post enc Tryz.prog Tryz.f4 false true false false):=by
 refine returnsInHanded_of_cond (C:=Tryz.checked) (s:=Rows.OpenSpec.upto Rows.simNamesSpec) (k:=Rows.uptoSmall) rfl abt N6 au8 Tryz.func4
  (OpenSpec.witness (enc:=enc) (C:=Tryz.checked) (s:=Rows.OpenSpec.upto Rows.simNamesSpec) (k:=Rows.uptoSmall) rfl false ⟨#[],#[.agg #[.int .i64 0,.int .i64 0,.int .i64 0],.slice none 0 0],[]⟩ 8 au8 au8 au8
   (x:=([.agg [.lit (.int .i64 0),.lit (.int .i64 0),.lit (.int .i64 0)],.nil],[],[])) au8 rfl au8) ?_
 intro W base args ds gs oO uz d2 _ ab _;exact aoE hE enc W args ds gs oO base uz d2 ab
set_option maxRecDepth 100000 in
theorem aoF:(Rows.simNamesUptoRow.inPlace == Tryz.prog.inPlace 4)=true:=by kernel_rfl
set_option maxRecDepth 100000 in
theorem aoG:(Rows.simNamesUptoRow.unfollowed == Tryz.prog.unfollowed 4)=true:=by kernel_rfl
set_option maxRecDepth 100000 in
theorem aoH:(Rows.simNamesUptoRow.recurses == Tryz.prog.recurses 4)=true:=by kernel_rfl
set_option maxRecDepth 100000 in
theorem aoI:(Rows.simNamesUptoRow.named == Tryz.prog.varsNamed 4)=true:=by kernel_rfl
set_option maxRecDepth 100000 in
theorem aoJ:Tryz.prog.funcNamed Rows.simNamesUptoRow.func=some 4:=by kernel_rfl
set_option maxRecDepth 100000 in
theorem aoK:joinedFacts Tryz.prog 4 Tryz.f4 (Rows.OpenSpec.upto Rows.simNamesSpec).bare Rows.simNamesUptoRow=true:=by
 unfold joinedFacts;refine ih (ih (ih (ih (ih (ih (ih (ih (ih (ih (ih (ih (ih (ih (ih (ih (ih (ih (ih (ih (ih (ih (ih (ih (ih (ih (ih (ih (ih (ih (ih ?_ ?_) ?_) ?_) ?_) ?_) ?_) ?_) ?_) ?_) ?_) ?_) ?_) ?_) ?_) ?_) ?_) ?_) ?_) ?_) ?_) ?_) ?_) ?_) ?_) ?_) ?_) ?_) ?_) ?_) ?_) ?_
 .kernel_rfl
 .exact abw
 .exact abx
 .kernel_rfl
 .kernel_rfl
 .kernel_rfl
 .kernel_rfl
 .kernel_rfl
 .kernel_rfl
 .exact aoF
 .exact aoG
 .exact aoH
 .exact aoI
 .kernel_rfl
 .kernel_rfl
 .kernel_rfl
 .kernel_rfl
 .kernel_rfl
 .kernel_rfl
 .kernel_rfl
 .kernel_rfl
 .kernel_rfl
 .exact aby
 .kernel_rfl
 .kernel_rfl
 .exact abz
 .exact abA
 .exact abB
 .kernel_rfl
 .kernel_rfl
 .kernel_rfl
 .kernel_rfl
theorem proved:Rows.SimNamesUptoSaid:=
 OpenClaim.holds_of_cond 4 Tryz.f4 rfl rfl rfl rfl rfl rfl rfl ⟨rfl,rfl,rfl,rfl,rfl⟩ rfl rfl rfl rfl rfl aoJ Tryz.func4 aoK
  (gd au8) (by unfold Func.isWrapper;first |(rw[if_pos (by decide+kernel)];kernel_rfl) |(rw[if_neg (by decide+kernel)];exact⟨rfl,rfl⟩))
  (fun os N6 hE enc _ F=>lifted os N6 hE enc F)
end Go.Proofs.YthnboghbhgapcaaGreat.simNames
