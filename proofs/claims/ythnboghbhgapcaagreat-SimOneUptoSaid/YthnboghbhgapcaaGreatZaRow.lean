/-
SimOne: there is one job at most: as long as there is one no other one begins, and no overlay is added. The theorem has no condition: the given statement says for which arguments.
-/
import Derived.Test.YthnboghbhgapcaaGreatZa22
set_option linter.unusedVariables false
set_option linter.unusedSimpArgs false
set_option maxRecDepth 10000
namespace Go.Proofs.YthnboghbhgapcaaGreat.simOne
open Go.ChangeShapes Go.WideShapes Go.ChangeAt Go.RowKit
theorem aoy (hC:Type) (enc:TypeId×Value->hC) (W:World) (args:Array Value) (ds gs:List (DataW hC)) (oL:List MemPlace) (base:Nat)
  (ut: ∀(j:Nat) t v,Tryz.f3.params[j]? =some t->args[j]? =some v->Value.okWide Tryz.prog W .any base t v)
  (d2:DataW.Whole enc Tryz.prog Tryz.f3.params.toList Rows.simOneSpec.vars false W args.toList ds gs oL) (ab:Rows.uptoSmall hC (ds++gs)=true):
  Calls Tryz.prog 3 args W fun e j2=> ∃v,e= .returned v/\Rows.simOneSpec.post enc Tryz.prog Tryz.f3 false true false false W args v j2:=
 abl 3 Tryz.f3 Rows.simOneSpec [.bR ak (.bR ak ak),.b7 ic,ic] 1048576 rfl rfl au8 (fun ds h=>by
  match ds,h with
  | [_,_,_],_=>exact⟨rfl,rfl,rfl⟩) ut d2 (gd ab) fun a O aF=>by
  obtain⟨x,l,s,u⟩:=a;have O:fF (.bR ak (.bR ak ak)) x+(fF (.b7 ic) l+(fF ic s+0))<=1048576:=O;exact aow x.1 x.2.1 x.2.2 l s (pW.of au5 (aou aF.2.1)) (pW.one au5 (Xb aF.2.2.1))
set_option maxRecDepth 100000 in
theorem lifted (os:Os) (N0:os.Started) (hC:Type) (enc:TypeId×Value->hC) (F:Stop.Interp):
  ReturnsInHanded {} Tryz.checked os 3 .any ((Rows.OpenSpec.upto Rows.simOneSpec).pre6 enc Tryz.prog Tryz.f3 Rows.simOneUptoRow.domain false) (((Rows.OpenSpec.upto Rows.simOneSpec).at F).post enc Tryz.prog Tryz.f3 false true false false):=by
 refine returnsInHanded_of_cond (C:=Tryz.checked) (s:=Rows.OpenSpec.upto Rows.simOneSpec) (k:=Rows.uptoSmall) rfl abj N0 au8 Tryz.func3
  (OpenSpec.witness (enc:=enc) (C:=Tryz.checked) (s:=Rows.OpenSpec.upto Rows.simOneSpec) (k:=Rows.uptoSmall) rfl false ⟨#[],#[.agg #[.int .i64 0,.int .i64 0,.int .i64 0],.slice none 0 0,.agg #[.int .i64 0,.int .i64 0,.int .i64 0,.slice none 0 0,.string ⟨#[]⟩,.string ⟨#[]⟩,.slice none 0 0]],[]⟩ 8 au8 au8 au8
   (x:=([.agg [.lit (.int .i64 0),.lit (.int .i64 0),.lit (.int .i64 0)],.nil,.agg [.lit (.int .i64 0),.lit (.int .i64 0),.lit (.int .i64 0),.nil,.lit (.string []),.lit (.string []),.nil]],[],[])) au8 rfl au8) ?_
 intro W base args ds gs oL ut d2 _ ab _;exact aoy hC enc W args ds gs oL base ut d2 ab
set_option maxRecDepth 100000 in
theorem aoz:(Rows.simOneUptoRow.inPlace == Tryz.prog.inPlace 3)=true:=by kernel_rfl
set_option maxRecDepth 100000 in
theorem aoA:(Rows.simOneUptoRow.unfollowed == Tryz.prog.unfollowed 3)=true:=by kernel_rfl
set_option maxRecDepth 100000 in
theorem aoB:(Rows.simOneUptoRow.recurses == Tryz.prog.recurses 3)=true:=by kernel_rfl
set_option maxRecDepth 100000 in
theorem aoC:(Rows.simOneUptoRow.named == Tryz.prog.varsNamed 3)=true:=by kernel_rfl
set_option maxRecDepth 100000 in
theorem aoD:Tryz.prog.funcNamed Rows.simOneUptoRow.func=some 3:=by kernel_rfl
set_option maxRecDepth 100000 in
theorem aoE:joinedFacts Tryz.prog 3 Tryz.f3 (Rows.OpenSpec.upto Rows.simOneSpec).bare Rows.simOneUptoRow=true:=by
 unfold joinedFacts;refine ih (ih (ih (ih (ih (ih (ih (ih (ih (ih (ih (ih (ih (ih (ih (ih (ih (ih (ih (ih (ih (ih (ih (ih (ih (ih (ih (ih (ih (ih (ih ?_ ?_) ?_) ?_) ?_) ?_) ?_) ?_) ?_) ?_) ?_) ?_) ?_) ?_) ?_) ?_) ?_) ?_) ?_) ?_) ?_) ?_) ?_) ?_) ?_) ?_) ?_) ?_) ?_) ?_) ?_) ?_
 .kernel_rfl
 .exact abm
 .exact abn
 .kernel_rfl
 .kernel_rfl
 .kernel_rfl
 .kernel_rfl
 .kernel_rfl
 .kernel_rfl
 .exact aoz
 .exact aoA
 .exact aoB
 .exact aoC
 .kernel_rfl
 .kernel_rfl
 .kernel_rfl
 .kernel_rfl
 .kernel_rfl
 .kernel_rfl
 .kernel_rfl
 .kernel_rfl
 .kernel_rfl
 .exact abo
 .kernel_rfl
 .kernel_rfl
 .exact abp
 .exact abq
 .exact abr
 .kernel_rfl
 .kernel_rfl
 .kernel_rfl
 .kernel_rfl
theorem proved:Rows.SimOneUptoSaid:=
 OpenClaim.holds_of_cond 3 Tryz.f3 rfl rfl rfl rfl rfl rfl rfl ⟨rfl,rfl,rfl,rfl,rfl⟩ rfl rfl rfl rfl rfl aoD Tryz.func3 aoE
  (gd au8) (by unfold Func.isWrapper;first |(rw[if_pos (by decide+kernel)];kernel_rfl) |(rw[if_neg (by decide+kernel)];exact⟨rfl,rfl⟩))
  (fun os N0 hC enc _ F=>lifted os N0 hC enc F)
end Go.Proofs.YthnboghbhgapcaaGreat.simOne
