/-
SimDisk: what the disk reads is what was written to it, whatever jobs do, are cancelled, or fail, and whatever crashes. The theorem has no condition: the given statement says for which arguments.
-/
import Derived.Test.YtkfbeijmgggkmaaGreatZdDisk
set_option linter.unusedVariables false
set_option linter.unusedSimpArgs false
set_option maxRecDepth 10000
set_option maxHeartbeats 4000000
namespace Go.Proofs.YtkfbeijmgggkmaaGreat.simDisk
open Go.ChangeShapes Go.WideShapes Go.ChangeAt Go.RowKit
theorem apS (hM:Type) (enc:TypeId×Value->hM) (W:World) (args:Array Value) (ds gs:List (DataW hM)) (o0:List MemPlace) (base:Nat)
  (uL: ∀(j:Nat) t v,Tryz.f3.params[j]? =some t->args[j]? =some v->Value.okWide Tryz.prog W .any base t v)
  (dc:DataW.Whole enc Tryz.prog Tryz.f3.params.toList Rows.simDiskSpec.vars false W args.toList ds gs o0) (aa:Rows.uptoSmall hM (ds++gs)=true):
  Calls Tryz.prog 3 args W fun e nd=> ∃v,e= .returned v/\Rows.simDiskSpec.post enc Tryz.prog Tryz.f3 false true false false W args v nd:=
 ach 3 Tryz.f3 Rows.simDiskSpec [.bP al (.bP al al),.b' i3] 1048576 rfl rfl ay7 (fun ds h=>by
  match ds,h with
  | [_,_],_=>exact⟨rfl,rfl,rfl⟩) uL dc (gd aa) fun a O ax=>by
  obtain⟨x,l,u⟩:=a;have O:fV (.bP al (.bP al al)) x+(fV (.b' i3) l+0)<=1048576:=O;exact apO x.1 x.2.1 x.2.2 l (ue.of ay4 (apv ax.2.1))
set_option maxRecDepth 100000 in
theorem lifted (os:Os) (O3:os.Started) (hM:Type) (enc:TypeId×Value->hM) (F:Stop.Interp):
  ReturnsInHanded {} Tryz.checked os 3 .any ((Rows.OpenSpec.upto Rows.simDiskSpec).pre6 enc Tryz.prog Tryz.f3 Rows.simDiskUptoRow.domain false) (((Rows.OpenSpec.upto Rows.simDiskSpec).at F).post enc Tryz.prog Tryz.f3 false true false false):=by
 refine returnsInHanded_of_cond (C:=Tryz.checked) (s:=Rows.OpenSpec.upto Rows.simDiskSpec) (k:=Rows.uptoSmall) rfl acf O3 ay7 Tryz.func3
  (OpenSpec.witness (enc:=enc) (C:=Tryz.checked) (s:=Rows.OpenSpec.upto Rows.simDiskSpec) (k:=Rows.uptoSmall) rfl false ⟨#[],#[.agg #[.int .i64 0,.int .i64 0,.int .i64 0],.slice none 0 0],[]⟩ 8 ay7 ay7 ay7
   (x:=([.agg [.lit (.int .i64 0),.lit (.int .i64 0),.lit (.int .i64 0)],.nil],[],[])) ay7 rfl ay7) ?_
 intro W base args ds gs o0 uL dc _ aa _;exact apS hM enc W args ds gs o0 base uL dc aa
set_option maxRecDepth 100000 in
theorem apT:(Rows.simDiskUptoRow.inPlace == Tryz.prog.inPlace 3)=true:=by kernel_rfl
set_option maxRecDepth 100000 in
theorem apU:(Rows.simDiskUptoRow.unfollowed == Tryz.prog.unfollowed 3)=true:=by kernel_rfl
set_option maxRecDepth 100000 in
theorem apV:(Rows.simDiskUptoRow.recurses == Tryz.prog.recurses 3)=true:=by kernel_rfl
set_option maxRecDepth 100000 in
theorem apW:(Rows.simDiskUptoRow.named == Tryz.prog.varsNamed 3)=true:=by kernel_rfl
set_option maxRecDepth 100000 in
theorem apX:Tryz.prog.funcNamed Rows.simDiskUptoRow.func=some 3:=by kernel_rfl
set_option maxRecDepth 100000 in
theorem apY:joinedFacts Tryz.prog 3 Tryz.f3 (Rows.OpenSpec.upto Rows.simDiskSpec).bare Rows.simDiskUptoRow=true:=by
 unfold joinedFacts;refine iv (iv (iv (iv (iv (iv (iv (iv (iv (iv (iv (iv (iv (iv (iv (iv (iv (iv (iv (iv (iv (iv (iv (iv (iv (iv (iv (iv (iv (iv (iv ?_ ?_) ?_) ?_) ?_) ?_) ?_) ?_) ?_) ?_) ?_) ?_) ?_) ?_) ?_) ?_) ?_) ?_) ?_) ?_) ?_) ?_) ?_) ?_) ?_) ?_) ?_) ?_) ?_) ?_) ?_) ?_
 .kernel_rfl
 .exact aci
 .exact acj
 .kernel_rfl
 .kernel_rfl
 .kernel_rfl
 .kernel_rfl
 .kernel_rfl
 .kernel_rfl
 .exact apT
 .exact apU
 .exact apV
 .exact apW
 .kernel_rfl
 .kernel_rfl
 .kernel_rfl
 .kernel_rfl
 .kernel_rfl
 .kernel_rfl
 .kernel_rfl
 .kernel_rfl
 .kernel_rfl
 .exact ack
 .kernel_rfl
 .kernel_rfl
 .exact acl
 .exact acm
 .exact acn
 .kernel_rfl
 .kernel_rfl
 .kernel_rfl
 .kernel_rfl
theorem proved:Rows.SimDiskUptoSaid:=
 OpenClaim.holds_of_cond 3 Tryz.f3 rfl rfl rfl rfl rfl rfl rfl ⟨rfl,rfl,rfl,rfl,rfl⟩ rfl rfl rfl rfl rfl apX Tryz.func3 apY
  (gd ay7) (by unfold Func.isWrapper;first |(rw[if_pos (by decide+kernel)];kernel_rfl) |(rw[if_neg (by decide+kernel)];exact⟨rfl,rfl⟩))
  (fun os O3 hM enc _ F=>lifted os O3 hM enc F)
end Go.Proofs.YtkfbeijmgggkmaaGreat.simDisk
