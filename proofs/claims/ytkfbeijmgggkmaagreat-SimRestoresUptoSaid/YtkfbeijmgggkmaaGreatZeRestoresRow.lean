/-
SimRestores: each backup restores the disk as it was when its push began, whatever was written, cancelled, or failed meanwhile, and whatever crashed, if all are of one bitmap, that was added first, and none is dropped. The theorem has no condition: the given statement says for which arguments.
-/
import Derived.Test.YtkfbeijmgggkmaaGreatZeRestores
set_option linter.all false
set_option maxRecDepth 100000
set_option maxHeartbeats 0
namespace Go.Proofs.YtkfbeijmgggkmaaGreat.simRestores
open Go.ChangeShapes Go.WideShapes Go.ChangeAt Go.RowKit
def aq9 (hY:Type) (enc:TypeId×Value->hY) (W:aH5) (args:aJ3) (ds gs:List (DataW hY)) (pj:List MemPlace) (base:Nat)
  (vl: ∀(j:Nat) t v,Tryz.f4.params[j]? =some t->args[j]? =some v->Value.okWide Tryz.prog W .any base t v)
  (dd:DataW.Whole enc Tryz.prog Tryz.f4.params.toList Rows.simRestoresSpec.vars false W args.toList ds gs pj) (Z:Rows.uptoSmall hY (ds++gs)=true):
  Calls Tryz.prog 4 args W fun e nK=> ∃v,e= .returned v/\Rows.simRestoresSpec.post enc Tryz.prog Tryz.f4 false true false false W args v nK:=
 adk 4 Tryz.f4 Rows.simRestoresSpec [.bU ai (.bU ai ai),ai,.cc hU] 1048576 rfl rfl aD4 (fun ds h=>by
  match ds,h with
  | [_,_,_],_=>exact⟨rfl,rfl,rfl⟩) vl dd (gd Z) fun a O ax=>by
  obtain⟨x,g,l,u⟩:=a;have O:f0 (.bU ai (.bU ai ai)) x+(f0 ai g+(f0 (.cc hU) l+0))<=1048576:=O;exact aq1 x.1 x.2.1 x.2.2 l g (uK.of aD1 (aqz ax.2.2.1))
def lifted (os:Os) (Py:os.Started) (hY:Type) (enc:TypeId×Value->hY) (F:Stop.Interp):
  ReturnsInHanded {} Tryz.checked os 4 .any ((Rows.OpenSpec.upto Rows.simRestoresSpec).pre6 enc Tryz.prog Tryz.f4 Rows.simRestoresUptoRow.domain false) (((Rows.OpenSpec.upto Rows.simRestoresSpec).at F).post enc Tryz.prog Tryz.f4 false true false false):=by
 refine returnsInHanded_of_cond (C:=Tryz.checked) (s:=Rows.OpenSpec.upto Rows.simRestoresSpec) (k:=Rows.uptoSmall) rfl adi Py aD4 Tryz.func4
  (OpenSpec.witness (enc:=enc) (C:=Tryz.checked) (s:=Rows.OpenSpec.upto Rows.simRestoresSpec) (k:=Rows.uptoSmall) rfl false ⟨#[],#[.agg #[.int .i64 0,.int .i64 0,.int .i64 0],.int .i64 0,.slice none 0 0],[]⟩ 8 aD4 aD4 aD4
   (x:=([.agg [.lit (.int .i64 0),.lit (.int .i64 0),.lit (.int .i64 0)],.lit (.int .i64 0),.nil],[],[])) aD4 rfl aD4) ?_
 intro W base args ds gs pj vl dd _ Z _;exact aq9 hY enc W args ds gs pj base vl dd Z
def aq':(Rows.simRestoresUptoRow.inPlace == Tryz.prog.inPlace 4)=true:=by kernel_rfl
def ara:(Rows.simRestoresUptoRow.unfollowed == Tryz.prog.unfollowed 4)=true:=by kernel_rfl
def arb:(Rows.simRestoresUptoRow.recurses == Tryz.prog.recurses 4)=true:=by kernel_rfl
def arc:(Rows.simRestoresUptoRow.named == Tryz.prog.varsNamed 4)=true:=by kernel_rfl
def ard:Tryz.prog.funcNamed Rows.simRestoresUptoRow.func=some 4:=by kernel_rfl
def arf:joinedFacts Tryz.prog 4 Tryz.f4 (Rows.OpenSpec.upto Rows.simRestoresSpec).bare Rows.simRestoresUptoRow=true:=by
 unfold joinedFacts;refine iI (iI (iI (iI (iI (iI (iI (iI (iI (iI (iI (iI (iI (iI (iI (iI (iI (iI (iI (iI (iI (iI (iI (iI (iI (iI (iI (iI (iI (iI (iI ?_ ?_) ?_) ?_) ?_) ?_) ?_) ?_) ?_) ?_) ?_) ?_) ?_) ?_) ?_) ?_) ?_) ?_) ?_) ?_) ?_) ?_) ?_) ?_) ?_) ?_) ?_) ?_) ?_) ?_) ?_) ?_
 .kernel_rfl
 .exact adl
 .exact adm
 .kernel_rfl
 .kernel_rfl
 .kernel_rfl
 .kernel_rfl
 .kernel_rfl
 .kernel_rfl
 .exact aq'
 .exact ara
 .exact arb
 .exact arc
 .kernel_rfl
 .kernel_rfl
 .kernel_rfl
 .kernel_rfl
 .kernel_rfl
 .kernel_rfl
 .kernel_rfl
 .kernel_rfl
 .kernel_rfl
 .exact adn
 .kernel_rfl
 .kernel_rfl
 .exact ado
 .exact adp
 .exact adq
 .kernel_rfl
 .kernel_rfl
 .kernel_rfl
 .kernel_rfl
theorem proved:Rows.SimRestoresUptoSaid:=
 OpenClaim.holds_of_cond 4 Tryz.f4 rfl rfl rfl rfl rfl rfl rfl ⟨rfl,rfl,rfl,rfl,rfl⟩ rfl rfl rfl rfl rfl ard Tryz.func4 arf
  (gd aD4) (by unfold Func.isWrapper;first |(rw[vj (by decide+kernel)];kernel_rfl) |(rw[mu (by decide+kernel)];exact⟨rfl,rfl⟩))
  (fun os Py hY enc _ F=>lifted os Py hY enc F)
end Go.Proofs.YtkfbeijmgggkmaaGreat.simRestores
