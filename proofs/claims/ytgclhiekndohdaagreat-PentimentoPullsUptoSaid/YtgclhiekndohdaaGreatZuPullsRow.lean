/-
PentimentoPulls: who has a copy of a disk as it was when its bitmap was added, and reads by requests just what that tells to be dirty, has the disk as it is, whatever jobs did meanwhile. The theorem has no condition: the given statement says for which arguments.
-/
import Derived.Test.YtgclhiekndohdaaGreatZuPulls
set_option linter.all false
set_option maxRecDepth 100000
set_option maxHeartbeats 0
namespace Go.Proofs.YtgclhiekndohdaaGreat.pentimentoPulls
open Go.ChangeShapes Go.WideShapes Go.ChangeAt Go.RowKit
def asc (hX:Type) (enc:TypeId×Value->hX) (W:aH9) (args:aJ6) (ds gs:List (DataW hX)) (o9:List MemPlace) (base:Nat)
  (Dm: ∀(j:Nat) t v,Tryz.f4.params[j]? =some t->args[j]? =some v->Value.okWide Tryz.prog W .any base t v)
  (c1:DataW.Whole enc Tryz.prog Tryz.f4.params.toList Rows.pentimentoPullsSpec.vars false W args.toList ds gs o9) (Z:Rows.uptoSmall hX (ds++gs)=true):
  Calls Tryz.prog 4 args W fun e ny=> ∃v,e= .returned v/\Rows.pentimentoPullsSpec.post enc Tryz.prog Tryz.f4 false true false false W args v ny:=
 adz 4 Tryz.f4 Rows.pentimentoPullsSpec [aq,.ci np] 1048576 rfl rfl aE0 (fun ds h=>by
  match ds,h with
  | [_,_],_=>exact⟨rfl,rfl,rfl⟩) Dm c1 (gd Z) fun a O aj=>by
  obtain⟨x,l,u⟩:=a;have O:h8 aq x+(h8 (.ci np) l+0)<=1048576:=O;exact ar6 x l (Fa.of aD7)
def lifted (os:Os) (PT:os.Started) (hX:Type) (enc:TypeId×Value->hX) (F:Stop.Interp):
  ReturnsInHanded {} Tryz.checked os 4 .any ((Rows.OpenSpec.upto Rows.pentimentoPullsSpec).pre6 enc Tryz.prog Tryz.f4 Rows.pentimentoPullsUptoRow.domain false) (((Rows.OpenSpec.upto Rows.pentimentoPullsSpec).at F).post enc Tryz.prog Tryz.f4 false true false false):=by
 refine returnsInHanded_of_cond (C:=Tryz.checked) (s:=Rows.OpenSpec.upto Rows.pentimentoPullsSpec) (k:=Rows.uptoSmall) rfl adx PT aE0 Tryz.func4
  (OpenSpec.witness (enc:=enc) (C:=Tryz.checked) (s:=Rows.OpenSpec.upto Rows.pentimentoPullsSpec) (k:=Rows.uptoSmall) rfl false ⟨#[],#[.int .i64 0,.slice none 0 0],[]⟩ 8 aE0 aE0 aE0
   (x:=([.lit (.int .i64 0),.nil],[],[])) aE0 rfl aE0) ?_
 intro W base args ds gs o9 Dm c1 _ Z _;exact asc hX enc W args ds gs o9 base Dm c1 Z
def asd:(Rows.pentimentoPullsUptoRow.inPlace == Tryz.prog.inPlace 4)=true:=by kernel_rfl
def ase:(Rows.pentimentoPullsUptoRow.unfollowed == Tryz.prog.unfollowed 4)=true:=by kernel_rfl
def asf:(Rows.pentimentoPullsUptoRow.recurses == Tryz.prog.recurses 4)=true:=by kernel_rfl
def asg:(Rows.pentimentoPullsUptoRow.named == Tryz.prog.varsNamed 4)=true:=by kernel_rfl
def ash:Tryz.prog.funcNamed Rows.pentimentoPullsUptoRow.func=some 4:=by kernel_rfl
def asi:joinedFacts Tryz.prog 4 Tryz.f4 (Rows.OpenSpec.upto Rows.pentimentoPullsSpec).bare Rows.pentimentoPullsUptoRow=true:=by
 unfold joinedFacts;refine it (it (it (it (it (it (it (it (it (it (it (it (it (it (it (it (it (it (it (it (it (it (it (it (it (it (it (it (it (it (it ?_ ?_) ?_) ?_) ?_) ?_) ?_) ?_) ?_) ?_) ?_) ?_) ?_) ?_) ?_) ?_) ?_) ?_) ?_) ?_) ?_) ?_) ?_) ?_) ?_) ?_) ?_) ?_) ?_) ?_) ?_) ?_
 .kernel_rfl
 .exact adA
 .exact adB
 .kernel_rfl
 .kernel_rfl
 .kernel_rfl
 .kernel_rfl
 .kernel_rfl
 .kernel_rfl
 .exact asd
 .exact ase
 .exact asf
 .exact asg
 .kernel_rfl
 .kernel_rfl
 .kernel_rfl
 .kernel_rfl
 .kernel_rfl
 .kernel_rfl
 .kernel_rfl
 .kernel_rfl
 .kernel_rfl
 .exact adC
 .kernel_rfl
 .kernel_rfl
 .exact adD
 .exact adE
 .exact adF
 .kernel_rfl
 .kernel_rfl
 .kernel_rfl
 .kernel_rfl
theorem proved:Rows.PentimentoPullsUptoSaid:=
 OpenClaim.holds_of_cond 4 Tryz.f4 rfl rfl rfl rfl rfl rfl rfl ⟨rfl,rfl,rfl,rfl,rfl⟩ rfl rfl rfl rfl rfl ash Tryz.func4 asi
  (gd aE0) (by unfold Func.isWrapper;first |(rw[vj (by decide+kernel)];kernel_rfl) |(rw[mu (by decide+kernel)];exact⟨rfl,rfl⟩))
  (fun os PT hX enc _ F=>lifted os PT hX enc F)
end Go.Proofs.YtgclhiekndohdaaGreat.pentimentoPulls
