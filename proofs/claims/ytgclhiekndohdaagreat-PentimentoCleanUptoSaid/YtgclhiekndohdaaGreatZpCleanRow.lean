/-
PentimentoClean: whatever is written, and whatever jobs do, are cancelled, or end: all images of the chain are clean, and the disk is as it was written. The theorem has no condition: the given statement says for which arguments.
-/
import Derived.Test.YtgclhiekndohdaaGreatZpClean
set_option linter.all false
set_option maxRecDepth 100000
set_option maxHeartbeats 0
namespace Go.Proofs.YtgclhiekndohdaaGreat.pentimentoClean
open Go.ChangeShapes Go.WideShapes Go.ChangeAt Go.RowKit
def an' (hE:Type) (enc:TypeId×Value->hE) (W:aD8) (args:aF6) (ds gs:List (DataW hE)) (oo:List MemPlace) (base:Nat)
  (BD: ∀(j:Nat) t v,Tryz.f3.params[j]? =some t->args[j]? =some v->Value.okWide Tryz.prog W .any base t v)
  (cV:DataW.Whole enc Tryz.prog Tryz.f3.params.toList Rows.pentimentoCleanSpec.vars false W args.toList ds gs oo) (Z:Rows.uptoSmall hE (ds++gs)=true):
  Calls Tryz.prog 3 args W fun e mL=> ∃v,e= .returned v/\Rows.pentimentoCleanSpec.post enc Tryz.prog Tryz.f3 false true false false W args v mL:=
 aaN 3 Tryz.f3 Rows.pentimentoCleanSpec [aj,.ce mC] 1048576 rfl rfl aA0 (fun ds h=>by
  match ds,h with
  | [_,_],_=>exact⟨rfl,rfl,rfl⟩) BD cV (gd Z) fun a O aw=>by
  obtain⟨x,l,u⟩:=a;have O:hO aj x+(hO (.ce mC) l+0)<=1048576:=O;exact an6 x l (Dt.of az7)
def lifted (os:Os) (NE:os.Started) (hE:Type) (enc:TypeId×Value->hE) (F:Stop.Interp):
  ReturnsInHanded {} Tryz.checked os 3 .any ((Rows.OpenSpec.upto Rows.pentimentoCleanSpec).pre6 enc Tryz.prog Tryz.f3 Rows.pentimentoCleanUptoRow.domain false) (((Rows.OpenSpec.upto Rows.pentimentoCleanSpec).at F).post enc Tryz.prog Tryz.f3 false true false false):=by
 refine returnsInHanded_of_cond (C:=Tryz.checked) (s:=Rows.OpenSpec.upto Rows.pentimentoCleanSpec) (k:=Rows.uptoSmall) rfl aaL NE aA0 Tryz.func3
  (OpenSpec.witness (enc:=enc) (C:=Tryz.checked) (s:=Rows.OpenSpec.upto Rows.pentimentoCleanSpec) (k:=Rows.uptoSmall) rfl false ⟨#[],#[.int .i64 0,.slice none 0 0],[]⟩ 8 aA0 aA0 aA0
   (x:=([.lit (.int .i64 0),.nil],[],[])) aA0 rfl aA0) ?_
 intro W base args ds gs oo BD cV _ Z _;exact an' hE enc W args ds gs oo base BD cV Z
def aoa:(Rows.pentimentoCleanUptoRow.inPlace == Tryz.prog.inPlace 3)=true:=by kernel_rfl
def aob:(Rows.pentimentoCleanUptoRow.unfollowed == Tryz.prog.unfollowed 3)=true:=by kernel_rfl
def aoc:(Rows.pentimentoCleanUptoRow.recurses == Tryz.prog.recurses 3)=true:=by kernel_rfl
def aod:(Rows.pentimentoCleanUptoRow.named == Tryz.prog.varsNamed 3)=true:=by kernel_rfl
def aoe:Tryz.prog.funcNamed Rows.pentimentoCleanUptoRow.func=some 3:=by kernel_rfl
def aof:joinedFacts Tryz.prog 3 Tryz.f3 (Rows.OpenSpec.upto Rows.pentimentoCleanSpec).bare Rows.pentimentoCleanUptoRow=true:=by
 unfold joinedFacts;refine h7 (h7 (h7 (h7 (h7 (h7 (h7 (h7 (h7 (h7 (h7 (h7 (h7 (h7 (h7 (h7 (h7 (h7 (h7 (h7 (h7 (h7 (h7 (h7 (h7 (h7 (h7 (h7 (h7 (h7 (h7 ?_ ?_) ?_) ?_) ?_) ?_) ?_) ?_) ?_) ?_) ?_) ?_) ?_) ?_) ?_) ?_) ?_) ?_) ?_) ?_) ?_) ?_) ?_) ?_) ?_) ?_) ?_) ?_) ?_) ?_) ?_) ?_
 .kernel_rfl
 .exact aaO
 .exact aaP
 .kernel_rfl
 .kernel_rfl
 .kernel_rfl
 .kernel_rfl
 .kernel_rfl
 .kernel_rfl
 .exact aoa
 .exact aob
 .exact aoc
 .exact aod
 .kernel_rfl
 .kernel_rfl
 .kernel_rfl
 .kernel_rfl
 .kernel_rfl
 .kernel_rfl
 .kernel_rfl
 .kernel_rfl
 .kernel_rfl
 .exact aaQ
 .kernel_rfl
 .kernel_rfl
 .exact aaR
 .exact aaS
 .exact aaT
 .kernel_rfl
 .kernel_rfl
 .kernel_rfl
 .kernel_rfl
theorem proved:Rows.PentimentoCleanUptoSaid:=
 OpenClaim.holds_of_cond 3 Tryz.f3 rfl rfl rfl rfl rfl rfl rfl ⟨rfl,rfl,rfl,rfl,rfl⟩ rfl rfl rfl rfl rfl aoe Tryz.func3 aof
  (gd aA0) (by unfold Func.isWrapper;first |(rw[vj (by decide+kernel)];kernel_rfl) |(rw[mu (by decide+kernel)];exact⟨rfl,rfl⟩))
  (fun os NE hE enc _ F=>lifted os NE hE enc F)
end Go.Proofs.YtgclhiekndohdaaGreat.pentimentoClean
