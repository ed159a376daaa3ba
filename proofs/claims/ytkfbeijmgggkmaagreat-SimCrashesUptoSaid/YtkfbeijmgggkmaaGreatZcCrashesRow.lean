/-
SimCrashes: a crash leaves the list that was committed last, the disk as it was, no job, and no bitmap of use. The theorem has no condition: the given statement says for which arguments.
-/
import Derived.Test.YtkfbeijmgggkmaaGreatZcCrashes
set_option linter.unusedVariables false
set_option linter.unusedSimpArgs false
set_option maxRecDepth 10000
set_option maxHeartbeats 4000000
namespace Go.Proofs.YtkfbeijmgggkmaaGreat.simCrashes
open Go.ChangeShapes Go.WideShapes Go.ChangeAt Go.RowKit
theorem zh (eu:Type) (enc:TypeId×Value->eu) (W:World) (args:Array Value) (ds gs:List (DataW eu)) (jo:List MemPlace) (base:Nat)
  (lk: ∀(j:Nat) t v,Tryz.f7.params[j]? =some t->args[j]? =some v->Value.okWide Tryz.prog W .any base t v)
  (cW:DataW.Whole enc Tryz.prog Tryz.f7.params.toList Rows.simCrashesSpec.vars false W args.toList ds gs jo) (Z:Rows.uptoSmall eu (ds++gs)=true):
  Calls Tryz.prog 7 args W fun e iN=> ∃v,e= .returned v/\Rows.simCrashesSpec.post enc Tryz.prog Tryz.f7 false true false false W args v iN:=
 FR 7 Tryz.f7 Rows.simCrashesSpec [.bK ai (.bK ai ai),.b4 en,.b4 ie] 1048576 rfl rfl aw3 (fun ds h=>by
  match ds,h with
  | [_,_,_],_=>exact⟨rfl,rfl,rfl⟩) lk cW (gd Z) fun a O aC=>by
  obtain⟨x,l,ks,u⟩:=a;have O:eY (.bK ai (.bK ai ai)) x+(eY (.b4 en) l+(eY (.b4 ie) ks+0))<=1048576:=O;exact apK x.1 x.2.1 x.2.2 l ks (lf.of aw0 (IX aC.2.1)) (lf.hG aw0)
set_option maxRecDepth 100000 in
theorem lifted (os:Os) (pI:os.Started) (eu:Type) (enc:TypeId×Value->eu) (F:Stop.Interp):
  ReturnsInHanded {} Tryz.checked os 7 .any ((Rows.OpenSpec.upto Rows.simCrashesSpec).pre6 enc Tryz.prog Tryz.f7 Rows.simCrashesUptoRow.domain false) (((Rows.OpenSpec.upto Rows.simCrashesSpec).at F).post enc Tryz.prog Tryz.f7 false true false false):=by
 refine returnsInHanded_of_cond (C:=Tryz.checked) (s:=Rows.OpenSpec.upto Rows.simCrashesSpec) (k:=Rows.uptoSmall) rfl FQ pI aw3 Tryz.func7
  (OpenSpec.witness (enc:=enc) (C:=Tryz.checked) (s:=Rows.OpenSpec.upto Rows.simCrashesSpec) (k:=Rows.uptoSmall) rfl false ⟨#[],#[.agg #[.int .i64 0,.int .i64 0,.int .i64 0],.slice none 0 0,.slice none 0 0],[]⟩ 8 aw3 aw3 aw3
   (x:=([.agg [.lit (.int .i64 0),.lit (.int .i64 0),.lit (.int .i64 0)],.nil,.nil],[],[])) aw3 rfl aw3) ?_
 intro W base args ds gs jo lk cW _ Z _;exact zh eu enc W args ds gs jo base lk cW Z
set_option maxRecDepth 100000 in
theorem zi:(Rows.simCrashesUptoRow.inPlace == Tryz.prog.inPlace 7)=true:=by kernel_rfl
set_option maxRecDepth 100000 in
theorem zj:(Rows.simCrashesUptoRow.unfollowed == Tryz.prog.unfollowed 7)=true:=by kernel_rfl
set_option maxRecDepth 100000 in
theorem zk:(Rows.simCrashesUptoRow.recurses == Tryz.prog.recurses 7)=true:=by kernel_rfl
set_option maxRecDepth 100000 in
theorem zl:(Rows.simCrashesUptoRow.named == Tryz.prog.varsNamed 7)=true:=by kernel_rfl
set_option maxRecDepth 100000 in
theorem zm:Tryz.prog.funcNamed Rows.simCrashesUptoRow.func=some 7:=by kernel_rfl
set_option maxRecDepth 100000 in
theorem zn:joinedFacts Tryz.prog 7 Tryz.f7 (Rows.OpenSpec.upto Rows.simCrashesSpec).bare Rows.simCrashesUptoRow=true:=by
 unfold joinedFacts;refine co (co (co (co (co (co (co (co (co (co (co (co (co (co (co (co (co (co (co (co (co (co (co (co (co (co (co (co (co (co (co ?_ ?_) ?_) ?_) ?_) ?_) ?_) ?_) ?_) ?_) ?_) ?_) ?_) ?_) ?_) ?_) ?_) ?_) ?_) ?_) ?_) ?_) ?_) ?_) ?_) ?_) ?_) ?_) ?_) ?_) ?_) ?_
 .kernel_rfl
 .exact fSz
 .exact FT
 .kernel_rfl
 .kernel_rfl
 .kernel_rfl
 .kernel_rfl
 .kernel_rfl
 .kernel_rfl
 .exact zi
 .exact zj
 .exact zk
 .exact zl
 .kernel_rfl
 .kernel_rfl
 .kernel_rfl
 .kernel_rfl
 .kernel_rfl
 .kernel_rfl
 .kernel_rfl
 .kernel_rfl
 .kernel_rfl
 .exact FU
 .kernel_rfl
 .kernel_rfl
 .exact FV
 .exact FW
 .exact FX
 .kernel_rfl
 .kernel_rfl
 .kernel_rfl
 .kernel_rfl
theorem proved:Rows.SimCrashesUptoSaid:=
 OpenClaim.holds_of_cond 7 Tryz.f7 rfl rfl rfl rfl rfl rfl rfl ⟨rfl,rfl,rfl,rfl,rfl⟩ rfl rfl rfl rfl rfl zm Tryz.func7 zn
  (gd aw3) (by unfold Func.isWrapper;first |(rw[if_pos (by decide+kernel)];kernel_rfl) |(rw[if_neg (by decide+kernel)];exact⟨rfl,rfl⟩))
  (fun os pI eu enc _ F=>lifted os pI eu enc F)
end Go.Proofs.YtkfbeijmgggkmaaGreat.simCrashes
