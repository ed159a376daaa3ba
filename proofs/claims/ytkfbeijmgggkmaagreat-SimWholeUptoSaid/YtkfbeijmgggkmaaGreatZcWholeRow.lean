/-
SimWhole: a backup of the whole disk, that nobody disturbs, restores it. The theorem has no condition: the given statement says for which arguments.
-/
import Derived.Test.YtkfbeijmgggkmaaGreatZcWhole
set_option linter.unusedVariables false
set_option linter.unusedSimpArgs false
set_option maxRecDepth 10000
set_option maxHeartbeats 4000000
namespace Go.Proofs.YtkfbeijmgggkmaaGreat.simWhole
open Go.ChangeShapes Go.WideShapes Go.ChangeAt Go.RowKit
theorem zh (eu:Type) (enc:TypeId×Value->eu) (W:World) (args:Array Value) (ds gs:List (DataW eu)) (jo:List MemPlace) (base:Nat)
  (lk: ∀(j:Nat) t v,Tryz.f6.params[j]? =some t->args[j]? =some v->Value.okWide Tryz.prog W .any base t v)
  (cW:DataW.Whole enc Tryz.prog Tryz.f6.params.toList Rows.simWholeSpec.vars false W args.toList ds gs jo) (Z:Rows.uptoSmall eu (ds++gs)=true):
  Calls Tryz.prog 6 args W fun e iN=> ∃v,e= .returned v/\Rows.simWholeSpec.post enc Tryz.prog Tryz.f6 false true false false W args v iN:=
 FR 6 Tryz.f6 Rows.simWholeSpec [.bK ai (.bK ai ai),.b4 en] 1048576 rfl rfl aw3 (fun ds h=>by
  match ds,h with
  | [_,_],_=>exact⟨rfl,rfl,rfl⟩) lk cW (gd Z) fun a O aC=>by
  obtain⟨x,l,u⟩:=a;have O:eY (.bK ai (.bK ai ai)) x+(eY (.b4 en) l+0)<=1048576:=O;exact apW x.1 x.2.1 x.2.2 l (lf.of aw0 (IX aC.2.1))
set_option maxRecDepth 100000 in
theorem lifted (os:Os) (pI:os.Started) (eu:Type) (enc:TypeId×Value->eu) (F:Stop.Interp):
  ReturnsInHanded {} Tryz.checked os 6 .any ((Rows.OpenSpec.upto Rows.simWholeSpec).pre6 enc Tryz.prog Tryz.f6 Rows.simWholeUptoRow.domain false) (((Rows.OpenSpec.upto Rows.simWholeSpec).at F).post enc Tryz.prog Tryz.f6 false true false false):=by
 refine returnsInHanded_of_cond (C:=Tryz.checked) (s:=Rows.OpenSpec.upto Rows.simWholeSpec) (k:=Rows.uptoSmall) rfl FQ pI aw3 Tryz.func6
  (OpenSpec.witness (enc:=enc) (C:=Tryz.checked) (s:=Rows.OpenSpec.upto Rows.simWholeSpec) (k:=Rows.uptoSmall) rfl false ⟨#[],#[.agg #[.int .i64 0,.int .i64 0,.int .i64 0],.slice none 0 0],[]⟩ 8 aw3 aw3 aw3
   (x:=([.agg [.lit (.int .i64 0),.lit (.int .i64 0),.lit (.int .i64 0)],.nil],[],[])) aw3 rfl aw3) ?_
 intro W base args ds gs jo lk cW _ Z _;exact zh eu enc W args ds gs jo base lk cW Z
set_option maxRecDepth 100000 in
theorem zi:(Rows.simWholeUptoRow.inPlace == Tryz.prog.inPlace 6)=true:=by kernel_rfl
set_option maxRecDepth 100000 in
theorem zj:(Rows.simWholeUptoRow.unfollowed == Tryz.prog.unfollowed 6)=true:=by kernel_rfl
set_option maxRecDepth 100000 in
theorem zk:(Rows.simWholeUptoRow.recurses == Tryz.prog.recurses 6)=true:=by kernel_rfl
set_option maxRecDepth 100000 in
theorem zl:(Rows.simWholeUptoRow.named == Tryz.prog.varsNamed 6)=true:=by kernel_rfl
set_option maxRecDepth 100000 in
theorem zm:Tryz.prog.funcNamed Rows.simWholeUptoRow.func=some 6:=by kernel_rfl
set_option maxRecDepth 100000 in
theorem zn:joinedFacts Tryz.prog 6 Tryz.f6 (Rows.OpenSpec.upto Rows.simWholeSpec).bare Rows.simWholeUptoRow=true:=by
 unfold joinedFacts;refine co (co (co (co (co (co (co (co (co (co (co (co (co (co (co (co (co (co (co (co (co (co (co (co (co (co (co (co (co (co (co ?_ ?_) ?_) ?_) ?_) ?_) ?_) ?_) ?_) ?_) ?_) ?_) ?_) ?_) ?_) ?_) ?_) ?_) ?_) ?_) ?_) ?_) ?_) ?_) ?_) ?_) ?_) ?_) ?_) ?_) ?_) ?_
 .kernel_rfl
 .exact fSz
 .exact FT
 .kernel_rfl
 .kernel_rfl
 .kernel_rfl
 .kernel_rfl
 .kernel_rfl
 .kernel_rfl
 .exact zi
 .exact zj
 .exact zk
 .exact zl
 .kernel_rfl
 .kernel_rfl
 .kernel_rfl
 .kernel_rfl
 .kernel_rfl
 .kernel_rfl
 .kernel_rfl
 .kernel_rfl
 .kernel_rfl
 .exact FU
 .kernel_rfl
 .kernel_rfl
 .exact FV
 .exact FW
 .exact FX
 .kernel_rfl
 .kernel_rfl
 .kernel_rfl
 .kernel_rfl
theorem proved:Rows.SimWholeUptoSaid:=
 OpenClaim.holds_of_cond 6 Tryz.f6 rfl rfl rfl rfl rfl rfl rfl ⟨rfl,rfl,rfl,rfl,rfl⟩ rfl rfl rfl rfl rfl zm Tryz.func6 zn
  (gd aw3) (by unfold Func.isWrapper;first |(rw[if_pos (by decide+kernel)];kernel_rfl) |(rw[if_neg (by decide+kernel)];exact⟨rfl,rfl⟩))
  (fun os pI eu enc _ F=>lifted os pI eu enc F)
end Go.Proofs.YtkfbeijmgggkmaaGreat.simWhole
