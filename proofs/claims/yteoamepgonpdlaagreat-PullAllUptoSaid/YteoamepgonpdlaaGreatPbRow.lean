/-
The theorem of this claim, with no condition; its proof stands on the parts ahead.
-/
import Derived.Test.YteoamepgonpdlaaGreatPb18
namespace Go.Proofs.YteoamepgonpdlaaGreat.pullAll
set_option linter.unusedVariables false
set_option linter.unusedSimpArgs false
set_option maxRecDepth 10000
open Go.ChangeShapes Go.WideShapes Go.ChangeAt Go.RowKit
theorem contract (H:Type) (enc:TypeId×Value→H) (W:World) (args:Array Value) (ds gs:List (DataW H)) (before:List MemPlace) (base:Nat)
  (hval: ∀(j:Nat) t v,Tryz.f4.params[j]? =some t→args[j]? =some v→Value.okWide Tryz.prog W .any base t v)
  (dW:DataW.Whole enc Tryz.prog Tryz.f4.params.toList Rows.pullAllSpec.vars false W args.toList ds gs before) (au:Rows.uptoSmall H (ds++gs)=true):
  Calls Tryz.prog 4 args W fun e mW=> ∃v,e= .returned v∧Rows.pullAllSpec.post enc Tryz.prog Tryz.f4 false true false false W args v mW:=
 SX 4 Tryz.f4 Rows.pullAllSpec [.sl oF,PM,.sl kQ] 1048576 rfl rfl (by kernel_rfl) (fun ds h=>by
  match ds,h with
  | [_,_,_],_=>exact⟨rfl,rfl,rfl⟩) hval dW (of_decide_eq_true au) fun a ag hr=>by
  obtain⟨l,x,m,u⟩:=a
  have ag:fM (.sl oF) l+(fM PM x+(fM (.sl kQ) m+0))≤1048576:=ag
  have aB:=OG l
  have hm:=Pu m
  exact aaL l x.1 x.2 m (by omega) (by omega) (by omega) (by omega)
set_option maxRecDepth 100000 in
theorem lifted (os:Os) (started:os.Started) (H:Type) (enc:TypeId×Value→H) (F:Stop.Interp):
  ReturnsInHanded {} Tryz.checked os 4 .any ((Rows.OpenSpec.upto Rows.pullAllSpec).pre6 enc Tryz.prog Tryz.f4 Rows.pullAllUptoRow.domain false) (((Rows.OpenSpec.upto Rows.pullAllSpec).at F).post enc Tryz.prog Tryz.f4 false true false false):=by
 refine returnsInHanded_of_cond (C:=Tryz.checked) (s:=Rows.OpenSpec.upto Rows.pullAllSpec) (k:=Rows.uptoSmall) rfl SV started (by kernel_rfl) Tryz.func4
  (OpenSpec.witness (enc:=enc) (C:=Tryz.checked) (s:=Rows.OpenSpec.upto Rows.pullAllSpec) (k:=Rows.uptoSmall) rfl false ⟨#[],#[.slice none 0 0,.agg #[.string ⟨#[]⟩,.string ⟨#[]⟩],.slice none 0 0],[]⟩ 8 (by kernel_rfl) (by kernel_rfl) (by kernel_rfl)
   (x:=([.nil,.agg [.lit (.string []),.lit (.string [])],.nil],[],[])) (by kernel_rfl) rfl (by kernel_rfl)) ?_
 intro W base args ds gs before hval dW _ au _
 exact contract H enc W args ds gs before base hval dW au
set_option maxRecDepth 100000 in
theorem aaU:(Rows.pullAllUptoRow.inPlace == Tryz.prog.inPlace 4)=true:=by kernel_rfl
set_option maxRecDepth 100000 in
theorem aaV:(Rows.pullAllUptoRow.unfollowed == Tryz.prog.unfollowed 4)=true:=by kernel_rfl
set_option maxRecDepth 100000 in
theorem aaW:(Rows.pullAllUptoRow.recurses == Tryz.prog.recurses 4)=true:=by kernel_rfl
set_option maxRecDepth 100000 in
theorem aaX:(Rows.pullAllUptoRow.named == Tryz.prog.varsNamed 4)=true:=by kernel_rfl
set_option maxRecDepth 100000 in
theorem aaY:Tryz.prog.funcNamed Rows.pullAllUptoRow.func=some 4:=by kernel_rfl
set_option maxRecDepth 100000 in
theorem aaZ:joinedFacts Tryz.prog 4 Tryz.f4 (Rows.OpenSpec.upto Rows.pullAllSpec).bare Rows.pullAllUptoRow=true:=by
 unfold joinedFacts
 refine hU (hU (hU (hU (hU (hU (hU (hU (hU (hU (hU (hU (hU (hU (hU (hU (hU (hU (hU (hU (hU (hU (hU (hU (hU (hU (hU (hU (hU (hU (hU ?_ ?_) ?_) ?_) ?_) ?_) ?_) ?_) ?_) ?_) ?_) ?_) ?_) ?_) ?_) ?_) ?_) ?_) ?_) ?_) ?_) ?_) ?_) ?_) ?_) ?_) ?_) ?_) ?_) ?_) ?_) ?_
 ·kernel_rfl
 ·exact SY
 ·exact SZ
 ·kernel_rfl
 ·kernel_rfl
 ·kernel_rfl
 ·kernel_rfl
 ·kernel_rfl
 ·kernel_rfl
 ·exact aaU
 ·exact aaV
 ·exact aaW
 ·exact aaX
 ·kernel_rfl
 ·kernel_rfl
 ·kernel_rfl
 ·kernel_rfl
 ·kernel_rfl
 ·kernel_rfl
 ·kernel_rfl
 ·kernel_rfl
 ·kernel_rfl
 ·exact S0
 ·kernel_rfl
 ·kernel_rfl
 ·exact S1
 ·exact S2
 ·exact S3
 ·kernel_rfl
 ·kernel_rfl
 ·kernel_rfl
 ·kernel_rfl
theorem proved:Rows.PullAllUptoSaid:=
 OpenClaim.holds_of_cond 4 Tryz.f4 rfl rfl rfl rfl rfl rfl rfl ⟨rfl,rfl,rfl,rfl,rfl⟩ rfl rfl rfl rfl rfl aaY Tryz.func4 aaZ
  (of_decide_eq_true (by kernel_rfl)) (by unfold Func.isWrapper;first |(rw[if_pos (by decide+kernel)];kernel_rfl) |(rw[if_neg (by decide+kernel)];exact⟨rfl,rfl⟩))
  (fun os started H enc _ F=>lifted os started H enc F)
end Go.Proofs.YteoamepgonpdlaaGreat.pullAll
