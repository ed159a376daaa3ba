/-
Part 18 of the proof that stands in YteoamepgonpdlaaGreatPcRow, with what it needs from the parts ahead; the parts of this text: Mk, Mv, Qs, Qx, Iu.
-/
import Derived.Test.YteoamepgonpdlaaGreatPc17
set_option linter.unusedVariables false
set_option linter.unusedSimpArgs false
set_option maxRecDepth 10000
namespace Go.Proofs.YteoamepgonpdlaaGreat
open Go.RowKit Go.Proofs
@[reducible] def Qm (top base:List UInt8) (over:Bool):List bD:=[.ptr 1001 0,.d (.str top),.d (.str base),.mp 2002,.d (.bool over)]
@[reducible] def fM (bits room:Int) (L:List aK) (top base:List UInt8) (l:List Nat) (over:Bool):aG:=bM bits room L++[(2001,.cells (Qm top base over)),(2002,.map bt bt (gY l))]
def ng (L:List aK) (top:List UInt8):Int:=if(fu L top).2≠0∨(fu L top).1=[] then 140 else if 1 < (jE L (fu L top).1).length then 143 else if eo L (fu L top).1 < eo L top then 1 else 0
def vE (L:List aK) (top:List UInt8):List Nat:=(List.range (eo L top)).filter fun k=> !rS L top k
def nM (bits n:Nat) (l:List Nat) (a long:Int):List Nat:=(List.range n).foldl (fun l k=>if a < ((k*2 ^bits+2 ^bits:Nat):Int)∧((k*2 ^bits:Nat):Int) - long < a then rT l k else l) l
def sV (L:List aK) (n:List UInt8) (k:Nat):Int:=match dk L n with
 |none=>0
 |some d=>(d.im.t.getD k s0).1
def j5 (bits:Nat) (L:List aK) (top base:List UInt8) (k:Nat):iW:=if sV L top k=1 then jh bits L base ((k*2 ^bits:Nat):Int) (o9 bits L top (k:Int)) else if sV L top k=2 then ji bits L base ((k*2 ^bits:Nat):Int) ((2 ^bits:Nat):Int) else⟨0,L⟩
structure abg where
 done:Bool
 e:Int
 L:List aK
 l:List Nat
 over:Bool
def eS (bits:Nat) (L:List aK) (top base:List UInt8) (l:List Nat) (over:Bool):abg:=if over=true then⟨false,150,L,l,true⟩ else if l=[] then⟨true,0,(mF L top 0 ((eo L top*2 ^bits:Nat):Int)).L,[],true⟩ else
 ⟨false,(j5 bits L top base (gN l)).e,(j5 bits L top base (gN l)).L,if(j5 bits L top base (gN l)).e=0 then l.erase (gN l) else l,false⟩
section
variable {bits room:Nat} {L:List aK} {top base:List UInt8}
theorem Qn (bits room:Int) (L:List aK) (top base:List UInt8) (l:List Nat) (over:Bool):Fn Tryz.prog 43 [aH 2001] (fM bits room L top base l over) [] (aC (l.length:Nat)) (fM bits room L top base l over):=by
 have hlen:=Qj l
 refine Fn.of ai [] _ _ _ _ _ Tryz.func43 rfl rfl (by kernel_rfl) (by kernel_rfl) rfl (aJ ai) rfl ?_
 exact⟨_,_,_,ah.refl _ _,rfl,(show(((gY l).length:Nat):Int)=((l.length:Nat):Int) by rw[hlen]),⟨rfl,rfl,rfl,rfl,rfl,rfl,trivial⟩,rfl⟩
theorem abh (bits room:Int) (L:List aK) (top base:List UInt8) (l:List Nat) (over:Bool):Fn Tryz.prog 45 [aH 2001] (fM bits room L top base l over) [] (iw over) (fM bits room L top base l over):=by
 refine Fn.of ai [] _ _ _ _ _ Tryz.func45 rfl rfl (by kernel_rfl) (by kernel_rfl) rfl (aJ ai) rfl ?_
 exact⟨_,_,_,ah.refl _ _,rfl,rfl,⟨rfl,rfl,rfl,rfl,rfl,rfl,trivial⟩,rfl⟩
theorem Qo (bits room:Int) (L:List aK) (top base:List UInt8) (l:List Nat) (over:Bool):Fn Tryz.prog 79 [aH 2001] (fM bits room L top base l over) [] ry (fM bits room L top base [] true):=by
 refine Fn.of ai [] _ _ _ _ _ Tryz.func79 rfl rfl (by kernel_rfl) (by kernel_rfl) rfl (aJ ai) rfl ?_
 refine⟨_,_,fun N=>aa6 rfl Tryz.underlying144 rfl rfl N,rfl,?_⟩
 exact⟨_,_,_,ah.E6 2001 (l':=Qm top base true) rfl ⟨rfl,rfl,rfl,rfl,rfl,trivial⟩,rfl,trivial,⟨rfl,rfl,rfl,rfl,rfl,rfl,trivial⟩,rfl⟩
theorem abi (bits room:Int) (L:List aK) (top base:List UInt8) (l:List Nat) (over:Bool):Fn Tryz.prog 41 [aH 2001] (fM bits room L top base l over) [] ry (fM bits room L top base [] true):=by
 refine Fn.of ai [] _ _ _ _ _ Tryz.func41 rfl rfl (by kernel_rfl) (by kernel_rfl) rfl (aJ ai) rfl ?_
 refine⟨_,_,_,_,Qo bits room L top base l over,⟨rfl,rfl,rfl,rfl,rfl,rfl,trivial⟩,rfl,?_⟩
 exact⟨_,_,_,ah.refl _ _,rfl,trivial,⟨rfl,rfl,rfl,rfl,rfl,rfl,trivial⟩,rfl⟩
theorem Kj (he:ng L top=0):(fu L top).2=0∧(fu L top).1≠[]∧(jE L (fu L top).1).length≤1∧eo L top≤eo L (fu L top).1:=by
 unfold ng at he
 split at he
 ·exact absurd he (by decide)
 ·rename_i aa
  split at he
  ·exact absurd he (by decide)
  ·rename_i af
   split at he
   ·exact absurd he (by decide)
   ·rename_i ay
    refine⟨Decidable.byContradiction fun e=>aa (.inl e),fun e=>aa (.inr e),by omega,by omega⟩
theorem Fj (h:bX bits room L) (aa:(fu L top).2=0): ∃d,dk L top=some d∧(fu L top).1=d.back∧(d.back≠[]→ ∃e,dk L d.back=some e):=by
 unfold fu at aa⊢
 cases hd:dk L top with
 |none=>rw[hd] at aa;exact absurd aa (by decide)
 |some d=>exact⟨d,rfl,rfl,h.jD d (cA hd).1⟩
theorem abj (h:bX bits room L) (top:List UInt8) (he:ng L top≠0):Fn Tryz.prog 35 [aH 1001,bG top] (bM bits room L) [] (.c6 [zz,fh (ng L top)]) (bM bits room L):=by
 have pP:=ON h top
 have uA:=OO h (fu L top).1
 have bB:=fun aa=>Fj (top:=top) h aa
 have mq:(fu L top).2≠0∨(fu L top).1=[]→ng L top=140:=fun e=>if_pos e
 have uJ: ¬((fu L top).2≠0∨(fu L top).1=[])→1 < (jE L (fu L top).1).length→ng L top=143:=fun aj ak=>(if_neg aj).trans (if_pos ak)
 have E7: ¬((fu L top).2≠0∨(fu L top).1=[])→ ¬1 < (jE L (fu L top).1).length→eo L (fu L top).1 < eo L top→ng L top=1:=fun aj ak bf=>(if_neg aj).trans ((if_neg ak).trans (if_pos bf))
 have BD: ¬((fu L top).2≠0∨(fu L top).1=[])→ ¬1 < (jE L (fu L top).1).length→ ¬eo L (fu L top).1 < eo L top→ng L top=0:=fun aj ak bf=>(if_neg aj).trans ((if_neg ak).trans (if_neg bf))
 generalize ng L top=me at*
 generalize fu L top=nK at*
 obtain⟨iX,be⟩:=nK
 have pP:Fn Tryz.prog 66 [aH 1001,bG top] (bM bits room L) [] (.c6 [.one (.d (.str iX)),fh be]) (bM bits room L):=pP
 generalize jE L iX=us at*
 refine Fn.of ai [4,6] _ _ _ _ _ Tryz.func35 rfl rfl (by kernel_rfl) (by kernel_rfl) rfl (aJ ai) rfl ?_
 refine⟨_,_,_,_,pP,⟨rfl,rfl,rfl,rfl,trivial⟩,rfl,?_⟩
 refine⟨fun aa=>?_,fun aa=>?_⟩
 ·have aa:(!decide (be=0))=true:=aa
  have aa: ¬be=0:=by simpa using aa
  exact⟨_,_,_,ah.refl _ _,rfl,⟨rfl,(mq (.inl aa)).symm,trivial⟩,⟨rfl,rfl,rfl,rfl,trivial⟩,rfl⟩
 have aa:(!decide (be=0))=false:=aa
 have aa:be=0:=by simpa using aa
 refine⟨fun af=>?_,fun af=>?_⟩
 ·have af:iX=[]:=of_decide_eq_true af
  exact⟨_,_,_,ah.refl _ _,rfl,⟨rfl,(mq (.inr af)).symm,trivial⟩,⟨rfl,rfl,rfl,rfl,trivial⟩,rfl⟩
 have af: ¬iX=[]:=of_decide_eq_false af
 have hn: ¬(be≠0∨iX=[]):=fun e=>e.elim (fun e=>e aa) af
 show av _ _ _ _ _ _ _
 refine av.go ai (aJ ai) [6] (by kernel_rfl) (ah.refl _ _) ?_
 refine⟨_,_,_,_,uA,⟨rfl,rfl,rfl,rfl,trivial⟩,rfl,?_⟩
 refine⟨fun ay=>?_,fun ay=>?_⟩
 ·have ay:decide ((1:Int) < ((us.length:Nat):Int))=true:=ay
  have ay:1 < us.length:=by have:=of_decide_eq_true ay;omega
  exact⟨_,_,_,ah.refl _ _,rfl,⟨rfl,(uJ hn ay).symm,trivial⟩,⟨rfl,rfl,rfl,rfl,trivial⟩,rfl⟩
 have ay:decide ((1:Int) < ((us.length:Nat):Int))=false:=ay
 have ay: ¬1 < us.length:=by have:=of_decide_eq_false ay;omega
 obtain⟨d,hd,ag,iA⟩:=bB aa
 have ag:iX=d.back:=ag
 obtain⟨e,j4⟩:=iA (by rw[←ag];exact af)
 rw[←ag] at j4
 have ki:=h.togK.M (cA hd).1
 have Kk:=h.togK.M (cA j4).1
 have lN:eo L top=d.im.t.length:=by unfold eo;rw[hd]
 have eR:eo L iX=e.im.t.length:=by unfold eo;rw[j4]
 rw[lN,eR] at E7 BD
 show av _ _ _ _ _ _ _
 refine av.go ai (aJ ai) [] (by kernel_rfl) (ah.sub (K':=[(0,aH 1001),(1,bG top),(6,bG iX)]) (B':=bM bits room L) ⟨rfl,rfl,rfl,trivial⟩ ⟨rfl,rfl,rfl,rfl,trivial⟩) ?_
 refine⟨_,_,_,_,ox _ _ L h.togK iX e j4,⟨rfl,rfl,rfl,rfl,trivial⟩,rfl,?_⟩
 refine⟨_,_,_,_,jC (qD e.im) Kk rfl rfl rfl rfl,⟨rfl,trivial⟩,rfl,?_⟩
 refine⟨_,_,_,_,ox _ _ L h.togK top d hd,⟨rfl,rfl,rfl,rfl,trivial⟩,rfl,?_⟩
 refine⟨_,_,_,_,jC (qD d.im) ki rfl rfl rfl rfl,⟨rfl,trivial⟩,rfl,?_⟩
 refine⟨fun bu=>?_,fun bu=>?_⟩
 ·have bu:decide (((e.im.t.length:Nat):Int) < ((d.im.t.length:Nat):Int))=true:=bu
  have bu:e.im.t.length < d.im.t.length:=by have:=of_decide_eq_true bu;omega
  exact⟨_,_,_,ah.refl _ _,rfl,⟨rfl,(E7 hn ay bu).symm,trivial⟩,⟨rfl,rfl,rfl,rfl,trivial⟩,rfl⟩
 ·exfalso
  have bu:decide (((e.im.t.length:Nat):Int) < ((d.im.t.length:Nat):Int))=false:=bu
  have bu: ¬e.im.t.length < d.im.t.length:=by have:=of_decide_eq_false bu;omega
  exact he (BD hn ay bu)
@[reducible] def abk (top iX:List UInt8) (n k:Nat):aQ:=[(0,aH 1001),(1,bG top),(6,bG iX),(8,aH 44),(48,aC (n:Nat)),(49,aC (k:Nat))]
@[reducible] def Kl (bits room:Int) (L:List aK) (top base:List UInt8) (l:List Nat):aG:=bM bits room L++[(44,.cells [.ptr 1001 0,.d (.str top),.d (.str base),.mp 42,.d (.bool false)]),(42,.map bt bt (gY l))]
theorem Qp (p:Nat→Bool) (k:Nat):(List.range (k+1)).filter p=(List.range k).filter p++if p k=true then[k] else[]:=by
 rw[List.range_succ,List.filter_append]
 cases h:p k with
 |true=>rw[if_pos rfl,List.filter_cons_of_pos h];rfl
 |false=>rw[if_neg (by decide),List.filter_cons_of_neg (by rw[h];decide)];rfl
theorem abl (p:Nat→Bool) (k:Nat) (h:p k=true):rT ((List.range k).filter p) k=(List.range (k+1)).filter p:=by
 rw[Qp,if_pos h]
 unfold rT
 rw[if_neg (fun e=>by have:=List.mem_range.1 (List.mem_filter.1 e).1;omega)]
set_option maxHeartbeats 1000000 in
theorem Qq (h:bX bits room L) (top:List UInt8) (he:ng L top=0):Fn Tryz.prog 35 [aH 1001,bG top] (bM bits room L) [2001,2002] (.c6 [.one (.ptr 2001 0),fh 0]) (fM bits room L top (fu L top).1 (vE L top) false):=by
 obtain⟨aj,ak,bf,cF⟩:=Kj he
 obtain⟨d,hd,ag,iA⟩:=Fj h aj
 obtain⟨e,j4⟩:=iA (by rw[←ag];exact ak)
 rw[←ag] at j4
 have ki:=h.togK.M (cA hd).1
 have Kk:=h.togK.M (cA j4).1
 have lT:=(h.hM d (cA hd).1).1.tl
 have lN:eo L top=d.im.t.length:=by unfold eo;rw[hd]
 have eR:eo L (fu L top).1=e.im.t.length:=by unfold eo;rw[j4]
 have abm:vE L top=(List.range d.im.t.length).filter fun k=> !rS L top k:=by unfold vE;rw[lN]
 have abn: ∀k,k < d.im.t.length→rS L top k=decide ((d.im.t.getD k s0).1=0):=fun k aq=>by
  unfold rS
  rw[hd]
  show(decide (d.im.t.length≤k)||_)=_
  rw[decide_eq_false (by omega)]
  rfl
 rw[lN,eR] at cF
 rw[abm]
 have pP:=ON h top
 have uA:=OO h (fu L top).1
 have abo:=abl (fun k=> !rS L top k)
 have abp:=fun k (aq:rS L top k=true)=>Qp (fun k=> !rS L top k) k
 generalize fu L top=nK at*
 obtain⟨iX,be⟩:=nK
 have aj:be=0:=aj
 have ak: ¬iX=[]:=ak
 have bf:(jE L iX).length≤1:=bf
 subst aj
 have pP:Fn Tryz.prog 66 [aH 1001,bG top] (bM bits room L) [] (.c6 [.one (.d (.str iX)),fh 0]) (bM bits room L):=pP
 have uA:Fn Tryz.prog 68 [aH 1001,bG iX] (bM bits room L) [] (cI .str (jE L iX)) (bM bits room L):=uA
 generalize jE L iX=us at*
 refine Fn.of ai [4,6,8,9] _ _ _ _ _ Tryz.func35 rfl rfl (by kernel_rfl) (by kernel_rfl) rfl (aJ ai) rfl ?_
 refine⟨_,_,_,_,pP,⟨rfl,rfl,rfl,rfl,trivial⟩,rfl,?_⟩
 refine⟨fun h=>absurd h (by decide),fun _=>?_⟩
 refine⟨fun af=>absurd (of_decide_eq_true af) ak,fun _=>?_⟩
 show av _ _ _ _ _ _ _
 refine av.go ai (aJ ai) [6,8,9] (by kernel_rfl) (ah.sub (K':=[(0,aH 1001),(1,bG top),(6,bG iX)]) (B':=bM bits room L) ⟨rfl,rfl,rfl,trivial⟩ ⟨rfl,rfl,rfl,rfl,trivial⟩) ?_
 refine⟨_,_,_,_,uA,⟨rfl,rfl,rfl,rfl,trivial⟩,rfl,?_⟩
 refine⟨fun ay=>?_,fun _=>?_⟩
 ·exfalso
  have ay:decide ((1:Int) < ((us.length:Nat):Int))=true:=ay
  have:=of_decide_eq_true ay
  omega
 show av _ _ _ _ _ _ _
 refine av.go ai (aJ ai) [8,9] (by kernel_rfl) (ah.sub (K':=[(0,aH 1001),(1,bG top),(6,bG iX)]) (B':=bM bits room L) ⟨rfl,rfl,rfl,trivial⟩ ⟨rfl,rfl,rfl,rfl,trivial⟩) ?_
 refine⟨_,_,_,_,ox _ _ L h.togK iX e j4,⟨rfl,rfl,rfl,rfl,trivial⟩,rfl,?_⟩
 refine⟨_,_,_,_,jC (qD e.im) Kk rfl rfl rfl rfl,⟨rfl,trivial⟩,rfl,?_⟩
 refine⟨_,_,_,_,ox _ _ L h.togK top d hd,⟨rfl,rfl,rfl,rfl,trivial⟩,rfl,?_⟩
 refine⟨_,_,_,_,jC (qD d.im) ki rfl rfl rfl rfl,⟨rfl,trivial⟩,rfl,?_⟩
 refine⟨fun bu=>?_,fun _=>?_⟩
 ·exfalso
  have bu:decide (((e.im.t.length:Nat):Int) < ((d.im.t.length:Nat):Int))=true:=bu
  have:=of_decide_eq_true bu
  omega
 show av _ _ _ _ _ _ _
 refine av.go ai (aJ ai) [9] (by kernel_rfl) (ah.sub (K':=[(0,aH 1001),(1,bG top),(6,bG iX)]) (B':=bM bits room L) ⟨rfl,rfl,rfl,trivial⟩ ⟨rfl,rfl,rfl,rfl,trivial⟩) ?_
 refine⟨rfl,rfl,?_⟩
 show av _ _ _ _ _ _ _
 refine av.go ai (aJ ai) [] (by kernel_rfl) (ah.trans (ah.E6 44 (l':=[.ptr 1001 0,.d (.str top),.d (.str iX),.mp 42,.d (.bool false)]) rfl ⟨rfl,rfl,rfl,rfl,rfl,trivial⟩) (ah.sub (K':=[(0,aH 1001),(1,bG top),(6,bG iX),(8,aH 44)]) (B':=Kl bits room L top iX []) ⟨rfl,rfl,rfl,rfl,trivial⟩ ⟨rfl,rfl,rfl,rfl,rfl,rfl,trivial⟩)) ?_
 refine⟨_,_,_,_,ox _ _ L h.togK top d hd,⟨rfl,rfl,rfl,rfl,trivial⟩,rfl,?_⟩
 refine⟨_,_,_,_,jC (qD d.im) ki rfl rfl rfl rfl,⟨rfl,trivial⟩,rfl,?_⟩
 show av _ _ _ _ _ _ _
 refine av.loop ai (aJ ai) [12,13] (by kernel_rfl) (X:=Nat) (fun k=>abk top iX d.im.t.length k) (fun k=>Kl bits room L top iX ((List.range k).filter fun k=> !rS L top k)) (fun k=>k≤d.im.t.length) (fun k=>d.im.t.length - k) 0 (Nat.zero_le _) ?_ ?_
 ·exact ah.sub ⟨rfl,rfl,rfl,rfl,rfl,rfl,trivial⟩ ⟨rfl,rfl,rfl,rfl,rfl,rfl,trivial⟩
 intro k aq
 have aq:k≤d.im.t.length:=aq
 refine⟨fun hc=>?_,fun hc=>?_⟩
 ·have hc:decide ((k:Int) < ((d.im.t.length:Nat):Int))=true:=hc
  have jB:k < d.im.t.length:=by have:=of_decide_eq_true hc;omega
  have bZ:=abn k jB
  show av _ _ _ _ _ _ _
  refine av.go ai (aJ ai) [13] (by kernel_rfl) (ah.refl _ _) ?_
  refine⟨_,_,_,_,ox _ _ L h.togK top d hd,⟨rfl,rfl,rfl,rfl,trivial⟩,rfl,?_⟩
  refine⟨_,_,_,_,jC (zR d.im lT k jB) ki rfl rfl rfl rfl,⟨rfl,trivial⟩,rfl,?_⟩
  refine⟨fun dI=>?_,fun dI=>?_⟩
  ·have dI:(!decide ((d.im.t.getD k s0).1=0))=true:=dI
   have mD:=abo k (by show(!rS L top k)=true;rw[bZ];exact dI)
   show av _ _ _ _ _ _ _
   refine av.go ai (aJ ai) [] (by kernel_rfl) (ah.sub (K':=[(0,aH 1001),(1,bG top),(6,bG iX),(8,aH 44),(48,aC (d.im.t.length:Nat)),(49,aC (k:Nat)),(9,aC (k:Nat))]) (B':=Kl bits room L top iX ((List.range k).filter fun k=> !rS L top k)) ⟨rfl,rfl,rfl,rfl,rfl,rfl,rfl,trivial⟩ ⟨rfl,rfl,rfl,rfl,rfl,rfl,trivial⟩) ?_
   refine⟨trivial,?_⟩
   exact⟨by omega,k+1,jB,by omega,ah.sub ⟨rfl,rfl,rfl,rfl,rfl,rfl,trivial⟩ ⟨rfl,rfl,rfl,rfl,rfl,congrArg (fun z=>some (bw.map bt bt z)) ((Kh k _).trans (congrArg gY mD)),trivial⟩⟩
  ·have dI:(!decide ((d.im.t.getD k s0).1=0))=false:=dI
   have Qr:rS L top k=true:=by rw[bZ];simpa using dI
   have hs:=abp k Qr
   rw[if_neg (by rw[Qr];decide),List.append_nil] at hs
   exact⟨by omega,k+1,jB,by omega,ah.sub ⟨rfl,rfl,rfl,rfl,rfl,rfl,trivial⟩ ⟨rfl,rfl,rfl,rfl,rfl,congrArg (fun z=>some (bw.map bt bt (gY z))) hs.symm,trivial⟩⟩
 ·have hc:decide ((k:Int) < ((d.im.t.length:Nat):Int))=false:=hc
  have jB:k=d.im.t.length:=by have:=of_decide_eq_false hc;omega
  subst jB
  exact⟨_,_,_,ah.trans (ah.ren 44 2001 rfl) (ah.ren 42 2002 rfl),rfl,⟨rfl,rfl,trivial⟩,⟨rfl,rfl,rfl,rfl,rfl,rfl,trivial⟩,rfl⟩
end
section
variable {bits room:Nat} {L:List aK} {top base:List UInt8}
theorem Fk (bits n:Nat) (l:List Nat) (a long:Int):nM bits (n+1) l a long=if a < ((n*2 ^bits+2 ^bits:Nat):Int)∧((n*2 ^bits:Nat):Int) - long < a then rT (nM bits n l a long) n else nM bits n l a long:=by
 unfold nM
 rw[List.range_succ,List.foldl_append]
 rfl
def qR (bits:Nat) (L:List aK) (top:List UInt8) (l:List Nat) (over:Bool) (a long:Int):List Nat:=if over=true∨long < 1 then l else nM bits (eo L top) l a long
@[reducible] def abq (am:Nat) (a long:Int) (n k:Nat):aQ:=[(0,aH 2001),(1,aC a),(2,aC long),(6,kC am),(31,aC (n:Nat)),(32,aC (k:Nat))]
set_option maxHeartbeats 1000000 in
theorem abr (h:bX bits room L) (base:List UInt8) (l:List Nat) (over:Bool) (a long:Int) (adn:long≤9223372036854775807) {d:aK} (hd:dk L top=some d):Fn Tryz.prog 84 [aH 2001,aC a,aC long] (fM bits room L top base l over) [] ry (fM bits room L top base (qR bits L top l over a long) over):=by
 have lT:=(h.hM d (cA hd).1).1.tl
 have fR:=h.togK.M (cA hd).1
 have w5:d.im.bits=bits:=(h.hM d (cA hd).1).2.1
 have hp:=k5 h.b3
 have Qs:=h.b3
 have dH:eo L top=d.im.t.length:=by unfold eo;rw[hd]
 cases over with
 |true=>
  have e:qR bits L top l true a long=l:=if_pos (.inl rfl)
  rw[e]
  refine Fn.of ai [] _ _ _ _ _ Tryz.func84 rfl rfl (by kernel_rfl) (by kernel_rfl) rfl (aJ ai) rfl ?_
  refine⟨_,_,_,_,ox _ _ L h.togK top d hd,⟨rfl,rfl,rfl,rfl,trivial⟩,rfl,?_⟩
  refine⟨rfl,?_⟩
  refine⟨fun _=>?_,fun h=>absurd h (by decide)⟩
  exact⟨_,_,_,ah.refl _ _,rfl,trivial,⟨rfl,rfl,rfl,rfl,rfl,rfl,trivial⟩,rfl⟩
 |false=>
  have aj:long < 1→qR bits L top l false a long=l:=fun e=>if_pos (.inr e)
  have ak: ¬long < 1→qR bits L top l false a long=nM bits d.im.t.length l a long:=fun e=>(if_neg (fun c=>c.elim (fun c=>by cases c) e)).trans (by rw[dH])
  have hS:=fun k=>Fk bits k l a long
  have ado:nM bits 0 l a long=l:=rfl
  generalize qR bits L top l false a long=rl at*
  have Qt: ∀k:Nat,(k:Int)*((2 ^((d.im.bits:Nat):Int).toNat:Nat):Int)=((k*2 ^bits:Nat):Int):=fun k=>by
   rw[w5]
   show(k:Int)*((2 ^bits:Nat):Int)=_
   rw[Int.natCast_mul]
  have yG:(1:Int)*((2 ^((d.im.bits:Nat):Int).toNat:Nat):Int)=((2 ^bits:Nat):Int):=by
   have:=Qt 1
   rw[Nat.one_mul] at this
   exact this
  refine Fn.of ai [2] _ _ _ _ _ Tryz.func84 rfl rfl (by kernel_rfl) (by kernel_rfl) rfl (aJ ai) rfl ?_
  refine⟨_,_,_,_,ox _ _ L h.togK top d hd,⟨rfl,rfl,rfl,rfl,trivial⟩,rfl,?_⟩
  refine⟨rfl,?_⟩
  refine⟨fun h=>absurd h (by decide),fun _=>?_⟩
  refine⟨fun _ _=>?_,fun h=>by cases h⟩
  refine⟨fun aB=>?_,fun aB=>?_⟩
  ·have aB:long < 1:=of_decide_eq_true aB
   exact⟨_,_,_,ah.refl _ _,rfl,trivial,⟨rfl,rfl,rfl,rfl,rfl,congrArg (fun z=>some (bw.map bt bt (gY z))) (aj aB).symm,trivial⟩,rfl⟩
  have aB: ¬long < 1:=of_decide_eq_false aB
  have ak:=ak aB
  show av _ _ _ _ _ _ _
  refine av.go ai (aJ ai) [] (by kernel_rfl) (ah.sub (K':=[(0,aH 2001),(1,aC a),(2,aC long),(6,kC d.am)]) (B':=fM bits room L top base l false) ⟨rfl,rfl,rfl,rfl,trivial⟩ ⟨rfl,rfl,rfl,rfl,rfl,rfl,trivial⟩) ?_
  refine⟨_,_,_,_,jC (qD d.im) fR rfl rfl rfl rfl,⟨rfl,trivial⟩,rfl,?_⟩
  show av _ _ _ _ _ _ _
  refine av.loop ai (aJ ai) [6,7] (by kernel_rfl) (X:=Nat) (fun k=>abq d.am a long d.im.t.length k) (fun k=>fM bits room L top base (nM bits k l a long) false) (fun k=>k≤d.im.t.length) (fun k=>d.im.t.length - k) 0 (Nat.zero_le _) ?_ ?_
  ·exact ah.sub ⟨rfl,rfl,rfl,rfl,rfl,rfl,trivial⟩ ⟨rfl,rfl,rfl,rfl,rfl,rfl,trivial⟩
  intro k aq
  have aq:k≤d.im.t.length:=aq
  refine⟨fun hc=>?_,fun hc=>?_⟩
  ·have hc:decide ((k:Int) < ((d.im.t.length:Nat):Int))=true:=hc
   have jB:k < d.im.t.length:=by have:=of_decide_eq_true hc;omega
   have Qu:=Qt k
   have Qv:=hS k
   have mk:k*2 ^bits≤256*8:=Nat.mul_le_mul (by omega) hp.2
   have m1:(0:Int)≤(k:Int)∧(0:Int)≤((d.im.bits:Nat):Int)∧((d.im.bits:Nat):Int)≤64:=by omega
   have m2:(-9223372036854775808:Int)≤(k:Int)*((2 ^((d.im.bits:Nat):Int).toNat:Nat):Int)∧(k:Int)*((2 ^((d.im.bits:Nat):Int).toNat:Nat):Int)≤9223372036854775807:=by rw[Qu];omega
   have ee:(0:Int)≤(1:Int)∧(0:Int)≤((d.im.bits:Nat):Int)∧((d.im.bits:Nat):Int)≤64:=by omega
   have eO:(-9223372036854775808:Int)≤(1:Int)*((2 ^((d.im.bits:Nat):Int).toNat:Nat):Int)∧(1:Int)*((2 ^((d.im.bits:Nat):Int).toNat:Nat):Int)≤9223372036854775807:=by rw[yG];omega
   have zD:(-9223372036854775808:Int)≤((k*2 ^bits:Nat):Int)+(1:Int)*((2 ^((d.im.bits:Nat):Int).toNat:Nat):Int)∧((k*2 ^bits:Nat):Int)+(1:Int)*((2 ^((d.im.bits:Nat):Int).toNat:Nat):Int)≤9223372036854775807:=by rw[yG];omega
   have Ig:(-9223372036854775808:Int)≤((k*2 ^bits:Nat):Int) - long∧((k*2 ^bits:Nat):Int) - long≤9223372036854775807:=by omega
   have Qw:((k*2 ^bits:Nat):Int)+(1:Int)*((2 ^((d.im.bits:Nat):Int).toNat:Nat):Int)=((k*2 ^bits+2 ^bits:Nat):Int):=by rw[yG];omega
   refine⟨_,_,_,_,jC (Cl d.im) fR rfl rfl rfl rfl,⟨rfl,trivial⟩,rfl,?_⟩
   refine⟨m1,m2,?_⟩
   show av _ _ _ _ _ _ _
   refine av.go ai (aJ ai) [7] (by kernel_rfl) (ah.sub (K':=[(0,aH 2001),(1,aC a),(2,aC long),(6,kC d.am),(31,aC (d.im.t.length:Nat)),(32,aC (k:Nat)),(7,aC (k:Nat)),(8,aC ((k*2 ^bits:Nat):Int))]) (B':=fM bits room L top base (nM bits k l a long) false) ⟨rfl,rfl,rfl,rfl,rfl,rfl,rfl,Qu,trivial⟩ ⟨rfl,rfl,rfl,rfl,rfl,rfl,trivial⟩) ?_
   refine⟨_,_,_,_,jC (Cl d.im) fR rfl rfl rfl rfl,⟨rfl,trivial⟩,rfl,?_⟩
   refine⟨ee,eO,zD,?_⟩
   have Qx:(¬(a < ((k*2 ^bits+2 ^bits:Nat):Int)∧((k*2 ^bits:Nat):Int) - long < a))→nM bits k l a long=nM bits (k+1) l a long:=fun e=>by rw[Qv,if_neg e]
   refine⟨fun aW=>?_,fun aW=>?_⟩
   ·have aW:decide (a < ((k*2 ^bits:Nat):Int)+(1:Int)*((2 ^((d.im.bits:Nat):Int).toNat:Nat):Int))=true:=aW
    have aW:=of_decide_eq_true aW
    rw[Qw] at aW
    refine⟨Ig,?_⟩
    refine⟨fun aX=>?_,fun aX=>?_⟩
    ·have aX:decide (((k*2 ^bits:Nat):Int) - long < a)=true:=aX
     have aX:=of_decide_eq_true aX
     have bp:rT (nM bits k l a long) k=nM bits (k+1) l a long:=by rw[Qv,if_pos ⟨aW,aX⟩]
     show av _ _ _ _ _ _ _
     refine av.go ai (aJ ai) [] (by kernel_rfl) (ah.sub (K':=[(0,aH 2001),(1,aC a),(2,aC long),(6,kC d.am),(31,aC (d.im.t.length:Nat)),(32,aC (k:Nat)),(7,aC (k:Nat))]) (B':=fM bits room L top base (nM bits k l a long) false) ⟨rfl,rfl,rfl,rfl,rfl,rfl,rfl,trivial⟩ ⟨rfl,rfl,rfl,rfl,rfl,rfl,trivial⟩) ?_
     refine⟨trivial,?_⟩
     exact⟨by omega,k+1,jB,by omega,ah.sub ⟨rfl,rfl,rfl,rfl,rfl,rfl,trivial⟩ ⟨rfl,rfl,rfl,rfl,rfl,congrArg (fun z=>some (bw.map bt bt z)) ((Kh k _).trans (congrArg gY bp)),trivial⟩⟩
    ·have aX:decide (((k*2 ^bits:Nat):Int) - long < a)=false:=aX
     have aX:=of_decide_eq_false aX
     exact⟨by omega,k+1,jB,by omega,ah.sub ⟨rfl,rfl,rfl,rfl,rfl,rfl,trivial⟩ ⟨rfl,rfl,rfl,rfl,rfl,congrArg (fun z=>some (bw.map bt bt (gY z))) (Qx fun e=>aX e.2),trivial⟩⟩
   ·have aW:decide (a < ((k*2 ^bits:Nat):Int)+(1:Int)*((2 ^((d.im.bits:Nat):Int).toNat:Nat):Int))=false:=aW
    have aW:=of_decide_eq_false aW
    rw[Qw] at aW
    exact⟨by omega,k+1,jB,by omega,ah.sub ⟨rfl,rfl,rfl,rfl,rfl,rfl,trivial⟩ ⟨rfl,rfl,rfl,rfl,rfl,congrArg (fun z=>some (bw.map bt bt (gY z))) (Qx fun e=>aW e.1),trivial⟩⟩
  ·have hc:decide ((k:Int) < ((d.im.t.length:Nat):Int))=false:=hc
   have jB:k=d.im.t.length:=by have:=of_decide_eq_false hc;omega
   subst jB
   exact⟨_,_,_,ah.refl _ _,rfl,trivial,⟨rfl,rfl,rfl,rfl,rfl,congrArg (fun z=>some (bw.map bt bt (gY z))) ak.symm,trivial⟩,rfl⟩
@[reducible] def Fl (bits room:Int) (L:List aK) (top base:List UInt8) (l:List Nat) (x y:Int):aG:=fM bits room L top base l false++[(3001,.cells [.ptr 2001 0]),(3002,.cells [.d (.int .i64 x)]),(3003,.cells [.d (.int .i64 y)])]
theorem abt (h:bX bits room L) (base:List UInt8) (l:List Nat) (a:Int) (k:Nat) {d:aK} (hd:dk L top=some d) (aq:k < d.im.t.length):Fn Tryz.prog 111 [aH 3001,aH 3002,aH 3003] (Fl bits room L top base l a (k:Int)) [] (aC (jh bits L base a (o9 bits L top (k:Int))).e) (Fl bits room (jh bits L base a (o9 bits L top (k:Int))).L top base l a (k:Int)):=by
 have cP:=Y1 h top (k:Int)
 have hp:=k5 h.b3
 have hlen:(o9 bits L top (k:Int)).length≤1000000000:=by
  have:o9 bits L top (k:Int)=nG bits L top (c7 L top) k:=by
   unfold o9
   rw[hd]
   simp only
   rw[if_pos ⟨by omega,by omega⟩]
   rfl
  rw[this,IX h.tonF hd (h.dep top).1 k]
  omega
 have wU:=EN h base a (o9 bits L top (k:Int)) hlen
 generalize o9 bits L top (k:Int)=x at*
 generalize jh bits L base a x=r at*
 refine Fn.of ai [] _ _ _ _ _ Tryz.func111 rfl rfl (by kernel_rfl) (by kernel_rfl) rfl (aJ ai) rfl ?_
 refine⟨_,_,_,_,cP,⟨rfl,rfl,rfl,rfl,trivial⟩,rfl,?_⟩
 refine⟨_,_,_,_,wU,⟨rfl,rfl,rfl,rfl,trivial⟩,rfl,?_⟩
 refine⟨rfl,?_⟩
 exact⟨_,_,_,ah.refl _ _,rfl,rfl,⟨rfl,rfl,rfl,rfl,rfl,rfl,rfl,rfl,rfl,trivial⟩,rfl⟩
theorem abu (h:bX bits room L) (top base:List UInt8) (l:List Nat) (a long:Int):Fn Tryz.prog 112 [aH 3001,aH 3002,aH 3003] (Fl bits room L top base l a long) [] (aC (ji bits L base a long).e) (Fl bits room (ji bits L base a long).L top base l a long):=by
 have Fm:=Jm h base a long
 generalize ji bits L base a long=r at*
 refine Fn.of ai [] _ _ _ _ _ Tryz.func112 rfl rfl (by kernel_rfl) (by kernel_rfl) rfl (aJ ai) rfl ?_
 refine⟨_,_,_,_,Fm,⟨rfl,rfl,rfl,rfl,trivial⟩,rfl,?_⟩
 refine⟨rfl,?_⟩
 exact⟨_,_,_,ah.refl _ _,rfl,rfl,⟨rfl,rfl,rfl,rfl,rfl,rfl,rfl,rfl,rfl,trivial⟩,rfl⟩
@[reducible] def CF (bits room:Int) (L:List aK) (top base:List UInt8) (l:List Nat) (k a long:Int) (eC fI eW gw:Nat) (es:List (aI bt×aI .fn)):aG:=fM bits room L top base l false++[(4,.cells [.ptr 2001 0]),(5,.cells [.d (.int .i64 k)]),(6,.cells [.d (.int .i64 a)]),(7,.cells [.d (.int .i64 long)]),(9004,.dep 4 (gy eC)),(9005,.dep 5 (gy fI)),(9006,.dep 6 (gy eW)),(9007,.dep 7 (gy gw)),(12,.obj (Ax es))]
def rU (eC fI eW gw:Nat):List (aI bt×aI .fn):=fc (aN:=bt) (aP:=.fn) (fc (aN:=bt) (aP:=.fn) [] (1:Int) (111,[eC,eW,fI])) (2:Int) (112,[eC,eW,gw])
theorem abv (eC fI eW gw:Nat):ct (aN:=bt) (aP:=.fn) (rU eC fI eW gw) (1:Int)=some (111,[eC,eW,fI]):=rfl
theorem abw (eC fI eW gw:Nat):ct (aN:=bt) (aP:=.fn) (rU eC fI eW gw) (2:Int)=some (112,[eC,eW,gw]):=rfl
theorem abx (eC fI eW gw:Nat) {x:Int} (aa:x≠1) (af:x≠2):ct (aN:=bt) (aP:=.fn) (rU eC fI eW gw) x=none:=by
 have aj:iu bt x (1:Int)=false:=decide_eq_false aa
 have ak:iu bt x (2:Int)=false:=decide_eq_false af
 have e:rU eC fI eW gw=[(@Prod.mk (aI bt) (aI .fn) (1:Int) (111,[eC,eW,fI])),(@Prod.mk (aI bt) (aI .fn) (2:Int) (112,[eC,eW,gw]))]:=rfl
 rw[e]
 simp only[ct,aj,ak]
set_option maxHeartbeats 1000000 in
theorem aby (h:bX bits room L) (base:List UInt8) (l:List Nat) (k:Nat) (a long:Int) (ha:a=((k*2 ^bits:Nat):Int)) (bk:long=((2 ^bits:Nat):Int)) {d:aK} (hd:dk L top=some d) (aq:k < d.im.t.length):Fn Tryz.prog 83 [aH 2001,aC (k:Int),aC a,aC long] (fM bits room L top base l false) [] (aC (j5 bits L top base k).e) (fM bits room (j5 bits L top base k).L top base l false):=by
 have lT:=(h.hM d (cA hd).1).1.tl
 have fR:=h.togK.M (cA hd).1
 have fL:sV L top k=(d.im.t.getD k s0).1:=by unfold sV;rw[hd]
 have ue:=zR d.im lT k aq
 rw[←fL] at ue
 have pW:=abt h base l a k hd aq
 have pO:=abu h top base l a long
 by_cases aW:sV L top k=1
 ·have e:j5 bits L top base k=jh bits L base a (o9 bits L top (k:Int)):=by rw[ha];exact if_pos aW
  rw[e]
  rw[aW] at ue
  generalize jh bits L base a (o9 bits L top (k:Int))=r at*
  refine Fn.of ai [1,2,3,5] _ _ _ _ _ Tryz.func83 rfl rfl (by kernel_rfl) (by kernel_rfl) rfl (aJ ai) rfl ?_
  refine⟨rfl,rfl,rfl,rfl,?_⟩
  show av _ _ _ _ _ _ _
  refine av.og (gI.mark 4 9004 rfl (by decide)) fun eC=>?_
  refine av.og (gI.mark 5 9005 rfl (by decide)) fun fI=>?_
  refine av.og (gI.mark 6 9006 rfl (by decide)) fun eW=>?_
  refine av.og (gI.mark 7 9007 rfl (by decide)) fun gw=>?_
  refine av.go ai (aJ ai) [2,3,5] (by kernel_rfl) (ah.refl _ _) ?_
  refine⟨rfl,?_⟩
  refine⟨_,_,fun N=>Ay (m1:=9004) (m2:=9006) (m3:=9005) (b1:=eC) (b2:=eW) (b3:=fI) (ch':=.map bt .fn (fc (aN:=bt) (aP:=.fn) [] (1:Int) (111,[eC,eW,fI]))) rfl Tryz.underlying193 Tryz.underlying3 rfl rfl rfl rfl rfl rfl rfl (.inl rfl) (.inl rfl) N,rfl,?_⟩
  refine⟨_,_,fun N=>Ay (m1:=9004) (m2:=9006) (m3:=9007) (b1:=eC) (b2:=eW) (b3:=gw) (ch':=.obj (Ax (rU eC fI eW gw))) rfl Tryz.underlying193 Tryz.underlying3 rfl rfl rfl rfl rfl rfl rfl (.inl rfl) (.inr rfl) N,rfl,?_⟩
  show av _ _ _ _ _ _ _
  refine av.go ai (aJ ai) [3,5] (by kernel_rfl) (ah.sub (K':=[(4,aH 4),(5,aH 5),(6,aH 6),(7,aH 7),(9,.c (.one (.mp 12)))]) (B':=CF bits room L top base l k a long eC fI eW gw (rU eC fI eW gw)) ⟨rfl,rfl,rfl,rfl,rfl,trivial⟩ ⟨rfl,rfl,rfl,rfl,rfl,rfl,rfl,rfl,rfl,rfl,rfl,rfl,rfl,rfl,rfl,trivial⟩) ?_
  refine⟨_,_,_,_,ox _ _ L h.togK top d hd,⟨rfl,rfl,rfl,rfl,trivial⟩,rfl,?_⟩
  refine⟨_,_,_,_,jC ue fR rfl rfl rfl rfl,⟨rfl,trivial⟩,rfl,?_⟩
  refine⟨_,_,fun N=>Kg ai (ti:=_) rfl Tryz.underlying193 Tryz.underlying3 rfl rfl rfl rfl (abv eC fI eW gw) N,rfl,?_⟩
  refine⟨rfl,?_⟩
  show av _ _ _ _ _ _ _
  refine av.go ai (aJ ai) [5] (by kernel_rfl) (ah.sub (K':=[(10,.c (.one (.d (.fn (111,[eC,eW,fI]))))),(11,w8 true)]) (B':=CF bits room L top base l k a long eC fI eW gw (rU eC fI eW gw)) ⟨rfl,rfl,trivial⟩ ⟨rfl,rfl,rfl,rfl,rfl,rfl,rfl,rfl,rfl,rfl,rfl,rfl,rfl,rfl,rfl,trivial⟩) ?_
  show av _ _ _ _ _ _ _
  refine av.le (ah.Qi 10 111 4 6 5 9004 9006 9005 eC eW fI rfl rfl rfl rfl) ?_
  refine av.go ai (aJ ai) [] (by kernel_rfl) (ah.refl _ _) ?_
  refine⟨_,_,_,_,Fn.ren [(3001,4),(3002,6),(3003,5)] pW,⟨rfl,rfl,rfl,rfl,rfl,rfl,rfl,rfl,rfl,trivial⟩,rfl,?_⟩
  exact⟨_,_,_,ah.refl _ _,rfl,rfl,⟨rfl,rfl,rfl,rfl,rfl,rfl,trivial⟩,rfl⟩
 by_cases aX:sV L top k=2
 ·have e:j5 bits L top base k=ji bits L base a long:=by rw[ha,bk];exact(if_neg aW).trans (if_pos aX)
  rw[e]
  rw[aX] at ue
  generalize ji bits L base a long=r at*
  refine Fn.of ai [1,2,3,5] _ _ _ _ _ Tryz.func83 rfl rfl (by kernel_rfl) (by kernel_rfl) rfl (aJ ai) rfl ?_
  refine⟨rfl,rfl,rfl,rfl,?_⟩
  show av _ _ _ _ _ _ _
  refine av.og (gI.mark 4 9004 rfl (by decide)) fun eC=>?_
  refine av.og (gI.mark 5 9005 rfl (by decide)) fun fI=>?_
  refine av.og (gI.mark 6 9006 rfl (by decide)) fun eW=>?_
  refine av.og (gI.mark 7 9007 rfl (by decide)) fun gw=>?_
  refine av.go ai (aJ ai) [2,3,5] (by kernel_rfl) (ah.refl _ _) ?_
  refine⟨rfl,?_⟩
  refine⟨_,_,fun N=>Ay (m1:=9004) (m2:=9006) (m3:=9005) (b1:=eC) (b2:=eW) (b3:=fI) (ch':=.map bt .fn (fc (aN:=bt) (aP:=.fn) [] (1:Int) (111,[eC,eW,fI]))) rfl Tryz.underlying193 Tryz.underlying3 rfl rfl rfl rfl rfl rfl rfl (.inl rfl) (.inl rfl) N,rfl,?_⟩
  refine⟨_,_,fun N=>Ay (m1:=9004) (m2:=9006) (m3:=9007) (b1:=eC) (b2:=eW) (b3:=gw) (ch':=.obj (Ax (rU eC fI eW gw))) rfl Tryz.underlying193 Tryz.underlying3 rfl rfl rfl rfl rfl rfl rfl (.inl rfl) (.inr rfl) N,rfl,?_⟩
  show av _ _ _ _ _ _ _
  refine av.go ai (aJ ai) [3,5] (by kernel_rfl) (ah.sub (K':=[(4,aH 4),(5,aH 5),(6,aH 6),(7,aH 7),(9,.c (.one (.mp 12)))]) (B':=CF bits room L top base l k a long eC fI eW gw (rU eC fI eW gw)) ⟨rfl,rfl,rfl,rfl,rfl,trivial⟩ ⟨rfl,rfl,rfl,rfl,rfl,rfl,rfl,rfl,rfl,rfl,rfl,rfl,rfl,rfl,rfl,trivial⟩) ?_
  refine⟨_,_,_,_,ox _ _ L h.togK top d hd,⟨rfl,rfl,rfl,rfl,trivial⟩,rfl,?_⟩
  refine⟨_,_,_,_,jC ue fR rfl rfl rfl rfl,⟨rfl,trivial⟩,rfl,?_⟩
  refine⟨_,_,fun N=>Kg ai (ti:=_) rfl Tryz.underlying193 Tryz.underlying3 rfl rfl rfl rfl (abw eC fI eW gw) N,rfl,?_⟩
  refine⟨rfl,?_⟩
  show av _ _ _ _ _ _ _
  refine av.go ai (aJ ai) [5] (by kernel_rfl) (ah.sub (K':=[(10,.c (.one (.d (.fn (112,[eC,eW,gw]))))),(11,w8 true)]) (B':=CF bits room L top base l k a long eC fI eW gw (rU eC fI eW gw)) ⟨rfl,rfl,trivial⟩ ⟨rfl,rfl,rfl,rfl,rfl,rfl,rfl,rfl,rfl,rfl,rfl,rfl,rfl,rfl,rfl,trivial⟩) ?_
  show av _ _ _ _ _ _ _
  refine av.le (ah.Qi 10 112 4 6 7 9004 9006 9007 eC eW gw rfl rfl rfl rfl) ?_
  refine av.go ai (aJ ai) [] (by kernel_rfl) (ah.refl _ _) ?_
  refine⟨_,_,_,_,Fn.ren [(3001,4),(3002,6),(3003,7)] pO,⟨rfl,rfl,rfl,rfl,rfl,rfl,rfl,rfl,rfl,trivial⟩,rfl,?_⟩
  exact⟨_,_,_,ah.refl _ _,rfl,rfl,⟨rfl,rfl,rfl,rfl,rfl,rfl,trivial⟩,rfl⟩
 ·have e:j5 bits L top base k=⟨0,L⟩:=(if_neg aW).trans (if_neg aX)
  rw[e]
  have hw:=fun eC fI eW gw=>abx eC fI eW gw aW aX
  generalize sV L top k=cN at*
  refine Fn.of ai [1,2,3,5] _ _ _ _ _ Tryz.func83 rfl rfl (by kernel_rfl) (by kernel_rfl) rfl (aJ ai) rfl ?_
  refine⟨rfl,rfl,rfl,rfl,?_⟩
  show av _ _ _ _ _ _ _
  refine av.og (gI.mark 4 9004 rfl (by decide)) fun eC=>?_
  refine av.og (gI.mark 5 9005 rfl (by decide)) fun fI=>?_
  refine av.og (gI.mark 6 9006 rfl (by decide)) fun eW=>?_
  refine av.og (gI.mark 7 9007 rfl (by decide)) fun gw=>?_
  refine av.go ai (aJ ai) [2,3,5] (by kernel_rfl) (ah.refl _ _) ?_
  refine⟨rfl,?_⟩
  refine⟨_,_,fun N=>Ay (m1:=9004) (m2:=9006) (m3:=9005) (b1:=eC) (b2:=eW) (b3:=fI) (ch':=.map bt .fn (fc (aN:=bt) (aP:=.fn) [] (1:Int) (111,[eC,eW,fI]))) rfl Tryz.underlying193 Tryz.underlying3 rfl rfl rfl rfl rfl rfl rfl (.inl rfl) (.inl rfl) N,rfl,?_⟩
  refine⟨_,_,fun N=>Ay (m1:=9004) (m2:=9006) (m3:=9007) (b1:=eC) (b2:=eW) (b3:=gw) (ch':=.obj (Ax (rU eC fI eW gw))) rfl Tryz.underlying193 Tryz.underlying3 rfl rfl rfl rfl rfl rfl rfl (.inl rfl) (.inr rfl) N,rfl,?_⟩
  show av _ _ _ _ _ _ _
  refine av.go ai (aJ ai) [3,5] (by kernel_rfl) (ah.sub (K':=[(4,aH 4),(5,aH 5),(6,aH 6),(7,aH 7),(9,.c (.one (.mp 12)))]) (B':=CF bits room L top base l k a long eC fI eW gw (rU eC fI eW gw)) ⟨rfl,rfl,rfl,rfl,rfl,trivial⟩ ⟨rfl,rfl,rfl,rfl,rfl,rfl,rfl,rfl,rfl,rfl,rfl,rfl,rfl,rfl,rfl,trivial⟩) ?_
  refine⟨_,_,_,_,ox _ _ L h.togK top d hd,⟨rfl,rfl,rfl,rfl,trivial⟩,rfl,?_⟩
  refine⟨_,_,_,_,jC ue fR rfl rfl rfl rfl,⟨rfl,trivial⟩,rfl,?_⟩
  refine⟨_,_,fun N=>Kg ai (ti:=_) rfl Tryz.underlying193 Tryz.underlying3 rfl rfl rfl rfl (hw eC fI eW gw) N,rfl,?_⟩
  refine⟨rfl,?_⟩
  show av _ _ _ _ _ _ _
  refine av.go ai (aJ ai) [5] (by kernel_rfl) (ah.sub (K':=[(11,w8 false)]) (B':=fM bits room L top base l false) ⟨rfl,trivial⟩ ⟨rfl,rfl,rfl,rfl,rfl,rfl,trivial⟩) ?_
  exact⟨_,_,_,ah.refl _ _,rfl,rfl,⟨rfl,rfl,rfl,rfl,rfl,rfl,trivial⟩,rfl⟩
end
section
variable {bits room:Nat} {L:List aK} {top base:List UInt8}
set_option maxHeartbeats 1000000 in
theorem abz (h:bX bits room L) (base:List UInt8) (l:List Nat) (over:Bool) {d:aK} (hd:dk L top=some d) (aB: ∀k,k∈l→k < d.im.t.length) (hn:l.Nodup):Fn Tryz.prog 38 [aH 2001] (fM bits room L top base l over) [] (.c6 [.one (.d (.bool (eS bits L top base l over).done)),fh (eS bits L top base l over).e]) (fM bits room (eS bits L top base l over).L top base (eS bits L top base l over).l (eS bits L top base l over).over):=by
 have lT:=(h.hM d (cA hd).1).1.tl
 have fR:=h.togK.M (cA hd).1
 have w5:d.im.bits=bits:=(h.hM d (cA hd).1).2.1
 have Qs:=h.b3
 have hp:=k5 h.b3
 cases over with
 |true=>
  have e:eS bits L top base l true=⟨false,150,L,l,true⟩:=if_pos rfl
  rw[e]
  refine Fn.of ai [] _ _ _ _ _ Tryz.func38 rfl rfl (by kernel_rfl) (by kernel_rfl) rfl (aJ ai) rfl ?_
  refine⟨_,_,_,_,ox _ _ L h.togK top d hd,⟨rfl,rfl,rfl,rfl,trivial⟩,rfl,?_⟩
  refine⟨rfl,?_⟩
  refine⟨fun _=>?_,fun h=>absurd h (by decide)⟩
  exact⟨_,_,_,ah.refl _ _,rfl,⟨rfl,rfl,trivial⟩,⟨rfl,rfl,rfl,rfl,rfl,rfl,trivial⟩,rfl⟩
 |false=>
  have yG:(1:Int)*((2 ^((d.im.bits:Nat):Int).toNat:Nat):Int)=((2 ^bits:Nat):Int):=by
   rw[w5,Int.one_mul]
   rfl
  have ee:(0:Int)≤(1:Int)∧(0:Int)≤((d.im.bits:Nat):Int)∧((d.im.bits:Nat):Int)≤64:=by omega
  have eO:(-9223372036854775808:Int)≤(1:Int)*((2 ^((d.im.bits:Nat):Int).toNat:Nat):Int)∧(1:Int)*((2 ^((d.im.bits:Nat):Int).toNat:Nat):Int)≤9223372036854775807:=by rw[yG];omega
  by_cases bg:l=[]
  ·have dH:eo L top=d.im.t.length:=by unfold eo;rw[hd]
   have e:eS bits L top base l false=⟨true,0,(mF L top 0 ((d.im.t.length*2 ^bits:Nat):Int)).L,[],true⟩:=by
    unfold eS
    rw[if_neg (by decide),if_pos bg,dH]
   rw[e]
   subst bg
   have gQ:=OL h top 0 ((d.im.t.length*2 ^bits:Nat):Int)
   have adp:=EM h top 0 ((d.im.t.length*2 ^bits:Nat):Int)
   have mk:d.im.t.length*2 ^bits≤256*8:=Nat.mul_le_mul lT hp.2
   have em:((d.im.t.length:Nat):Int)*((2 ^bits:Nat):Int)=((d.im.t.length*2 ^bits:Nat):Int):=by rw[Int.natCast_mul]
   have m3:(-9223372036854775808:Int)≤((d.im.t.length:Nat):Int)*((2 ^bits:Nat):Int)∧((d.im.t.length:Nat):Int)*((2 ^bits:Nat):Int)≤9223372036854775807:=by rw[em];omega
   rw[←em] at gQ⊢
   generalize mF L top 0 (((d.im.t.length:Nat):Int)*((2 ^bits:Nat):Int))=r at*
   refine Fn.of ai [4,6,7] _ _ _ _ _ Tryz.func38 rfl rfl (by kernel_rfl) (by kernel_rfl) rfl (aJ ai) rfl ?_
   refine⟨_,_,_,_,ox _ _ L h.togK top d hd,⟨rfl,rfl,rfl,rfl,trivial⟩,rfl,?_⟩
   refine⟨rfl,?_⟩
   refine⟨fun h=>absurd h (by decide),fun _=>?_⟩
   refine⟨fun _ _=>?_,fun h=>by cases h⟩
   show av _ _ _ _ _ _ _
   refine av.go ai (aJ ai) [6,7] (by kernel_rfl) (ah.sub (K':=[(0,aH 2001),(4,kC d.am)]) (B':=fM bits room L top base [] false) ⟨rfl,rfl,trivial⟩ ⟨rfl,rfl,rfl,rfl,rfl,rfl,trivial⟩) ?_
   refine⟨_,_,_,_,jC (Cl d.im) fR rfl rfl rfl rfl,⟨rfl,trivial⟩,rfl,?_⟩
   refine⟨ee,eO,?_⟩
   refine⟨fun _=>?_,fun h=>absurd h (by decide)⟩
   show av _ _ _ _ _ _ _
   refine av.go ai (aJ ai) [7] (by kernel_rfl) (ah.sub (K':=[(0,aH 2001),(4,kC d.am),(5,aC ((2 ^bits:Nat):Int))]) (B':=fM bits room L top base [] false) ⟨rfl,rfl,yG,trivial⟩ ⟨rfl,rfl,rfl,rfl,rfl,rfl,trivial⟩) ?_
   refine⟨_,_,_,_,jC (qD d.im) fR rfl rfl rfl rfl,⟨rfl,trivial⟩,rfl,?_⟩
   refine⟨m3,?_⟩
   refine⟨_,_,_,_,gQ,⟨rfl,rfl,rfl,rfl,trivial⟩,rfl,?_⟩
   refine⟨rfl,?_⟩
   show av _ _ _ _ _ _ _
   refine av.go ai (aJ ai) [] (by kernel_rfl) (ah.sub (K':=[(0,aH 2001)]) (B':=fM bits room r.L top base [] false) ⟨rfl,trivial⟩ ⟨rfl,rfl,rfl,rfl,rfl,rfl,trivial⟩) ?_
   refine⟨_,_,_,_,Qo bits room r.L top base [] false,⟨rfl,rfl,rfl,rfl,rfl,rfl,trivial⟩,rfl,?_⟩
   exact⟨_,_,_,ah.refl _ _,rfl,⟨rfl,rfl,trivial⟩,⟨rfl,rfl,rfl,rfl,rfl,rfl,trivial⟩,rfl⟩
  ·have e:eS bits L top base l false=⟨false,(j5 bits L top base (gN l)).e,(j5 bits L top base (gN l)).L,if(j5 bits L top base (gN l)).e=0 then l.erase (gN l) else l,false⟩:=by
    unfold eS
    rw[if_neg (by decide),if_neg bg]
   rw[e]
   obtain⟨cC,cR,fo⟩:=Ki bg
   have aq:=aB _ cR
   have FE: ∀g:{mZ:List Int//mZ.Perm (pz (gY l))},qg g.1=((gN l:Nat):Int):=fun g=>by
    rw[aa4 g.2 (by rw[CE];simpa using bg),CE]
    exact cC
   have BK: ∀g:{mZ:List Int//mZ.Perm (pz (gY l))},g.1.length=l.length:=fun g=>by
    rw[g.2.length_eq,CE,List.length_map]
   have qx:l.length≤256:=by
    have:=Kc d.im.t.length l hn aB
    omega
   have HD:0 < l.length:=List.length_pos_iff.2 bg
   have Bi:=Qj l
   have abA:=aa1 (gY l) (abe hn) (abf fun k aq=>by have:=aB k aq;omega) (by omega)
   have mk:gN l*2 ^bits≤256*8:=Nat.mul_le_mul (by omega) hp.2
   have em:((gN l:Nat):Int)*((2 ^bits:Nat):Int)=((gN l*2 ^bits:Nat):Int):=by rw[Int.natCast_mul]
   have m3:(-9223372036854775808:Int)≤((gN l:Nat):Int)*((2 ^bits:Nat):Int)∧((gN l:Nat):Int)*((2 ^bits:Nat):Int)≤9223372036854775807:=by rw[em];omega
   have abB:=aby h base l (gN l) _ _ em rfl hd aq
   have c9:=Qk (gN l) l
   generalize gN l=Km at*
   generalize j5 bits L top base Km=r at*
   refine Fn.of ai [4,9,10,12] _ _ _ _ _ Tryz.func38 rfl rfl (by kernel_rfl) (by kernel_rfl) rfl (aJ ai) rfl ?_
   refine⟨_,_,_,_,ox _ _ L h.togK top d hd,⟨rfl,rfl,rfl,rfl,trivial⟩,rfl,?_⟩
   refine⟨rfl,?_⟩
   refine⟨fun h=>absurd h (by decide),fun _=>?_⟩
   refine⟨fun _ _=>?_,fun h=>by cases h⟩
   show av _ _ _ _ _ _ _
   refine av.go ai (aJ ai) [9,10,12] (by kernel_rfl) (ah.sub (K':=[(0,aH 2001),(4,kC d.am)]) (B':=fM bits room L top base l false) ⟨rfl,rfl,trivial⟩ ⟨rfl,rfl,rfl,rfl,rfl,rfl,trivial⟩) ?_
   refine⟨_,_,_,_,jC (Cl d.im) fR rfl rfl rfl rfl,⟨rfl,trivial⟩,rfl,?_⟩
   refine⟨ee,eO,?_⟩
   refine⟨fun hc=>?_,fun _=>?_⟩
   ·exfalso
    have hc:decide ((((gY l).length:Nat):Int)=0)=true:=hc
    have:=of_decide_eq_true hc
    omega
   show av _ _ _ _ _ _ _
   refine av.le (ah.sub (K':=[(0,aH 2001),(5,aC ((2 ^bits:Nat):Int))]) (B':=fM bits room L top base l false) ⟨rfl,yG,trivial⟩ ⟨rfl,rfl,rfl,rfl,rfl,rfl,trivial⟩) ?_
   refine av.uP ai (by kernel_rfl) ?_
   refine⟨_,_,_,fun g=>_,fun g=>_,(Fn.ren [(1001,2002),(2001,9001)] (aaZ (gY l))).x,⟨rfl,trivial⟩,rfl,fun _=>rfl,fun _=>?_⟩
   refine⟨_,_,_,fun g=>_,fun g=>_,gV.ren [(1001,2002),(2001,9001)] abA,⟨rfl,rfl,trivial⟩,rfl,fun _=>rfl,fun g=>?_⟩
   have J7:=BK g
   have Fo:=FE g
   refine⟨_,_,_,fun g=>_,fun g=>_,(aa5 g.1 (by omega) (by omega)).x,trivial,rfl,fun _=>rfl,fun _=>?_⟩
   show av _ _ _ _ _ _ _
   refine av.go ai (aJ ai) [12] (by kernel_rfl) (ah.sub (K':=[(0,aH 2001),(5,aC ((2 ^bits:Nat):Int)),(6,aC (Km:Nat))]) (B':=fM bits room L top base l false) ⟨rfl,rfl,Fo,trivial⟩ ⟨rfl,rfl,rfl,rfl,rfl,rfl,trivial⟩) ?_
   refine⟨m3,?_⟩
   refine⟨_,_,_,_,abB,⟨rfl,rfl,rfl,rfl,rfl,rfl,trivial⟩,rfl,?_⟩
   refine⟨fun he=>?_,fun he=>?_⟩
   ·have he:r.e=0:=of_decide_eq_true he
    show av _ _ _ _ _ _ _
    refine av.go ai (aJ ai) [] (by kernel_rfl) (ah.sub (K':=[(0,aH 2001),(6,aC (Km:Nat)),(7,aC r.e)]) (B':=fM bits room r.L top base l false) ⟨rfl,rfl,rfl,trivial⟩ ⟨rfl,rfl,rfl,rfl,rfl,rfl,trivial⟩) ?_
    exact⟨_,_,_,ah.refl _ _,rfl,⟨rfl,rfl,trivial⟩,⟨rfl,rfl,rfl,rfl,rfl,congrArg (fun z=>some (bw.map bt bt z)) (c9.trans (congrArg gY (if_pos he).symm)),trivial⟩,rfl⟩
   ·have he: ¬r.e=0:=of_decide_eq_false he
    exact⟨_,_,_,ah.refl _ _,rfl,⟨rfl,rfl,trivial⟩,⟨rfl,rfl,rfl,rfl,rfl,congrArg (fun z=>some (bw.map bt bt (gY z))) (if_neg he).symm,trivial⟩,rfl⟩
end
end Go.Proofs.YteoamepgonpdlaaGreat
namespace Go.Proofs.YteoamepgonpdlaaGreat
open Go.RowKit Go.Proofs
@[reducible] def abC (l:List fy) (m:List gm) (k:Nat):aQ:=[(0,cI pg l),(1,cI kU m),(5,aC (m8 l k:Nat)),(10,cI pg l),(11,aC (l.length:Nat)),(12,aC (k:Nat))]
@[reducible] def abD (l:List fy) (m:List gm) (k:Nat):aQ:=[(0,cI pg l),(1,cI kU m),(5,aC ((m8 l l.length+qQ m k:Nat):Int)),(39,cI kU m),(40,aC (m.length:Nat)),(41,aC (k:Nat))]
theorem abE (l:List fy) (m:List gm) (aB:l.length≤1073741824) (cc:(l.map mH).sum≤1073741824) (r6:m.length≤1073741824) (J4:(m.map nL).sum≤1073741824):Fn Tryz.prog 32 [cI pg l,cI kU m] [] [] (iw (sU l m)) []:=by
 refine Fn.of ai [] _ _ _ _ _ Tryz.func32 rfl rfl (by kernel_rfl) (by kernel_rfl) rfl (aJ ai) rfl ?_
 show av _ _ _ _ _ _ _
 refine av.loop ai (aJ ai) [] (by kernel_rfl) (X:=Nat) (abC l m) (fun _=>[]) (fun k=>k≤l.length∧E3 l k) (fun k=>l.length - k) 0 ⟨Nat.zero_le _,fun i o aD=>by omega⟩ ?_ ?_
 ·exact ah.sub ⟨rfl,rfl,rfl,rfl,rfl,rfl,trivial⟩ trivial
 rintro k ⟨aq,bk⟩
 have adq:=Pv l k
 refine⟨fun hc=>?_,fun hc=>?_⟩
 ·have hc:decide ((k:Int) < ((l.length:Nat):Int))=true:=hc
  have bP:k < l.length:=by have:=of_decide_eq_true hc;omega
  have adr:=Pv l (k+1)
  have hs:=Zs l bP
  have Kn:wN l[k]=(decide (12 < j3 l[k])&&decide (j3 l[k]≤256)):=rfl
  have Fp:mH l[k]=(dX (cK l[k])).length+(cg l[k]).length+(eL l[k]).length:=rfl
  have eB:=eA (n:=k) bP
  have zM:=fun ag=>bk.succ bP ag
  have abF:=fun ag=>aaT (m:=m) bP ag
  generalize hx:l[k]=o at*
  have m1:(-9223372036854775808:Int)≤(((dX (cK o)).length:Nat):Int)+(((cg o).length:Nat):Int)∧(((dX (cK o)).length:Nat):Int)+(((cg o).length:Nat):Int)≤9223372036854775807:=by omega
  have m2:(-9223372036854775808:Int)≤(((dX (cK o)).length:Nat):Int)+(((cg o).length:Nat):Int)+(((eL o).length:Nat):Int)∧(((dX (cK o)).length:Nat):Int)+(((cg o).length:Nat):Int)+(((eL o).length:Nat):Int)≤9223372036854775807:=by omega
  have m3:(-9223372036854775808:Int)≤((m8 l k:Nat):Int)+((((dX (cK o)).length:Nat):Int)+(((cg o).length:Nat):Int)+(((eL o).length:Nat):Int))∧((m8 l k:Nat):Int)+((((dX (cK o)).length:Nat):Int)+(((cg o).length:Nat):Int)+(((eL o).length:Nat):Int))≤9223372036854775807:=by omega
  have bf:((m8 l k:Nat):Int)+((((dX (cK o)).length:Nat):Int)+(((cg o).length:Nat):Int)+(((eL o).length:Nat):Int))=((m8 l (k+1):Nat):Int):=by omega
  refine⟨by omega,o,eB,?_⟩
  refine⟨rfl,m1,m2,m3,?_⟩
  refine⟨fun rQ=>?_,fun rQ=>?_⟩
  ·have rQ:decide (12 < j3 o)=true:=rQ
   refine⟨fun sR=>?_,fun sR=>?_⟩
   ·have sR:decide (j3 o≤256)=true:=sR
    exact⟨_,_,_,ah.refl _ _,rfl,(abF (by rw[Kn,rQ,sR];rfl)).symm,trivial,rfl⟩
   ·have sR:decide (j3 o≤256)=false:=sR
    exact⟨by omega,k+1,⟨bP,zM (by rw[Kn,rQ,sR];rfl)⟩,by omega,ah.sub ⟨rfl,rfl,bf,rfl,rfl,rfl,trivial⟩ trivial⟩
  ·have rQ:decide (12 < j3 o)=false:=rQ
   exact⟨by omega,k+1,⟨bP,zM (by rw[Kn,rQ];rfl)⟩,by omega,ah.sub ⟨rfl,rfl,bf,rfl,rfl,rfl,trivial⟩ trivial⟩
 ·have hc:decide ((k:Int) < ((l.length:Nat):Int))=false:=hc
  have gx:k=l.length:=by have:=of_decide_eq_false hc;omega
  subst gx
  have dh:(l.all fun o=> !wN o)=true:=List.all_eq_true.2 fun o az=>by
   obtain⟨i,aD,rfl⟩:=List.getElem_of_mem az
   rw[bk i _ aD (List.getElem?_eq_getElem aD)]
   rfl
  have Fp:m8 l l.length=(l.map mH).sum:=by unfold m8;rw[List.take_length]
  show av _ _ _ _ _ _ _
  refine av.loop ai (aJ ai) [] (by kernel_rfl) (X:=Nat) (abD l m) (fun _=>[]) (fun j=>j≤m.length) (fun j=>m.length - j) 0 (Nat.zero_le _) ?_ ?_
  ·exact ah.sub ⟨rfl,rfl,rfl,rfl,rfl,rfl,trivial⟩ trivial
  intro j au
  have iD:=Qd m j
  refine⟨fun hc=>?_,fun hc=>?_⟩
  ·have hc:decide ((j:Int) < ((m.length:Nat):Int))=true:=hc
   have Ko:j < m.length:=by have:=of_decide_eq_true hc;omega
   have fQ:=Qd m (j+1)
   have hs:=aaR m Ko
   have ads:nL m[j]=(dX (cV m[j])).length:=rfl
   have eB:=eA (n:=j) Ko
   generalize hx:m[j]=o at*
   have m3:(-9223372036854775808:Int)≤((m8 l l.length+qQ m j:Nat):Int)+(((dX (cV o)).length:Nat):Int)∧((m8 l l.length+qQ m j:Nat):Int)+(((dX (cV o)).length:Nat):Int)≤9223372036854775807:=by omega
   have bf:((m8 l l.length+qQ m j:Nat):Int)+(((dX (cV o)).length:Nat):Int)=((m8 l l.length+qQ m (j+1):Nat):Int):=by omega
   refine⟨by omega,o,eB,?_⟩
   refine⟨rfl,m3,?_⟩
   exact⟨by omega,j+1,Ko,by omega,ah.sub ⟨rfl,rfl,bf,rfl,rfl,rfl,trivial⟩ trivial⟩
  ·have hc:decide ((j:Int) < ((m.length:Nat):Int))=false:=hc
   have fQ:j=m.length:=by have:=of_decide_eq_false hc;omega
   subst fQ
   have Qy:qQ m m.length=(m.map nL).sum:=by unfold qQ;rw[List.take_length]
   have je:(-9223372036854775808:Int)≤((l.length:Nat):Int)+((m.length:Nat):Int)∧((l.length:Nat):Int)+((m.length:Nat):Int)≤9223372036854775807:=by omega
   refine⟨je,?_⟩
   refine⟨fun aW=>?_,fun aW=>?_⟩
   ·have aW:decide (((l.length:Nat):Int)+((m.length:Nat):Int)≤60)=true:=aW
    have aW:decide (l.length+m.length≤60)=true:=decide_eq_true (by have:=of_decide_eq_true aW;omega)
    refine⟨_,_,_,ah.refl _ _,rfl,(show decide (((m8 l l.length+qQ m m.length:Nat):Int)≤6000)=sU l m from ?_),trivial,rfl⟩
    rw[sU,dh,aW,Fp,Qy,Bool.eq_iff_iff]
    simp
    omega
   ·have aW:decide (((l.length:Nat):Int)+((m.length:Nat):Int)≤60)=false:=aW
    have aW:decide (l.length+m.length≤60)=false:=decide_eq_false (by have:=of_decide_eq_false aW;omega)
    refine⟨_,_,_,ah.refl _ _,rfl,(show false=sU l m from ?_),trivial,rfl⟩
    rw[sU,dh,aW]
    rfl
theorem abG {bits room:Nat} {L:List aK} (h:bX bits room L) (o:fy) (ag:mH o≤1000000):
  gV Tryz.prog 34 [aH 1001,Ck o] (bM bits room L) [] (X:={p:Nat×Nat//bX bits room (kF bits room L o p).L}) (fun p=>aC (kF bits room L o p.1).e) (fun p=>bM bits room (kF bits room L o p.1).L):=by
 have Fp:mH o=(dX (cK o)).length+(cg o).length+(eL o).length:=rfl
 have wH:(cg o).length≤4294967296:=by omega
 refine gV.of ai [3] _ _ _ _ _ Tryz.func34 rfl rfl (by kernel_rfl) (by kernel_rfl) rfl (aJ ai) rfl ?_
 refine⟨rfl,?_⟩
 refine⟨fun cx=>?_,fun cx=>?_⟩
 ·have cx:gh o=0:=of_decide_eq_true cx
  have bz: ∀p,kF bits room L o p=nH bits room L (cg o) (j3 o) (eL o) p:=fun p=>if_pos cx
  show av _ _ _ _ _ _ _
  refine av.uP ai (by kernel_rfl) ?_
  refine⟨_,_,_,fun g=>_,fun g=>_,Jq h (cg o) (j3 o) (eL o) wH,⟨rfl,rfl,rfl,rfl,trivial⟩,rfl,fun _=>rfl,fun g=>?_⟩
  have cG:=congrArg iW.L (bz g.1)
  exact⟨⟨g.1,by rw[bz];exact g.2⟩,_,_,_,ah.refl _ _,rfl,congrArg iW.e (bz g.1).symm,⟨rfl,congrArg (fun l=>some (bw.map .str .aY (cl l))) cG.symm,congrArg (fun l=>some (bw.obj (.cM (jg l)))) cG.symm,congrArg (fun l=>some (bw.obj (.cM (gf l)))) cG.symm,trivial⟩,rfl⟩
 have cx:gh o≠0:=of_decide_eq_false cx
 have g0:bX bits room (kF bits room L o (0,0)).L:=Qb h cx (0,0)
 refine⟨fun aW=>?_,fun aW=>?_⟩
 ·have aW:gh o=1:=of_decide_eq_true aW
  have bz:kF bits room L o (0,0)=sN L (cg o):=(if_neg cx).trans (if_pos aW)
  have cG:=congrArg iW.L bz
  refine⟨_,_,_,_,Yq h (cg o),⟨rfl,rfl,rfl,rfl,trivial⟩,rfl,?_⟩
  exact⟨⟨_,g0⟩,_,_,_,ah.refl _ _,rfl,congrArg iW.e bz.symm,⟨rfl,congrArg (fun l=>some (bw.map .str .aY (cl l))) cG.symm,congrArg (fun l=>some (bw.obj (.cM (jg l)))) cG.symm,congrArg (fun l=>some (bw.obj (.cM (gf l)))) cG.symm,trivial⟩,rfl⟩
 have aW:gh o≠1:=of_decide_eq_false aW
 refine⟨fun aX=>?_,fun aX=>?_⟩
 ·have aX:gh o=2:=of_decide_eq_true aX
  have bz:kF bits room L o (0,0)=qa L (cg o) (eL o):=(if_neg cx).trans ((if_neg aW).trans (if_pos aX))
  have cG:=congrArg iW.L bz
  refine⟨_,_,_,_,Yt h (cg o) (eL o),⟨rfl,rfl,rfl,rfl,trivial⟩,rfl,?_⟩
  exact⟨⟨_,g0⟩,_,_,_,ah.refl _ _,rfl,congrArg iW.e bz.symm,⟨rfl,congrArg (fun l=>some (bw.map .str .aY (cl l))) cG.symm,congrArg (fun l=>some (bw.obj (.cM (jg l)))) cG.symm,congrArg (fun l=>some (bw.obj (.cM (gf l)))) cG.symm,trivial⟩,rfl⟩
 have aX:gh o≠2:=of_decide_eq_false aX
 refine⟨fun bT=>?_,fun bT=>?_⟩
 ·have bT:gh o=3:=of_decide_eq_true bT
  have uN:kF bits room L o (0,0)=yF bits L (cg o) (cK o):=(if_neg cx).trans ((if_neg aW).trans ((if_neg aX).trans (if_pos bT)))
  refine⟨fun d1=>?_,fun d1=>?_⟩
  ·have d1:dg (cK o)=1:=of_decide_eq_true d1
   have bz:=uN.trans (if_pos d1)
   have cG:=congrArg iW.L bz
   refine⟨_,_,_,_,EN h (cg o) (cJ (cK o)) (dX (cK o)) (by omega),⟨rfl,rfl,rfl,rfl,trivial⟩,rfl,?_⟩
   exact⟨⟨_,g0⟩,_,_,_,ah.refl _ _,rfl,congrArg iW.e bz.symm,⟨rfl,congrArg (fun l=>some (bw.map .str .aY (cl l))) cG.symm,congrArg (fun l=>some (bw.obj (.cM (jg l)))) cG.symm,congrArg (fun l=>some (bw.obj (.cM (gf l)))) cG.symm,trivial⟩,rfl⟩
  have d1:dg (cK o)≠1:=of_decide_eq_false d1
  refine⟨fun d2=>?_,fun d2=>?_⟩
  ·have d2:dg (cK o)=2:=of_decide_eq_true d2
   have bz:=uN.trans ((if_neg d1).trans (if_pos d2))
   have cG:=congrArg iW.L bz
   refine⟨_,_,_,_,Jm h (cg o) (cJ (cK o)) (dx (cK o)),⟨rfl,rfl,rfl,rfl,trivial⟩,rfl,?_⟩
   exact⟨⟨_,g0⟩,_,_,_,ah.refl _ _,rfl,congrArg iW.e bz.symm,⟨rfl,congrArg (fun l=>some (bw.map .str .aY (cl l))) cG.symm,congrArg (fun l=>some (bw.obj (.cM (jg l)))) cG.symm,congrArg (fun l=>some (bw.obj (.cM (gf l)))) cG.symm,trivial⟩,rfl⟩
  have d2:dg (cK o)≠2:=of_decide_eq_false d2
  refine⟨fun d3=>?_,fun d3=>?_⟩
  ·have d3:dg (cK o)=3:=of_decide_eq_true d3
   have bz:=uN.trans ((if_neg d1).trans ((if_neg d2).trans (if_pos d3)))
   have cG:=congrArg iW.L bz
   refine⟨_,_,_,_,OL h (cg o) (cJ (cK o)) (dx (cK o)),⟨rfl,rfl,rfl,rfl,trivial⟩,rfl,?_⟩
   exact⟨⟨_,g0⟩,_,_,_,ah.refl _ _,rfl,congrArg iW.e bz.symm,⟨rfl,congrArg (fun l=>some (bw.map .str .aY (cl l))) cG.symm,congrArg (fun l=>some (bw.obj (.cM (jg l)))) cG.symm,congrArg (fun l=>some (bw.obj (.cM (gf l)))) cG.symm,trivial⟩,rfl⟩
  have d3:dg (cK o)≠3:=of_decide_eq_false d3
  have bz:=uN.trans ((if_neg d1).trans ((if_neg d2).trans (if_neg d3)))
  have cG:=congrArg iW.L bz
  exact⟨⟨_,g0⟩,_,_,_,ah.refl _ _,rfl,congrArg iW.e bz.symm,⟨rfl,congrArg (fun l=>some (bw.map .str .aY (cl l))) cG.symm,congrArg (fun l=>some (bw.obj (.cM (jg l)))) cG.symm,congrArg (fun l=>some (bw.obj (.cM (gf l)))) cG.symm,trivial⟩,rfl⟩
 have bT:gh o≠3:=of_decide_eq_false bT
 have bz:kF bits room L o (0,0)=⟨0,L⟩:=(if_neg cx).trans ((if_neg aW).trans ((if_neg aX).trans (if_neg bT)))
 have cG:=congrArg iW.L bz
 exact⟨⟨_,g0⟩,_,_,_,ah.refl _ _,rfl,congrArg iW.e bz.symm,⟨rfl,congrArg (fun l=>some (bw.map .str .aY (cl l))) cG.symm,congrArg (fun l=>some (bw.obj (.cM (jg l)))) cG.symm,congrArg (fun l=>some (bw.obj (.cM (gf l)))) cG.symm,trivial⟩,rfl⟩
theorem Qz {bits room:Nat} {L:List aK} (h:bX bits room L) (nm:List UInt8):Fn Tryz.prog 46 [aH 1001,bG nm] (bM bits room L) [] (bG (Fg bits L nm)) (bM bits room L):=by
 unfold Fg
 cases hd:dk L nm with
 |none=>
  simp only
  refine Fn.of ai [] _ _ _ _ _ Tryz.func46 rfl rfl (by kernel_rfl) (by kernel_rfl) rfl (aJ ai) rfl ?_
  refine⟨_,_,_,_,WM _ _ L nm hd,⟨rfl,rfl,rfl,rfl,trivial⟩,rfl,?_⟩
  exact⟨_,_,_,ah.refl _ _,rfl,rfl,⟨rfl,rfl,rfl,rfl,trivial⟩,rfl⟩
 |some d=>
  obtain⟨aV,w5,_⟩:=h.hM d (cA hd).1
  have fR:=h.togK.M (cA hd).1
  have lT:=aV.tl
  have Qs:=h.b3
  have hp:=k5 h.b3
  have QA:((d.im.t.length:Nat):Int)*((2 ^((d.im.bits:Nat):Int).toNat:Nat):Int)=((d.im.t.length*2 ^bits:Nat):Int):=by
   rw[w5]
   show((d.im.t.length:Nat):Int)*((2 ^bits:Nat):Int)=_
   rw[Int.natCast_mul]
  have mk:d.im.t.length*2 ^bits≤256*8:=Nat.mul_le_mul lT hp.2
  have m1:(0:Int)≤((d.im.t.length:Nat):Int)∧(0:Int)≤((d.im.bits:Nat):Int)∧((d.im.bits:Nat):Int)≤64:=by omega
  have m2:(-9223372036854775808:Int)≤((d.im.t.length:Nat):Int)*((2 ^((d.im.bits:Nat):Int).toNat:Nat):Int)∧((d.im.t.length:Nat):Int)*((2 ^((d.im.bits:Nat):Int).toNat:Nat):Int)≤9223372036854775807:=by rw[QA];omega
  have yH:=OM h nm 0 ((d.im.t.length*2 ^bits:Nat):Int)
  rw[ZP h hd (n:=d.im.t.length*2 ^bits) (by rw[PG h hd];exact Nat.le_refl _),←QA] at yH
  simp only
  generalize fS bits L nm (c7 L nm) 0 (d.im.t.length*2 ^bits)=x at*
  refine Fn.of ai [] _ _ _ _ _ Tryz.func46 rfl rfl (by kernel_rfl) (by kernel_rfl) rfl (aJ ai) rfl ?_
  refine⟨_,_,_,_,ox _ _ L h.togK nm d hd,⟨rfl,rfl,rfl,rfl,trivial⟩,rfl,?_⟩
  refine⟨fun _ _=>?_,fun h=>by cases h⟩
  refine⟨_,_,_,_,jC (qD d.im) fR rfl rfl rfl rfl,⟨rfl,trivial⟩,rfl,?_⟩
  refine⟨_,_,_,_,jC (Cl d.im) fR rfl rfl rfl rfl,⟨rfl,trivial⟩,rfl,?_⟩
  refine⟨m1,m2,?_⟩
  refine⟨_,_,_,_,yH,⟨rfl,rfl,rfl,rfl,trivial⟩,rfl,?_⟩
  exact⟨_,_,_,ah.refl _ _,rfl,rfl,⟨rfl,rfl,rfl,rfl,trivial⟩,rfl⟩
def ug:List UInt8:=120::List.replicate 15 0
def Kp (p:Nat×Nat):List aK:=(nH 0 20 [] [97] 4 [] p).L
def Az (p q:Nat×Nat):List aK:=(nH 0 20 (Kp p) [98] 4 [97] q).L
def l6 (p q:Nat×Nat):List aK:=(jh 0 (Az p q) [98] 1 ug).L
def vF (p q:Nat×Nat):List aK:=(j5 0 (l6 p q) [98] [97] 1).L
def uh (p q:Nat×Nat):List aK:=(mF (vF p q) [98] 0 ((4*2 ^0:Nat):Int)).L
theorem abH (L:List aK) (n:List UInt8):(jE L n).length=((oy (cl L)).filter (kE L n)).length:=((List.mergeSort_perm (oy (cl L)) leB).filter _).length_eq
theorem abI (p q:Nat×Nat):((oy (cl (l6 p q))).filter (kE (l6 p q) [97])).length=1:=by kernel_rfl
theorem abJ (p q:Nat×Nat):fu (l6 p q) [98]=([97],0):=by kernel_rfl
theorem abK (p q:Nat×Nat):eo (l6 p q) [97]=4:=by kernel_rfl
theorem abL (p q:Nat×Nat):eo (l6 p q) [98]=4:=by kernel_rfl
theorem QB (p q:Nat×Nat):ng (l6 p q) [98]=0:=by
 unfold ng
 rw[abJ]
 simp only
 rw[abH,abI,abK,abL]
 rfl
theorem QC (p q:Nat×Nat):vE (l6 p q) [98]=[1]:=by kernel_rfl
theorem abM (p q:Nat×Nat):(fu (l6 p q) [98]).1=[97]:=by kernel_rfl
theorem abN (p q:Nat×Nat):(j5 0 (l6 p q) [98] [97] 1).e=0:=by kernel_rfl
theorem abO (p q:Nat×Nat):eo (vF p q) [98]=4:=by kernel_rfl
theorem abP (p q:Nat×Nat):(dk (uh p q) [98]).isSome=true:=by kernel_rfl
theorem abQ (p q:Nat×Nat):eo (uh p q) [98]=4:=by kernel_rfl
theorem abR (p q:Nat×Nat):tU 0 (uh p q) [97] 1 1=(ug,0):=by kernel_rfl
theorem abS (p q:Nat×Nat):sV (uh p q) [98] 1=0:=by kernel_rfl
section
variable {bits room:Nat} {L:List aK} {top base:List UInt8} {l:List Nat}
structure jL (bits room:Nat) (L:List aK) (top:List UInt8) (l:List Nat):Prop where
 cs:bX bits room L
 jD:(dk L top).isSome=true
 lt: ∀k,k∈l→k < eo L top
 lQ:l.Nodup
theorem jL.lm {eE:List aK} {t:List UInt8} (h:jL bits room L top l) (aB:oH L t eE):jL bits room eE top l:=⟨aB.cs h.cs,by rw[(aB.aM top).2];exact h.jD,fun k aq=>by rw[(aB.aM top).1];exact h.lt k aq,h.lQ⟩
theorem Kq (h:bX bits room L) (top base:List UInt8) (k:Nat):oH L base (j5 bits L top base k).L:=by
 unfold j5
 split
 ·exact PI h _ _ _
 ·split
  ·exact PJ h _ _ _
  ·exact .inl rfl
theorem jL.step (h:jL bits room L top l) (base:List UInt8) (over:Bool):jL bits room (eS bits L top base l over).L top (eS bits L top base l over).l:=by
 unfold eS
 split
 ·exact h
 ·split
  ·exact⟨(h.lm (E5 h.cs _ _ _)).cs,(h.lm (E5 h.cs _ _ _)).jD,fun k aq=>(by cases aq),List.nodup_nil⟩
  ·have aa:=h.lm (Kq h.cs top base (gN l))
   refine⟨aa.cs,aa.jD,fun k aq=>aa.lt k ?_,?_⟩
   ·have aq:k∈(if(j5 bits L top base (gN l)).e=0 then l.erase (gN l) else l):=aq
    split at aq
    ·exact List.mem_of_mem_erase aq
    ·exact aq
   ·show(if(j5 bits L top base (gN l)).e=0 then l.erase (gN l) else l).Nodup
    split
    ·exact h.lQ.erase _
    ·exact h.lQ
theorem jL.AA (h:bX bits room L) (he:ng L top=0):jL bits room L top (vE L top):=by
 obtain⟨d,hd,_⟩:=Fj h (Kj he).1
 exact⟨h,by rw[hd];rfl,fun k aq=>List.mem_range.1 (List.mem_filter.1 aq).1,List.nodup_range.filter _⟩
theorem jL.get (h:jL bits room L top l): ∃d,dk L top=some d∧ ∀k,k∈l→k < d.im.t.length:=by
 obtain⟨d,hd⟩:=Option.isSome_iff_exists.1 h.jD
 refine⟨d,hd,fun k aq=>?_⟩
 have:=h.lt k aq
 unfold eo at this
 rw[hd] at this
 exact this
theorem jL.len (h:jL bits room L top l):l.length≤eo L top∧eo L top≤256:=by
 obtain⟨d,hd,_⟩:=h.get
 refine⟨Kc _ l h.lQ h.lt,?_⟩
 unfold eo
 rw[hd]
 exact(h.cs.hM d (cA hd).1).1.tl
theorem jL.Fq (h:jL bits room L top l) (base:List UInt8) (over:Bool):Fn Tryz.prog 38 [aH 2001] (fM bits room L top base l over) [] (.c6 [.one (.d (.bool (eS bits L top base l over).done)),fh (eS bits L top base l over).e]) (fM bits room (eS bits L top base l over).L top base (eS bits L top base l over).l (eS bits L top base l over).over):=
 let⟨_,hd,aB⟩:=h.get
 abz h.cs base l over hd aB h.lQ
theorem abT {bits n:Nat} {l:List Nat} {a long:Int}: ∀{k:Nat},k∈nM bits n l a long→k∈l∨k < n:=by
 induction n with
 |zero=>exact fun h=>.inl h
 |succ n aZ=>
  intro k aq
  rw[Fk] at aq
  split at aq
  ·rcases Ql.1 aq with aq |rfl
   ·exact(aZ aq).imp id (by omega)
   ·exact .inr (by omega)
  ·exact(aZ aq).imp id (by omega)
theorem abU {bits n:Nat} {l:List Nat} {a long:Int} (h:l.Nodup):(nM bits n l a long).Nodup:=by
 induction n with
 |zero=>exact h
 |succ n aZ=>
  rw[Fk]
  split
  ·exact abd aZ
  ·exact aZ
theorem jL.wr (h:jL bits room L top l) (over:Bool) (a long:Int):jL bits room L top (qR bits L top l over a long):=by
 unfold qR
 split
 ·exact h
 ·exact⟨h.cs,h.jD,fun k aq=>(abT aq).elim (h.lt k) id,abU h.lQ⟩
end
@[reducible] def Fs:aQ:=[(1,aH 1001),(3,cI .u8 ug)]
set_option maxHeartbeats 1000000 in
theorem Kr:Fn Tryz.prog 33 [] [] [] (iw true) []:=by
 have cx:bX 0 20 []:=bX.nil (by decide) (by decide)
 refine Fn.of ai [6,7,8,9,12,15,18] _ _ _ _ _ Tryz.func33 rfl rfl (by kernel_rfl) (by kernel_rfl) rfl (aJ ai) rfl ?_
 refine⟨_,_,_,_,N4 0 20 (by decide) (by decide),trivial,rfl,?_⟩
 refine⟨fun h=>absurd h (by decide),fun _=>?_⟩
 refine⟨⟨rfl,by decide,by decide⟩,rfl,?_⟩
 refine⟨⟨by decide,by decide⟩,⟨⟨by decide,by decide⟩,by decide⟩,?_⟩
 show av _ _ _ _ _ _ _
 refine av.le (ah.dU 26 rfl) ?_
 refine av.le (ah.sub (K':=Fs) (B':=bM 0 20 []) ⟨rfl,rfl,trivial⟩ ⟨rfl,rfl,rfl,rfl,trivial⟩) ?_
 refine av.uP ai (by kernel_rfl) ?_
 refine⟨_,_,_,fun g=>_,fun g=>_,Jq cx [97] 4 [] (by decide),⟨rfl,rfl,rfl,rfl,trivial⟩,rfl,fun _=>rfl,fun p=>?_⟩
 obtain⟨p,aW⟩:=p
 have aW:bX 0 20 (Kp p):=aW
 show av _ _ _ _ _ _ _
 refine av.le (ah.sub (K':=Fs) (B':=bM 0 20 (Kp p)) ⟨rfl,rfl,trivial⟩ ⟨rfl,rfl,rfl,rfl,trivial⟩) ?_
 refine av.uP ai (by kernel_rfl) ?_
 refine⟨_,_,_,fun g=>_,fun g=>_,Jq aW [98] 4 [97] (by decide),⟨rfl,rfl,rfl,rfl,trivial⟩,rfl,fun _=>rfl,fun q=>?_⟩
 obtain⟨q,aX⟩:=q
 have aX:bX 0 20 (Az p q):=aX
 have bT:bX 0 20 (l6 p q):=Jl aX _ _ _
 have m3:jL 0 20 (l6 p q) [98] [1]:=by have:=jL.AA bT (QB p q);rwa[QC] at this
 have cF:eS 0 (l6 p q) [98] [97] [1] false=⟨false,0,vF p q,[],false⟩:=by
  have:eS 0 (l6 p q) [98] [97] [1] false=⟨false,(j5 0 (l6 p q) [98] [97] 1).e,(j5 0 (l6 p q) [98] [97] 1).L,if(j5 0 (l6 p q) [98] [97] 1).e=0 then[] else[1],false⟩:=rfl
  rw[this,abN]
  rfl
 have lN:=m3.Fq [97] false
 have je:=m3.step [97] false
 rw[cF] at lN je
 have je:jL 0 20 (vF p q) [98] []:=je
 have eY:eS 0 (vF p q) [98] [97] [] false=⟨true,0,uh p q,[],true⟩:=by
  have:eS 0 (vF p q) [98] [97] [] false=⟨true,0,(mF (vF p q) [98] 0 ((eo (vF p q) [98]*2 ^0:Nat):Int)).L,[],true⟩:=rfl
  rw[this,abO]
  rfl
 have eR:=je.Fq [97] false
 have mB:=je.step [97] false
 rw[eY] at eR mB
 have mB:jL 0 20 (uh p q) [98] []:=mB
 have DU:=mB.Fq [97] true
 rw[show eS 0 (uh p q) [98] [97] [] true=⟨false,150,uh p q,[],true⟩ from rfl] at DU
 have hw:=EN aX [98] 1 ug (by decide)
 have bf:(jh 0 (Az p q) [98] 1 ug).L=l6 p q:=rfl
 rw[bf] at hw
 generalize(jh 0 (Az p q) [98] 1 ug).e=e7 at hw
 have ag:=Qq bT [98] (QB p q)
 rw[QC,abM] at ag
 have Ks:=Qn ((0:Nat):Int) ((20:Nat):Int) (l6 p q) [98] [97] [1] false
 have hr:=OM mB.cs [97] 1 1
 rw[abR] at hr
 obtain⟨d,hd⟩:=Option.isSome_iff_exists.1 (abP p q)
 have fR:=mB.cs.togK.M (cA hd).1
 have lT:=(mB.cs.hM d (cA hd).1).1.tl
 have aS:=abQ p q
 have fO:=abS p q
 have aS:d.im.t.length=4:=by unfold eo at aS;rw[hd] at aS;exact aS
 have ue:=zR d.im lT 1 (by omega)
 have fO:(d.im.t.getD 1 s0).1=0:=by unfold sV at fO;rw[hd] at fO;exact fO
 rw[fO] at ue
 have abV:=ox ((0:Nat):Int) ((20:Nat):Int) (uh p q) mB.cs.togK [98] d hd
 show av _ _ _ _ _ _ _
 refine av.le (ah.sub (K':=Fs) (B':=bM 0 20 (Az p q)) ⟨rfl,rfl,trivial⟩ ⟨rfl,rfl,rfl,rfl,trivial⟩) ?_
 clear bf cF eY bT m3 je fO aS
 generalize Az p q=kG at*
 generalize l6 p q=QD at*
 generalize vF p q=adt at*
 generalize uh p q=QE at*
 refine av.go ai (aJ ai) [9,12,15,18] (by kernel_rfl) (ah.refl _ _) ?_
 refine⟨_,_,_,_,hw,⟨rfl,rfl,rfl,rfl,trivial⟩,rfl,?_⟩
 show av _ _ _ _ _ _ _
 refine av.go ai (aJ ai) [12,15,18] (by kernel_rfl) (ah.sub (K':=Fs) (B':=bM 0 20 QD) ⟨rfl,rfl,trivial⟩ ⟨rfl,rfl,rfl,rfl,trivial⟩) ?_
 refine⟨_,_,_,_,ag,⟨rfl,rfl,rfl,rfl,trivial⟩,rfl,?_⟩
 refine⟨fun h=>absurd h (by decide),fun _=>?_⟩
 show av _ _ _ _ _ _ _
 refine av.go ai (aJ ai) [15,18] (by kernel_rfl) (ah.sub (K':=[(1,aH 1001),(3,cI .u8 ug),(4,aH 2001)]) (B':=fM 0 20 QD [98] [97] [1] false) ⟨rfl,rfl,rfl,trivial⟩ ⟨rfl,rfl,rfl,rfl,rfl,rfl,trivial⟩) ?_
 refine⟨_,_,_,_,Ks,⟨rfl,rfl,rfl,rfl,rfl,rfl,trivial⟩,rfl,?_⟩
 refine⟨_,_,_,_,lN,⟨rfl,rfl,rfl,rfl,rfl,rfl,trivial⟩,rfl,?_⟩
 refine⟨_,_,_,_,eR,⟨rfl,rfl,rfl,rfl,rfl,rfl,trivial⟩,rfl,?_⟩
 show av _ _ _ _ _ _ _
 refine av.go ai (aJ ai) [18] (by kernel_rfl) (ah.sub (K':=[(1,aH 1001),(3,cI .u8 ug),(4,aH 2001),(6,aC 1),(7,iw false),(8,aC 0),(9,iw true),(10,aC 0)]) (B':=fM 0 20 QE [98] [97] [] true) ⟨rfl,rfl,rfl,rfl,rfl,rfl,rfl,rfl,trivial⟩ ⟨rfl,rfl,rfl,rfl,rfl,rfl,trivial⟩) ?_
 refine⟨_,_,_,_,DU,⟨rfl,rfl,rfl,rfl,rfl,rfl,trivial⟩,rfl,?_⟩
 refine⟨_,_,_,_,hr,⟨rfl,rfl,rfl,rfl,trivial⟩,rfl,?_⟩
 refine⟨_,_,_,_,abV,⟨rfl,rfl,rfl,rfl,trivial⟩,rfl,?_⟩
 show av _ _ _ _ _ _ _
 refine av.go ai (aJ ai) [] (by kernel_rfl) (ah.sub (K':=[(3,cI .u8 ug),(6,aC 1),(7,iw false),(8,aC 0),(9,iw true),(10,aC 0),(12,aC 150),(13,cI .u8 ug),(14,aC 0),(15,kC d.am)]) (B':=bM 0 20 QE) ⟨rfl,rfl,rfl,rfl,rfl,rfl,rfl,rfl,rfl,rfl,trivial⟩ ⟨rfl,rfl,rfl,rfl,trivial⟩) ?_
 refine⟨fun _=>?_,fun h=>absurd h (by decide)⟩
 refine⟨fun _=>?_,fun h=>absurd h (by decide)⟩
 refine⟨fun _=>?_,fun h=>absurd h (by decide)⟩
 refine⟨fun _=>?_,fun h=>absurd h (by decide)⟩
 refine⟨fun _=>?_,fun h=>absurd h (by decide)⟩
 refine⟨fun _=>?_,fun h=>absurd h (by decide)⟩
 refine⟨fun _=>?_,fun h=>absurd h (by decide)⟩
 refine⟨fun _=>?_,fun h=>absurd h (by decide)⟩
 refine⟨fun _ _=>?_,fun h=>by cases h⟩
 refine⟨_,_,_,_,jC ue fR rfl rfl rfl rfl,⟨rfl,trivial⟩,rfl,?_⟩
 exact⟨_,_,_,ah.refl _ _,rfl,rfl,trivial,rfl⟩
section
variable {bits room:Nat} {L:List aK} {top base nm:List UInt8} {l:List Nat}
structure vG (bits room:Nat) (L:List aK) (top base:List UInt8) (l:List Nat):Prop extends jL bits room L top l where
 uj:(dk L base).isSome=true
 le:eo L top≤eo L base
 Kt:eo L base < room
 nK:fu L top=(base,0)
 ne:base≠[]
theorem oH.fu {eE:List aK} {t:List UInt8} (aB:oH L t eE) (n:List UInt8):fu eE n=fu L n:=by
 rcases aB with rfl |⟨d,im,aE,hs,rfl⟩
 ·rfl
 ·unfold Go.Proofs.YteoamepgonpdlaaGreat.fu
  rw[vq]
  cases hd:dk L n with
  |none=>rfl
  |some d=>show(_,_)=(_,_);rw[yt]
theorem vG.lm {eE:List aK} {t:List UInt8} (h:vG bits room L top base l) (aB:oH L t eE):vG bits room eE top base l:=⟨h.tojL.lm aB,by rw[(aB.aM base).2];exact h.uj,by rw[(aB.aM base).1,(aB.aM top).1];exact h.le,by rw[(aB.aM base).1];exact h.Kt,by rw[aB.fu];exact h.nK,h.ne⟩
theorem vG.step (h:vG bits room L top base l) (over:Bool):vG bits room (eS bits L top base l over).L top base (eS bits L top base l over).l:=by
 have hm:=h.tojL.step base over
 have aB: ∃t,oH L t (eS bits L top base l over).L:=by
  unfold eS
  split
  ·exact⟨top,.inl rfl⟩
  ·split
   ·exact⟨top,E5 h.cs _ _ _⟩
   ·exact⟨base,Kq h.cs top base _⟩
 obtain⟨t,aB⟩:=aB
 have aa:=h.lm aB
 exact⟨hm,aa.uj,aa.le,aa.Kt,aa.nK,aa.ne⟩
theorem vG.wr (h:vG bits room L top base l) (over:Bool) (a long:Int):vG bits room L top base (qR bits L top l over a long):=⟨h.tojL.wr over a long,h.uj,h.le,h.Kt,h.nK,h.ne⟩
end
section
variable {bits room:Nat} {L eE:List aK} {top base t:List UInt8} {l:List Nat}
end
def iq (bits:Nat) (L:List aK) (top:List UInt8) (o:gm):iW:=if dg (cV o)=1 then jh bits L top (cJ (cV o)) (dX (cV o)) else if dg (cV o)=2 then ji bits L top (cJ (cV o)) (dx (cV o)) else⟨1,L⟩
def nh (o:gm):Int:=if dg (cV o)=1 then(((dX (cV o)).length/16:Nat):Int) else dx (cV o)
def uk (bits:Nat) (L:List aK) (top:List UInt8) (l:List Nat) (over:Bool) (o:gm):List Nat:=if(iq bits L top o).e=0 then qR bits (iq bits L top o).L top l over (cJ (cV o)) (nh o) else l
section
variable {bits room:Nat} {L:List aK} {top base:List UInt8} {l:List Nat}
theorem QF (h:bX bits room L) (top:List UInt8) (o:gm):oH L top (iq bits L top o).L:=by
 unfold iq
 split
 ·exact PI h _ _ _
 ·split
  ·exact PJ h _ _ _
  ·exact .inl rfl
theorem QG (h:bX bits room L) {top:List UInt8} {o:gm} (ag:(dX (cV o)).length≤1000000) (he:(iq bits L top o).e=0):nh o≤1000000:=by
 unfold iq at he
 unfold nh
 by_cases aW:dg (cV o)=1
 ·rw[if_pos aW]
  omega
 ·rw[if_neg aW] at he⊢
  by_cases aX:dg (cV o)=2
  ·rw[if_pos aX] at he
   obtain⟨d,hd,_,aB,dz,_⟩:=PO he
   have dh:=rL dz
   have N7:=PG h hd
   have lT:=(h.hM d (cA hd).1).1.tl
   have hp:=k5 h.b3
   have mk:d.im.t.length*2 ^bits≤256*8:=Nat.mul_le_mul lT hp.2
   omega
  ·rw[if_neg aX] at he
   exact absurd he (show¬(1:Int)=0 by decide)
theorem Ku {o:gm} (aa:dg (cV o)≠1) (af:dg (cV o)≠2):iq bits L top o=⟨1,L⟩:=(if_neg aa).trans (if_neg af)
@[reducible] def Ft (bits room:Int) (L:List aK) (top base:List UInt8) (l:List Nat) (over:Bool) (o:gm):aG:=fM bits room L top base l over++[(7,.cells (Fh o))]
@[reducible] def Fu (top:List UInt8) (n e:Int):aQ:=[(0,aH 1001),(1,aH 2001),(2,bG top),(7,aH 7),(9,aC n),(10,aC e)]
set_option maxHeartbeats 1000000 in
theorem abW (h:jL bits room L top l) (base:List UInt8) (over:Bool) (o:gm) (ag:(dX (cV o)).length≤1000000):Fn Tryz.prog 39 [aH 1001,aH 2001,bG top,aaQ o] (fM bits room L top base l over) [] (iw (decide ((iq bits L top o).e=0))) (fM bits room (iq bits L top o).L top base (uk bits L top l over o) over):=by
 have hr:=fun he=>QG (top:=top) h.cs ag he
 have aA:=h.lm (QF h.cs top o)
 obtain⟨d',dO⟩:=Option.isSome_iff_exists.1 aA.jD
 have hw:=fun he=>abr aA.cs base l over (cJ (cV o)) (nh o) (by have:=hr he;omega) dO
 have aj:(iq bits L top o).e=0→uk bits L top l over o=qR bits (iq bits L top o).L top l over (cJ (cV o)) (nh o):=fun e=>if_pos e
 have ak: ¬(iq bits L top o).e=0→uk bits L top l over o=l:=fun e=>if_neg e
 have aW:dg (cV o)=1→iq bits L top o=jh bits L top (cJ (cV o)) (dX (cV o))∧nh o=(((dX (cV o)).length/16:Nat):Int):=fun e=>⟨if_pos e,if_pos e⟩
 have aX: ¬dg (cV o)=1→dg (cV o)=2→iq bits L top o=ji bits L top (cJ (cV o)) (dx (cV o))∧nh o=dx (cV o):=fun e e'=>⟨(if_neg e).trans (if_pos e'),if_neg e⟩
 have bT: ¬dg (cV o)=1→ ¬dg (cV o)=2→(iq bits L top o).e=1∧(iq bits L top o).L=L:=fun e e'=>by rw[Ku e e'];exact⟨rfl,rfl⟩
 have wU:=EN h.cs top (cJ (cV o)) (dX (cV o)) (by omega)
 have Fm:=Jm h.cs top (cJ (cV o)) (dx (cV o))
 clear hr aA dO
 generalize uk bits L top l over o=l' at*
 generalize iq bits L top o=r at*
 generalize nh o=wn at*
 generalize jh bits L top (cJ (cV o)) (dX (cV o))=r1 at*
 generalize ji bits L top (cJ (cV o)) (dx (cV o))=r2 at*
 have bp:(((dX (cV o)).length:Nat):Int)/16=(((dX (cV o)).length/16:Nat):Int):=by omega
 have Kv:(-9223372036854775808:Int)≤(((dX (cV o)).length:Nat):Int)/16∧(((dX (cV o)).length:Nat):Int)/16≤9223372036854775807:=by omega
 refine Fn.of ai [3,5,6,8,9,10] _ _ _ _ _ Tryz.func39 rfl rfl (by kernel_rfl) (by kernel_rfl) rfl (aJ ai) rfl ?_
 refine⟨rfl,?_⟩
 show av _ _ _ _ _ _ _
 refine av.go ai (aJ ai) [5,6,8,9,10] (by kernel_rfl) (ah.sub (K':=Fu top (dx (cV o)) 1) (B':=Ft bits room L top base l over o) ⟨rfl,rfl,rfl,rfl,rfl,rfl,trivial⟩ ⟨rfl,rfl,rfl,rfl,rfl,rfl,rfl,trivial⟩) ?_
 refine⟨fun d1=>?_,fun d1=>?_⟩
 ·have d1:dg (cV o)=1:=of_decide_eq_true d1
  obtain⟨rfl,rfl⟩:=aW d1
  show av _ _ _ _ _ _ _
  refine av.go ai (aJ ai) [6,9,10] (by kernel_rfl) (ah.refl _ _) ?_
  refine⟨⟨by omega,by omega⟩,Kv,?_⟩
  show av _ _ _ _ _ _ _
  refine av.go ai (aJ ai) [9,10] (by kernel_rfl) (ah.sub (K':=Fu top (((dX (cV o)).length/16:Nat):Int) 1) (B':=Ft bits room L top base l over o) ⟨rfl,rfl,rfl,rfl,bp,rfl,trivial⟩ ⟨rfl,rfl,rfl,rfl,rfl,rfl,rfl,trivial⟩) ?_
  refine⟨_,_,_,_,wU,⟨rfl,rfl,rfl,rfl,trivial⟩,rfl,?_⟩
  show av _ _ _ _ _ _ _
  refine av.go ai (aJ ai) [10] (by kernel_rfl) (ah.sub (K':=Fu top (((dX (cV o)).length/16:Nat):Int) r.e) (B':=Ft bits room r.L top base l over o) ⟨rfl,rfl,rfl,rfl,rfl,rfl,trivial⟩ ⟨rfl,rfl,rfl,rfl,rfl,rfl,rfl,trivial⟩) ?_
  refine⟨fun he=>?_,fun he=>?_⟩
  ·have he:r.e=0:=of_decide_eq_true he
   show av _ _ _ _ _ _ _
   refine av.go ai (aJ ai) [] (by kernel_rfl) (ah.refl _ _) ?_
   refine⟨_,_,_,_,hw he,⟨rfl,rfl,rfl,rfl,rfl,rfl,trivial⟩,rfl,?_⟩
   exact⟨_,_,_,ah.refl _ _,rfl,rfl,⟨rfl,rfl,rfl,rfl,rfl,congrArg (fun z=>some (bw.map bt bt (gY z))) (aj he).symm,trivial⟩,rfl⟩
  ·have he: ¬r.e=0:=of_decide_eq_false he
   exact⟨_,_,_,ah.refl _ _,rfl,rfl,⟨rfl,rfl,rfl,rfl,rfl,congrArg (fun z=>some (bw.map bt bt (gY z))) (ak he).symm,trivial⟩,rfl⟩
 have d1: ¬dg (cV o)=1:=of_decide_eq_false d1
 refine⟨fun d2=>?_,fun d2=>?_⟩
 ·have d2:dg (cV o)=2:=of_decide_eq_true d2
  obtain⟨rfl,rfl⟩:=aX d1 d2
  show av _ _ _ _ _ _ _
  refine av.go ai (aJ ai) [9,10] (by kernel_rfl) (ah.refl _ _) ?_
  refine⟨_,_,_,_,Fm,⟨rfl,rfl,rfl,rfl,trivial⟩,rfl,?_⟩
  show av _ _ _ _ _ _ _
  refine av.go ai (aJ ai) [10] (by kernel_rfl) (ah.sub (K':=Fu top (dx (cV o)) r.e) (B':=Ft bits room r.L top base l over o) ⟨rfl,rfl,rfl,rfl,rfl,rfl,trivial⟩ ⟨rfl,rfl,rfl,rfl,rfl,rfl,rfl,trivial⟩) ?_
  refine⟨fun he=>?_,fun he=>?_⟩
  ·have he:r.e=0:=of_decide_eq_true he
   show av _ _ _ _ _ _ _
   refine av.go ai (aJ ai) [] (by kernel_rfl) (ah.refl _ _) ?_
   refine⟨_,_,_,_,hw he,⟨rfl,rfl,rfl,rfl,rfl,rfl,trivial⟩,rfl,?_⟩
   exact⟨_,_,_,ah.refl _ _,rfl,rfl,⟨rfl,rfl,rfl,rfl,rfl,congrArg (fun z=>some (bw.map bt bt (gY z))) (aj he).symm,trivial⟩,rfl⟩
  ·have he: ¬r.e=0:=of_decide_eq_false he
   exact⟨_,_,_,ah.refl _ _,rfl,rfl,⟨rfl,rfl,rfl,rfl,rfl,congrArg (fun z=>some (bw.map bt bt (gY z))) (ak he).symm,trivial⟩,rfl⟩
 ·have d2: ¬dg (cV o)=2:=of_decide_eq_false d2
  obtain⟨g1,g2⟩:=bT d1 d2
  have bf:l'=l:=ak (by rw[g1];decide)
  clear aj ak aW aX bT hw wU Fm
  obtain⟨abX,abY⟩:=r
  have g1:abX=1:=g1
  have g2:abY=L:=g2
  subst g1 g2 bf
  show av _ _ _ _ _ _ _
  refine av.go ai (aJ ai) [10] (by kernel_rfl) (ah.refl _ _) ?_
  refine⟨fun h=>absurd h (by decide),fun _=>?_⟩
  exact⟨_,_,_,ah.refl _ _,rfl,rfl,⟨rfl,rfl,rfl,rfl,rfl,rfl,trivial⟩,rfl⟩
end
end Go.Proofs.YteoamepgonpdlaaGreat
namespace Go.Proofs.YteoamepgonpdlaaGreat
open Go.RowKit Go.Proofs
section
variable {n bits room:Nat} {L:List aK} {l:List bK}
theorem abZ (o:fy) (p:Nat×Nat):(wO bits room L o p).L=(kF bits room L o p).L∧((gh o=3→dg (cK o)≠0)→(wO bits room L o p).e=(kF bits room L o p).e):=by
 unfold wO kF qf yF
 by_cases cx:gh o=0
 ·rw[if_pos cx,if_pos cx];exact⟨rfl,fun _=>rfl⟩
 rw[if_neg cx,if_neg cx]
 by_cases aW:gh o=1
 ·rw[if_pos aW,if_pos aW];exact⟨rfl,fun _=>rfl⟩
 rw[if_neg aW,if_neg aW]
 by_cases aX:gh o=2
 ·rw[if_pos aX,if_pos aX];exact⟨rfl,fun _=>rfl⟩
 rw[if_neg aX,if_neg aX]
 by_cases bT:gh o=3
 ·rw[if_pos bT,if_pos bT]
  by_cases d0:dg (cK o)=0
  ·rw[if_pos d0,if_neg (by omega),if_neg (by omega),if_neg (by omega)]
   exact⟨rfl,fun w=>absurd d0 (w bT)⟩
  rw[if_neg d0]
  by_cases d1:dg (cK o)=1
  ·rw[if_pos d1,if_pos d1];exact⟨rfl,fun _=>rfl⟩
  rw[if_neg d1,if_neg d1]
  by_cases d2:dg (cK o)=2
  ·rw[if_pos d2,if_pos d2];exact⟨rfl,fun _=>rfl⟩
  rw[if_neg d2,if_neg d2]
  by_cases d3:dg (cK o)=3
  ·rw[if_pos d3,if_pos d3];exact⟨rfl,fun _=>rfl⟩
  ·rw[if_neg d3,if_neg d3];exact⟨rfl,fun _=>rfl⟩
 ·rw[if_neg bT,if_neg bT];exact⟨rfl,fun _=>rfl⟩
def um (l:List bK) (N:Nat):Prop:= ∀e,e∈l→(cS (bn e)).length≤N
theorem cZ.go (h:cZ n bits room L l) (bJ:bX bits room L) (o:fy) (p:Nat×Nat) (dB:bX bits room (kF bits room L o p).L) {N:Nat} (hd:um l N) (c4:N+256≤100000):
  ((gh o=3→dg (cK o)≠0)→(jv n bits room l o).e=(kF bits room L o p).e)∧cZ n bits room (kF bits room L o p).L (jv n bits room l o).l∧um (jv n bits room l o).l (N+256):=by
 obtain⟨cC,cR⟩:=abZ (bits:=bits) (room:=room) (L:=L) o p
 rw[←cC] at dB⊢
 obtain⟨g1,g2,bL,gH⟩:=h.step bJ o p dB fun e he=>by have:=hd e he;omega
 refine⟨fun w=>g2.trans (cR w),bL,fun e he=>?_⟩
 obtain⟨k,b9,ck⟩:=gH e he
 rcases ck with ck |⟨bx,ck,w3⟩
 ·omega
 ·have:=hd bx ck
  omega
end
end Go.Proofs.YteoamepgonpdlaaGreat
namespace Go.Proofs.YteoamepgonpdlaaGreat
open Go.RowKit Go.Proofs
structure lz (N:Nat) (l:List Nat) (b:List Bool):Prop where
 len:b.length=N
 iff: ∀k,k < N→(b.getD k false=true↔k∈l)
theorem ab0 (b:List Bool):(List.range b.length).map (fun k=>b.getD k false)=b:=by
 apply List.ext_getElem (by simp)
 intro i aa af
 rw[List.getElem_map,List.getElem_range,List.getD_eq_getElem?_getD,List.getElem?_eq_getElem af]
 rfl
theorem ab1 (b:List Bool):pn b=((List.range b.length).filter fun k=>b.getD k false).length:=by
 unfold pn
 have h:=congrArg (List.filter fun x=>x) (ab0 b)
 rw[List.filter_map] at h
 rw[←h,List.length_map]
 rfl
theorem lz.cnt {N:Nat} {l:List Nat} {b:List Bool} (h:lz N l b) (aB: ∀k,k∈l→k < N) (hn:l.Nodup):pn b=l.length:=by
 rw[ab1,h.len]
 apply List.Perm.length_eq
 rw[List.perm_ext_iff_of_nodup (List.nodup_range.filter _) hn]
 intro k
 rw[List.mem_filter,List.mem_range]
 constructor
 ·rintro⟨aa,af⟩
  exact(h.iff k aa).1 af
 ·intro aq
  exact⟨aB k aq,(h.iff k (aB k aq)).2 aq⟩
theorem lz.fst {N:Nat} {l:List Nat} {b:List Bool} (h:lz N l b) (aB: ∀k,k∈l→k < N):vD b=if l=[] then none else some (gN l):=by
 unfold vD
 rw[h.len]
 by_cases e:l=[]
 ·rw[if_pos e]
  refine List.find?_eq_none.2 fun k aq=>?_
  intro w
  have:=(h.iff k (List.mem_range.1 aq)).1 w
  rw[e] at this
  cases this
 ·rw[if_neg e]
  obtain⟨-,aa,af⟩:=Ki e
  refine List.find?_range_eq_some.2 ⟨(h.iff _ (aB _ aa)).2 aa,List.mem_range.2 (aB _ aa),fun j au=>?_⟩
  have ab2:j < N:=Nat.lt_trans au (aB _ aa)
  cases q:b.getD j false with
  |false=>rfl
  |true=>
   have:=af j ((h.iff j ab2).1 q)
   omega
theorem QH (b:List Bool) (k j:Nat) (x:Bool):(b.set k x).getD j false=if k=j∧k < b.length then x else b.getD j false:=by
 rw[List.getD_eq_getElem?_getD,List.getD_eq_getElem?_getD,List.getElem?_set]
 by_cases e:k=j
 ·subst e
  by_cases ak:k < b.length
  ·rw[if_pos rfl,if_pos ak,if_pos ⟨rfl,ak⟩]
   rfl
  ·rw[if_pos rfl,if_neg ak,if_neg (fun w=>ak w.2),List.getElem?_eq_none (by omega)]
 ·rw[if_neg e,if_neg (fun w=>e w.1)]
theorem lz.erase {N:Nat} {l:List Nat} {b:List Bool} (h:lz N l b) (hn:l.Nodup) (k:Nat):lz N (l.erase k) (b.set k false) where
 len:=by rw[List.length_set];exact h.len
 iff:=fun j au=>by
  rw[QH,hn.mem_erase_iff,←h.iff j au,h.len]
  by_cases e:k=j
  ·subst e
   rw[if_pos ⟨rfl,au⟩]
   constructor
   ·intro w;cases w
   ·intro w;exact absurd rfl w.1
  ·rw[if_neg (fun w=>e w.1)]
   exact⟨fun w=>⟨fun q=>e q.symm,w⟩,fun w=>w.2⟩
theorem QI (a long:Int) (n i:Nat) (x:List Bool) (k:Nat): ∀j,(pq a long n i x j).getD k false=true↔x.getD k false=true∨(k=i∧i < x.length∧ ∃q,q < j∧ua a long n i q)
 |0=>⟨.inl,fun h=>h.elim id fun w=>absurd w.2.2.choose_spec.1 (Nat.not_lt_zero _)⟩
 |j+1=>by
  have aZ:=QI a long n i x k j
  unfold pq
  split
  ·rename_i hp
   rw[QH,Cm]
   by_cases e:i=k∧i < x.length
   ·rw[if_pos e]
    exact⟨fun _=>.inr ⟨e.1.symm,e.2,j,Nat.lt_succ_self j,hp⟩,fun _=>rfl⟩
   ·rw[if_neg e,aZ]
    constructor
    ·rintro(w |⟨b9,ck,q,w3,e7⟩)
     ·exact .inl w
     ·exact .inr ⟨b9,ck,q,Nat.lt_succ_of_lt w3,e7⟩
    ·rintro(w |⟨b9,ck,_⟩)
     ·exact .inl w
     ·exact absurd ⟨b9.symm,ck⟩ e
  ·rename_i hp
   rw[aZ]
   constructor
   ·rintro(w |⟨b9,ck,q,w3,e7⟩)
    ·exact .inl w
    ·exact .inr ⟨b9,ck,q,Nat.lt_succ_of_lt w3,e7⟩
   ·rintro(w |⟨b9,ck,q,w3,e7⟩)
    ·exact .inl w
    ·rcases Nat.lt_succ_iff_lt_or_eq.1 w3 with w |w
     ·exact .inr ⟨b9,ck,q,w,e7⟩
     ·subst w
      exact absurd e7 hp
theorem QJ (a long:Int) (n:Nat) (b:List Bool) (k:Nat) (aq:k < b.length): ∀i,(oI a long n b i).getD k false=true↔b.getD k false=true∨(k < i∧ ∃q,q < n∧ua a long n k q)
 |0=>⟨.inl,fun h=>h.elim id fun w=>absurd w.1 (Nat.not_lt_zero _)⟩
 |i+1=>by
  unfold oI
  rw[QI,QJ a long n b k aq i,E8]
  constructor
  ·rintro((w |⟨b9,ck⟩) |⟨b9,ck,w3⟩)
   ·exact .inl w
   ·exact .inr ⟨Nat.lt_succ_of_lt b9,ck⟩
   ·subst b9
    exact .inr ⟨Nat.lt_succ_self k,w3⟩
  ·rintro(w |⟨b9,ck⟩)
   ·exact .inl (.inl w)
   ·rcases Nat.lt_succ_iff_lt_or_eq.1 b9 with w |w
    ·exact .inl (.inr ⟨w,ck⟩)
    ·subst w
     exact .inr ⟨rfl,aq,ck⟩
theorem ab3 {a long:Int} {n k:Nat} (hn:1≤n):(∃q,q < n∧ua a long n k q)↔0 < long∧a < ((k*n+n:Nat):Int)∧((k*n:Nat):Int) - long < a:=by
 unfold ua
 constructor
 ·rintro⟨q,aa,af,ay,bu⟩
  omega
 ·rintro⟨aa,af,ay⟩
  by_cases h:a≤((k*n:Nat):Int)
  ·exact⟨0,by omega,aa,by omega,by omega⟩
  ·refine⟨(a - ((k*n:Nat):Int)).toNat,by omega,aa,by omega,by omega⟩
theorem QK {bits:Nat} {l:List Nat} {a long:Int} {k:Nat}: ∀n,k∈nM bits n l a long↔k∈l∨(k < n∧a < ((k*2 ^bits+2 ^bits:Nat):Int)∧((k*2 ^bits:Nat):Int) - long < a)
 |0=>⟨.inl,fun h=>h.elim id fun w=>absurd w.1 (Nat.not_lt_zero _)⟩
 |n+1=>by
  have aZ:=QK (bits:=bits) (l:=l) (a:=a) (long:=long) (k:=k) n
  rw[Fk]
  split
  ·rename_i hc
   rw[Ql,aZ]
   constructor
   ·rintro((w |⟨b9,ck⟩) |w)
    ·exact .inl w
    ·exact .inr ⟨Nat.lt_succ_of_lt b9,ck⟩
    ·subst w
     exact .inr ⟨Nat.lt_succ_self k,hc⟩
   ·rintro(w |⟨b9,ck⟩)
    ·exact .inl (.inl w)
    ·rcases Nat.lt_succ_iff_lt_or_eq.1 b9 with w |w
     ·exact .inl (.inr ⟨w,ck⟩)
     ·exact .inr w
  ·rename_i hc
   rw[aZ]
   constructor
   ·rintro(w |⟨b9,ck⟩)
    ·exact .inl w
    ·exact .inr ⟨Nat.lt_succ_of_lt b9,ck⟩
   ·rintro(w |⟨b9,ck⟩)
    ·exact .inl w
    ·rcases Nat.lt_succ_iff_lt_or_eq.1 b9 with w |w
     ·exact .inr ⟨w,ck⟩
     ·subst w
      exact absurd ck hc
theorem lz.wr {bits:Nat} {L:List aK} {top:List UInt8} {l:List Nat} {b:List Bool} (h:lz (eo L top) l b) (a long:Int):lz (eo L top) (qR bits L top l false a long) (oI a long (2 ^bits) b b.length) where
 len:=by rw[E8];exact h.len
 iff:=fun k aq=>by
  rw[QJ a long (2 ^bits) b k (by rw[h.len];exact aq) b.length,h.iff k aq,ab3 (Nat.two_pow_pos bits),h.len]
  unfold qR
  by_cases hc:long < 1
  ·rw[if_pos (.inr hc)]
   exact⟨fun w=>w.elim id fun q=>absurd q.2.1 (by omega),.inl⟩
  ·rw[if_neg (fun w=>w.elim (fun q=>by cases q) hc),QK]
   exact⟨fun w=>w.elim .inl fun q=>.inr ⟨q.1,q.2.2⟩,fun w=>w.elim .inl fun q=>.inr ⟨q.1,by omega,q.2⟩⟩
def Fv (N:Nat) (l:List Nat) (b:List Bool):Bool→Prop
 |true=>l=[]∧b=[]
 |false=>lz N l b
theorem Fv.cnt {N:Nat} {l:List Nat} {b:List Bool} {o:Bool} (h:Fv N l b o) (aB: ∀k,k∈l→k < N) (hn:l.Nodup):pn b=l.length:=by
 cases o with
 |true=>
  obtain⟨aa,af⟩:=h
  rw[aa,af]
  rfl
 |false=>exact lz.cnt h aB hn
section
variable {n bits room:Nat} {L:List aK} {R:List bK} {top base:List UInt8} {l:List Nat} {b:List Bool}
theorem cZ.aM (h:cZ n bits room L R) {x:List UInt8} {d:aK} {e:bK} (hd:dk L x=some d) (he:cw R x=some e):eo L x=(aL (bn e)).length:=by
 unfold eo
 rw[hd]
 exact(h.rR x d e hd he).len.symm
theorem cZ.ab4 (h:cZ n bits room L R) (bJ:bX bits room L) (top:List UInt8):qP R top=ng L top:=by
 unfold qP ng fu
 rcases h.both top with⟨aj,ak⟩ |⟨d,e,aj,ak,bf,cF⟩
 ·rw[aj,ak]
  rfl
 ·rw[aj,ak]
  simp only
  rw[bf,h.us bJ]
  by_cases ag:d.back=[]
  ·rw[if_pos ag,if_pos (show(0:Int)≠0∨d.back=[] from .inr ag)]
  ·rw[if_neg ag,if_neg (show¬((0:Int)≠0∨d.back=[]) from fun w=>w.elim (fun q=>q rfl) ag)]
   by_cases hu:1 < (jE L d.back).length
   ·rw[if_pos hu,if_pos hu]
   ·rw[if_neg hu,if_neg hu]
    obtain⟨f,hf⟩:=bJ.jD d (cA aj).1 ag
    obtain⟨g,g1,g2,bL⟩:=h.get hf
    rw[g1,h.aM hf g1,h.aM aj ak]
theorem lz.AA (h:cZ n bits room L R) {d:aK} {e:bK} (hd:dk L top=some d) (he:cw R top=some e):lz (eo L top) (vE L top) (m9 e) where
 len:=by unfold m9;rw[List.length_map];exact(h.aM hd he).symm
 iff:=fun k aq=>by
  have gx:k < (aL (bn e)).length:=by rw[←h.aM hd he];exact aq
  have tI:k < d.im.t.length:=by rw[←(h.rR top d e hd he).len];exact gx
  have aa:(m9 e).getD k false= !decide (ez (bn e) k=0):=by
   unfold m9
   rw[List.getD_eq_getElem?_getD,List.getElem?_map,List.getElem?_eq_getElem gx,rO gx]
   rfl
  rw[aa,(h.rR top d e hd he).cL k tI]
  unfold vE
  rw[List.mem_filter,List.mem_range]
  unfold rS
  rw[hd]
  simp only
  rw[decide_eq_false (show¬d.im.t.length≤k by omega),Bool.false_or]
  exact⟨fun w=>⟨aq,w⟩,fun w=>w.2⟩
theorem cZ.ms (h:cZ n bits room L R) (aA:jL bits room L top l) (dy:lz (eo L top) l b) {e:bK} (bk:cw R top=some e) (base:List UInt8) {N:Nat} (cq:um R N) (c4:N+256≤100000) {r:Co}
  (hr:(match vD b with
   |some i=>lq n bits room R top base b (ez (bn e) i) i
   |none=>wR n bits room R top (aL (bn e)).length)=r):
  r.is=(eS bits L top base l false).done∧r.e=(eS bits L top base l false).e∧r.over=(eS bits L top base l false).over∧cZ n bits room (eS bits L top base l false).L r.l∧um r.l (N+256)∧
   Fv (eo L top) (eS bits L top base l false).l r.b (eS bits L top base l false).over:=by
 have bJ:=aA.cs
 have ab5:um R (N+256):=fun e he=>Nat.le_trans (cq e he) (Nat.le_add_right _ _)
 obtain⟨d,hd⟩:=Option.isSome_iff_exists.1 aA.jD
 have bC:=h.rR top d e hd bk
 have dH:=h.aM hd bk
 rw[dy.fst aA.lt] at hr
 by_cases aB:l=[]
 ·rw[if_pos aB] at hr
  have hr:wR n bits room R top (aL (bn e)).length=r:=hr
  subst hr
  have hs:eS bits L top base l false=⟨true,0,(mF L top 0 ((eo L top*2 ^bits:Nat):Int)).L,[],true⟩:=by unfold eS;rw[if_neg (fun w=>by cases w),if_pos aB]
  rw[hs]
  unfold wR
  have mR:kF bits room L (Cp n (aL (bn e)).length top) (0,0)=mF L top 0 ((eo L top*2 ^bits:Nat):Int):=by
   show mF L top 0 ((n:Int)*((aL (bn e)).length:Int))=_
   rw[dH,h.eO,Int.natCast_mul,Int.mul_comm]
  obtain⟨g1,g2,bL⟩:=h.go bJ (Cp n (aL (bn e)).length top) (0,0) (by rw[mR];exact EM bJ _ _ _) cq c4
  rw[mR] at g2
  exact⟨rfl,rfl,rfl,g2,bL,rfl,rfl⟩
 ·rw[if_neg aB] at hr
  have hr:lq n bits room R top base b (ez (bn e) (gN l)) (gN l)=r:=hr
  subst hr
  have hs:eS bits L top base l false=⟨false,(j5 bits L top base (gN l)).e,(j5 bits L top base (gN l)).L,if(j5 bits L top base (gN l)).e=0 then l.erase (gN l) else l,false⟩:=by unfold eS;rw[if_neg (fun w=>by cases w),if_neg aB]
  rw[hs]
  obtain⟨-,IE,-⟩:=Ki aB
  have ab6:=aA.lt _ IE
  generalize gN l=k at*
  have aq:k < d.im.t.length:=by rw[←bC.len,←dH];exact ab6
  have fL:=bC.cL k aq
  have nv:=bC.im.slot k _ (List.getElem?_eq_getElem aq)
  have zL:d.im.t.getD k s0=d.im.t[k]:=by rw[List.getD_eq_getElem?_getD,List.getElem?_eq_getElem aq];rfl
  rw[zL] at fL
  have B1:sV L top k=d.im.t[k].1:=by unfold sV;rw[hd,←zL]
  have cP:o9 bits L top (k:Int)=lf n R top k:=by
   unfold o9
   rw[hd]
   simp only
   rw[if_pos ⟨by omega,by omega⟩,h.jF bJ ⟨d,hd⟩ k,Int.toNat_natCast]
  have ha:(k:Int)*(n:Nat)=((k*2 ^bits:Nat):Int):=by rw[h.eO,Int.natCast_mul]
  have hn:((n:Nat):Int)=((2 ^bits:Nat):Int):=by rw[h.eO]
  have key: ∀cL:Int,(cL=1∨cL=2)→kF bits room L (lp n R top base k cL) (0,0)=if cL=1 then jh bits L base ((k*2 ^bits:Nat):Int) (o9 bits L top (k:Int)) else ji bits L base ((k*2 ^bits:Nat):Int) ((2 ^bits:Nat):Int):=fun cL fO=>by
   rcases fO with rfl |rfl
   ·rw[if_pos rfl]
    show jh bits L base ((k:Int)*(n:Nat)) (lf n R top k)=_
    rw[ha,cP]
   ·rw[if_neg (by decide)]
    show ji bits L base ((k:Int)*(n:Nat)) (n:Nat)=_
    rw[ha,hn]
  show _∧_
  clear hs
  unfold j5
  rw[fL,B1]
  have two: ∀cL:Int,(cL=1∨cL=2)→ ∀r:iW,r=kF bits room L (lp n R top base k cL) (0,0)→
    (lq n bits room R top base b cL k).is=false∧(lq n bits room R top base b cL k).e=r.e∧(lq n bits room R top base b cL k).over=false∧cZ n bits room r.L (lq n bits room R top base b cL k).l∧um (lq n bits room R top base b cL k).l (N+256)∧lz (eo L top) (if r.e=0 then l.erase k else l) (lq n bits room R top base b cL k).b:=fun cL fO r hr=>by
   have nZ:bX bits room (kF bits room L (lp n R top base k cL) (0,0)).L:=Qb bJ (by show(3:Int)≠0;decide) _
   obtain⟨g1,g2,bL⟩:=h.go bJ (lp n R top base k cL) (0,0) nZ cq c4
   have g1:=g1 fun _ w=>by
    have w:(if cL=2 then(2:Int) else 1)=0:=w
    split at w <;>cases w
   rw[←hr] at g1 g2
   unfold lq
   rw[if_neg (show¬cL=0 by omega)]
   by_cases he:r.e=0
   ·rw[if_pos (g1.trans he),if_pos he]
    exact⟨rfl,he.symm,rfl,g2,bL,dy.erase aA.lQ k⟩
   ·rw[if_neg (fun w=>he (g1.symm.trans w)),if_neg he]
    exact⟨rfl,g1,rfl,g2,bL,dy⟩
  rcases nv with aj |aj |⟨x,aj,-⟩
  ·have aj:d.im.t[k].1=0:=by rw[aj]
   rw[aj,if_neg (by decide),if_neg (by decide)]
   unfold lq
   rw[if_pos rfl]
   exact⟨rfl,rfl,rfl,h,ab5,dy.erase aA.lQ k⟩
  ·have aj:d.im.t[k].1=2:=by rw[aj]
   rw[aj,if_neg (by decide),if_pos rfl]
   exact two 2 (.inr rfl) _ (by rw[key 2 (.inr rfl),if_neg (by decide)])
  ·have aj:d.im.t[k].1=1:=by rw[aj]
   rw[aj,if_pos rfl]
   exact two 1 (.inl rfl) _ (by rw[key 1 (.inl rfl),if_pos rfl])
end
end Go.Proofs.YteoamepgonpdlaaGreat
namespace Go.Proofs.YteoamepgonpdlaaGreat
open Go.RowKit
def CG:List Nat→List Nat→List Nat
 | [],r=>r
 |x::l,r=>match r.contains x with
  |true=>CG l r
  |false=>CG l (x::r)
theorem Kw {a:Nat}: ∀{l r:List Nat},a∈CG l r→a∈l∨a∈r
 | [],r,h=>.inr h
 |x::l,r,h=>by
  unfold CG at h
  split at h
  ·rcases Kw h with h |h
   ·exact .inl (List.mem_cons_of_mem _ h)
   ·exact .inr h
  ·rcases Kw h with h |h
   ·exact .inl (List.mem_cons_of_mem _ h)
   ·rcases List.mem_cons.1 h with rfl |h
    ·exact .inl (List.mem_cons_self ..)
    ·exact .inr h
def Ky (acc:List (List Nat)):List Nat→List Nat
 | []=>[]
 |d::l=>CG (d::acc.getD d []) (Ky acc l)
theorem QL {acc:List (List Nat)} {a:Nat}: ∀{l:List Nat},a∈Ky acc l→a∈l∨ ∃d∈l,a∈acc.getD d []
 | [],h=>by cases h
 |d::l,h=>by
  rcases Kw h with h |h
  ·rcases List.mem_cons.1 h with rfl |h
   ·exact .inl (List.mem_cons_self ..)
   ·exact .inr ⟨d,List.mem_cons_self ..,h⟩
  ·rcases QL h with h |⟨e,he,h⟩
   ·exact .inl (List.mem_cons_of_mem _ h)
   ·exact .inr ⟨e,List.mem_cons_of_mem _ he,h⟩
def Fw:List Oper→List (List Nat)→List (List Nat)
 | [],acc=>acc
 |o::l,acc=>Fw l (acc++[Ky acc (qm o)])
theorem QM: ∀(l:List Oper) (acc CH:List (List Nat)),acc.length=CH.length→(∀j a,a∈acc.getD j []→a∈CH.getD j [])→ ∀j a,a∈(Fw l acc).getD j []→a∈(yU l CH).getD j []
 | [],acc,CH,_,h=>h
 |o::l,acc,CH,aB,h=>by
  unfold Fw yU
  refine QM l _ _ (by simp[aB]) ?_
  intro j a ha
  rw[List.getD_eq_getElem?_getD] at ha⊢
  rcases Nat.lt_trichotomy j acc.length with bF |heq |uC
  ·rw[List.getElem?_append_left bF,←List.getD_eq_getElem?_getD] at ha
   rw[List.getElem?_append_left (aB▸bF),←List.getD_eq_getElem?_getD]
   exact h j a ha
  ·subst heq
   rw[List.getElem?_append_right (Nat.le_refl _)] at ha
   rw[List.getElem?_append_right (Nat.le_of_eq aB.symm)]
   simp only[Nat.sub_self,List.getElem?_cons_zero,Option.getD_some] at ha
   simp only[aB,Nat.sub_self,List.getElem?_cons_zero,Option.getD_some,List.mem_append,List.mem_flatMap]
   rcases QL ha with ha |⟨d,hd,ha⟩
   ·exact .inl ha
   ·exact .inr ⟨d,hd,h d a ha⟩
  ·rw[List.getElem?_eq_none (by simp;omega)] at ha
   simp at ha
theorem QN {all:List Oper} {an QO:List (List Nat)} (h: ∀j a,a∈an.getD j []→a∈QO.getD j []): ∀l:List (Oper×kK×Nat),uz all an l=true→uz all QO l=true
 | [],_=>rfl
 |(o,n,i)::l,hp=>by
  simp only[uz,Bool.and_eq_true] at hp⊢
  refine⟨List.all_eq_true.2 fun x hx=>?_,QN h l hp.2⟩
  have:=List.all_eq_true.1 hp.1 x hx
  obtain⟨p,m,j⟩:=x
  simp only[Bool.or_eq_true,Bool.and_eq_true,List.contains_iff_mem] at this⊢
  exact this.imp (fun g=>⟨h _ _ g.1,g.2⟩) id
def QS (K:aQ) (B:aG) (ops:List Oper) (log:List kK):Bool:=
 let es:=log.reverse
 (ops.zipIdx.all fun(o,i)=>(qm o).all fun d=>Nat.blt d i)&&(es.all fun n=>n.e.bA.all fun c=>uv c K&&nk c B)&&uz ops (Fw ops []) ((ops.zip es).zipIdx.map fun((o,n),i)=>(o,n,i))
theorem ab7 {K:aQ} {B:aG} {ops:List Oper} {log:List kK} (h:QS K B ops log=true):indep K B ops log=true:=by
 simp only[QS,Bool.and_eq_true] at h
 simp only[indep,Bool.and_eq_true]
 exact⟨h.1,QN (QM ops [] [] rfl fun _ _ h=>h) _ h.2⟩
end Go.Proofs.YteoamepgonpdlaaGreat
