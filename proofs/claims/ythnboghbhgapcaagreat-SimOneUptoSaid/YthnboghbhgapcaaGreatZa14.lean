/-
A part of the proof of this claim: lemmas, with no condition beyond what each says.
-/
import Derived.Test.YthnboghbhgapcaaGreatZa13
set_option linter.unusedVariables false
set_option linter.unusedSimpArgs false
set_option maxRecDepth 10000
namespace Go.Proofs.YthnboghbhgapcaaGreat
open Go.RowKit Go.Proofs
section
abbrev Lr (top base:List UInt8) (over:Bool):List bC:=[.ptr 1001 0,.d (.str top),.d (.str base),.mp 2002,.d (.bool over)]
abbrev iO (z U:Int) (L:List aO) (top base:List UInt8) (l:List Nat) (over:Bool):ay:=bP z U L++[(2001,.cells (Lr top base over)),(2002,.map ak ak (fY l))]
def pI (L:List aO) (top:List UInt8):Int:=if(fw L top).2≠0\/(fw L top).1=[] then 140 else if 1 < (oW L (fw L top).1).length then 143 else if c4 L (fw L top).1 < c4 L top then 1 else 0
def wk (L:List aO) (top:List UInt8):List Nat:=(List.range (c4 L top)).filter fun k=> !jf L top k
def n1 (z n:Nat) (l:List Nat) (a a2:Int):List Nat:=(List.range n).foldl (fun l k=>if a < ((k*2 ^z+2 ^z:Nat):Int)/\((k*2 ^z:Nat):Int) - a2 < a then ni l k else l) l
def xZ (L:List aO) (n:List UInt8) (k:Nat):Int:=match dk L n with
 |none=>0
 |some d=>(d.im.t.getD k cD).1
def n2 (z:Nat) (L:List aO) (top base:List UInt8) (k:Nat):pH:=if xZ L top k=1 then hG z L base ((k*2 ^z:Nat):Int) (hH z L top (k:Int)) else if xZ L top k=2 then ma z L base ((k*2 ^z:Nat):Int) ((2 ^z:Nat):Int) else⟨0,L⟩
structure agq where
 done:Bool
 e:Int
 L:List aO
 l:List Nat
 over:Bool
def fU (z:Nat) (L:List aO) (top base:List UInt8) (l:List Nat) (over:Bool):agq:=if over=true then⟨false,150,L,l,true⟩ else if l=[] then⟨true,0,(mN L top 0 ((c4 L top*2 ^z:Nat):Int)).L,[],true⟩ else
 ⟨false,(n2 z L top base (eQ l)).e,(n2 z L top base (eQ l)).L,if(n2 z L top base (eQ l)).e=0 then l.erase (eQ l) else l,false⟩
section
variable {z U:Nat} {L:List aO} {top base:List UInt8}
theorem agr (z U:Int) (L:List aO) (top base:List UInt8) (l:List Nat) (over:Bool):Fn Tryz.prog 284 [ao 2001] (iO z U L top base l over) [] (fI over) (iO z U L top base l over):=by
 refine aW [] Tryz.func284 rfl rfl rfl rfl ?_;exact aT aH rfl rfl ac rfl
theorem SR (z U:Int) (L:List aO) (top base:List UInt8) (l:List Nat) (over:Bool):Fn Tryz.prog 286 [ao 2001] (iO z U L top base l over) [] gI (iO z U L top base [] true):=by
 refine aW [] Tryz.func286 rfl rfl rfl rfl ?_;refine⟨_,_,fun N=>SM rfl Tryz.underlying159 rfl rfl N,rfl,?_⟩;exact⟨_,_,_,af.sw 2001 (l':=Lr top base true) rfl ac,rfl,trivial,ac,rfl⟩
theorem ags (z U:Int) (L:List aO) (top base:List UInt8) (l:List Nat) (over:Bool):Fn Tryz.prog 283 [ao 2001] (iO z U L top base l over) [] gI (iO z U L top base [] true):=by
 refine aW [] Tryz.func283 rfl rfl rfl rfl ?_;refine au (SR z U L top base l over) ?_;exact aT aH rfl trivial ac rfl
theorem SS (V:pI L top=0):(fw L top).2=0/\(fw L top).1≠[]/\(oW L (fw L top).1).length<=1/\c4 L top<=c4 L (fw L top).1:=by
 unfold pI at V
 split at V
 .exact absurd V au6
 .rename_i E
  split at V
  .exact absurd V au6
  .rename_i G
   split at V
   .exact absurd V au6
   .rename_i al;refine⟨Decidable.byContradiction fun e=>E (.inl e),fun e=>E (.inr e),au5,au5⟩
theorem Ls (h:cE z U L) (E:(fw L top).2=0): ∃d,dk L top=some d/\(fw L top).1=d.back/\(d.back≠[]-> ∃e,dk L d.back=some e):=by
 unfold fw at E⊢
 cases J:dk L top with
 |none=>rw[J] at E;exact absurd E au6
 |some d=>exact⟨d,rfl,rfl,h.il d (c1 J).1⟩
theorem agt (h:cE z U L) (top:List UInt8) (V:pI L top≠0):Fn Tryz.prog 56 [ao 1001,bV top] (bP z U L) [] (.ce [mF,dw (pI L top)]) (bP z U L):=by
 have k3:=Ga h top;have ua:=SB h (fw L top).1;have bu:=fun E=>Ls (top:=top) h E
 have m7:(fw L top).2≠0\/(fw L top).1=[]->pI L top=140:=fun e=>if_pos e
 have ul: ¬((fw L top).2≠0\/(fw L top).1=[])->1 < (oW L (fw L top).1).length->pI L top=143:=fun aj ap=>(if_neg aj).trans (if_pos ap)
 have ST: ¬((fw L top).2≠0\/(fw L top).1=[])-> ¬1 < (oW L (fw L top).1).length->c4 L (fw L top).1 < c4 L top->pI L top=1:=fun aj ap bm=>(if_neg aj).trans ((if_neg ap).trans (if_pos bm))
 have Ce: ¬((fw L top).2≠0\/(fw L top).1=[])-> ¬1 < (oW L (fw L top).1).length-> ¬c4 L (fw L top).1 < c4 L top->pI L top=0:=fun aj ap bm=>(if_neg aj).trans ((if_neg ap).trans (if_neg bm))
 generalize pI L top=ao4 at*;generalize fw L top=fZ at*;obtain⟨hu,be⟩:=fZ;have k3:Fn Tryz.prog 16 [ao 1001,bV top] (bP z U L) [] (.ce [.one (.d (.str hu)),dw be]) (bP z U L):=k3;generalize oW L hu=us at*;refine aW [4,6] Tryz.func56 rfl rfl rfl rfl ?_;refine au k3 ?_;refine⟨fun E=>?_,fun E=>?_⟩
 .have E:(!decide (be=0))=true:=E;have E: ¬be=0:=by simpa using E
  exact aT aH rfl ⟨rfl,(m7 (.inl E)).symm,trivial⟩ ac rfl
 have E:(!decide (be=0))=false:=E;have E:be=0:=by simpa using E
 refine⟨fun G=>?_,fun G=>?_⟩
 .have G:hu=[]:=gd G;exact aT aH rfl ⟨rfl,(m7 (.inr G)).symm,trivial⟩ ac rfl
 have G: ¬hu=[]:=mu G;have hn: ¬(be≠0\/hu=[]):=fun e=>e.elim (fun e=>e E) G
 refine bz [6] (aH) ?_;refine au ua ?_;refine⟨fun al=>?_,fun al=>?_⟩
 .have al:decide ((1:Int) < ((us.length:Nat):Int))=true:=al;have al:1 < us.length:=by have:=gd al;omega
  exact aT aH rfl ⟨rfl,(ul hn al).symm,trivial⟩ ac rfl
 have al:decide ((1:Int) < ((us.length:Nat):Int))=false:=al;have al: ¬1 < us.length:=by have:=mu al;omega
 obtain⟨d,J,O,iN⟩:=bu E;have O:hu=d.back:=O;obtain⟨e,qq⟩:=iN (by rw[<-O];exact G);rw[<-O] at qq;have lG:=h.tohU.M (c1 J).1;have Lt:=h.tohU.M (c1 qq).1;have iD:c4 L top=d.im.t.length:=by unfold c4;rw[J]
 have f':c4 L hu=e.im.t.length:=by unfold c4;rw[qq]
 rw[iD,f'] at ST Ce;refine bz [] (cG [(0,ao 1001),(1,bV top),(6,bV hu)] (bP z U L)) ?_;refine au (jx _ _ L h.tohU hu e qq) ?_;refine au (hV (na e.im) Lt rfl rfl rfl rfl) ?_;refine au (jx _ _ L h.tohU top d J) ?_;refine au (hV (na d.im) lG rfl rfl rfl rfl) ?_;refine⟨fun aZ=>?_,fun aZ=>?_⟩
 .have aZ:decide (((e.im.t.length:Nat):Int) < ((d.im.t.length:Nat):Int))=true:=aZ;have aZ:e.im.t.length < d.im.t.length:=by have:=gd aZ;omega
  exact aT aH rfl ⟨rfl,(ST hn al aZ).symm,trivial⟩ ac rfl
 .exfalso;have aZ:decide (((e.im.t.length:Nat):Int) < ((d.im.t.length:Nat):Int))=false:=aZ;have aZ: ¬e.im.t.length < d.im.t.length:=by have:=mu aZ;omega
  exact V (Ce hn al aZ)
abbrev agu (top hu:List UInt8) (n k:Nat):a1:=[(0,ao 1001),(1,bV top),(6,bV hu),(8,ao 44),(48,ae (n:Nat)),(49,ae (k:Nat))]
abbrev Lu (z U:Int) (L:List aO) (top base:List UInt8) (l:List Nat):ay:=bP z U L++[(44,.cells [.ptr 1001 0,.d (.str top),.d (.str base),.mp 42,.d (.bool false)]),(42,.map ak ak (fY l))]
theorem SU (p:Nat->Bool) (k:Nat):(List.range (k+1)).filter p=(List.range k).filter p++if p k=true then[k] else[]:=by
 rw[List.range_succ,List.filter_append]
 cases h:p k with
 |true=>rw[if_pos rfl,List.filter_cons_of_pos h];rfl
 |false=>rw[if_neg au6,List.filter_cons_of_neg (by rw[h];decide)];rfl
theorem agv (p:Nat->Bool) (k:Nat) (h:p k=true):ni ((List.range k).filter p) k=(List.range (k+1)).filter p:=by
 rw[SU,if_pos h];unfold ni;rw[if_neg (fun e=>by have:=List.mem_range.1 (at5.1 e).1;omega)]
set_option maxHeartbeats 1000000 in
theorem agw (h:cE z U L) (top:List UInt8) (V:pI L top=0):Fn Tryz.prog 56 [ao 1001,bV top] (bP z U L) [2001,2002] (.ce [.one (.ptr 2001 0),dw 0]) (iO z U L top (fw L top).1 (wk L top) false):=by
 obtain⟨aj,ap,bm,c0⟩:=SS V;obtain⟨d,J,O,iN⟩:=Ls h aj;obtain⟨e,qq⟩:=iN (by rw[<-O];exact ap);rw[<-O] at qq;have lG:=h.tohU.M (c1 J).1;have Lt:=h.tohU.M (c1 qq).1;have nc:=(h.hh d (c1 J).1).1.eW;have iD:c4 L top=d.im.t.length:=by unfold c4;rw[J]
 have f':c4 L (fw L top).1=e.im.t.length:=by unfold c4;rw[qq]
 have Gg:wk L top=(List.range d.im.t.length).filter fun k=> !jf L top k:=by unfold wk;rw[iD]
 have agx: ∀k,k < d.im.t.length->jf L top k=decide ((d.im.t.getD k cD).1=0):=fun k ab=>by
  unfold jf;rw[J];show(decide (d.im.t.length<=k)||_)=_;rw[ar8 au5];rfl
 rw[iD,f'] at c0;rw[Gg];have k3:=Ga h top;have ua:=SB h (fw L top).1;have agy:=agv (fun k=> !jf L top k);have agz:=fun k (ab:jf L top k=true)=>SU (fun k=> !jf L top k) k
 generalize fw L top=fZ at*;obtain⟨hu,be⟩:=fZ;have aj:be=0:=aj;have ap: ¬hu=[]:=ap;have bm:(oW L hu).length<=1:=bm;subst aj;have k3:Fn Tryz.prog 16 [ao 1001,bV top] (bP z U L) [] (.ce [.one (.d (.str hu)),dw 0]) (bP z U L):=k3;have ua:Fn Tryz.prog 95 [ao 1001,bV hu] (bP z U L) [] (bS .str (oW L hu)) (bP z U L):=ua;generalize oW L hu=us at*;refine aW [4,6,8,9] Tryz.func56 rfl rfl rfl rfl ?_;refine au k3 ?_;refine da ?_;refine⟨fun G=>absurd (gd G) ap,fun _=>?_⟩;refine bz [6,8,9] (cG [(0,ao 1001),(1,bV top),(6,bV hu)] (bP z U L)) ?_;refine au ua ?_;refine⟨fun al=>?_,fun _=>?_⟩
 .exfalso;have al:decide ((1:Int) < ((us.length:Nat):Int))=true:=al;have:=gd al;omega
 refine bz [8,9] (cG [(0,ao 1001),(1,bV top),(6,bV hu)] (bP z U L)) ?_;refine au (jx _ _ L h.tohU hu e qq) ?_;refine au (hV (na e.im) Lt rfl rfl rfl rfl) ?_;refine au (jx _ _ L h.tohU top d J) ?_;refine au (hV (na d.im) lG rfl rfl rfl rfl) ?_;refine⟨fun aZ=>?_,fun _=>?_⟩
 .exfalso;have aZ:decide (((e.im.t.length:Nat):Int) < ((d.im.t.length:Nat):Int))=true:=aZ;have:=gd aZ;omega
 refine bz [9] (cG [(0,ao 1001),(1,bV top),(6,bV hu)] (bP z U L)) ?_;refine⟨rfl,rfl,bz [] (af.trans (af.sw 44 (l':=[.ptr 1001 0,.d (.str top),.d (.str hu),.mp 42,.d (.bool false)]) rfl ac) (cG [(0,ao 1001),(1,bV top),(6,bV hu),(8,ao 44)] (Lu z U L top hu []))) ?_⟩;refine au (jx _ _ L h.tohU top d J) ?_;refine au (hV (na d.im) lG rfl rfl rfl rfl) ?_;refine dX [12,13] (X:=Nat) (fun k=>agu top hu d.im.t.length k) (fun k=>Lu z U L top hu ((List.range k).filter fun k=> !jf L top k)) (fun k=>k<=d.im.t.length) (fun k=>d.im.t.length - k) 0 (ap7 _) ?_ ?_
 .exact af.sub ac ac
 intro k ab;have ab:k<=d.im.t.length:=ab;refine⟨fun H=>?_,fun H=>?_⟩
 .have H:decide ((k:Int) < ((d.im.t.length:Nat):Int))=true:=H;have hg:k < d.im.t.length:=by have:=gd H;omega
  have bl:=agx k hg;refine bz [13] (aH) ?_;refine au (jx _ _ L h.tohU top d J) ?_;refine au (hV (zM d.im nc k hg) lG rfl rfl rfl rfl) ?_;refine⟨fun bK=>?_,fun bK=>?_⟩
  .have bK:(!decide ((d.im.t.getD k cD).1=0))=true:=bK;have rr:=agy k (by show(!jf L top k)=true;rw[bl];exact bK);refine bz [] (cG [(0,ao 1001),(1,bV top),(6,bV hu),(8,ao 44),(48,ae (d.im.t.length:Nat)),(49,ae (k:Nat)),(9,ae (k:Nat))] (Lu z U L top hu ((List.range k).filter fun k=> !jf L top k))) ?_;refine⟨trivial,?_⟩;exact⟨au5,k+1,hg,au5,af.sub ac ⟨rfl,rfl,rfl,rfl,rfl,congrArg (fun aB=>some (bd.map ak ak aB)) ((CQ k _).trans (congrArg fY rr)),trivial⟩⟩
  .have bK:(!decide ((d.im.t.getD k cD).1=0))=false:=bK;have Gh:jf L top k=true:=by rw[bl];simpa using bK
   have ax:=agz k Gh;rw[if_neg (by rw[Gh];decide),as5] at ax;exact⟨au5,k+1,hg,au5,af.sub ac ⟨rfl,rfl,rfl,rfl,rfl,congrArg (fun aB=>some (bd.map ak ak (fY aB))) ax.symm,trivial⟩⟩
 .have H:decide ((k:Int) < ((d.im.t.length:Nat):Int))=false:=H;have hg:k=d.im.t.length:=by have:=mu H;omega
  subst hg;exact⟨_,_,_,af.trans (af.aX 44 2001 rfl) (af.aX 42 2002 rfl),rfl,ac,ac,rfl⟩
end
section
variable {z U:Nat} {L:List aO} {top base:List UInt8}
theorem Lv (z n:Nat) (l:List Nat) (a a2:Int):n1 z (n+1) l a a2=if a < ((n*2 ^z+2 ^z:Nat):Int)/\((n*2 ^z:Nat):Int) - a2 < a then ni (n1 z n l a a2) n else n1 z n l a a2:=by
 unfold n1;rw[List.range_succ,at9];rfl
def sx (z:Nat) (L:List aO) (top:List UInt8) (l:List Nat) (over:Bool) (a a2:Int):List Nat:=if over=true\/a2 < 1 then l else n1 z (c4 L top) l a a2
abbrev agA (am:Nat) (a a2:Int) (n k:Nat):a1:=[(0,ao 2001),(1,ae a),(2,ae a2),(6,dn am),(31,ae (n:Nat)),(32,ae (k:Nat))]
set_option maxHeartbeats 1000000 in
theorem agB (h:cE z U L) (base:List UInt8) (l:List Nat) (over:Bool) (a a2:Int) (uN:a2<=9223372036854775807) {d:aO} (J:dk L top=some d):Fn Tryz.prog 84 [ao 2001,ae a,ae a2] (iO z U L top base l over) [] gI (iO z U L top base (sx z L top l over a a2) over):=by
 have nc:=(h.hh d (c1 J).1).1.eW;have fv:=h.tohU.M (c1 J).1;have lr:d.im.z=z:=(h.hh d (c1 J).1).2.1;have ag:=ko h.b3;have x0:=h.b3;have cQ:c4 L top=d.im.t.length:=by unfold c4;rw[J]
 cases over with
 |true=>
  have e:sx z L top l true a a2=l:=if_pos (.inl rfl);rw[e];refine aW [] Tryz.func84 rfl rfl rfl rfl ?_;refine au (jx _ _ L h.tohU top d J) ?_;refine⟨rfl,eO ?_⟩;exact aT aH rfl trivial ac rfl
 |false=>
  have aj:a2 < 1->sx z L top l false a a2=l:=fun e=>if_pos (.inr e)
  have ap: ¬a2 < 1->sx z L top l false a a2=n1 z d.im.t.length l a a2:=fun e=>(if_neg (fun c=>c.elim (fun c=>by cases c) e)).trans (by rw[cQ])
  have av:=fun k=>Lv z k l a a2
  have ao5:n1 z 0 l a a2=l:=rfl;generalize sx z L top l false a a2=jQ at*
  have o0: ∀k:Nat,(k:Int)*((2 ^((d.im.z:Nat):Int).toNat:Nat):Int)=((k*2 ^z:Nat):Int):=fun k=>by
   rw[lr];show(k:Int)*((2 ^z:Nat):Int)=_;rw[Int.natCast_mul]
  have ru:(1:Int)*((2 ^((d.im.z:Nat):Int).toNat:Nat):Int)=((2 ^z:Nat):Int):=by
   have:=o0 1;rw[Nat.one_mul] at this;exact this
  refine aW [2] Tryz.func84 rfl rfl rfl rfl ?_;refine au (jx _ _ L h.tohU top d J) ?_;refine⟨rfl,da ?_⟩;refine⟨fun _ _=>?_,fun h=>by cases h⟩;refine⟨fun aq=>?_,fun aq=>?_⟩
  .have aq:a2 < 1:=gd aq;exact aT aH rfl trivial ⟨rfl,rfl,rfl,rfl,rfl,congrArg (fun aB=>some (bd.map ak ak (fY aB))) (aj aq).symm,trivial⟩ rfl
  have aq: ¬a2 < 1:=mu aq;have ap:=ap aq;refine bz [] (cG [(0,ao 2001),(1,ae a),(2,ae a2),(6,dn d.am)] (iO z U L top base l false)) ?_;refine au (hV (na d.im) fv rfl rfl rfl rfl) ?_;refine dX [6,7] (X:=Nat) (fun k=>agA d.am a a2 d.im.t.length k) (fun k=>iO z U L top base (n1 z k l a a2) false) (fun k=>k<=d.im.t.length) (fun k=>d.im.t.length - k) 0 (ap7 _) ?_ ?_
  .exact af.sub ac ac
  intro k ab;have ab:k<=d.im.t.length:=ab;refine⟨fun H=>?_,fun H=>?_⟩
  .have H:decide ((k:Int) < ((d.im.t.length:Nat):Int))=true:=H;have hg:k < d.im.t.length:=by have:=gd H;omega
   have SV:=o0 k;have SW:=av k;have mk:k*2 ^z<=256*8:=Nat.mul_le_mul au5 ag.2;have m1:(0:Int)<=(k:Int)/\(0:Int)<=((d.im.z:Nat):Int)/\((d.im.z:Nat):Int)<=64:=by omega
   have m2:cY ((k:Int)*((2 ^((d.im.z:Nat):Int).toNat:Nat):Int)):=by rw[SV];omega
   have cH:(0:Int)<=(1:Int)/\(0:Int)<=((d.im.z:Nat):Int)/\((d.im.z:Nat):Int)<=64:=by omega
   have dF:cY ((1:Int)*((2 ^((d.im.z:Nat):Int).toNat:Nat):Int)):=by rw[ru];omega
   have la:cY (((k*2 ^z:Nat):Int)+(1:Int)*((2 ^((d.im.z:Nat):Int).toNat:Nat):Int)):=by rw[ru];omega
   have sl:cY (((k*2 ^z:Nat):Int) - a2):=by omega
   have SX:((k*2 ^z:Nat):Int)+(1:Int)*((2 ^((d.im.z:Nat):Int).toNat:Nat):Int)=((k*2 ^z+2 ^z:Nat):Int):=by rw[ru];omega
   refine au (hV (wj d.im) fv rfl rfl rfl rfl) ?_;refine⟨m1,m2,bz [7] (af.sub (K':=[(0,ao 2001),(1,ae a),(2,ae a2),(6,dn d.am),(31,ae (d.im.t.length:Nat)),(32,ae (k:Nat)),(7,ae (k:Nat)),(8,ae ((k*2 ^z:Nat):Int))]) (B':=iO z U L top base (n1 z k l a a2) false) ⟨rfl,rfl,rfl,rfl,rfl,rfl,rfl,SV,trivial⟩ ac) ?_⟩;refine au (hV (wj d.im) fv rfl rfl rfl rfl) ?_;refine⟨cH,dF,la,?_⟩;have Ab:(¬(a < ((k*2 ^z+2 ^z:Nat):Int)/\((k*2 ^z:Nat):Int) - a2 < a))->n1 z k l a a2=n1 z (k+1) l a a2:=fun e=>by rw[SW,if_neg e]
   refine⟨fun cB=>?_,fun cB=>?_⟩
   .have cB:decide (a < ((k*2 ^z:Nat):Int)+(1:Int)*((2 ^((d.im.z:Nat):Int).toNat:Nat):Int))=true:=cB;have cB:=gd cB;rw[SX] at cB;refine⟨sl,fun cL=>?_,fun cL=>?_⟩
    .have cL:decide (((k*2 ^z:Nat):Int) - a2 < a)=true:=cL;have cL:=gd cL;have aV:ni (n1 z k l a a2) k=n1 z (k+1) l a a2:=by rw[SW,if_pos ⟨cB,cL⟩]
     refine bz [] (cG [(0,ao 2001),(1,ae a),(2,ae a2),(6,dn d.am),(31,ae (d.im.t.length:Nat)),(32,ae (k:Nat)),(7,ae (k:Nat))] (iO z U L top base (n1 z k l a a2) false)) ?_;refine⟨trivial,?_⟩;exact⟨au5,k+1,hg,au5,af.sub ac ⟨rfl,rfl,rfl,rfl,rfl,congrArg (fun aB=>some (bd.map ak ak aB)) ((CQ k _).trans (congrArg fY aV)),trivial⟩⟩
    .have cL:decide (((k*2 ^z:Nat):Int) - a2 < a)=false:=cL;have cL:=mu cL;exact⟨au5,k+1,hg,au5,af.sub ac ⟨rfl,rfl,rfl,rfl,rfl,congrArg (fun aB=>some (bd.map ak ak (fY aB))) (Ab fun e=>cL e.2),trivial⟩⟩
   .have cB:decide (a < ((k*2 ^z:Nat):Int)+(1:Int)*((2 ^((d.im.z:Nat):Int).toNat:Nat):Int))=false:=cB;have cB:=mu cB;rw[SX] at cB;exact⟨au5,k+1,hg,au5,af.sub ac ⟨rfl,rfl,rfl,rfl,rfl,congrArg (fun aB=>some (bd.map ak ak (fY aB))) (Ab fun e=>cB e.1),trivial⟩⟩
  .have H:decide ((k:Int) < ((d.im.t.length:Nat):Int))=false:=H;have hg:k=d.im.t.length:=by have:=mu H;omega
   subst hg;exact aT aH rfl trivial ⟨rfl,rfl,rfl,rfl,rfl,congrArg (fun aB=>some (bd.map ak ak (fY aB))) ap.symm,trivial⟩ rfl
abbrev Gi (z U:Int) (L:List aO) (top base:List UInt8) (l:List Nat) (x y:Int):ay:=iO z U L top base l false++[(3001,.cells [.ptr 2001 0]),(3002,.cells [.d (.int .i64 x)]),(3003,.cells [.d (.int .i64 y)])]
theorem agC (h:cE z U L) (base:List UInt8) (l:List Nat) (a:Int) (k:Nat) {d:aO} (J:dk L top=some d) (ab:k < d.im.t.length):Fn Tryz.prog 289 [ao 3001,ao 3002,ao 3003] (Gi z U L top base l a (k:Int)) [] (ae (hG z L base a (hH z L top (k:Int))).e) (Gi z U (hG z L base a (hH z L top (k:Int))).L top base l a (k:Int)):=by
 have dJ:=Ld h top (k:Int);have ag:=ko h.b3
 have b6:(hH z L top (k:Int)).length<=1000000000:=by
  have:hH z L top (k:Int)=pC z L top (fi L top) k:=by
   unfold hH;rw[J];simp only;rw[if_pos ⟨au5,au5⟩];rfl
  rw[this,Cw h.tond J (h.co top).1 k];omega
 have Gj:=Lc h base a (hH z L top (k:Int)) b6;generalize hH z L top (k:Int)=x at*;generalize hG z L base a x=r at*;refine aW [] Tryz.func289 rfl rfl rfl rfl ?_;refine au dJ ?_;refine au Gj ?_;refine⟨rfl,?_⟩;exact aT aH rfl rfl ac rfl
theorem agD (h:cE z U L) (top base:List UInt8) (l:List Nat) (a a2:Int):Fn Tryz.prog 290 [ao 3001,ao 3002,ao 3003] (Gi z U L top base l a a2) [] (ae (ma z L base a a2).e) (Gi z U (ma z L base a a2).L top base l a a2):=by
 have agE:=Sz h base a a2;generalize ma z L base a a2=r at*;refine aW [] Tryz.func290 rfl rfl rfl rfl ?_;refine au agE ?_;refine⟨rfl,?_⟩;exact aT aH rfl rfl ac rfl
abbrev CR (z U:Int) (L:List aO) (top base:List UInt8) (l:List Nat) (k a a2:Int) (ef fc fj gS:Nat) (es:List (Z ak×Z .fn)):ay:=iO z U L top base l false++[(4,.cells [.ptr 2001 0]),(5,.cells [.d (.int .i64 k)]),(6,.cells [.d (.int .i64 a)]),(7,.cells [.d (.int .i64 a2)]),(9004,.co 4 (e6 ef)),(9005,.co 5 (e6 fc)),(9006,.co 6 (e6 fj)),(9007,.co 7 (e6 gS)),(12,.aG (z8 es))]
def rv (ef fc fj gS:Nat):List (Z ak×Z .fn):=dr (aJ:=ak) (aL:=.fn) (dr (aJ:=ak) (aL:=.fn) [] (1:Int) (289,[ef,fj,fc])) (2:Int) (290,[ef,fj,gS])
theorem agF (ef fc fj gS:Nat):b0 (aJ:=ak) (aL:=.fn) (rv ef fc fj gS) (1:Int)=some (289,[ef,fj,fc]):=rfl
theorem agG (ef fc fj gS:Nat):b0 (aJ:=ak) (aL:=.fn) (rv ef fc fj gS) (2:Int)=some (290,[ef,fj,gS]):=rfl
theorem agH (ef fc fj gS:Nat) {x:Int} (E:x≠1) (G:x≠2):b0 (aJ:=ak) (aL:=.fn) (rv ef fc fj gS) x=none:=by
 have aj:fV ak x (1:Int)=false:=ar8 E;have ap:fV ak x (2:Int)=false:=ar8 G;have e:rv ef fc fj gS=[(@Prod.mk (Z ak) (Z .fn) (1:Int) (289,[ef,fj,fc])),(@Prod.mk (Z ak) (Z .fn) (2:Int) (290,[ef,fj,gS]))]:=rfl;rw[e];simp only[b0,aj,ap]
set_option maxHeartbeats 1000000 in
theorem agI (h:cE z U L) (base:List UInt8) (l:List Nat) (k:Nat) (a a2:Int) (ha:a=((k*2 ^z:Nat):Int)) (a6:a2=((2 ^z:Nat):Int)) {d:aO} (J:dk L top=some d) (ab:k < d.im.t.length):Fn Tryz.prog 288 [ao 2001,ae (k:Int),ae a,ae a2] (iO z U L top base l false) [] (ae (n2 z L top base k).e) (iO z U (n2 z L top base k).L top base l false):=by
 have nc:=(h.hh d (c1 J).1).1.eW;have fv:=h.tohU.M (c1 J).1;have agJ:xZ L top k=(d.im.t.getD k cD).1:=by unfold xZ;rw[J]
 have uO:=zM d.im nc k ab;rw[<-agJ] at uO;have gQ:=agC h base l a k J ab;have hc:=agD h top base l a a2
 by_cases cB:xZ L top k=1
 .have e:n2 z L top base k=hG z L base a (hH z L top (k:Int)):=by rw[ha];exact if_pos cB
  rw[e];rw[cB] at uO;generalize hG z L base a (hH z L top (k:Int))=r at*;refine aW [1,2,3,5] Tryz.func288 rfl rfl rfl rfl ?_;refine⟨rfl,rfl,rfl,rfl,bt.eY (df.mark 4 9004 rfl au6) fun ef=>?_⟩;refine bt.eY (df.mark 5 9005 rfl au6) fun fc=>?_
  refine bt.eY (df.mark 6 9006 rfl au6) fun fj=>?_
  refine bt.eY (df.mark 7 9007 rfl au6) fun gS=>?_
  refine bz [2,3,5] (aH) ?_;refine⟨rfl,_,_,fun N=>Aa (m1:=9004) (m2:=9006) (m3:=9005) (b1:=ef) (b2:=fj) (b3:=fc) (ch':=.map ak .fn (dr (aJ:=ak) (aL:=.fn) [] (1:Int) (289,[ef,fj,fc]))) rfl Tryz.underlying347 Tryz.underlying3 rfl rfl rfl rfl rfl rfl rfl (.inl rfl) (.inl rfl) N,rfl,?_⟩;refine⟨_,_,fun N=>Aa (m1:=9004) (m2:=9006) (m3:=9007) (b1:=ef) (b2:=fj) (b3:=gS) (ch':=.aG (z8 (rv ef fc fj gS))) rfl Tryz.underlying347 Tryz.underlying3 rfl rfl rfl rfl rfl rfl rfl (.inl rfl) (.inr rfl) N,rfl,?_⟩;refine bz [3,5] (cG [(4,ao 4),(5,ao 5),(6,ao 6),(7,ao 7),(9,.c (.one (.mp 12)))] (CR z U L top base l k a a2 ef fc fj gS (rv ef fc fj gS))) ?_;refine au (jx _ _ L h.tohU top d J) ?_;refine au (hV uO fv rfl rfl rfl rfl) ?_;refine⟨_,_,fun N=>Lm eN (ti:=_) rfl Tryz.underlying347 Tryz.underlying3 rfl rfl rfl rfl (agF ef fc fj gS) N,rfl,?_⟩;refine⟨rfl,bz [5] (cG [(10,.c (.one (.d (.fn (289,[ef,fj,fc]))))),(11,qT true)] (CR z U L top base l k a a2 ef fc fj gS (rv ef fc fj gS))) ?_⟩;refine bt.le (af.SO 10 289 4 6 5 9004 9006 9005 ef fj fc rfl rfl rfl rfl) ?_;refine bz [] (aH) ?_;refine au (Fn.aX [(3001,4),(3002,6),(3003,5)] gQ) ?_;exact aT aH rfl rfl ac rfl
 by_cases cL:xZ L top k=2
 .have e:n2 z L top base k=ma z L base a a2:=by rw[ha,a6];exact(if_neg cB).trans (if_pos cL)
  rw[e];rw[cL] at uO;generalize ma z L base a a2=r at*;refine aW [1,2,3,5] Tryz.func288 rfl rfl rfl rfl ?_;refine⟨rfl,rfl,rfl,rfl,bt.eY (df.mark 4 9004 rfl au6) fun ef=>?_⟩;refine bt.eY (df.mark 5 9005 rfl au6) fun fc=>?_
  refine bt.eY (df.mark 6 9006 rfl au6) fun fj=>?_
  refine bt.eY (df.mark 7 9007 rfl au6) fun gS=>?_
  refine bz [2,3,5] (aH) ?_;refine⟨rfl,_,_,fun N=>Aa (m1:=9004) (m2:=9006) (m3:=9005) (b1:=ef) (b2:=fj) (b3:=fc) (ch':=.map ak .fn (dr (aJ:=ak) (aL:=.fn) [] (1:Int) (289,[ef,fj,fc]))) rfl Tryz.underlying347 Tryz.underlying3 rfl rfl rfl rfl rfl rfl rfl (.inl rfl) (.inl rfl) N,rfl,?_⟩;refine⟨_,_,fun N=>Aa (m1:=9004) (m2:=9006) (m3:=9007) (b1:=ef) (b2:=fj) (b3:=gS) (ch':=.aG (z8 (rv ef fc fj gS))) rfl Tryz.underlying347 Tryz.underlying3 rfl rfl rfl rfl rfl rfl rfl (.inl rfl) (.inr rfl) N,rfl,?_⟩;refine bz [3,5] (cG [(4,ao 4),(5,ao 5),(6,ao 6),(7,ao 7),(9,.c (.one (.mp 12)))] (CR z U L top base l k a a2 ef fc fj gS (rv ef fc fj gS))) ?_;refine au (jx _ _ L h.tohU top d J) ?_;refine au (hV uO fv rfl rfl rfl rfl) ?_;refine⟨_,_,fun N=>Lm eN (ti:=_) rfl Tryz.underlying347 Tryz.underlying3 rfl rfl rfl rfl (agG ef fc fj gS) N,rfl,?_⟩;refine⟨rfl,bz [5] (cG [(10,.c (.one (.d (.fn (290,[ef,fj,gS]))))),(11,qT true)] (CR z U L top base l k a a2 ef fc fj gS (rv ef fc fj gS))) ?_⟩;refine bt.le (af.SO 10 290 4 6 7 9004 9006 9007 ef fj gS rfl rfl rfl rfl) ?_;refine bz [] (aH) ?_;refine au (Fn.aX [(3001,4),(3002,6),(3003,7)] hc) ?_;exact aT aH rfl rfl ac rfl
 .have e:n2 z L top base k=⟨0,L⟩:=(if_neg cB).trans (if_neg cL);rw[e];have hw:=fun ef fc fj gS=>agH ef fc fj gS cB cL
  generalize xZ L top k=dg at*;refine aW [1,2,3,5] Tryz.func288 rfl rfl rfl rfl ?_;refine⟨rfl,rfl,rfl,rfl,bt.eY (df.mark 4 9004 rfl au6) fun ef=>?_⟩;refine bt.eY (df.mark 5 9005 rfl au6) fun fc=>?_
  refine bt.eY (df.mark 6 9006 rfl au6) fun fj=>?_
  refine bt.eY (df.mark 7 9007 rfl au6) fun gS=>?_
  refine bz [2,3,5] (aH) ?_;refine⟨rfl,_,_,fun N=>Aa (m1:=9004) (m2:=9006) (m3:=9005) (b1:=ef) (b2:=fj) (b3:=fc) (ch':=.map ak .fn (dr (aJ:=ak) (aL:=.fn) [] (1:Int) (289,[ef,fj,fc]))) rfl Tryz.underlying347 Tryz.underlying3 rfl rfl rfl rfl rfl rfl rfl (.inl rfl) (.inl rfl) N,rfl,?_⟩;refine⟨_,_,fun N=>Aa (m1:=9004) (m2:=9006) (m3:=9007) (b1:=ef) (b2:=fj) (b3:=gS) (ch':=.aG (z8 (rv ef fc fj gS))) rfl Tryz.underlying347 Tryz.underlying3 rfl rfl rfl rfl rfl rfl rfl (.inl rfl) (.inr rfl) N,rfl,?_⟩;refine bz [3,5] (cG [(4,ao 4),(5,ao 5),(6,ao 6),(7,ao 7),(9,.c (.one (.mp 12)))] (CR z U L top base l k a a2 ef fc fj gS (rv ef fc fj gS))) ?_;refine au (jx _ _ L h.tohU top d J) ?_;refine au (hV uO fv rfl rfl rfl rfl) ?_;refine⟨_,_,fun N=>Lm eN (ti:=_) rfl Tryz.underlying347 Tryz.underlying3 rfl rfl rfl rfl (hw ef fc fj gS) N,rfl,?_⟩;refine⟨rfl,bz [5] (cG [(11,qT false)] (iO z U L top base l false)) ?_⟩;exact aT aH rfl rfl ac rfl
end
section
variable {z U:Nat} {L:List aO} {top base:List UInt8}
set_option maxHeartbeats 1000000 in
theorem agK (h:cE z U L) (base:List UInt8) (l:List Nat) (over:Bool) {d:aO} (J:dk L top=some d) (aq: ∀k,k∈l->k < d.im.t.length) (hn:l.Nodup):Fn Tryz.prog 285 [ao 2001] (iO z U L top base l over) [] (.ce [.one (.d (.bool (fU z L top base l over).done)),dw (fU z L top base l over).e]) (iO z U (fU z L top base l over).L top base (fU z L top base l over).l (fU z L top base l over).over):=by
 have nc:=(h.hh d (c1 J).1).1.eW;have fv:=h.tohU.M (c1 J).1;have lr:d.im.z=z:=(h.hh d (c1 J).1).2.1;have x0:=h.b3;have ag:=ko h.b3
 cases over with
 |true=>
  have e:fU z L top base l true=⟨false,150,L,l,true⟩:=if_pos rfl;rw[e];refine aW [] Tryz.func285 rfl rfl rfl rfl ?_;refine au (jx _ _ L h.tohU top d J) ?_;refine⟨rfl,eO ?_⟩;exact aT aH rfl ac ac rfl
 |false=>
  have ru:(1:Int)*((2 ^((d.im.z:Nat):Int).toNat:Nat):Int)=((2 ^z:Nat):Int):=by
   rw[lr,Int.one_mul];rfl
  have cH:(0:Int)<=(1:Int)/\(0:Int)<=((d.im.z:Nat):Int)/\((d.im.z:Nat):Int)<=64:=by omega
  have dF:cY ((1:Int)*((2 ^((d.im.z:Nat):Int).toNat:Nat):Int)):=by rw[ru];omega
  by_cases ba:l=[]
  .have cQ:c4 L top=d.im.t.length:=by unfold c4;rw[J]
   have e:fU z L top base l false=⟨true,0,(mN L top 0 ((d.im.t.length*2 ^z:Nat):Int)).L,[],true⟩:=by
    unfold fU;rw[if_neg au6,if_pos ba,cQ]
   rw[e];subst ba;have hm:=SA h top 0 ((d.im.t.length*2 ^z:Nat):Int);have ao6:=afX h top 0 ((d.im.t.length*2 ^z:Nat):Int);have mk:d.im.t.length*2 ^z<=256*8:=Nat.mul_le_mul nc ag.2;have em:((d.im.t.length:Nat):Int)*((2 ^z:Nat):Int)=((d.im.t.length*2 ^z:Nat):Int):=by rw[Int.natCast_mul]
   have m3:cY (((d.im.t.length:Nat):Int)*((2 ^z:Nat):Int)):=by rw[em];omega
   rw[<-em] at hm⊢;generalize mN L top 0 (((d.im.t.length:Nat):Int)*((2 ^z:Nat):Int))=r at*;refine aW [4,6,7] Tryz.func285 rfl rfl rfl rfl ?_;refine au (jx _ _ L h.tohU top d J) ?_;refine⟨rfl,da ?_⟩;refine⟨fun _ _=>?_,fun h=>by cases h⟩;refine bz [6,7] (cG [(0,ao 2001),(4,dn d.am)] (iO z U L top base [] false)) ?_;refine au (hV (wj d.im) fv rfl rfl rfl rfl) ?_;refine⟨cH,dF,eO ?_⟩;refine bz [7] (af.sub (K':=[(0,ao 2001),(4,dn d.am),(5,ae ((2 ^z:Nat):Int))]) (B':=iO z U L top base [] false) ⟨rfl,rfl,ru,trivial⟩ ac) ?_;refine au (hV (na d.im) fv rfl rfl rfl rfl) ?_;refine⟨m3,au hm ?_⟩;refine⟨rfl,bz [] (cG [(0,ao 2001)] (iO z U r.L top base [] false)) ?_⟩;refine au (SR z U r.L top base [] false) ?_;exact aT aH rfl ac ac rfl
  .have e:fU z L top base l false=⟨false,(n2 z L top base (eQ l)).e,(n2 z L top base (eQ l)).L,if(n2 z L top base (eQ l)).e=0 then l.erase (eQ l) else l,false⟩:=by
    unfold fU;rw[if_neg au6,if_neg ba]
   rw[e];obtain⟨cx,cA,dy⟩:=Gf ba;have ab:=aq _ cA
   have AW: ∀g:{g3:List Int//g3.Perm (gR (fY l))},oZ g.1=((eQ l:Nat):Int):=fun g=>by
    rw[SK g.2 (by rw[uM];simpa using ba),uM];exact cx
   have uC: ∀g:{g3:List Int//g3.Perm (gR (fY l))},g.1.length=l.length:=fun g=>by
    rw[g.2.length_eq,uM,aq3]
   have mI:l.length<=256:=by
    have:=CM d.im.t.length l hn aq;omega
   have v6:0 < l.length:=List.length_pos_iff.2 ba;have q7:=Ln l;have Lw:=SI (fY l) (Lp hn) (Lq fun k ab=>by have:=aq k ab;omega) au5;have mk:eQ l*2 ^z<=256*8:=Nat.mul_le_mul au5 ag.2;have em:((eQ l:Nat):Int)*((2 ^z:Nat):Int)=((eQ l*2 ^z:Nat):Int):=by rw[Int.natCast_mul]
   have m3:cY (((eQ l:Nat):Int)*((2 ^z:Nat):Int)):=by rw[em];omega
   have agL:=agI h base l (eQ l) _ _ em rfl J ab;have dC:=Lo (eQ l) l;generalize eQ l=rx at*;generalize n2 z L top base rx=r at*;refine aW [4,9,10,12] Tryz.func285 rfl rfl rfl rfl ?_;refine au (jx _ _ L h.tohU top d J) ?_;refine⟨rfl,da ?_⟩;refine⟨fun _ _=>?_,fun h=>by cases h⟩;refine bz [9,10,12] (cG [(0,ao 2001),(4,dn d.am)] (iO z U L top base l false)) ?_;refine au (hV (wj d.im) fv rfl rfl rfl rfl) ?_;refine⟨cH,dF,fun H=>?_,fun _=>?_⟩
   .exfalso;have H:decide ((((fY l).length:Nat):Int)=0)=true:=H;have:=gd H;omega
   refine bt.le (af.sub (K':=[(0,ao 2001),(5,ae ((2 ^z:Nat):Int))]) (B':=iO z U L top base l false) ⟨rfl,ru,trivial⟩ ac) ?_;refine bt.h3 eN au8 ?_;refine iE ((Fn.aX [(1001,2002),(2001,9001)] (Lj (fY l))).x) fun _=>?_
   refine iE (cv.aX [(1001,2002),(2001,9001)] Lw) fun g=>?_
   have agM:=uC g;have CS:=AW g;refine iE ((SL g.1 au5 au5).x) fun _=>?_
   refine bz [12] (af.sub (K':=[(0,ao 2001),(5,ae ((2 ^z:Nat):Int)),(6,ae (rx:Nat))]) (B':=iO z U L top base l false) ⟨rfl,rfl,CS,trivial⟩ ac) ?_;refine⟨m3,au agL ?_⟩;refine⟨fun V=>?_,fun V=>?_⟩
   .have V:r.e=0:=gd V;refine bz [] (cG [(0,ao 2001),(6,ae (rx:Nat)),(7,ae r.e)] (iO z U r.L top base l false)) ?_;exact aT aH rfl ac ⟨rfl,rfl,rfl,rfl,rfl,congrArg (fun aB=>some (bd.map ak ak aB)) (dC.trans (congrArg fY (if_pos V).symm)),trivial⟩ rfl
   .have V: ¬r.e=0:=mu V;exact aT aH rfl ac ⟨rfl,rfl,rfl,rfl,rfl,congrArg (fun aB=>some (bd.map ak ak (fY aB))) (if_neg V).symm,trivial⟩ rfl
end
end
section
section
variable {z U:Nat} {L:List aO}
def tA (L:List aO):Prop:= ∀d,d∈L->d.im.t.length<=12
theorem tA.nil:tA []:=fun d h=>by cases h
theorem tA.of (eH:cE z U L) (h: ∀n,c4 L n<=12):tA L:=fun d J=>by
 have:=h d.nm;unfold c4 at this;rw[z1 eH.ik J] at this;exact this
theorem tA.aS (h:tA L) (n:List UInt8):c4 L n<=12:=by
 unfold c4
 cases e:dk L n with
 |none=>exact ap7 _
 |some d=>exact h d (c1 e).1
theorem mb.aS {L':List aO} {t:List UInt8} (aq:mb L t L') (n:List UInt8):c4 L' n=c4 L n/\(dk L' n).isSome=(dk L n).isSome:=by
 rcases aq with rfl |⟨d,im,aw,ax,rfl⟩
 .exact⟨rfl,rfl⟩
 .exact agb L aw ax
theorem tA.ry {L':List aO} {t:List UInt8} (h:tA L) (eD:cE z U L) (aq:mb L t L'):tA L':=tA.of (aq.cs eD) fun n=>by
 rw[(aq.aS n).1];exact h.aS n
end
end
section
section
variable {z U:Nat} {L:List aO} {top base:List UInt8} {l:List Nat}
structure kR (z U:Nat) (L:List aO) (top:List UInt8) (l:List Nat):Prop where
 cs:cE z U L
 il:(dk L top).isSome=true
 lt: ∀k,k∈l->k < c4 L top
 fK:l.Nodup
theorem kR.ry {L':List aO} {t:List UInt8} (h:kR z U L top l) (aq:mb L t L'):kR z U L' top l:=⟨aq.cs h.cs,by rw[(aq.aS top).2];exact h.il,fun k ab=>by rw[(aq.aS top).1];exact h.lt k ab,h.fK⟩
theorem Lx (h:cE z U L) (top base:List UInt8) (k:Nat):mb L base (n2 z L top base k).L:=by
 unfold n2
 split
 .exact CL h _ _ _
 .split
  .exact Lg h _ _ _
  .exact .inl rfl
theorem kR.step (h:kR z U L top l) (base:List UInt8) (over:Bool):kR z U (fU z L top base l over).L top (fU z L top base l over).l:=by
 unfold fU
 split
 .exact h
 .split
  .exact⟨(h.ry (z7 h.cs _ _ _)).cs,(h.ry (z7 h.cs _ _ _)).il,fun k ab=>(by cases ab),at0⟩
  .have E:=h.ry (Lx h.cs top base (eQ l));refine⟨E.cs,E.il,fun k ab=>E.lt k ?_,?_⟩
   .have ab:k∈(if(n2 z L top base (eQ l)).e=0 then l.erase (eQ l) else l):=ab
    split at ab
    .exact List.mem_of_mem_erase ab
    .exact ab
   .show(if(n2 z L top base (eQ l)).e=0 then l.erase (eQ l) else l).Nodup
    split
    .exact h.fK.erase _
    .exact h.fK
theorem kR.agN (h:cE z U L) (V:pI L top=0):kR z U L top (wk L top):=by
 obtain⟨d,J,_⟩:=Ls h (SS V).1;exact⟨h,by rw[J];rfl,fun k ab=>List.mem_range.1 (at5.1 ab).1,List.nodup_range.filter _⟩
theorem kR.get (h:kR z U L top l): ∃d,dk L top=some d/\ ∀k,k∈l->k < d.im.t.length:=by
 obtain⟨d,J⟩:=as8.1 h.il;refine⟨d,J,fun k ab=>?_⟩;have:=h.lt k ab;unfold c4 at this;rw[J] at this;exact this
theorem kR.len (h:kR z U L top l):l.length<=c4 L top/\c4 L top<=256:=by
 obtain⟨d,J,_⟩:=h.get;refine⟨CM _ l h.fK h.lt,?_⟩;unfold c4;rw[J];exact(h.cs.hh d (c1 J).1).1.eW
theorem kR.Ly (h:kR z U L top l) (base:List UInt8) (over:Bool):Fn Tryz.prog 285 [ao 2001] (iO z U L top base l over) [] (.ce [.one (.d (.bool (fU z L top base l over).done)),dw (fU z L top base l over).e]) (iO z U (fU z L top base l over).L top base (fU z L top base l over).l (fU z L top base l over).over):=
 let⟨_,J,aq⟩:=h.get
 agK h.cs base l over J aq h.fK
theorem agO {z n:Nat} {l:List Nat} {a a2:Int}: ∀{k:Nat},k∈n1 z n l a a2->k∈l\/k < n:=by
 induction n with
 |zero=>exact fun h=>.inl h
 |succ n br=>
  intro k ab;rw[Lv] at ab
  split at ab
  .rcases SP.1 ab with ab |rfl
   .exact(br ab).imp id au5
   .exact .inr au5
  .exact(br ab).imp id au5
theorem agP {z n:Nat} {l:List Nat} {a a2:Int} (h:l.Nodup):(n1 z n l a a2).Nodup:=by
 induction n with
 |zero=>exact h
 |succ n br=>
  rw[Lv]
  split
  .exact SQ br
  .exact br
theorem kR.wr (h:kR z U L top l) (over:Bool) (a a2:Int):kR z U L top (sx z L top l over a a2):=by
 unfold sx
 split
 .exact h
 .exact⟨h.cs,h.il,fun k ab=>(agO ab).elim (h.lt k) id,agP h.fK⟩
end
section
variable {z U:Nat} {L:List aO} {top base nm:List UInt8} {l:List Nat}
structure sy (z U:Nat) (L:List aO) (top base:List UInt8) (l:List Nat):Prop extends kR z U L top l where
 Ac:(dk L base).isSome=true
 le:c4 L top<=c4 L base
 Lz:c4 L base < U
 fZ:fw L top=(base,0)
 ne:base≠[]
theorem mb.fw {L':List aO} {t:List UInt8} (aq:mb L t L') (n:List UInt8):fw L' n=fw L n:=by
 rcases aq with rfl |⟨d,im,aw,ax,rfl⟩
 .rfl
 .unfold Go.Proofs.YthnboghbhgapcaaGreat.fw;rw[uL]
  cases J:dk L n with
  |none=>rfl
  |some d=>show(_,_)=(_,_);rw[xY]
theorem sy.ry {L':List aO} {t:List UInt8} (h:sy z U L top base l) (aq:mb L t L'):sy z U L' top base l:=⟨h.tokR.ry aq,by rw[(aq.aS base).2];exact h.Ac,by rw[(aq.aS base).1,(aq.aS top).1];exact h.le,by rw[(aq.aS base).1];exact h.Lz,by rw[aq.fw];exact h.fZ,h.ne⟩
theorem sy.step (h:sy z U L top base l) (over:Bool):sy z U (fU z L top base l over).L top base (fU z L top base l over).l:=by
 have aA:=h.tokR.step base over
 have aq: ∃t,mb L t (fU z L top base l over).L:=by
  unfold fU
  split
  .exact⟨top,.inl rfl⟩
  .split
   .exact⟨top,z7 h.cs _ _ _⟩
   .exact⟨base,Lx h.cs top base _⟩
 obtain⟨t,aq⟩:=aq;have E:=h.ry aq;exact⟨aA,E.Ac,E.le,E.Lz,E.fZ,E.ne⟩
theorem sy.wr (h:sy z U L top base l) (over:Bool) (a a2:Int):sy z U L top base (sx z L top l over a a2):=⟨h.tokR.wr over a a2,h.Ac,h.le,h.Lz,h.fZ,h.ne⟩
end
section
variable {z U:Nat} {L L':List aO} {top base t:List UInt8} {l:List Nat}
theorem sy.dk (h:sy z U L top base l): ∃d,Go.Proofs.YthnboghbhgapcaaGreat.dk L top=some d/\d.back=base:=by
 have O:=h.fZ;unfold fw at O
 cases J:Go.Proofs.YthnboghbhgapcaaGreat.dk L top with
 |none=>rw[J] at O;exact absurd (congrArg Prod.snd O) (show¬(140:Int)=0 by decide)
 |some d=>
  rw[J] at O;exact⟨d,rfl,congrArg Prod.fst O⟩
end
section
variable {z U:Nat} {L:List aO} {top base:List UInt8} {l:List Nat}
end
end
section
section
variable {P:Program} {ids:List Nat} {K:a1} {B:ay}
theorem Ad {o:Oper} {op:BinOp} {T fE:TypeId} {x y:Operand} {n m r:Int} (ai:o.op= .binOp op T x y fE) (hx:a7 K x= .c (.one (.d (.int .i64 n)))) (aC:a7 K y= .c (.one (.d (.int .i64 m))))
  (h:(op= .add/\r=IntKind.i64.wrap (n+m))\/(op= .sub/\r=IntKind.i64.wrap (n - m))\/(op= .quo/\m≠0/\r=IntKind.i64.wrap (n.tdiv m))) (N:Nat):bB P N ids o K B (.c (.one (.d (.int .i64 r)))) ⟨[],[],[]⟩:=by
 have m1:x∈o.op.operands:=by rw[ai];simp[Op.operands]
 have m2:y∈o.op.operands:=by rw[ai];simp[Op.operands]
 refine bB.val fun K' B' g1 g2 C ρ F e' w ar av=>?_
 have aj:=av.int ((g1 x m1).trans hx);have ap:=av.int ((g1 y m2).trans aC);refine⟨.int .i64 r,?_,rfl⟩;simp only[execOp,ai,aj,ap];rcases h with⟨rfl,rfl⟩ |⟨rfl,rfl⟩ |⟨rfl,aA,rfl⟩
 .simp[eqGuard,go_sem,Op.intArith]
 .simp[eqGuard,go_sem,Op.intArith]
 .simp[eqGuard,go_sem,Op.intDiv,aA]
end
abbrev LA (s g:Int):List bC:=[.d (.int .i64 s),.d (.int .i64 g),.mp 1002]
abbrev io (s g:Int) (es:List (Z ak×Z ak)):ay:=[(1001,.cells (LA s g)),(1002,.map ak ak es)]
theorem SY (s:Int):Fn Tryz.prog 93 [ae s] [] [] (fI (decide (0<=s)&&decide (s<=4096))) []:=by
 refine aW [] Tryz.func93 rfl rfl rfl rfl ?_;refine⟨fun E=>?_,fun E=>?_⟩
 .have E:decide (0<=s)=true:=E;exact aT aH rfl (show decide (s<=4096)=(decide (0<=s)&&decide (s<=4096)) by rw[E];rfl) trivial rfl
 .have E:decide (0<=s)=false:=E;exact aT aH rfl (show false=(decide (0<=s)&&decide (s<=4096)) by rw[E];rfl) trivial rfl
def n3 (s g:Int):Bool:=((decide (0<=s)&&decide (s<=4096))&&(!decide (g < 1)&& !decide (64 < g)))&&decide (((g.toNat &&& (g - 1).toNat:Nat):Int)=0)
theorem Gk {s g:Int} (h:n3 s g=true):(0<=s/\s<=4096)/\1<=g/\g<=64:=by
 unfold n3 at h;simp only[vj,Bool.not_eq_true',ar5,decide_eq_false_iff_not] at h;obtain⟨⟨⟨E,G⟩,al,aZ⟩,_⟩:=h;omega
theorem LB (s g:Int) (h:n3 s g=true):Fn Tryz.prog 54 [ae s,ae g] [] [2001,2002] (.ce [.one (.ptr 2001 0),dw 0]) [(2001,.cells [.d (.int .i64 s),.d (.int .i64 g),.mp 2002]),(2002,.map ak ak [])]:=by
 obtain⟨g1,g2,cX⟩:=Gk h;have aF:=SY s;rw[aq2 g1.1,aq2 g1.2] at aF;unfold n3 at h;simp only[vj] at h;have bK:=h.2;have m1:cY (g - 1):=by omega
 refine aW [] Tryz.func54 rfl rfl rfl rfl ?_;refine au aF ?_;refine da ?_;refine⟨fun h=>absurd (gd h) au5,fun _=>?_⟩;refine⟨fun h=>absurd (gd h) au5,fun _=>?_⟩;refine⟨m1,_,_,fun N=>FY rfl rfl rfl au5 au5 au5 au5 N,rfl,?_⟩;refine⟨fun h=>?_,fun _=>?_⟩
 .exfalso;have h:(!decide (((g.toNat &&& (g - 1).toNat:Nat):Int)=0))=true:=h;rw[bK] at h
  cases h
 refine⟨rfl,rfl,?_⟩;exact⟨_,_,_,af.trans (af.aX 28 2001 rfl) (af.aX 26 2002 rfl),rfl,ac,ac,rfl⟩
theorem agQ (s g:Int) (h:n3 s g=false):Fn Tryz.prog 54 [ae s,ae g] [] [] (.ce [mF,dw 1]) []:=by
 have aF:=SY s;unfold n3 at h;generalize(decide (0<=s)&&decide (s<=4096))=b at*;refine aW [] Tryz.func54 rfl rfl rfl rfl ?_;refine au aF ?_;refine⟨fun _=>?_,fun E=>?_⟩
 .exact aT aH rfl ac trivial rfl
 have E:b=true:=by
  have E:(!b)=false:=E;simpa using E
 refine⟨fun _=>?_,fun G=>?_⟩
 .exact aT aH rfl ac trivial rfl
 refine⟨fun _=>?_,fun al=>?_⟩
 .exact aT aH rfl ac trivial rfl
 have G:decide (g < 1)=false:=G;have al:decide (64 < g)=false:=al;rw[E,G,al] at h;have cA:=mu G;have dy:=mu al;have m1:cY (g - 1):=by omega
 refine⟨m1,_,_,fun N=>FY rfl rfl rfl au5 au5 au5 au5 N,rfl,?_⟩;refine⟨fun _=>?_,fun aZ=>?_⟩
 .exact aT aH rfl ac trivial rfl
 .exfalso;have aZ:(!decide (((g.toNat &&& (g - 1).toNat:Nat):Int)=0))=false:=aZ;have h:((true&&(!false&& !false))&&decide (((g.toNat &&& (g - 1).toNat:Nat):Int)=0))=false:=h;generalize decide (((g.toNat &&& (g - 1).toNat:Nat):Int)=0)=c at*
  cases c
  .cases aZ
  .cases h
theorem LC (s g:Int) (es:List (Z ak×Z ak)):Fn Tryz.prog 64 [ao 1001] (io s g es) [] (ae s) (io s g es):=by
 refine aW [] Tryz.func64 rfl rfl rfl rfl ?_;exact aT aH rfl rfl ac rfl
def CT (aB:Int):Bool:=decide (0 < aB)
def mO (g:Int) (es:List (Z ak×Z ak)) (k:Nat):Bool:=CT ((b0 (aJ:=ak) (aL:=ak) es ((k:Int)/g)).getD (cK ak))
theorem SZ (s g:Int) (es:List (Z ak×Z ak)) (k:Nat) (a6:1<=g) (ab:(k:Int) < s) (ax:s<=4096):Fn Tryz.prog 100 [ao 1001,ae (k:Int)] (io s g es) [] (fI (mO g es k)) (io s g es):=by
 have aV:(0:Int)<=(k:Int)/g:=au4 au5 au5;have CU:(k:Int)/g<=(k:Int):=Int.ediv_le_self _ au5;have m1:cY ((k:Int)/g):=by omega
 refine aW [] Tryz.func100 rfl rfl rfl rfl ?_;refine⟨fun _=>?_,fun h=>absurd (mu h) au5⟩;refine⟨fun _=>?_,fun h=>absurd (mu h) au5⟩;refine⟨⟨au5,au5⟩,m1,rfl,?_⟩;exact aT aH rfl rfl ac rfl
def sz (es:List (Z ak×Z ak)) (f:Int):Nat->List (Z ak×Z ak)
 |0=>es
 |n+1=>dr (aJ:=ak) (aL:=ak) (sz es f n) (f+(n:Int)) (1:Int)
abbrev rz (s g:Int) (es:List (Z ak×Z ak)):ay:=io s g es++[(3001,.cells [.ptr 1001 0])]
theorem agR (s g:Int) (es:List (Z ak×Z ak)) (k:Int):Fn Tryz.prog 138 [ae k,ao 3001] (rz s g es) [] gI (rz s g (dr (aJ:=ak) (aL:=ak) es k (1:Int))):=by
 refine aW [] Tryz.func138 rfl rfl rfl rfl ?_;refine⟨trivial,?_⟩;exact aT aH rfl trivial ac rfl
abbrev agS (d5 k:Int):a1:=[(4,ae d5),(5,.c (.one (.cT 138 [.p 3001 0]))),(13,ae k)]
theorem agT (s g:Int) (es:List (Z ak×Z ak)) (fr bJ f0 d5:Int) (E:0<=bJ) (G:0<=fr) (al:bJ<=s) (aZ:fr<=s - bJ) (ax:s<=4096) (bK:0<=f0) (fD:d5<=1000000):Fn Tryz.prog 137 [ao 1001,ae fr,ae bJ,ae f0,ae d5,.c (.one (.cT 138 [.p 3001 0]))] (rz s g es) [] (ae 0) (rz s g (sz es f0 (d5 - f0).toNat)):=by
 have m1:cY (s - bJ):=by omega
 refine aW [] Tryz.func137 rfl rfl rfl rfl ?_;refine⟨fun h=>absurd (gd h) au5,fun _=>?_⟩;refine⟨fun h=>absurd (gd h) au5,fun _=>?_⟩;refine⟨fun h=>absurd (gd h) au5,fun _=>?_⟩;refine⟨m1,fun h=>absurd (gd h) au5,fun _=>?_⟩;refine dX [6] (X:=Nat) (fun j=>agS d5 (f0+(j:Int))) (fun j=>rz s g (sz es f0 j)) (fun j=>j<=(d5 - f0).toNat) (fun j=>(d5 - f0).toNat - j) 0 (ap7 _) ?_ ?_
 .exact af.sub ⟨rfl,rfl,(show f0=f0+((0:Nat):Int) by omega),trivial⟩ ac
 intro j aa;have aa:j<=(d5 - f0).toNat:=aa;refine⟨fun H=>?_,fun H=>?_⟩
 .have H:decide (f0+(j:Int) < d5)=true:=H;have H:=gd H;refine bz [] (aH) ?_;refine au (agR s g (sz es f0 j) (f0+(j:Int))) ?_;exact⟨au5,j+1,au5,au5,af.sub ⟨rfl,rfl,(show f0+(j:Int)+1=f0+((j+1:Nat):Int) by omega),trivial⟩ ac⟩
 .have H:decide (f0+(j:Int) < d5)=false:=H;have H:=mu H;have fh:j=(d5 - f0).toNat:=by omega
  subst fh;exact aT aH rfl rfl ac rfl
theorem agU (s g:Int) (es:List (Z ak×Z ak)) (fr bJ f0 d5:Int) (h: ¬(0<=bJ/\0<=fr/\bJ<=s/\fr<=s - bJ)) (ax:0<=s/\s<=4096):Fn Tryz.prog 137 [ao 1001,ae fr,ae bJ,ae f0,ae d5,.c (.one (.cT 138 [.p 3001 0]))] (rz s g es) [] (ae 1) (rz s g es):=by
 refine aW [] Tryz.func137 rfl rfl rfl rfl ?_;refine⟨fun _=>?_,fun cx=>?_⟩
 .exact aT aH rfl rfl ac rfl
 refine⟨fun _=>?_,fun cA=>?_⟩
 .exact aT aH rfl rfl ac rfl
 refine⟨fun _=>?_,fun dy=>?_⟩
 .exact aT aH rfl rfl ac rfl
 have cx: ¬bJ < 0:=mu cx;have cA: ¬fr < 0:=mu cA;have dy: ¬s < bJ:=mu dy;have m1:cY (s - bJ):=by omega
 refine⟨m1,fun _=>?_,fun fa=>?_⟩
 .exact aT aH rfl rfl ac rfl
 .exfalso;have fa: ¬s - bJ < fr:=mu fa;exact h au5
def x1 (s fr bJ:Int):Prop:=0<=bJ/\0<=fr/\bJ<=s/\fr<=s - bJ
instance (s fr bJ:Int):Decidable (x1 s fr bJ):=by unfold x1;infer_instance
def nj (s g:Int) (es:List (Z ak×Z ak)) (fr bJ:Int):List (Z ak×Z ak):=if x1 s fr bJ then sz es (fr/g) ((if bJ=0 then 0 else(fr+bJ+g - 1)/g) - fr/g).toNat else es
abbrev Gl (fr bJ d5:Int):a1:=[(1,ae fr),(2,ae bJ),(3,ao 3),(7,ae d5)]
abbrev CV (s g:Int) (es:List (Z ak×Z ak)):ay:=io s g es++[(3,.cells [.ptr 1001 0])]
theorem LD (s g:Int) (es:List (Z ak×Z ak)) (fr bJ:Int) (ax:0<=s/\s<=4096) (a6:1<=g/\g<=64):Fn Tryz.prog 85 [ao 1001,ae fr,ae bJ] (io s g es) [] (ae (if x1 s fr bJ then 0 else 1)) (io s g (nj s g es fr bJ)):=by
 by_cases az:x1 s fr bJ
 .have bG:nj s g es fr bJ=sz es (fr/g) ((if bJ=0 then 0 else(fr+bJ+g - 1)/g) - fr/g).toNat:=if_pos az;rw[bG,if_pos az];obtain⟨kH,v2,v3,v4⟩:=az;have dY:(0:Int)<=fr/g:=au4 au5 au5;have cR:fr/g<=fr:=Int.ediv_le_self _ au5;have dG:(0:Int)<=(fr+bJ+g - 1)/g:=au4 au5 au5;have dL:(fr+bJ+g - 1)/g<=fr+bJ+g - 1:=Int.ediv_le_self _ au5;have cH:cY (fr+bJ):=by omega
  have dF:cY (fr+bJ+g):=by omega
  have la:cY (fr+bJ+g - 1):=by omega
  have sl:cY ((fr+bJ+g - 1)/g):=by omega
  have n5:cY (fr/g):=by omega
  have n6:(0:Int)<=fr+bJ+g - 1/\0 < g:=by omega
  have n7:(0:Int)<=fr/\0 < g:=by omega
  have V:=fun d5 (h:d5<=1000000)=>agT s g es fr bJ (fr/g) d5 kH v2 v3 v4 ax.2 dY h
  have i6:=V _ (show(fr+bJ+g - 1)/g<=1000000 by omega);have gA:=V 0 au6;generalize xA:(fr+bJ+g - 1)/g=d5 at*;generalize CU:fr/g=f0 at*;refine aW [4] Tryz.func85 rfl rfl rfl rfl ?_;refine⟨rfl,cH,dF,la,n6,by rw[xA];exact sl,rfl,fun aq=>?_,fun aq=>?_⟩
  .have aq:bJ=0:=gd aq;rw[if_pos aq];refine bz [] (cG (Gl fr bJ 0) (CV s g es)) ?_;refine⟨n7,by rw[CU];exact n5,au (Fn.arg (args:=[ao 1001,ae fr,ae bJ,ae (fr/g),ae 0,.c (.one (.cT 138 [.p 3001 0]))]) gA ⟨rfl,rfl,rfl,CU,rfl,rfl,trivial⟩ |> Fn.aX [(3001,3)]) ?_⟩;refine⟨rfl,?_⟩;exact aT aH rfl rfl ac rfl
  .have aq: ¬bJ=0:=mu aq;rw[if_neg aq];refine bz [] (af.sub (K':=Gl fr bJ d5) (B':=CV s g es) ⟨rfl,rfl,rfl,xA,trivial⟩ ac) ?_;refine⟨n7,by rw[CU];exact n5,au (Fn.arg (args:=[ao 1001,ae fr,ae bJ,ae (fr/g),ae d5,.c (.one (.cT 138 [.p 3001 0]))]) i6 ⟨rfl,rfl,rfl,CU,rfl,rfl,trivial⟩ |> Fn.aX [(3001,3)]) ?_⟩;refine⟨rfl,?_⟩;exact aT aH rfl rfl ac rfl
 .have bG:nj s g es fr bJ=es:=if_neg az;rw[bG,if_neg az];have V:=fun f0 d5=>agU s g es fr bJ f0 d5 az ax
  refine aW [1,4] Tryz.func85 rfl rfl rfl rfl ?_;refine⟨rfl,bt.m5 (2000000+10) au6 ?_⟩;refine bt.m5 (2000000+15) au6 ?_;refine bt.m5 (2000000+16) au6 ?_;refine bt.m5 (2000000+21) au6 ?_;refine bz [4] (aH) ?_;refine⟨_,_,fun N=>Ad rfl rfl rfl (.inl ⟨rfl,rfl⟩) N,rfl,?_⟩;refine⟨_,_,fun N=>Ad rfl rfl rfl (.inl ⟨rfl,rfl⟩) N,rfl,?_⟩;refine⟨_,_,fun N=>Ad rfl rfl rfl (.inr (.inl ⟨rfl,rfl⟩)) N,rfl,?_⟩;refine⟨_,_,fun N=>Ad rfl rfl rfl (.inr (.inr ⟨rfl,au5,rfl⟩)) N,rfl,?_⟩;refine⟨rfl,?_⟩;generalize IntKind.i64.wrap _=d5;refine⟨fun _=>?_,fun _=>?_⟩
  .show bt _ _ _ _ _ _ _;refine bt.le (cG (Gl fr bJ 0) (CV s g es)) ?_;refine bt.m5 (2000000+32) au6 ?_;refine bz [] (aH) ?_;refine⟨_,_,fun N=>Ad rfl rfl rfl (.inr (.inr ⟨rfl,au5,rfl⟩)) N,rfl,?_⟩;refine au (Fn.aX [(3001,3)] (V _ _)) ?_;refine⟨rfl,?_⟩;exact aT aH rfl rfl ac rfl
  .show bt _ _ _ _ _ _ _;refine bt.le (cG (Gl fr bJ d5) (CV s g es)) ?_;refine bt.m5 (2000000+32) au6 ?_;refine bz [] (aH) ?_;refine⟨_,_,fun N=>Ad rfl rfl rfl (.inr (.inr ⟨rfl,au5,rfl⟩)) N,rfl,?_⟩;refine au (Fn.aX [(3001,3)] (V _ _)) ?_;refine⟨rfl,?_⟩;exact aT aH rfl rfl ac rfl
end
section
open Go.RowKit Go.Proofs Go.Maps Go.Shelf Go.MapKept
open Go.WideElems (Fit rd rg pl rd_val rd_key rg_of)
abbrev jy:bx:=.b7 .u8
def x2:Int->Int->Bool:=fun x y=>decide (x<=y)
def mP (l:List Int):List Int:=l.mergeSort x2
theorem CW (l:List Int):(mP l).Perm l:=List.mergeSort_perm l x2
theorem S0 (m:Nat):AnyZI.SortsIn Tryz.prog Tryz.QM Fence.wide m:=
 ⟨fun bk off cap g3 W cV jI cQ=>callsIn_wide.2 (AnyM.slices_Sort_int Tryz.QO bk off cap g3 W cV jI cQ),
  fun p cap W=>callsIn_wide.2 (AnyM.slices_Sort_int_none Tryz.QO p cap W)⟩
theorem agV (es:List (Z ak×Z jy)):Fn Tryz.prog 151 [.c (.one (.mp 1001))] [(1001,.map ak jy es)] [2001] (.c (.one (.cT 186 [.p 2001 0]))) [(2001,.cells [.mp 1001]),(1001,.map ak jy es)]:=by
 refine aW [] Tryz.func151 rfl rfl rfl rfl ?_;refine⟨rfl,?_⟩;exact⟨_,_,_,af.aX 1 2001 rfl,rfl,rfl,ac,rfl⟩
theorem agW (es:List (Z ak×Z ak)) (hn:(gR es).Nodup) (aq: ∀s∈gR es,(Lit.int .i64 s).wf=true) (ax:es.length<=4294967296):
  Fn Tryz.prog 135 [.c (.one (.cT 178 [.p 2001 0]))] [(2001,.cells [.mp 1001]),(1001,.map ak ak es)] [] (bS ak (mP (gR es))) [(2001,.cells [.mp 1001]),(1001,.map ak ak es)]:=by
 refine⟨au8,fun ρ F I w bW bb cV bj eo b6 dt=>?_⟩
 match bW,b6 with
 | [v],_=>
  obtain⟨aD,az,f2,r,hq,l8,aF⟩:=dt 0 _ v rfl rfl;have aF:r=[]:=aF;have l8:f2= .pointer (some ⟨(ρ 2001).bk,0,none⟩):=l8;subst aF l8 hq az;obtain⟨_,aD,T,gQ,hq⟩:=cV 2001 _ rfl;obtain⟨x,r,hq,hx,aF⟩:=hq;have aF:r=[]:=aF;have hx:x= .map (some (ρ 1001).bk):=hx;subst aF hx hq;obtain⟨_,bT,bU,hc,aA,c'⟩:=cV 1001 _ rfl;have FZ:(4294967296:Nat)<=maxLen:=by decide
  obtain⟨je,du,cQ,oV⟩:=Li (P:=Tryz.prog) (k:=3) au8 hc aA c' hn aq au5;have bw:(ρ 2001).bk < w.heap.size:=k0 gQ
  have uK:SeqGives Fence.wide 2 Tryz.prog 178 #[.pointer (some ⟨(ρ 2001).bk,0,none⟩)] encZ (fun g3=>g3.Perm (intKeys je)) (Maps.size je) w:=
   AnyZI.keys_gives (ρ:=Tryz.J2) {Tryz.QK with} Fence.wide _ trivial rfl au5 (ρ 2001).bk (ρ 1001).bk es.length je w bw (oD gQ rfl) du
  have H:=AnyZI.sorted_in Tryz.QN Fence.wide 5 trivial trivial trivial trivial rfl au5 (S0 _) (enters_of Tryz.func177 au8 rfl) 178 #[.pointer (some ⟨(ρ 2001).bk,0,none⟩)] trivial (enters_of Tryz.func178 au8 rfl) _ _ (by rw[cQ];omega) (by rw[cQ];omega) _ uK;refine(callsIn_wide.1 H).mono ?_;rintro e w' ⟨v,g3,rfl,av,fW,xT,gC⟩;have aY:cd I w (fun b=>b < w'.heap.size/\(I b\/w.heap.size<=b)) w':=fun b fM=>⟨⟨Nat.lt_of_lt_of_le (bb b fM) gC.size,.inl fM⟩,gC.block b (bb b fM)⟩
  refine⟨v,ρ,F,rfl,cJ.mn gC,fun _ _=>rfl,_,aY,fun b h=>⟨h.1,h.2.imp id .inr⟩,fun c ch H=>Holds.cg aY (fun b O=>gC.block b (bj c ch H b O).1) gC.size ch (fun _ _=>rfl) (cV c ch H),fun c ch H b O=>?_,fun c bX ch ch' b E G=>eo c bX ch ch' b E G,?_⟩
  .have:=bj c ch H b O;exact⟨Nat.lt_of_lt_of_le this.1 gC.size,fun h=>(by rcases h.2 with h |h;exact this.2 h;omega),.inl ⟨c,ch,H,O⟩⟩
  .have ab:g3.mergeSort (fun x y=>decide (x<=y))=mP (gR es):=Go.mergeSort_of_perm_i (av.trans oV);rw[ab] at fW;have ho:=eL.qO fW;have wd:g3.length=(mP (gR es)).length:=by rw[<-ab,List.length_mergeSort]
   rw[wd] at ho;exact(ho.wR fun i _ aI=>(fW.lt i aI).1).Lk fun b E G=>⟨E,.inr G⟩
theorem agX (es:List (Z ak×Z jy)) (hn:(gR es).Nodup) (aq: ∀s∈gR es,(Lit.int .i64 s).wf=true) (ax:es.length<=4294967296):
  Fn Tryz.prog 135 [.c (.one (.cT 186 [.p 2001 0]))] [(2001,.cells [.mp 1001]),(1001,.map ak jy es)] [] (bS ak (mP (gR es))) [(2001,.cells [.mp 1001]),(1001,.map ak jy es)]:=by
 refine⟨au8,fun ρ F I w bW bb cV bj eo b6 dt=>?_⟩
 match bW,b6 with
 | [v],_=>
  obtain⟨aD,az,f2,r,hq,l8,aF⟩:=dt 0 _ v rfl rfl;have aF:r=[]:=aF;have l8:f2= .pointer (some ⟨(ρ 2001).bk,0,none⟩):=l8;subst aF l8 hq az;obtain⟨_,aD,T,gQ,hq⟩:=cV 2001 _ rfl;obtain⟨x,r,hq,hx,aF⟩:=hq;have aF:r=[]:=aF;have hx:x= .map (some (ρ 1001).bk):=hx;subst aF hx hq;obtain⟨_,bT,bU,hc,aA,c'⟩:=cV 1001 _ rfl;have FZ:(4294967296:Nat)<=maxLen:=by decide
  obtain⟨je,du,cQ,oV⟩:=Li (P:=Tryz.prog) (k:=3) au8 hc aA c' hn aq au5;have bw:(ρ 2001).bk < w.heap.size:=k0 gQ
  have uK:SeqGives Fence.wide 2 Tryz.prog 186 #[.pointer (some ⟨(ρ 2001).bk,0,none⟩)] encZ (fun g3=>g3.Perm (intKeys je)) (Maps.size je) w:=
   AnyZI.keys_gives (ρ:=Tryz.QL) {Tryz.acF with} Fence.wide _ trivial rfl au5 (ρ 2001).bk (ρ 1001).bk es.length je w bw (oD gQ rfl) du
  have H:=AnyZI.sorted_in Tryz.QN Fence.wide 5 trivial trivial trivial trivial rfl au5 (S0 _) (enters_of Tryz.func177 au8 rfl) 186 #[.pointer (some ⟨(ρ 2001).bk,0,none⟩)] trivial (enters_of Tryz.func186 au8 rfl) _ _ (by rw[cQ];omega) (by rw[cQ];omega) _ uK;refine(callsIn_wide.1 H).mono ?_;rintro e w' ⟨v,g3,rfl,av,fW,xT,gC⟩;have aY:cd I w (fun b=>b < w'.heap.size/\(I b\/w.heap.size<=b)) w':=fun b fM=>⟨⟨Nat.lt_of_lt_of_le (bb b fM) gC.size,.inl fM⟩,gC.block b (bb b fM)⟩
  refine⟨v,ρ,F,rfl,cJ.mn gC,fun _ _=>rfl,_,aY,fun b h=>⟨h.1,h.2.imp id .inr⟩,fun c ch H=>Holds.cg aY (fun b O=>gC.block b (bj c ch H b O).1) gC.size ch (fun _ _=>rfl) (cV c ch H),fun c ch H b O=>?_,fun c bX ch ch' b E G=>eo c bX ch ch' b E G,?_⟩
  .have:=bj c ch H b O;exact⟨Nat.lt_of_lt_of_le this.1 gC.size,fun h=>(by rcases h.2 with h |h;exact this.2 h;omega),.inl ⟨c,ch,H,O⟩⟩
  .have ab:g3.mergeSort (fun x y=>decide (x<=y))=mP (gR es):=Go.mergeSort_of_perm_i (av.trans oV);rw[ab] at fW;have ho:=eL.qO fW;have wd:g3.length=(mP (gR es)).length:=by rw[<-ab,List.length_mergeSort]
   rw[wd] at ho;exact(ho.wR fun i _ aI=>(fW.lt i aI).1).Lk fun b E G=>⟨E,.inr G⟩
end
section
section
variable {P:Program} {N:Nat} {ids:List Nat} {K:a1} {B:ay} {o:Oper}
abbrev x3 (f b:Nat):aQ:=.c (.one (.bI (.func (.func f) #[.pointer (some ⟨b,0,none⟩)] #[])))
theorem jz {f:FuncId} {x:Operand} {d m b:Nat} (ai:o.op= .makeFunc (.func f) #[x] #[]) (hx:a7 K x= .c (.one (.ptr d 0))) (aA:ah B m=some (.co d (e6 b))) (N:Nat):bB P N ids o K B (x3 f b) ⟨[m],[],[]⟩:=by
 have m1:x∈o.op.operands:=by rw[ai];simp[Op.operands]
 refine bB.val fun K' B' g1 g2 C ρ F a w ar av=>?_
 have aj:=av.ptr ((g1 x m1).trans hx);have ap:=ps (N:=N) (a:=a) ar ((g2 m au7).trans aA);rw[ap] at aj;refine⟨.func (.func f) #[.pointer (some ⟨b,0,none⟩)] #[],?_,rfl⟩;simp[execOp,ai,Instr.makeFunc,aj]
theorem agY {f:FuncId} {c:Call} {t b:Nat} {xs:List Operand} {aK:ay} {res:aQ} {aP:ay} (ai:o.op= .call c) (E:c.callee= .value (.tmp t)) (G:c.args.toList=xs) (aq:dA K t=x3 f b) (hf:Fn P f (.c (.one (.d (.aM (some b))))::xs.map (a7 K)) aK [] res aP) (hP:kI B aK) (bu:mv aK [] aP=true) (N:Nat):
  bB P N ids o K B res ⟨cl aK,[],iy aK aP⟩:=by
 have mem: ∀aB∈xs,aB∈o.op.operands:=fun aB aR=>by
  rw[ai];simp only[Op.operands,Call.operands,Array.mem_append];exact .inr (Array.mem_toList_iff.1 (by rw[G];exact aR))
 have xc:Operand.tmp t∈o.op.operands:=by
  rw[ai];simp only[Op.operands,Call.operands,Array.mem_append,E];exact .inl au7
 obtain⟨v,e,⟨rfl,rfl⟩,aE,_⟩:cC P N ids o K B (fun v e=>v=res/\e=⟨cl aK,[],iy aK aP⟩):=Bj (args:=.c (.one (.d (.aM (some b))))::xs.map (a7 K)) mem (fun K' ρ I a w g1 av=>by
  have az:=av t;have ab:dA K' t=dA K t:=g1 (.tmp t) xc;rw[ab,aq] at az;have e:a.tmps.getD t undef= .func (.func f) #[.pointer (some ⟨b,0,none⟩)] #[]:=az;refine⟨.pointer (some ⟨b,0,none⟩)::xs.map a.eval,fun fR=>Qc fR ai E G e,au7,fun i v x az hx=>?_⟩
  match i with
  |0=>
   simp only[aq5,ap4] at az hx;subst az hx;exact rfl
  |i+1=>exact y4 mem g1 av i v x (by simpa using az) (by simpa using hx)) ⟨aK,[],res,aP,hf,hP,by rw[bu];rfl,by rw[rT];exact⟨rfl,rfl⟩⟩
 exact aE
end
abbrev CX (p:Nat×List UInt8):Z ak×Z jy:=@Prod.mk Int (List UInt8) (p.1:Int) p.2
abbrev j6 (g:List (Nat×List UInt8)):List (Z ak×Z jy):=g.map CX
theorem S1 (g:List (Nat×List UInt8)):(j6 g).length=g.length:=aq3 _
theorem agZ {l:List (Z ak×Z jy)} {p:Z ak×Z jy} {k:Int} {x:List UInt8} (h:fV ak k p.1=false):dr (aJ:=ak) (aL:=jy) (p::l) k x=p::dr (aJ:=ak) (aL:=jy) l k x:=by
 simp only[dr,h]
theorem S2 (k:Nat) (x:List UInt8): ∀g:List (Nat×List UInt8),k∉g.map Prod.fst->dr (aJ:=ak) (aL:=jy) (j6 g) (k:Int) x=j6 (g++[(k,x)])
 | [],_=>rfl
 |p::g,h=>by
  rw[aq4,ap3,not_or] at h;refine(agZ (p:=CX p) (l:=j6 g) ((CP k p.1).trans (ar8 h.1))).trans ?_;rw[S2 k x g h.2];rfl
abbrev CY (nm:List UInt8) (bi n rm:Int) (over done:Bool):List bC:=[.ptr 1001 0,.d (.str nm),.d (.int .i64 bi),.d (.int .i64 n),.d (.int .i64 rm),.mp 2002,.mp 2003,.d (.bool over),.d (.bool done)]
abbrev ip (z U:Int) (L:List aO) (nm:List UInt8) (n rm:Int) (l:List Nat) (g:List (Nat×List UInt8)) (over done:Bool):ay:=bP z U L++[(2001,.cells (CY nm z n rm over done)),(2002,.map ak ak (fY l)),(2003,.map ak jy (j6 g))]
section
variable {z U:Nat} {L:List aO} {nm:List UInt8}
theorem ag0 (z U:Int) (L:List aO) (nm:List UInt8) (n rm:Int) (l:List Nat) (g:List (Nat×List UInt8)) (over done:Bool):Fn Tryz.prog 291 [ao 2001] (ip z U L nm n rm l g over done) [] (fI over) (ip z U L nm n rm l g over done):=by
 refine aW [] Tryz.func291 rfl rfl rfl rfl ?_;exact aT aH rfl rfl ac rfl
theorem ag1 (z U:Int) (L:List aO) (nm:List UInt8) (n rm:Int) (l:List Nat) (g:List (Nat×List UInt8)) (over done:Bool):Fn Tryz.prog 65 [ao 2001] (ip z U L nm n rm l g over done) [] (fI done) (ip z U L nm n rm l g over done):=by
 refine aW [] Tryz.func65 rfl rfl rfl rfl ?_;exact aT aH rfl rfl ac rfl
theorem S3 (z U:Int) (L:List aO) (nm:List UInt8) (n rm:Int) (l:List Nat) (g:List (Nat×List UInt8)) (over done:Bool):Fn Tryz.prog 175 [ao 2001] (ip z U L nm n rm l g over done) [] gI (ip z U L nm n rm [] g true done):=by
 refine aW [] Tryz.func175 rfl rfl rfl rfl ?_;refine⟨_,_,fun N=>SM rfl Tryz.underlying159 rfl rfl N,rfl,?_⟩;exact⟨_,_,_,af.sw 2001 (l':=CY nm z n rm true done) rfl ac,rfl,trivial,ac,rfl⟩
structure ag2 where
 e:Int
 l:List Nat
 g:List (Nat×List UInt8)
 over:Bool
def ei (z:Nat) (L:List aO) (nm:List UInt8) (rm:Int) (l:List Nat) (g:List (Nat×List UInt8)) (k:Nat):ag2:=if rm<=((g.length:Nat):Int) then⟨171,[],g,true⟩ else⟨0,l.erase k,g++[(k,hH z L nm (k:Int))],false⟩
theorem ag3 (h:cE z U L) (nm:List UInt8) (n rm:Int) (l:List Nat) (g:List (Nat×List UInt8)) (done:Bool) (k:Nat) (ab:k∉g.map Prod.fst):Fn Tryz.prog 134 [ao 2001,ae (k:Int)] (ip z U L nm n rm l g false done) [] (ae (ei z L nm rm l g k).e) (ip z U L nm n rm (ei z L nm rm l g k).l (ei z L nm rm l g k).g (ei z L nm rm l g k).over done):=by
 have dJ:=Ld h nm (k:Int);have b6:=S1 g;have rr:=S2 k (hH z L nm (k:Int)) g ab;have dC:=Lo k l
 by_cases c:rm<=((g.length:Nat):Int)
 .have e:ei z L nm rm l g k=⟨171,[],g,true⟩:=if_pos c;rw[e];refine aW [2] Tryz.func134 rfl rfl rfl rfl ?_;refine⟨rfl,fun _=>?_,fun bl=>?_⟩
  .show bt _ _ _ _ _ _ _;refine bz [] (aH) ?_;refine au (S3 z U L nm n rm l g false done) ?_;exact aT aH rfl rfl ac rfl
  .exfalso;have bl:decide (rm<=(((j6 g).length:Nat):Int))=false:=bl;have:=mu bl;omega
 .have e:ei z L nm rm l g k=⟨0,l.erase k,g++[(k,hH z L nm (k:Int))],false⟩:=if_neg c;rw[e];generalize hH z L nm (k:Int)=x at*;refine aW [4] Tryz.func134 rfl rfl rfl rfl ?_;refine⟨rfl,fun bl=>?_,fun _=>?_⟩
  .exfalso;have bl:decide (rm<=(((j6 g).length:Nat):Int))=true:=bl;have:=gd bl;omega
  refine bz [] (aH) ?_;refine au dJ ?_;refine⟨trivial,rfl,?_⟩;exact aT aH rfl rfl ⟨rfl,rfl,rfl,rfl,rfl,congrArg (fun aB=>some (bd.map ak ak aB)) dC,congrArg (fun aB=>some (bd.map ak jy aB)) rr,trivial⟩ rfl
abbrev tB (z U:Int) (L:List aO) (nm:List UInt8) (n rm:Int) (l:List Nat) (g:List (Nat×List UInt8)) (over done:Bool) (b:Nat):ay:=ip z U L nm n rm l g over done++[(9001,.co 2001 (e6 b))]
theorem S4 (h:cE z U L) (nm:List UInt8) (n rm:Int) (l:List Nat) (g:List (Nat×List UInt8)) (done:Bool) (k:Nat) (ab:k∉g.map Prod.fst) (b:Nat):Fn Tryz.prog 134 [.c (.one (.d (.aM (some b)))),ae (k:Int)] (tB z U L nm n rm l g false done b) [] (ae (ei z L nm rm l g k).e) (tB z U L nm n rm (ei z L nm rm l g k).l (ei z L nm rm l g k).g (ei z L nm rm l g k).over done b):=by
 have H:=ag3 h nm n rm l g done k ab;generalize ei z L nm rm l g k=r at*
 refine Fn.via (X:=Unit) (args':=fun _=>[ao 2001,ae (k:Int)]) (uy:=fun _=>tB z U L nm n rm l g false done b) (m0:=fun _=>ip z U L nm n rm l g false done) (i':=fun _=>[]) (res':=fun _=>ae r.e) (nR:=fun _=>ip z U L nm n rm r.l r.g r.over done)
  au8 2 rfl ?_ (fun _=>H) (fun _=>ac) (fun _=>rfl) (fun _=>rfl) ?_
 .intro N C a w ax;exact⟨(),eX.sub (af.JX 0 2001 9001 b rfl rfl N C a w ax) ac ac⟩
 .intro _;exact⟨ae r.e,tB z U L nm n rm r.l r.g r.over done b,af.sub ac ac,rfl,ac,rfl⟩
structure ag4 where
 so:Bool
 e:Int
 l:List Nat
 g:List (Nat×List UInt8)
 over:Bool
 done:Bool
def i1 (z:Nat) (L:List aO) (nm:List UInt8) (rm:Int) (l:List Nat) (g:List (Nat×List UInt8)) (over done:Bool):ag4:=if over=true then⟨false,170,l,g,true,done⟩ else if l=[] then⟨true,0,[],g,true,true⟩ else
 ⟨false,(ei z L nm rm l g (eQ l)).e,(ei z L nm rm l g (eQ l)).l,(ei z L nm rm l g (eQ l)).g,(ei z L nm rm l g (eQ l)).over,done⟩
set_option maxHeartbeats 1000000 in
theorem ag5 (h:cE z U L) (nm:List UInt8) (n rm:Int) (l:List Nat) (g:List (Nat×List UInt8)) (over done:Bool) (aq: ∀k,k∈l->k<=100000) (p3:l.length<=100000) (hn:l.Nodup) (a6: ∀k,k∈l->k∉g.map Prod.fst):Fn Tryz.prog 292 [ao 2001] (ip z U L nm n rm l g over done) [] (.ce [.one (.d (.bool (i1 z L nm rm l g over done).so)),dw (i1 z L nm rm l g over done).e])
  (ip z U L nm n rm (i1 z L nm rm l g over done).l (i1 z L nm rm l g over done).g (i1 z L nm rm l g over done).over (i1 z L nm rm l g over done).done):=by
 cases over with
 |true=>
  have e:i1 z L nm rm l g true done=⟨false,170,l,g,true,done⟩:=if_pos rfl;rw[e];refine aW [] Tryz.func292 rfl rfl rfl rfl ?_;refine eO ?_;exact aT aH rfl ac ac rfl
 |false=>
  have q7:=Ln l
  by_cases ba:l=[]
  .have e:i1 z L nm rm l g false done=⟨true,0,[],g,true,true⟩:=(if_neg au6).trans (if_pos ba);rw[e];subst ba;refine aW [] Tryz.func292 rfl rfl rfl rfl ?_;refine da ?_;refine eO ?_;exact⟨_,_,_,af.sw 2001 (l':=CY nm z n rm true true) rfl ac,rfl,ac,ac,rfl⟩
  .have e:i1 z L nm rm l g false done=⟨false,(ei z L nm rm l g (eQ l)).e,(ei z L nm rm l g (eQ l)).l,(ei z L nm rm l g (eQ l)).g,(ei z L nm rm l g (eQ l)).over,done⟩:=(if_neg au6).trans (if_neg ba);rw[e];obtain⟨cx,cA,dy⟩:=Gf ba
   have AW: ∀g:{g3:List Int//g3.Perm (gR (fY l))},oZ g.1=((eQ l:Nat):Int):=fun g=>by
    rw[SK g.2 (by rw[uM];simpa using ba),uM];exact cx
   have uC: ∀g:{g3:List Int//g3.Perm (gR (fY l))},g.1.length=l.length:=fun g=>by
    rw[g.2.length_eq,uM,aq3]
   have v6:0 < l.length:=List.length_pos_iff.2 ba;have Lw:=SI (fY l) (Lp hn) (Lq fun k ab=>by have:=aq k ab;omega) au5;have xp:=S4 h nm n rm l g done (eQ l) (a6 _ cA);generalize ei z L nm rm l g (eQ l)=r at*;generalize eQ l=rx at*;refine aW [6,7] Tryz.func292 rfl rfl rfl rfl ?_;refine da ?_;refine⟨fun H=>?_,fun _=>?_⟩
   .exfalso;have H:decide ((((fY l).length:Nat):Int)=0)=true:=H;have:=gd H;omega
   refine bt.eY (df.mark 2001 9001 rfl au6) fun b=>?_
   refine bz [7] (cG [(0,ao 2001)] (tB z U L nm n rm l g false done b)) ?_;refine⟨_,_,fun N=>jz (m:=9001) (b:=b) rfl rfl rfl N,rfl,?_⟩;refine bt.le (cG [(0,ao 2001),(4,x3 134 b)] (tB z U L nm n rm l g false done b)) ?_;refine bt.h3 eN au8 ?_;refine iE ((Fn.aX [(1001,2002),(2001,9101)] (Lj (fY l))).x) fun _=>?_
   refine⟨_,_,_,fun g=>_,fun g=>_,cv.aX [(1001,2002),(2001,9101)] Lw,ac,rfl,fun _=>rfl,fun LE=>?_⟩;have agM:=uC LE;have CS:=AW LE;refine iE ((Fn.res (res':=ae (rx:Int)) (SL LE.1 au5 au5) CS).x) fun _=>?_
   refine iE ((xp b).x) fun _=>?_
   exact aT aH rfl ac ac rfl
end
abbrev tC:bx:=.bR ak jy
def Ae (g:List (Nat×List UInt8)) (k:Int):List UInt8:=(b0 (aJ:=ak) (aL:=jy) (j6 g) k).getD (cK jy)
def S5 (g:List (Nat×List UInt8)) (k:Int):Z tC:=@Prod.mk Int (List UInt8) k (Ae g k)
def n4 (g:List (Nat×List UInt8)):List (Z tC):=(mP (gR (j6 g))).map (S5 g)
theorem Gm (g:List (Nat×List UInt8)):gR (j6 g)=(g.map Prod.fst).map fun k:Nat=>(k:Int):=by
 unfold gR j6;rw[as2,as2];rfl
theorem LF (g:List (Nat×List UInt8)):(n4 g).length=g.length:=by
 unfold n4;rw[aq3,(CW _).length_eq,Gm,aq3,aq3]
theorem LG {B:Nat} (k:Int): ∀g:List (Nat×List UInt8),(∀p,p∈g->p.2.length<=B)->(Ae g k).length<=B
 | [],_=>ap7 _
 |p::g,h=>by
  cases e:fV ak k (CX p).1 with
  |true=>
   have:Ae (p::g) k=p.2:=by
    show(b0 (aJ:=ak) (aL:=jy) (CX p::j6 g) k).getD (cK jy)=p.2;simp only[b0,e];rfl
   rw[this];exact h p (aq1 ..)
  |false=>
   have:Ae (p::g) k=Ae g k:=by
    show(b0 (aJ:=ak) (aL:=jy) (CX p::j6 g) k).getD (cK jy)=(b0 (aJ:=ak) (aL:=jy) (j6 g) k).getD (cK jy);simp only[b0,e]
   rw[this];exact LG k g fun q aV=>h q (ap2 _ aV)
section
variable {z U:Nat} {L:List aO} {nm:List UInt8}
abbrev S6 (ks:List Int) (c k:Nat):a1:=[(0,ao 2001),(5,eM c),(18,bS ak ks),(19,ae (ks.length:Nat)),(20,ae (k:Nat))]
abbrev LH (z U:Int) (L:List aO) (nm:List UInt8) (n rm:Int) (l:List Nat) (g:List (Nat×List UInt8)) (over done:Bool) (c:Nat) (x:List (Z tC)):ay:=ip z U L nm n rm l g over done++[(c,.row 109 tC x)]
set_option maxHeartbeats 1000000 in
theorem ag6 (z U:Int) (L:List aO) (nm:List UInt8) (n rm:Int) (l:List Nat) (g:List (Nat×List UInt8)) (over:Bool) (hn:(g.map Prod.fst).Nodup) (ab: ∀p,p∈g->p.1<=100000/\p.2.length<=100000) (aq:g.length<=100000):
  Fn Tryz.prog 101 [ao 2001] (ip z U L nm n rm l g over true) [] (.ce [.one (.d (.ck tC (n4 g))),dw n,.one (.d (.bool true))]) (ip z U L nm n rm l g over true):=by
 have d0:(gR (j6 g)).Nodup:=by
  rw[Gm];exact Lh (fun x _ y _ e=>by have e:(x:Int)=(y:Int):=e;omega) hn
 have m': ∀s∈gR (j6 g),(Lit.int .i64 s).wf=true:=fun s ax=>by
  rw[Gm] at ax;obtain⟨k,cn,rfl⟩:=ar2.1 ax;obtain⟨p,ag,rfl⟩:=ar2.1 cn;have:=(ab p ag).1;show(decide (IntKind.i64.min<=(p.1:Int))&&decide ((p.1:Int)<=IntKind.i64.max))=true;rw[aq2 (show(IntKind.i64.min:Int)<=(p.1:Int) from Int.le_trans (by decide:IntKind.i64.min<=(0:Int)) au5),aq2 (show(p.1:Int)<=IntKind.i64.max from Int.le_trans (by omega:(p.1:Int)<=1000000) au6)];rfl
 have S7:=S1 g;have Gn:=agX (j6 g) d0 m' au5;have hg:(mP (gR (j6 g))).length=g.length:=by rw[(CW _).length_eq,Gm,aq3,aq3]
 have lu: ∀k:Nat,(h:k < (mP (gR (j6 g))).length)->(n4 g).take k++[S5 g (mP (gR (j6 g)))[k]]=(n4 g).take (k+1):=fun k h=>by
  rw[List.take_add_one];unfold n4;rw[ar0,oj h];rfl
 have g':=LF g;have iR:=fun k=>LG (B:=100000) k g fun p ag=>(ab p ag).2
 generalize mP (gR (j6 g))=ks at*;generalize n4 g=bE at*;refine aW [4,7,9] Tryz.func101 rfl rfl rfl rfl ?_;refine da ?_;refine bz [7,9] (aH) ?_;refine au (Fn.aX [(1001,2003),(2001,9201)] (agV (j6 g))) ?_;refine au (Fn.aX [(1001,2003),(2001,9201)] Gn) ?_;refine dX [7,9] (X:=Nat) (fun k=>S6 ks 5002 k) (fun k=>LH z U L nm n rm l g over true 5002 (bE.take k)) (fun k=>k<=ks.length) (fun k=>ks.length - k) 0 (ap7 _) ?_ ?_
 .exact af.trans (cG [(0,ao 2001),(5,.c (.one .dD)),(18,bS ak ks),(19,ae (ks.length:Nat)),(20,ae 0)] (ip z U L nm n rm l g over true)) (af.trans (af.nil 5 5002 109 tC rfl rfl) (af.sub ac ac))
 intro k cn;have cn:k<=ks.length:=cn;refine⟨fun H=>?_,fun H=>?_⟩
 .have H:decide ((k:Int) < ((ks.length:Nat):Int))=true:=H;have fd:k < ks.length:=by have:=gd H;omega
  have mw:=jv (n:=k) fd;have eu:=lu k fd;generalize ks[k]=q at*;have hx:=iR q;have dJ:=KY (Ae g q) au5
  have b6:List.length (α:=Z tC) (bE.take k)+1<=4294967296:=by
   show(bE.take k).length+1<=4294967296;rw[ap8];omega
  refine⟨au5,q,mw,bz [9] (cG [(0,ao 2001),(5,eM 5002),(18,bS ak ks),(19,ae (ks.length:Nat)),(20,ae (k:Nat)),(7,ae q)] (LH z U L nm n rm l g over true 5002 (bE.take k))) ?_⟩;refine au dJ ?_;refine⟨b6,rfl,?_⟩;exact⟨au5,k+1,fd,au5,af.trans (af.sub (K':=S6 ks 35 (k+1)) (B':=LH z U L nm n rm l g over true 35 (bE.take (k+1))) ac ⟨rfl,rfl,rfl,rfl,rfl,rfl,rfl,congrArg (fun aB=>some (bd.row 109 tC aB)) eu,trivial⟩) (af.trans (af.aX 35 5002 rfl) (af.sub ac ac))⟩
 .have H:decide ((k:Int) < ((ks.length:Nat):Int))=false:=H;have fd:k=ks.length:=by have:=mu H;omega
  have eB:bE.take k=bE:=List.take_of_length_le au5;refine bz [] (af.dV 5002 rfl) ?_;refine⟨rfl,?_⟩;exact aT aH rfl ⟨eB,rfl,rfl,trivial⟩ ac rfl
end
def h8 (f:Nat->Bool) (z:Nat):Nat->List Nat
 |0=>[]
 |s+1=>if f s=true then ni (h8 f z s) (s/2 ^z) else h8 f z s
theorem LI (f:Nat->Bool) (z:Nat): ∀s,(h8 f z s).Nodup
 |0=>at0
 |s+1=>by
  show(if f s=true then ni (h8 f z s) (s/2 ^z) else h8 f z s).Nodup
  split
  .exact SQ (LI f z s)
  .exact LI f z s
theorem LJ (f:Nat->Bool) (z n:Nat): ∀s,s<=n*2 ^z-> ∀k,k∈h8 f z s->k < n
 |0,_,k,h=>by cases h
 |s+1,ax,k,h=>by
  have h:k∈(if f s=true then ni (h8 f z s) (s/2 ^z) else h8 f z s):=h;have J:s/2 ^z < n:=(Nat.div_lt_iff_lt_mul (Nat.two_pow_pos z)).2 au5
  split at h
  .rcases SP.1 h with h |h
   .exact LJ f z n s au5 k h
   .omega
  .exact LJ f z n s au5 k h
section
variable {z U:Nat} {L:List aO} {nm:List UInt8}
abbrev CZ (z U:Int) (L:List aO) (nm:List UInt8) (n rm:Int) (l:List Nat):ay:=bP z U L++[(46,.cells [.ptr 1001 0,.d (.str nm),.d (.int .i64 z),.d (.int .i64 n),.d (.int .i64 rm),.mp 43,.mp 44,.d (.bool false),.d (.bool false)]),(43,.map ak ak (fY l)),(44,.map ak jy [])]
theorem ag7 (h:cE z U L) {d:aO} (J:dk L nm=some d) (rm:Int) (aF:rm < 0):Fn Tryz.prog 62 [ao 1001,bV nm,.c (.one (.bI (.pointer none))),ae rm] (bP z U L) [] (.ce [mF,dw 1]) (bP z U L):=by
 refine aW [] Tryz.func62 rfl rfl rfl rfl ?_;refine au (jx _ _ L h.tohU nm d J) ?_;refine⟨fun _ _=>?_,fun h=>by cases h⟩;refine⟨fun _=>?_,fun h=>absurd (mu h) au5⟩;exact aT aH rfl ac ⟨rfl,rfl,rfl,rfl,trivial⟩ rfl
abbrev ag8 (am:Nat) (nm:List UInt8) (N s:Nat):a1:=[(2,.c (.one (.bI (.pointer none)))),(11,ao 46),(55,ae (N:Nat)),(56,ae (s:Nat))]
set_option maxHeartbeats 1000000 in
theorem ag9 (h:cE z U L) {d:aO} (J:dk L nm=some d) (rm:Int) (aF:0<=rm):Fn Tryz.prog 62 [ao 1001,bV nm,.c (.one (.bI (.pointer none))),ae rm] (bP z U L) [2001,2002,2003] (.ce [.one (.ptr 2001 0),dw 0]) (ip z U L nm (d.im.t.length:Nat) rm (h8 (fun _=>true) z (d.im.t.length*2 ^z)) [] false false):=by
 have nc:=(h.hh d (c1 J).1).1.eW;have fv:=h.tohU.M (c1 J).1;have lr:d.im.z=z:=(h.hh d (c1 J).1).2.1;have x0:=h.b3;have ag:=ko h.b3
 have o0:((d.im.t.length:Nat):Int)*((2 ^((d.im.z:Nat):Int).toNat:Nat):Int)=((d.im.t.length*2 ^z:Nat):Int):=by
  rw[lr];show((d.im.t.length:Nat):Int)*((2 ^z:Nat):Int)=_;rw[Int.natCast_mul]
 have mk:d.im.t.length*2 ^z<=256*8:=Nat.mul_le_mul nc ag.2;have m1:(0:Int)<=((d.im.t.length:Nat):Int)/\(0:Int)<=((d.im.z:Nat):Int)/\((d.im.z:Nat):Int)<=64:=by omega
 have m2:cY (((d.im.t.length:Nat):Int)*((2 ^((d.im.z:Nat):Int).toNat:Nat):Int)):=by rw[o0];omega
 have cH:(0:Int)<=((d.im.t.length:Nat):Int)/\(0:Int)<=((z:Nat):Int)/\((z:Nat):Int)<=64:=by omega
 have C0:((d.im.t.length:Nat):Int)*((2 ^((z:Nat):Int).toNat:Nat):Int)=((d.im.t.length*2 ^z:Nat):Int):=by
  show((d.im.t.length:Nat):Int)*((2 ^z:Nat):Int)=_;rw[Int.natCast_mul]
 have dF:cY (((d.im.t.length:Nat):Int)*((2 ^((z:Nat):Int).toNat:Nat):Int)):=by rw[C0];omega
 refine aW [6,7,10,11] Tryz.func62 rfl rfl rfl rfl ?_;refine au (jx _ _ L h.tohU nm d J) ?_;refine⟨fun _ _=>?_,fun h=>by cases h⟩;refine⟨fun h=>absurd (gd h) au5,fun _=>?_⟩;refine bz [7,10,11] (af.sub (K':=[(0,ao 1001),(1,bV nm),(2,.c (.one (.bI (.pointer none)))),(3,ae rm),(10,dn d.am)]) (B':=bP z U L) ac ⟨rfl,rfl,rfl,rfl,trivial⟩) ?_;refine au (hV (wj d.im) fv rfl rfl rfl rfl) ?_;refine au (hV (na d.im) fv rfl rfl rfl rfl) ?_;refine⟨rfl,rfl,rfl,bz [10,11] (af.trans (af.sw 46 (l':=[.ptr 1001 0,.d (.str nm),.d (.int .i64 ((z:Nat):Int)),.d (.int .i64 ((d.im.t.length:Nat):Int)),.d (.int .i64 rm),.mp 43,.mp 44,.d (.bool false),.d (.bool false)]) rfl ⟨rfl,rfl,congrArg Int.ofNat lr,rfl,rfl,rfl,rfl,rfl,rfl,trivial⟩) (af.sub (K':=[(2,.c (.one (.bI (.pointer none)))),(11,ao 46)]) (B':=CZ z U L nm (d.im.t.length:Nat) rm []) ac ⟨rfl,rfl,rfl,rfl,rfl,rfl,rfl,trivial⟩)) ?_⟩;refine⟨cH,dF,rfl,dX [10,11] (X:=Nat) (fun s=>ag8 d.am nm (d.im.t.length*2 ^z) s) (fun s=>CZ z U L nm (d.im.t.length:Nat) rm (h8 (fun _=>true) z s)) (fun s=>s<=d.im.t.length*2 ^z) (fun s=>d.im.t.length*2 ^z - s) 0 (ap7 _) ?_ ?_⟩
 .exact af.sub ⟨rfl,rfl,C0,rfl,trivial⟩ ⟨rfl,rfl,rfl,rfl,rfl,rfl,rfl,trivial⟩
 intro s ax;have ax:s<=d.im.t.length*2 ^z:=ax;refine⟨fun H=>?_,fun H=>?_⟩
 .have H:decide ((s:Int) < ((d.im.t.length*2 ^z:Nat):Int))=true:=H;have iD:s < d.im.t.length*2 ^z:=by have:=gd H;omega
  have cx:(0:Int)<=(s:Int)/\(0:Int)<=((z:Nat):Int)/\((z:Nat):Int)<=64:=by omega
  have sr:(s:Int)/((2 ^((z:Nat):Int).toNat:Nat):Int)=((s/2 ^z:Nat):Int):=by
   show(s:Int)/((2 ^z:Nat):Int)=_;rfl
  refine bz [11] (af.sub (K':=[(2,.c (.one (.bI (.pointer none)))),(11,ao 46),(55,ae ((d.im.t.length*2 ^z:Nat):Int)),(56,ae (s:Nat)),(12,ae (s:Nat))]) (B':=CZ z U L nm (d.im.t.length:Nat) rm (h8 (fun _=>true) z s)) ac ⟨rfl,rfl,rfl,rfl,rfl,rfl,rfl,trivial⟩) ?_;refine bz [] (af.sub (K':=[(2,.c (.one (.bI (.pointer none)))),(11,ao 46),(55,ae ((d.im.t.length*2 ^z:Nat):Int)),(56,ae (s:Nat)),(12,ae (s:Nat))]) (B':=CZ z U L nm (d.im.t.length:Nat) rm (h8 (fun _=>true) z s)) ac ⟨rfl,rfl,rfl,rfl,rfl,rfl,rfl,trivial⟩) ?_;refine⟨cx,trivial,rfl,?_⟩;exact⟨au5,s+1,iD,au5,af.sub ac ⟨rfl,rfl,rfl,rfl,rfl,congrArg (fun aB=>some (bd.map ak ak aB)) ((CQ (s/2 ^z) _).trans (congrArg fY (show ni (h8 (fun _=>true) z s) (s/2 ^z)=h8 (fun _=>true) z (s+1) from(if_pos rfl).symm))),rfl,trivial⟩⟩
 .have H:decide ((s:Int) < ((d.im.t.length*2 ^z:Nat):Int))=false:=H;have iD:s=d.im.t.length*2 ^z:=by have:=mu H;omega
  subst iD;exact⟨_,_,_,af.trans (af.aX 46 2001 rfl) (af.trans (af.aX 43 2002 rfl) (af.aX 44 2003 rfl)),rfl,ac,⟨rfl,rfl,rfl,rfl,rfl,rfl,rfl,trivial⟩,rfl⟩
abbrev x4 (s g:Int) (es:List (Z ak×Z ak)):ay:=[(5001,.cells [.d (.int .i64 s),.d (.int .i64 g),.mp 5002]),(5002,.map ak ak es)]
abbrev S8 (z U:Int) (L:List aO) (s g:Int) (es:List (Z ak×Z ak)):ay:=bP z U L++x4 s g es
abbrev Gp (z U:Int) (L:List aO) (nm:List UInt8) (n rm:Int) (l:List Nat) (s g:Int) (es:List (Z ak×Z ak)):ay:=CZ z U L nm n rm l++x4 s g es
abbrev ag' (z U:Int) (L:List aO) (nm:List UInt8) (n rm:Int) (l:List Nat) (qg:List (Nat×List UInt8)) (over done:Bool) (s g:Int) (es:List (Z ak×Z ak)):ay:=ip z U L nm n rm l qg over done++x4 s g es
theorem aha (h:cE z U L) {d:aO} (J:dk L nm=some d) (rm:Int) (aF:rm < 0) (s g:Int) (es:List (Z ak×Z ak)):Fn Tryz.prog 62 [ao 1001,bV nm,ao 5001,ae rm] (bP z U L++[(5001,.cells [.d (.int .i64 s),.d (.int .i64 g),.mp 5002]),(5002,.map ak ak es)]) [] (.ce [mF,dw 1]) (bP z U L++[(5001,.cells [.d (.int .i64 s),.d (.int .i64 g),.mp 5002]),(5002,.map ak ak es)]):=by
 refine aW [] Tryz.func62 rfl rfl rfl rfl ?_;refine au (jx _ _ L h.tohU nm d J) ?_;refine⟨fun _ _=>?_,fun h=>by cases h⟩;refine⟨fun _=>?_,fun h=>absurd (mu h) au5⟩;exact aT aH rfl ac ac rfl
abbrev ahb (am:Nat) (nm:List UInt8) (N s:Nat):a1:=[(2,ao 5001),(11,ao 46),(55,ae (N:Nat)),(56,ae (s:Nat))]
set_option maxHeartbeats 1000000 in
theorem ahc (h:cE z U L) {d:aO} (J:dk L nm=some d) (rm:Int) (aF:0<=rm) (g:Int) (es:List (Z ak×Z ak)) (a6:1<=g):Fn Tryz.prog 62 [ao 1001,bV nm,ao 5001,ae rm] (S8 z U L ((d.im.t.length*2 ^z:Nat):Int) g es) [2001,2002,2003] (.ce [.one (.ptr 2001 0),dw 0]) (ag' z U L nm (d.im.t.length:Nat) rm (h8 (mO g es) z (d.im.t.length*2 ^z)) [] false false ((d.im.t.length*2 ^z:Nat):Int) g es):=by
 have nc:=(h.hh d (c1 J).1).1.eW;have fv:=h.tohU.M (c1 J).1;have lr:d.im.z=z:=(h.hh d (c1 J).1).2.1;have x0:=h.b3;have ag:=ko h.b3
 have o0:((d.im.t.length:Nat):Int)*((2 ^((d.im.z:Nat):Int).toNat:Nat):Int)=((d.im.t.length*2 ^z:Nat):Int):=by
  rw[lr];show((d.im.t.length:Nat):Int)*((2 ^z:Nat):Int)=_;rw[Int.natCast_mul]
 have mk:d.im.t.length*2 ^z<=256*8:=Nat.mul_le_mul nc ag.2;have m1:(0:Int)<=((d.im.t.length:Nat):Int)/\(0:Int)<=((d.im.z:Nat):Int)/\((d.im.z:Nat):Int)<=64:=by omega
 have m2:cY (((d.im.t.length:Nat):Int)*((2 ^((d.im.z:Nat):Int).toNat:Nat):Int)):=by rw[o0];omega
 have cH:(0:Int)<=((d.im.t.length:Nat):Int)/\(0:Int)<=((z:Nat):Int)/\((z:Nat):Int)<=64:=by omega
 have C0:((d.im.t.length:Nat):Int)*((2 ^((z:Nat):Int).toNat:Nat):Int)=((d.im.t.length*2 ^z:Nat):Int):=by
  show((d.im.t.length:Nat):Int)*((2 ^z:Nat):Int)=_;rw[Int.natCast_mul]
 have dF:cY (((d.im.t.length:Nat):Int)*((2 ^((z:Nat):Int).toNat:Nat):Int)):=by rw[C0];omega
 refine aW [6,7,10,11] Tryz.func62 rfl rfl rfl rfl ?_;refine au (jx _ _ L h.tohU nm d J) ?_;refine⟨fun _ _=>?_,fun h=>by cases h⟩;refine⟨fun h=>absurd (gd h) au5,fun _=>?_⟩;refine au (Fn.aX [(1001,5001),(1002,5002)] (LC ((d.im.t.length*2 ^z:Nat):Int) g es)) ?_;refine au (hV (na d.im) fv rfl rfl rfl rfl) ?_;refine au (hV (wj d.im) fv rfl rfl rfl rfl) ?_;refine⟨m1,m2,fun bl=>?_,fun _=>?_⟩
 .exfalso;have bl:(!decide (((d.im.t.length*2 ^z:Nat):Int)=((d.im.t.length:Nat):Int)*((2 ^((d.im.z:Nat):Int).toNat:Nat):Int)))=true:=bl;rw[o0,aq2 rfl] at bl
  cases bl
 refine bz [7,10,11] (cG [(0,ao 1001),(1,bV nm),(2,ao 5001),(3,ae rm),(10,dn d.am)] (S8 z U L ((d.im.t.length*2 ^z:Nat):Int) g es)) ?_;refine au (hV (wj d.im) fv rfl rfl rfl rfl) ?_;refine au (hV (na d.im) fv rfl rfl rfl rfl) ?_;refine⟨rfl,rfl,rfl,bz [10,11] (af.trans (af.sw 46 (l':=[.ptr 1001 0,.d (.str nm),.d (.int .i64 ((z:Nat):Int)),.d (.int .i64 ((d.im.t.length:Nat):Int)),.d (.int .i64 rm),.mp 43,.mp 44,.d (.bool false),.d (.bool false)]) rfl ⟨rfl,rfl,congrArg Int.ofNat lr,rfl,rfl,rfl,rfl,rfl,rfl,trivial⟩) (cG [(2,ao 5001),(11,ao 46)] (Gp z U L nm (d.im.t.length:Nat) rm [] ((d.im.t.length*2 ^z:Nat):Int) g es))) ?_⟩;refine⟨cH,dF,rfl,dX [10,11] (X:=Nat) (fun s=>ahb d.am nm (d.im.t.length*2 ^z) s) (fun s=>Gp z U L nm (d.im.t.length:Nat) rm (h8 (mO g es) z s) ((d.im.t.length*2 ^z:Nat):Int) g es) (fun s=>s<=d.im.t.length*2 ^z) (fun s=>d.im.t.length*2 ^z - s) 0 (ap7 _) ?_ ?_⟩
 .exact af.sub ⟨rfl,rfl,C0,rfl,trivial⟩ ac
 intro s ax;have ax:s<=d.im.t.length*2 ^z:=ax;refine⟨fun H=>?_,fun H=>?_⟩
 .have H:decide ((s:Int) < ((d.im.t.length*2 ^z:Nat):Int))=true:=H;have iD:s < d.im.t.length*2 ^z:=by have:=gd H;omega
  have cx:(0:Int)<=(s:Int)/\(0:Int)<=((z:Nat):Int)/\((z:Nat):Int)<=64:=by omega
  have sr:(s:Int)/((2 ^((z:Nat):Int).toNat:Nat):Int)=((s/2 ^z:Nat):Int):=by
   show(s:Int)/((2 ^z:Nat):Int)=_;rfl
  refine bz [11] (cG [(2,ao 5001),(11,ao 46),(55,ae ((d.im.t.length*2 ^z:Nat):Int)),(56,ae (s:Nat)),(12,ae (s:Nat))] (Gp z U L nm (d.im.t.length:Nat) rm (h8 (mO g es) z s) ((d.im.t.length*2 ^z:Nat):Int) g es)) ?_;refine au (Fn.aX [(1001,5001),(1002,5002)] (SZ ((d.im.t.length*2 ^z:Nat):Int) g es s a6 au5 au5)) ?_;refine⟨fun hf=>?_,fun hf=>?_⟩
  .have hf:mO g es s=true:=hf;refine bz [] (cG [(2,ao 5001),(11,ao 46),(55,ae ((d.im.t.length*2 ^z:Nat):Int)),(56,ae (s:Nat)),(12,ae (s:Nat))] (Gp z U L nm (d.im.t.length:Nat) rm (h8 (mO g es) z s) ((d.im.t.length*2 ^z:Nat):Int) g es)) ?_;refine⟨cx,trivial,rfl,?_⟩;exact⟨au5,s+1,iD,au5,af.sub ac ⟨rfl,rfl,rfl,rfl,rfl,congrArg (fun aB=>some (bd.map ak ak aB)) ((CQ (s/2 ^z) _).trans (congrArg fY (show ni (h8 (mO g es) z s) (s/2 ^z)=h8 (mO g es) z (s+1) from(if_pos hf).symm))),rfl,rfl,rfl,trivial⟩⟩
  .have hf:mO g es s=false:=hf;exact⟨au5,s+1,iD,au5,af.sub ac ⟨rfl,rfl,rfl,rfl,rfl,congrArg (fun aB=>some (bd.map ak ak (fY aB))) (show h8 (mO g es) z s=h8 (mO g es) z (s+1) from(if_neg (by rw[hf];decide)).symm),rfl,rfl,rfl,trivial⟩⟩
 .have H:decide ((s:Int) < ((d.im.t.length*2 ^z:Nat):Int))=false:=H;have iD:s=d.im.t.length*2 ^z:=by have:=mu H;omega
  subst iD;exact⟨_,_,_,af.trans (af.aX 46 2001 rfl) (af.trans (af.aX 43 2002 rfl) (af.aX 44 2003 rfl)),rfl,ac,ac,rfl⟩
end
end
end Go.Proofs.YthnboghbhgapcaaGreat
