/-
A part of the proof of this claim: lemmas, with no condition beyond what each says.
-/
import Derived.Test.YthnboghbhgapcaaGreatZb13
set_option linter.unusedVariables false
set_option linter.unusedSimpArgs false
set_option maxRecDepth 10000
set_option maxHeartbeats 4000000
namespace Go.Proofs.YthnboghbhgapcaaGreat
open Go.RowKit Go.Proofs Tryz
section
abbrev Ly (top base:ay4) (over:Bool):List bC:=[.ptr 1001 0,.d (.str top),.d (.str base),.mp 2002,.d (.bool over)]
abbrev iR (z U:Int) (L:List aN) (top base:ay4) (l:ay5) (over:Bool):aw:=bP z U L++[(2001,.cells (Ly top base over)),(2002,.map ak ak (fZ l))]
def pL (L:List aN) (top:ay4):Int:=if(fy L top).2≠0\/(fy L top).1=[] then 140 else if 1 < (oZ L (fy L top).1).length then 143 else if cO L (fy L top).1 < cO L top then 1 else 0
def wt (L:List aN) (top:ay4):ay5:=(List.range (cO L top)).filter fun k=> !jf L top k
def n1 (z n:Nat) (l:ay5) (a aZ:Int):ay5:=(List.range n).foldl (fun l k=>if a < ((k*2 ^z+2 ^z:Nat):Int)/\((k*2 ^z:Nat):Int) - aZ < a then nj l k else l) l
def x7 (L:List aN) (n:ay4) (k:Nat):Int:=match dk L n with
 |none=>0
 |some d=>(d.im.t.getD k cD).1
def n2 (z:Nat) (L:List aN) (top base:ay4) (k:Nat):o2:=if x7 L top k=1 then hI z L base ((k*2 ^z:Nat):Int) (hJ z L top (k:Int)) else if x7 L top k=2 then mc z L base ((k*2 ^z:Nat):Int) ((2 ^z:Nat):Int) else⟨0,L⟩
structure agx where
 done:Bool
 e:Int
 L:List aN
 l:ay5
 over:Bool
def fz (z:Nat) (L:List aN) (top base:ay4) (l:ay5) (over:Bool):agx:=if over=true then⟨false,150,L,l,true⟩ else if l=[] then⟨true,0,(mQ L top 0 ((cO L top*2 ^z:Nat):Int)).L,[],true⟩ else
 ⟨false,(n2 z L top base (eP l)).e,(n2 z L top base (eP l)).L,if(n2 z L top base (eP l)).e=0 then l.erase (eP l) else l,false⟩
section
variable {z U:Nat} {L:List aN} {top base:ay4}
theorem agy (z U:Int) (L:List aN) (top base:ay4) (l:ay5) (over:Bool):Fn Tryz.prog 284 [ap 2001] (iR z U L top base l over) [] (fK over) (iR z U L top base l over):=by
 refine aU [] Tryz.func284 ?_;exact bg
theorem S0 (z U:Int) (L:List aN) (top base:ay4) (l:ay5) (over:Bool):Fn Tryz.prog 286 [ap 2001] (iR z U L top base l over) [] gJ (iR z U L top base [] true):=by
 refine aU [] Tryz.func286 ?_;refine⟨_,_,fun N=>SV rfl Tryz.underlying159 rfl rfl N,rfl,?_⟩;exact⟨_,_,_,ae.sA 2001 (l':=Ly top base true) rfl aA,rfl,trivial,aA,rfl⟩
theorem agz (z U:Int) (L:List aN) (top base:ay4) (l:ay5) (over:Bool):Fn Tryz.prog 283 [ap 2001] (iR z U L top base l over) [] gJ (iR z U L top base [] true):=by
 refine aU [] Tryz.func283 ?_;exact ar (S0 z U L top base l over) bg
theorem S1 (V:pL L top=0):(fy L top).2=0/\(fy L top).1≠[]/\(oZ L (fy L top).1).length<=1/\cO L top<=cO L (fy L top).1:=by
 unfold pL at V
 split at V
 .exact absurd V au6
 .rename_i E
  split at V
  .exact absurd V au6
  .rename_i G
   split at V
   .exact absurd V au6
   .rename_i aj;refine⟨Decidable.byContradiction fun e=>E (.inl e),fun e=>E (.inr e),au5,au5⟩
theorem Lz (h:cE z U L) (E:(fy L top).2=0): ∃d,dk L top=some d/\(fy L top).1=d.back/\(d.back≠[]-> ∃e,dk L d.back=some e):=by
 unfold fy at E⊢
 cases J:dk L top with
 |none=>rw[J] at E;exact absurd E au6
 |some d=>exact⟨d,rfl,rfl,h.h7 d (cV J).1⟩
theorem agA (h:cE z U L) (top:ay4) (V:pL L top≠0):Fn Tryz.prog 56 [ap 1001,bU top] (bP z U L) [] (.cf [mG,dw (pL L top)]) (bP z U L):=by
 have k4:=Gj h top;have ug:=SK h (fy L top).1;have bu:=fun E=>Lz (top:=top) h E
 have m9:(fy L top).2≠0\/(fy L top).1=[]->pL L top=140:=fun e=>if_pos e
 have ur: ¬((fy L top).2≠0\/(fy L top).1=[])->1 < (oZ L (fy L top).1).length->pL L top=143:=fun ai ao=>(if_neg ai).trans (if_pos ao)
 have S2: ¬((fy L top).2≠0\/(fy L top).1=[])-> ¬1 < (oZ L (fy L top).1).length->cO L (fy L top).1 < cO L top->pL L top=1:=fun ai ao bl=>(if_neg ai).trans ((if_neg ao).trans (if_pos bl))
 have Cm: ¬((fy L top).2≠0\/(fy L top).1=[])-> ¬1 < (oZ L (fy L top).1).length-> ¬cO L (fy L top).1 < cO L top->pL L top=0:=fun ai ao bl=>(if_neg ai).trans ((if_neg ao).trans (if_neg bl))
 generalize pL L top=apa at*;generalize fy L top=f0 at*;obtain⟨hz,be⟩:=f0;have k4:Fn Tryz.prog 16 [ap 1001,bU top] (bP z U L) [] (.cf [.one (.d (.str hz)),dw be]) (bP z U L):=k4;generalize oZ L hz=us at*;refine aU [4,6] Tryz.func56 ?_;refine ar k4 ⟨fun E=>?_,fun E=>?_⟩
 .have E:(!decide (be=0))=true:=E;have E: ¬be=0:=ax9
  exact eq bp rfl ⟨rfl,(m9 (.inl E)).symm,trivial⟩
 have E:(!decide (be=0))=false:=E;have E:be=0:=ax9
 refine⟨fun G=>?_,fun G=>?_⟩
 .have G:hz=[]:=gd G;exact eq bp rfl ⟨rfl,(m9 (.inr G)).symm,trivial⟩
 have G: ¬hz=[]:=mu G;have hn: ¬(be≠0\/hz=[]):=fun e=>e.elim (fun e=>e E) G
 refine bz [6] (bp) <| ar ug ⟨fun aj=>?_,fun aj=>?_⟩
 .have aj:decide ((1:Int) < ((us.length:Nat):Int))=true:=aj;have aj:1 < us.length:=by have:=gd aj;omega
  exact eq bp rfl ⟨rfl,(ur hn aj).symm,trivial⟩
 have aj:decide ((1:Int) < ((us.length:Nat):Int))=false:=aj;have aj: ¬1 < us.length:=by have:=mu aj;omega
 obtain⟨d,J,O,iQ⟩:=bu E;have O:hz=d.back:=O;obtain⟨e,qs⟩:=iQ (by rw[<-O];exact G);rw[<-O] at qs;have lJ:=h.tohW.M (cV J).1;have LA:=h.tohW.M (cV qs).1;have iG:cO L top=d.im.t.length:=ax8
 have f':cO L hz=e.im.t.length:=by unfold cO;rw[qs]
 rw[iG,f'] at S2 Cm;refine bz [] (cH [(0,ap 1001),(1,bU top),(6,bU hz)] (bP z U L)) <| ar (jd _ _ L h.tohW hz e qs) <| ar (hy (mL e.im) LA rfl rfl rfl rfl) <| ar (jd _ _ L h.tohW top d J) <| ar (hy (mL d.im) lJ rfl rfl rfl rfl) ⟨fun aX=>?_,fun aX=>?_⟩
 .have aX:decide (((e.im.t.length:Nat):Int) < ((d.im.t.length:Nat):Int))=true:=aX;have aX:e.im.t.length < d.im.t.length:=by have:=gd aX;omega
  exact eq bp rfl ⟨rfl,(S2 hn aj aX).symm,trivial⟩
 .exfalso;have aX:decide (((e.im.t.length:Nat):Int) < ((d.im.t.length:Nat):Int))=false:=aX;have aX: ¬e.im.t.length < d.im.t.length:=by have:=mu aX;omega
  exact V (Cm hn aj aX)
abbrev agB (top hz:ay4) (n k:Nat):aY:=[(0,ap 1001),(1,bU top),(6,bU hz),(8,ap 44),(48,ac (n:Nat)),(49,ac (k:Nat))]
abbrev LB (z U:Int) (L:List aN) (top base:ay4) (l:ay5):aw:=bP z U L++[(44,.cells [.ptr 1001 0,.d (.str top),.d (.str base),.mp 42,.d (.bool false)]),(42,.map ak ak (fZ l))]
theorem S3 (p:Nat->Bool) (k:Nat):(List.range (k+1)).filter p=(List.range k).filter p++if p k=true then[k] else[]:=by
 rw[List.range_succ,List.filter_append]
 cases h:p k with
 |true=>rw[if_pos rfl,List.filter_cons_of_pos h];rfl
 |false=>rw[if_neg au6,List.filter_cons_of_neg (by rw[h];decide)];rfl
theorem agC (p:Nat->Bool) (k:Nat) (h:p k=true):nj ((List.range k).filter p) k=(List.range (k+1)).filter p:=by
 rw[S3,if_pos h];unfold nj;rw[if_neg (fun e=>by have:=List.mem_range.1 (at5.1 e).1;omega)]
theorem agD (h:cE z U L) (top:ay4) (V:pL L top=0):Fn Tryz.prog 56 [ap 1001,bU top] (bP z U L) [2001,2002] (.cf [.one (.ptr 2001 0),dw 0]) (iR z U L top (fy L top).1 (wt L top) false):=by
 obtain⟨ai,ao,bl,c2⟩:=S1 V;obtain⟨d,J,O,iQ⟩:=Lz h ai;obtain⟨e,qs⟩:=iQ (by rw[<-O];exact ao);rw[<-O] at qs;have lJ:=h.tohW.M (cV J).1;have LA:=h.tohW.M (cV qs).1;have nd:=(h.g4 d (cV J).1).1.eV;have iG:cO L top=d.im.t.length:=ax8
 have f':cO L (fy L top).1=e.im.t.length:=by unfold cO;rw[qs]
 have Gq:wt L top=(List.range d.im.t.length).filter fun k=> !jf L top k:=by unfold wt;rw[iG]
 have agE: ∀k,k < d.im.t.length->jf L top k=decide ((d.im.t.getD k cD).1=0):=fun k ab=>by
  unfold jf;rw[J];show(decide (d.im.t.length<=k)||_)=_;rw[ar8 au5];rfl
 rw[iG,f'] at c2;rw[Gq];have k4:=Gj h top;have ug:=SK h (fy L top).1;have agF:=agC (fun k=> !jf L top k);have agG:=fun k (ab:jf L top k=true)=>S3 (fun k=> !jf L top k) k
 generalize fy L top=f0 at*;obtain⟨hz,be⟩:=f0;have ai:be=0:=ai;have ao: ¬hz=[]:=ao;have bl:(oZ L hz).length<=1:=bl;subst ai;have k4:Fn Tryz.prog 16 [ap 1001,bU top] (bP z U L) [] (.cf [.one (.d (.str hz)),dw 0]) (bP z U L):=k4;have ug:Fn Tryz.prog 95 [ap 1001,bU hz] (bP z U L) [] (bS .str (oZ L hz)) (bP z U L):=ug;generalize oZ L hz=us at*;refine aU [4,6,8,9] Tryz.func56 ?_;refine ar k4 <| df ⟨fun G=>absurd (gd G) ao,fun _=>bz [6,8,9] (cH [(0,ap 1001),(1,bU top),(6,bU hz)] (bP z U L)) <| ar ug ⟨fun aj=>?_,fun _=>?_⟩⟩
 .exfalso;have aj:decide ((1:Int) < ((us.length:Nat):Int))=true:=aj;have:=gd aj;omega
 refine bz [8,9] (cH [(0,ap 1001),(1,bU top),(6,bU hz)] (bP z U L)) <| ar (jd _ _ L h.tohW hz e qs) <| ar (hy (mL e.im) LA rfl rfl rfl rfl) <| ar (jd _ _ L h.tohW top d J) <| ar (hy (mL d.im) lJ rfl rfl rfl rfl) ⟨fun aX=>?_,fun _=>?_⟩
 .exfalso;have aX:decide (((e.im.t.length:Nat):Int) < ((d.im.t.length:Nat):Int))=true:=aX;have:=gd aX;omega
 refine bz [9] (cH [(0,ap 1001),(1,bU top),(6,bU hz)] (bP z U L)) ⟨rfl,rfl,bz [] (ae.trans (ae.sA 44 (l':=[.ptr 1001 0,.d (.str top),.d (.str hz),.mp 42,.d (.bool false)]) rfl aA) (cH [(0,ap 1001),(1,bU top),(6,bU hz),(8,ap 44)] (LB z U L top hz []))) <| ar (jd _ _ L h.tohW top d J) <| ar (hy (mL d.im) lJ rfl rfl rfl rfl) <| dQ [12,13] (X:=Nat) (fun k=>agB top hz d.im.t.length k) (fun k=>LB z U L top hz ((List.range k).filter fun k=> !jf L top k)) (fun k=>k<=d.im.t.length) (fun k=>d.im.t.length - k) 0 (ap7 _) ?_ ?_⟩
 .exact ae.sub aA aA
 intro k ab;have ab:k<=d.im.t.length:=ab;refine⟨fun H=>?_,fun H=>?_⟩
 .have H:decide ((k:Int) < ((d.im.t.length:Nat):Int))=true:=H;have hi:k < d.im.t.length:=aw7
  have bk:=agE k hi;refine bz [13] (bp) <| ar (jd _ _ L h.tohW top d J) <| ar (hy (zU d.im nd k hi) lJ rfl rfl rfl rfl) ⟨fun bH=>?_,fun bH=>?_⟩
  .have bH:(!decide ((d.im.t.getD k cD).1=0))=true:=bH;have rt:=agF k (by show(!jf L top k)=true;rw[bk];exact bH);exact bz [] (cH [(0,ap 1001),(1,bU top),(6,bU hz),(8,ap 44),(48,ac (d.im.t.length:Nat)),(49,ac (k:Nat)),(9,ac (k:Nat))] (LB z U L top hz ((List.range k).filter fun k=> !jf L top k))) ⟨trivial,au5,k+1,hi,au5,ae.sub aA ⟨rfl,rfl,rfl,rfl,rfl,congrArg (fun aC=>some (bb.map ak ak aC)) ((CY k _).trans (congrArg fZ rt)),trivial⟩⟩
  .have bH:(!decide ((d.im.t.getD k cD).1=0))=false:=bH;have Gr:jf L top k=true:=by rw[bk];simpa using bH
   have ax:=agG k Gr;rw[if_neg (by rw[Gr];decide),as6] at ax;exact⟨au5,k+1,hi,au5,ae.sub aA ⟨rfl,rfl,rfl,rfl,rfl,congrArg (fun aC=>some (bb.map ak ak (fZ aC))) ax.symm,trivial⟩⟩
 .have H:decide ((k:Int) < ((d.im.t.length:Nat):Int))=false:=H;have hi:k=d.im.t.length:=aw3
  subst hi;exact⟨_,_,_,ae.trans (ae.aV 44 2001 rfl) (ae.aV 42 2002 rfl),rfl,aA,aA,rfl⟩
end
section
variable {z U:Nat} {L:List aN} {top base:ay4}
theorem LC (z n:Nat) (l:ay5) (a aZ:Int):n1 z (n+1) l a aZ=if a < ((n*2 ^z+2 ^z:Nat):Int)/\((n*2 ^z:Nat):Int) - aZ < a then nj (n1 z n l a aZ) n else n1 z n l a aZ:=by
 unfold n1;rw[List.range_succ,at9];rfl
def ry (z:Nat) (L:List aN) (top:ay4) (l:ay5) (over:Bool) (a aZ:Int):ay5:=if over=true\/aZ < 1 then l else n1 z (cO L top) l a aZ
abbrev agH (am:Nat) (a aZ:Int) (n k:Nat):aY:=[(0,ap 2001),(1,ac a),(2,ac aZ),(6,dn am),(31,ac (n:Nat)),(32,ac (k:Nat))]
theorem agI (h:cE z U L) (base:ay4) (l:ay5) (over:Bool) (a aZ:Int) (uU:aZ<=9223372036854775807) {d:aN} (J:dk L top=some d):Fn Tryz.prog 84 [ap 2001,ac a,ac aZ] (iR z U L top base l over) [] gJ (iR z U L top base (ry z L top l over a aZ) over):=by
 have nd:=(h.g4 d (cV J).1).1.eV;have fx:=h.tohW.M (cV J).1;have lu:d.im.z=z:=(h.g4 d (cV J).1).2.1;have af:=kp h.b3;have uV:=h.b3;have cM:cO L top=d.im.t.length:=ax8
 cases over with
 |true=>
  have e:ry z L top l true a aZ=l:=if_pos (.inl rfl);rw[e];refine aU [] Tryz.func84 ?_;exact ar (jd _ _ L h.tohW top d J) ⟨rfl,e5 bg⟩
 |false=>
  have ai:aZ < 1->ry z L top l false a aZ=l:=fun e=>if_pos (.inr e)
  have ao: ¬aZ < 1->ry z L top l false a aZ=n1 z d.im.t.length l a aZ:=fun e=>(if_neg (fun c=>c.elim (fun c=>by cases c) e)).trans (by rw[cM])
  have au:=fun k=>LC z k l a aZ
  have apb:n1 z 0 l a aZ=l:=rfl;generalize ry z L top l false a aZ=jP at*
  have o4: ∀k:Nat,(k:Int)*((2 ^((d.im.z:Nat):Int).toNat:Nat):Int)=((k*2 ^z:Nat):Int):=fun k=>by
   rw[lu];show(k:Int)*((2 ^z:Nat):Int)=_;rw[Int.natCast_mul]
  have rz:(1:Int)*((2 ^((d.im.z:Nat):Int).toNat:Nat):Int)=((2 ^z:Nat):Int):=by
   have:=o4 1;rw[Nat.one_mul] at this;exact this
  refine aU [2] Tryz.func84 ?_;refine ar (jd _ _ L h.tohW top d J) ⟨rfl,df ⟨fun _ _=>⟨fun al=>?_,fun al=>?_⟩,fun h=>by cases h⟩⟩
  .have al:aZ < 1:=gd al;exact si bp rfl trivial ⟨rfl,rfl,rfl,rfl,rfl,congrArg (fun aC=>some (bb.map ak ak (fZ aC))) (ai al).symm,trivial⟩ rfl
  have al: ¬aZ < 1:=mu al;have ao:=ao al;refine bz [] (cH [(0,ap 2001),(1,ac a),(2,ac aZ),(6,dn d.am)] (iR z U L top base l false)) <| ar (hy (mL d.im) fx rfl rfl rfl rfl) <| dQ [6,7] (X:=Nat) (fun k=>agH d.am a aZ d.im.t.length k) (fun k=>iR z U L top base (n1 z k l a aZ) false) (fun k=>k<=d.im.t.length) (fun k=>d.im.t.length - k) 0 (ap7 _) ?_ ?_
  .exact ae.sub aA aA
  intro k ab;have ab:k<=d.im.t.length:=ab;refine⟨fun H=>?_,fun H=>?_⟩
  .have H:decide ((k:Int) < ((d.im.t.length:Nat):Int))=true:=H;have hi:k < d.im.t.length:=aw7
   have S4:=o4 k;have S5:=au k;have mk:k*2 ^z<=256*8:=Nat.mul_le_mul au5 af.2;have m1:(0:Int)<=(k:Int)/\(0:Int)<=((d.im.z:Nat):Int)/\((d.im.z:Nat):Int)<=64:=av3
   have m2:c0 ((k:Int)*((2 ^((d.im.z:Nat):Int).toNat:Nat):Int)):=by rw[S4];omega
   have cI:(0:Int)<=(1:Int)/\(0:Int)<=((d.im.z:Nat):Int)/\((d.im.z:Nat):Int)<=64:=av3
   have dF:c0 ((1:Int)*((2 ^((d.im.z:Nat):Int).toNat:Nat):Int)):=by rw[rz];omega
   have ld:c0 (((k*2 ^z:Nat):Int)+(1:Int)*((2 ^((d.im.z:Nat):Int).toNat:Nat):Int)):=by rw[rz];omega
   have sr:c0 (((k*2 ^z:Nat):Int) - aZ):=av3
   have S6:((k*2 ^z:Nat):Int)+(1:Int)*((2 ^((d.im.z:Nat):Int).toNat:Nat):Int)=((k*2 ^z+2 ^z:Nat):Int):=by rw[rz];omega
   refine ar (hy (uT d.im) fx rfl rfl rfl rfl) ⟨m1,m2,bz [7] (ae.sub (K':=[(0,ap 2001),(1,ac a),(2,ac aZ),(6,dn d.am),(31,ac (d.im.t.length:Nat)),(32,ac (k:Nat)),(7,ac (k:Nat)),(8,ac ((k*2 ^z:Nat):Int))]) (B':=iR z U L top base (n1 z k l a aZ) false) ⟨rfl,rfl,rfl,rfl,rfl,rfl,rfl,S4,trivial⟩ aA) <| ar (hy (uT d.im) fx rfl rfl rfl rfl) ⟨cI,dF,ld,?_⟩⟩;have Aj:(¬(a < ((k*2 ^z+2 ^z:Nat):Int)/\((k*2 ^z:Nat):Int) - aZ < a))->n1 z k l a aZ=n1 z (k+1) l a aZ:=fun e=>by rw[S5,if_neg e]
   refine⟨fun cC=>?_,fun cC=>?_⟩
   .have cC:decide (a < ((k*2 ^z:Nat):Int)+(1:Int)*((2 ^((d.im.z:Nat):Int).toNat:Nat):Int))=true:=cC;have cC:=gd cC;rw[S6] at cC;refine⟨sr,fun cG=>?_,fun cG=>?_⟩
    .have cG:decide (((k*2 ^z:Nat):Int) - aZ < a)=true:=cG;have cG:=gd cG;have aT:nj (n1 z k l a aZ) k=n1 z (k+1) l a aZ:=by rw[S5,if_pos ⟨cC,cG⟩]
     exact bz [] (cH [(0,ap 2001),(1,ac a),(2,ac aZ),(6,dn d.am),(31,ac (d.im.t.length:Nat)),(32,ac (k:Nat)),(7,ac (k:Nat))] (iR z U L top base (n1 z k l a aZ) false)) ⟨trivial,au5,k+1,hi,au5,ae.sub aA ⟨rfl,rfl,rfl,rfl,rfl,congrArg (fun aC=>some (bb.map ak ak aC)) ((CY k _).trans (congrArg fZ aT)),trivial⟩⟩
    .have cG:decide (((k*2 ^z:Nat):Int) - aZ < a)=false:=cG;have cG:=mu cG;exact⟨au5,k+1,hi,au5,ae.sub aA ⟨rfl,rfl,rfl,rfl,rfl,congrArg (fun aC=>some (bb.map ak ak (fZ aC))) (Aj fun e=>cG e.2),trivial⟩⟩
   .have cC:decide (a < ((k*2 ^z:Nat):Int)+(1:Int)*((2 ^((d.im.z:Nat):Int).toNat:Nat):Int))=false:=cC;have cC:=mu cC;rw[S6] at cC;exact⟨au5,k+1,hi,au5,ae.sub aA ⟨rfl,rfl,rfl,rfl,rfl,congrArg (fun aC=>some (bb.map ak ak (fZ aC))) (Aj fun e=>cC e.1),trivial⟩⟩
  .have H:decide ((k:Int) < ((d.im.t.length:Nat):Int))=false:=H;have hi:k=d.im.t.length:=aw3
   subst hi;exact si bp rfl trivial ⟨rfl,rfl,rfl,rfl,rfl,congrArg (fun aC=>some (bb.map ak ak (fZ aC))) ao.symm,trivial⟩ rfl
abbrev Gs (z U:Int) (L:List aN) (top base:ay4) (l:ay5) (x y:Int):aw:=iR z U L top base l false++[(3001,.cells [.ptr 2001 0]),(3002,.cells [.d (.int .i64 x)]),(3003,.cells [.d (.int .i64 y)])]
theorem agJ (h:cE z U L) (base:ay4) (l:ay5) (a:Int) (k:Nat) {d:aN} (J:dk L top=some d) (ab:k < d.im.t.length):Fn Tryz.prog 289 [ap 3001,ap 3002,ap 3003] (Gs z U L top base l a (k:Int)) [] (ac (hI z L base a (hJ z L top (k:Int))).e) (Gs z U (hI z L base a (hJ z L top (k:Int))).L top base l a (k:Int)):=by
 have dJ:=Ll h top (k:Int);have af:=kp h.b3
 have b6:(hJ z L top (k:Int)).length<=1000000000:=by
  have:hJ z L top (k:Int)=pG z L top (fk L top) k:=by
   unfold hJ;rw[J];simp only;rw[if_pos ⟨au5,au5⟩];rfl
  rw[this,CE h.tonf J (h.cn top).1 k];omega
 have Gt:=Lk h base a (hJ z L top (k:Int)) b6;generalize hJ z L top (k:Int)=x at*;generalize hI z L base a x=r at*;refine aU [] Tryz.func289 ?_;exact ar dJ <| ar Gt ⟨rfl,bg⟩
theorem agK (h:cE z U L) (top base:ay4) (l:ay5) (a aZ:Int):Fn Tryz.prog 290 [ap 3001,ap 3002,ap 3003] (Gs z U L top base l a aZ) [] (ac (mc z L base a aZ).e) (Gs z U (mc z L base a aZ).L top base l a aZ):=by
 have agL:=SI h base a aZ;generalize mc z L base a aZ=r at*;refine aU [] Tryz.func290 ?_;exact ar agL ⟨rfl,bg⟩
abbrev CZ (z U:Int) (L:List aN) (top base:ay4) (l:ay5) (k a aZ:Int) (ef fd fl gS:Nat) (es:List (aa ak×aa .fn)):aw:=iR z U L top base l false++[(4,.cells [.ptr 2001 0]),(5,.cells [.d (.int .i64 k)]),(6,.cells [.d (.int .i64 a)]),(7,.cells [.d (.int .i64 aZ)]),(9004,.cn 4 (e6 ef)),(9005,.cn 5 (e6 fd)),(9006,.cn 6 (e6 fl)),(9007,.cn 7 (e6 gS)),(12,.aG (Ah es))]
def rA (ef fd fl gS:Nat):List (aa ak×aa .fn):=dr (aI:=ak) (aK:=.fn) (dr (aI:=ak) (aK:=.fn) [] (1:Int) (289,[ef,fl,fd])) (2:Int) (290,[ef,fl,gS])
theorem agM (ef fd fl gS:Nat):b0 (aI:=ak) (aK:=.fn) (rA ef fd fl gS) (1:Int)=some (289,[ef,fl,fd]):=rfl
theorem agN (ef fd fl gS:Nat):b0 (aI:=ak) (aK:=.fn) (rA ef fd fl gS) (2:Int)=some (290,[ef,fl,gS]):=rfl
theorem agO (ef fd fl gS:Nat) {x:Int} (E:x≠1) (G:x≠2):b0 (aI:=ak) (aK:=.fn) (rA ef fd fl gS) x=none:=by
 have ai:fW ak x (1:Int)=false:=ar8 E;have ao:fW ak x (2:Int)=false:=ar8 G;have e:rA ef fd fl gS=[(@Prod.mk (aa ak) (aa .fn) (1:Int) (289,[ef,fl,fd])),(@Prod.mk (aa ak) (aa .fn) (2:Int) (290,[ef,fl,gS]))]:=rfl;rw[e];simp only[b0,ai,ao]
theorem agP (h:cE z U L) (base:ay4) (l:ay5) (k:Nat) (a aZ:Int) (ha:a=((k*2 ^z:Nat):Int)) (a1:aZ=((2 ^z:Nat):Int)) {d:aN} (J:dk L top=some d) (ab:k < d.im.t.length):Fn Tryz.prog 288 [ap 2001,ac (k:Int),ac a,ac aZ] (iR z U L top base l false) [] (ac (n2 z L top base k).e) (iR z U (n2 z L top base k).L top base l false):=by
 have nd:=(h.g4 d (cV J).1).1.eV;have fx:=h.tohW.M (cV J).1;have agQ:x7 L top k=(d.im.t.getD k cD).1:=by unfold x7;rw[J]
 have uW:=zU d.im nd k ab;rw[<-agQ] at uW;have gQ:=agJ h base l a k J ab;have he:=agK h top base l a aZ
 by_cases cC:x7 L top k=1
 .have e:n2 z L top base k=hI z L base a (hJ z L top (k:Int)):=by rw[ha];exact if_pos cC
  rw[e];rw[cC] at uW;generalize hI z L base a (hJ z L top (k:Int))=r at*;refine aU [1,2,3,5] Tryz.func288 ?_;refine⟨rfl,rfl,rfl,rfl,bt.eY (de.mark 4 9004 rfl au6) fun ef=>bt.eY (de.mark 5 9005 rfl au6) fun fd=>bt.eY (de.mark 6 9006 rfl au6) fun fl=>bt.eY (de.mark 7 9007 rfl au6) fun gS=>bz [2,3,5] (bp) ⟨rfl,_,_,fun N=>Ai (m1:=9004) (m2:=9006) (m3:=9005) (b1:=ef) (b2:=fl) (b3:=fd) (ch':=.map ak .fn (dr (aI:=ak) (aK:=.fn) [] (1:Int) (289,[ef,fl,fd]))) rfl Tryz.underlying347 Tryz.underlying3 rfl rfl rfl rfl rfl rfl rfl (.inl rfl) (.inl rfl) N,rfl,?_⟩⟩;refine⟨_,_,fun N=>Ai (m1:=9004) (m2:=9006) (m3:=9007) (b1:=ef) (b2:=fl) (b3:=gS) (ch':=.aG (Ah (rA ef fd fl gS))) rfl Tryz.underlying347 Tryz.underlying3 rfl rfl rfl rfl rfl rfl rfl (.inl rfl) (.inr rfl) N,rfl,?_⟩;refine bz [3,5] (cH [(4,ap 4),(5,ap 5),(6,ap 6),(7,ap 7),(9,.c (.one (.mp 12)))] (CZ z U L top base l k a aZ ef fd fl gS (rA ef fd fl gS))) <| ar (jd _ _ L h.tohW top d J) <| ar (hy uW fx rfl rfl rfl rfl) ⟨_,_,fun N=>Lt eX (ti:=_) rfl Tryz.underlying347 Tryz.underlying3 rfl rfl rfl rfl (agM ef fd fl gS) N,rfl,?_⟩;exact⟨rfl,bz [5] (cH [(10,.c (.one (.d (.fn (289,[ef,fl,fd]))))),(11,qV true)] (CZ z U L top base l k a aZ ef fd fl gS (rA ef fd fl gS))) <| bt.le (ae.SX 10 289 4 6 5 9004 9006 9005 ef fl fd rfl rfl rfl rfl) <| bz [] (bp) <| ar (Fn.aV [(3001,4),(3002,6),(3003,5)] gQ) bg⟩
 by_cases cG:x7 L top k=2
 .have e:n2 z L top base k=mc z L base a aZ:=by rw[ha,a1];exact(if_neg cC).trans (if_pos cG)
  rw[e];rw[cG] at uW;generalize mc z L base a aZ=r at*;refine aU [1,2,3,5] Tryz.func288 ?_;refine⟨rfl,rfl,rfl,rfl,bt.eY (de.mark 4 9004 rfl au6) fun ef=>bt.eY (de.mark 5 9005 rfl au6) fun fd=>bt.eY (de.mark 6 9006 rfl au6) fun fl=>bt.eY (de.mark 7 9007 rfl au6) fun gS=>bz [2,3,5] (bp) ⟨rfl,_,_,fun N=>Ai (m1:=9004) (m2:=9006) (m3:=9005) (b1:=ef) (b2:=fl) (b3:=fd) (ch':=.map ak .fn (dr (aI:=ak) (aK:=.fn) [] (1:Int) (289,[ef,fl,fd]))) rfl Tryz.underlying347 Tryz.underlying3 rfl rfl rfl rfl rfl rfl rfl (.inl rfl) (.inl rfl) N,rfl,?_⟩⟩;refine⟨_,_,fun N=>Ai (m1:=9004) (m2:=9006) (m3:=9007) (b1:=ef) (b2:=fl) (b3:=gS) (ch':=.aG (Ah (rA ef fd fl gS))) rfl Tryz.underlying347 Tryz.underlying3 rfl rfl rfl rfl rfl rfl rfl (.inl rfl) (.inr rfl) N,rfl,?_⟩;refine bz [3,5] (cH [(4,ap 4),(5,ap 5),(6,ap 6),(7,ap 7),(9,.c (.one (.mp 12)))] (CZ z U L top base l k a aZ ef fd fl gS (rA ef fd fl gS))) <| ar (jd _ _ L h.tohW top d J) <| ar (hy uW fx rfl rfl rfl rfl) ⟨_,_,fun N=>Lt eX (ti:=_) rfl Tryz.underlying347 Tryz.underlying3 rfl rfl rfl rfl (agN ef fd fl gS) N,rfl,?_⟩;exact⟨rfl,bz [5] (cH [(10,.c (.one (.d (.fn (290,[ef,fl,gS]))))),(11,qV true)] (CZ z U L top base l k a aZ ef fd fl gS (rA ef fd fl gS))) <| bt.le (ae.SX 10 290 4 6 7 9004 9006 9007 ef fl gS rfl rfl rfl rfl) <| bz [] (bp) <| ar (Fn.aV [(3001,4),(3002,6),(3003,7)] he) bg⟩
 .have e:n2 z L top base k=⟨0,L⟩:=(if_neg cC).trans (if_neg cG);rw[e];have hw:=fun ef fd fl gS=>agO ef fd fl gS cC cG
  generalize x7 L top k=dg at*;refine aU [1,2,3,5] Tryz.func288 ?_;refine⟨rfl,rfl,rfl,rfl,bt.eY (de.mark 4 9004 rfl au6) fun ef=>bt.eY (de.mark 5 9005 rfl au6) fun fd=>bt.eY (de.mark 6 9006 rfl au6) fun fl=>bt.eY (de.mark 7 9007 rfl au6) fun gS=>bz [2,3,5] (bp) ⟨rfl,_,_,fun N=>Ai (m1:=9004) (m2:=9006) (m3:=9005) (b1:=ef) (b2:=fl) (b3:=fd) (ch':=.map ak .fn (dr (aI:=ak) (aK:=.fn) [] (1:Int) (289,[ef,fl,fd]))) rfl Tryz.underlying347 Tryz.underlying3 rfl rfl rfl rfl rfl rfl rfl (.inl rfl) (.inl rfl) N,rfl,?_⟩⟩;refine⟨_,_,fun N=>Ai (m1:=9004) (m2:=9006) (m3:=9007) (b1:=ef) (b2:=fl) (b3:=gS) (ch':=.aG (Ah (rA ef fd fl gS))) rfl Tryz.underlying347 Tryz.underlying3 rfl rfl rfl rfl rfl rfl rfl (.inl rfl) (.inr rfl) N,rfl,?_⟩;refine bz [3,5] (cH [(4,ap 4),(5,ap 5),(6,ap 6),(7,ap 7),(9,.c (.one (.mp 12)))] (CZ z U L top base l k a aZ ef fd fl gS (rA ef fd fl gS))) <| ar (jd _ _ L h.tohW top d J) <| ar (hy uW fx rfl rfl rfl rfl) ⟨_,_,fun N=>Lt eX (ti:=_) rfl Tryz.underlying347 Tryz.underlying3 rfl rfl rfl rfl (hw ef fd fl gS) N,rfl,?_⟩;exact⟨rfl,bz [5] (cH [(11,qV false)] (iR z U L top base l false)) bg⟩
end
section
variable {z U:Nat} {L:List aN} {top base:ay4}
theorem agR (h:cE z U L) (base:ay4) (l:ay5) (over:Bool) {d:aN} (J:dk L top=some d) (al: ∀k,k∈l->k < d.im.t.length) (hn:l.Nodup):Fn Tryz.prog 285 [ap 2001] (iR z U L top base l over) [] (.cf [.one (.d (.bool (fz z L top base l over).done)),dw (fz z L top base l over).e]) (iR z U (fz z L top base l over).L top base (fz z L top base l over).l (fz z L top base l over).over):=by
 have nd:=(h.g4 d (cV J).1).1.eV;have fx:=h.tohW.M (cV J).1;have lu:d.im.z=z:=(h.g4 d (cV J).1).2.1;have uV:=h.b3;have af:=kp h.b3
 cases over with
 |true=>
  have e:fz z L top base l true=⟨false,150,L,l,true⟩:=if_pos rfl;rw[e];refine aU [] Tryz.func285 ?_;exact ar (jd _ _ L h.tohW top d J) ⟨rfl,e5 bg⟩
 |false=>
  have rz:(1:Int)*((2 ^((d.im.z:Nat):Int).toNat:Nat):Int)=((2 ^z:Nat):Int):=by
   rw[lu,Int.one_mul];rfl
  have cI:(0:Int)<=(1:Int)/\(0:Int)<=((d.im.z:Nat):Int)/\((d.im.z:Nat):Int)<=64:=av3
  have dF:c0 ((1:Int)*((2 ^((d.im.z:Nat):Int).toNat:Nat):Int)):=by rw[rz];omega
  by_cases a2:l=[]
  .have cM:cO L top=d.im.t.length:=ax8
   have e:fz z L top base l false=⟨true,0,(mQ L top 0 ((d.im.t.length*2 ^z:Nat):Int)).L,[],true⟩:=by
    unfold fz;rw[if_neg au6,if_pos a2,cM]
   rw[e];subst a2;have ho:=SJ h top 0 ((d.im.t.length*2 ^z:Nat):Int);have apc:=af4 h top 0 ((d.im.t.length*2 ^z:Nat):Int);have mk:d.im.t.length*2 ^z<=256*8:=Nat.mul_le_mul nd af.2;have em:((d.im.t.length:Nat):Int)*((2 ^z:Nat):Int)=((d.im.t.length*2 ^z:Nat):Int):=by rw[Int.natCast_mul]
   have m3:c0 (((d.im.t.length:Nat):Int)*((2 ^z:Nat):Int)):=by rw[em];omega
   rw[<-em] at ho⊢;generalize mQ L top 0 (((d.im.t.length:Nat):Int)*((2 ^z:Nat):Int))=r at*;refine aU [4,6,7] Tryz.func285 ?_;exact ar (jd _ _ L h.tohW top d J) ⟨rfl,df ⟨fun _ _=>bz [6,7] (cH [(0,ap 2001),(4,dn d.am)] (iR z U L top base [] false)) <| ar (hy (uT d.im) fx rfl rfl rfl rfl) ⟨cI,dF,e5 <| bz [7] (ae.sub (K':=[(0,ap 2001),(4,dn d.am),(5,ac ((2 ^z:Nat):Int))]) (B':=iR z U L top base [] false) ⟨rfl,rfl,rz,trivial⟩ aA) <| ar (hy (mL d.im) fx rfl rfl rfl rfl) ⟨m3,ar ho ⟨rfl,bz [] (cH [(0,ap 2001)] (iR z U r.L top base [] false)) <| ar (S0 z U r.L top base [] false) bg⟩⟩⟩,fun h=>by cases h⟩⟩
  .have e:fz z L top base l false=⟨false,(n2 z L top base (eP l)).e,(n2 z L top base (eP l)).L,if(n2 z L top base (eP l)).e=0 then l.erase (eP l) else l,false⟩:=by
    unfold fz;rw[if_neg au6,if_neg a2]
   rw[e];obtain⟨cx,cA,dy⟩:=Gp a2;have ab:=al _ cA
   have A4: ∀g:{g5:List Int//g5.Perm (gR (fZ l))},o3 g.1=((eP l:Nat):Int):=fun g=>by
    rw[ST g.2 (by rw[uS];simpa using a2),uS];exact cx
   have uI: ∀g:{g5:List Int//g5.Perm (gR (fZ l))},g.1.length=l.length:=fun g=>by
    rw[g.2.length_eq,uS,aq3]
   have mK:l.length<=256:=by
    have:=CU d.im.t.length l hn al;omega
   have we:0 < l.length:=List.length_pos_iff.2 a2;have q9:=Lu l;have LD:=SR (fZ l) (Lw hn) (Lx fun k ab=>by have:=al k ab;omega) au5;have mk:eP l*2 ^z<=256*8:=Nat.mul_le_mul au5 af.2;have em:((eP l:Nat):Int)*((2 ^z:Nat):Int)=((eP l*2 ^z:Nat):Int):=by rw[Int.natCast_mul]
   have m3:c0 (((eP l:Nat):Int)*((2 ^z:Nat):Int)):=by rw[em];omega
   have agS:=agP h base l (eP l) _ _ em rfl J ab;have dC:=Lv (eP l) l;generalize eP l=rB at*;generalize n2 z L top base rB=r at*;refine aU [4,9,10,12] Tryz.func285 ?_;refine ar (jd _ _ L h.tohW top d J) ⟨rfl,df ⟨fun _ _=>bz [9,10,12] (cH [(0,ap 2001),(4,dn d.am)] (iR z U L top base l false)) <| ar (hy (uT d.im) fx rfl rfl rfl rfl) ⟨cI,dF,fun H=>?_,fun _=>?_⟩,fun h=>by cases h⟩⟩
   .exfalso;have H:decide ((((fZ l).length:Nat):Int)=0)=true:=H;have:=gd H;omega
   refine bt.le (ae.sub (K':=[(0,ap 2001),(5,ac ((2 ^z:Nat):Int))]) (B':=iR z U L top base l false) ⟨rfl,rz,trivial⟩ aA) <| bt.iC eX au8 <| lF ((Fn.aV [(1001,2002),(2001,9001)] (Lq (fZ l))).x) fun _=>lF (cu.aV [(1001,2002),(2001,9001)] LD) fun g=>?_
   have agT:=uI g;have C0:=A4 g;refine lF ((SU g.1 au5 au5).x) fun _=>?_
   refine bz [12] (ae.sub (K':=[(0,ap 2001),(5,ac ((2 ^z:Nat):Int)),(6,ac (rB:Nat))]) (B':=iR z U L top base l false) ⟨rfl,rfl,C0,trivial⟩ aA) ⟨m3,ar agS ⟨fun V=>?_,fun V=>?_⟩⟩
   .have V:r.e=0:=gd V;exact bz [] (cH [(0,ap 2001),(6,ac (rB:Nat)),(7,ac r.e)] (iR z U r.L top base l false)) <| si bp rfl aA ⟨rfl,rfl,rfl,rfl,rfl,congrArg (fun aC=>some (bb.map ak ak aC)) (dC.trans (congrArg fZ (if_pos V).symm)),trivial⟩ rfl
   .have V: ¬r.e=0:=mu V;exact si bp rfl aA ⟨rfl,rfl,rfl,rfl,rfl,congrArg (fun aC=>some (bb.map ak ak (fZ aC))) (if_neg V).symm,trivial⟩ rfl
end
end
section
section
variable {z U:Nat} {L:List aN}
def tG (L:List aN):Prop:= ∀d,d∈L->d.im.t.length<=12
theorem tG.nil:tG []:=fun d h=>by cases h
theorem tG.of (eJ:cE z U L) (h: ∀n,cO L n<=12):tG L:=fun d J=>by
 have:=h d.nm;unfold cO at this;rw[Ad eJ.ik J] at this;exact this
theorem tG.aQ (h:tG L) (n:ay4):cO L n<=12:=by
 unfold cO
 cases e:dk L n with
 |none=>exact ap7 _
 |some d=>exact h d (cV e).1
theorem kR.aQ {L':List aN} {t:ay4} (al:kR L t L') (n:ay4):cO L' n=cO L n/\(dk L' n).isSome=(dk L n).isSome:=by
 rcases al with rfl |⟨d,im,av,ax,rfl⟩
 .exact⟨rfl,rfl⟩
 .exact agj L av ax
theorem tG.pM {L':List aN} {t:ay4} (h:tG L) (eE:cE z U L) (al:kR L t L'):tG L':=tG.of (al.cs eE) fun n=>by
 rw[(al.aQ n).1];exact h.aQ n
end
end
section
section
variable {z U:Nat} {L:List aN} {top base:ay4} {l:ay5}
structure kS (z U:Nat) (L:List aN) (top:ay4) (l:ay5):Prop where
 cs:cE z U L
 h7:(dk L top).isSome=true
 lt: ∀k,k∈l->k < cO L top
 fN:l.Nodup
theorem kS.pM {L':List aN} {t:ay4} (h:kS z U L top l) (al:kR L t L'):kS z U L' top l:=⟨al.cs h.cs,by rw[(al.aQ top).2];exact h.h7,fun k ab=>by rw[(al.aQ top).1];exact h.lt k ab,h.fN⟩
theorem LE (h:cE z U L) (top base:ay4) (k:Nat):kR L base (n2 z L top base k).L:=by
 unfold n2
 split
 .exact Ag h _ _ _
 .split
  .exact Gm h _ _ _
  .exact .inl rfl
theorem kS.step (h:kS z U L top l) (base:ay4) (over:Bool):kS z U (fz z L top base l over).L top (fz z L top base l over).l:=by
 unfold fz
 split
 .exact h
 .split
  .exact⟨(h.pM (x6 h.cs _ _ _)).cs,(h.pM (x6 h.cs _ _ _)).h7,fun k ab=>(by cases ab),at0⟩
  .have E:=h.pM (LE h.cs top base (eP l));refine⟨E.cs,E.h7,fun k ab=>E.lt k ?_,?_⟩
   .have ab:k∈(if(n2 z L top base (eP l)).e=0 then l.erase (eP l) else l):=ab
    split at ab
    .exact List.mem_of_mem_erase ab
    .exact ab
   .show(if(n2 z L top base (eP l)).e=0 then l.erase (eP l) else l).Nodup
    split
    .exact h.fN.erase _
    .exact h.fN
theorem kS.agU (h:cE z U L) (V:pL L top=0):kS z U L top (wt L top):=by
 obtain⟨d,J,_⟩:=Lz h (S1 V).1;exact⟨h,by rw[J];rfl,fun k ab=>List.mem_range.1 (at5.1 ab).1,List.nodup_range.filter _⟩
theorem kS.get (h:kS z U L top l): ∃d,dk L top=some d/\ ∀k,k∈l->k < d.im.t.length:=by
 obtain⟨d,J⟩:=as7.1 h.h7;refine⟨d,J,fun k ab=>?_⟩;have:=h.lt k ab;unfold cO at this;rw[J] at this;exact this
theorem kS.len (h:kS z U L top l):l.length<=cO L top/\cO L top<=256:=by
 obtain⟨d,J,_⟩:=h.get;refine⟨CU _ l h.fN h.lt,?_⟩;unfold cO;rw[J];exact(h.cs.g4 d (cV J).1).1.eV
theorem kS.LF (h:kS z U L top l) (base:ay4) (over:Bool):Fn Tryz.prog 285 [ap 2001] (iR z U L top base l over) [] (.cf [.one (.d (.bool (fz z L top base l over).done)),dw (fz z L top base l over).e]) (iR z U (fz z L top base l over).L top base (fz z L top base l over).l (fz z L top base l over).over):=
 let⟨_,J,al⟩:=h.get
 agR h.cs base l over J al h.fN
theorem agV {z n:Nat} {l:ay5} {a aZ:Int}: ∀{k:Nat},k∈n1 z n l a aZ->k∈l\/k < n:=by
 induction n with
 |zero=>exact fun h=>.inl h
 |succ n br=>
  intro k ab;rw[LC] at ab
  split at ab
  .rcases SY.1 ab with ab |rfl
   .exact(br ab).imp id au5
   .exact .inr au5
  .exact(br ab).imp id au5
theorem agW {z n:Nat} {l:ay5} {a aZ:Int} (h:l.Nodup):(n1 z n l a aZ).Nodup:=by
 induction n with
 |zero=>exact h
 |succ n br=>
  rw[LC]
  split
  .exact SZ br
  .exact br
theorem kS.wr (h:kS z U L top l) (over:Bool) (a aZ:Int):kS z U L top (ry z L top l over a aZ):=by
 unfold ry
 split
 .exact h
 .exact⟨h.cs,h.h7,fun k ab=>(agV ab).elim (h.lt k) id,agW h.fN⟩
end
section
variable {z U:Nat} {L:List aN} {top base nm:ay4} {l:ay5}
structure rC (z U:Nat) (L:List aN) (top base:ay4) (l:ay5):Prop extends kS z U L top l where
 Gu:(dk L base).isSome=true
 le:cO L top<=cO L base
 f0:fy L top=(base,0)
 ne:base≠[]
structure uX (z U:Nat) (L:List aN) (top base:ay4) (l:ay5):Prop extends rC z U L top base l where
 LG:cO L base < U
theorem kR.fy {L':List aN} {t:ay4} (al:kR L t L') (n:ay4):fy L' n=fy L n:=by
 rcases al with rfl |⟨d,im,av,ax,rfl⟩
 .rfl
 .unfold Go.Proofs.YthnboghbhgapcaaGreat.fy;rw[uR]
  cases J:dk L n with
  |none=>rfl
  |some d=>show(_,_)=(_,_);rw[x5]
theorem rC.pM {L':List aN} {t:ay4} (h:rC z U L top base l) (al:kR L t L'):rC z U L' top base l:=⟨h.tokS.pM al,by rw[(al.aQ base).2];exact h.Gu,by rw[(al.aQ base).1,(al.aQ top).1];exact h.le,by rw[al.fy];exact h.f0,h.ne⟩
theorem uX.pM {L':List aN} {t:ay4} (h:uX z U L top base l) (al:kR L t L'):uX z U L' top base l:=⟨h.torC.pM al,by rw[(al.aQ base).1];exact h.LG⟩
theorem rC.step (h:rC z U L top base l) (over:Bool):rC z U (fz z L top base l over).L top base (fz z L top base l over).l/\ ∃t,kR L t (fz z L top base l over).L:=by
 have az:=h.tokS.step base over
 have al: ∃t,kR L t (fz z L top base l over).L:=by
  unfold fz
  split
  .exact⟨top,.inl rfl⟩
  .split
   .exact⟨top,x6 h.cs _ _ _⟩
   .exact⟨base,LE h.cs top base _⟩
 refine⟨?_,al⟩;obtain⟨t,al⟩:=al;have E:=h.pM al;exact⟨az,E.Gu,E.le,E.f0,E.ne⟩
theorem uX.step (h:uX z U L top base l) (over:Bool):uX z U (fz z L top base l over).L top base (fz z L top base l over).l:=by
 obtain⟨E,t,al⟩:=h.torC.step over;exact⟨E,by rw[(al.aQ base).1];exact h.LG⟩
theorem rC.wr (h:rC z U L top base l) (over:Bool) (a aZ:Int):rC z U L top base (ry z L top l over a aZ):=⟨h.tokS.wr over a aZ,h.Gu,h.le,h.f0,h.ne⟩
theorem uX.wr (h:uX z U L top base l) (over:Bool) (a aZ:Int):uX z U L top base (ry z L top l over a aZ):=⟨h.torC.wr over a aZ,h.LG⟩
end
section
variable {z U:Nat} {L L':List aN} {top base t:ay4} {l:ay5}
theorem rC.dk (h:rC z U L top base l): ∃d,Go.Proofs.YthnboghbhgapcaaGreat.dk L top=some d/\d.back=base:=by
 have O:=h.f0;unfold fy at O
 cases J:Go.Proofs.YthnboghbhgapcaaGreat.dk L top with
 |none=>rw[J] at O;exact absurd (congrArg Prod.snd O) (show¬(140:Int)=0 by decide)
 |some d=>
  rw[J] at O;exact⟨d,rfl,congrArg Prod.fst O⟩
end
section
variable {z U:Nat} {L:List aN} {top base:ay4} {l:ay5}
end
end
section
section
variable {P:Program} {ids:ay5} {K:aY} {B:aw}
theorem Ak {o:Oper} {op:BinOp} {T fG:TypeId} {x y:Operand} {n m r:Int} (ah:o.op= .binOp op T x y fG) (hx:a6 K x= .c (.one (.d (.int .i64 n)))) (aB:a6 K y= .c (.one (.d (.int .i64 m))))
  (h:(op= .add/\r=IntKind.i64.wrap (n+m))\/(op= .sub/\r=IntKind.i64.wrap (n - m))\/(op= .quo/\m≠0/\r=IntKind.i64.wrap (n.tdiv m))) (N:Nat):bB P N ids o K B (.c (.one (.d (.int .i64 r)))) ⟨[],[],[]⟩:=by
 have m1:x∈o.op.operands:=av2
 have m2:y∈o.op.operands:=av2
 refine bB.val fun K' B' g1 g2 C ρ F fa w aq au=>?_
 have ai:=au.int ((g1 x m1).trans hx);have ao:=au.int ((g1 y m2).trans aB);refine⟨.int .i64 r,?_,rfl⟩;simp only[execOp,ah,ai,ao];rcases h with⟨rfl,rfl⟩ |⟨rfl,rfl⟩ |⟨rfl,az,rfl⟩
 .simp[eqGuard,go_sem,Op.intArith]
 .simp[eqGuard,go_sem,Op.intArith]
 .simp[eqGuard,go_sem,Op.intDiv,az]
end
abbrev LH (s g:Int):List bC:=[.d (.int .i64 s),.d (.int .i64 g),.mp 1002]
abbrev il (s g:Int) (es:List (aa ak×aa ak)):aw:=[(1001,.cells (LH s g)),(1002,.map ak ak es)]
theorem S7 (s:Int):Fn Tryz.prog 93 [ac s] [] [] (fK (decide (0<=s)&&decide (s<=4096))) []:=by
 refine aU [] Tryz.func93 ?_;refine⟨fun E=>?_,fun E=>?_⟩
 .have E:decide (0<=s)=true:=E;exact eq bp rfl (show decide (s<=4096)=(decide (0<=s)&&decide (s<=4096)) by rw[E];rfl)
 .have E:decide (0<=s)=false:=E;exact eq bp rfl (show false=(decide (0<=s)&&decide (s<=4096)) by rw[E];rfl)
def n3 (s g:Int):Bool:=((decide (0<=s)&&decide (s<=4096))&&(!decide (g < 1)&& !decide (64 < g)))&&decide (((g.toNat &&& (g - 1).toNat:Nat):Int)=0)
theorem Gv {s g:Int} (h:n3 s g=true):(0<=s/\s<=4096)/\1<=g/\g<=64:=by
 unfold n3 at h;simp only[vj,Bool.not_eq_true',ar5,decide_eq_false_iff_not] at h;obtain⟨⟨⟨E,G⟩,aj,aX⟩,_⟩:=h;omega
theorem LI (s g:Int) (h:n3 s g=true):Fn Tryz.prog 54 [ac s,ac g] [] [2001,2002] (.cf [.one (.ptr 2001 0),dw 0]) [(2001,.cells [.d (.int .i64 s),.d (.int .i64 g),.mp 2002]),(2002,.map ak ak [])]:=by
 obtain⟨g1,g2,cZ⟩:=Gv h;have aF:=S7 s;rw[aq1 g1.1,aq1 g1.2] at aF;unfold n3 at h;simp only[vj] at h;have bH:=h.2;have m1:c0 (g - 1):=av3
 refine aU [] Tryz.func54 ?_;refine ar aF <| df ⟨fun h=>absurd (gd h) au5,fun _=>⟨fun h=>absurd (gd h) au5,fun _=>⟨m1,_,_,fun N=>F7 rfl rfl rfl au5 au5 au5 au5 N,rfl,?_⟩⟩⟩;refine⟨fun h=>?_,fun _=>?_⟩
 .exfalso;have h:(!decide (((g.toNat &&& (g - 1).toNat:Nat):Int)=0))=true:=h;rw[bH] at h
  cases h
 exact⟨rfl,rfl,_,_,_,ae.trans (ae.aV 28 2001 rfl) (ae.aV 26 2002 rfl),rfl,aA,aA,rfl⟩
theorem agX (s g:Int) (h:n3 s g=false):Fn Tryz.prog 54 [ac s,ac g] [] [] (.cf [mG,dw 1]) []:=by
 have aF:=S7 s;unfold n3 at h;generalize(decide (0<=s)&&decide (s<=4096))=b at*;refine aU [] Tryz.func54 ?_;refine ar aF ⟨fun _=>?_,fun E=>?_⟩
 .exact bg
 have E:b=true:=by
  have E:(!b)=false:=E;simpa using E
 refine⟨fun _=>?_,fun G=>?_⟩
 .exact bg
 refine⟨fun _=>?_,fun aj=>?_⟩
 .exact bg
 have G:decide (g < 1)=false:=G;have aj:decide (64 < g)=false:=aj;rw[E,G,aj] at h;have cA:=mu G;have dy:=mu aj;have m1:c0 (g - 1):=av3
 refine⟨m1,_,_,fun N=>F7 rfl rfl rfl au5 au5 au5 au5 N,rfl,?_⟩;refine⟨fun _=>?_,fun aX=>?_⟩
 .exact bg
 .exfalso;have aX:(!decide (((g.toNat &&& (g - 1).toNat:Nat):Int)=0))=false:=aX;have h:((true&&(!false&& !false))&&decide (((g.toNat &&& (g - 1).toNat:Nat):Int)=0))=false:=h;generalize decide (((g.toNat &&& (g - 1).toNat:Nat):Int)=0)=c at*
  cases c
  .cases aX
  .cases h
theorem LJ (s g:Int) (es:List (aa ak×aa ak)):Fn Tryz.prog 64 [ap 1001] (il s g es) [] (ac s) (il s g es):=by
 refine aU [] Tryz.func64 ?_;exact bg
def C1 (aC:Int):Bool:=decide (0 < aC)
def mR (g:Int) (es:List (aa ak×aa ak)) (k:Nat):Bool:=C1 ((b0 (aI:=ak) (aK:=ak) es ((k:Int)/g)).getD (cL ak))
theorem S8 (s g:Int) (es:List (aa ak×aa ak)) (k:Nat) (a1:1<=g) (ab:(k:Int) < s) (ax:s<=4096):Fn Tryz.prog 100 [ap 1001,ac (k:Int)] (il s g es) [] (fK (mR g es k)) (il s g es):=by
 have aT:(0:Int)<=(k:Int)/g:=au4 au5 au5;have C2:(k:Int)/g<=(k:Int):=Int.ediv_le_self _ au5;have m1:c0 ((k:Int)/g):=av3
 refine aU [] Tryz.func100 ?_;exact⟨fun _=>⟨fun _=>⟨⟨au5,au5⟩,m1,rfl,bg⟩,fun h=>absurd (mu h) au5⟩,fun h=>absurd (mu h) au5⟩
def sB (es:List (aa ak×aa ak)) (f:Int):Nat->List (aa ak×aa ak)
 |0=>es
 |n+1=>dr (aI:=ak) (aK:=ak) (sB es f n) (f+(n:Int)) (1:Int)
abbrev rD (s g:Int) (es:List (aa ak×aa ak)):aw:=il s g es++[(3001,.cells [.ptr 1001 0])]
theorem agY (s g:Int) (es:List (aa ak×aa ak)) (k:Int):Fn Tryz.prog 138 [ac k,ap 3001] (rD s g es) [] gJ (rD s g (dr (aI:=ak) (aK:=ak) es k (1:Int))):=by
 refine aU [] Tryz.func138 ?_;exact⟨trivial,bg⟩
abbrev agZ (d5 k:Int):aY:=[(4,ac d5),(5,.c (.one (.cU 138 [.p 3001 0]))),(13,ac k)]
theorem ag0 (s g:Int) (es:List (aa ak×aa ak)) (fr bK f1 d5:Int) (E:0<=bK) (G:0<=fr) (aj:bK<=s) (aX:fr<=s - bK) (ax:s<=4096) (bH:0<=f1) (fF:d5<=1000000):Fn Tryz.prog 137 [ap 1001,ac fr,ac bK,ac f1,ac d5,.c (.one (.cU 138 [.p 3001 0]))] (rD s g es) [] (ac 0) (rD s g (sB es f1 (d5 - f1).toNat)):=by
 have m1:c0 (s - bK):=av3
 refine aU [] Tryz.func137 ?_;refine⟨fun h=>absurd (gd h) au5,fun _=>⟨fun h=>absurd (gd h) au5,fun _=>⟨fun h=>absurd (gd h) au5,fun _=>⟨m1,fun h=>absurd (gd h) au5,fun _=>dQ [6] (X:=Nat) (fun j=>agZ d5 (f1+(j:Int))) (fun j=>rD s g (sB es f1 j)) (fun j=>j<=(d5 - f1).toNat) (fun j=>(d5 - f1).toNat - j) 0 (ap7 _) ?_ ?_⟩⟩⟩⟩
 .exact ae.sub ⟨rfl,rfl,(show f1=f1+((0:Nat):Int) by omega),trivial⟩ aA
 intro j Z;have Z:j<=(d5 - f1).toNat:=Z;refine⟨fun H=>?_,fun H=>?_⟩
 .have H:decide (f1+(j:Int) < d5)=true:=H;have H:=gd H;exact bz [] (bp) <| ar (agY s g (sB es f1 j) (f1+(j:Int))) ⟨au5,j+1,au5,au5,ae.sub ⟨rfl,rfl,(show f1+(j:Int)+1=f1+((j+1:Nat):Int) by omega),trivial⟩ aA⟩
 .have H:decide (f1+(j:Int) < d5)=false:=H;have H:=mu H;have fj:j=(d5 - f1).toNat:=av3
  subst fj;exact bg
theorem ag1 (s g:Int) (es:List (aa ak×aa ak)) (fr bK f1 d5:Int) (h: ¬(0<=bK/\0<=fr/\bK<=s/\fr<=s - bK)) (ax:0<=s/\s<=4096):Fn Tryz.prog 137 [ap 1001,ac fr,ac bK,ac f1,ac d5,.c (.one (.cU 138 [.p 3001 0]))] (rD s g es) [] (ac 1) (rD s g es):=by
 refine aU [] Tryz.func137 ?_;refine⟨fun _=>?_,fun cx=>?_⟩
 .exact bg
 refine⟨fun _=>?_,fun cA=>?_⟩
 .exact bg
 refine⟨fun _=>?_,fun dy=>?_⟩
 .exact bg
 have cx: ¬bK < 0:=mu cx;have cA: ¬fr < 0:=mu cA;have dy: ¬s < bK:=mu dy;have m1:c0 (s - bK):=av3
 refine⟨m1,fun _=>?_,fun fb=>?_⟩
 .exact bg
 .exfalso;have fb: ¬s - bK < fr:=mu fb;exact h au5
def x8 (s fr bK:Int):Prop:=0<=bK/\0<=fr/\bK<=s/\fr<=s - bK
instance (s fr bK:Int):Decidable (x8 s fr bK):=by unfold x8;infer_instance
def nk (s g:Int) (es:List (aa ak×aa ak)) (fr bK:Int):List (aa ak×aa ak):=if x8 s fr bK then sB es (fr/g) ((if bK=0 then 0 else(fr+bK+g - 1)/g) - fr/g).toNat else es
abbrev Gw (fr bK d5:Int):aY:=[(1,ac fr),(2,ac bK),(3,ap 3),(7,ac d5)]
abbrev C3 (s g:Int) (es:List (aa ak×aa ak)):aw:=il s g es++[(3,.cells [.ptr 1001 0])]
theorem LK (s g:Int) (es:List (aa ak×aa ak)) (fr bK:Int) (ax:0<=s/\s<=4096) (a1:1<=g/\g<=64):Fn Tryz.prog 85 [ap 1001,ac fr,ac bK] (il s g es) [] (ac (if x8 s fr bK then 0 else 1)) (il s g (nk s g es fr bK)):=by
 by_cases ay:x8 s fr bK
 .have bG:nk s g es fr bK=sB es (fr/g) ((if bK=0 then 0 else(fr+bK+g - 1)/g) - fr/g).toNat:=if_pos ay;rw[bG,if_pos ay];obtain⟨kJ,v2,v3,v4⟩:=ay;have dY:(0:Int)<=fr/g:=au4 au5 au5;have cS:fr/g<=fr:=Int.ediv_le_self _ au5;have dG:(0:Int)<=(fr+bK+g - 1)/g:=au4 au5 au5;have dL:(fr+bK+g - 1)/g<=fr+bK+g - 1:=Int.ediv_le_self _ au5;have cI:c0 (fr+bK):=av3
  have dF:c0 (fr+bK+g):=av3
  have ld:c0 (fr+bK+g - 1):=av3
  have sr:c0 ((fr+bK+g - 1)/g):=av3
  have n5:c0 (fr/g):=av3
  have n6:(0:Int)<=fr+bK+g - 1/\0 < g:=av3
  have n7:(0:Int)<=fr/\0 < g:=av3
  have V:=fun d5 (h:d5<=1000000)=>ag0 s g es fr bK (fr/g) d5 kJ v2 v3 v4 ax.2 dY h
  have i5:=V _ (show(fr+bK+g - 1)/g<=1000000 by omega);have gn:=V 0 au6;generalize xH:(fr+bK+g - 1)/g=d5 at*;generalize C2:fr/g=f1 at*;refine aU [4] Tryz.func85 ?_;refine⟨rfl,?_⟩;refine⟨cI,dF,ld,n6,by rw[xH];exact sr,rfl,fun al=>?_,fun al=>?_⟩
  .have al:bK=0:=gd al;rw[if_pos al];refine bz [] (cH (Gw fr bK 0) (C3 s g es)) ?_;exact⟨n7,by rw[C2];exact n5,ar (Fn.arg (args:=[ap 1001,ac fr,ac bK,ac (fr/g),ac 0,.c (.one (.cU 138 [.p 3001 0]))]) gn ⟨rfl,rfl,rfl,C2,rfl,rfl,trivial⟩ |> Fn.aV [(3001,3)]) ⟨rfl,bg⟩⟩
  .have al: ¬bK=0:=mu al;rw[if_neg al];refine bz [] (ae.sub (K':=Gw fr bK d5) (B':=C3 s g es) ⟨rfl,rfl,rfl,xH,trivial⟩ aA) ?_;exact⟨n7,by rw[C2];exact n5,ar (Fn.arg (args:=[ap 1001,ac fr,ac bK,ac (fr/g),ac d5,.c (.one (.cU 138 [.p 3001 0]))]) i5 ⟨rfl,rfl,rfl,C2,rfl,rfl,trivial⟩ |> Fn.aV [(3001,3)]) ⟨rfl,bg⟩⟩
 .have bG:nk s g es fr bK=es:=if_neg ay;rw[bG,if_neg ay];have V:=fun f1 d5=>ag1 s g es fr bK f1 d5 ay ax
  refine aU [1,4] Tryz.func85 ?_;refine⟨rfl,bt.mI (2000000+10) au6 <| bt.mI (2000000+15) au6 <| bt.mI (2000000+16) au6 <| bt.mI (2000000+21) au6 <| bz [4] (bp) ⟨_,_,fun N=>Ak rfl rfl rfl (.inl ⟨rfl,rfl⟩) N,rfl,?_⟩⟩;refine⟨_,_,fun N=>Ak rfl rfl rfl (.inl ⟨rfl,rfl⟩) N,rfl,?_⟩;refine⟨_,_,fun N=>Ak rfl rfl rfl (.inr (.inl ⟨rfl,rfl⟩)) N,rfl,?_⟩;refine⟨_,_,fun N=>Ak rfl rfl rfl (.inr (.inr ⟨rfl,au5,rfl⟩)) N,rfl,?_⟩;refine⟨rfl,?_⟩;generalize IntKind.i64.wrap _=d5;refine⟨fun _=>?_,fun _=>?_⟩
  .show bt _ _ _ _ _ _ _;refine bt.le (cH (Gw fr bK 0) (C3 s g es)) <| bt.mI (2000000+32) au6 <| bz [] (bp) ⟨_,_,fun N=>Ak rfl rfl rfl (.inr (.inr ⟨rfl,au5,rfl⟩)) N,rfl,?_⟩;exact ar (Fn.aV [(3001,3)] (V _ _)) ⟨rfl,bg⟩
  .show bt _ _ _ _ _ _ _;refine bt.le (cH (Gw fr bK d5) (C3 s g es)) <| bt.mI (2000000+32) au6 <| bz [] (bp) ⟨_,_,fun N=>Ak rfl rfl rfl (.inr (.inr ⟨rfl,au5,rfl⟩)) N,rfl,?_⟩;exact ar (Fn.aV [(3001,3)] (V _ _)) ⟨rfl,bg⟩
end
section
open Go.RowKit Go.Proofs Go.Maps Go.Shelf Go.MapKept Tryz
open Go.WideElems (Fit rd rg pl rd_val rd_key rg_of)
abbrev jx:bx:=.b7 .u8
def x9:Int->Int->Bool:=fun x y=>decide (x<=y)
def mS (l:List Int):List Int:=l.mergeSort x9
theorem C4 (l:List Int):(mS l).Perm l:=List.mergeSort_perm l x9
theorem S9 (m:Nat):AnyZI.SortsIn Tryz.prog QU Fence.wide m:=
 ⟨fun bj off cap g5 W cX jH cM=>callsIn_wide.2 (AnyM.slices_Sort_int QW bj off cap g5 W cX jH cM),
  fun p cap W=>callsIn_wide.2 (AnyM.slices_Sort_int_none QW p cap W)⟩
theorem ag2 (es:List (aa ak×aa jx)):Fn Tryz.prog 151 [.c (.one (.mp 1001))] [(1001,.map ak jx es)] [2001] (.c (.one (.cU 186 [.p 2001 0]))) [(2001,.cells [.mp 1001]),(1001,.map ak jx es)]:=by
 refine aU [] Tryz.func151 ?_;exact⟨rfl,_,_,_,ae.aV 1 2001 rfl,rfl,rfl,aA,rfl⟩
theorem ag3 (es:List (aa ak×aa ak)) (hn:(gR es).Nodup) (al: ∀s∈gR es,(Lit.int .i64 s).wf=true) (ax:es.length<=4294967296):
  Fn Tryz.prog 135 [.c (.one (.cU 178 [.p 2001 0]))] [(2001,.cells [.mp 1001]),(1001,.map ak ak es)] [] (bS ak (mS (gR es))) [(2001,.cells [.mp 1001]),(1001,.map ak ak es)]:=by
 refine⟨au8,fun ρ F I w bW ba cX bh ep b6 dt=>?_⟩
 match bW,b6 with
 | [v],_=>
  obtain⟨aE,ay,gh,r,hr,ma,aF⟩:=dt 0 _ v rfl rfl;have aF:r=[]:=aF;have ma:gh= .pointer (some ⟨(ρ 2001).bj,0,none⟩):=ma;subst aF ma hr ay;obtain⟨_,aE,T,gQ,hr⟩:=cX 2001 _ rfl;obtain⟨x,r,hr,hx,aF⟩:=hr;have aF:r=[]:=aF;have hx:x= .map (some (ρ 1001).bj):=hx;subst aF hx hr;obtain⟨_,bT,bV,he,az,da⟩:=cX 1001 _ rfl;have F8:(4294967296:Nat)<=maxLen:=by decide
  obtain⟨je,du,cM,oY⟩:=Lp (P:=Tryz.prog) (k:=3) au8 he az da hn al au5;have bw:(ρ 2001).bj < w.heap.size:=k1 gQ
  have uQ:SeqGives Fence.wide 2 Tryz.prog 178 #[.pointer (some ⟨(ρ 2001).bj,0,none⟩)] encZ (fun g5=>g5.Perm (intKeys je)) (Maps.size je) w:=
   AnyZI.keys_gives (ρ:=J') {QS with} Fence.wide _ trivial rfl au5 (ρ 2001).bj (ρ 1001).bj es.length je w bw (oF gQ rfl) du
  have H:=AnyZI.sorted_in QV Fence.wide 5 trivial trivial trivial trivial rfl au5 (S9 _) (enters_of Tryz.func177 au8 rfl) 178 #[.pointer (some ⟨(ρ 2001).bj,0,none⟩)] trivial (enters_of Tryz.func178 au8 rfl) _ _ ax0 ax0 _ uQ;refine(callsIn_wide.1 H).mono ?_;rintro e w' ⟨v,g5,rfl,au,fX,x0,gD⟩;have aW:ce I w (fun b=>b < w'.heap.size/\(I b\/w.heap.size<=b)) w':=fun b fP=>⟨⟨Nat.lt_of_lt_of_le (ba b fP) gD.size,.inl fP⟩,gD.block b (ba b fP)⟩
  refine⟨v,ρ,F,rfl,cK.mo gD,fun _ _=>rfl,_,aW,fun b h=>⟨h.1,h.2.imp id .inr⟩,fun c ch H=>Holds.cj aW (fun b O=>gD.block b (bh c ch H b O).1) gD.size ch (fun _ _=>rfl) (cX c ch H),fun c ch H b O=>?_,fun c bX ch ch' b E G=>ep c bX ch ch' b E G,?_⟩
  .have:=bh c ch H b O;exact⟨Nat.lt_of_lt_of_le this.1 gD.size,fun h=>(by rcases h.2 with h |h;exact this.2 h;omega),.inl ⟨c,ch,H,O⟩⟩
  .have ab:g5.mergeSort (fun x y=>decide (x<=y))=mS (gR es):=Go.mergeSort_of_perm_i (au.trans oY);rw[ab] at fX;have hp:=eN.qQ fX;have wm:g5.length=(mS (gR es)).length:=by rw[<-ab,List.length_mergeSort]
   rw[wm] at hp;exact(hp.wY fun i _ aH=>(fX.lt i aH).1).Lr fun b E G=>⟨E,.inr G⟩
theorem ag4 (es:List (aa ak×aa jx)) (hn:(gR es).Nodup) (al: ∀s∈gR es,(Lit.int .i64 s).wf=true) (ax:es.length<=4294967296):
  Fn Tryz.prog 135 [.c (.one (.cU 186 [.p 2001 0]))] [(2001,.cells [.mp 1001]),(1001,.map ak jx es)] [] (bS ak (mS (gR es))) [(2001,.cells [.mp 1001]),(1001,.map ak jx es)]:=by
 refine⟨au8,fun ρ F I w bW ba cX bh ep b6 dt=>?_⟩
 match bW,b6 with
 | [v],_=>
  obtain⟨aE,ay,gh,r,hr,ma,aF⟩:=dt 0 _ v rfl rfl;have aF:r=[]:=aF;have ma:gh= .pointer (some ⟨(ρ 2001).bj,0,none⟩):=ma;subst aF ma hr ay;obtain⟨_,aE,T,gQ,hr⟩:=cX 2001 _ rfl;obtain⟨x,r,hr,hx,aF⟩:=hr;have aF:r=[]:=aF;have hx:x= .map (some (ρ 1001).bj):=hx;subst aF hx hr;obtain⟨_,bT,bV,he,az,da⟩:=cX 1001 _ rfl;have F8:(4294967296:Nat)<=maxLen:=by decide
  obtain⟨je,du,cM,oY⟩:=Lp (P:=Tryz.prog) (k:=3) au8 he az da hn al au5;have bw:(ρ 2001).bj < w.heap.size:=k1 gQ
  have uQ:SeqGives Fence.wide 2 Tryz.prog 186 #[.pointer (some ⟨(ρ 2001).bj,0,none⟩)] encZ (fun g5=>g5.Perm (intKeys je)) (Maps.size je) w:=
   AnyZI.keys_gives (ρ:=QT) {acN with} Fence.wide _ trivial rfl au5 (ρ 2001).bj (ρ 1001).bj es.length je w bw (oF gQ rfl) du
  have H:=AnyZI.sorted_in QV Fence.wide 5 trivial trivial trivial trivial rfl au5 (S9 _) (enters_of Tryz.func177 au8 rfl) 186 #[.pointer (some ⟨(ρ 2001).bj,0,none⟩)] trivial (enters_of Tryz.func186 au8 rfl) _ _ ax0 ax0 _ uQ;refine(callsIn_wide.1 H).mono ?_;rintro e w' ⟨v,g5,rfl,au,fX,x0,gD⟩;have aW:ce I w (fun b=>b < w'.heap.size/\(I b\/w.heap.size<=b)) w':=fun b fP=>⟨⟨Nat.lt_of_lt_of_le (ba b fP) gD.size,.inl fP⟩,gD.block b (ba b fP)⟩
  refine⟨v,ρ,F,rfl,cK.mo gD,fun _ _=>rfl,_,aW,fun b h=>⟨h.1,h.2.imp id .inr⟩,fun c ch H=>Holds.cj aW (fun b O=>gD.block b (bh c ch H b O).1) gD.size ch (fun _ _=>rfl) (cX c ch H),fun c ch H b O=>?_,fun c bX ch ch' b E G=>ep c bX ch ch' b E G,?_⟩
  .have:=bh c ch H b O;exact⟨Nat.lt_of_lt_of_le this.1 gD.size,fun h=>(by rcases h.2 with h |h;exact this.2 h;omega),.inl ⟨c,ch,H,O⟩⟩
  .have ab:g5.mergeSort (fun x y=>decide (x<=y))=mS (gR es):=Go.mergeSort_of_perm_i (au.trans oY);rw[ab] at fX;have hp:=eN.qQ fX;have wm:g5.length=(mS (gR es)).length:=by rw[<-ab,List.length_mergeSort]
   rw[wm] at hp;exact(hp.wY fun i _ aH=>(fX.lt i aH).1).Lr fun b E G=>⟨E,.inr G⟩
end
section
section
variable {P:Program} {N:Nat} {ids:ay5} {K:aY} {B:aw} {o:Oper}
abbrev x' (f b:Nat):aP:=.c (.one (.bJ (.func (.func f) #[.pointer (some ⟨b,0,none⟩)] #[])))
theorem jy {f:FuncId} {x:Operand} {d m b:Nat} (ah:o.op= .makeFunc (.func f) #[x] #[]) (hx:a6 K x= .c (.one (.ptr d 0))) (az:ag B m=some (.cn d (e6 b))) (N:Nat):bB P N ids o K B (x' f b) ⟨[m],[],[]⟩:=by
 have m1:x∈o.op.operands:=av2
 refine bB.val fun K' B' g1 g2 C ρ F a w aq au=>?_
 have ai:=au.ptr ((g1 x m1).trans hx);have ao:=py (N:=N) (a:=a) aq ((g2 m au7).trans az);rw[ao] at ai;refine⟨.func (.func f) #[.pointer (some ⟨b,0,none⟩)] #[],?_,rfl⟩;simp[execOp,ah,Instr.makeFunc,ai]
theorem ag5 {f:FuncId} {c:Call} {t b:Nat} {xs:List Operand} {aJ:aw} {res:aP} {aO:aw} (ah:o.op= .call c) (E:c.callee= .value (.tmp t)) (G:c.args.toList=xs) (al:dA K t=x' f b) (hf:Fn P f (.c (.one (.d (.aL (some b))))::xs.map (a6 K)) aJ [] res aO) (hR:kK B aJ) (bu:mw aJ [] aO=true) (N:Nat):
  bB P N ids o K B res ⟨cl aJ,[],iy aJ aO⟩:=by
 have mem: ∀aC∈xs,aC∈o.op.operands:=fun aC aR=>by
  rw[ah];simp only[Op.operands,Call.operands,Array.mem_append];exact .inr (Array.mem_toList_iff.1 (by rw[G];exact aR))
 have xi:Operand.tmp t∈o.op.operands:=by
  rw[ah];simp only[Op.operands,Call.operands,Array.mem_append,E];exact .inl au7
 obtain⟨v,e,⟨rfl,rfl⟩,aD,_⟩:cB P N ids o K B (fun v e=>v=res/\e=⟨cl aJ,[],iy aJ aO⟩):=Br (args:=.c (.one (.d (.aL (some b))))::xs.map (a6 K)) mem (fun K' ρ I a w g1 au=>by
  have ay:=au t;have ab:dA K' t=dA K t:=g1 (.tmp t) xi;rw[ab,al] at ay;have e:a.tmps.getD t undef= .func (.func f) #[.pointer (some ⟨b,0,none⟩)] #[]:=ay;refine⟨.pointer (some ⟨b,0,none⟩)::xs.map a.eval,fun fT=>Qi fT ah E G e,au7,fun i v x ay hx=>?_⟩
  match i with
  |0=>
   simp only[aq5,ap4] at ay hx;subst ay hx;exact rfl
  |i+1=>exact zc mem g1 au i v x aw6 ax7) ⟨aJ,[],res,aO,hf,hR,by rw[bu];rfl,by rw[rW];exact⟨rfl,rfl⟩⟩
 exact aD
end
abbrev C5 (p:Nat×ay4):aa ak×aa jx:=@Prod.mk Int ay4 (p.1:Int) p.2
abbrev j7 (g:List (Nat×ay4)):List (aa ak×aa jx):=g.map C5
theorem Ta (g:List (Nat×ay4)):(j7 g).length=g.length:=aq3 _
theorem ag6 {l:List (aa ak×aa jx)} {p:aa ak×aa jx} {k:Int} {x:ay4} (h:fW ak k p.1=false):dr (aI:=ak) (aK:=jx) (p::l) k x=p::dr (aI:=ak) (aK:=jx) l k x:=by
 simp only[dr,h]
theorem Tb (k:Nat) (x:ay4): ∀g:List (Nat×ay4),k∉g.map Prod.fst->dr (aI:=ak) (aK:=jx) (j7 g) (k:Int) x=j7 (g++[(k,x)])
 | [],_=>rfl
 |p::g,h=>by
  rw[aq4,ap3,not_or] at h;refine(ag6 (p:=C5 p) (l:=j7 g) ((CX k p.1).trans (ar8 h.1))).trans ?_;rw[Tb k x g h.2];rfl
abbrev C6 (nm:ay4) (bi n rm:Int) (over done:Bool):List bC:=[.ptr 1001 0,.d (.str nm),.d (.int .i64 bi),.d (.int .i64 n),.d (.int .i64 rm),.mp 2002,.mp 2003,.d (.bool over),.d (.bool done)]
abbrev io (z U:Int) (L:List aN) (nm:ay4) (n rm:Int) (l:ay5) (g:List (Nat×ay4)) (over done:Bool):aw:=bP z U L++[(2001,.cells (C6 nm z n rm over done)),(2002,.map ak ak (fZ l)),(2003,.map ak jx (j7 g))]
section
variable {z U:Nat} {L:List aN} {nm:ay4}
theorem ag7 (z U:Int) (L:List aN) (nm:ay4) (n rm:Int) (l:ay5) (g:List (Nat×ay4)) (over done:Bool):Fn Tryz.prog 291 [ap 2001] (io z U L nm n rm l g over done) [] (fK over) (io z U L nm n rm l g over done):=by
 refine aU [] Tryz.func291 ?_;exact bg
theorem ag8 (z U:Int) (L:List aN) (nm:ay4) (n rm:Int) (l:ay5) (g:List (Nat×ay4)) (over done:Bool):Fn Tryz.prog 65 [ap 2001] (io z U L nm n rm l g over done) [] (fK done) (io z U L nm n rm l g over done):=by
 refine aU [] Tryz.func65 ?_;exact bg
theorem Tc (z U:Int) (L:List aN) (nm:ay4) (n rm:Int) (l:ay5) (g:List (Nat×ay4)) (over done:Bool):Fn Tryz.prog 175 [ap 2001] (io z U L nm n rm l g over done) [] gJ (io z U L nm n rm [] g true done):=by
 refine aU [] Tryz.func175 ?_;refine⟨_,_,fun N=>SV rfl Tryz.underlying159 rfl rfl N,rfl,?_⟩;exact⟨_,_,_,ae.sA 2001 (l':=C6 nm z n rm true done) rfl aA,rfl,trivial,aA,rfl⟩
structure ag9 where
 e:Int
 l:ay5
 g:List (Nat×ay4)
 over:Bool
def ei (z:Nat) (L:List aN) (nm:ay4) (rm:Int) (l:ay5) (g:List (Nat×ay4)) (k:Nat):ag9:=if rm<=((g.length:Nat):Int) then⟨171,[],g,true⟩ else⟨0,l.erase k,g++[(k,hJ z L nm (k:Int))],false⟩
theorem ag' (h:cE z U L) (nm:ay4) (n rm:Int) (l:ay5) (g:List (Nat×ay4)) (done:Bool) (k:Nat) (ab:k∉g.map Prod.fst):Fn Tryz.prog 134 [ap 2001,ac (k:Int)] (io z U L nm n rm l g false done) [] (ac (ei z L nm rm l g k).e) (io z U L nm n rm (ei z L nm rm l g k).l (ei z L nm rm l g k).g (ei z L nm rm l g k).over done):=by
 have dJ:=Ll h nm (k:Int);have b6:=Ta g;have rt:=Tb k (hJ z L nm (k:Int)) g ab;have dC:=Lv k l
 by_cases c:rm<=((g.length:Nat):Int)
 .have e:ei z L nm rm l g k=⟨171,[],g,true⟩:=if_pos c;rw[e];refine aU [2] Tryz.func134 ?_;refine⟨rfl,fun _=>?_,fun bk=>?_⟩
  .show bt _ _ _ _ _ _ _;exact bz [] (bp) <| ar (Tc z U L nm n rm l g false done) bg
  .exfalso;have bk:decide (rm<=(((j7 g).length:Nat):Int))=false:=bk;have:=mu bk;omega
 .have e:ei z L nm rm l g k=⟨0,l.erase k,g++[(k,hJ z L nm (k:Int))],false⟩:=if_neg c;rw[e];generalize hJ z L nm (k:Int)=x at*;refine aU [4] Tryz.func134 ?_;refine⟨rfl,fun bk=>?_,fun _=>?_⟩
  .exfalso;have bk:decide (rm<=(((j7 g).length:Nat):Int))=true:=bk;have:=gd bk;omega
  exact bz [] (bp) <| ar dJ ⟨trivial,rfl,si bp rfl rfl ⟨rfl,rfl,rfl,rfl,rfl,congrArg (fun aC=>some (bb.map ak ak aC)) dC,congrArg (fun aC=>some (bb.map ak jx aC)) rt,trivial⟩ rfl⟩
abbrev tH (z U:Int) (L:List aN) (nm:ay4) (n rm:Int) (l:ay5) (g:List (Nat×ay4)) (over done:Bool) (b:Nat):aw:=io z U L nm n rm l g over done++[(9001,.cn 2001 (e6 b))]
theorem Td (h:cE z U L) (nm:ay4) (n rm:Int) (l:ay5) (g:List (Nat×ay4)) (done:Bool) (k:Nat) (ab:k∉g.map Prod.fst) (b:Nat):Fn Tryz.prog 134 [.c (.one (.d (.aL (some b)))),ac (k:Int)] (tH z U L nm n rm l g false done b) [] (ac (ei z L nm rm l g k).e) (tH z U L nm n rm (ei z L nm rm l g k).l (ei z L nm rm l g k).g (ei z L nm rm l g k).over done b):=by
 have H:=ag' h nm n rm l g done k ab;generalize ei z L nm rm l g k=r at*
 refine Fn.via (X:=Unit) (args':=fun _=>[ap 2001,ac (k:Int)]) (uE:=fun _=>tH z U L nm n rm l g false done b) (m6:=fun _=>io z U L nm n rm l g false done) (i9:=fun _=>[]) (res':=fun _=>ac r.e) (nR:=fun _=>io z U L nm n rm r.l r.g r.over done)
  au8 2 rfl ?_ (fun _=>H) (fun _=>aA) (fun _=>rfl) (fun _=>rfl) ?_
 .intro N C a w ax;exact⟨(),eW.sub (ae.J5 0 2001 9001 b rfl rfl N C a w ax) aA aA⟩
 .intro _;exact⟨ac r.e,tH z U L nm n rm r.l r.g r.over done b,ae.sub aA aA,rfl,aA,rfl⟩
structure aha where
 rv:Bool
 e:Int
 l:ay5
 g:List (Nat×ay4)
 over:Bool
 done:Bool
def i1 (z:Nat) (L:List aN) (nm:ay4) (rm:Int) (l:ay5) (g:List (Nat×ay4)) (over done:Bool):aha:=if over=true then⟨false,170,l,g,true,done⟩ else if l=[] then⟨true,0,[],g,true,true⟩ else
 ⟨false,(ei z L nm rm l g (eP l)).e,(ei z L nm rm l g (eP l)).l,(ei z L nm rm l g (eP l)).g,(ei z L nm rm l g (eP l)).over,done⟩
theorem ahb (h:cE z U L) (nm:ay4) (n rm:Int) (l:ay5) (g:List (Nat×ay4)) (over done:Bool) (al: ∀k,k∈l->k<=100000) (oK:l.length<=100000) (hn:l.Nodup) (a1: ∀k,k∈l->k∉g.map Prod.fst):Fn Tryz.prog 292 [ap 2001] (io z U L nm n rm l g over done) [] (.cf [.one (.d (.bool (i1 z L nm rm l g over done).rv)),dw (i1 z L nm rm l g over done).e])
  (io z U L nm n rm (i1 z L nm rm l g over done).l (i1 z L nm rm l g over done).g (i1 z L nm rm l g over done).over (i1 z L nm rm l g over done).done):=by
 cases over with
 |true=>
  have e:i1 z L nm rm l g true done=⟨false,170,l,g,true,done⟩:=if_pos rfl;rw[e];refine aU [] Tryz.func292 ?_;exact e5 bg
 |false=>
  have q9:=Lu l
  by_cases a2:l=[]
  .have e:i1 z L nm rm l g false done=⟨true,0,[],g,true,true⟩:=(if_neg au6).trans (if_pos a2);rw[e];subst a2;refine aU [] Tryz.func292 ?_;exact df <| e5 ⟨_,_,_,ae.sA 2001 (l':=C6 nm z n rm true true) rfl aA,rfl,aA,aA,rfl⟩
  .have e:i1 z L nm rm l g false done=⟨false,(ei z L nm rm l g (eP l)).e,(ei z L nm rm l g (eP l)).l,(ei z L nm rm l g (eP l)).g,(ei z L nm rm l g (eP l)).over,done⟩:=(if_neg au6).trans (if_neg a2);rw[e];obtain⟨cx,cA,dy⟩:=Gp a2
   have A4: ∀g:{g5:List Int//g5.Perm (gR (fZ l))},o3 g.1=((eP l:Nat):Int):=fun g=>by
    rw[ST g.2 (by rw[uS];simpa using a2),uS];exact cx
   have uI: ∀g:{g5:List Int//g5.Perm (gR (fZ l))},g.1.length=l.length:=fun g=>by
    rw[g.2.length_eq,uS,aq3]
   have we:0 < l.length:=List.length_pos_iff.2 a2;have LD:=SR (fZ l) (Lw hn) (Lx fun k ab=>by have:=al k ab;omega) au5;have xx:=Td h nm n rm l g done (eP l) (a1 _ cA);generalize ei z L nm rm l g (eP l)=r at*;generalize eP l=rB at*;refine aU [6,7] Tryz.func292 ?_;refine df ⟨fun H=>?_,fun _=>?_⟩
   .exfalso;have H:decide ((((fZ l).length:Nat):Int)=0)=true:=H;have:=gd H;omega
   refine bt.eY (de.mark 2001 9001 rfl au6) fun b=>?_
   refine bz [7] (cH [(0,ap 2001)] (tH z U L nm n rm l g false done b)) ⟨_,_,fun N=>jy (m:=9001) (b:=b) rfl rfl rfl N,rfl,?_⟩;refine bt.le (cH [(0,ap 2001),(4,x' 134 b)] (tH z U L nm n rm l g false done b)) <| bt.iC eX au8 <| lF ((Fn.aV [(1001,2002),(2001,9101)] (Lq (fZ l))).x) fun _=>⟨_,_,_,fun g=>_,fun g=>_,cu.aV [(1001,2002),(2001,9101)] LD,aA,rfl,fun _=>rfl,fun LL=>?_⟩
   have agT:=uI LL;have C0:=A4 LL;refine lF ((Fn.res (res':=ac (rB:Int)) (SU LL.1 au5 au5) C0).x) fun _=>?_
   refine lF ((xx b).x) fun _=>?_
   exact bg
end
abbrev tI:bx:=.bQ ak jx
def Al (g:List (Nat×ay4)) (k:Int):ay4:=(b0 (aI:=ak) (aK:=jx) (j7 g) k).getD (cL jx)
def Te (g:List (Nat×ay4)) (k:Int):aa tI:=@Prod.mk Int ay4 k (Al g k)
def n4 (g:List (Nat×ay4)):List (aa tI):=(mS (gR (j7 g))).map (Te g)
theorem Gx (g:List (Nat×ay4)):gR (j7 g)=(g.map Prod.fst).map fun k:Nat=>(k:Int):=by
 unfold gR j7;rw[as2,as2];rfl
theorem LM (g:List (Nat×ay4)):(n4 g).length=g.length:=by
 unfold n4;rw[aq3,(C4 _).length_eq,Gx,aq3,aq3]
theorem LN {B:Nat} (k:Int): ∀g:List (Nat×ay4),(∀p,p∈g->p.2.length<=B)->(Al g k).length<=B
 | [],_=>ap7 _
 |p::g,h=>by
  cases e:fW ak k (C5 p).1 with
  |true=>
   have:Al (p::g) k=p.2:=by
    show(b0 (aI:=ak) (aK:=jx) (C5 p::j7 g) k).getD (cL jx)=p.2;simp only[b0,e];rfl
   rw[this];exact h p (aq0 ..)
  |false=>
   have:Al (p::g) k=Al g k:=by
    show(b0 (aI:=ak) (aK:=jx) (C5 p::j7 g) k).getD (cL jx)=(b0 (aI:=ak) (aK:=jx) (j7 g) k).getD (cL jx);simp only[b0,e]
   rw[this];exact LN k g fun q aT=>h q (ap2 _ aT)
section
variable {z U:Nat} {L:List aN} {nm:ay4}
abbrev Tf (ks:List Int) (c k:Nat):aY:=[(0,ap 2001),(5,eO c),(18,bS ak ks),(19,ac (ks.length:Nat)),(20,ac (k:Nat))]
abbrev LO (z U:Int) (L:List aN) (nm:ay4) (n rm:Int) (l:ay5) (g:List (Nat×ay4)) (over done:Bool) (c:Nat) (x:List (aa tI)):aw:=io z U L nm n rm l g over done++[(c,.row 109 tI x)]
theorem ahc (z U:Int) (L:List aN) (nm:ay4) (n rm:Int) (l:ay5) (g:List (Nat×ay4)) (over:Bool) (hn:(g.map Prod.fst).Nodup) (ab: ∀p,p∈g->p.1<=100000/\p.2.length<=100000) (al:g.length<=100000):
  Fn Tryz.prog 101 [ap 2001] (io z U L nm n rm l g over true) [] (.cf [.one (.d (.ck tI (n4 g))),dw n,.one (.d (.bool true))]) (io z U L nm n rm l g over true):=by
 have d0:(gR (j7 g)).Nodup:=by
  rw[Gx];exact Lo (fun x _ y _ e=>by have e:(x:Int)=(y:Int):=e;omega) hn
 have nb: ∀s∈gR (j7 g),(Lit.int .i64 s).wf=true:=fun s ax=>by
  rw[Gx] at ax;obtain⟨k,cm,rfl⟩:=ar2.1 ax;obtain⟨p,af,rfl⟩:=ar2.1 cm;have:=(ab p af).1;show(decide (IntKind.i64.min<=(p.1:Int))&&decide ((p.1:Int)<=IntKind.i64.max))=true;rw[aq1 (show(IntKind.i64.min:Int)<=(p.1:Int) from Int.le_trans (by decide:IntKind.i64.min<=(0:Int)) au5),aq1 (show(p.1:Int)<=IntKind.i64.max from Int.le_trans (by omega:(p.1:Int)<=1000000) au6)];rfl
 have Tg:=Ta g;have Gy:=ag4 (j7 g) d0 nb au5;have hi:(mS (gR (j7 g))).length=g.length:=by rw[(C4 _).length_eq,Gx,aq3,aq3]
 have lw: ∀k:Nat,(h:k < (mS (gR (j7 g))).length)->(n4 g).take k++[Te g (mS (gR (j7 g)))[k]]=(n4 g).take (k+1):=fun k h=>by
  rw[List.take_add_one];unfold n4;rw[ar0,oj h];rfl
 have hc:=LM g;have iT:=fun k=>LN (B:=100000) k g fun p af=>(ab p af).2
 generalize mS (gR (j7 g))=ks at*;generalize n4 g=bE at*;refine aU [4,7,9] Tryz.func101 ?_;refine df <| bz [7,9] (bp) <| ar (Fn.aV [(1001,2003),(2001,9201)] (ag2 (j7 g))) <| ar (Fn.aV [(1001,2003),(2001,9201)] Gy) <| dQ [7,9] (X:=Nat) (fun k=>Tf ks 5002 k) (fun k=>LO z U L nm n rm l g over true 5002 (bE.take k)) (fun k=>k<=ks.length) (fun k=>ks.length - k) 0 (ap7 _) ?_ ?_
 .exact ae.trans (cH [(0,ap 2001),(5,.c (.one .dD)),(18,bS ak ks),(19,ac (ks.length:Nat)),(20,ac 0)] (io z U L nm n rm l g over true)) (ae.trans (ae.nil 5 5002 109 tI rfl rfl) (ae.sub aA aA))
 intro k cm;have cm:k<=ks.length:=cm;refine⟨fun H=>?_,fun H=>?_⟩
 .have H:decide ((k:Int) < ((ks.length:Nat):Int))=true:=H;have fe:k < ks.length:=aw7
  have mx:=jv (n:=k) fe;have ez:=lw k fe;generalize ks[k]=q at*;have hx:=iT q;have dJ:=K6 (Al g q) au5
  have b6:List.length (α:=aa tI) (bE.take k)+1<=4294967296:=by
   show(bE.take k).length+1<=4294967296;rw[ap8];omega
  exact⟨au5,q,mx,bz [9] (cH [(0,ap 2001),(5,eO 5002),(18,bS ak ks),(19,ac (ks.length:Nat)),(20,ac (k:Nat)),(7,ac q)] (LO z U L nm n rm l g over true 5002 (bE.take k))) <| ar dJ ⟨b6,rfl,au5,k+1,fe,au5,ae.trans (ae.sub (K':=Tf ks 35 (k+1)) (B':=LO z U L nm n rm l g over true 35 (bE.take (k+1))) aA ⟨rfl,rfl,rfl,rfl,rfl,rfl,rfl,congrArg (fun aC=>some (bb.row 109 tI aC)) ez,trivial⟩) (ae.trans (ae.aV 35 5002 rfl) (ae.sub aA aA))⟩⟩
 .have H:decide ((k:Int) < ((ks.length:Nat):Int))=false:=H;have fe:k=ks.length:=aw3
  have eH:bE.take k=bE:=List.take_of_length_le au5;exact bz [] (ae.dW 5002 rfl) ⟨rfl,eq bp rfl ⟨eH,rfl,rfl,trivial⟩⟩
end
def h8 (f:Nat->Bool) (z:Nat):Nat->ay5
 |0=>[]
 |s+1=>if f s=true then nj (h8 f z s) (s/2 ^z) else h8 f z s
theorem LP (f:Nat->Bool) (z:Nat): ∀s,(h8 f z s).Nodup
 |0=>at0
 |s+1=>by
  show(if f s=true then nj (h8 f z s) (s/2 ^z) else h8 f z s).Nodup
  split
  .exact SZ (LP f z s)
  .exact LP f z s
theorem LQ (f:Nat->Bool) (z n:Nat): ∀s,s<=n*2 ^z-> ∀k,k∈h8 f z s->k < n
 |0,_,k,h=>by cases h
 |s+1,ax,k,h=>by
  have h:k∈(if f s=true then nj (h8 f z s) (s/2 ^z) else h8 f z s):=h;have J:s/2 ^z < n:=(Nat.div_lt_iff_lt_mul (Nat.two_pow_pos z)).2 au5
  split at h
  .rcases SY.1 h with h |h
   .exact LQ f z n s au5 k h
   .omega
  .exact LQ f z n s au5 k h
section
variable {z U:Nat} {L:List aN} {nm:ay4}
abbrev C7 (z U:Int) (L:List aN) (nm:ay4) (n rm:Int) (l:ay5):aw:=bP z U L++[(46,.cells [.ptr 1001 0,.d (.str nm),.d (.int .i64 z),.d (.int .i64 n),.d (.int .i64 rm),.mp 43,.mp 44,.d (.bool false),.d (.bool false)]),(43,.map ak ak (fZ l)),(44,.map ak jx [])]
theorem ahd (h:cE z U L) {d:aN} (J:dk L nm=some d) (rm:Int) (aF:rm < 0):Fn Tryz.prog 62 [ap 1001,bU nm,.c (.one (.bJ (.pointer none))),ac rm] (bP z U L) [] (.cf [mG,dw 1]) (bP z U L):=by
 refine aU [] Tryz.func62 ?_;exact ar (jd _ _ L h.tohW nm d J) ⟨fun _ _=>⟨fun _=>si bp rfl aA ⟨rfl,rfl,rfl,rfl,trivial⟩ rfl,fun h=>absurd (mu h) au5⟩,fun h=>by cases h⟩
abbrev ahe (am:Nat) (nm:ay4) (N s:Nat):aY:=[(2,.c (.one (.bJ (.pointer none)))),(11,ap 46),(55,ac (N:Nat)),(56,ac (s:Nat))]
theorem ahf (h:cE z U L) {d:aN} (J:dk L nm=some d) (rm:Int) (aF:0<=rm):Fn Tryz.prog 62 [ap 1001,bU nm,.c (.one (.bJ (.pointer none))),ac rm] (bP z U L) [2001,2002,2003] (.cf [.one (.ptr 2001 0),dw 0]) (io z U L nm (d.im.t.length:Nat) rm (h8 (fun _=>true) z (d.im.t.length*2 ^z)) [] false false):=by
 have nd:=(h.g4 d (cV J).1).1.eV;have fx:=h.tohW.M (cV J).1;have lu:d.im.z=z:=(h.g4 d (cV J).1).2.1;have uV:=h.b3;have af:=kp h.b3
 have o4:((d.im.t.length:Nat):Int)*((2 ^((d.im.z:Nat):Int).toNat:Nat):Int)=((d.im.t.length*2 ^z:Nat):Int):=by
  rw[lu];show((d.im.t.length:Nat):Int)*((2 ^z:Nat):Int)=_;rw[Int.natCast_mul]
 have mk:d.im.t.length*2 ^z<=256*8:=Nat.mul_le_mul nd af.2;have m1:(0:Int)<=((d.im.t.length:Nat):Int)/\(0:Int)<=((d.im.z:Nat):Int)/\((d.im.z:Nat):Int)<=64:=av3
 have m2:c0 (((d.im.t.length:Nat):Int)*((2 ^((d.im.z:Nat):Int).toNat:Nat):Int)):=by rw[o4];omega
 have cI:(0:Int)<=((d.im.t.length:Nat):Int)/\(0:Int)<=((z:Nat):Int)/\((z:Nat):Int)<=64:=av3
 have C8:((d.im.t.length:Nat):Int)*((2 ^((z:Nat):Int).toNat:Nat):Int)=((d.im.t.length*2 ^z:Nat):Int):=by
  show((d.im.t.length:Nat):Int)*((2 ^z:Nat):Int)=_;rw[Int.natCast_mul]
 have dF:c0 (((d.im.t.length:Nat):Int)*((2 ^((z:Nat):Int).toNat:Nat):Int)):=by rw[C8];omega
 refine aU [6,7,10,11] Tryz.func62 ?_;refine ar (jd _ _ L h.tohW nm d J) ⟨fun _ _=>⟨fun h=>absurd (gd h) au5,fun _=>bz [7,10,11] (ae.sub (K':=[(0,ap 1001),(1,bU nm),(2,.c (.one (.bJ (.pointer none)))),(3,ac rm),(10,dn d.am)]) (B':=bP z U L) aA ⟨rfl,rfl,rfl,rfl,trivial⟩) <| ar (hy (uT d.im) fx rfl rfl rfl rfl) <| ar (hy (mL d.im) fx rfl rfl rfl rfl) ⟨rfl,rfl,rfl,bz [10,11] (ae.trans (ae.sA 46 (l':=[.ptr 1001 0,.d (.str nm),.d (.int .i64 ((z:Nat):Int)),.d (.int .i64 ((d.im.t.length:Nat):Int)),.d (.int .i64 rm),.mp 43,.mp 44,.d (.bool false),.d (.bool false)]) rfl ⟨rfl,rfl,congrArg Int.ofNat lu,rfl,rfl,rfl,rfl,rfl,rfl,trivial⟩) (ae.sub (K':=[(2,.c (.one (.bJ (.pointer none)))),(11,ap 46)]) (B':=C7 z U L nm (d.im.t.length:Nat) rm []) aA ⟨rfl,rfl,rfl,rfl,rfl,rfl,rfl,trivial⟩)) ⟨cI,dF,rfl,dQ [10,11] (X:=Nat) (fun s=>ahe d.am nm (d.im.t.length*2 ^z) s) (fun s=>C7 z U L nm (d.im.t.length:Nat) rm (h8 (fun _=>true) z s)) (fun s=>s<=d.im.t.length*2 ^z) (fun s=>d.im.t.length*2 ^z - s) 0 (ap7 _) ?_ ?_⟩⟩⟩,fun h=>by cases h⟩
 .exact ae.sub ⟨rfl,rfl,C8,rfl,trivial⟩ ⟨rfl,rfl,rfl,rfl,rfl,rfl,rfl,trivial⟩
 intro s ax;have ax:s<=d.im.t.length*2 ^z:=ax;refine⟨fun H=>?_,fun H=>?_⟩
 .have H:decide ((s:Int) < ((d.im.t.length*2 ^z:Nat):Int))=true:=H;have iG:s < d.im.t.length*2 ^z:=aw7
  have cx:(0:Int)<=(s:Int)/\(0:Int)<=((z:Nat):Int)/\((z:Nat):Int)<=64:=av3
  have sw:(s:Int)/((2 ^((z:Nat):Int).toNat:Nat):Int)=((s/2 ^z:Nat):Int):=by
   show(s:Int)/((2 ^z:Nat):Int)=_;rfl
  exact bz [11] (ae.sub (K':=[(2,.c (.one (.bJ (.pointer none)))),(11,ap 46),(55,ac ((d.im.t.length*2 ^z:Nat):Int)),(56,ac (s:Nat)),(12,ac (s:Nat))]) (B':=C7 z U L nm (d.im.t.length:Nat) rm (h8 (fun _=>true) z s)) aA ⟨rfl,rfl,rfl,rfl,rfl,rfl,rfl,trivial⟩) <| bz [] (ae.sub (K':=[(2,.c (.one (.bJ (.pointer none)))),(11,ap 46),(55,ac ((d.im.t.length*2 ^z:Nat):Int)),(56,ac (s:Nat)),(12,ac (s:Nat))]) (B':=C7 z U L nm (d.im.t.length:Nat) rm (h8 (fun _=>true) z s)) aA ⟨rfl,rfl,rfl,rfl,rfl,rfl,rfl,trivial⟩) ⟨cx,trivial,rfl,au5,s+1,iG,au5,ae.sub aA ⟨rfl,rfl,rfl,rfl,rfl,congrArg (fun aC=>some (bb.map ak ak aC)) ((CY (s/2 ^z) _).trans (congrArg fZ (show nj (h8 (fun _=>true) z s) (s/2 ^z)=h8 (fun _=>true) z (s+1) from(if_pos rfl).symm))),rfl,trivial⟩⟩
 .have H:decide ((s:Int) < ((d.im.t.length*2 ^z:Nat):Int))=false:=H;have iG:s=d.im.t.length*2 ^z:=aw3
  subst iG;exact⟨_,_,_,ae.trans (ae.aV 46 2001 rfl) (ae.trans (ae.aV 43 2002 rfl) (ae.aV 44 2003 rfl)),rfl,aA,⟨rfl,rfl,rfl,rfl,rfl,rfl,rfl,trivial⟩,rfl⟩
abbrev ya (s g:Int) (es:List (aa ak×aa ak)):aw:=[(5001,.cells [.d (.int .i64 s),.d (.int .i64 g),.mp 5002]),(5002,.map ak ak es)]
abbrev Th (z U:Int) (L:List aN) (s g:Int) (es:List (aa ak×aa ak)):aw:=bP z U L++ya s g es
abbrev Gz (z U:Int) (L:List aN) (nm:ay4) (n rm:Int) (l:ay5) (s g:Int) (es:List (aa ak×aa ak)):aw:=C7 z U L nm n rm l++ya s g es
abbrev ahg (z U:Int) (L:List aN) (nm:ay4) (n rm:Int) (l:ay5) (qi:List (Nat×ay4)) (over done:Bool) (s g:Int) (es:List (aa ak×aa ak)):aw:=io z U L nm n rm l qi over done++ya s g es
theorem ahh (h:cE z U L) {d:aN} (J:dk L nm=some d) (rm:Int) (aF:rm < 0) (s g:Int) (es:List (aa ak×aa ak)):Fn Tryz.prog 62 [ap 1001,bU nm,ap 5001,ac rm] (bP z U L++[(5001,.cells [.d (.int .i64 s),.d (.int .i64 g),.mp 5002]),(5002,.map ak ak es)]) [] (.cf [mG,dw 1]) (bP z U L++[(5001,.cells [.d (.int .i64 s),.d (.int .i64 g),.mp 5002]),(5002,.map ak ak es)]):=by
 refine aU [] Tryz.func62 ?_;exact ar (jd _ _ L h.tohW nm d J) ⟨fun _ _=>⟨fun _=>bg,fun h=>absurd (mu h) au5⟩,fun h=>by cases h⟩
abbrev ahi (am:Nat) (nm:ay4) (N s:Nat):aY:=[(2,ap 5001),(11,ap 46),(55,ac (N:Nat)),(56,ac (s:Nat))]
theorem ahj (h:cE z U L) {d:aN} (J:dk L nm=some d) (rm:Int) (aF:0<=rm) (g:Int) (es:List (aa ak×aa ak)) (a1:1<=g):Fn Tryz.prog 62 [ap 1001,bU nm,ap 5001,ac rm] (Th z U L ((d.im.t.length*2 ^z:Nat):Int) g es) [2001,2002,2003] (.cf [.one (.ptr 2001 0),dw 0]) (ahg z U L nm (d.im.t.length:Nat) rm (h8 (mR g es) z (d.im.t.length*2 ^z)) [] false false ((d.im.t.length*2 ^z:Nat):Int) g es):=by
 have nd:=(h.g4 d (cV J).1).1.eV;have fx:=h.tohW.M (cV J).1;have lu:d.im.z=z:=(h.g4 d (cV J).1).2.1;have uV:=h.b3;have af:=kp h.b3
 have o4:((d.im.t.length:Nat):Int)*((2 ^((d.im.z:Nat):Int).toNat:Nat):Int)=((d.im.t.length*2 ^z:Nat):Int):=by
  rw[lu];show((d.im.t.length:Nat):Int)*((2 ^z:Nat):Int)=_;rw[Int.natCast_mul]
 have mk:d.im.t.length*2 ^z<=256*8:=Nat.mul_le_mul nd af.2;have m1:(0:Int)<=((d.im.t.length:Nat):Int)/\(0:Int)<=((d.im.z:Nat):Int)/\((d.im.z:Nat):Int)<=64:=av3
 have m2:c0 (((d.im.t.length:Nat):Int)*((2 ^((d.im.z:Nat):Int).toNat:Nat):Int)):=by rw[o4];omega
 have cI:(0:Int)<=((d.im.t.length:Nat):Int)/\(0:Int)<=((z:Nat):Int)/\((z:Nat):Int)<=64:=av3
 have C8:((d.im.t.length:Nat):Int)*((2 ^((z:Nat):Int).toNat:Nat):Int)=((d.im.t.length*2 ^z:Nat):Int):=by
  show((d.im.t.length:Nat):Int)*((2 ^z:Nat):Int)=_;rw[Int.natCast_mul]
 have dF:c0 (((d.im.t.length:Nat):Int)*((2 ^((z:Nat):Int).toNat:Nat):Int)):=by rw[C8];omega
 refine aU [6,7,10,11] Tryz.func62 ?_;refine ar (jd _ _ L h.tohW nm d J) ⟨fun _ _=>⟨fun h=>absurd (gd h) au5,fun _=>ar (Fn.aV [(1001,5001),(1002,5002)] (LJ ((d.im.t.length*2 ^z:Nat):Int) g es)) <| ar (hy (mL d.im) fx rfl rfl rfl rfl) <| ar (hy (uT d.im) fx rfl rfl rfl rfl) ⟨m1,m2,fun bk=>?_,fun _=>?_⟩⟩,fun h=>by cases h⟩
 .exfalso;have bk:(!decide (((d.im.t.length*2 ^z:Nat):Int)=((d.im.t.length:Nat):Int)*((2 ^((d.im.z:Nat):Int).toNat:Nat):Int)))=true:=bk;rw[o4,aq1 rfl] at bk
  cases bk
 refine bz [7,10,11] (cH [(0,ap 1001),(1,bU nm),(2,ap 5001),(3,ac rm),(10,dn d.am)] (Th z U L ((d.im.t.length*2 ^z:Nat):Int) g es)) <| ar (hy (uT d.im) fx rfl rfl rfl rfl) <| ar (hy (mL d.im) fx rfl rfl rfl rfl) ⟨rfl,rfl,rfl,bz [10,11] (ae.trans (ae.sA 46 (l':=[.ptr 1001 0,.d (.str nm),.d (.int .i64 ((z:Nat):Int)),.d (.int .i64 ((d.im.t.length:Nat):Int)),.d (.int .i64 rm),.mp 43,.mp 44,.d (.bool false),.d (.bool false)]) rfl ⟨rfl,rfl,congrArg Int.ofNat lu,rfl,rfl,rfl,rfl,rfl,rfl,trivial⟩) (cH [(2,ap 5001),(11,ap 46)] (Gz z U L nm (d.im.t.length:Nat) rm [] ((d.im.t.length*2 ^z:Nat):Int) g es))) ⟨cI,dF,rfl,dQ [10,11] (X:=Nat) (fun s=>ahi d.am nm (d.im.t.length*2 ^z) s) (fun s=>Gz z U L nm (d.im.t.length:Nat) rm (h8 (mR g es) z s) ((d.im.t.length*2 ^z:Nat):Int) g es) (fun s=>s<=d.im.t.length*2 ^z) (fun s=>d.im.t.length*2 ^z - s) 0 (ap7 _) ?_ ?_⟩⟩
 .exact ae.sub ⟨rfl,rfl,C8,rfl,trivial⟩ aA
 intro s ax;have ax:s<=d.im.t.length*2 ^z:=ax;refine⟨fun H=>?_,fun H=>?_⟩
 .have H:decide ((s:Int) < ((d.im.t.length*2 ^z:Nat):Int))=true:=H;have iG:s < d.im.t.length*2 ^z:=aw7
  have cx:(0:Int)<=(s:Int)/\(0:Int)<=((z:Nat):Int)/\((z:Nat):Int)<=64:=av3
  have sw:(s:Int)/((2 ^((z:Nat):Int).toNat:Nat):Int)=((s/2 ^z:Nat):Int):=by
   show(s:Int)/((2 ^z:Nat):Int)=_;rfl
  refine bz [11] (cH [(2,ap 5001),(11,ap 46),(55,ac ((d.im.t.length*2 ^z:Nat):Int)),(56,ac (s:Nat)),(12,ac (s:Nat))] (Gz z U L nm (d.im.t.length:Nat) rm (h8 (mR g es) z s) ((d.im.t.length*2 ^z:Nat):Int) g es)) <| ar (Fn.aV [(1001,5001),(1002,5002)] (S8 ((d.im.t.length*2 ^z:Nat):Int) g es s a1 au5 au5)) ⟨fun hf=>?_,fun hf=>?_⟩
  .have hf:mR g es s=true:=hf;exact bz [] (cH [(2,ap 5001),(11,ap 46),(55,ac ((d.im.t.length*2 ^z:Nat):Int)),(56,ac (s:Nat)),(12,ac (s:Nat))] (Gz z U L nm (d.im.t.length:Nat) rm (h8 (mR g es) z s) ((d.im.t.length*2 ^z:Nat):Int) g es)) ⟨cx,trivial,rfl,au5,s+1,iG,au5,ae.sub aA ⟨rfl,rfl,rfl,rfl,rfl,congrArg (fun aC=>some (bb.map ak ak aC)) ((CY (s/2 ^z) _).trans (congrArg fZ (show nj (h8 (mR g es) z s) (s/2 ^z)=h8 (mR g es) z (s+1) from(if_pos hf).symm))),rfl,rfl,rfl,trivial⟩⟩
  .have hf:mR g es s=false:=hf;exact⟨au5,s+1,iG,au5,ae.sub aA ⟨rfl,rfl,rfl,rfl,rfl,congrArg (fun aC=>some (bb.map ak ak (fZ aC))) (show h8 (mR g es) z s=h8 (mR g es) z (s+1) from(if_neg (by rw[hf];decide)).symm),rfl,rfl,rfl,trivial⟩⟩
 .have H:decide ((s:Int) < ((d.im.t.length*2 ^z:Nat):Int))=false:=H;have iG:s=d.im.t.length*2 ^z:=aw3
  subst iG;exact⟨_,_,_,ae.trans (ae.aV 46 2001 rfl) (ae.trans (ae.aV 43 2002 rfl) (ae.aV 44 2003 rfl)),rfl,aA,aA,rfl⟩
end
end
end Go.Proofs.YthnboghbhgapcaaGreat
