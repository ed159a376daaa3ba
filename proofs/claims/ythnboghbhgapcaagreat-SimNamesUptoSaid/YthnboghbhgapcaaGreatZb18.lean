/-
A part of the proof of this claim: lemmas, with no condition beyond what each says.
-/
import Derived.Test.YthnboghbhgapcaaGreatZb17
set_option linter.unusedVariables false
set_option linter.unusedSimpArgs false
set_option maxRecDepth 10000
set_option maxHeartbeats 4000000
namespace Go.Proofs.YthnboghbhgapcaaGreat
open Go.RowKit Go.Proofs Tryz
section
def ir (b:Bool):Nat:=if b=true then 1 else 0
theorem Hf (b:Bool):ir b < 256 ^1:=by cases b <;>decide
theorem ML (b:Bool):Fn Tryz.prog 119 [fK b] [] [] (ac ((ir b:Nat):Int)) []:=by
 refine aU [] Tryz.func119 ?_;refine⟨fun h=>?_,fun h=>?_⟩
 .have h:b=true:=h;subst h;exact bg
 .have h:b=false:=h;subst h;exact bg
def iu (g7:Bool) (e:bd):ay4:=gE e.nm 1++(eF 1 [ir e.on,ir (e.us&&g7)]++gE (encZ e.s e.g e.es) 2)
def nr (g7:Bool) (l:List bd) (nm:ay4):ay4:=match c3 l nm with
 |some e=>iu g7 e
 |none=>[]
def qA (g7:Bool) (l:List bd):ay4:=eF 1 [l.length]++(ia l).flatMap (nr g7 l)
abbrev Hg (g7:Bool) (l:List bd) (r k:Nat):aY:=[(0,ap 1001),(1,fK g7),(5,eO r),(21,bS .str (ia l)),(22,ac ((ia l).length:Nat)),(23,ac (k:Nat))]
abbrev akE (g7:Bool) (l:List bd) (r k:Nat) (nm:ay4) (ad:Nat):aY:=(8,bU nm)::(9,dn ad)::Hg g7 l r k
abbrev Hh (l:List bd) (r:Nat) (x:ay4):aw:=ej l++[(r,.row 5 .u8 x)]
theorem U5 {g7:Bool} {e:bd} (ax:0<=e.s/\e.s<=4096) (a1:1<=e.g/\e.g<=64) (hn:e.nm.length<=64):(iu g7 e).length<=600:=by
 have h:=Hd ax a1 e.es;unfold iu;rw[ap1,ap1,yo,yo,np];simp;omega
theorem Hi {l:List bd} {nm:ay4} (h:nm∈ia l): ∃e,c3 l nm=some e:=by
 unfold ia ng at h;have h:=(List.mergeSort_perm _ _).mem_iff.1 h;rw[Ar] at h;obtain⟨d,J,e⟩:=ar2.1 h
 cases ab:c3 l nm with
 |some e=>exact⟨e,rfl⟩
 |none=>exact absurd (e▸aq6 J) (GO ab)
theorem U6 {l:List bd} (h:dS l) (g7:Bool):Fn Tryz.prog 70 [ap 1001,fK g7] (ej l) [] (bS .u8 (qA g7 l)) (ej l):=by
 obtain⟨oX,gb,gc⟩:=j5 Dd;obtain⟨Mb,wB,wC⟩:=j5 GM;have b6:=h.len;have apv:=L9 l;have yg:(dR l).length=l.length:=by unfold dR;exact aq3 _
 have akF:=aiB h;have dY:=G9 1 [l.length] (.inl rfl) (fun n hn=>by simp only[aq2] at hn;omega) au7;have iV:=np 1 [l.length];refine aU [] Tryz.func70 ?_;refine ar (Fn.arg (Fn.aV [(1002,2002)] dY) ⟨rfl,rfl,(show([((dR l).length:Int)]:List Int)=sI [l.length] by rw[yg];rfl),trivial⟩) <| ar akF <| dQ [6,8] (X:=Nat) (Hg g7 l 2001) (fun k=>Hh l 2001 (eF 1 [l.length]++((ia l).take k).flatMap (nr g7 l))) (fun k=>k<=(ia l).length) (fun k=>(ia l).length - k) 0 (ap7 _) ?_ ?_
 .exact ae.trans (ae.sub (K':=Hg g7 l 2002 0) (B':=Hh l 2002 (eF 1 [l.length]++((ia l).take 0).flatMap (nr g7 l))) aA ⟨rfl,rfl,rfl,rfl,congrArg (fun l=>some (bb.row _ .u8 l)) (as6 _).symm,trivial⟩) (ae.aV 2002 2001 rfl)
 intro k ab;have ab:k<=(ia l).length:=ab;refine⟨fun H=>?_,fun H=>?_⟩
 .have cm:k < (ia l).length:=by simpa using H
  obtain⟨e,V⟩:=Hi (ar3 cm);have ez:=Mz (nr g7 l) cm;have Fz:=pR (L:=ia l) (n:=(k:Nat)) rfl cm;have CS:nr g7 l (ia l)[k]=iu g7 e:=by unfold nr;rw[V]
  rw[CS] at ez;obtain⟨q9,o8⟩:=jR V;obtain⟨ci,cN,ec,eG⟩:=h.ok e q9
  have ek:((eF 1 [l.length]++((ia l).take k).flatMap (nr g7 l))).length<=8*600+1:=by
   rw[ap1,iV]
   have E:(((ia l).take k).flatMap (nr g7 l)).length<=((ia l).take k).length*600:=yp (nr g7 l) 600 _ fun nm az=>by
    obtain⟨b5,gP⟩:=Hi (List.mem_of_mem_take az);obtain⟨cx,cA,dy,fb⟩:=h.ok b5 (jR gP).1;unfold nr;rw[gP];exact U5 cx cA fb
   rw[ap8] at E;have apw: [l.length].length*1=1:=rfl;omega
  rw[<-o8] at Fz V;have b9:=h.D q9;have aq:=h.M q9;have Af:=GL (aku e.s e.g e.es ci cN) aq rfl rfl rfl rfl;rw[xG aq] at Af;have my:=Hd ci cN e.es;have akG:eF 1 [l.length]++((ia l).take (k+1)).flatMap (nr g7 l)=(eF 1 [l.length]++((ia l).take k).flatMap (nr g7 l))++iu g7 e:=by rw[ez,as8]
  generalize eF 1 [l.length]++((ia l).take k).flatMap (nr g7 l)=A at*;have tL:=Dn A e.nm 1 (.inl rfl) au5 au5 au5;have gN:=yo e.nm 1
  have AA:=yn (A++gE e.nm 1) 1 [ir e.on,ir (e.us&&g7)] (.inl rfl) (fun n hn=>by
   simp only[ap3,List.not_mem_nil,or_false] at hn;rcases hn with rfl |rfl
   .exact Hf _
   .exact Hf _) au7 (by rw[ap1,gN];omega)
  have pt:=np 1 [ir e.on,ir (e.us&&g7)];have t3:=Dn (A++gE e.nm 1++eF 1 [ir e.on,ir (e.us&&g7)]) (encZ e.s e.g e.es) 2 (.inr (.inl rfl)) au5 au5 (by rw[ap1,ap1,gN,pt];simp;omega);have Du:A++gE e.nm 1++eF 1 [ir e.on,ir (e.us&&g7)]++gE (encZ e.s e.g e.es) 2=A++iu g7 e:=by unfold iu;simp only[as8]
  refine⟨au5,e.nm,Fz,bz [8] (ae.sub (K':=akE g7 l 2001 k e.nm e.ad) (B':=Hh l 2001 A) ⟨rfl,(Au V),rfl,rfl,rfl,rfl,rfl,rfl,trivial⟩ aA) <| ar (Fn.aV [(1001,2001),(1002,2002)] tL) ⟨_,_,fun N=>iY (b:=e.ad) rfl rfl N,rfl,?_⟩⟩;refine⟨_,_,fun N=>ja rfl Tryz.underlying165 rfl rfl gb av7 rfl N,rfl,?_⟩;refine⟨_,_,fun N=>k9 (q:=1003) rfl Tryz.underlying4 rfl rfl rfl b9 rfl N,rfl,?_⟩;refine ar (ML e.on) ⟨_,_,fun N=>iY (b:=e.ad) rfl rfl N,rfl,?_⟩;refine⟨_,_,fun N=>ja rfl Tryz.underlying165 rfl rfl gb av7 rfl N,rfl,?_⟩;refine⟨_,_,fun N=>k9 (q:=1003) rfl Tryz.underlying4 rfl rfl rfl b9 rfl N,rfl,?_⟩;refine⟨fun a7=>?MM,fun a7=>?MN⟩
  case' MM=>
   have a7:e.us=true:=a7;rw[a7,Bool.true_and] at AA t3 Du pt;refine ar (ML g7) ?_
  case' MN=>
   have a7:e.us=false:=a7;rw[a7,Bool.false_and] at AA t3 Du pt;refine ar (Fn.arg (ML false) aA) ?_
  all_goals
   refine ar (Fn.aV [(1001,2002),(1002,2003)] AA) ⟨eB au8,bz [] (bp) ⟨_,_,fun N=>iY (b:=e.ad) rfl rfl N,rfl,?_⟩⟩;refine⟨_,_,fun N=>ja rfl Tryz.underlying165 rfl rfl wB (by rw[wC];decide) rfl N,rfl,?_⟩;refine⟨_,_,fun N=>k9 (q:=1003) rfl Tryz.underlying66 rfl rfl rfl b9 rfl N,rfl,?_⟩;exact ar Af <| ar (Fn.aV [(1001,2003),(1002,2004)] t3) ⟨au5,k+1,cm,au5,ae.trans (ae.sub (K':=Hg g7 l 2004 (k+1)) (B':=Hh l 2004 (eF 1 [l.length]++((ia l).take (k+1)).flatMap (nr g7 l))) aA ⟨rfl,rfl,rfl,rfl,congrArg (fun l=>some (bb.row _ .u8 l)) (Du.trans akG.symm),trivial⟩) (ae.aV 2004 2001 rfl)⟩
 .have cm:k=(ia l).length:=by
   have: ¬k < (ia l).length:=by simpa using H
   omega
  subst cm;rw[aq9];exact⟨_,_,_,ae.dW 2001 rfl,rfl,rfl,aA,rfl⟩
end
section
theorem U7 (es:List (aa ak×aa ak)): ∀(n:Nat) (aC:Int),b0 (aI:=ak) (aK:=ak) (hk es n) aC=if(0<=aC/\aC < (n:Int))/\iI es aC=true then some (1:Int) else none
 |0,aC=>by
  rw[if_neg au5];rfl
 |n+1,aC=>by
  have h:=U7 es n aC;unfold hk
  by_cases af:iI es (n:Int)=true
  .rw[if_pos af];obtain⟨dY,cS⟩:=zz (aI:=ak) (aK:=ak) rb (n:Int) (1:Int) (hk es n)
   by_cases e:aC=(n:Int)
   .subst e;rw[if_pos ⟨au5,af⟩];exact dY
   .rw[cS aC e,h]
    by_cases q:(0<=aC/\aC < (n:Int))/\iI es aC=true
    .rw[if_pos q,if_pos ⟨au5,q.2⟩]
    .rw[if_neg q,if_neg (fun bk=>q ⟨au5,bk.2⟩)]
  .rw[if_neg af,h]
   by_cases q:(0<=aC/\aC < (n:Int))/\iI es aC=true
   .rw[if_pos q,if_pos ⟨au5,q.2⟩]
   .rw[if_neg q,if_neg (fun bk=>by
     by_cases e:aC=(n:Int)
     .subst e;exact af bk.2
     .exact q ⟨au5,bk.2⟩)]
theorem U8 {s g:Int} (ax:0<=s/\s<=4096) (a1:1<=g/\g<=64) {es:List (aa ak×aa ak)} (ba:j' s g es) (aC:Int):iI (hk es (8*fo s g)) aC=iI es aC:=by
 have eJ:=Hc ax a1;have h:=U7 es (8*fo s g) aC;have aR:=ba aC;show C1 ((b0 (aI:=ak) (aK:=ak) (hk es (8*fo s g)) aC).getD (cL ak))=_;rw[h]
 cases af:iI es aC
 .rw[if_neg (fun bk=>by cases bk.2)];rfl
 .have aR:=aR af;rw[if_pos ⟨au5,rfl⟩];rfl
theorem U9 {es en:List (aa ak×aa ak)} (h: ∀aC,iI en aC=iI es aC) (aC:Int): ∀k,ib en aC k=ib es aC k
 |0=>rfl
 |k+1=>by unfold ib;rw[h,U9 h aC k]
theorem U' {es en:List (aa ak×aa ak)} (h: ∀aC,iI en aC=iI es aC): ∀n,pc en n=pc es n
 |0=>rfl
 |n+1=>by unfold pc;rw[U9 h,U' h n]
theorem akH {s g:Int} (ax:0<=s/\s<=4096) (a1:1<=g/\g<=64) {es:List (aa ak×aa ak)} (ba:j' s g es):encZ s g (hk es (8*fo s g))=encZ s g es:=by
 unfold encZ;rw[U' (U8 ax a1 ba)]
theorem MO (es:List (aa ak×aa ak)): ∀n,eZ (hk es n)
 |0=>List.Pairwise.nil
 |n+1=>by
  unfold hk
  split
  .exact eZ.put rb (MO es n)
  .exact MO es n
end
section
def hL (l:List bd):List bd:=(ia l).filterMap (c3 l)
theorem Va (c:Bool) (l:List bd): ∀N:List ay4,(∀nm∈N,∃e,c3 l nm=some e)->N.flatMap (nr c l)=(N.filterMap (c3 l)).flatMap (iu c)
 | [],_=>rfl
 |nm::N,h=>by
  obtain⟨e,V⟩:=h nm (aq0 ..);have E:nr c l nm=iu c e:=by unfold nr;rw[V]
  rw[at7,Va c l N (fun x hx=>h x (ap2 _ hx)),E,List.filterMap_cons,V];rfl
theorem MP (c:Bool) (l:List bd):qA c l=eF 1 [l.length]++(hL l).flatMap (iu c):=by
 unfold qA hL;rw[Va c l _ fun nm h=>Hi h]
theorem Vb (l:List bd): ∀N:List ay4,(∀nm∈N,∃e,c3 l nm=some e)->(N.filterMap (c3 l)).map (·.nm)=N
 | [],_=>rfl
 |nm::N,h=>by
  obtain⟨e,V⟩:=h nm (aq0 ..);rw[List.filterMap_cons,V];show e.nm::(N.filterMap (c3 l)).map (·.nm)=_;rw[Vb l N (fun x hx=>h x (ap2 _ hx)),(jR V).2]
theorem MQ (l:List bd):(hL l).map (·.nm)=ia l:=Vb l _ fun nm h=>Hi h
theorem akI (l:List bd):(hL l).length=l.length:=by
 rw[<-L9 l,<-MQ l,aq3]
theorem Hj {l:List bd} {e:bd} (h:e∈hL l):e∈l:=by
 obtain⟨nm,_,G⟩:=List.mem_filterMap.1 h;exact(jR G).1
abbrev AB:Type:=ay4×Bool×Bool×Int×Int×List (aa ak×aa ak)
def pd (e:bd):AB:=(e.nm,e.on,e.us,e.s,e.g,e.es)
def qB (e:bd):AB:=(e.nm,e.on,false,e.s,e.g,hk e.es (8*fo e.s e.g))
def Hk (c:Bool) (p:AB):ay4:=gE p.1 1++(eF 1 [ir p.2.1,ir (p.2.2.1&&c)]++gE (encZ p.2.2.2.1 p.2.2.2.2.1 p.2.2.2.2.2) 2)
theorem akJ (c:Bool) (e:bd):Hk c (pd e)=iu c e:=rfl
theorem akK {l:List bd} (h:dS l) (ba: ∀e∈l,j' e.s e.g e.es) {e:bd} (V:e∈l):Hk true (qB e)=iu false e:=by
 obtain⟨ci,cN,ec,eG⟩:=h.ok e V;unfold Hk qB iu;show gE e.nm 1++(eF 1 [ir e.on,ir (false&&true)]++gE (encZ e.s e.g (hk e.es (8*fo e.s e.g))) 2)=_;rw[akH ci cN (ba e V),Bool.and_false];rfl
theorem Vc {c bX:Bool} {g:bd->AB}: ∀{a b:List bd},a.map pd=b.map g->(∀e∈b,Hk c (g e)=iu bX e)->a.flatMap (iu c)=b.flatMap (iu bX)
 | [],[],_,_=>rfl
 | [],_::_,h,_=>by cases h
 |_::_,[],h,_=>by cases h
 |x::a,y::b,h,q=>by
  injection h with E G
  rw[at7,at7,Vc G (fun e V=>q e (ap2 _ V)),<-akJ c x,E,q y (aq0 ..)]
theorem Vd {l:List bd} (h:dS l) {e:bd} (V:e∈l):c3 l e.nm=some e:=by
 cases ab:c3 l e.nm with
 |none=>exact absurd (aq6 V) (GO ab)
 |some b5=>
  obtain⟨E,G⟩:=jR ab;rw[u2 h.ik E V G]
theorem Ve {l:List bd} (h:dS l): ∀N:List bd,(∀e∈N,e∈l)->(N.map (·.nm)).filterMap (c3 l)=N
 | [],_=>rfl
 |e::N,q=>by
  rw[aq4,List.filterMap_cons,Vd h (q e (aq0 ..)),Ve h N fun x hx=>q x (ap2 _ hx)]
theorem akL {l l':List bd} (h:dS l) (h':dS l') (ba: ∀e∈l,j' e.s e.g e.es) (af:l'.map pd=(hL l).map qB):qA true l'=qA false l:=by
 have hn:l'.map (·.nm)=ia l:=by
  rw[<-MQ l];have E:=congrArg (List.map fun p:AB=>p.1) af;rw[as2,as2] at E;exact E
 have J:ia l'=l'.map (·.nm):=by
  rw[hn];unfold ia ng;rw[Ar l',hn];unfold ia ng;exact Go.mergeSort_of_perm (List.mergeSort_perm _ _)
 have ax:hL l'=l':=by
  unfold hL;rw[J];exact Ve h' l' fun e V=>V
 have al:l'.length=l.length:=by
  have:=congrArg List.length hn
  rwa[aq3,L9] at this
 rw[MP,MP,ax,al,Vc af fun e V=>akK h ba (Hj V)]
end
section
abbrev gU:bx:=.arr 16 .u8
abbrev pe:bx:=.bQ (.int .i64) gU
structure bY where
 n:Int
 U:Int
 lP:List (aa ak×aa gU)
 bF:List (aa ak×aa gU)
 eU:List (aa pe)
abbrev iJ (c d e f:Nat) (m:bY):aw:=[(c,.cells [.d (.int .i64 m.n),.d (.int .i64 m.U),.mp d,.mp e,.own f]),(d,.map ak gU m.lP),(e,.map ak gU m.bF),(f,.row 243 pe m.eU)]
def g8 (m:bY):bf:=.iX 1001 (iJ 1001 1002 1003 1004 m)
def pf (n:Int):Bool:=decide (0<=n)&&decide (n<=4096)
theorem akM (n:Int):Fn Tryz.prog 219 [ac n] [] [] (fK (pf n)) []:=by
 refine aU [] Tryz.func219 ?_;refine⟨fun h=>?_,fun h=>?_⟩
 .exact eq bp rfl (show decide (n<=4096)=pf n by simp at h;simp[pf,h])
 .exact eq bp rfl (show false=pf n by simp at h;simp[pf];omega)
theorem akN (n r:Int) (h:(pf n&&decide (0<=r))=true):Fn Tryz.prog 197 [ac n,ac r] [] [1001] (.cf [.one (.ptr 1001 0),dw 0]) [(1001,.aG (g8 ⟨n,r,[],[],[]⟩))]:=by
 refine aU [] Tryz.func197 ?_;refine ar (akM n) ?_;simp only[vj,ar5] at h;refine⟨fun E=>?_,fun E=>?_⟩
 .exfalso;simp[h.1] at E
 refine⟨fun G=>?_,fun G=>?_⟩
 .exfalso;simp at G;omega
 exact⟨rfl,rfl,rfl,_,_,_,(ae.vO 18 4 1004 243 pe rfl rfl rfl).trans ((ae.aV 18 1001 rfl).trans ((ae.aV 15 1002 rfl).trans ((ae.aV 16 1003 rfl).trans (ae.close 1001 (iJ 1001 1002 1003 1004 ⟨n,r,[],[],[]⟩) (o:=g8 ⟨n,r,[],[],[]⟩) aA rfl fun _ _ _ _ h=>h)))),rfl,aA,aA,rfl⟩
end
section
theorem Vf (es:List (aa ak×aa gU)):Fn Tryz.prog 162 [.c (.one (.mp 1001))] [(1001,.map ak gU es)] [2001] (.c (.one (.mp 2001))) [(1001,.map ak gU es),(2001,.map ak gU es)]:=
 Tz acQ au8 es
end
section
abbrev AC:ay5:=[1002,1003,1004]
theorem Dv {f:FuncId} {args:List aP} {m gp:bY} {aJ aO:aw} {res:aP} {bc:ay5} (h:Fn Tryz.prog f args (iJ 1001 1002 1003 1004 m++aJ) bc res (iJ 1001 1002 1003 1004 gp++aO))
  (E:nO 1001 AC args (iJ 1001 1002 1003 1004 m) aJ bc []=true) (G:nP 1001 (mF AC bc []) res (iJ 1001 1002 1003 1004 gp) aO=true):
  Fn Tryz.prog f args ((1001,.aG (g8 m))::aJ) [] res ((1001,.aG (g8 gp))::aO):=
 (cu.close (bo:=iJ 1001 1002 1003 1004 m) (dv:=fun _:Unit=>iJ 1001 1002 1003 1004 gp) (aO:=fun _=>aO) (o:=g8 m) (o':=fun _=>g8 gp) AC h.x (fun _ _ _ _ h=>h) (fun _ _ _ _ _ h=>h) E (fun _=>G)).fn
def bY.kz (m:bY) (at_ aZ:Int):Bool:=decide (0<=at_)&&decide (aZ<=m.n)&&decide (at_<=m.n - aZ)
theorem akO (m:bY):Fn Tryz.prog 216 [ap 1001] [(1001,.aG (g8 m))] [] (ac m.n) [(1001,.aG (g8 m))]:=by
 refine Dv (aJ:=[]) (aO:=[]) (bc:=[]) ?_ rfl rfl;refine aU [] Tryz.func216 ?_;exact bg
theorem Vg (m:bY):Fn Tryz.prog 252 [ap 1001] (iJ 1001 1002 1003 1004 m) [] (ac (m.bF.length:Nat)) (iJ 1001 1002 1003 1004 m):=by
 refine aU [] Tryz.func252 ?_;exact bg
theorem MR (m:bY) (at_ aZ:Int) (av:0<=aZ) (E:0<=m.n) (G:m.n<=4096):Fn Tryz.prog 250 [ap 1001,ac at_,ac aZ] (iJ 1001 1002 1003 1004 m) [] (fK (m.kz at_ aZ)) (iJ 1001 1002 1003 1004 m):=by
 refine aU [] Tryz.func250 ?_;refine⟨fun h=>?_,fun h=>?_⟩
 .have h:decide (0<=at_)=true:=h;refine⟨fun aj=>?_,fun aj=>?_⟩
  .have aj:decide (aZ<=m.n)=true:=aj;have aX:aZ<=m.n:=by simpa using aj
   refine⟨au5,?_⟩;exact eq bp rfl (show decide (at_<=m.n - aZ)=m.kz at_ aZ by rw[bY.kz,h,aj];rfl)
  .have aj:decide (aZ<=m.n)=false:=aj;exact eq bp rfl (show false=m.kz at_ aZ by rw[bY.kz,h,aj];rfl)
 .have h:decide (0<=at_)=false:=h;exact eq bp rfl (show false=m.kz at_ aZ by rw[bY.kz,h];rfl)
def bY.ol (m:bY):bY:={m with lP:=m.bF,eU:=[]}
theorem akP (m:bY):Fn Tryz.prog 221 [ap 1001] (iJ 1001 1002 1003 1004 m) [2001,2002] gJ (iJ 1001 2001 1003 2002 m.ol):=by
 refine aU [] Tryz.func221 ?_;exact ar (Fn.aV [(1001,1003)] (Vf m.bF)) ⟨_,_,_,ae.vO 1001 4 2002 243 pe rfl rfl rfl,rfl,trivial,aA,rfl⟩
end
section
theorem MS {f:FuncId} {args:List aP} {m gp:bY} {aJ aO:aw} {res:aP} {bc:ay5} {d e g:Nat} (l:List (Nat×Nat)) (h:Fn Tryz.prog f args (iJ 1001 1002 1003 1004 m++aJ) bc res (iJ 1001 d e g gp++aO))
  (al:eo (k6 l []) 1001=1001/\eo (k6 l []) d=1002/\eo (k6 l []) e=1003/\eo (k6 l []) g=1004)
  (E:nO 1001 AC args (iJ 1001 1002 1003 1004 m) aJ bc []=true) (G:nP 1001 (mF AC bc []) res (iJ 1001 d e g gp) aO=true):
  Fn Tryz.prog f args ((1001,.aG (g8 m))::aJ) [] res ((1001,.aG (g8 gp))::aO):=
 (cu.close (bo:=iJ 1001 1002 1003 1004 m) (dv:=fun _:Unit=>iJ 1001 d e g gp) (aO:=fun _=>aO) (o:=g8 m) (o':=fun _=>g8 gp) AC h.x (fun _ _ _ _ h=>h) (fun _ I F w p bk=>by
  have:=iD.aV l bk;obtain⟨ai,ao,bl,c2⟩:=al;simp only[iJ,j1,ai,ao,bl,c2,bb.eo,zs,bC.eo] at this;exact this) E (fun _=>G)).fn
theorem akQ (m:bY):Fn Tryz.prog 221 [ap 1001] [(1001,.aG (g8 m))] [] gJ [(1001,.aG (g8 m.ol))]:=
 MS (aJ:=[]) (aO:=[]) [(2001,1002),(2002,1004)] (akP m) ⟨rfl,rfl,rfl,rfl⟩ rfl rfl
def yt (l:List Int) (v:Int):Int:=match l.idxOf? v with
 |some i=>(i:Nat)
 |none=> -1
theorem akR (l:List Int) (v:Int) (al:l.length<=4294967296):Fn Tryz.prog 191 [bS ak l,ac v] [] [] (ac (yt l v)) []:=by
 refine aU [] Tryz.func191 ?_;refine dQ [] (X:=Nat) (fun k=>[(0,bS ak l),(1,ac v),(7,ac (l.length:Nat)),(8,ac (k:Nat))]) (fun _=>[]) (fun k=>k<=l.length/\ ∀(i:Nat),i < k->l[i]? ≠some v) (fun k=>l.length - k) 0 ⟨ap7 _,fun i h=>absurd h (au3 _)⟩ ?_ ?_
 .exact ae.sub aA trivial
 intro k ⟨ab,af⟩;refine⟨fun h=>?_,fun h=>?_⟩
 .have cm:k < l.length:=by
   have h:decide ((k:Int) < (l.length:Int))=true:=h;simpa using h
  refine⟨au5,l[k],jv (n:=k) cm,fun G=>?_,fun G=>?_⟩
  .have G:v=l[k]:=gd G;refine⟨_,_,_,bp,rfl,(show((k:Nat):Int)=yt l v from ?_),trivial,rfl⟩
   have:l.idxOf? v=some k:=by
    rw[List.idxOf?_eq_some_iff];refine⟨cm,by simp[G],fun j Z=>?_⟩;have:=af j Z;rw[oj au5] at this;simpa using this
   rw[yt,this]
  .have G:v≠l[k]:=mu G;refine⟨au5,k+1,⟨au5,fun i aH=>?_⟩,au5,ae.sub aA trivial⟩;rcases Nat.lt_or_ge i k with aX |aX
   .exact af i aX
   .have:i=k:=av3
    subst this;rw[oj cm];intro e;injection e with e
    exact G e.symm
 .have h:decide ((k:Int) < (l.length:Int))=false:=h;have fe:k=l.length:=ax5
  refine⟨_,_,_,bp,rfl,(show(-1:Int)=yt l v from ?_),trivial,rfl⟩
  have:l.idxOf? v=none:=by
   rw[List.idxOf?_eq_none_iff];intro az;obtain⟨i,aH,e⟩:=List.getElem_of_mem az;have:=af i au5;rw[oj aH] at this;exact this (by rw[e])
  rw[yt,this]
theorem akS (l:List Int) (v:Int) (al:l.length<=4294967296):Fn Tryz.prog 161 [bS ak l,ac v] [] [] (fK (l.contains v)) []:=by
 refine aU [] Tryz.func161 ?_;refine ar (akR l v al) ⟨_,_,_,bp,rfl,(show decide (0<=yt l v)=l.contains v from ?_),trivial,rfl⟩;unfold yt
 cases h:l.idxOf? v with
 |none=>
  rw[List.idxOf?_eq_none_iff] at h;simp[h]
 |some i=>
  obtain⟨aH,e,_⟩:=List.idxOf?_eq_some_iff.1 h
  have:v∈l:=by
   have:=ar3 aH
   rwa[show l[i]=v by simpa using e] at this
  simp[this]
end
section
abbrev akT (x y:ay4) (i:Nat):aY:=[(0,bS .u8 x),(1,bS .u8 y),(12,ac (x.length:Nat)),(13,ac (i:Nat))]
theorem akU {x y:ay4} {i:Nat} (hx:i < x.length) (aB:i < y.length) (h:x.take i=y.take i) (V:x[i]=y[i]):x.take (i+1)=y.take (i+1):=by
 rw[as1 hx,as1 aB,h,V]
theorem Vh (x y:ay4) (hx:x.length<=4294967296) (aB:y.length<=4294967296):Fn Tryz.prog 115 [bS .u8 x,bS .u8 y] [] [] (fK (decide (x=y))) []:=by
 refine aU [] Tryz.func115 ?_;refine⟨fun h=>?_,fun h=>?_⟩
 .have h:(!decide ((x.length:Int)=(y.length:Nat)))=true:=h;have a2:x≠y:=fun e=>by rw[e] at h;simp at h
  rw[ar8 a2];exact bg
 have h:(!decide ((x.length:Int)=(y.length:Nat)))=false:=h;have al:x.length=y.length:=ax5
 refine dQ [] (X:=Nat) (akT x y) (fun _=>[]) (fun i=>i<=x.length/\x.take i=y.take i) (fun i=>x.length - i) 0 ⟨ap7 _,rfl⟩ ?_ ?_
 .exact ae.sub aA trivial
 rintro i ⟨aH,cq⟩;refine⟨fun G=>?_,fun G=>?_⟩
 .have G:decide ((i:Int) < (x.length:Int))=true:=G;have dX:i < x.length:=by simpa using G
  have pP:i < y.length:=av3
  refine⟨au5,x[i],jv (n:=i) dX,au5,y[i],jv (n:=i) pP,rfl,fun aj=>?_,fun aj=>?_⟩
  .have aj:(!decide ((UInt8.toNat x[i]:Int)=(UInt8.toNat y[i]:Nat)))=true:=aj
   have a2:x≠y:=fun e=>by
    subst e;simp at aj
   rw[ar8 a2];exact bg
  .have aj:(!decide ((UInt8.toNat x[i]:Int)=(UInt8.toNat y[i]:Nat)))=false:=aj
   have V:x[i]=y[i]:=by
    have aX:(UInt8.toNat x[i]:Int)=(UInt8.toNat y[i]:Nat):=by simpa using aj
    exact UInt8.toNat_inj.1 au5
   exact⟨au5,i+1,⟨au5,akU dX pP cq V⟩,au5,ae.sub aA trivial⟩
 .have G:decide ((i:Int) < (x.length:Int))=false:=G;have dX:i=x.length:=by simp at G;omega
  subst dX
  have V:x=y:=by
   rw[aq9] at cq;rw[cq,al,aq9]
  rw[aq1 V];exact bg
end
section
structure va (e:bd):Prop where
 ok:n3 e.s e.g=true
 fU:j' e.s e.g e.es
 nm:gr e.nm=true
abbrev akV (l:List bd) (k:Nat):aY:=[(0,bS .u8 (qA false l)),(4,ap 1001),(5,ap 3001),(13,ac (l.length:Nat)),(14,ac (k:Nat))]
abbrev akW (l':List bd) (x:ay4):aw:=[(1001,.cells [.mp 1002]),(1002,.map .str .aL (dR l')),(1003,.aG (.bA (jQ l'))),(1004,.aG (.bA (jB l'))),(3001,.cells [.d (.ck .u8 x),.d (.int .i64 0)])]
structure akX (l:List bd) (p:Nat×List bd):Prop where
 k:p.1<=l.length
 ok:dS p.2
 Hl:p.2.map pd=((hL l).take p.1).map qB
theorem Vi {o o':bf} {b:Nat}: ∀{L:List (Nat×bf)},eg L b=some o->eg (e4 L b o') b=some o'
 | [],h=>by cases h
 |(c,x)::L,h=>by
  by_cases e:c=b
  .subst e;simp[e4,eg]
  .have G:eg L b=some o:=by simpa[eg,e] using h
   have aj:=Vi (o':=o') G;simpa[e4,eg,e] using aj
theorem Vj {o:bf}: ∀{L:List bd} {n n':bd},n.ad∉L.map (·.ad)->n'.ad=n.ad->e4 (e4 (jQ (L++[n])) n.ad o) n.ad (qu n'.nm n'.on n'.us n'.dp)=jQ (L++[n'])
 | [],n,n',_,e=>by simp[jQ,e4,e]
 |d::L,n,n',h,e=>by
  have E: ¬d.ad=n.ad:=fun e=>h (by rw[<-e];exact aq0 ..)
  have G:=Vj (o:=o) (L:=L) (n:=n) (n':=n') (fun bk=>h (ap2 _ bk)) e;simpa[jQ,e4,E] using G
theorem dS.od {L:List bd} {n n':bd} (h:dS (L++[n])) (E:n'.nm=n.nm) (G:n'.ad=n.ad) (aj:n'.dp=n.dp) (aX:n'.s=n.s) (bH:n'.g=n.g) (fF:n'.es=n.es):dS (L++[n']):=by
 refine⟨by have:=h.ik;simpa[E] using this,by have:=h.lh;simpa[G] using this,by have:=h.u1;simpa[aj] using this,fun e V=>?_,by have:=h.len;simpa using this⟩;rcases aq8.1 V with V |V
 .exact h.ok e (aq8.2 (.inl V))
 .rw[aq2] at V;subst V;rw[E,aX,bH,fF];exact h.ok n (aq8.2 (.inr (aq2.2 rfl)))
theorem akY {l:List bd} (h:dS l) (aW: ∀e∈l,va e):cu Tryz.prog 69 [bS .u8 (qA false l)] [] [1001,1002,1003,1004] (X:={l':List bd//dS l'/\l'.map pd=(hL l).map qB}) (fun _=>.cf [.one (.ptr 1001 0),dw 0]) (fun p=>ej p.1):=by
 obtain⟨oX,gb,gc⟩:=j5 Dd;have b6:=h.len;have hp:=akI l
 have apx:((hL l).flatMap (iu false)).length<=8*600:=by
  have E:=yp (iu false) 600 (hL l) fun e V=>by
   obtain⟨cx,cA,dy,fb⟩:=h.ok e (Hj V);exact U5 cx cA fb
  omega
 have Dw:=MP false l
 have apy:(qA false l).length<=5000:=by
  rw[Dw,ap1,np];simp only[List.length_singleton];omega
 have fq:=G' (qA false l) au5;have ky:=o9 (eb l.length 1++(hL l).flatMap (iu false),0) 1 (.inl rfl);rw[pb au5] at ky
 have akZ:eb l.length 1++(hL l).flatMap (iu false)=qA false l:=by
  rw[Dw];unfold eF;simp
 rw[akZ] at ky;refine hG [7,11] Tryz.func69 ?_;refine ar TL <| ar (Fn.aV [(1001,3001)] fq) <| ar (Fn.aV [(1001,3001)] ky) <| dQ [7] (X:=Nat×List bd) (fun p=>akV l p.1) (fun p=>akW p.2 (((hL l).drop p.1).flatMap (iu false))) (akX l) (fun p=>l.length - p.1) (0,[]) ⟨ap7 _,?_,rfl⟩ ?_ ?_
 .exact dS.nil
 .exact ae.sub aA aA
 rintro⟨k,l'⟩ af;have ab:k<=l.length:=af.k;refine⟨fun H=>?_,fun H=>?_⟩
 .have H:decide ((k:Int) < (l.length:Int))=true:=H;have H:=gd H;have cm:k < (hL l).length:=av3
  have ak0:k+1<=l.length:=av3
  obtain⟨e,V⟩: ∃e,e=(hL l)[k]:=⟨_,rfl⟩;have q9:e∈l:=Hj (V▸ar3 cm);obtain⟨ci,cN,ec,eG⟩:=h.ok e q9;have MT:=aW e q9
  have ey:((hL l).drop k).flatMap (iu false)=iu false e++((hL l).drop (k+1)).flatMap (iu false):=by
   rw[List.drop_eq_getElem_cons cm,at7,V]
  generalize fq:((hL l).drop (k+1)).flatMap (iu false)=R at*;have tL:=Dq (iu false e++R,0) 1 (.inl rfl);have tF:=Hf e.on;have my:=Hd ci cN e.es
  have ai:iu false e++R=gE e.nm 1++(eb (ir e.on) 1++(eb (ir (e.us&&false)) 1++(gE (encZ e.s e.g e.es) 2++R))):=by
   unfold iu eF;simp[as8]
  rw[<-ey] at tL;have ai:=ey.trans ai;rw[ai] at tL;rw[Dr au5] at tL;rw[<-ai] at tL;have AA:=o9 (eb (ir e.on) 1++(eb (ir (e.us&&false)) 1++(gE (encZ e.s e.g e.es) 2++R)),0) 1 (.inl rfl);rw[pb tF] at AA;have t3:=o9 (eb (ir (e.us&&false)) 1++(gE (encZ e.s e.g e.es) 2++R),0) 1 (.inl rfl);rw[pb (Hf _)] at t3;have t4:=Dq (gE (encZ e.s e.g e.es) 2++R,0) 2 (.inr (.inl rfl));rw[Dr au5] at t4;have ak1:=akz e.s e.g e.es MT.ok MT.fU;refine ar (Fn.aV [(1001,3001)] tL) <| ar (Fn.aV [(1001,3001)] AA) <| ar (Fn.aV [(1001,3001)] t3) ⟨rfl,ar (Fn.aV [(1001,3001)] t4) ⟨(show(encZ e.s e.g e.es).length<=4294967296 by omega),ar (Fn.aV [(2001,6001),(2002,6002)] ak1) ?_⟩⟩;show bt _ _ _ _ _ _ _
  have ak2:l'.map (·.nm)=((hL l).take k).map (·.nm):=by
   have E:=congrArg (List.map fun p:AB=>p.1) af.Hl;rw[as2,as2] at E;exact E
  have d0:((hL l).map (·.nm)).Nodup:=by
   rw[MQ];unfold ia ng;rw[(List.mergeSort_perm _ _).nodup_iff,Ar];exact h.ik
  have f3:l'.length=k:=by
   have:=congrArg List.length af.Hl;rw[aq3,aq3,ap8] at this;show l'.length=k;have FH:(k,l').snd.length=min (k,l').fst (hL l).length:=this;have apz:l'.length=min k (hL l).length:=FH;omega
  have fv:c3 l' e.nm=none:=by
   cases ak3:c3 l' e.nm with
   |none=>rfl
   |some x=>
    exfalso;obtain⟨g1,g2⟩:=jR ak3;have cZ:e.nm∈l'.map (·.nm):=g2▸aq6 g1;rw[ak2] at cZ;rw[<-List.take_append_drop k (hL l),List.drop_eq_getElem_cons cm,<-V,as3,aq4] at d0;exact(List.nodup_append.1 d0).2.2 _ cZ _ (aq0 ..) rfl
  have qv:=TS af.ok e.nm au5 MT.nm fv (by show l'.length < 8;omega) e.s e.g (hk e.es (8*fo e.s e.g)) ⟨ci,cN,MO _ _⟩;refine bt.iC eX au8 ?_;refine df <| lF (cu.aV [(2001,6001),(2002,6002)] qv) fun g=>df ?_
  obtain⟨⟨ad,dp⟩,nL⟩:=g;have sE:=Au (Vd nL (e:=⟨e.nm,ad,dp,true,true,e.s,e.g,hk e.es (8*fo e.s e.g)⟩) au7);refine⟨_,_,fun N=>iY (b:=ad) rfl (by exact congrArg (fun o=>aP.c (.one (.d (.aL o)))) sE) N,rfl,?_⟩;have Hm:=nL.D (e:=⟨e.nm,ad,dp,true,true,e.s,e.g,hk e.es (8*fo e.s e.g)⟩) au7;refine⟨_,_,fun N=>ja rfl Tryz.underlying165 rfl rfl gb av7 rfl N,rfl,?_⟩;refine⟨_,_,fun N=>zC (q:=1003) (b:=ad) (j:=1) (y:=.bool (decide (((ir e.on:Nat):Int)=1))) (l:=Aq e.nm true true dp) (h':=fun _=>rfl) rfl gb gc rfl rfl rfl Hm (show 1 < 4 by decide) Ma N,rfl,?_⟩;refine⟨_,_,fun N=>iY (b:=ad) rfl (by exact congrArg (fun o=>aP.c (.one (.d (.aL o)))) sE) N,rfl,?_⟩;refine⟨_,_,fun N=>ja rfl Tryz.underlying165 rfl rfl gb av7 rfl N,rfl,?_⟩;have ak4:eg (e4 (jQ (l'++[⟨e.nm,ad,dp,true,true,e.s,e.g,hk e.es (8*fo e.s e.g)⟩])) ad (qu e.nm (decide (((ir e.on:Nat):Int)=1)) true dp)) ad=some (qu e.nm (decide (((ir e.on:Nat):Int)=1)) true dp):=Vi Hm;refine⟨_,_,fun N=>zC (q:=1003) (b:=ad) (j:=2) (y:=.bool (decide (((ir (e.us&&false):Nat):Int)=1))) (l:=Aq e.nm (decide (((ir e.on:Nat):Int)=1)) true dp) (h':=fun _=>rfl) rfl gb gc rfl rfl rfl ak4 (show 2 < 4 by decide) Ma N,rfl,?_⟩;refine⟨eB au8,?_⟩;have vb:decide (((ir e.on:Nat):Int)=1)=e.on:=by cases e.on <;>rfl
  have ug:decide (((ir (e.us&&false):Nat):Int)=1)=false:=by cases e.us <;>rfl
  have Hn:ad∉l'.map (·.ad):=by
   have E:=nL.lh;rw[as3] at E;exact fun h=>(List.nodup_append.1 E).2.2 _ h _ (aq0 ..) rfl
  have lw:=Vj (L:=l') (n:=⟨e.nm,ad,dp,true,true,e.s,e.g,hk e.es (8*fo e.s e.g)⟩) (n':=⟨e.nm,ad,dp,e.on,false,e.s,e.g,hk e.es (8*fo e.s e.g)⟩) (o:=qu e.nm e.on true dp) Hn rfl
  have ur:dR (l'++[⟨e.nm,ad,dp,true,true,e.s,e.g,hk e.es (8*fo e.s e.g)⟩])=dR (l'++[⟨e.nm,ad,dp,e.on,false,e.s,e.g,hk e.es (8*fo e.s e.g)⟩]):=by
   unfold dR;rw[as3,as3];rfl
  have iN:jB (l'++[⟨e.nm,ad,dp,true,true,e.s,e.g,hk e.es (8*fo e.s e.g)⟩])=jB (l'++[⟨e.nm,ad,dp,e.on,false,e.s,e.g,hk e.es (8*fo e.s e.g)⟩]):=by
   unfold jB;rw[as3,as3];rfl
  have ak5:dS (l'++[⟨e.nm,ad,dp,e.on,false,e.s,e.g,hk e.es (8*fo e.s e.g)⟩]):=nL.od rfl rfl rfl rfl rfl rfl;refine⟨au5,(k+1,l'++[⟨e.nm,ad,dp,e.on,false,e.s,e.g,hk e.es (8*fo e.s e.g)⟩]),⟨ak0,ak5,?_⟩,by show l.length - (k+1) < l.length - k;omega,ae.sub aA ⟨rfl,congrArg (fun x=>some (bb.map .str .aL x)) ur,?_,congrArg (fun x=>some (bb.aG (.bA x))) iN,congrArg (fun x=>some (bb.cells [.d (.ck .u8 x),.d (.int .i64 0)])) fq.symm,trivial⟩⟩
  .show(l'++[_]).map pd=((hL l).take (k+1)).map qB;have aT:l'.map pd=((hL l).take k).map qB:=af.Hl;rw[as3,aT,as1 cm,as3,<-V];rfl
  .have ak6:e4 (e4 (jQ (l'++[⟨e.nm,ad,dp,true,true,e.s,e.g,hk e.es (8*fo e.s e.g)⟩])) ad (qu e.nm (decide (((ir e.on:Nat):Int)=1)) true dp)) ad (qu e.nm (decide (((ir e.on:Nat):Int)=1)) (decide (((ir (e.us&&false):Nat):Int)=1)) dp)=jQ (l'++[⟨e.nm,ad,dp,e.on,false,e.s,e.g,hk e.es (8*fo e.s e.g)⟩]):=by
    rw[vb,ug];exact lw
   exact congrArg (fun x=>some (bb.aG (.bA x))) ak6
 .have H:decide ((k:Int) < (l.length:Int))=false:=H;have H:=mu H;have cm:k=l.length:=av3
  subst cm
  have Ax:l'.map pd=(hL l).map qB:=by
   have E:l'.map pd=((hL l).take l.length).map qB:=af.Hl
   rwa[<-hp,aq9] at E
  have av:((hL l).drop l.length).flatMap (iu false)=[]:=by rw[<-hp,List.drop_length];rfl
  have lM:=MD (((hL l).drop l.length).flatMap (iu false),0);rw[show qz (((hL l).drop l.length).flatMap (iu false),0)=0 by rw[av];rfl] at lM;have o8:=U6 (l:=l') af.ok true;have Vk:=akL h af.ok (fun e V=>(aW e V).fU) Ax;have aT:=Vh (qA true l') (qA false l) (by rw[Vk];omega) au5;rw[aq1 Vk] at aT;exact bz [] (bp) <| ar (Fn.aV [(1001,3001)] lM) <| df <| ar (Fn.arg o8 aA) <| ar aT <| df ⟨⟨l',af.ok,Ax⟩,_,_,_,bp,rfl,aA,aA,rfl⟩
end
section
def yu (c:UInt8) (p:Int×Int):Int×Int:=((p.1+(UInt8.toNat c:Int)) % 65521,(p.2+(p.1+(UInt8.toNat c:Int)) % 65521) % 65521)
def om (x:ay4) (p:Int×Int):Int×Int:=x.foldl (fun p c=>yu c p) p
def AD (p:Int×Int):Prop:=(0<=p.1/\p.1 < 65521)/\(0<=p.2/\p.2 < 65521)
theorem ak7 {c:UInt8} {p:Int×Int} (h:AD p):AD (yu c p):=by
 unfold AD yu;simp only;have:=h.1;have:=h.2;omega
theorem Ho: ∀{x:ay4} {p:Int×Int},AD p->AD (om x p)
 | [],_,h=>h
 |c::x,p,h=>Ho (x:=x) (ak7 h)
theorem ak8 (x:ay4) (c:UInt8) (p:Int×Int):om (x++[c]) p=yu c (om x p):=by
 unfold om;rw[at9];rfl
def jh (x:ay4):Int:=65536*(om x (1,0)).2+(om x (1,0)).1
theorem MU (x:ay4):0<=jh x/\jh x < 4294967296:=by
 have h:=Ho (x:=x) (p:=(1,0)) ⟨au6,au6⟩;unfold jh;have:=h.1;have:=h.2;omega
theorem ak9 (c:UInt8) (p:Int×Int) (h:AD p):Fn Tryz.prog 251 [kJ (.d (.int .u8 (UInt8.toNat c:Int))),ap 1001,ap 1002] [(1001,.cells [.d (.int .i64 p.1)]),(1002,.cells [.d (.int .i64 p.2)])] [] (.cf [.one (.d (.int .i64 (yu c p).1)),.one (.d (.int .i64 (yu c p).2))]) [(1001,.cells [.d (.int .i64 p.1)]),(1002,.cells [.d (.int .i64 p.2)])]:=by
 have H:UInt8.toNat c < 256:=UInt8.toNat_lt c;obtain⟨⟨E,G⟩,aj,aX⟩:=h;refine aU [] Tryz.func251 ?_;have cx: -9223372036854775808<=(UInt8.toNat c:Int)/\(UInt8.toNat c:Int)<=9223372036854775807:=av3
 refine⟨cx,?_⟩;have cA: -9223372036854775808<=p.1+(UInt8.toNat c:Int)/\p.1+(UInt8.toNat c:Int)<=9223372036854775807:=av3
 refine⟨cA,?_⟩;have dy:0<=p.1+(UInt8.toNat c:Int)/\(0:Int) < 65521:=av3
 have fb: -9223372036854775808<=(p.1+(UInt8.toNat c:Int)) % 65521/\(p.1+(UInt8.toNat c:Int)) % 65521<=9223372036854775807:=av3
 refine⟨dy,fb,?_⟩;have xC: -9223372036854775808<=p.2+(p.1+(UInt8.toNat c:Int)) % 65521/\p.2+(p.1+(UInt8.toNat c:Int)) % 65521<=9223372036854775807:=av3
 refine⟨xC,?_⟩;have vY:0<=p.2+(p.1+(UInt8.toNat c:Int)) % 65521/\(0:Int) < 65521:=av3
 have xD: -9223372036854775808<=(p.2+(p.1+(UInt8.toNat c:Int)) % 65521) % 65521/\(p.2+(p.1+(UInt8.toNat c:Int)) % 65521) % 65521<=9223372036854775807:=av3
 exact⟨vY,xD,rfl,bg⟩
abbrev Vl (p:Int×Int):aw:=[(3,.cells [.d (.int .i64 p.1)]),(4,.cells [.d (.int .i64 p.2)])]
abbrev ak' (bE:List ay4) (i:Nat):aY:=[(3,ap 3),(4,ap 4),(5,.c (.one (.cU 251 [.p 3 0,.p 4 0]))),(11,bS (.b7 .u8) bE),(12,ac (bE.length:Nat)),(13,ac (i:Nat))]
abbrev ala (bE:List ay4) (i:Nat) (x:ay4) (j:Nat):aY:=[(3,ap 3),(4,ap 4),(5,.c (.one (.cU 251 [.p 3 0,.p 4 0]))),(11,bS (.b7 .u8) bE),(12,ac (bE.length:Nat)),(13,ac (i:Nat)),(17,bS .u8 x),(18,ac (x.length:Nat)),(19,ac (j:Nat))]
theorem Vm {bE:List ay4} {i:Nat} (h:i < bE.length):(bE.take (i+1)).flatten=(bE.take i).flatten++bE[i]:=by
 rw[as1 h,List.flatten_append];simp
theorem MV (bE:List ay4) (al:bE.length<=1000000) (af: ∀x∈bE,x.length<=4294967296):Fn Tryz.prog 218 [bS (.b7 .u8) bE] [] [] (ac (jh bE.flatten)) []:=by
 refine aU [] Tryz.func218 ?_;refine⟨rfl,rfl,dQ [] (X:=Nat) (ak' bE) (fun i=>Vl (om (bE.take i).flatten (1,0))) (fun i=>i<=bE.length) (fun i=>bE.length - i) 0 (ap7 _) ?_ ?_⟩
 .exact ae.sub aA aA
 intro i aH;refine⟨fun h=>?_,fun h=>?_⟩
 .have h:decide ((i:Int) < (bE.length:Int))=true:=h;have dX:i < bE.length:=av4
  have hx:=af _ (ar3 dX);refine⟨au5,bE[i],jv (n:=i) dX,dQ [] (X:=Nat) (fun j=>ala bE i bE[i] j) (fun j=>Vl (om ((bE.take i).flatten++bE[i].take j) (1,0))) (fun j=>j<=bE[i].length) (fun j=>bE[i].length - j) 0 (ap7 _) ?_ ?_⟩
  .refine ae.sub aA ⟨?_,?_,trivial⟩
   .rw[List.take_zero,as6];rfl
   .rw[List.take_zero,as6];rfl
  intro j Z;refine⟨fun G=>?_,fun G=>?_⟩
  .have G:decide ((j:Int) < (bE[i].length:Int))=true:=G;have eI:j < bE[i].length:=by simpa using G
   have ax:om ((bE.take i).flatten++bE[i].take (j+1)) (1,0)=yu bE[i][j] (om ((bE.take i).flatten++bE[i].take j) (1,0)):=by
    rw[as1 eI,<-as8,ak8]
   have bu:=Ho (x:=(bE.take i).flatten++bE[i].take j) (p:=(1,0)) ⟨au6,au6⟩;refine⟨au5,bE[i][j],jv (n:=j) eI,ar (Fn.aV [(1001,3),(1002,4)] (ak9 bE[i][j] _ bu)) ⟨au5,j+1,au5,au5,ae.sub aA ⟨?_,?_,trivial⟩⟩⟩
   .rw[ax];rfl
   .rw[ax];rfl
  .have G:decide ((j:Int) < (bE[i].length:Int))=false:=G;have eI:j=bE[i].length:=by simp at G;omega
   subst eI;refine⟨au5,i+1,au5,au5,ae.sub aA ⟨?_,?_,trivial⟩⟩
   .rw[Vm dX,aq9];rfl
   .rw[Vm dX,aq9];rfl
 .have h:decide ((i:Int) < (bE.length:Int))=false:=h;have dX:i=bE.length:=ax5
  subst dX;rw[aq9];obtain⟨⟨E,G⟩,aj,aX⟩:=Ho (x:=bE.flatten) (p:=(1,0)) ⟨au6,au6⟩;have cx: -9223372036854775808<=65536*(om bE.flatten (1,0)).2/\65536*(om bE.flatten (1,0)).2<=9223372036854775807:=av3
  refine⟨cx,?_⟩;have cA: -9223372036854775808<=65536*(om bE.flatten (1,0)).2+(om bE.flatten (1,0)).1/\65536*(om bE.flatten (1,0)).2+(om bE.flatten (1,0)).1<=9223372036854775807:=av3
  exact⟨cA,bg⟩
end
section
abbrev vc (c d:Nat) (U:Int) (es:List (aa .str×aa .aL)):aw:=[(c,.cells [.d (.int .i64 U),.mp d]),(d,.map .str .aL es)]
def iv (es:List (aa .str×aa .aL)) (k:ay4):Option Nat:=(b0 es (k:aa .str)).getD (cL .aL)
theorem MW (U:Int) (es:List (aa .str×aa .aL)) (name:ay4) (b:Nat) (h:iv es name=some b):Fn Tryz.prog 121 [ap 1001,bU name] (vc 1001 1002 U es) [] (.cf [Qm (some b),dw 0]) (vc 1001 1002 U es):=by
 refine aU [] Tryz.func121 ?_;refine⟨fun dZ h'=>?_,fun h'=>?_⟩
 .exact eq bp rfl ⟨h,rfl,trivial⟩
 .exfalso;have:iv es name=none:=h';rw[h] at this
  cases this
theorem Vn (U:Int) (es:List (aa .str×aa .aL)) (name:ay4) (h:iv es name=none):Fn Tryz.prog 121 [ap 1001,bU name] (vc 1001 1002 U es) [] (.cf [mG,dw 40]) (vc 1001 1002 U es):=by
 refine aU [] Tryz.func121 ?_;refine⟨fun dZ h'=>?_,fun h'=>?_⟩
 .exfalso;have:iv es name=some dZ:=h';rw[h] at this
  cases this
 .exact bg
theorem alb (U:Int) (h:0<=U):Fn Tryz.prog 19 [ac U] [] [1001,1002] (.cf [.one (.ptr 1001 0),dw 0]) (vc 1001 1002 U []):=by
 refine aU [] Tryz.func19 ?_;refine⟨fun E=>?_,fun E=>?_⟩
 .simp at E;omega
 exact⟨rfl,rfl,_,_,_,(ae.aV 9 1001 rfl).trans (ae.aV 7 1002 rfl),rfl,aA,aA,rfl⟩
theorem alc (U:Int) (es:List (aa .str×aa .aL)) (fr to:ay4) (b:Nat) (al:to.length<=4294967296) (h:gr to=true) (hn:iv es fr=some b):Fn Tryz.prog 173 [ap 1001,bU fr,bU to] (vc 1001 1002 U es) [] (ac 0) (vc 1001 1002 U (dr (gH es (fr:aa .str)) (to:aa .str) (some b:Option Nat))):=by
 refine aU [] Tryz.func173 ?_;refine ar (qp _ al) ⟨fun E=>?_,fun E=>?_⟩
 .rw[h] at E;cases E
 refine ar (MW U es fr b hn) ⟨fun G=>?_,fun G=>?_⟩
 .exact absurd G au6
 exact⟨trivial,bg⟩
end
section
abbrev MX (c d q:Nat) (U:Int) (es:List (aa .str×aa .aL)) (L:List (Nat×bf)):aw:=[(c,.cells [.d (.int .i64 U),.mp d]),(d,.map .str .aL es),(q,.aG (.bA L))]
theorem ald (U:Int) (es:List (aa .str×aa .aL)) (L:List (Nat×bf)) (name:ay4) (n:Int) (al:name.length<=4294967296) (E:gr name=true) (G:(pf n&&decide (0<=U))=true) (aX:iv es name=none) (bH:es.length < 16):
  cu Tryz.prog 171 [ap 1001,bU name,ac n] (MX 1001 1002 1003 U es L) [] (fun b:Nat=>.cf [Qm (some b),dw 0]) (fun b=>MX 1001 1002 1003 U (dr es (name:aa .str) (some b:Option Nat)) ((b,g8 ⟨n,U,[],[],[]⟩)::L)):=by
 refine hG [8] Tryz.func171 ?_;refine ar (Fn.aV [(1001,2001)] (akN n U G)) <| ar (qp _ al) ⟨fun ai=>?_,fun ai=>?_⟩
 .rw[E] at ai;cases ai
 refine⟨fun ao=>?_,fun ao=>?_⟩
 .exact absurd ao au6
 refine⟨fun dZ bl=>?_,fun bl=>?_⟩
 .exfalso;have:iv es name=some dZ:=bl;rw[aX] at this
  cases this
 refine⟨fun c2=>?_,fun c2=>?_⟩
 .exfalso;simp at c2;omega
 refine bt.eY (de.name 8 2001 rfl rfl) fun b=>?_
 exact bz [] (bp) ⟨trivial,b,_,_,_,ae.put 1003 2001 au6 rfl rfl,rfl,aA,aA,rfl⟩
end
section
abbrev hM:=List (aa ak×aa gU)
def rH (x:aa gU):Prop:=List.length (α:=UInt8) x=16
theorem rH.wf {x:aa gU} (h:rH x):oy gU x:=⟨h,fun _ _=>trivial⟩
def qC (d':List Int):Nat->List (aa pe)->hM->hM
 |_,[],s=>s
 |k,w::l,s=>qC d' (k+1) l (match d'.contains (k:Int) with
  |true=>dr s w.1 w.2
  |false=>s)
theorem Vo (d':List Int) (w:aa pe): ∀(l:List (aa pe)) (k:Nat) (s:hM),qC d' k (l++[w]) s=match d'.contains ((k+l.length:Nat):Int) with
  |true=>dr (qC d' k l s) w.1 w.2
  |false=>qC d' k l s
 | [],k,s=>rfl
 |v::l,k,s=>by
  rw[List.cons_append,qC,Vo d' w l (k+1)];rw[show k+1+l.length=k+(v::l).length by simp;omega];rfl
def bY.ln (m:bY) (d':List Int):bY:=let s:=qC d' 0 m.eU m.lP;{m with lP:=s,bF:=s,eU:=[]}
theorem ale (d':List Int) (k:Int) (al:d'.length<=4294967296):Fn Tryz.prog 160 [ac k,ap 1001] [(1001,.cells [.d (.ck ak d')])] [] (fK (d'.contains k)) [(1001,.cells [.d (.ck ak d')])]:=by
 refine aU [] Tryz.func160 ?_;exact ar (akS d' k al) bg
abbrev alf (m:bY) (d':List Int) (k:Nat):aY:=[(0,ap 1001),(4,.c (.one (.cU 160 [.p 3 0]))),(11,eO 1004),(12,ac (m.eU.length:Nat)),(13,ac (k:Nat))]
abbrev alg (m:bY) (d':List Int) (s:hM):aw:=iJ 1001 1002 1003 1004 {m with lP:=s}++[(3,.cells [.d (.ck ak d')])]
theorem alh (m:bY) (d':List Int) (ab:d'.length<=4294967296) (al:m.eU.length<=4294967296) (hw: ∀w,w∈m.eU->rH w.2):
  Fn Tryz.prog 109 [ap 1001,bS ak d'] (iJ 1001 1002 1003 1004 m) [2001,2002] gJ (iJ 1001 1002 2001 2002 (m.ln d')):=by
 refine aU [] Tryz.func109 ?_;refine⟨rfl,dQ [] (X:=Nat) (alf m d') (fun k=>alg m d' (qC d' 0 (m.eU.take k) m.lP)) (fun k=>k<=m.eU.length) (fun k=>m.eU.length - k) 0 (ap7 _) ?_ ?_⟩
 .exact ae.sub aA aA
 intro k cm;refine⟨fun h=>?_,fun h=>?_⟩
 .have fe:k < m.eU.length:=by
   have h:decide ((k:Int) < (m.eU.length:Int))=true:=h;simpa using h
  have nb:=hw _ (ar3 fe)
  have rE:qC d' 0 (m.eU.take (k+1)) m.lP=match d'.contains (k:Int) with
    |true=>dr (qC d' 0 (m.eU.take k) m.lP) (m.eU[k]).1 (m.eU[k]).2
    |false=>qC d' 0 (m.eU.take k) m.lP:=by
   rw[as1 fe,Vo,ap8,Nat.min_eq_left au5,Nat.zero_add]
  refine⟨⟨au5,by show(k:Int) < (m.eU.length:Nat);omega⟩,m.eU[k],jv (n:=k) fe,rfl,ar (Fn.aV [(1001,3)] (ale d' (k:Nat) ab)) ⟨fun G=>?_,fun G=>?_⟩⟩
  .rw[G] at rE;refine⟨(m.eU[k]).2,⟨nb.wf,rfl⟩,rfl,au5,k+1,au5,au5,ae.sub aA ⟨rfl,?_,rfl,rfl,rfl,trivial⟩⟩;rw[rE];rfl
  .rw[G] at rE;refine⟨au5,k+1,au5,au5,ae.sub aA ⟨rfl,?_,rfl,rfl,rfl,trivial⟩⟩;rw[rE];rfl
 .have h:decide ((k:Int) < (m.eU.length:Int))=false:=h;have fe:k=m.eU.length:=ax5
  subst fe;rw[aq9];exact ar (Fn.aV [(1001,1002)] (Vf (qC d' 0 m.eU m.lP))) ⟨_,_,_,ae.vO 1001 4 2002 243 pe rfl rfl rfl,rfl,trivial,aA,rfl⟩
theorem Vp (m:bY) (d':List Int) (ab:d'.length<=4294967296) (al:m.eU.length<=4294967296) (hw: ∀w,w∈m.eU->rH w.2):
  Fn Tryz.prog 109 [ap 1001,bS ak d'] [(1001,.aG (g8 m))] [] gJ [(1001,.aG (g8 (m.ln d')))]:=
 MS (aJ:=[]) (aO:=[]) [(2001,1003),(2002,1004)] (alh m d' ab al hw) ⟨rfl,rfl,rfl,rfl⟩ rfl rfl
end
section
theorem ali (a b:Int):(fW ak (a:aa ak) (b:aa ak)=true)↔a=b:=by
 show yQ a b=true↔a=b;unfold yQ;exact decide_eq_true_iff
theorem MY {α lE:Type} {f:α->lE}: ∀{l:List α},(l.map f).Nodup-> ∀{p q:α},p∈l->q∈l->f p=f q->p=q
 | [],_,_,_,h,_,_=>by cases h
 |a::l,h,p,q,af,aT,e=>by
  rw[aq4,aq7] at h;rcases ap3.1 af with af |af <;>rcases ap3.1 aT with aT |aT
  .rw[af,aT]
  .exact absurd (by rw[<-af,e];exact aq6 aT) h.1
  .exact absurd (by rw[<-aT,<-e];exact aq6 af) h.1
  .exact MY h.2 af aT e
end
section
def bY.Hp (m:bY) (n:Int):bY:=⟨n,m.U,m.bF.filter fun p=>decide ((show Int from p.1) < n),m.bF.filter fun p=>decide ((show Int from p.1) < n),[]⟩
def rI {aK:bx} (es:List (aa ak×aa aK)):List Int:=es.map fun p=>(show Int from p.1)
def Dx (s:hM) (a:Int):aa gU:=(b0 s (a:aa ak)).getD (cL gU)
def iK (s:hM) (a:Int):ay4:=Dx s a
def pg (s:hM) (a:Int) (k:Nat):ay4:=(List.range k).flatMap fun i=>iK s (a+(i:Nat))
def wH (s:hM):Prop:= ∀p∈s,rH p.2
theorem Vq {aI aK:bx} {k:aa aI} {x:aa aK}: ∀{l:List (aa aI×aa aK)},b0 l k=some x-> ∃p∈l,p.2=x
 | [],h=>by cases h
 |p::l,h=>by
  unfold b0 at h
  split at h
  .injection h with h
   exact⟨p,aq0 ..,h⟩
  .obtain⟨q,aT,e⟩:=Vq h;exact⟨q,ap2 _ aT,e⟩
theorem Vr {s:hM} (h:wH s) (a:Int):rH (Dx s a):=by
 unfold Dx
 cases e:b0 s (a:aa ak) with
 |none=>exact as4
 |some x=>
  obtain⟨p,af,e⟩:=Vq e;rw[<-e];exact h p af
theorem Vs (s:hM) (a:Int) (k:Nat):pg s a (k+1)=pg s a k++iK s (a+(k:Nat)):=by
 unfold pg;rw[List.range_succ,List.flatMap_append];simp
theorem Hq {s:hM} (h:wH s) (a:Int): ∀k,(pg s a k).length=16*k
 |0=>rfl
 |k+1=>by
  have e:(iK s (a+(k:Nat))).length=16:=Vr h _;rw[Vs,ap1,Hq h a k];omega
abbrev Vt (at_ aZ:Int) (k r:Nat):aY:=[(0,ap 1001),(1,ac at_),(2,ac aZ),(8,eO r),(20,ac aZ),(21,ac (k:Nat))]
abbrev Vu (m:bY) (r:Nat) (x:ay4):aw:=iJ 1001 1002 1003 1004 m++[(r,.row 5 .u8 x)]
theorem alj (m:bY) (at_ aZ:Int) (h:0<=aZ) (aH:m.kz at_ aZ=true) (E:0<=m.n) (G:m.n<=4096) (hw:wH m.bF):Fn Tryz.prog 213 [ap 1001,ac at_,ac aZ] [(1001,.aG (g8 m))] [] (.cf [.one (.d (.ck .u8 (pg m.bF at_ aZ.toNat))),dw 0]) [(1001,.aG (g8 m))]:=by
 refine Dv (aJ:=[]) (aO:=[]) (bc:=[]) ?_ rfl rfl;refine aU [] Tryz.func213 ?_;refine⟨fun E=>?_,fun _=>?_⟩
 .have E:aZ < 0:=gd E;omega
 refine ar (MR m at_ aZ h E G) ?_;rw[aH];refine df ?_;simp only[bY.kz,vj,ar5] at aH;obtain⟨⟨oI,oJ⟩,uJ⟩:=aH;refine dQ [] (X:=Nat) (fun k=>Vt at_ aZ k 2003) (fun k=>Vu m 2003 (pg m.bF at_ k)) (fun k=>(k:Int)<=aZ) (fun k=>aZ.toNat - k) 0 h ?_ ?_
 .exact ae.trans (ae.nil 8 2003 5 .u8 rfl rfl) (ae.sub aA aA)
 intro k ab;refine⟨fun H=>?_,fun H=>?_⟩
 .have cm:(k:Int) < aZ:=gd H;have nb:=Vr hw (at_+(k:Nat));have b6:=Hq hw at_ k;refine⟨au5,rfl,Dx m.bF (at_+(k:Nat)),⟨nb.wf,rfl⟩,?_⟩
  have ai:(pg m.bF at_ k).length+(iK m.bF (at_+(k:Nat))).length<=4294967296:=by
   have:(iK m.bF (at_+(k:Nat))).length=16:=nb;omega
  refine⟨ai,rfl,au5,k+1,au5,au5,ae.trans (ae.sub (K':=Vt at_ aZ (k+1) 34) (B':=Vu m 34 (pg m.bF at_ (k+1))) aA ⟨rfl,rfl,rfl,rfl,?_,trivial⟩) (ae.aV 34 2003 rfl)⟩;rw[Vs];rfl
 .have cm:k=aZ.toNat:=by
   have: ¬(k:Int) < aZ:=mu H;omega
  subst cm;exact⟨_,_,_,ae.dW 2003 rfl,rfl,aA,aA,rfl⟩
end
section
def Hr (b:ay4) (k:Nat):ay4:=List.take 16 ((b.take ((((k:Nat):Int)+1)*16).toNat).drop (((k:Nat):Int)*16).toNat)
def sK (b:ay4) (k:Nat):aa gU:=Hr b k
theorem MZ {b:ay4} {k:Nat} (h:16*(k+1)<=b.length):rH (sK b k):=by
 show(List.take 16 ((b.take _).drop _)).length=16;rw[ap8,at1,ap8];omega
theorem alk (b:ay4) (k:Nat):Hr b k=(b.drop (16*k)).take 16:=by
 unfold Hr;rw[show((((k:Nat):Int)+1)*16).toNat=16*k+16 by omega,show(((k:Nat):Int)*16).toNat=16*k by omega,List.drop_take,List.take_take]
 congr 1
 omega
abbrev Hs (a:Int) (x:aa gU):aa pe:=(a,x)
def yv (at_:Int) (b:ay4) (s:hM):Nat->hM
 |0=>s
 |k+1=>dr (yv at_ b s k) (at_+(k:Nat):Int) (sK b k)
def wI (at_:Int) (b:ay4) (l:List (aa pe)):Nat->List (aa pe)
 |0=>l
 |k+1=>wI at_ b l k++[Hs (at_+(k:Nat)) (sK b k)]
theorem M0 (at_:Int) (b:ay4) (l:List (aa pe)): ∀k,(wI at_ b l k).length=l.length+k
 |0=>rfl
 |k+1=>by rw[wI,ap1,M0];simp;omega
def lQ (s:hM) (at_:Int):Nat->Nat
 |0=>0
 |k+1=>match(b0 s (at_+(k:Nat):Int)).isSome with
  |true=>lQ s at_ k
  |false=>lQ s at_ k+1
theorem Vv (s:hM) (at_:Int): ∀k,lQ s at_ k<=k
 |0=>ap0 _
 |k+1=>by
  have:=Vv s at_ k;unfold lQ
  split <;>omega
def bY.rJ (m:bY) (at_:Int) (k:Nat):Bool:=decide (m.U < (m.bF.length+lQ m.bF at_ k:Nat))&&decide (0 < lQ m.bF at_ k)
def bY.Ht (m:bY) (at_:Int) (b:ay4):bY:={m with bF:=yv at_ b m.bF (b.length/16),eU:=wI at_ b m.eU (b.length/16)}
def vd (b:ay4):Bool:=decide (b.length=0)|| !decide (b.length % 16=0)
abbrev alm (m:bY) (at_:Int) (b:ay4) (k:Nat):aY:=[(0,ap 1001),(1,ac at_),(2,bS .u8 b),(7,ac (b.length/16:Nat)),(8,ac (m.bF.length+lQ m.bF at_ k:Nat)),(35,ac (b.length/16:Nat)),(36,ac (k:Nat))]
abbrev M1 (m:bY) (at_:Int) (b:ay4) (k:Nat):aY:=[(0,ap 1001),(1,ac at_),(2,bS .u8 b),(7,ac (b.length/16:Nat)),(67,ac (b.length/16:Nat)),(68,ac (k:Nat))]
abbrev M2 (m:bY) (at_:Int) (b:ay4) (k r:Nat):aw:=iJ 1001 1002 1003 r {m with bF:=yv at_ b m.bF k,eU:=wI at_ b m.eU k}
theorem M3 (b:ay4):vd b=(decide ((b.length:Int)=0)|| !decide ((b.length:Int) % 16=0)):=by
 have ai:decide (b.length=0)=decide ((b.length:Int)=0):=by rw[Bool.eq_iff_iff,decide_eq_true_iff,decide_eq_true_iff];omega
 have ao:decide (b.length % 16=0)=decide ((b.length:Int) % 16=0):=by rw[Bool.eq_iff_iff,decide_eq_true_iff,decide_eq_true_iff];omega
 rw[vd,ai,ao]
theorem M4 {b:ay4} (al:b.length<=4294967296):(0<=(b.length:Int)/\(0:Int) < 16)/\(-9223372036854775808<=(b.length:Int)/16/\(b.length:Int)/16<=9223372036854775807)/\(-9223372036854775808<=(b.length:Int) % 16/\(b.length:Int) % 16<=9223372036854775807):=av3
theorem aln (m:bY) (at_:Int) (b:ay4) (al:b.length<=4294967296) (h:vd b=true):Fn Tryz.prog 224 [ap 1001,ac at_,bS .u8 b] [(1001,.aG (g8 m))] [] (ac 1) [(1001,.aG (g8 m))]:=by
 refine Dv (aJ:=[]) (aO:=[]) (bc:=[]) ?_ rfl rfl;rw[M3] at h;obtain⟨b4,cg,a3⟩:=M4 al;refine aU [] Tryz.func224 ?_;refine⟨b4,cg,fun _=>?_,fun E=>?_⟩
 .exact bg
 refine⟨b4,a3,fun _=>?_,fun G=>?_⟩
 .exact bg
 .have E:decide ((b.length:Int)=0)=false:=E;have G:(!decide ((b.length:Int) % 16=0))=false:=G;rw[E,G] at h
  cases h
theorem alo (m:bY) (at_:Int) (b:ay4) (al:b.length<=4294967296) (h:vd b=false) (aH:m.kz at_ (b.length/16:Nat)=false) (E:0<=m.n) (G:m.n<=4096):Fn Tryz.prog 224 [ap 1001,ac at_,bS .u8 b] [(1001,.aG (g8 m))] [] (ac 31) [(1001,.aG (g8 m))]:=by
 refine Dv (aJ:=[]) (aO:=[]) (bc:=[]) ?_ rfl rfl;rw[M3,Bool.or_eq_false_iff] at h;obtain⟨b4,cg,a3⟩:=M4 al;refine aU [] Tryz.func224 ?_;refine⟨b4,cg,fun aj=>absurd (h.1.symm.trans aj) au6,fun _=>⟨b4,a3,fun aj=>absurd (h.2.symm.trans aj) au6,fun _=>ar (MR m at_ (b.length/16:Nat) au5 E G) ?_⟩⟩;rw[aH];exact e5 bg
theorem alp (m:bY) (at_:Int) (b:ay4) (al:b.length<=4294967296) (h:vd b=false) (aH:m.kz at_ (b.length/16:Nat)=true) (E:0<=m.n) (G:m.n<=4096) (aj:m.bF.length<=4096) (hw:wH m.bF) (Hu:m.eU.length+b.length<=4294967296):
  Fn Tryz.prog 224 [ap 1001,ac at_,bS .u8 b] (iJ 1001 1002 1003 1004 m) [2004] (ac (match m.rJ at_ (b.length/16) with |true=>30 |false=>0)) (match m.rJ at_ (b.length/16) with |true=>iJ 1001 1002 1003 1004 m |false=>iJ 1001 1002 1003 2004 (m.Ht at_ b)):=by
 rw[M3,Bool.or_eq_false_iff] at h;obtain⟨b4,cg,a3⟩:=M4 al;refine aU [] Tryz.func224 ?_;refine⟨b4,cg,fun aj=>absurd (h.1.symm.trans aj) au6,fun _=>⟨b4,a3,fun aj=>absurd (h.2.symm.trans aj) au6,fun _=>ar (MR m at_ (b.length/16:Nat) au5 E G) ?_⟩⟩;rw[aH];refine df ?_;simp only[bY.kz,vj,ar5] at aH;obtain⟨⟨oI,oJ⟩,uJ⟩:=aH;refine ar (Vg m) ?_;show bt _ _ _ _ _ _ _;have bG:((b.length:Int)/16)=((b.length/16:Nat):Int):=av3
 have K2:=Vv m.bF at_;refine dQ [] (X:=Nat) (alm m at_ b) (fun k=>iJ 1001 1002 1003 1004 m) (fun k=>k<=b.length/16) (fun k=>b.length/16 - k) 0 (ap7 _) ?_ ?_
 .exact ae.sub ⟨rfl,rfl,rfl,bG,rfl,bG,rfl,trivial⟩ aA
 intro k ab;refine⟨fun H=>?_,fun H=>?_⟩
 .have cm:(k:Int) < (b.length/16:Nat):=gd H;have yj:=K2 k;refine⟨au5,rfl,?_⟩
  have ax:lQ m.bF at_ (k+1)=match(b0 m.bF (at_+(k:Nat):Int)).isSome with
    |true=>lQ m.bF at_ k
    |false=>lQ m.bF at_ k+1:=rfl
  refine⟨fun aX=>?_,fun aX=>?_⟩
  .have aX:(b0 m.bF (at_+(k:Nat):Int)).isSome=false:=by
    have aX:(!(b0 m.bF (at_+(k:Nat):Int)).isSome)=true:=aX;simpa using aX
   rw[aX] at ax;have ax:lQ m.bF at_ (k+1)=lQ m.bF at_ k+1:=ax;refine⟨au5,au5,k+1,au5,au5,ae.sub ⟨rfl,rfl,rfl,rfl,?_,rfl,rfl,trivial⟩ aA⟩;show _=_;rw[ax];omega
  .have aX:(b0 m.bF (at_+(k:Nat):Int)).isSome=true:=by
    have aX:(!(b0 m.bF (at_+(k:Nat):Int)).isSome)=false:=aX;simpa using aX
   rw[aX] at ax;refine⟨au5,k+1,au5,au5,ae.sub ⟨rfl,rfl,rfl,rfl,?_,rfl,rfl,trivial⟩ aA⟩;show _=_;rw[ax]
 .have cm:k=b.length/16:=by
   have: ¬(k:Int) < (b.length/16:Nat):=mu H;omega
  subst cm;have yj:=K2 (b.length/16);refine⟨fun cC=>?MM,fun cC=>?MN⟩
  case' MM=>
   have cC:decide (m.U < (m.bF.length+lQ m.bF at_ (b.length/16):Nat))=true:=cC;refine ar (Vg m) ?_;refine⟨fun cG=>?alq,fun cG=>?alr⟩
  case alq=>
   have cG:decide (((m.bF.length:Nat):Int) < (m.bF.length+lQ m.bF at_ (b.length/16):Nat))=true:=cG
   have hf:m.rJ at_ (b.length/16)=true:=by
    have av:0 < lQ m.bF at_ (b.length/16):=by have:=gd cG;omega
    rw[bY.rJ,cC,aq1 av];rfl
   rw[hf];exact bg
  case' alr=>
   have cG:decide (((m.bF.length:Nat):Int) < (m.bF.length+lQ m.bF at_ (b.length/16):Nat))=false:=cG
   have hf:m.rJ at_ (b.length/16)=false:=by
    have av: ¬0 < lQ m.bF at_ (b.length/16):=by have:=mu cG;omega
    rw[bY.rJ,cC,ar8 av];rfl
   clear cC cG
  case' MN=>
   have cC:decide (m.U < (m.bF.length+lQ m.bF at_ (b.length/16):Nat))=false:=cC
   have hf:m.rJ at_ (b.length/16)=false:=by
    rw[bY.rJ,cC];rfl
   clear cC
  all_goals
   rw[hf];refine dQ [] (X:=Nat) (M1 m at_ b) (fun k=>M2 m at_ b k 2004) (fun k=>k<=b.length/16) (fun k=>b.length/16 - k) 0 (ap7 _) ?_ ?_
   .exact ae.trans (cH (M1 m at_ b 0) (M2 m at_ b 0 1004)) (ae.aV 1004 2004 rfl)
   intro k ab;refine⟨fun H=>?_,fun H=>?_⟩
   .have cm:(k:Int) < (b.length/16:Nat):=gd H;have nb:rH (sK b k):=MZ au5;have mK:=M0 at_ b m.eU k;have cx: -9223372036854775808<=(k:Int)*16/\(k:Int)*16<=9223372036854775807:=av3
    have cA: -9223372036854775808<=(k:Int)+1/\(k:Int)+1<=9223372036854775807:=av3
    have dy: -9223372036854775808<=((k:Int)+1)*16/\((k:Int)+1)*16<=9223372036854775807:=av3
    have fb:0<=(k:Int)*16/\(k:Int)*16<=((k:Int)+1)*16/\((k:Int)+1)*16<=(b.length:Nat):=av3
    refine⟨cx,cA,dy,fb,?_⟩
    have xC:0 < 16/\16<=((b.take (((k:Int)+1)*16).toNat).drop ((k:Int)*16).toNat).length:=by
     rw[at1,ap8];omega
    refine⟨xC,rfl,?_⟩;have vY: -9223372036854775808<=at_+(k:Nat)/\at_+(k:Nat)<=9223372036854775807:=av3
    refine⟨vY,sK b k,⟨nb.wf,rfl⟩,rfl,vY,rfl,Hs (at_+(k:Nat)) (sK b k),⟨⟨trivial,nb.wf⟩,rfl⟩,?_⟩
    have xD:(wI at_ b m.eU k).length+ [Hs (at_+(k:Nat)) (sK b k)].length<=4294967296:=by
     rw[mK];simp only[as5,List.length_nil];omega
    exact⟨xD,rfl,rfl,au5,k+1,au5,au5,ae.trans (cH (M1 m at_ b (k+1)) (M2 m at_ b (k+1) 99)) (ae.aV 99 2004 rfl)⟩
   .have cm:k=b.length/16:=by
     have: ¬(k:Int) < (b.length/16:Nat):=mu H;omega
    subst cm;exact bg
def bY.write (m:bY) (at_:Int) (b:ay4):bY×Int:=match vd b with
 |true=>(m,1)
 |false=>match m.kz at_ (b.length/16:Nat) with
  |false=>(m,31)
  |true=>match m.rJ at_ (b.length/16) with
   |true=>(m,30)
   |false=>(m.Ht at_ b,0)
theorem als (m:bY) (at_:Int) (b:ay4) (al:b.length<=1073741824) (E:0<=m.n) (G:m.n<=4096) (aj:m.bF.length<=4096) (hw:wH m.bF) (Hu:m.eU.length<=1073741824):
  Fn Tryz.prog 224 [ap 1001,ac at_,bS .u8 b] [(1001,.aG (g8 m))] [] (ac (m.write at_ b).2) [(1001,.aG (g8 (m.write at_ b).1))]:=by
 unfold bY.write
 cases ai:vd b with
 |true=>exact aln m at_ b au5 ai
 |false=>
  simp only
  cases ao:m.kz at_ (b.length/16:Nat) with
  |false=>exact alo m at_ b au5 ai ao E G
  |true=>
   simp only;have h:=alp m at_ b au5 ai ao E G aj hw au5
   cases bl:m.rJ at_ (b.length/16) with
   |true=>rw[bl] at h;exact Dv (aJ:=[]) (aO:=[]) (bc:=[2004]) h rfl rfl
   |false=>rw[bl] at h;exact MS (aJ:=[]) (aO:=[]) (bc:=[2004]) [(2004,1004)] h ⟨rfl,rfl,rfl,rfl⟩ rfl rfl
end
section
abbrev dN:=List (Nat×bY)
def eQ (L:dN):List (Nat×bf):=L.map fun p=>(p.1,g8 p.2)
def hN:dN->Nat->Option bY
 | [],_=>none
 |p::L,b=>if p.1=b then some p.2 else hN L b
def g9:dN->Nat->bY->dN
 | [],_,_=>[]
 |p::L,b,m=>if p.1=b then(p.1,m)::L else p::g9 L b m
theorem Vw (b:Nat): ∀L:dN,eg (eQ L) b=(hN L b).map g8
 | []=>rfl
 |p::L=>by
  show(if p.1=b then some (g8 p.2) else eg (eQ L) b)=_;unfold hN
  split
  .rfl
  .exact Vw b L
theorem Vx (b:Nat) (m:bY): ∀L:dN,e4 (eQ L) b (g8 m)=eQ (g9 L b m)
 | []=>rfl
 |p::L=>by
  show(if p.1=b then(p.1,g8 m)::eQ L else(p.1,g8 p.2)::e4 (eQ L) b (g8 m))=_;unfold g9
  split
  .rfl
  .rw[Vx b m L];rfl
abbrev nt (c d q:Nat) (U:Int) (es:List (aa .str×aa .aL)) (L:dN):aw:=MX c d q U es (eQ L)
theorem AE {f:FuncId} {args:List aP} {res:aP} {m gp:bY} {L:dN} {b:Nat} (h:Fn Tryz.prog f (ap 1001::args) [(1001,.aG (g8 m))] [] res [(1001,.aG (g8 gp))]) (cY:hN L b=some m)
  (E:(args.all fun v=> !v.has 1001)=true) (G:(!res.has 1001)=true):Fn Tryz.prog f (dn b::args) [(1003,.aG (.bA (eQ L)))] [] res [(1003,.aG (.bA (eQ (g9 L b gp))))]:=by
 have:=(cu.bA (c:=1001) (q:=1003) (b:=b) (args:=args) (aJ:=[]) (bc:=[]) (X:=Unit) (res:=fun _=>res) (aO:=fun _=>[]) (o:=g8 m) (o':=fun _=>g8 gp) (L:=eQ L) h.x (by rw[Vw,cY];rfl) E ⟨rfl,rfl⟩ rfl (fun _=>G)).fn;rw[Vx] at this;exact this
theorem alt (U:Int) (es:List (aa .str×aa .aL)) (name:ay4):Fn Tryz.prog 170 [ap 1001,bU name] (vc 1001 1002 U es) [] (ac (match iv es name with |some _=>0 |none=>40)) (vc 1001 1002 U (gH es (name:aa .str))):=by
 cases h:iv es name with
 |some b=>
  refine aU [] Tryz.func170 ?_;exact ar (MW U es name b h) bg
 |none=>
  refine aU [] Tryz.func170 ?_;exact ar (Vn U es name h) bg
abbrev alu:bx:=.bQ ak (.bQ ak (.bQ ak (.bQ (.b7 .u8) (.b7 ak))))
abbrev yw:=aa alu
abbrev AF (o:yw):Int:=o.1
abbrev Hv (o:yw):Int:=o.2.1
abbrev AG (o:yw):Int:=o.2.2.1
abbrev Vy (o:yw):ay4:=o.2.2.2.1
abbrev alv (o:yw):List Int:=o.2.2.2.2
structure lR (n:Int) (s:hM):Prop where
 fN:(rI s).Nodup
 rg: ∀k∈rI s,0<=k/\k < n
 wf:wH s
structure e2 (m:bY):Prop where
 ky:0<=m.n
 cI:m.n<=4096
 bF:lR m.n m.bF
 lP:lR m.n m.lP
 Hw: ∀w∈m.eU,0<=(show Int from w.1)/\(show Int from w.1) < m.n
 AH: ∀w∈m.eU,rH w.2
def mW (k:Int) (p:aa ak×aa gU):Bool:=fW ak (k:aa ak) p.1
def yx (k:Int) (x:aa gU):aa ak×aa gU:=(k,x)
def Dy (p:aa ak×aa gU):Int:=p.1
def sL (s:hM) (k:Int) (x:aa gU):hM:=dr s (k:aa ak) x
theorem Hx (k:Int) (x:aa gU):sL [] k x=[yx k x]:=rfl
theorem AI (p:aa ak×aa gU) (l:hM) (k:Int) (x:aa gU):sL (p::l) k x=match mW k p with |true=>yx k x::l |false=>p::sL l k x:=rfl
theorem sM {k:Int} {p:aa ak×aa gU}:mW k p=true↔k=Dy p:=ali _ _
theorem ve (p:aa ak×aa gU) (l:hM):rI (p::l)=Dy p::rI l:=rfl
theorem M5 (k:Int) (x:aa gU):Dy (yx k x)=k:=rfl
theorem M6 {k:Int} {x:aa gU} {j:Int}: ∀{s:hM},j∈rI (sL s k x)↔j=k\/j∈rI s
 | []=>by rw[Hx,ve,M5,ap3]
 |p::s=>by
  rw[AI]
  cases e:mW k p with
  |true=>
   rw[ve,ve,M5,<-sM.1 e];simp
  |false=>
   simp only;rw[ve,ve,ap3,ap3,M6];constructor
   .rintro(h |h |h)
    .exact .inr (.inl h)
    .exact .inl h
    .exact .inr (.inr h)
   .rintro(h |h |h)
    .exact .inr (.inl h)
    .exact .inl h
    .exact .inr (.inr h)
theorem Vz {k:Int} {x:aa gU}: ∀{s:hM},(rI s).Nodup->(rI (sL s k x)).Nodup
 | [],_=>by rw[Hx,ve];exact aq7.2 ⟨fun h=>av5,at0⟩
 |p::s,h=>by
  rw[ve,aq7] at h;rw[AI]
  cases e:mW k p with
  |true=>
   simp only;rw[ve,M5,sM.1 e];exact aq7.2 h
  |false=>
   have e:k≠Dy p:=fun bk=>by rw[sM.2 bk] at e;cases e
   simp only;rw[ve];refine aq7.2 ⟨fun az=>?_,Vz h.2⟩;rcases M6.1 az with bk |bk
   .exact e bk.symm
   .exact h.1 bk
theorem VA {k:Int} {x:aa gU} (hx:rH x): ∀{s:hM},wH s->wH (sL s k x)
 | [],_=>fun p af=>by
  rw[Hx] at af;rcases ap3.1 af with e |e
  .rw[e];exact hx
  .cases e
 |q::s,h=>fun p af=>by
  rw[AI] at af
  split at af
  .rcases ap3.1 af with rfl |af
   .exact hx
   .exact h p (ap2 _ af)
  .rcases ap3.1 af with rfl |af
   .exact h _ (aq0 ..)
   .exact VA hx (fun p af=>h p (ap2 _ af)) p af
theorem lR.put {n:Int} {s:hM} (h:lR n s) {k:Int} {x:aa gU} (av:0<=k) (E:k < n) (hx:rH x):lR n (dr s (k:aa ak) x):=
 ⟨Vz h.fN,fun j Z=>by
  rcases M6.1 Z with rfl |Z
  .exact⟨av,E⟩
  .exact h.rg j Z,VA hx h.wf⟩
theorem lR.filter {n:Int} {s:hM} (h:lR n s) (n':Int):lR n' (s.filter fun p=>decide ((show Int from p.1) < n')):=
 ⟨h.fN.sublist (List.filter_sublist.map _),fun k ab=>by
  obtain⟨p,af,rfl⟩:=ar2.1 ab;obtain⟨af,J⟩:=at5.1 af;exact⟨(h.rg _ (aq6 af)).1,gd J⟩,fun p af=>h.wf p (at5.1 af).1⟩
theorem lR.nil (n:Int):lR n []:=⟨at0,fun k h=>av5,fun p h=>av5⟩
theorem Hy: ∀(n:Nat) (l:List Int),l.Nodup->(∀k∈l,0<=k/\k < n)->l.length<=n
 |0,[],_,_=>ap0 _
 |0,k::l,_,h=>by have:=h k (aq0 ..);omega
 |n+1,l,hn,h=>by
  by_cases az:(n:Int)∈l
  .have E:=Hy n (l.erase (n:Int)) (hn.erase _) fun k ab=>by
    have fe:=(List.Nodup.mem_erase_iff hn).1 ab;have:=h k fe.2;have:=fe.1;omega
   rw[List.length_erase_of_mem az] at E;omega
  .have:=Hy n l hn fun k ab=>by
    have:=h k ab;have:k≠n:=fun e=>az (e▸ab)
    omega
   omega
theorem lR.len {n:Int} {s:hM} (h:lR n s) (E:n<=4096):s.length<=4096:=by
 have:=Hy 4096 (rI s) h.fN fun k ab=>by have:=h.rg k ab;omega
 rwa[show(rI s).length=s.length from aq3 _] at this
theorem e2.new {n U:Int} (h:pf n=true):e2 ⟨n,U,[],[],[]⟩:=by
 simp[pf] at h;exact⟨h.1,h.2,lR.nil _,lR.nil _,fun w hw=>(by cases hw),fun w hw=>(by cases hw)⟩
theorem e2.ol {m:bY} (h:e2 m):e2 m.ol:=⟨h.ky,h.cI,h.bF,h.bF,fun w hw=>(by cases hw),fun w hw=>(by cases hw)⟩
theorem M7 {n:Int} {d':List Int}: ∀{l:List (aa pe)} {k:Nat} {s:hM},(∀w∈l,0<=(show Int from w.1)/\(show Int from w.1) < n)->(∀w∈l,rH w.2)->lR n s->lR n (qC d' k l s)
 | [],_,_,_,_,h=>h
 |w::l,k,s,E,G,h=>by
  unfold qC;refine M7 (fun v ay=>E v (ap2 _ ay)) (fun v ay=>G v (ap2 _ ay)) ?_
  split
  .exact h.put (E w (aq0 ..)).1 (E w (aq0 ..)).2 (G w (aq0 ..))
  .exact h
theorem e2.ln {m:bY} (h:e2 m) (d':List Int):e2 (m.ln d'):=
 ⟨h.ky,h.cI,M7 h.Hw h.AH h.lP,M7 h.Hw h.AH h.lP,fun w hw=>(by cases hw),fun w hw=>(by cases hw)⟩
theorem e2.Hp {m:bY} (h:e2 m) {n:Int} (hn:pf n=true):e2 (m.Hp n):=by
 simp[pf] at hn;exact⟨hn.1,hn.2,h.bF.filter n,h.bF.filter n,fun w hw=>(by cases hw),fun w hw=>(by cases hw)⟩
theorem e2.U {m:bY} (h:e2 m) (r:Int):e2 {m with U:=r}:=⟨h.ky,h.cI,h.bF,h.lP,h.Hw,h.AH⟩
theorem M8 {n at_:Int} {b:ay4} (av:0<=at_) {s:hM} (h:lR n s): ∀k:Nat,at_+k<=n->16*k<=b.length->lR n (yv at_ b s k)
 |0,_,_=>h
 |k+1,E,G=>(M8 av h k au5 au5).put au5 au5 (MZ G)
theorem M9 {at_:Int} {b:ay4} {l:List (aa pe)} {w:aa pe}: ∀k:Nat,w∈wI at_ b l k->w∈l\/ ∃i,i < k/\w=Hs (at_+(i:Nat)) (sK b i)
 |0,h=>.inl h
 |k+1,h=>by
  rcases aq8.1 h with h |h
  .rcases M9 k h with h |⟨i,aH,e⟩
   .exact .inl h
   .exact .inr ⟨i,au5,e⟩
  .rw[aq2] at h;exact .inr ⟨k,au5,h⟩
theorem e2.write {m:bY} (h:e2 m) (at_:Int) (b:ay4):e2 (m.write at_ b).1:=by
 unfold bY.write
 split
 .exact h
 .split
  .exact h
  .rename_i aH;simp only[bY.kz,vj,ar5] at aH;obtain⟨⟨oI,oJ⟩,uJ⟩:=aH
   split
   .exact h
   .refine⟨h.ky,h.cI,M8 oI h.bF _ (by show at_+_<=m.n;omega) au5,h.lP,fun w hw=>?_,fun w hw=>?_⟩
    .rcases M9 _ hw with hw |⟨i,aH,rfl⟩
     .exact h.Hw w hw
     .show 0<=at_+(i:Nat)/\at_+(i:Nat) < m.n;omega
    .rcases M9 _ hw with hw |⟨i,aH,rfl⟩
     .exact h.AH w hw
     .exact MZ au5
def bY.op (m:bY) (o:yw):bY×ay4×Int:=
 if AF o=0 then((m.write (Hv o) (Vy o)).1,[],(m.write (Hv o) (Vy o)).2)
 else if AF o=1 then(if AG o < 0 then(m,[],1) else match m.kz (Hv o) (AG o) with
  |true=>(m,pg m.bF (Hv o) (AG o).toNat,0)
  |false=>(m,[],31))
 else if AF o=2 then(m.ol,[],0)
 else if AF o=3 then(m.ln (alv o),[],0)
 else if AF o=4 then(match pf (AG o) with
  |true=>(m.Hp (AG o),[],0)
  |false=>(m,[],1))
 else if AF o=5 then({m with U:=max (AG o) 0},[],0)
 else(m,[],0)
theorem e2.op {m:bY} (h:e2 m) (o:yw):e2 (m.op o).1:=by
 unfold bY.op
 split
 .exact h.write _ _
 split
 .split
  .exact h
  .split <;>exact h
 split
 .exact h.ol
 split
 .exact h.ln _
 split
 .split
  .rename_i e;exact h.Hp e
  .exact h
 split
 .exact h.U _
 .exact h
end
section
abbrev qD (bD:Nat):aa .fn:=((220,[bD]):Nat×ay5)
abbrev oo (bD a b:Nat):aa .fn:=((223,[bD,a,b]):Nat×ay5)
abbrev M' (d:Nat) (e:Int) (eL:List (aa .fn)) (L:List (Nat×bf)):aw:=[(1001,.cells [.ptr 1002 0]),(1002,.cells [.own d,.d (.int .i64 e)]),(d,.row 113 .fn eL),(1005,.aG (.bA L))]
abbrev alw (e:Int) (eL:List (aa .fn)) (L:List (Nat×bf)):aw:=M' 1006 e eL L
theorem VB (at_:Int) (x:ay4) (bD:Nat) (e:Int) (eL:List (aa .fn)) (L:List (Nat×bf)) (al:eL.length<=1000000):
  cu Tryz.prog 222 [ac at_,bS .u8 x,ap 1001,dn bD] (alw e eL L) [2006] (X:=Nat×Nat) (fun _=>gJ) (fun g=>M' 2006 e (eL++[oo bD g.1 g.2]) ((g.2,hg (.ck .u8 x))::(g.1,hg (.int .i64 at_))::L)):=by
 refine hG [1] Tryz.func222 ?_;refine⟨rfl,rfl,bt.eY (de.box 4 4 1005 rfl rfl au6 rfl) fun ef=>bt.eY (de.box 5 5 1005 rfl rfl au6 rfl) fun fd=>bz [] (bp) ?_⟩;have O:eL.length+1<=4294967296:=av3
 exact⟨O,rfl,rfl,(ef,fd),_,_,_,(cH [] (M' 13 e (eL++[oo bD ef fd]) ((fd,hg (.ck .u8 x))::(ef,hg (.int .i64 at_))::L))).trans (ae.aV 13 2006 rfl),rfl,trivial,aA,rfl⟩
theorem alx {bD s:Nat} {m:bY} {L:List (Nat×bf)} {M:dN} (cY:eg L bD=some (hg (.aL (some s)))) (aq:hN M s=some m):
  Fn Tryz.prog 220 [dn bD] [(1005,.aG (.bA L)),(1003,.aG (.bA (eQ M)))] [] (ac 0) [(1005,.aG (.bA L)),(1003,.aG (.bA (eQ (g9 M s m.ol))))]:=by
 refine aU [] Tryz.func220 ?_;refine⟨_,_,fun N=>B3 (q:=1005) rfl Tryz.underlying183 rfl rfl rfl cY N,rfl,?_⟩;exact ar (AE (akQ m) aq rfl rfl) bg
theorem aly {bD s ef fd:Nat} {at_:Int} {x:ay4} {m:bY} {L:List (Nat×bf)} {M:dN} (G:eg L bD=some (hg (.aL (some s)))) (aX:eg L ef=some (hg (.int .i64 at_))) (bH:eg L fd=some (hg (.ck .u8 x)))
  (aq:hN M s=some m) (ah:e2 m) (hx:x.length<=1073741824) (al:m.eU.length<=1073741824):
  Fn Tryz.prog 223 [dn bD,dn ef,dn fd] [(1005,.aG (.bA L)),(1003,.aG (.bA (eQ M)))] [] (ac (m.write at_ x).2) [(1005,.aG (.bA L)),(1003,.aG (.bA (eQ (g9 M s (m.write at_ x).1))))]:=by
 refine aU [] Tryz.func223 ?_;refine⟨_,_,fun N=>B3 (q:=1005) rfl Tryz.underlying183 rfl rfl rfl G N,rfl,?_⟩;refine⟨_,_,fun N=>B3 (q:=1005) rfl Tryz.underlying3 rfl rfl rfl aX N,rfl,?_⟩;refine⟨_,_,fun N=>B3 (q:=1005) rfl Tryz.underlying25 rfl rfl rfl bH N,rfl,?_⟩;exact ar (AE (als m at_ x hx ah.ky ah.cI (ah.bF.len ah.cI) ah.bF.wf al) aq rfl rfl) bg
end
section
theorem alz (x:ay4) (hx:x.length<=4294967296):Fn Tryz.prog 152 [bS .u8 x] [] [2001] (eO 2001) (pT 2001 x):=by
 refine aU [1] Tryz.func152 ?_;refine bt.iC eX au8 ?_;refine⟨_,Qz rfl rfl Tryz.underlying25,fun v e h=>?_⟩;obtain⟨b,O,rfl,rfl⟩:=h
 cases b
 .refine⟨rfl,?_⟩;have al:0+x.length<=4294967296:=av3
  exact⟨al,rfl,_,_,_,ae.aV 7 2001 rfl,rfl,rfl,aA,rfl⟩
 .have O:=O rfl;subst O;exact⟨_,_,_,ae.nil 2 2001 5 .u8 rfl rfl,rfl,rfl,aA,rfl⟩
def rK (x:ay4):ay4:=x++eb (jh x).toNat 4
theorem VC (x:ay4) (hx:x.length<=1000000):Fn Tryz.prog 225 [bS .u8 x] [] [] (bS .u8 (rK x)) []:=by
 have h:=MU x;refine aU [2] Tryz.func225 ?_;refine ar (alz x au5) ?_;refine ar (MV [x] au7 (fun y aB=>by rw[aq2] at aB;rw[aB];omega)) ?_;have ai:([x]:List ay4).flatten=x:=by simp
 rw[ai];refine ar (Fn.arg (Fn.aV [(1001,2001),(1002,3002)] (yn x 4 [(jh x).toNat] (by unfold W;omega) (fun n hn=>by rw[aq2] at hn;rw[hn];omega) au7 au5)) ⟨rfl,rfl,Do h.1,trivial⟩) <| bz [] (ae.dW 3002 rfl) ?_;exact eq bp rfl (show x++eF 4 [(jh x).toNat]=rK x by unfold rK eF;simp)
def dq (n:Int):Int:=max (n - 2) 0/2
theorem Hz (n:Int) (av:0<=n) (E:n<=4096):Fn Tryz.prog 217 [ac n] [] [] (ac (dq n)) []:=by
 refine aU [] Tryz.func217 ?_;have cx: -9223372036854775808<=n - 2/\n - 2<=9223372036854775807:=av3
 refine⟨cx,?_⟩;have cA:0<=max (n - 2) 0/\(0:Int) < 2:=av3
 have dy: -9223372036854775808<=max (n - 2) 0/2/\max (n - 2) 0/2<=9223372036854775807:=av3
 exact⟨cA,dy,bg⟩
theorem Na (n:Int) (av:0<=n) (E:n<=4096):Fn Tryz.prog 215 [ac n] [] [] (ac (dq n*16)) []:=by
 refine aU [] Tryz.func215 ?_;refine ar (Hz n av E) ?_;have dy: -9223372036854775808<=dq n*16/\dq n*16<=9223372036854775807:=by unfold dq;omega
 exact⟨dy,bg⟩
end
section
open Go.RowKit Go.Proofs Go.Maps Go.Shelf Go.MapKept Tryz
open Go.WideElems (Fit rd rg pl rd_val rd_key rg_of)
def alA {aK:bx} (p:aa .str×aa aK):ay4:=p.1
def vf {aK:bx} (es:List (aa .str×aa aK)):List ay4:=es.map alA
end
section
abbrev lS:bx:=.bQ .str (.b7 ak)
abbrev lT:=aa lS
abbrev ph (k:lT):ay4:=k.1
abbrev mj (k:lT):List Int:=k.2
def vg (ks:List lT) (nm:ay4):Option Nat:=ks.findIdx? fun k=>decide (ph k=nm)
def qE (ks:List lT) (nm:ay4):Int:=match vg ks nm with
 |some i=>(i:Nat)
 |none=> -1
def sN (ks:List lT) (nm:ay4):List Int:=match vg ks nm with
 |some i=>match ks[i]? with
  |some k=>mj k
  |none=>[]
 |none=>[]
theorem alB (k:lT) (nm:ay4):Fn Tryz.prog 108 [.c (.agg [.d (.str (ph k)),.d (.ck ak (mj k))]),ap 1001] [(1001,.cells [.d (.str nm)])] [] (fK (decide (ph k=nm))) [(1001,.cells [.d (.str nm)])]:=by
 refine aU [] Tryz.func108 ?_;exact⟨rfl,bg⟩
theorem alC (ks:List lT) (nm:ay4) (al:ks.length<=4294967296):
  Fn Tryz.prog 107 [bS lS ks,kJ (.cU 108 [.p 1001 0])] [(1001,.cells [.d (.str nm)])] [] (ac (qE ks nm)) [(1001,.cells [.d (.str nm)])]:=by
 refine aU [] Tryz.func107 ?_;refine dQ [] (X:=Nat) (fun k=>[(0,bS lS ks),(1,kJ (.cU 108 [.p 1001 0])),(7,ac (ks.length:Nat)),(8,ac (k:Nat))]) (fun _=>[(1001,.cells [.d (.str nm)])]) (fun k=>k<=ks.length/\ ∀(i:Nat) x,i < k->ks[i]? =some x->ph x≠nm) (fun k=>ks.length - k) 0 ⟨ap7 _,fun i x h=>absurd h (au3 _)⟩ ?_ ?_
 .exact ae.sub aA aA
 rintro k ⟨ab,af⟩;refine⟨fun h=>?_,fun h=>?_⟩
 .have cm:k < ks.length:=by
   have h:decide ((k:Int) < (ks.length:Int))=true:=h;simpa using h
  refine⟨au5,ks[k],jv (n:=k) cm,ar (alB ks[k] nm) ⟨fun G=>?_,fun G=>?_⟩⟩
  .have G:ph ks[k]=nm:=gd G;refine⟨_,_,_,bp,rfl,(show((k:Nat):Int)=qE ks nm from ?_),aA,rfl⟩
   have:vg ks nm=some k:=by
    rw[vg,List.findIdx?_eq_some_iff_getElem];refine⟨cm,by simp[G],fun j Z=>?_⟩;have:=af j _ Z (oj au5);simpa using this
   rw[qE,this]
  .have G:ph ks[k]≠nm:=mu G;refine⟨au5,k+1,⟨au5,fun i x aH hx=>?_⟩,au5,ae.sub aA aA⟩;rcases Nat.lt_or_ge i k with aX |aX
   .exact af i x aX hx
   .have:i=k:=av3
    subst this;rw[oj cm] at hx;injection hx with hx
    rw[<-hx];exact G
 .have fe:k=ks.length:=by
   have h:decide ((k:Int) < (ks.length:Int))=false:=h;simp at h;omega
  refine⟨_,_,_,bp,rfl,(show(-1:Int)=qE ks nm from ?_),aA,rfl⟩
  have:vg ks nm=none:=by
   rw[vg,List.findIdx?_eq_none_iff];intro x hx;obtain⟨i,aH,rfl⟩:=List.getElem_of_mem hx;have:=af i _ au5 (oj aH);simpa using this
  rw[qE,this]
theorem tM (p:Nat×bY) (L:dN) (b:Nat):hN (p::L) b=if p.1=b then some p.2 else hN L b:=rfl
def kW (f:Nat->bY->bY) (L:dN):dN:=L.map fun q=>(q.1,f q.1 q.2)
theorem VD (f:Nat->bY->bY) (a:Nat): ∀L:dN,hN (kW f L) a=(hN L a).map (f a)
 | []=>rfl
 |p::L=>by
  show(if p.1=a then some (f p.1 p.2) else hN (kW f L) a)=_;rw[tM]
  split
  .rename_i e;rw[e];rfl
  .exact VD f a L
theorem VE {f g:Nat->bY->bY} {L:dN} (h: ∀p∈L,f p.1 p.2=g p.1 p.2):kW f L=kW g L:=ar1 fun p af=>by rw[h p af]
theorem VF {f g:Nat->bY->bY} {a:Nat} {gp:bY}: ∀{L:dN},(L.map (·.1)).Nodup-> ∀{m:bY},hN L a=some m->g a m=gp->(∀b,b≠a-> ∀m,g b m=f b m)->g9 (kW f L) a gp=kW g L
 | [],_,m,h,_,_=>by cases h
 |p::L,hn,m,h,E,G=>by
  rw[aq4,aq7] at hn;show(if p.1=a then(p.1,gp)::kW f L else(p.1,f p.1 p.2)::g9 (kW f L) a gp)=(p.1,g p.1 p.2)::kW g L;rw[tM] at h
  split at h
  .rename_i e;injection h with h
   rw[if_pos e,<-E,<-h,e]
   congr 1
   refine VE fun q aT=>(G _ (fun ao=>hn.1 ?_) _).symm
   rw[e,<-ao];exact aq6 aT
  .rename_i e;rw[if_neg e,VF hn.2 h E G,G _ e]
theorem alD {ks:List lT} {nm:ay4} (h:qE ks nm < 0):sN ks nm=[]:=by
 unfold sN;unfold qE at h
 cases e:vg ks nm with
 |none=>rfl
 |some i=>rw[e] at h;simp only at h;omega
theorem alE {ks:List lT} {nm:ay4} (h: ¬qE ks nm < 0): ∃(i:Nat) (aH:i < ks.length),qE ks nm=(i:Nat)/\sN ks nm=mj ks[i]:=by
 unfold sN;unfold qE at h⊢
 cases e:vg ks nm with
 |none=>rw[e] at h;simp only at h;omega
 |some i=>
  have E:i < ks.length:=by
   rw[vg,List.findIdx?_eq_some_iff_getElem] at e;exact e.1
  refine⟨i,E,rfl,?_⟩;simp only;rw[oj E]
abbrev sO:=Nat×(aa .str×aa .aL)
def VG (e:sO):ay4:=e.2.1
def m4 (e:sO):Option Nat:=e.2.2
def pU (ks:List lT) (l:List sO) (bF:ay5) (a:Nat) (m:bY):bY:=match l.find? fun e=>decide (m4 e=some a) with
 |some e=>match bF.contains e.1 with
  |true=>m.ln (sN ks (VG e))
  |false=>m
 |none=>m
def pi (p:aa .str×aa .aL):ay4:=p.1
def qF (p:aa .str×aa .aL):Option Nat:=p.2
def yy (ks:List lT) (es:List (aa .str×aa .aL)) (a:Nat) (m:bY):bY:=match es.find? fun p=>decide (qF p=some a) with
 |some p=>m.ln (sN ks (pi p))
 |none=>m
theorem alF {ks:List lT} {l:List sO} {bF:ay5} (h: ∀e∈l,e.1∈bF) (a:Nat) (m:bY):pU ks l bF a m=yy ks (l.map (·.2)) a m:=by
 unfold pU yy;rw[List.find?_map]
 show _=match Option.map (·.2) (l.find? fun e=>decide (m4 e=some a)) with
  |some p=>m.ln (sN ks (pi p))
  |none=>m
 cases e:l.find? fun e=>decide (m4 e=some a) with
 |none=>rfl
 |some x=>
  have:=h x (at8 e);simp[this];rfl
structure lU (es:List (aa .str×aa .aL)) (L:dN) (W:Nat):Prop where
 ex: ∀p∈es,∃a,qF p=some a/\a∈L.map (·.1)
 fN:(es.map qF).Nodup
 yz:(L.map (·.1)).Nodup
 ok: ∀p∈L,e2 p.2
 sP: ∀p∈L,p.2.eU.length<=W
theorem Nb {a:Nat} {m:bY}: ∀{L:dN},hN L a=some m->(a,m)∈L
 | [],h=>by cases h
 |p::L,h=>by
  rw[tM] at h
  split at h
  .rename_i e;injection h with h
   rw[<-e,<-h];exact aq0 ..
  .exact ap2 _ (Nb h)
theorem VH {a:Nat}: ∀{L:dN},a∈L.map (·.1)-> ∃m,hN L a=some m
 | [],h=>by cases h
 |p::L,h=>by
  rw[tM]
  split
  .exact⟨_,rfl⟩
  .rename_i e;rcases ap3.1 h with h |h
   .exact absurd h.symm e
   .exact VH h
theorem alG {l:List sO} (hn:(l.map m4).Nodup) {e:sO} (V:e∈l) {a:Nat} (ha:m4 e=some a):(l.find? fun x=>decide (m4 x=some a))=some e:=by
 cases h:l.find? fun x=>decide (m4 x=some a) with
 |none=>
  have:=List.find?_eq_none.1 h e V;simp[ha] at this
 |some x=>
  have E:=List.find?_some h;have G:=at8 h;have E:m4 x=some a:=ax9
  rw[MY hn G V (E.trans ha.symm)]
abbrev alH (ks:List lT):aY:=[(0,ap 1001),(1,bS lS ks),(11,ap 11)]
abbrev alI (U:Int) (b bV:Nat) (bF:ay5) (l:List sO) (L:dN):aw:=[(1001,.cells [.d (.int .i64 U),.mp 1002]),(1002,.aG (.vZ b .str .aL l bV)),(11,.aG (.v1 b bV bF bV)),(1003,.aG (.bA (eQ L)))]
def yA (bF:ay5) (l:List sO):List sO:=l.filter fun p=> !bF.contains p.1
theorem VI {bF:ay5} {l:List sO} {p:sO} (af:p∈l) (hn:p.1∉bF):(yA (bF++[p.1]) l).length < (yA bF l).length:=by
 have e:yA (bF++[p.1]) l=(yA bF l).filter fun q=> !decide (q.1=p.1):=by
  unfold yA;rw[List.filter_filter];refine List.filter_congr fun q _=>?_
  by_cases e:q.1=p.1 <;>simp[e]
 rw[e];have az:p∈yA bF l:=at5.2 ⟨af,by simp[hn]⟩;exact List.length_filter_lt_length_iff_exists.2 ⟨p,az,au7⟩
theorem alJ (U:Int) (es:List (aa .str×aa .aL)) (L:dN) (W:Nat) (ks:List lT) (h:lU es L W) (d2:W<=1073741824) (ab:ks.length<=1073741824) (hi: ∀k∈ks,(mj k).length<=1073741824):
  Fn Tryz.prog 68 [ap 1001,bS lS ks] (nt 1001 1002 1003 U es L) [] gJ (nt 1001 1002 1003 U es (kW (yy ks es) L)):=by
 refine aU [0] Tryz.func68 ?_;refine bt.eY (de.Qr 1002 rfl) fun x=>?_
 obtain⟨b,l,bV,vh,Nc,bw⟩:=x;refine bz [] (bp) ⟨_,_,fun N=>Qt (d:=11) rfl Tryz.underlying98 rfl rfl N,rfl,?_⟩;show bt _ _ _ _ _ _ _;have O:(l.map (·.1)).Nodup:=Nc.imp fun h=>by omega
 have d0:(l.map m4).Nodup:=by
  have:=h.fN;rw[<-vh,as2] at this;exact this
 refine dQ [1] (X:=ay5) (fun _=>alH ks) (fun bF=>alI U b bV bF l (kW (pU ks l bF) L)) (fun _=>True) (fun bF=>(yA bF l).length) [] trivial ?_ ?_
 .refine ae.sub aA ⟨rfl,rfl,rfl,?_,trivial⟩
  have:kW (pU ks l []) L=L:=by
   have: ∀p:Nat×bY,(p.1,pU ks l [] p.1 p.2)=p:=fun p=>by
    unfold pU
    split <;>rfl
   unfold kW;simp only[this];exact List.map_id' L
  rw[this];rfl
 intro bF _;refine bt.iC eX au8 ?_;refine⟨_,Qx (c:=1002) (r:=11) rfl rfl rfl rfl (fun p af=>bw _ (aq6 af)) (ap0 _),fun v e ay=>?_⟩;rcases ay with⟨p,af,ax,rfl,rfl⟩ |⟨eH,rfl,rfl⟩
 .have AJ:p.2∈es:=by rw[<-vh];exact aq6 af
  obtain⟨a,ha,alK⟩:=h.ex _ AJ;obtain⟨m,az⟩:=VH alK;have k5:=Nb az;have yl:=alG d0 af (a:=a) ha
  have Pe:pU ks l bF a m=m:=by
   unfold pU;rw[yl];simp[ax]
  have mx:hN (kW (pU ks l bF) L) a=some m:=by rw[VD,az,at2,Pe]
  have gO:g9 (kW (pU ks l bF) L) a (m.ln (sN ks (VG p)))=kW (pU ks l (bF++[p.1])) L:=by
   refine VF h.yz az ?_ ?_
   .unfold pU;rw[yl];simp
   .intro dZ dm gp;unfold pU
    cases e:l.find? fun e=>decide (m4 e=some dZ) with
    |none=>rfl
    |some y=>
     have E:m4 y=some dZ:=by simpa using List.find?_some e
     have a2:y.1≠p.1:=fun ao=>by
      have:=MY O (at8 e) af ao;rw[this] at E;exact dm (Option.some.inj (E.symm.trans ha))
     simp[a2]
  have ez:=h.ok _ k5;have Hu:=h.sP _ k5;obtain⟨VJ,yB,pa⟩:=p;have ha:pa=some a:=ha;subst ha;refine⟨_,_,fun N=>Qy (c:=1002) (r:=11) rfl rfl rfl rfl af N,rfl,?_⟩;refine⟨rfl,ar (Fn.aV [(1001,4)] (alC ks yB au5)) ⟨fun G=>?_,fun G=>?_⟩⟩
  .have G:qE ks yB < 0:=gd G;have qs:sN ks yB=[]:=alD G;refine ar (Fn.arg (AE (Vp m [] au7 (by have:=Hu;simp only at this;omega) ez.AH) mx rfl rfl) aA) ⟨bF++[VJ],trivial,VI af ax,ae.sub aA ⟨rfl,rfl,rfl,?_,trivial⟩⟩;rw[<-gO];show _=some (bb.aG (bf.bA (eQ (g9 _ a (m.ln (sN ks yB))))));rw[qs];rfl
  .have G: ¬qE ks yB < 0:=mu G;obtain⟨i,aH,vB,qs⟩:=alE G;refine⟨au5,ks[i],(by rw[show(qE ks yB).toNat=i by omega];exact jv (n:=i) aH),?_⟩;refine ar (AE (Vp m (mj ks[i]) (by have:=hi _ (ar3 aH);omega) (by have:=Hu;simp only at this;omega) ez.AH) mx rfl rfl) ⟨bF++[VJ],trivial,VI af ax,ae.sub aA ⟨rfl,rfl,rfl,?_,trivial⟩⟩;rw[<-gO];show _=some (bb.aG (bf.bA (eQ (g9 _ a (m.ln (sN ks yB))))));rw[qs];rfl
 .refine⟨_,_,_,ae.Qs 1002 rfl,rfl,trivial,⟨rfl,?_,?_,trivial⟩,rfl⟩
  .show some (bb.map .str .aL (l.map (·.2)))=_;rw[vh]
  .show some (bb.aG (bf.bA (eQ (kW (pU ks l bF) L))))=_;rw[VE (g:=yy ks es) fun q _=>by rw[alF eH,vh]]
end
section
theorem HA {b:Nat} {m:bY}: ∀{L:dN},hN L b=some m->g9 L b m=L
 | [],h=>by cases h
 |p::L,h=>by
  rw[tM] at h;show(if p.1=b then(p.1,m)::L else p::g9 L b m)=_
  split at h
  .rename_i e;injection h with h
   rw[if_pos e,<-h]
  .rename_i e;rw[if_neg e,HA h]
theorem alL (a b:ay4):(fW .str (a:aa .str) (b:aa .str)=true)↔a=b:=by
 show yR a b=true↔a=b;unfold yR;exact decide_eq_true_iff
end
end Go.Proofs.YthnboghbhgapcaaGreat
