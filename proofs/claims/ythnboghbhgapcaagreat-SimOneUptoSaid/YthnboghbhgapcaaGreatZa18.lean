/-
A part of the proof of this claim: lemmas, with no condition beyond what each says.
-/
import Derived.Test.YthnboghbhgapcaaGreatZa17
set_option linter.unusedVariables false
set_option linter.unusedSimpArgs false
set_option maxRecDepth 10000
namespace Go.Proofs.YthnboghbhgapcaaGreat
open Go.RowKit Go.Proofs
section
def iu (b:Bool):Nat:=if b=true then 1 else 0
theorem G6 (b:Bool):iu b < 256 ^1:=by cases b <;>decide
theorem ME (b:Bool):Fn Tryz.prog 119 [fI b] [] [] (ae ((iu b:Nat):Int)) []:=by
 refine aW [] Tryz.func119 rfl rfl rfl rfl ?_;refine⟨fun h=>?_,fun h=>?_⟩
 .have h:b=true:=h;subst h;exact aT aH rfl rfl trivial rfl
 .have h:b=false:=h;subst h;exact aT aH rfl rfl trivial rfl
def iv (g5:Bool) (e:bg):List UInt8:=gD e.nm 1++(ez 1 [iu e.on,iu (e.us&&g5)]++gD (encZ e.s e.g e.es) 2)
def nq (g5:Bool) (l:List bg) (nm:List UInt8):List UInt8:=match c2 l nm with
 |some e=>iv g5 e
 |none=>[]
def qy (g5:Bool) (l:List bg):List UInt8:=ez 1 [l.length]++(ia l).flatMap (nq g5 l)
abbrev G7 (g5:Bool) (l:List bg) (r k:Nat):a1:=[(0,ao 1001),(1,fI g5),(5,eM r),(21,bS .str (ia l)),(22,ae ((ia l).length:Nat)),(23,ae (k:Nat))]
abbrev akx (g5:Bool) (l:List bg) (r k:Nat) (nm:List UInt8) (ad:Nat):a1:=(8,bV nm)::(9,dn ad)::G7 g5 l r k
abbrev G8 (l:List bg) (r:Nat) (x:List UInt8):ay:=ej l++[(r,.row 5 .u8 x)]
theorem UW {g5:Bool} {e:bg} (ax:0<=e.s/\e.s<=4096) (a6:1<=e.g/\e.g<=64) (hn:e.nm.length<=64):(iv g5 e).length<=600:=by
 have h:=G4 ax a6 e.es;unfold iv;rw[ap1,ap1,yh,yh,nn];simp;omega
theorem G9 {l:List bg} {nm:List UInt8} (h:nm∈ia l): ∃e,c2 l nm=some e:=by
 unfold ia nf at h;have h:=(List.mergeSort_perm _ _).mem_iff.1 h;rw[Ak] at h;obtain⟨d,J,e⟩:=ar2.1 h
 cases ab:c2 l nm with
 |some e=>exact⟨e,rfl⟩
 |none=>exact absurd (e▸aq6 J) (GE ab)
set_option maxHeartbeats 4000000 in
theorem UX {l:List bg} (h:dR l) (g5:Bool):Fn Tryz.prog 70 [ao 1001,fI g5] (ej l) [] (bS .u8 (qy g5 l)) (ej l):=by
 obtain⟨oU,gb,gc⟩:=j5 C6;obtain⟨L4,wu,wv⟩:=j5 GC;have b6:=h.len;have apo:=L2 l;have x':(dQ l).length=l.length:=by unfold dQ;exact aq3 _
 have aky:=aiu h;have dY:=GZ 1 [l.length] (.inl rfl) (fun n hn=>by simp only[aq0] at hn;omega) au7;have iU:=nn 1 [l.length];refine aW [] Tryz.func70 rfl rfl rfl rfl ?_;refine au (Fn.arg (Fn.aX [(1002,2002)] dY) ⟨rfl,rfl,(show([((dQ l).length:Int)]:List Int)=sF [l.length] by rw[x'];rfl),trivial⟩) ?_;refine au aky ?_;refine dX [6,8] (X:=Nat) (G7 g5 l 2001) (fun k=>G8 l 2001 (ez 1 [l.length]++((ia l).take k).flatMap (nq g5 l))) (fun k=>k<=(ia l).length) (fun k=>(ia l).length - k) 0 (ap7 _) ?_ ?_
 .exact af.trans (af.sub (K':=G7 g5 l 2002 0) (B':=G8 l 2002 (ez 1 [l.length]++((ia l).take 0).flatMap (nq g5 l))) ac ⟨rfl,rfl,rfl,rfl,congrArg (fun l=>some (bd.row _ .u8 l)) (as5 _).symm,trivial⟩) (af.aX 2002 2001 rfl)
 intro k ab;have ab:k<=(ia l).length:=ab;refine⟨fun H=>?_,fun H=>?_⟩
 .have cn:k < (ia l).length:=by simpa using H
  obtain⟨e,V⟩:=G9 (ar3 cn);have eu:=Ms (nq g5 l) cn;have Fq:=pN (L:=ia l) (n:=(k:Nat)) rfl cn;have CJ:nq g5 l (ia l)[k]=iv g5 e:=by unfold nq;rw[V]
  rw[CJ] at eu;obtain⟨q7,o4⟩:=jS V;obtain⟨cf,cM,eb,eA⟩:=h.ok e q7
  have eG:((ez 1 [l.length]++((ia l).take k).flatMap (nq g5 l))).length<=8*600+1:=by
   rw[ap1,iU]
   have E:(((ia l).take k).flatMap (nq g5 l)).length<=((ia l).take k).length*600:=yi (nq g5 l) 600 _ fun nm aA=>by
    obtain⟨b5,gO⟩:=G9 (List.mem_of_mem_take aA);obtain⟨cx,cA,dy,fa⟩:=h.ok b5 (jS gO).1;unfold nq;rw[gO];exact UW cx cA fa
   rw[ap8] at E;have app: [l.length].length*1=1:=rfl;omega
  rw[<-o4] at Fq V;have b9:=h.D q7;have ar:=h.M q7;have z6:=GB (akn e.s e.g e.es cf cM) ar rfl rfl rfl rfl;rw[xz ar] at z6;have mx:=G4 cf cM e.es;have akz:ez 1 [l.length]++((ia l).take (k+1)).flatMap (nq g5 l)=(ez 1 [l.length]++((ia l).take k).flatMap (nq g5 l))++iv g5 e:=by rw[eu,as6]
  generalize ez 1 [l.length]++((ia l).take k).flatMap (nq g5 l)=A at*;have tF:=Df A e.nm 1 (.inl rfl) au5 au5 au5;have gM:=yh e.nm 1
  have At:=yg (A++gD e.nm 1) 1 [iu e.on,iu (e.us&&g5)] (.inl rfl) (fun n hn=>by
   simp only[ap3,List.not_mem_nil,or_false] at hn;rcases hn with rfl |rfl
   .exact G6 _
   .exact G6 _) au7 (by rw[ap1,gM];omega)
  have pp:=nn 1 [iu e.on,iu (e.us&&g5)];have t3:=Df (A++gD e.nm 1++ez 1 [iu e.on,iu (e.us&&g5)]) (encZ e.s e.g e.es) 2 (.inr (.inl rfl)) au5 au5 (by rw[ap1,ap1,gM,pp];simp;omega);have Dm:A++gD e.nm 1++ez 1 [iu e.on,iu (e.us&&g5)]++gD (encZ e.s e.g e.es) 2=A++iv g5 e:=by unfold iv;simp only[as6]
  refine⟨au5,e.nm,Fq,bz [8] (af.sub (K':=akx g5 l 2001 k e.nm e.ad) (B':=G8 l 2001 A) ⟨rfl,(An V),rfl,rfl,rfl,rfl,rfl,rfl,trivial⟩ ac) ?_⟩;refine au (Fn.aX [(1001,2001),(1002,2002)] tF) ?_;refine⟨_,_,fun N=>iY (b:=e.ad) rfl rfl N,rfl,?_⟩;refine⟨_,_,fun N=>jb rfl Tryz.underlying165 rfl rfl gb (by rw[gc];decide) rfl N,rfl,?_⟩;refine⟨_,_,fun N=>k8 (q:=1003) rfl Tryz.underlying4 rfl rfl rfl b9 rfl N,rfl,?_⟩;refine au (ME e.on) ?_;refine⟨_,_,fun N=>iY (b:=e.ad) rfl rfl N,rfl,?_⟩;refine⟨_,_,fun N=>jb rfl Tryz.underlying165 rfl rfl gb (by rw[gc];decide) rfl N,rfl,?_⟩;refine⟨_,_,fun N=>k8 (q:=1003) rfl Tryz.underlying4 rfl rfl rfl b9 rfl N,rfl,?_⟩;refine⟨fun a8=>?MF,fun a8=>?MG⟩
  case' MF=>
   have a8:e.us=true:=a8;rw[a8,Bool.true_and] at At t3 Dm pp;refine au (ME g5) ?_
  case' MG=>
   have a8:e.us=false:=a8;rw[a8,Bool.false_and] at At t3 Dm pp;refine au (Fn.arg (ME false) ac) ?_
  all_goals
   refine au (Fn.aX [(1001,2002),(1002,2003)] At) ?_;refine⟨eC au8,bz [] (aH) ?_⟩;refine⟨_,_,fun N=>iY (b:=e.ad) rfl rfl N,rfl,?_⟩;refine⟨_,_,fun N=>jb rfl Tryz.underlying165 rfl rfl wu (by rw[wv];decide) rfl N,rfl,?_⟩;refine⟨_,_,fun N=>k8 (q:=1003) rfl Tryz.underlying66 rfl rfl rfl b9 rfl N,rfl,?_⟩;refine au z6 ?_;refine au (Fn.aX [(1001,2003),(1002,2004)] t3) ?_;refine⟨au5,k+1,cn,au5,?_⟩;exact af.trans (af.sub (K':=G7 g5 l 2004 (k+1)) (B':=G8 l 2004 (ez 1 [l.length]++((ia l).take (k+1)).flatMap (nq g5 l))) ac ⟨rfl,rfl,rfl,rfl,congrArg (fun l=>some (bd.row _ .u8 l)) (Dm.trans akz.symm),trivial⟩) (af.aX 2004 2001 rfl)
 .have cn:k=(ia l).length:=by
   have: ¬k < (ia l).length:=by simpa using H
   omega
  subst cn;rw[aq9];exact⟨_,_,_,af.dV 2001 rfl,rfl,rfl,ac,rfl⟩
end
section
theorem UY (es:List (Z ak×Z ak)): ∀(n:Nat) (aB:Int),b0 (aJ:=ak) (aL:=ak) (hj es n) aB=if(0<=aB/\aB < (n:Int))/\iG es aB=true then some (1:Int) else none
 |0,aB=>by
  rw[if_neg au5];rfl
 |n+1,aB=>by
  have h:=UY es n aB;unfold hj
  by_cases ag:iG es (n:Int)=true
  .rw[if_pos ag];obtain⟨dY,cR⟩:=zr (aJ:=ak) (aL:=ak) q' (n:Int) (1:Int) (hj es n)
   by_cases e:aB=(n:Int)
   .subst e;rw[if_pos ⟨au5,ag⟩];exact dY
   .rw[cR aB e,h]
    by_cases q:(0<=aB/\aB < (n:Int))/\iG es aB=true
    .rw[if_pos q,if_pos ⟨au5,q.2⟩]
    .rw[if_neg q,if_neg (fun bl=>q ⟨au5,bl.2⟩)]
  .rw[if_neg ag,h]
   by_cases q:(0<=aB/\aB < (n:Int))/\iG es aB=true
   .rw[if_pos q,if_pos ⟨au5,q.2⟩]
   .rw[if_neg q,if_neg (fun bl=>by
     by_cases e:aB=(n:Int)
     .subst e;exact ag bl.2
     .exact q ⟨au5,bl.2⟩)]
theorem UZ {s g:Int} (ax:0<=s/\s<=4096) (a6:1<=g/\g<=64) {es:List (Z ak×Z ak)} (bb:j9 s g es) (aB:Int):iG (hj es (8*fl s g)) aB=iG es aB:=by
 have eH:=G3 ax a6;have h:=UY es (8*fl s g) aB;have aR:=bb aB;show CT ((b0 (aJ:=ak) (aL:=ak) (hj es (8*fl s g)) aB).getD (cK ak))=_;rw[h]
 cases ag:iG es aB
 .rw[if_neg (fun bl=>by cases bl.2)];rfl
 .have aR:=aR ag;rw[if_pos ⟨au5,rfl⟩];rfl
theorem U0 {es ek:List (Z ak×Z ak)} (h: ∀aB,iG ek aB=iG es aB) (aB:Int): ∀k,ib ek aB k=ib es aB k
 |0=>rfl
 |k+1=>by unfold ib;rw[h,U0 h aB k]
theorem U1 {es ek:List (Z ak×Z ak)} (h: ∀aB,iG ek aB=iG es aB): ∀n,o7 ek n=o7 es n
 |0=>rfl
 |n+1=>by unfold o7;rw[U0 h,U1 h n]
theorem akA {s g:Int} (ax:0<=s/\s<=4096) (a6:1<=g/\g<=64) {es:List (Z ak×Z ak)} (bb:j9 s g es):encZ s g (hj es (8*fl s g))=encZ s g es:=by
 unfold encZ;rw[U1 (UZ ax a6 bb)]
theorem MH (es:List (Z ak×Z ak)): ∀n,eZ (hj es n)
 |0=>List.Pairwise.nil
 |n+1=>by
  unfold hj
  split
  .exact eZ.put q' (MH es n)
  .exact MH es n
end
section
def hJ (l:List bg):List bg:=(ia l).filterMap (c2 l)
theorem U2 (c:Bool) (l:List bg): ∀N:List (List UInt8),(∀nm∈N,∃e,c2 l nm=some e)->N.flatMap (nq c l)=(N.filterMap (c2 l)).flatMap (iv c)
 | [],_=>rfl
 |nm::N,h=>by
  obtain⟨e,V⟩:=h nm (aq1 ..);have E:nq c l nm=iv c e:=by unfold nq;rw[V]
  rw[at7,U2 c l N (fun x hx=>h x (ap2 _ hx)),E,List.filterMap_cons,V];rfl
theorem MI (c:Bool) (l:List bg):qy c l=ez 1 [l.length]++(hJ l).flatMap (iv c):=by
 unfold qy hJ;rw[U2 c l _ fun nm h=>G9 h]
theorem U3 (l:List bg): ∀N:List (List UInt8),(∀nm∈N,∃e,c2 l nm=some e)->(N.filterMap (c2 l)).map (·.nm)=N
 | [],_=>rfl
 |nm::N,h=>by
  obtain⟨e,V⟩:=h nm (aq1 ..);rw[List.filterMap_cons,V];show e.nm::(N.filterMap (c2 l)).map (·.nm)=_;rw[U3 l N (fun x hx=>h x (ap2 _ hx)),(jS V).2]
theorem MJ (l:List bg):(hJ l).map (·.nm)=ia l:=U3 l _ fun nm h=>G9 h
theorem akB (l:List bg):(hJ l).length=l.length:=by
 rw[<-L2 l,<-MJ l,aq3]
theorem G' {l:List bg} {e:bg} (h:e∈hJ l):e∈l:=by
 obtain⟨nm,_,G⟩:=List.mem_filterMap.1 h;exact(jS G).1
abbrev Au:Type:=List UInt8×Bool×Bool×Int×Int×List (Z ak×Z ak)
def o8 (e:bg):Au:=(e.nm,e.on,e.us,e.s,e.g,e.es)
def qz (e:bg):Au:=(e.nm,e.on,false,e.s,e.g,hj e.es (8*fl e.s e.g))
def Ha (c:Bool) (p:Au):List UInt8:=gD p.1 1++(ez 1 [iu p.2.1,iu (p.2.2.1&&c)]++gD (encZ p.2.2.2.1 p.2.2.2.2.1 p.2.2.2.2.2) 2)
theorem akC (c:Bool) (e:bg):Ha c (o8 e)=iv c e:=rfl
theorem akD {l:List bg} (h:dR l) (bb: ∀e∈l,j9 e.s e.g e.es) {e:bg} (V:e∈l):Ha true (qz e)=iv false e:=by
 obtain⟨cf,cM,eb,eA⟩:=h.ok e V;unfold Ha qz iv;show gD e.nm 1++(ez 1 [iu e.on,iu (false&&true)]++gD (encZ e.s e.g (hj e.es (8*fl e.s e.g))) 2)=_;rw[akA cf cM (bb e V),Bool.and_false];rfl
theorem U4 {c bX:Bool} {g:bg->Au}: ∀{a b:List bg},a.map o8=b.map g->(∀e∈b,Ha c (g e)=iv bX e)->a.flatMap (iv c)=b.flatMap (iv bX)
 | [],[],_,_=>rfl
 | [],_::_,h,_=>by cases h
 |_::_,[],h,_=>by cases h
 |x::a,y::b,h,q=>by
  injection h with E G
  rw[at7,at7,U4 G (fun e V=>q e (ap2 _ V)),<-akC c x,E,q y (aq1 ..)]
theorem U5 {l:List bg} (h:dR l) {e:bg} (V:e∈l):c2 l e.nm=some e:=by
 cases ab:c2 l e.nm with
 |none=>exact absurd (aq6 V) (GE ab)
 |some b5=>
  obtain⟨E,G⟩:=jS ab;rw[uU h.ik E V G]
theorem U6 {l:List bg} (h:dR l): ∀N:List bg,(∀e∈N,e∈l)->(N.map (·.nm)).filterMap (c2 l)=N
 | [],_=>rfl
 |e::N,q=>by
  rw[aq4,List.filterMap_cons,U5 h (q e (aq1 ..)),U6 h N fun x hx=>q x (ap2 _ hx)]
theorem akE {l l':List bg} (h:dR l) (h':dR l') (bb: ∀e∈l,j9 e.s e.g e.es) (ag:l'.map o8=(hJ l).map qz):qy true l'=qy false l:=by
 have hn:l'.map (·.nm)=ia l:=by
  rw[<-MJ l];have E:=congrArg (List.map fun p:Au=>p.1) ag;rw[as2,as2] at E;exact E
 have J:ia l'=l'.map (·.nm):=by
  rw[hn];unfold ia nf;rw[Ak l',hn];unfold ia nf;exact Go.mergeSort_of_perm (List.mergeSort_perm _ _)
 have ax:hJ l'=l':=by
  unfold hJ;rw[J];exact U6 h' l' fun e V=>V
 have aq:l'.length=l.length:=by
  have:=congrArg List.length hn
  rwa[aq3,L2] at this
 rw[MI,MI,ax,aq,U4 ag fun e V=>akD h bb (G' V)]
end
section
abbrev gU:bx:=.arr 16 .u8
abbrev o9:bx:=.bR (.int .i64) gU
structure bY where
 n:Int
 U:Int
 lM:List (Z ak×Z gU)
 bF:List (Z ak×Z gU)
 eV:List (Z o9)
abbrev iH (c d e f:Nat) (m:bY):ay:=[(c,.cells [.d (.int .i64 m.n),.d (.int .i64 m.U),.mp d,.mp e,.own f]),(d,.map ak gU m.lM),(e,.map ak gU m.bF),(f,.row 243 o9 m.eV)]
def g6 (m:bY):bh:=.iX 1001 (iH 1001 1002 1003 1004 m)
def pb (n:Int):Bool:=decide (0<=n)&&decide (n<=4096)
theorem akF (n:Int):Fn Tryz.prog 219 [ae n] [] [] (fI (pb n)) []:=by
 refine aW [] Tryz.func219 rfl rfl rfl rfl ?_;refine⟨fun h=>?_,fun h=>?_⟩
 .exact aT aH rfl (show decide (n<=4096)=pb n by simp at h;simp[pb,h]) trivial rfl
 .exact aT aH rfl (show false=pb n by simp at h;simp[pb];omega) trivial rfl
theorem akG (n r:Int) (h:(pb n&&decide (0<=r))=true):Fn Tryz.prog 197 [ae n,ae r] [] [1001] (.ce [.one (.ptr 1001 0),dw 0]) [(1001,.aG (g6 ⟨n,r,[],[],[]⟩))]:=by
 refine aW [] Tryz.func197 rfl rfl rfl rfl ?_;refine au (akF n) ?_;simp only[vj,ar5] at h;refine⟨fun E=>?_,fun E=>?_⟩
 .exfalso;simp[h.1] at E
 refine⟨fun G=>?_,fun G=>?_⟩
 .exfalso;simp at G;omega
 refine⟨rfl,rfl,rfl,?_⟩;exact⟨_,_,_,(af.vG 18 4 1004 243 o9 rfl rfl rfl).trans ((af.aX 18 1001 rfl).trans ((af.aX 15 1002 rfl).trans ((af.aX 16 1003 rfl).trans (af.close 1001 (iH 1001 1002 1003 1004 ⟨n,r,[],[],[]⟩) (o:=g6 ⟨n,r,[],[],[]⟩) ac rfl fun _ _ _ _ h=>h)))),rfl,ac,ac,rfl⟩
end
section
theorem U7 (es:List (Z ak×Z gU)):Fn Tryz.prog 162 [.c (.one (.mp 1001))] [(1001,.map ak gU es)] [2001] (.c (.one (.mp 2001))) [(1001,.map ak gU es),(2001,.map ak gU es)]:=
 Tq Tryz.acI au8 es
end
section
abbrev Av:List Nat:=[1002,1003,1004]
theorem Dn {f:FuncId} {args:List aQ} {m gm:bY} {aK aP:ay} {res:aQ} {bf:List Nat} (h:Fn Tryz.prog f args (iH 1001 1002 1003 1004 m++aK) bf res (iH 1001 1002 1003 1004 gm++aP))
  (E:nO 1001 Av args (iH 1001 1002 1003 1004 m) aK bf []=true) (G:nP 1001 (mE Av bf []) res (iH 1001 1002 1003 1004 gm) aP=true):
  Fn Tryz.prog f args ((1001,.aG (g6 m))::aK) [] res ((1001,.aG (g6 gm))::aP):=
 (cv.close (bp:=iH 1001 1002 1003 1004 m) (dv:=fun _:Unit=>iH 1001 1002 1003 1004 gm) (aP:=fun _=>aP) (o:=g6 m) (o':=fun _=>g6 gm) Av h.x (fun _ _ _ _ h=>h) (fun _ _ _ _ _ h=>h) E (fun _=>G)).fn
def bY.kz (m:bY) (at_ a2:Int):Bool:=decide (0<=at_)&&decide (a2<=m.n)&&decide (at_<=m.n - a2)
theorem akH (m:bY):Fn Tryz.prog 216 [ao 1001] [(1001,.aG (g6 m))] [] (ae m.n) [(1001,.aG (g6 m))]:=by
 refine Dn (aK:=[]) (aP:=[]) (bf:=[]) ?_ rfl rfl;refine aW [] Tryz.func216 rfl rfl rfl rfl ?_;exact aT aH rfl rfl ac rfl
theorem U8 (m:bY):Fn Tryz.prog 252 [ao 1001] (iH 1001 1002 1003 1004 m) [] (ae (m.bF.length:Nat)) (iH 1001 1002 1003 1004 m):=by
 refine aW [] Tryz.func252 rfl rfl rfl rfl ?_;exact aT aH rfl rfl ac rfl
theorem MK (m:bY) (at_ a2:Int) (aw:0<=a2) (E:0<=m.n) (G:m.n<=4096):Fn Tryz.prog 250 [ao 1001,ae at_,ae a2] (iH 1001 1002 1003 1004 m) [] (fI (m.kz at_ a2)) (iH 1001 1002 1003 1004 m):=by
 refine aW [] Tryz.func250 rfl rfl rfl rfl ?_;refine⟨fun h=>?_,fun h=>?_⟩
 .have h:decide (0<=at_)=true:=h;refine⟨fun al=>?_,fun al=>?_⟩
  .have al:decide (a2<=m.n)=true:=al;have aZ:a2<=m.n:=by simpa using al
   refine⟨au5,?_⟩;exact aT aH rfl (show decide (at_<=m.n - a2)=m.kz at_ a2 by rw[bY.kz,h,al];rfl) ac rfl
  .have al:decide (a2<=m.n)=false:=al;exact aT aH rfl (show false=m.kz at_ a2 by rw[bY.kz,h,al];rfl) ac rfl
 .have h:decide (0<=at_)=false:=h;exact aT aH rfl (show false=m.kz at_ a2 by rw[bY.kz,h];rfl) ac rfl
def bY.ol (m:bY):bY:={m with lM:=m.bF,eV:=[]}
theorem akI (m:bY):Fn Tryz.prog 221 [ao 1001] (iH 1001 1002 1003 1004 m) [2001,2002] gI (iH 1001 2001 1003 2002 m.ol):=by
 refine aW [] Tryz.func221 rfl rfl rfl rfl ?_;refine au (Fn.aX [(1001,1003)] (U7 m.bF)) ?_;exact⟨_,_,_,af.vG 1001 4 2002 243 o9 rfl rfl rfl,rfl,trivial,ac,rfl⟩
end
section
theorem ML {f:FuncId} {args:List aQ} {m gm:bY} {aK aP:ay} {res:aQ} {bf:List Nat} {d e g:Nat} (l:List (Nat×Nat)) (h:Fn Tryz.prog f args (iH 1001 1002 1003 1004 m++aK) bf res (iH 1001 d e g gm++aP))
  (aq:en (k5 l []) 1001=1001/\en (k5 l []) d=1002/\en (k5 l []) e=1003/\en (k5 l []) g=1004)
  (E:nO 1001 Av args (iH 1001 1002 1003 1004 m) aK bf []=true) (G:nP 1001 (mE Av bf []) res (iH 1001 d e g gm) aP=true):
  Fn Tryz.prog f args ((1001,.aG (g6 m))::aK) [] res ((1001,.aG (g6 gm))::aP):=
 (cv.close (bp:=iH 1001 1002 1003 1004 m) (dv:=fun _:Unit=>iH 1001 d e g gm) (aP:=fun _=>aP) (o:=g6 m) (o':=fun _=>g6 gm) Av h.x (fun _ _ _ _ h=>h) (fun _ I F w p bl=>by
  have:=iA.aX l bl;obtain⟨aj,ap,bm,c0⟩:=aq;simp only[iH,j1,aj,ap,bm,c0,bd.en,zk,bC.en] at this;exact this) E (fun _=>G)).fn
theorem akJ (m:bY):Fn Tryz.prog 221 [ao 1001] [(1001,.aG (g6 m))] [] gI [(1001,.aG (g6 m.ol))]:=
 ML (aK:=[]) (aP:=[]) [(2001,1002),(2002,1004)] (akI m) ⟨rfl,rfl,rfl,rfl⟩ rfl rfl
def yl (l:List Int) (v:Int):Int:=match l.idxOf? v with
 |some i=>(i:Nat)
 |none=> -1
theorem akK (l:List Int) (v:Int) (aq:l.length<=4294967296):Fn Tryz.prog 191 [bS ak l,ae v] [] [] (ae (yl l v)) []:=by
 refine aW [] Tryz.func191 rfl rfl rfl rfl ?_;refine dX [] (X:=Nat) (fun k=>[(0,bS ak l),(1,ae v),(7,ae (l.length:Nat)),(8,ae (k:Nat))]) (fun _=>[]) (fun k=>k<=l.length/\ ∀(i:Nat),i < k->l[i]? ≠some v) (fun k=>l.length - k) 0 ⟨ap7 _,fun i h=>absurd h (au3 _)⟩ ?_ ?_
 .exact af.sub ac trivial
 intro k ⟨ab,ag⟩;refine⟨fun h=>?_,fun h=>?_⟩
 .have cn:k < l.length:=by
   have h:decide ((k:Int) < (l.length:Int))=true:=h;simpa using h
  refine⟨au5,l[k],jv (n:=k) cn,fun G=>?_,fun G=>?_⟩
  .have G:v=l[k]:=gd G;refine⟨_,_,_,aH,rfl,(show((k:Nat):Int)=yl l v from ?_),trivial,rfl⟩
   have:l.idxOf? v=some k:=by
    rw[List.idxOf?_eq_some_iff];refine⟨cn,by simp[G],fun j aa=>?_⟩;have:=ag j aa;rw[oj au5] at this;simpa using this
   rw[yl,this]
  .have G:v≠l[k]:=mu G;refine⟨au5,k+1,⟨au5,fun i aI=>?_⟩,au5,af.sub ac trivial⟩;rcases Nat.lt_or_ge i k with aZ |aZ
   .exact ag i aZ
   .have:i=k:=by omega
    subst this;rw[oj cn];intro e;injection e with e
    exact G e.symm
 .have h:decide ((k:Int) < (l.length:Int))=false:=h;have fd:k=l.length:=by simp at h;omega
  refine⟨_,_,_,aH,rfl,(show(-1:Int)=yl l v from ?_),trivial,rfl⟩
  have:l.idxOf? v=none:=by
   rw[List.idxOf?_eq_none_iff];intro aA;obtain⟨i,aI,e⟩:=List.getElem_of_mem aA;have:=ag i au5;rw[oj aI] at this;exact this (by rw[e])
  rw[yl,this]
theorem akL (l:List Int) (v:Int) (aq:l.length<=4294967296):Fn Tryz.prog 161 [bS ak l,ae v] [] [] (fI (l.contains v)) []:=by
 refine aW [] Tryz.func161 rfl rfl rfl rfl ?_;refine au (akK l v aq) ?_;refine⟨_,_,_,aH,rfl,(show decide (0<=yl l v)=l.contains v from ?_),trivial,rfl⟩;unfold yl
 cases h:l.idxOf? v with
 |none=>
  rw[List.idxOf?_eq_none_iff] at h;simp[h]
 |some i=>
  obtain⟨aI,e,_⟩:=List.idxOf?_eq_some_iff.1 h
  have:v∈l:=by
   have:=ar3 aI
   rwa[show l[i]=v by simpa using e] at this
  simp[this]
end
section
abbrev akM (x y:List UInt8) (i:Nat):a1:=[(0,bS .u8 x),(1,bS .u8 y),(12,ae (x.length:Nat)),(13,ae (i:Nat))]
theorem akN {x y:List UInt8} {i:Nat} (hx:i < x.length) (aC:i < y.length) (h:x.take i=y.take i) (V:x[i]=y[i]):x.take (i+1)=y.take (i+1):=by
 rw[as1 hx,as1 aC,h,V]
theorem U9 (x y:List UInt8) (hx:x.length<=4294967296) (aC:y.length<=4294967296):Fn Tryz.prog 115 [bS .u8 x,bS .u8 y] [] [] (fI (decide (x=y))) []:=by
 refine aW [] Tryz.func115 rfl rfl rfl rfl ?_;refine⟨fun h=>?_,fun h=>?_⟩
 .have h:(!decide ((x.length:Int)=(y.length:Nat)))=true:=h;have ba:x≠y:=fun e=>by rw[e] at h;simp at h
  rw[ar8 ba];exact aT aH rfl rfl trivial rfl
 have h:(!decide ((x.length:Int)=(y.length:Nat)))=false:=h;have aq:x.length=y.length:=by simp at h;omega
 refine dX [] (X:=Nat) (akM x y) (fun _=>[]) (fun i=>i<=x.length/\x.take i=y.take i) (fun i=>x.length - i) 0 ⟨ap7 _,rfl⟩ ?_ ?_
 .exact af.sub ac trivial
 rintro i ⟨aI,cr⟩;refine⟨fun G=>?_,fun G=>?_⟩
 .have G:decide ((i:Int) < (x.length:Int))=true:=G;have dW:i < x.length:=by simpa using G
  have pL:i < y.length:=by omega
  refine⟨au5,x[i],jv (n:=i) dW,au5,y[i],jv (n:=i) pL,rfl,fun al=>?_,fun al=>?_⟩
  .have al:(!decide ((UInt8.toNat x[i]:Int)=(UInt8.toNat y[i]:Nat)))=true:=al
   have ba:x≠y:=fun e=>by
    subst e;simp at al
   rw[ar8 ba];exact aT aH rfl rfl trivial rfl
  .have al:(!decide ((UInt8.toNat x[i]:Int)=(UInt8.toNat y[i]:Nat)))=false:=al
   have V:x[i]=y[i]:=by
    have aZ:(UInt8.toNat x[i]:Int)=(UInt8.toNat y[i]:Nat):=by simpa using al
    exact UInt8.toNat_inj.1 au5
   exact⟨au5,i+1,⟨au5,akN dW pL cr V⟩,au5,af.sub ac trivial⟩
 .have G:decide ((i:Int) < (x.length:Int))=false:=G;have dW:i=x.length:=by simp at G;omega
  subst dW
  have V:x=y:=by
   rw[aq9] at cr;rw[cr,aq,aq9]
  rw[aq2 V];exact aT aH rfl rfl trivial rfl
end
section
structure u2 (e:bg):Prop where
 ok:n3 e.s e.g=true
 fS:j9 e.s e.g e.es
 nm:gp e.nm=true
abbrev akO (l:List bg) (k:Nat):a1:=[(0,bS .u8 (qy false l)),(4,ao 1001),(5,ao 3001),(13,ae (l.length:Nat)),(14,ae (k:Nat))]
abbrev akP (l':List bg) (x:List UInt8):ay:=[(1001,.cells [.mp 1002]),(1002,.map .str .aM (dQ l')),(1003,.aG (.bA (jR l'))),(1004,.aG (.bA (jC l'))),(3001,.cells [.d (.ck .u8 x),.d (.int .i64 0)])]
structure akQ (l:List bg) (p:Nat×List bg):Prop where
 k:p.1<=l.length
 ok:dR p.2
 Hb:p.2.map o8=((hJ l).take p.1).map qz
theorem U' {o o':bh} {b:Nat}: ∀{L:List (Nat×bh)},eg L b=some o->eg (e5 L b o') b=some o'
 | [],h=>by cases h
 |(c,x)::L,h=>by
  by_cases e:c=b
  .subst e;simp[e5,eg]
  .have G:eg L b=some o:=by simpa[eg,e] using h
   have al:=U' (o':=o') G;simpa[e5,eg,e] using al
theorem Va {o:bh}: ∀{L:List bg} {n n':bg},n.ad∉L.map (·.ad)->n'.ad=n.ad->e5 (e5 (jR (L++[n])) n.ad o) n.ad (qs n'.nm n'.on n'.us n'.dp)=jR (L++[n'])
 | [],n,n',_,e=>by simp[jR,e5,e]
 |d::L,n,n',h,e=>by
  have E: ¬d.ad=n.ad:=fun e=>h (by rw[<-e];exact aq1 ..)
  have G:=Va (o:=o) (L:=L) (n:=n) (n':=n') (fun bl=>h (ap2 _ bl)) e;simpa[jR,e5,E] using G
theorem dR.od {L:List bg} {n n':bg} (h:dR (L++[n])) (E:n'.nm=n.nm) (G:n'.ad=n.ad) (al:n'.dp=n.dp) (aZ:n'.s=n.s) (bK:n'.g=n.g) (fD:n'.es=n.es):dR (L++[n']):=by
 refine⟨by have:=h.ik;simpa[E] using this,by have:=h.lf;simpa[G] using this,by have:=h.uT;simpa[al] using this,fun e V=>?_,by have:=h.len;simpa using this⟩;rcases aq8.1 V with V |V
 .exact h.ok e (aq8.2 (.inl V))
 .rw[aq0] at V;subst V;rw[E,aZ,bK,fD];exact h.ok n (aq8.2 (.inr (aq0.2 rfl)))
set_option maxHeartbeats 4000000 in
theorem akR {l:List bg} (h:dR l) (aY: ∀e∈l,u2 e):cv Tryz.prog 69 [bS .u8 (qy false l)] [] [1001,1002,1003,1004] (X:={l':List bg//dR l'/\l'.map o8=(hJ l).map qz}) (fun _=>.ce [.one (.ptr 1001 0),dw 0]) (fun p=>ej p.1):=by
 obtain⟨oU,gb,gc⟩:=j5 C6;have b6:=h.len;have ho:=akB l
 have apq:((hJ l).flatMap (iv false)).length<=8*600:=by
  have E:=yi (iv false) 600 (hJ l) fun e V=>by
   obtain⟨cx,cA,dy,fa⟩:=h.ok e (G' V);exact UW cx cA fa
  omega
 have Do:=MI false l
 have apr:(qy false l).length<=5000:=by
  rw[Do,ap1,nn];simp only[List.length_singleton];omega
 have fp:=G0 (qy false l) au5;have ky:=o5 (ea l.length 1++(hJ l).flatMap (iv false),0) 1 (.inl rfl);rw[o6 au5] at ky
 have akS:ea l.length 1++(hJ l).flatMap (iv false)=qy false l:=by
  rw[Do];unfold ez;simp
 rw[akS] at ky;refine hD [7,11] Tryz.func69 rfl rfl rfl rfl ?_;refine au TC ?_;refine au (Fn.aX [(1001,3001)] fp) ?_;refine au (Fn.aX [(1001,3001)] ky) ?_;refine dX [7] (X:=Nat×List bg) (fun p=>akO l p.1) (fun p=>akP p.2 (((hJ l).drop p.1).flatMap (iv false))) (akQ l) (fun p=>l.length - p.1) (0,[]) ⟨ap7 _,?_,rfl⟩ ?_ ?_
 .exact dR.nil
 .exact af.sub ac ac
 rintro⟨k,l'⟩ ag;have ab:k<=l.length:=ag.k;refine⟨fun H=>?_,fun H=>?_⟩
 .have H:decide ((k:Int) < (l.length:Int))=true:=H;have H:=gd H;have cn:k < (hJ l).length:=by omega
  have akT:k+1<=l.length:=by omega
  obtain⟨e,V⟩: ∃e,e=(hJ l)[k]:=⟨_,rfl⟩;have q7:e∈l:=G' (V▸ar3 cn);obtain⟨cf,cM,eb,eA⟩:=h.ok e q7;have MM:=aY e q7
  have er:((hJ l).drop k).flatMap (iv false)=iv false e++((hJ l).drop (k+1)).flatMap (iv false):=by
   rw[List.drop_eq_getElem_cons cn,at7,V]
  generalize fp:((hJ l).drop (k+1)).flatMap (iv false)=R at*;have tF:=Di (iv false e++R,0) 1 (.inl rfl);have tz:=G6 e.on;have mx:=G4 cf cM e.es
  have aj:iv false e++R=gD e.nm 1++(ea (iu e.on) 1++(ea (iu (e.us&&false)) 1++(gD (encZ e.s e.g e.es) 2++R))):=by
   unfold iv ez;simp[as6]
  rw[<-er] at tF;have aj:=er.trans aj;rw[aj] at tF;rw[Dj au5] at tF;rw[<-aj] at tF;have At:=o5 (ea (iu e.on) 1++(ea (iu (e.us&&false)) 1++(gD (encZ e.s e.g e.es) 2++R)),0) 1 (.inl rfl);rw[o6 tz] at At;have t3:=o5 (ea (iu (e.us&&false)) 1++(gD (encZ e.s e.g e.es) 2++R),0) 1 (.inl rfl);rw[o6 (G6 _)] at t3;have t4:=Di (gD (encZ e.s e.g e.es) 2++R,0) 2 (.inr (.inl rfl));rw[Dj au5] at t4;have akU:=aks e.s e.g e.es MM.ok MM.fS;refine au (Fn.aX [(1001,3001)] tF) ?_;refine au (Fn.aX [(1001,3001)] At) ?_;refine au (Fn.aX [(1001,3001)] t3) ?_;refine⟨rfl,au (Fn.aX [(1001,3001)] t4) ?_⟩;refine⟨(show(encZ e.s e.g e.es).length<=4294967296 by omega),au (Fn.aX [(2001,6001),(2002,6002)] akU) ?_⟩;show bt _ _ _ _ _ _ _
  have akV:l'.map (·.nm)=((hJ l).take k).map (·.nm):=by
   have E:=congrArg (List.map fun p:Au=>p.1) ag.Hb;rw[as2,as2] at E;exact E
  have d0:((hJ l).map (·.nm)).Nodup:=by
   rw[MJ];unfold ia nf;rw[(List.mergeSort_perm _ _).nodup_iff,Ak];exact h.ik
  have f4:l'.length=k:=by
   have:=congrArg List.length ag.Hb;rw[aq3,aq3,ap8] at this;show l'.length=k;have Fy:(k,l').snd.length=min (k,l').fst (hJ l).length:=this;have aps:l'.length=min k (hJ l).length:=Fy;omega
  have e4:c2 l' e.nm=none:=by
   cases akW:c2 l' e.nm with
   |none=>rfl
   |some x=>
    exfalso;obtain⟨g1,g2⟩:=jS akW;have cX:e.nm∈l'.map (·.nm):=g2▸aq6 g1;rw[akV] at cX;rw[<-List.take_append_drop k (hJ l),List.drop_eq_getElem_cons cn,<-V,as3,aq4] at d0;exact(List.nodup_append.1 d0).2.2 _ cX _ (aq1 ..) rfl
  have qt:=TJ ag.ok e.nm au5 MM.nm e4 (by show l'.length < 8;omega) e.s e.g (hj e.es (8*fl e.s e.g)) ⟨cf,cM,MH _ _⟩;refine bt.h3 eN au8 ?_;refine da ?_;refine iE (cv.aX [(2001,6001),(2002,6002)] qt) fun g=>?_
  refine da ?_;obtain⟨⟨ad,dp⟩,nL⟩:=g;have sB:=An (U5 nL (e:=⟨e.nm,ad,dp,true,true,e.s,e.g,hj e.es (8*fl e.s e.g)⟩) au7);refine⟨_,_,fun N=>iY (b:=ad) rfl (by exact congrArg (fun o=>aQ.c (.one (.d (.aM o)))) sB) N,rfl,?_⟩;have Hc:=nL.D (e:=⟨e.nm,ad,dp,true,true,e.s,e.g,hj e.es (8*fl e.s e.g)⟩) au7;refine⟨_,_,fun N=>jb rfl Tryz.underlying165 rfl rfl gb (by rw[gc];decide) rfl N,rfl,?_⟩;refine⟨_,_,fun N=>zu (q:=1003) (b:=ad) (j:=1) (y:=.bool (decide (((iu e.on:Nat):Int)=1))) (l:=Aj e.nm true true dp) (h':=fun _=>rfl) rfl gb gc rfl rfl rfl Hc (show 1 < 4 by decide) L3 N,rfl,?_⟩;refine⟨_,_,fun N=>iY (b:=ad) rfl (by exact congrArg (fun o=>aQ.c (.one (.d (.aM o)))) sB) N,rfl,?_⟩;refine⟨_,_,fun N=>jb rfl Tryz.underlying165 rfl rfl gb (by rw[gc];decide) rfl N,rfl,?_⟩;have akX:eg (e5 (jR (l'++[⟨e.nm,ad,dp,true,true,e.s,e.g,hj e.es (8*fl e.s e.g)⟩])) ad (qs e.nm (decide (((iu e.on:Nat):Int)=1)) true dp)) ad=some (qs e.nm (decide (((iu e.on:Nat):Int)=1)) true dp):=U' Hc;refine⟨_,_,fun N=>zu (q:=1003) (b:=ad) (j:=2) (y:=.bool (decide (((iu (e.us&&false):Nat):Int)=1))) (l:=Aj e.nm (decide (((iu e.on:Nat):Int)=1)) true dp) (h':=fun _=>rfl) rfl gb gc rfl rfl rfl akX (show 2 < 4 by decide) L3 N,rfl,?_⟩;refine⟨eC au8,?_⟩;have u3:decide (((iu e.on:Nat):Int)=1)=e.on:=by cases e.on <;>rfl
  have ua:decide (((iu (e.us&&false):Nat):Int)=1)=false:=by cases e.us <;>rfl
  have Hd:ad∉l'.map (·.ad):=by
   have E:=nL.lf;rw[as3] at E;exact fun h=>(List.nodup_append.1 E).2.2 _ h _ (aq1 ..) rfl
  have lu:=Va (L:=l') (n:=⟨e.nm,ad,dp,true,true,e.s,e.g,hj e.es (8*fl e.s e.g)⟩) (n':=⟨e.nm,ad,dp,e.on,false,e.s,e.g,hj e.es (8*fl e.s e.g)⟩) (o:=qs e.nm e.on true dp) Hd rfl
  have ul:dQ (l'++[⟨e.nm,ad,dp,true,true,e.s,e.g,hj e.es (8*fl e.s e.g)⟩])=dQ (l'++[⟨e.nm,ad,dp,e.on,false,e.s,e.g,hj e.es (8*fl e.s e.g)⟩]):=by
   unfold dQ;rw[as3,as3];rfl
  have iK:jC (l'++[⟨e.nm,ad,dp,true,true,e.s,e.g,hj e.es (8*fl e.s e.g)⟩])=jC (l'++[⟨e.nm,ad,dp,e.on,false,e.s,e.g,hj e.es (8*fl e.s e.g)⟩]):=by
   unfold jC;rw[as3,as3];rfl
  have akY:dR (l'++[⟨e.nm,ad,dp,e.on,false,e.s,e.g,hj e.es (8*fl e.s e.g)⟩]):=nL.od rfl rfl rfl rfl rfl rfl;refine⟨au5,(k+1,l'++[⟨e.nm,ad,dp,e.on,false,e.s,e.g,hj e.es (8*fl e.s e.g)⟩]),⟨akT,akY,?_⟩,by show l.length - (k+1) < l.length - k;omega,af.sub ac ⟨rfl,congrArg (fun x=>some (bd.map .str .aM x)) ul,?_,congrArg (fun x=>some (bd.aG (.bA x))) iK,congrArg (fun x=>some (bd.cells [.d (.ck .u8 x),.d (.int .i64 0)])) fp.symm,trivial⟩⟩
  .show(l'++[_]).map o8=((hJ l).take (k+1)).map qz;have aV:l'.map o8=((hJ l).take k).map qz:=ag.Hb;rw[as3,aV,as1 cn,as3,<-V];rfl
  .have akZ:e5 (e5 (jR (l'++[⟨e.nm,ad,dp,true,true,e.s,e.g,hj e.es (8*fl e.s e.g)⟩])) ad (qs e.nm (decide (((iu e.on:Nat):Int)=1)) true dp)) ad (qs e.nm (decide (((iu e.on:Nat):Int)=1)) (decide (((iu (e.us&&false):Nat):Int)=1)) dp)=jR (l'++[⟨e.nm,ad,dp,e.on,false,e.s,e.g,hj e.es (8*fl e.s e.g)⟩]):=by
    rw[u3,ua];exact lu
   exact congrArg (fun x=>some (bd.aG (.bA x))) akZ
 .have H:decide ((k:Int) < (l.length:Int))=false:=H;have H:=mu H;have cn:k=l.length:=by omega
  subst cn
  have Aq:l'.map o8=(hJ l).map qz:=by
   have E:l'.map o8=((hJ l).take l.length).map qz:=ag.Hb
   rwa[<-ho,aq9] at E
  have aw:((hJ l).drop l.length).flatMap (iv false)=[]:=by rw[<-ho,List.drop_length];rfl
  have lJ:=Mw (((hJ l).drop l.length).flatMap (iv false),0);rw[show qx (((hJ l).drop l.length).flatMap (iv false),0)=0 by rw[aw];rfl] at lJ;have o4:=UX (l:=l') ag.ok true;have Vb:=akE h ag.ok (fun e V=>(aY e V).fS) Aq;have aV:=U9 (qy true l') (qy false l) (by rw[Vb];omega) au5;rw[aq2 Vb] at aV;refine bz [] (aH) ?_;refine au (Fn.aX [(1001,3001)] lJ) ?_;refine da ?_;refine au (Fn.arg o4 ac) ?_;refine au aV ?_;refine da ?_;exact⟨⟨l',ag.ok,Aq⟩,_,_,_,aH,rfl,ac,ac,rfl⟩
end
section
def ym (c:UInt8) (p:Int×Int):Int×Int:=((p.1+(UInt8.toNat c:Int)) % 65521,(p.2+(p.1+(UInt8.toNat c:Int)) % 65521) % 65521)
def om (x:List UInt8) (p:Int×Int):Int×Int:=x.foldl (fun p c=>ym c p) p
def Aw (p:Int×Int):Prop:=(0<=p.1/\p.1 < 65521)/\(0<=p.2/\p.2 < 65521)
theorem ak0 {c:UInt8} {p:Int×Int} (h:Aw p):Aw (ym c p):=by
 unfold Aw ym;simp only;have:=h.1;have:=h.2;omega
theorem He: ∀{x:List UInt8} {p:Int×Int},Aw p->Aw (om x p)
 | [],_,h=>h
 |c::x,p,h=>He (x:=x) (ak0 h)
theorem ak1 (x:List UInt8) (c:UInt8) (p:Int×Int):om (x++[c]) p=ym c (om x p):=by
 unfold om;rw[at9];rfl
def jh (x:List UInt8):Int:=65536*(om x (1,0)).2+(om x (1,0)).1
theorem MN (x:List UInt8):0<=jh x/\jh x < 4294967296:=by
 have h:=He (x:=x) (p:=(1,0)) ⟨au6,au6⟩;unfold jh;have:=h.1;have:=h.2;omega
theorem ak2 (c:UInt8) (p:Int×Int) (h:Aw p):Fn Tryz.prog 251 [kH (.d (.int .u8 (UInt8.toNat c:Int))),ao 1001,ao 1002] [(1001,.cells [.d (.int .i64 p.1)]),(1002,.cells [.d (.int .i64 p.2)])] [] (.ce [.one (.d (.int .i64 (ym c p).1)),.one (.d (.int .i64 (ym c p).2))]) [(1001,.cells [.d (.int .i64 p.1)]),(1002,.cells [.d (.int .i64 p.2)])]:=by
 have H:UInt8.toNat c < 256:=UInt8.toNat_lt c;obtain⟨⟨E,G⟩,al,aZ⟩:=h;refine aW [] Tryz.func251 rfl rfl rfl rfl ?_;have cx: -9223372036854775808<=(UInt8.toNat c:Int)/\(UInt8.toNat c:Int)<=9223372036854775807:=by omega
 refine⟨cx,?_⟩;have cA: -9223372036854775808<=p.1+(UInt8.toNat c:Int)/\p.1+(UInt8.toNat c:Int)<=9223372036854775807:=by omega
 refine⟨cA,?_⟩;have dy:0<=p.1+(UInt8.toNat c:Int)/\(0:Int) < 65521:=by omega
 have fa: -9223372036854775808<=(p.1+(UInt8.toNat c:Int)) % 65521/\(p.1+(UInt8.toNat c:Int)) % 65521<=9223372036854775807:=by omega
 refine⟨dy,fa,?_⟩;have xv: -9223372036854775808<=p.2+(p.1+(UInt8.toNat c:Int)) % 65521/\p.2+(p.1+(UInt8.toNat c:Int)) % 65521<=9223372036854775807:=by omega
 refine⟨xv,?_⟩;have vQ:0<=p.2+(p.1+(UInt8.toNat c:Int)) % 65521/\(0:Int) < 65521:=by omega
 have xw: -9223372036854775808<=(p.2+(p.1+(UInt8.toNat c:Int)) % 65521) % 65521/\(p.2+(p.1+(UInt8.toNat c:Int)) % 65521) % 65521<=9223372036854775807:=by omega
 refine⟨vQ,xw,rfl,?_⟩;exact aT aH rfl ac ac rfl
abbrev Vc (p:Int×Int):ay:=[(3,.cells [.d (.int .i64 p.1)]),(4,.cells [.d (.int .i64 p.2)])]
abbrev ak3 (bE:List (List UInt8)) (i:Nat):a1:=[(3,ao 3),(4,ao 4),(5,.c (.one (.cT 251 [.p 3 0,.p 4 0]))),(11,bS (.b7 .u8) bE),(12,ae (bE.length:Nat)),(13,ae (i:Nat))]
abbrev ak4 (bE:List (List UInt8)) (i:Nat) (x:List UInt8) (j:Nat):a1:=[(3,ao 3),(4,ao 4),(5,.c (.one (.cT 251 [.p 3 0,.p 4 0]))),(11,bS (.b7 .u8) bE),(12,ae (bE.length:Nat)),(13,ae (i:Nat)),(17,bS .u8 x),(18,ae (x.length:Nat)),(19,ae (j:Nat))]
theorem Vd {bE:List (List UInt8)} {i:Nat} (h:i < bE.length):(bE.take (i+1)).flatten=(bE.take i).flatten++bE[i]:=by
 rw[as1 h,List.flatten_append];simp
theorem MO (bE:List (List UInt8)) (aq:bE.length<=1000000) (ag: ∀x∈bE,x.length<=4294967296):Fn Tryz.prog 218 [bS (.b7 .u8) bE] [] [] (ae (jh bE.flatten)) []:=by
 refine aW [] Tryz.func218 rfl rfl rfl rfl ?_;refine⟨rfl,rfl,dX [] (X:=Nat) (ak3 bE) (fun i=>Vc (om (bE.take i).flatten (1,0))) (fun i=>i<=bE.length) (fun i=>bE.length - i) 0 (ap7 _) ?_ ?_⟩
 .exact af.sub ac ac
 intro i aI;refine⟨fun h=>?_,fun h=>?_⟩
 .have h:decide ((i:Int) < (bE.length:Int))=true:=h;have dW:i < bE.length:=by simpa using h
  have hx:=ag _ (ar3 dW);refine⟨au5,bE[i],jv (n:=i) dW,dX [] (X:=Nat) (fun j=>ak4 bE i bE[i] j) (fun j=>Vc (om ((bE.take i).flatten++bE[i].take j) (1,0))) (fun j=>j<=bE[i].length) (fun j=>bE[i].length - j) 0 (ap7 _) ?_ ?_⟩
  .refine af.sub ac ⟨?_,?_,trivial⟩
   .rw[List.take_zero,as5];rfl
   .rw[List.take_zero,as5];rfl
  intro j aa;refine⟨fun G=>?_,fun G=>?_⟩
  .have G:decide ((j:Int) < (bE[i].length:Int))=true:=G;have eE:j < bE[i].length:=by simpa using G
   have ax:om ((bE.take i).flatten++bE[i].take (j+1)) (1,0)=ym bE[i][j] (om ((bE.take i).flatten++bE[i].take j) (1,0)):=by
    rw[as1 eE,<-as6,ak1]
   have bu:=He (x:=(bE.take i).flatten++bE[i].take j) (p:=(1,0)) ⟨au6,au6⟩;refine⟨au5,bE[i][j],jv (n:=j) eE,au (Fn.aX [(1001,3),(1002,4)] (ak2 bE[i][j] _ bu)) ?_⟩;refine⟨au5,j+1,au5,au5,af.sub ac ⟨?_,?_,trivial⟩⟩
   .rw[ax];rfl
   .rw[ax];rfl
  .have G:decide ((j:Int) < (bE[i].length:Int))=false:=G;have eE:j=bE[i].length:=by simp at G;omega
   subst eE;refine⟨au5,i+1,au5,au5,af.sub ac ⟨?_,?_,trivial⟩⟩
   .rw[Vd dW,aq9];rfl
   .rw[Vd dW,aq9];rfl
 .have h:decide ((i:Int) < (bE.length:Int))=false:=h;have dW:i=bE.length:=by simp at h;omega
  subst dW;rw[aq9];obtain⟨⟨E,G⟩,al,aZ⟩:=He (x:=bE.flatten) (p:=(1,0)) ⟨au6,au6⟩;have cx: -9223372036854775808<=65536*(om bE.flatten (1,0)).2/\65536*(om bE.flatten (1,0)).2<=9223372036854775807:=by omega
  refine⟨cx,?_⟩;have cA: -9223372036854775808<=65536*(om bE.flatten (1,0)).2+(om bE.flatten (1,0)).1/\65536*(om bE.flatten (1,0)).2+(om bE.flatten (1,0)).1<=9223372036854775807:=by omega
  refine⟨cA,?_⟩;exact aT aH rfl rfl trivial rfl
end
section
abbrev u4 (c d:Nat) (U:Int) (es:List (Z .str×Z .aM)):ay:=[(c,.cells [.d (.int .i64 U),.mp d]),(d,.map .str .aM es)]
def iw (es:List (Z .str×Z .aM)) (k:List UInt8):Option Nat:=(b0 es (k:Z .str)).getD (cK .aM)
theorem MP (U:Int) (es:List (Z .str×Z .aM)) (name:List UInt8) (b:Nat) (h:iw es name=some b):Fn Tryz.prog 121 [ao 1001,bV name] (u4 1001 1002 U es) [] (.ce [Qe (some b),dw 0]) (u4 1001 1002 U es):=by
 refine aW [] Tryz.func121 rfl rfl rfl rfl ?_;refine⟨fun dZ h'=>?_,fun h'=>?_⟩
 .exact aT aH rfl ⟨h,rfl,trivial⟩ ac rfl
 .exfalso;have:iw es name=none:=h';rw[h] at this
  cases this
theorem Ve (U:Int) (es:List (Z .str×Z .aM)) (name:List UInt8) (h:iw es name=none):Fn Tryz.prog 121 [ao 1001,bV name] (u4 1001 1002 U es) [] (.ce [mF,dw 40]) (u4 1001 1002 U es):=by
 refine aW [] Tryz.func121 rfl rfl rfl rfl ?_;refine⟨fun dZ h'=>?_,fun h'=>?_⟩
 .exfalso;have:iw es name=some dZ:=h';rw[h] at this
  cases this
 .exact aT aH rfl ac ac rfl
theorem ak5 (U:Int) (h:0<=U):Fn Tryz.prog 19 [ae U] [] [1001,1002] (.ce [.one (.ptr 1001 0),dw 0]) (u4 1001 1002 U []):=by
 refine aW [] Tryz.func19 rfl rfl rfl rfl ?_;refine⟨fun E=>?_,fun E=>?_⟩
 .simp at E;omega
 refine⟨rfl,rfl,?_⟩;exact⟨_,_,_,(af.aX 9 1001 rfl).trans (af.aX 7 1002 rfl),rfl,ac,ac,rfl⟩
theorem ak6 (U:Int) (es:List (Z .str×Z .aM)) (fr to:List UInt8) (b:Nat) (aq:to.length<=4294967296) (h:gp to=true) (hn:iw es fr=some b):Fn Tryz.prog 173 [ao 1001,bV fr,bV to] (u4 1001 1002 U es) [] (ae 0) (u4 1001 1002 U (dr (gG es (fr:Z .str)) (to:Z .str) (some b:Option Nat))):=by
 refine aW [] Tryz.func173 rfl rfl rfl rfl ?_;refine au (qn _ aq) ?_;refine⟨fun E=>?_,fun E=>?_⟩
 .rw[h] at E;cases E
 refine au (MP U es fr b hn) ?_;refine⟨fun G=>?_,fun G=>?_⟩
 .exact absurd G au6
 refine⟨trivial,?_⟩;exact aT aH rfl rfl ac rfl
end
section
abbrev MQ (c d q:Nat) (U:Int) (es:List (Z .str×Z .aM)) (L:List (Nat×bh)):ay:=[(c,.cells [.d (.int .i64 U),.mp d]),(d,.map .str .aM es),(q,.aG (.bA L))]
theorem ak7 (U:Int) (es:List (Z .str×Z .aM)) (L:List (Nat×bh)) (name:List UInt8) (n:Int) (aq:name.length<=4294967296) (E:gp name=true) (G:(pb n&&decide (0<=U))=true) (aZ:iw es name=none) (bK:es.length < 16):
  cv Tryz.prog 171 [ao 1001,bV name,ae n] (MQ 1001 1002 1003 U es L) [] (fun b:Nat=>.ce [Qe (some b),dw 0]) (fun b=>MQ 1001 1002 1003 U (dr es (name:Z .str) (some b:Option Nat)) ((b,g6 ⟨n,U,[],[],[]⟩)::L)):=by
 refine hD [8] Tryz.func171 rfl rfl rfl rfl ?_;refine au (Fn.aX [(1001,2001)] (akG n U G)) ?_;refine au (qn _ aq) ?_;refine⟨fun aj=>?_,fun aj=>?_⟩
 .rw[E] at aj;cases aj
 refine⟨fun ap=>?_,fun ap=>?_⟩
 .exact absurd ap au6
 refine⟨fun dZ bm=>?_,fun bm=>?_⟩
 .exfalso;have:iw es name=some dZ:=bm;rw[aZ] at this
  cases this
 refine⟨fun c0=>?_,fun c0=>?_⟩
 .exfalso;simp at c0;omega
 refine bt.eY (df.name 8 2001 rfl rfl) fun b=>?_
 refine bz [] (aH) ?_;refine⟨trivial,?_⟩;exact⟨b,_,_,_,af.put 1003 2001 au6 rfl rfl,rfl,ac,ac,rfl⟩
end
section
abbrev hK:=List (Z ak×Z gU)
def rD (x:Z gU):Prop:=List.length (α:=UInt8) x=16
theorem rD.wf {x:Z gU} (h:rD x):ow gU x:=⟨h,fun _ _=>trivial⟩
def qA (ed:List Int):Nat->List (Z o9)->hK->hK
 |_,[],s=>s
 |k,w::l,s=>qA ed (k+1) l (match ed.contains (k:Int) with
  |true=>dr s w.1 w.2
  |false=>s)
theorem Vf (ed:List Int) (w:Z o9): ∀(l:List (Z o9)) (k:Nat) (s:hK),qA ed k (l++[w]) s=match ed.contains ((k+l.length:Nat):Int) with
  |true=>dr (qA ed k l s) w.1 w.2
  |false=>qA ed k l s
 | [],k,s=>rfl
 |v::l,k,s=>by
  rw[List.cons_append,qA,Vf ed w l (k+1)];rw[show k+1+l.length=k+(v::l).length by simp;omega];rfl
def bY.ll (m:bY) (ed:List Int):bY:=let s:=qA ed 0 m.eV m.lM;{m with lM:=s,bF:=s,eV:=[]}
theorem ak8 (ed:List Int) (k:Int) (aq:ed.length<=4294967296):Fn Tryz.prog 160 [ae k,ao 1001] [(1001,.cells [.d (.ck ak ed)])] [] (fI (ed.contains k)) [(1001,.cells [.d (.ck ak ed)])]:=by
 refine aW [] Tryz.func160 rfl rfl rfl rfl ?_;refine au (akL ed k aq) ?_;exact aT aH rfl rfl ac rfl
abbrev ak9 (m:bY) (ed:List Int) (k:Nat):a1:=[(0,ao 1001),(4,.c (.one (.cT 160 [.p 3 0]))),(11,eM 1004),(12,ae (m.eV.length:Nat)),(13,ae (k:Nat))]
abbrev ak' (m:bY) (ed:List Int) (s:hK):ay:=iH 1001 1002 1003 1004 {m with lM:=s}++[(3,.cells [.d (.ck ak ed)])]
theorem ala (m:bY) (ed:List Int) (ab:ed.length<=4294967296) (aq:m.eV.length<=4294967296) (hw: ∀w,w∈m.eV->rD w.2):
  Fn Tryz.prog 109 [ao 1001,bS ak ed] (iH 1001 1002 1003 1004 m) [2001,2002] gI (iH 1001 1002 2001 2002 (m.ll ed)):=by
 refine aW [] Tryz.func109 rfl rfl rfl rfl ?_;refine⟨rfl,dX [] (X:=Nat) (ak9 m ed) (fun k=>ak' m ed (qA ed 0 (m.eV.take k) m.lM)) (fun k=>k<=m.eV.length) (fun k=>m.eV.length - k) 0 (ap7 _) ?_ ?_⟩
 .exact af.sub ac ac
 intro k cn;refine⟨fun h=>?_,fun h=>?_⟩
 .have fd:k < m.eV.length:=by
   have h:decide ((k:Int) < (m.eV.length:Int))=true:=h;simpa using h
  have m':=hw _ (ar3 fd)
  have rA:qA ed 0 (m.eV.take (k+1)) m.lM=match ed.contains (k:Int) with
    |true=>dr (qA ed 0 (m.eV.take k) m.lM) (m.eV[k]).1 (m.eV[k]).2
    |false=>qA ed 0 (m.eV.take k) m.lM:=by
   rw[as1 fd,Vf,ap8,Nat.min_eq_left au5,Nat.zero_add]
  refine⟨⟨au5,by show(k:Int) < (m.eV.length:Nat);omega⟩,m.eV[k],jv (n:=k) fd,rfl,au (Fn.aX [(1001,3)] (ak8 ed (k:Nat) ab)) ?_⟩;refine⟨fun G=>?_,fun G=>?_⟩
  .rw[G] at rA;refine⟨(m.eV[k]).2,⟨m'.wf,rfl⟩,rfl,au5,k+1,au5,au5,af.sub ac ⟨rfl,?_,rfl,rfl,rfl,trivial⟩⟩;rw[rA];rfl
  .rw[G] at rA;refine⟨au5,k+1,au5,au5,af.sub ac ⟨rfl,?_,rfl,rfl,rfl,trivial⟩⟩;rw[rA];rfl
 .have h:decide ((k:Int) < (m.eV.length:Int))=false:=h;have fd:k=m.eV.length:=by simp at h;omega
  subst fd;rw[aq9];refine au (Fn.aX [(1001,1002)] (U7 (qA ed 0 m.eV m.lM))) ?_;exact⟨_,_,_,af.vG 1001 4 2002 243 o9 rfl rfl rfl,rfl,trivial,ac,rfl⟩
theorem Vg (m:bY) (ed:List Int) (ab:ed.length<=4294967296) (aq:m.eV.length<=4294967296) (hw: ∀w,w∈m.eV->rD w.2):
  Fn Tryz.prog 109 [ao 1001,bS ak ed] [(1001,.aG (g6 m))] [] gI [(1001,.aG (g6 (m.ll ed)))]:=
 ML (aK:=[]) (aP:=[]) [(2001,1003),(2002,1004)] (ala m ed ab aq hw) ⟨rfl,rfl,rfl,rfl⟩ rfl rfl
end
section
theorem alb (a b:Int):(fV ak (a:Z ak) (b:Z ak)=true)↔a=b:=by
 show yI a b=true↔a=b;unfold yI;exact decide_eq_true_iff
theorem MR {α lC:Type} {f:α->lC}: ∀{l:List α},(l.map f).Nodup-> ∀{p q:α},p∈l->q∈l->f p=f q->p=q
 | [],_,_,_,h,_,_=>by cases h
 |a::l,h,p,q,ag,aV,e=>by
  rw[aq4,aq7] at h;rcases ap3.1 ag with ag |ag <;>rcases ap3.1 aV with aV |aV
  .rw[ag,aV]
  .exact absurd (by rw[<-ag,e];exact aq6 aV) h.1
  .exact absurd (by rw[<-aV,<-e];exact aq6 ag) h.1
  .exact MR h.2 ag aV e
end
section
def bY.Hf (m:bY) (n:Int):bY:=⟨n,m.U,m.bF.filter fun p=>decide ((show Int from p.1) < n),m.bF.filter fun p=>decide ((show Int from p.1) < n),[]⟩
def rE {aL:bx} (es:List (Z ak×Z aL)):List Int:=es.map fun p=>(show Int from p.1)
def Dp (s:hK) (a:Int):Z gU:=(b0 s (a:Z ak)).getD (cK gU)
def iI (s:hK) (a:Int):List UInt8:=Dp s a
def pc (s:hK) (a:Int) (k:Nat):List UInt8:=(List.range k).flatMap fun i=>iI s (a+(i:Nat))
def wA (s:hK):Prop:= ∀p∈s,rD p.2
theorem Vh {aJ aL:bx} {k:Z aJ} {x:Z aL}: ∀{l:List (Z aJ×Z aL)},b0 l k=some x-> ∃p∈l,p.2=x
 | [],h=>by cases h
 |p::l,h=>by
  unfold b0 at h
  split at h
  .injection h with h
   exact⟨p,aq1 ..,h⟩
  .obtain⟨q,aV,e⟩:=Vh h;exact⟨q,ap2 _ aV,e⟩
theorem Vi {s:hK} (h:wA s) (a:Int):rD (Dp s a):=by
 unfold Dp
 cases e:b0 s (a:Z ak) with
 |none=>exact as7
 |some x=>
  obtain⟨p,ag,e⟩:=Vh e;rw[<-e];exact h p ag
theorem Vj (s:hK) (a:Int) (k:Nat):pc s a (k+1)=pc s a k++iI s (a+(k:Nat)):=by
 unfold pc;rw[List.range_succ,List.flatMap_append];simp
theorem Hg {s:hK} (h:wA s) (a:Int): ∀k,(pc s a k).length=16*k
 |0=>rfl
 |k+1=>by
  have e:(iI s (a+(k:Nat))).length=16:=Vi h _;rw[Vj,ap1,Hg h a k];omega
abbrev Vk (at_ a2:Int) (k r:Nat):a1:=[(0,ao 1001),(1,ae at_),(2,ae a2),(8,eM r),(20,ae a2),(21,ae (k:Nat))]
abbrev Vl (m:bY) (r:Nat) (x:List UInt8):ay:=iH 1001 1002 1003 1004 m++[(r,.row 5 .u8 x)]
theorem alc (m:bY) (at_ a2:Int) (h:0<=a2) (aI:m.kz at_ a2=true) (E:0<=m.n) (G:m.n<=4096) (hw:wA m.bF):Fn Tryz.prog 213 [ao 1001,ae at_,ae a2] [(1001,.aG (g6 m))] [] (.ce [.one (.d (.ck .u8 (pc m.bF at_ a2.toNat))),dw 0]) [(1001,.aG (g6 m))]:=by
 refine Dn (aK:=[]) (aP:=[]) (bf:=[]) ?_ rfl rfl;refine aW [] Tryz.func213 rfl rfl rfl rfl ?_;refine⟨fun E=>?_,fun _=>?_⟩
 .have E:a2 < 0:=gd E;omega
 refine au (MK m at_ a2 h E G) ?_;rw[aI];refine da ?_;simp only[bY.kz,vj,ar5] at aI;obtain⟨⟨oG,oH⟩,uD⟩:=aI;refine dX [] (X:=Nat) (fun k=>Vk at_ a2 k 2003) (fun k=>Vl m 2003 (pc m.bF at_ k)) (fun k=>(k:Int)<=a2) (fun k=>a2.toNat - k) 0 h ?_ ?_
 .exact af.trans (af.nil 8 2003 5 .u8 rfl rfl) (af.sub ac ac)
 intro k ab;refine⟨fun H=>?_,fun H=>?_⟩
 .have cn:(k:Int) < a2:=gd H;have m':=Vi hw (at_+(k:Nat));have b6:=Hg hw at_ k;refine⟨au5,rfl,Dp m.bF (at_+(k:Nat)),⟨m'.wf,rfl⟩,?_⟩
  have aj:(pc m.bF at_ k).length+(iI m.bF (at_+(k:Nat))).length<=4294967296:=by
   have:(iI m.bF (at_+(k:Nat))).length=16:=m';omega
  refine⟨aj,rfl,au5,k+1,au5,au5,af.trans (af.sub (K':=Vk at_ a2 (k+1) 34) (B':=Vl m 34 (pc m.bF at_ (k+1))) ac ⟨rfl,rfl,rfl,rfl,?_,trivial⟩) (af.aX 34 2003 rfl)⟩;rw[Vj];rfl
 .have cn:k=a2.toNat:=by
   have: ¬(k:Int) < a2:=mu H;omega
  subst cn;exact⟨_,_,_,af.dV 2003 rfl,rfl,ac,ac,rfl⟩
end
section
def Hh (b:List UInt8) (k:Nat):List UInt8:=List.take 16 ((b.take ((((k:Nat):Int)+1)*16).toNat).drop (((k:Nat):Int)*16).toNat)
def sH (b:List UInt8) (k:Nat):Z gU:=Hh b k
theorem MS {b:List UInt8} {k:Nat} (h:16*(k+1)<=b.length):rD (sH b k):=by
 show(List.take 16 ((b.take _).drop _)).length=16;rw[ap8,at1,ap8];omega
theorem ald (b:List UInt8) (k:Nat):Hh b k=(b.drop (16*k)).take 16:=by
 unfold Hh;rw[show((((k:Nat):Int)+1)*16).toNat=16*k+16 by omega,show(((k:Nat):Int)*16).toNat=16*k by omega,List.drop_take,List.take_take]
 congr 1
 omega
abbrev Hi (a:Int) (x:Z gU):Z o9:=(a,x)
def yn (at_:Int) (b:List UInt8) (s:hK):Nat->hK
 |0=>s
 |k+1=>dr (yn at_ b s k) (at_+(k:Nat):Int) (sH b k)
def wB (at_:Int) (b:List UInt8) (l:List (Z o9)):Nat->List (Z o9)
 |0=>l
 |k+1=>wB at_ b l k++[Hi (at_+(k:Nat)) (sH b k)]
theorem MT (at_:Int) (b:List UInt8) (l:List (Z o9)): ∀k,(wB at_ b l k).length=l.length+k
 |0=>rfl
 |k+1=>by rw[wB,ap1,MT];simp;omega
def lN (s:hK) (at_:Int):Nat->Nat
 |0=>0
 |k+1=>match(b0 s (at_+(k:Nat):Int)).isSome with
  |true=>lN s at_ k
  |false=>lN s at_ k+1
theorem Vm (s:hK) (at_:Int): ∀k,lN s at_ k<=k
 |0=>ap0 _
 |k+1=>by
  have:=Vm s at_ k;unfold lN
  split <;>omega
def bY.rF (m:bY) (at_:Int) (k:Nat):Bool:=decide (m.U < (m.bF.length+lN m.bF at_ k:Nat))&&decide (0 < lN m.bF at_ k)
def bY.Hj (m:bY) (at_:Int) (b:List UInt8):bY:={m with bF:=yn at_ b m.bF (b.length/16),eV:=wB at_ b m.eV (b.length/16)}
def u5 (b:List UInt8):Bool:=decide (b.length=0)|| !decide (b.length % 16=0)
abbrev ale (m:bY) (at_:Int) (b:List UInt8) (k:Nat):a1:=[(0,ao 1001),(1,ae at_),(2,bS .u8 b),(7,ae (b.length/16:Nat)),(8,ae (m.bF.length+lN m.bF at_ k:Nat)),(35,ae (b.length/16:Nat)),(36,ae (k:Nat))]
abbrev MU (m:bY) (at_:Int) (b:List UInt8) (k:Nat):a1:=[(0,ao 1001),(1,ae at_),(2,bS .u8 b),(7,ae (b.length/16:Nat)),(67,ae (b.length/16:Nat)),(68,ae (k:Nat))]
abbrev MV (m:bY) (at_:Int) (b:List UInt8) (k r:Nat):ay:=iH 1001 1002 1003 r {m with bF:=yn at_ b m.bF k,eV:=wB at_ b m.eV k}
theorem MW (b:List UInt8):u5 b=(decide ((b.length:Int)=0)|| !decide ((b.length:Int) % 16=0)):=by
 have aj:decide (b.length=0)=decide ((b.length:Int)=0):=by rw[Bool.eq_iff_iff,decide_eq_true_iff,decide_eq_true_iff];omega
 have ap:decide (b.length % 16=0)=decide ((b.length:Int) % 16=0):=by rw[Bool.eq_iff_iff,decide_eq_true_iff,decide_eq_true_iff];omega
 rw[u5,aj,ap]
theorem MX {b:List UInt8} (aq:b.length<=4294967296):(0<=(b.length:Int)/\(0:Int) < 16)/\(-9223372036854775808<=(b.length:Int)/16/\(b.length:Int)/16<=9223372036854775807)/\(-9223372036854775808<=(b.length:Int) % 16/\(b.length:Int) % 16<=9223372036854775807):=by omega
theorem alf (m:bY) (at_:Int) (b:List UInt8) (aq:b.length<=4294967296) (h:u5 b=true):Fn Tryz.prog 224 [ao 1001,ae at_,bS .u8 b] [(1001,.aG (g6 m))] [] (ae 1) [(1001,.aG (g6 m))]:=by
 refine Dn (aK:=[]) (aP:=[]) (bf:=[]) ?_ rfl rfl;rw[MW] at h;obtain⟨b4,ci,a3⟩:=MX aq;refine aW [] Tryz.func224 rfl rfl rfl rfl ?_;refine⟨b4,ci,fun _=>?_,fun E=>?_⟩
 .exact aT aH rfl rfl ac rfl
 refine⟨b4,a3,fun _=>?_,fun G=>?_⟩
 .exact aT aH rfl rfl ac rfl
 .have E:decide ((b.length:Int)=0)=false:=E;have G:(!decide ((b.length:Int) % 16=0))=false:=G;rw[E,G] at h
  cases h
theorem alg (m:bY) (at_:Int) (b:List UInt8) (aq:b.length<=4294967296) (h:u5 b=false) (aI:m.kz at_ (b.length/16:Nat)=false) (E:0<=m.n) (G:m.n<=4096):Fn Tryz.prog 224 [ao 1001,ae at_,bS .u8 b] [(1001,.aG (g6 m))] [] (ae 31) [(1001,.aG (g6 m))]:=by
 refine Dn (aK:=[]) (aP:=[]) (bf:=[]) ?_ rfl rfl;rw[MW,Bool.or_eq_false_iff] at h;obtain⟨b4,ci,a3⟩:=MX aq;refine aW [] Tryz.func224 rfl rfl rfl rfl ?_;refine⟨b4,ci,fun al=>absurd (h.1.symm.trans al) au6,fun _=>?_⟩;refine⟨b4,a3,fun al=>absurd (h.2.symm.trans al) au6,fun _=>?_⟩;refine au (MK m at_ (b.length/16:Nat) au5 E G) ?_;rw[aI];refine eO ?_;exact aT aH rfl rfl ac rfl
theorem alh (m:bY) (at_:Int) (b:List UInt8) (aq:b.length<=4294967296) (h:u5 b=false) (aI:m.kz at_ (b.length/16:Nat)=true) (E:0<=m.n) (G:m.n<=4096) (al:m.bF.length<=4096) (hw:wA m.bF) (Hk:m.eV.length+b.length<=4294967296):
  Fn Tryz.prog 224 [ao 1001,ae at_,bS .u8 b] (iH 1001 1002 1003 1004 m) [2004] (ae (match m.rF at_ (b.length/16) with |true=>30 |false=>0)) (match m.rF at_ (b.length/16) with |true=>iH 1001 1002 1003 1004 m |false=>iH 1001 1002 1003 2004 (m.Hj at_ b)):=by
 rw[MW,Bool.or_eq_false_iff] at h;obtain⟨b4,ci,a3⟩:=MX aq;refine aW [] Tryz.func224 rfl rfl rfl rfl ?_;refine⟨b4,ci,fun al=>absurd (h.1.symm.trans al) au6,fun _=>?_⟩;refine⟨b4,a3,fun al=>absurd (h.2.symm.trans al) au6,fun _=>?_⟩;refine au (MK m at_ (b.length/16:Nat) au5 E G) ?_;rw[aI];refine da ?_;simp only[bY.kz,vj,ar5] at aI;obtain⟨⟨oG,oH⟩,uD⟩:=aI;refine au (U8 m) ?_;show bt _ _ _ _ _ _ _;have bG:((b.length:Int)/16)=((b.length/16:Nat):Int):=by omega
 have KU:=Vm m.bF at_;refine dX [] (X:=Nat) (ale m at_ b) (fun k=>iH 1001 1002 1003 1004 m) (fun k=>k<=b.length/16) (fun k=>b.length/16 - k) 0 (ap7 _) ?_ ?_
 .exact af.sub ⟨rfl,rfl,rfl,bG,rfl,bG,rfl,trivial⟩ ac
 intro k ab;refine⟨fun H=>?_,fun H=>?_⟩
 .have cn:(k:Int) < (b.length/16:Nat):=gd H;have yc:=KU k;refine⟨au5,rfl,?_⟩
  have ax:lN m.bF at_ (k+1)=match(b0 m.bF (at_+(k:Nat):Int)).isSome with
    |true=>lN m.bF at_ k
    |false=>lN m.bF at_ k+1:=rfl
  refine⟨fun aZ=>?_,fun aZ=>?_⟩
  .have aZ:(b0 m.bF (at_+(k:Nat):Int)).isSome=false:=by
    have aZ:(!(b0 m.bF (at_+(k:Nat):Int)).isSome)=true:=aZ;simpa using aZ
   rw[aZ] at ax;have ax:lN m.bF at_ (k+1)=lN m.bF at_ k+1:=ax;refine⟨au5,au5,k+1,au5,au5,af.sub ⟨rfl,rfl,rfl,rfl,?_,rfl,rfl,trivial⟩ ac⟩;show _=_;rw[ax];omega
  .have aZ:(b0 m.bF (at_+(k:Nat):Int)).isSome=true:=by
    have aZ:(!(b0 m.bF (at_+(k:Nat):Int)).isSome)=false:=aZ;simpa using aZ
   rw[aZ] at ax;refine⟨au5,k+1,au5,au5,af.sub ⟨rfl,rfl,rfl,rfl,?_,rfl,rfl,trivial⟩ ac⟩;show _=_;rw[ax]
 .have cn:k=b.length/16:=by
   have: ¬(k:Int) < (b.length/16:Nat):=mu H;omega
  subst cn;have yc:=KU (b.length/16);refine⟨fun cB=>?MF,fun cB=>?MG⟩
  case' MF=>
   have cB:decide (m.U < (m.bF.length+lN m.bF at_ (b.length/16):Nat))=true:=cB;refine au (U8 m) ?_;refine⟨fun cL=>?ali,fun cL=>?alj⟩
  case ali=>
   have cL:decide (((m.bF.length:Nat):Int) < (m.bF.length+lN m.bF at_ (b.length/16):Nat))=true:=cL
   have hf:m.rF at_ (b.length/16)=true:=by
    have aw:0 < lN m.bF at_ (b.length/16):=by have:=gd cL;omega
    rw[bY.rF,cB,aq2 aw];rfl
   rw[hf];exact aT aH rfl rfl ac rfl
  case' alj=>
   have cL:decide (((m.bF.length:Nat):Int) < (m.bF.length+lN m.bF at_ (b.length/16):Nat))=false:=cL
   have hf:m.rF at_ (b.length/16)=false:=by
    have aw: ¬0 < lN m.bF at_ (b.length/16):=by have:=mu cL;omega
    rw[bY.rF,cB,ar8 aw];rfl
   clear cB cL
  case' MG=>
   have cB:decide (m.U < (m.bF.length+lN m.bF at_ (b.length/16):Nat))=false:=cB
   have hf:m.rF at_ (b.length/16)=false:=by
    rw[bY.rF,cB];rfl
   clear cB
  all_goals
   rw[hf];refine dX [] (X:=Nat) (MU m at_ b) (fun k=>MV m at_ b k 2004) (fun k=>k<=b.length/16) (fun k=>b.length/16 - k) 0 (ap7 _) ?_ ?_
   .exact af.trans (cG (MU m at_ b 0) (MV m at_ b 0 1004)) (af.aX 1004 2004 rfl)
   intro k ab;refine⟨fun H=>?_,fun H=>?_⟩
   .have cn:(k:Int) < (b.length/16:Nat):=gd H;have m':rD (sH b k):=MS au5;have mI:=MT at_ b m.eV k;have cx: -9223372036854775808<=(k:Int)*16/\(k:Int)*16<=9223372036854775807:=by omega
    have cA: -9223372036854775808<=(k:Int)+1/\(k:Int)+1<=9223372036854775807:=by omega
    have dy: -9223372036854775808<=((k:Int)+1)*16/\((k:Int)+1)*16<=9223372036854775807:=by omega
    have fa:0<=(k:Int)*16/\(k:Int)*16<=((k:Int)+1)*16/\((k:Int)+1)*16<=(b.length:Nat):=by omega
    refine⟨cx,cA,dy,fa,?_⟩
    have xv:0 < 16/\16<=((b.take (((k:Int)+1)*16).toNat).drop ((k:Int)*16).toNat).length:=by
     rw[at1,ap8];omega
    refine⟨xv,rfl,?_⟩;have vQ: -9223372036854775808<=at_+(k:Nat)/\at_+(k:Nat)<=9223372036854775807:=by omega
    refine⟨vQ,sH b k,⟨m'.wf,rfl⟩,rfl,vQ,rfl,Hi (at_+(k:Nat)) (sH b k),⟨⟨trivial,m'.wf⟩,rfl⟩,?_⟩
    have xw:(wB at_ b m.eV k).length+ [Hi (at_+(k:Nat)) (sH b k)].length<=4294967296:=by
     rw[mI];simp only[as4,List.length_nil];omega
    refine⟨xw,rfl,rfl,?_⟩;exact⟨au5,k+1,au5,au5,af.trans (cG (MU m at_ b (k+1)) (MV m at_ b (k+1) 99)) (af.aX 99 2004 rfl)⟩
   .have cn:k=b.length/16:=by
     have: ¬(k:Int) < (b.length/16:Nat):=mu H;omega
    subst cn;exact aT aH rfl rfl ac rfl
def bY.write (m:bY) (at_:Int) (b:List UInt8):bY×Int:=match u5 b with
 |true=>(m,1)
 |false=>match m.kz at_ (b.length/16:Nat) with
  |false=>(m,31)
  |true=>match m.rF at_ (b.length/16) with
   |true=>(m,30)
   |false=>(m.Hj at_ b,0)
theorem alk (m:bY) (at_:Int) (b:List UInt8) (aq:b.length<=1073741824) (E:0<=m.n) (G:m.n<=4096) (al:m.bF.length<=4096) (hw:wA m.bF) (Hk:m.eV.length<=1073741824):
  Fn Tryz.prog 224 [ao 1001,ae at_,bS .u8 b] [(1001,.aG (g6 m))] [] (ae (m.write at_ b).2) [(1001,.aG (g6 (m.write at_ b).1))]:=by
 unfold bY.write
 cases aj:u5 b with
 |true=>exact alf m at_ b au5 aj
 |false=>
  simp only
  cases ap:m.kz at_ (b.length/16:Nat) with
  |false=>exact alg m at_ b au5 aj ap E G
  |true=>
   simp only;have h:=alh m at_ b au5 aj ap E G al hw au5
   cases bm:m.rF at_ (b.length/16) with
   |true=>rw[bm] at h;exact Dn (aK:=[]) (aP:=[]) (bf:=[2004]) h rfl rfl
   |false=>rw[bm] at h;exact ML (aK:=[]) (aP:=[]) (bf:=[2004]) [(2004,1004)] h ⟨rfl,rfl,rfl,rfl⟩ rfl rfl
end
section
abbrev dN:=List (Nat×bY)
def eR (L:dN):List (Nat×bh):=L.map fun p=>(p.1,g6 p.2)
def hL:dN->Nat->Option bY
 | [],_=>none
 |p::L,b=>if p.1=b then some p.2 else hL L b
def g7:dN->Nat->bY->dN
 | [],_,_=>[]
 |p::L,b,m=>if p.1=b then(p.1,m)::L else p::g7 L b m
theorem Vn (b:Nat): ∀L:dN,eg (eR L) b=(hL L b).map g6
 | []=>rfl
 |p::L=>by
  show(if p.1=b then some (g6 p.2) else eg (eR L) b)=_;unfold hL
  split
  .rfl
  .exact Vn b L
theorem Vo (b:Nat) (m:bY): ∀L:dN,e5 (eR L) b (g6 m)=eR (g7 L b m)
 | []=>rfl
 |p::L=>by
  show(if p.1=b then(p.1,g6 m)::eR L else(p.1,g6 p.2)::e5 (eR L) b (g6 m))=_;unfold g7
  split
  .rfl
  .rw[Vo b m L];rfl
abbrev nr (c d q:Nat) (U:Int) (es:List (Z .str×Z .aM)) (L:dN):ay:=MQ c d q U es (eR L)
theorem Ax {f:FuncId} {args:List aQ} {res:aQ} {m gm:bY} {L:dN} {b:Nat} (h:Fn Tryz.prog f (ao 1001::args) [(1001,.aG (g6 m))] [] res [(1001,.aG (g6 gm))]) (cW:hL L b=some m)
  (E:(args.all fun v=> !v.has 1001)=true) (G:(!res.has 1001)=true):Fn Tryz.prog f (dn b::args) [(1003,.aG (.bA (eR L)))] [] res [(1003,.aG (.bA (eR (g7 L b gm))))]:=by
 have:=(cv.bA (c:=1001) (q:=1003) (b:=b) (args:=args) (aK:=[]) (bf:=[]) (X:=Unit) (res:=fun _=>res) (aP:=fun _=>[]) (o:=g6 m) (o':=fun _=>g6 gm) (L:=eR L) h.x (by rw[Vn,cW];rfl) E ⟨rfl,rfl⟩ rfl (fun _=>G)).fn;rw[Vo] at this;exact this
theorem alm (U:Int) (es:List (Z .str×Z .aM)) (name:List UInt8):Fn Tryz.prog 170 [ao 1001,bV name] (u4 1001 1002 U es) [] (ae (match iw es name with |some _=>0 |none=>40)) (u4 1001 1002 U (gG es (name:Z .str))):=by
 cases h:iw es name with
 |some b=>
  refine aW [] Tryz.func170 rfl rfl rfl rfl ?_;refine au (MP U es name b h) ?_;exact aT aH rfl rfl ac rfl
 |none=>
  refine aW [] Tryz.func170 rfl rfl rfl rfl ?_;refine au (Ve U es name h) ?_;exact aT aH rfl rfl ac rfl
abbrev aln:bx:=.bR ak (.bR ak (.bR ak (.bR (.b7 .u8) (.b7 ak))))
abbrev yo:=Z aln
abbrev Ay (o:yo):Int:=o.1
abbrev Hl (o:yo):Int:=o.2.1
abbrev Az (o:yo):Int:=o.2.2.1
abbrev Vp (o:yo):List UInt8:=o.2.2.2.1
abbrev alo (o:yo):List Int:=o.2.2.2.2
structure lO (n:Int) (s:hK):Prop where
 fK:(rE s).Nodup
 rg: ∀k∈rE s,0<=k/\k < n
 wf:wA s
structure e2 (m:bY):Prop where
 ky:0<=m.n
 cH:m.n<=4096
 bF:lO m.n m.bF
 lM:lO m.n m.lM
 Hm: ∀w∈m.eV,0<=(show Int from w.1)/\(show Int from w.1) < m.n
 AA: ∀w∈m.eV,rD w.2
def mT (k:Int) (p:Z ak×Z gU):Bool:=fV ak (k:Z ak) p.1
def yp (k:Int) (x:Z gU):Z ak×Z gU:=(k,x)
def Dq (p:Z ak×Z gU):Int:=p.1
def sI (s:hK) (k:Int) (x:Z gU):hK:=dr s (k:Z ak) x
theorem Hn (k:Int) (x:Z gU):sI [] k x=[yp k x]:=rfl
theorem AB (p:Z ak×Z gU) (l:hK) (k:Int) (x:Z gU):sI (p::l) k x=match mT k p with |true=>yp k x::l |false=>p::sI l k x:=rfl
theorem sJ {k:Int} {p:Z ak×Z gU}:mT k p=true↔k=Dq p:=alb _ _
theorem u6 (p:Z ak×Z gU) (l:hK):rE (p::l)=Dq p::rE l:=rfl
theorem MY (k:Int) (x:Z gU):Dq (yp k x)=k:=rfl
theorem MZ {k:Int} {x:Z gU} {j:Int}: ∀{s:hK},j∈rE (sI s k x)↔j=k\/j∈rE s
 | []=>by rw[Hn,u6,MY,ap3]
 |p::s=>by
  rw[AB]
  cases e:mT k p with
  |true=>
   rw[u6,u6,MY,<-sJ.1 e];simp
  |false=>
   simp only;rw[u6,u6,ap3,ap3,MZ];constructor
   .rintro(h |h |h)
    .exact .inr (.inl h)
    .exact .inl h
    .exact .inr (.inr h)
   .rintro(h |h |h)
    .exact .inr (.inl h)
    .exact .inl h
    .exact .inr (.inr h)
theorem Vq {k:Int} {x:Z gU}: ∀{s:hK},(rE s).Nodup->(rE (sI s k x)).Nodup
 | [],_=>by rw[Hn,u6];exact aq7.2 ⟨fun h=>(by cases h),at0⟩
 |p::s,h=>by
  rw[u6,aq7] at h;rw[AB]
  cases e:mT k p with
  |true=>
   simp only;rw[u6,MY,sJ.1 e];exact aq7.2 h
  |false=>
   have e:k≠Dq p:=fun bl=>by rw[sJ.2 bl] at e;cases e
   simp only;rw[u6];refine aq7.2 ⟨fun aA=>?_,Vq h.2⟩;rcases MZ.1 aA with bl |bl
   .exact e bl.symm
   .exact h.1 bl
theorem Vr {k:Int} {x:Z gU} (hx:rD x): ∀{s:hK},wA s->wA (sI s k x)
 | [],_=>fun p ag=>by
  rw[Hn] at ag;rcases ap3.1 ag with e |e
  .rw[e];exact hx
  .cases e
 |q::s,h=>fun p ag=>by
  rw[AB] at ag
  split at ag
  .rcases ap3.1 ag with rfl |ag
   .exact hx
   .exact h p (ap2 _ ag)
  .rcases ap3.1 ag with rfl |ag
   .exact h _ (aq1 ..)
   .exact Vr hx (fun p ag=>h p (ap2 _ ag)) p ag
theorem lO.put {n:Int} {s:hK} (h:lO n s) {k:Int} {x:Z gU} (aw:0<=k) (E:k < n) (hx:rD x):lO n (dr s (k:Z ak) x):=
 ⟨Vq h.fK,fun j aa=>by
  rcases MZ.1 aa with rfl |aa
  .exact⟨aw,E⟩
  .exact h.rg j aa,Vr hx h.wf⟩
theorem lO.filter {n:Int} {s:hK} (h:lO n s) (n':Int):lO n' (s.filter fun p=>decide ((show Int from p.1) < n')):=
 ⟨h.fK.sublist (List.filter_sublist.map _),fun k ab=>by
  obtain⟨p,ag,rfl⟩:=ar2.1 ab;obtain⟨ag,J⟩:=at5.1 ag;exact⟨(h.rg _ (aq6 ag)).1,gd J⟩,fun p ag=>h.wf p (at5.1 ag).1⟩
theorem lO.nil (n:Int):lO n []:=⟨at0,fun k h=>(by cases h),fun p h=>(by cases h)⟩
theorem Ho: ∀(n:Nat) (l:List Int),l.Nodup->(∀k∈l,0<=k/\k < n)->l.length<=n
 |0,[],_,_=>ap0 _
 |0,k::l,_,h=>by have:=h k (aq1 ..);omega
 |n+1,l,hn,h=>by
  by_cases aA:(n:Int)∈l
  .have E:=Ho n (l.erase (n:Int)) (hn.erase _) fun k ab=>by
    have fd:=(List.Nodup.mem_erase_iff hn).1 ab;have:=h k fd.2;have:=fd.1;omega
   rw[List.length_erase_of_mem aA] at E;omega
  .have:=Ho n l hn fun k ab=>by
    have:=h k ab;have:k≠n:=fun e=>aA (e▸ab)
    omega
   omega
theorem lO.len {n:Int} {s:hK} (h:lO n s) (E:n<=4096):s.length<=4096:=by
 have:=Ho 4096 (rE s) h.fK fun k ab=>by have:=h.rg k ab;omega
 rwa[show(rE s).length=s.length from aq3 _] at this
theorem e2.new {n U:Int} (h:pb n=true):e2 ⟨n,U,[],[],[]⟩:=by
 simp[pb] at h;exact⟨h.1,h.2,lO.nil _,lO.nil _,fun w hw=>(by cases hw),fun w hw=>(by cases hw)⟩
theorem e2.ol {m:bY} (h:e2 m):e2 m.ol:=⟨h.ky,h.cH,h.bF,h.bF,fun w hw=>(by cases hw),fun w hw=>(by cases hw)⟩
theorem M0 {n:Int} {ed:List Int}: ∀{l:List (Z o9)} {k:Nat} {s:hK},(∀w∈l,0<=(show Int from w.1)/\(show Int from w.1) < n)->(∀w∈l,rD w.2)->lO n s->lO n (qA ed k l s)
 | [],_,_,_,_,h=>h
 |w::l,k,s,E,G,h=>by
  unfold qA;refine M0 (fun v az=>E v (ap2 _ az)) (fun v az=>G v (ap2 _ az)) ?_
  split
  .exact h.put (E w (aq1 ..)).1 (E w (aq1 ..)).2 (G w (aq1 ..))
  .exact h
theorem e2.ll {m:bY} (h:e2 m) (ed:List Int):e2 (m.ll ed):=
 ⟨h.ky,h.cH,M0 h.Hm h.AA h.lM,M0 h.Hm h.AA h.lM,fun w hw=>(by cases hw),fun w hw=>(by cases hw)⟩
theorem e2.Hf {m:bY} (h:e2 m) {n:Int} (hn:pb n=true):e2 (m.Hf n):=by
 simp[pb] at hn;exact⟨hn.1,hn.2,h.bF.filter n,h.bF.filter n,fun w hw=>(by cases hw),fun w hw=>(by cases hw)⟩
theorem e2.U {m:bY} (h:e2 m) (r:Int):e2 {m with U:=r}:=⟨h.ky,h.cH,h.bF,h.lM,h.Hm,h.AA⟩
theorem M1 {n at_:Int} {b:List UInt8} (aw:0<=at_) {s:hK} (h:lO n s): ∀k:Nat,at_+k<=n->16*k<=b.length->lO n (yn at_ b s k)
 |0,_,_=>h
 |k+1,E,G=>(M1 aw h k au5 au5).put au5 au5 (MS G)
theorem M2 {at_:Int} {b:List UInt8} {l:List (Z o9)} {w:Z o9}: ∀k:Nat,w∈wB at_ b l k->w∈l\/ ∃i,i < k/\w=Hi (at_+(i:Nat)) (sH b i)
 |0,h=>.inl h
 |k+1,h=>by
  rcases aq8.1 h with h |h
  .rcases M2 k h with h |⟨i,aI,e⟩
   .exact .inl h
   .exact .inr ⟨i,au5,e⟩
  .rw[aq0] at h;exact .inr ⟨k,au5,h⟩
theorem e2.write {m:bY} (h:e2 m) (at_:Int) (b:List UInt8):e2 (m.write at_ b).1:=by
 unfold bY.write
 split
 .exact h
 .split
  .exact h
  .rename_i aI;simp only[bY.kz,vj,ar5] at aI;obtain⟨⟨oG,oH⟩,uD⟩:=aI
   split
   .exact h
   .refine⟨h.ky,h.cH,M1 oG h.bF _ (by show at_+_<=m.n;omega) au5,h.lM,fun w hw=>?_,fun w hw=>?_⟩
    .rcases M2 _ hw with hw |⟨i,aI,rfl⟩
     .exact h.Hm w hw
     .show 0<=at_+(i:Nat)/\at_+(i:Nat) < m.n;omega
    .rcases M2 _ hw with hw |⟨i,aI,rfl⟩
     .exact h.AA w hw
     .exact MS au5
def bY.op (m:bY) (o:yo):bY×List UInt8×Int:=
 if Ay o=0 then((m.write (Hl o) (Vp o)).1,[],(m.write (Hl o) (Vp o)).2)
 else if Ay o=1 then(if Az o < 0 then(m,[],1) else match m.kz (Hl o) (Az o) with
  |true=>(m,pc m.bF (Hl o) (Az o).toNat,0)
  |false=>(m,[],31))
 else if Ay o=2 then(m.ol,[],0)
 else if Ay o=3 then(m.ll (alo o),[],0)
 else if Ay o=4 then(match pb (Az o) with
  |true=>(m.Hf (Az o),[],0)
  |false=>(m,[],1))
 else if Ay o=5 then({m with U:=max (Az o) 0},[],0)
 else(m,[],0)
theorem e2.op {m:bY} (h:e2 m) (o:yo):e2 (m.op o).1:=by
 unfold bY.op
 split
 .exact h.write _ _
 split
 .split
  .exact h
  .split <;>exact h
 split
 .exact h.ol
 split
 .exact h.ll _
 split
 .split
  .rename_i e;exact h.Hf e
  .exact h
 split
 .exact h.U _
 .exact h
end
section
abbrev qB (bD:Nat):Z .fn:=((220,[bD]):Nat×List Nat)
abbrev oo (bD a b:Nat):Z .fn:=((223,[bD,a,b]):Nat×List Nat)
abbrev M3 (d:Nat) (e:Int) (eJ:List (Z .fn)) (L:List (Nat×bh)):ay:=[(1001,.cells [.ptr 1002 0]),(1002,.cells [.own d,.d (.int .i64 e)]),(d,.row 113 .fn eJ),(1005,.aG (.bA L))]
abbrev alp (e:Int) (eJ:List (Z .fn)) (L:List (Nat×bh)):ay:=M3 1006 e eJ L
theorem Vs (at_:Int) (x:List UInt8) (bD:Nat) (e:Int) (eJ:List (Z .fn)) (L:List (Nat×bh)) (aq:eJ.length<=1000000):
  cv Tryz.prog 222 [ae at_,bS .u8 x,ao 1001,dn bD] (alp e eJ L) [2006] (X:=Nat×Nat) (fun _=>gI) (fun g=>M3 2006 e (eJ++[oo bD g.1 g.2]) ((g.2,hd (.ck .u8 x))::(g.1,hd (.int .i64 at_))::L)):=by
 refine hD [1] Tryz.func222 rfl rfl rfl rfl ?_;refine⟨rfl,rfl,bt.eY (df.box 4 4 1005 rfl rfl au6 rfl) fun ef=>?_⟩;refine bt.eY (df.box 5 5 1005 rfl rfl au6 rfl) fun fc=>?_
 refine bz [] (aH) ?_;have O:eJ.length+1<=4294967296:=by omega
 refine⟨O,rfl,rfl,?_⟩;exact⟨(ef,fc),_,_,_,(cG [] (M3 13 e (eJ++[oo bD ef fc]) ((fc,hd (.ck .u8 x))::(ef,hd (.int .i64 at_))::L))).trans (af.aX 13 2006 rfl),rfl,trivial,ac,rfl⟩
theorem alq {bD s:Nat} {m:bY} {L:List (Nat×bh)} {M:dN} (cW:eg L bD=some (hd (.aM (some s)))) (ar:hL M s=some m):
  Fn Tryz.prog 220 [dn bD] [(1005,.aG (.bA L)),(1003,.aG (.bA (eR M)))] [] (ae 0) [(1005,.aG (.bA L)),(1003,.aG (.bA (eR (g7 M s m.ol))))]:=by
 refine aW [] Tryz.func220 rfl rfl rfl rfl ?_;refine⟨_,_,fun N=>BV (q:=1005) rfl Tryz.underlying183 rfl rfl rfl cW N,rfl,?_⟩;refine au (Ax (akJ m) ar rfl rfl) ?_;exact aT aH rfl rfl ac rfl
theorem alr {bD s ef fc:Nat} {at_:Int} {x:List UInt8} {m:bY} {L:List (Nat×bh)} {M:dN} (G:eg L bD=some (hd (.aM (some s)))) (aZ:eg L ef=some (hd (.int .i64 at_))) (bK:eg L fc=some (hd (.ck .u8 x)))
  (ar:hL M s=some m) (ai:e2 m) (hx:x.length<=1073741824) (aq:m.eV.length<=1073741824):
  Fn Tryz.prog 223 [dn bD,dn ef,dn fc] [(1005,.aG (.bA L)),(1003,.aG (.bA (eR M)))] [] (ae (m.write at_ x).2) [(1005,.aG (.bA L)),(1003,.aG (.bA (eR (g7 M s (m.write at_ x).1))))]:=by
 refine aW [] Tryz.func223 rfl rfl rfl rfl ?_;refine⟨_,_,fun N=>BV (q:=1005) rfl Tryz.underlying183 rfl rfl rfl G N,rfl,?_⟩;refine⟨_,_,fun N=>BV (q:=1005) rfl Tryz.underlying3 rfl rfl rfl aZ N,rfl,?_⟩;refine⟨_,_,fun N=>BV (q:=1005) rfl Tryz.underlying25 rfl rfl rfl bK N,rfl,?_⟩;refine au (Ax (alk m at_ x hx ai.ky ai.cH (ai.bF.len ai.cH) ai.bF.wf aq) ar rfl rfl) ?_;exact aT aH rfl rfl ac rfl
end
section
theorem als (x:List UInt8) (hx:x.length<=4294967296):Fn Tryz.prog 152 [bS .u8 x] [] [2001] (eM 2001) (pP 2001 x):=by
 refine aW [1] Tryz.func152 rfl rfl rfl rfl ?_;refine bt.h3 eN au8 ?_;refine⟨_,Qr rfl rfl Tryz.underlying25,fun v e h=>?_⟩;obtain⟨b,O,rfl,rfl⟩:=h
 cases b
 .refine⟨rfl,?_⟩;have aq:0+x.length<=4294967296:=by omega
  refine⟨aq,rfl,?_⟩;exact⟨_,_,_,af.aX 7 2001 rfl,rfl,rfl,ac,rfl⟩
 .have O:=O rfl;subst O;exact⟨_,_,_,af.nil 2 2001 5 .u8 rfl rfl,rfl,rfl,ac,rfl⟩
def rG (x:List UInt8):List UInt8:=x++ea (jh x).toNat 4
theorem Vt (x:List UInt8) (hx:x.length<=1000000):Fn Tryz.prog 225 [bS .u8 x] [] [] (bS .u8 (rG x)) []:=by
 have h:=MN x;refine aW [2] Tryz.func225 rfl rfl rfl rfl ?_;refine au (als x au5) ?_;refine au (MO [x] au7 (fun y aC=>by rw[aq0] at aC;rw[aC];omega)) ?_;have aj:([x]:List (List UInt8)).flatten=x:=by simp
 rw[aj];refine au (Fn.arg (Fn.aX [(1001,2001),(1002,3002)] (yg x 4 [(jh x).toNat] (by unfold W;omega) (fun n hn=>by rw[aq0] at hn;rw[hn];omega) au7 au5)) ⟨rfl,rfl,Dg h.1,trivial⟩) ?_;refine bz [] (af.dV 3002 rfl) ?_;exact aT aH rfl (show x++ez 4 [(jh x).toNat]=rG x by unfold rG ez;simp) trivial rfl
def dq (n:Int):Int:=max (n - 2) 0/2
theorem Hp (n:Int) (aw:0<=n) (E:n<=4096):Fn Tryz.prog 217 [ae n] [] [] (ae (dq n)) []:=by
 refine aW [] Tryz.func217 rfl rfl rfl rfl ?_;have cx: -9223372036854775808<=n - 2/\n - 2<=9223372036854775807:=by omega
 refine⟨cx,?_⟩;have cA:0<=max (n - 2) 0/\(0:Int) < 2:=by omega
 have dy: -9223372036854775808<=max (n - 2) 0/2/\max (n - 2) 0/2<=9223372036854775807:=by omega
 refine⟨cA,dy,?_⟩;exact aT aH rfl rfl trivial rfl
theorem M4 (n:Int) (aw:0<=n) (E:n<=4096):Fn Tryz.prog 215 [ae n] [] [] (ae (dq n*16)) []:=by
 refine aW [] Tryz.func215 rfl rfl rfl rfl ?_;refine au (Hp n aw E) ?_;have dy: -9223372036854775808<=dq n*16/\dq n*16<=9223372036854775807:=by unfold dq;omega
 refine⟨dy,?_⟩;exact aT aH rfl rfl trivial rfl
end
section
open Go.RowKit Go.Proofs Go.Maps Go.Shelf Go.MapKept
open Go.WideElems (Fit rd rg pl rd_val rd_key rg_of)
def alt {aL:bx} (p:Z .str×Z aL):List UInt8:=p.1
def u7 {aL:bx} (es:List (Z .str×Z aL)):List (List UInt8):=es.map alt
end
section
abbrev lP:bx:=.bR .str (.b7 ak)
abbrev lQ:=Z lP
abbrev pd (k:lQ):List UInt8:=k.1
abbrev mi (k:lQ):List Int:=k.2
def u9 (ks:List lQ) (nm:List UInt8):Option Nat:=ks.findIdx? fun k=>decide (pd k=nm)
def qC (ks:List lQ) (nm:List UInt8):Int:=match u9 ks nm with
 |some i=>(i:Nat)
 |none=> -1
def sK (ks:List lQ) (nm:List UInt8):List Int:=match u9 ks nm with
 |some i=>match ks[i]? with
  |some k=>mi k
  |none=>[]
 |none=>[]
theorem alu (k:lQ) (nm:List UInt8):Fn Tryz.prog 108 [.c (.agg [.d (.str (pd k)),.d (.ck ak (mi k))]),ao 1001] [(1001,.cells [.d (.str nm)])] [] (fI (decide (pd k=nm))) [(1001,.cells [.d (.str nm)])]:=by
 refine aW [] Tryz.func108 rfl rfl rfl rfl ?_;refine⟨rfl,?_⟩;exact aT aH rfl rfl ac rfl
theorem alv (ks:List lQ) (nm:List UInt8) (aq:ks.length<=4294967296):
  Fn Tryz.prog 107 [bS lP ks,kH (.cT 108 [.p 1001 0])] [(1001,.cells [.d (.str nm)])] [] (ae (qC ks nm)) [(1001,.cells [.d (.str nm)])]:=by
 refine aW [] Tryz.func107 rfl rfl rfl rfl ?_;refine dX [] (X:=Nat) (fun k=>[(0,bS lP ks),(1,kH (.cT 108 [.p 1001 0])),(7,ae (ks.length:Nat)),(8,ae (k:Nat))]) (fun _=>[(1001,.cells [.d (.str nm)])]) (fun k=>k<=ks.length/\ ∀(i:Nat) x,i < k->ks[i]? =some x->pd x≠nm) (fun k=>ks.length - k) 0 ⟨ap7 _,fun i x h=>absurd h (au3 _)⟩ ?_ ?_
 .exact af.sub ac ac
 rintro k ⟨ab,ag⟩;refine⟨fun h=>?_,fun h=>?_⟩
 .have cn:k < ks.length:=by
   have h:decide ((k:Int) < (ks.length:Int))=true:=h;simpa using h
  refine⟨au5,ks[k],jv (n:=k) cn,au (alu ks[k] nm) ?_⟩;refine⟨fun G=>?_,fun G=>?_⟩
  .have G:pd ks[k]=nm:=gd G;refine⟨_,_,_,aH,rfl,(show((k:Nat):Int)=qC ks nm from ?_),ac,rfl⟩
   have:u9 ks nm=some k:=by
    rw[u9,List.findIdx?_eq_some_iff_getElem];refine⟨cn,by simp[G],fun j aa=>?_⟩;have:=ag j _ aa (oj au5);simpa using this
   rw[qC,this]
  .have G:pd ks[k]≠nm:=mu G;refine⟨au5,k+1,⟨au5,fun i x aI hx=>?_⟩,au5,af.sub ac ac⟩;rcases Nat.lt_or_ge i k with aZ |aZ
   .exact ag i x aZ hx
   .have:i=k:=by omega
    subst this;rw[oj cn] at hx;injection hx with hx
    rw[<-hx];exact G
 .have fd:k=ks.length:=by
   have h:decide ((k:Int) < (ks.length:Int))=false:=h;simp at h;omega
  refine⟨_,_,_,aH,rfl,(show(-1:Int)=qC ks nm from ?_),ac,rfl⟩
  have:u9 ks nm=none:=by
   rw[u9,List.findIdx?_eq_none_iff];intro x hx;obtain⟨i,aI,rfl⟩:=List.getElem_of_mem hx;have:=ag i _ au5 (oj aI);simpa using this
  rw[qC,this]
theorem tG (p:Nat×bY) (L:dN) (b:Nat):hL (p::L) b=if p.1=b then some p.2 else hL L b:=rfl
def kV (f:Nat->bY->bY) (L:dN):dN:=L.map fun q=>(q.1,f q.1 q.2)
theorem Vu (f:Nat->bY->bY) (a:Nat): ∀L:dN,hL (kV f L) a=(hL L a).map (f a)
 | []=>rfl
 |p::L=>by
  show(if p.1=a then some (f p.1 p.2) else hL (kV f L) a)=_;rw[tG]
  split
  .rename_i e;rw[e];rfl
  .exact Vu f a L
theorem Vv {f g:Nat->bY->bY} {L:dN} (h: ∀p∈L,f p.1 p.2=g p.1 p.2):kV f L=kV g L:=ar1 fun p ag=>by rw[h p ag]
theorem Vw {f g:Nat->bY->bY} {a:Nat} {gm:bY}: ∀{L:dN},(L.map (·.1)).Nodup-> ∀{m:bY},hL L a=some m->g a m=gm->(∀b,b≠a-> ∀m,g b m=f b m)->g7 (kV f L) a gm=kV g L
 | [],_,m,h,_,_=>by cases h
 |p::L,hn,m,h,E,G=>by
  rw[aq4,aq7] at hn;show(if p.1=a then(p.1,gm)::kV f L else(p.1,f p.1 p.2)::g7 (kV f L) a gm)=(p.1,g p.1 p.2)::kV g L;rw[tG] at h
  split at h
  .rename_i e;injection h with h
   rw[if_pos e,<-E,<-h,e]
   congr 1
   refine Vv fun q aV=>(G _ (fun ap=>hn.1 ?_) _).symm
   rw[e,<-ap];exact aq6 aV
  .rename_i e;rw[if_neg e,Vw hn.2 h E G,G _ e]
theorem alw {ks:List lQ} {nm:List UInt8} (h:qC ks nm < 0):sK ks nm=[]:=by
 unfold sK;unfold qC at h
 cases e:u9 ks nm with
 |none=>rfl
 |some i=>rw[e] at h;simp only at h;omega
theorem alx {ks:List lQ} {nm:List UInt8} (h: ¬qC ks nm < 0): ∃(i:Nat) (aI:i < ks.length),qC ks nm=(i:Nat)/\sK ks nm=mi ks[i]:=by
 unfold sK;unfold qC at h⊢
 cases e:u9 ks nm with
 |none=>rw[e] at h;simp only at h;omega
 |some i=>
  have E:i < ks.length:=by
   rw[u9,List.findIdx?_eq_some_iff_getElem] at e;exact e.1
  refine⟨i,E,rfl,?_⟩;simp only;rw[oj E]
abbrev sL:=Nat×(Z .str×Z .aM)
def Vx (e:sL):List UInt8:=e.2.1
def mY (e:sL):Option Nat:=e.2.2
def pQ (ks:List lQ) (l:List sL) (bF:List Nat) (a:Nat) (m:bY):bY:=match l.find? fun e=>decide (mY e=some a) with
 |some e=>match bF.contains e.1 with
  |true=>m.ll (sK ks (Vx e))
  |false=>m
 |none=>m
def pe (p:Z .str×Z .aM):List UInt8:=p.1
def qD (p:Z .str×Z .aM):Option Nat:=p.2
def yq (ks:List lQ) (es:List (Z .str×Z .aM)) (a:Nat) (m:bY):bY:=match es.find? fun p=>decide (qD p=some a) with
 |some p=>m.ll (sK ks (pe p))
 |none=>m
theorem aly {ks:List lQ} {l:List sL} {bF:List Nat} (h: ∀e∈l,e.1∈bF) (a:Nat) (m:bY):pQ ks l bF a m=yq ks (l.map (·.2)) a m:=by
 unfold pQ yq;rw[List.find?_map]
 show _=match Option.map (·.2) (l.find? fun e=>decide (mY e=some a)) with
  |some p=>m.ll (sK ks (pe p))
  |none=>m
 cases e:l.find? fun e=>decide (mY e=some a) with
 |none=>rfl
 |some x=>
  have:=h x (at8 e);simp[this];rfl
structure lR (es:List (Z .str×Z .aM)) (L:dN) (W:Nat):Prop where
 ex: ∀p∈es,∃a,qD p=some a/\a∈L.map (·.1)
 fK:(es.map qD).Nodup
 yr:(L.map (·.1)).Nodup
 ok: ∀p∈L,e2 p.2
 rH: ∀p∈L,p.2.eV.length<=W
theorem M5 {a:Nat} {m:bY}: ∀{L:dN},hL L a=some m->(a,m)∈L
 | [],h=>by cases h
 |p::L,h=>by
  rw[tG] at h
  split at h
  .rename_i e;injection h with h
   rw[<-e,<-h];exact aq1 ..
  .exact ap2 _ (M5 h)
theorem Vy {a:Nat}: ∀{L:dN},a∈L.map (·.1)-> ∃m,hL L a=some m
 | [],h=>by cases h
 |p::L,h=>by
  rw[tG]
  split
  .exact⟨_,rfl⟩
  .rename_i e;rcases ap3.1 h with h |h
   .exact absurd h.symm e
   .exact Vy h
theorem alz {l:List sL} (hn:(l.map mY).Nodup) {e:sL} (V:e∈l) {a:Nat} (ha:mY e=some a):(l.find? fun x=>decide (mY x=some a))=some e:=by
 cases h:l.find? fun x=>decide (mY x=some a) with
 |none=>
  have:=List.find?_eq_none.1 h e V;simp[ha] at this
 |some x=>
  have E:=List.find?_some h;have G:=at8 h;have E:mY x=some a:=by simpa using E
  rw[MR hn G V (E.trans ha.symm)]
abbrev alA (ks:List lQ):a1:=[(0,ao 1001),(1,bS lP ks),(11,ao 11)]
abbrev alB (U:Int) (b bU:Nat) (bF:List Nat) (l:List sL) (L:dN):ay:=[(1001,.cells [.d (.int .i64 U),.mp 1002]),(1002,.aG (.vR b .str .aM l bU)),(11,.aG (.vS b bU bF bU)),(1003,.aG (.bA (eR L)))]
def yt (bF:List Nat) (l:List sL):List sL:=l.filter fun p=> !bF.contains p.1
theorem Vz {bF:List Nat} {l:List sL} {p:sL} (ag:p∈l) (hn:p.1∉bF):(yt (bF++[p.1]) l).length < (yt bF l).length:=by
 have e:yt (bF++[p.1]) l=(yt bF l).filter fun q=> !decide (q.1=p.1):=by
  unfold yt;rw[List.filter_filter];refine List.filter_congr fun q _=>?_
  by_cases e:q.1=p.1 <;>simp[e]
 rw[e];have aA:p∈yt bF l:=at5.2 ⟨ag,by simp[hn]⟩;exact List.length_filter_lt_length_iff_exists.2 ⟨p,aA,au7⟩
set_option maxHeartbeats 1000000 in
theorem alC (U:Int) (es:List (Z .str×Z .aM)) (L:dN) (W:Nat) (ks:List lQ) (h:lR es L W) (d2:W<=1073741824) (ab:ks.length<=1073741824) (hg: ∀k∈ks,(mi k).length<=1073741824):
  Fn Tryz.prog 68 [ao 1001,bS lP ks] (nr 1001 1002 1003 U es L) [] gI (nr 1001 1002 1003 U es (kV (yq ks es) L)):=by
 refine aW [0] Tryz.func68 rfl rfl rfl rfl ?_;refine bt.eY (df.Qj 1002 rfl) fun x=>?_
 obtain⟨b,l,bU,u',M6,bw⟩:=x;refine bz [] (aH) ?_;refine⟨_,_,fun N=>Ql (d:=11) rfl Tryz.underlying98 rfl rfl N,rfl,?_⟩;show bt _ _ _ _ _ _ _;have O:(l.map (·.1)).Nodup:=M6.imp fun h=>by omega
 have d0:(l.map mY).Nodup:=by
  have:=h.fK;rw[<-u',as2] at this;exact this
 refine dX [1] (X:=List Nat) (fun _=>alA ks) (fun bF=>alB U b bU bF l (kV (pQ ks l bF) L)) (fun _=>True) (fun bF=>(yt bF l).length) [] trivial ?_ ?_
 .refine af.sub ac ⟨rfl,rfl,rfl,?_,trivial⟩
  have:kV (pQ ks l []) L=L:=by
   have: ∀p:Nat×bY,(p.1,pQ ks l [] p.1 p.2)=p:=fun p=>by
    unfold pQ
    split <;>rfl
   unfold kV;simp only[this];exact List.map_id' L
  rw[this];rfl
 intro bF _;refine bt.h3 eN au8 ?_;refine⟨_,Qp (c:=1002) (r:=11) rfl rfl rfl rfl (fun p ag=>bw _ (aq6 ag)) (ap0 _),fun v e az=>?_⟩;rcases az with⟨p,ag,ax,rfl,rfl⟩ |⟨eB,rfl,rfl⟩
 .have AC:p.2∈es:=by rw[<-u'];exact aq6 ag
  obtain⟨a,ha,alD⟩:=h.ex _ AC;obtain⟨m,aA⟩:=Vy alD;have k4:=M5 aA;have ye:=alz d0 ag (a:=a) ha
  have O9:pQ ks l bF a m=m:=by
   unfold pQ;rw[ye];simp[ax]
  have mw:hL (kV (pQ ks l bF) L) a=some m:=by rw[Vu,aA,at2,O9]
  have gN:g7 (kV (pQ ks l bF) L) a (m.ll (sK ks (Vx p)))=kV (pQ ks l (bF++[p.1])) L:=by
   refine Vw h.yr aA ?_ ?_
   .unfold pQ;rw[ye];simp
   .intro dZ dm gm;unfold pQ
    cases e:l.find? fun e=>decide (mY e=some dZ) with
    |none=>rfl
    |some y=>
     have E:mY y=some dZ:=by simpa using List.find?_some e
     have ba:y.1≠p.1:=fun ap=>by
      have:=MR O (at8 e) ag ap;rw[this] at E;exact dm (Option.some.inj (E.symm.trans ha))
     simp[ba]
  have eu:=h.ok _ k4;have Hk:=h.rH _ k4;obtain⟨VA,yu,pa⟩:=p;have ha:pa=some a:=ha;subst ha;refine⟨_,_,fun N=>Qq (c:=1002) (r:=11) rfl rfl rfl rfl ag N,rfl,?_⟩;refine⟨rfl,au (Fn.aX [(1001,4)] (alv ks yu au5)) ?_⟩;refine⟨fun G=>?_,fun G=>?_⟩
  .have G:qC ks yu < 0:=gd G;have qq:sK ks yu=[]:=alw G;refine au (Fn.arg (Ax (Vg m [] au7 (by have:=Hk;simp only at this;omega) eu.AA) mw rfl rfl) ac) ?_;refine⟨bF++[VA],trivial,Vz ag ax,af.sub ac ⟨rfl,rfl,rfl,?_,trivial⟩⟩;rw[<-gN];show _=some (bd.aG (bh.bA (eR (g7 _ a (m.ll (sK ks yu))))));rw[qq];rfl
  .have G: ¬qC ks yu < 0:=mu G;obtain⟨i,aI,vt,qq⟩:=alx G;refine⟨au5,ks[i],(by rw[show(qC ks yu).toNat=i by omega];exact jv (n:=i) aI),au (Ax (Vg m (mi ks[i]) (by have:=hg _ (ar3 aI);omega) (by have:=Hk;simp only at this;omega) eu.AA) mw rfl rfl) ?_⟩;refine⟨bF++[VA],trivial,Vz ag ax,af.sub ac ⟨rfl,rfl,rfl,?_,trivial⟩⟩;rw[<-gN];show _=some (bd.aG (bh.bA (eR (g7 _ a (m.ll (sK ks yu))))));rw[qq];rfl
 .refine⟨_,_,_,af.Qk 1002 rfl,rfl,trivial,⟨rfl,?_,?_,trivial⟩,rfl⟩
  .show some (bd.map .str .aM (l.map (·.2)))=_;rw[u']
  .show some (bd.aG (bh.bA (eR (kV (pQ ks l bF) L))))=_;rw[Vv (g:=yq ks es) fun q _=>by rw[aly eB,u']]
end
section
theorem Hq {b:Nat} {m:bY}: ∀{L:dN},hL L b=some m->g7 L b m=L
 | [],h=>by cases h
 |p::L,h=>by
  rw[tG] at h;show(if p.1=b then(p.1,m)::L else p::g7 L b m)=_
  split at h
  .rename_i e;injection h with h
   rw[if_pos e,<-h]
  .rename_i e;rw[if_neg e,Hq h]
theorem alE (a b:List UInt8):(fV .str (a:Z .str) (b:Z .str)=true)↔a=b:=by
 show yJ a b=true↔a=b;unfold yJ;exact decide_eq_true_iff
end
end Go.Proofs.YthnboghbhgapcaaGreat
