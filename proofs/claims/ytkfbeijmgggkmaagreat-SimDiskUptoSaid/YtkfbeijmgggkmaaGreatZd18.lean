/-
A part of the proof of this claim: lemmas, with no condition beyond what each says.
-/
import Derived.Test.YtkfbeijmgggkmaaGreatZd17
set_option linter.unusedVariables false
set_option linter.unusedSimpArgs false
set_option maxRecDepth 10000
set_option maxHeartbeats 4000000
namespace Go.Proofs.YtkfbeijmgggkmaaGreat
open Go.RowKit Go.Proofs Tryz
section
def iD (b:Bool):Nat:=if b=true then 1 else 0
theorem HU (b:Bool):iD b < 256 ^1:=by cases b <;>decide
theorem NE (b:Bool):Fn Tryz.prog 55 [fI b] [] [] (ab ((iD b:Nat):Int)) []:=by
 refine aU [] Tryz.func55 ?_;refine⟨fun h=>?_,fun h=>?_⟩
 .have h:b=true:=h;subst h;exact bg
 .have h:b=false:=h;subst h;exact bg
def iE (he:Bool) (e:bd):aC3:=gH e.nm 1++(eL 1 [iD e.on,iD (e.us&&he)]++gH (encZ e.s e.g e.es) 2)
def nD (he:Bool) (l:List bd) (nm:aC3):aC3:=match dd l nm with
 |some e=>iE he e
 |none=>[]
def qM (he:Bool) (l:List bd):aC3:=eL 1 [l.length]++(ik l).flatMap (nD he l)
abbrev HV (he:Bool) (l:List bd) (r k:Nat):aY:=[(0,aq 1001),(1,fI he),(5,eM r),(21,bQ .str (ik l)),(22,ab ((ik l).length:Nat)),(23,ab (k:Nat))]
abbrev alE (he:Bool) (l:List bd) (r k:Nat) (nm:aC3) (ad:Nat):aY:=(8,bT nm)::(9,dr ad)::HV he l r k
abbrev HW (l:List bd) (r:Nat) (x:aC3):az:=eA l++[(r,.row 5 .u8 x)]
theorem VT {he:Bool} {e:bd} (aw:0<=e.s/\e.s<=4096) (aZ:1<=e.g/\e.g<=64) (hn:e.nm.length<=64):(iE he e).length<=600:=by
 have h:=HS aw aZ e.es;unfold iE;rw[aq1,aq1,yK,yK,nB];simp;omega
theorem HX {l:List bd} {nm:aC3} (h:nm∈ik l): ∃e,dd l nm=some e:=by
 unfold ik oh at h;have h:=(List.mergeSort_perm _ _).mem_iff.1 h;rw[AV] at h;obtain⟨d,H,e⟩:=as9.1 h
 cases aa:dd l nm with
 |some e=>exact⟨e,rfl⟩
 |none=>exact absurd (e▸ar8 H) (Hs aa)
theorem VU {l:List bd} (h:d9 l) (he:Bool):Fn Tryz.prog 25 [aq 1001,fI he] (eA l) [] (bQ .u8 (qM he l)) (eA l):=by
 obtain⟨o8,gj,gk⟩:=ku DK;obtain⟨M4,wW,wX⟩:=ku Hq;have bV:=h.len;have aqK:=M2 l;have yD:(dW l).length=l.length:=by unfold dW;exact ar1 _
 have alF:=ajC h;have dQ:=HN 1 [l.length] (.inl rfl) (fun n hn=>by simp only[ar5] at hn;omega) ay6;have i5:=nB 1 [l.length];refine aU [] Tryz.func25 ?_;refine av (Fn.arg (Fn.aV [(1002,2002)] dQ) ⟨rfl,rfl,(show([((dW l).length:Int)]:List Int)=sR [l.length] by rw[yD];rfl),trivial⟩) <| av alF <| d2 [6,8] (X:=Nat) (HV he l 2001) (fun k=>HW l 2001 (eL 1 [l.length]++((ik l).take k).flatMap (nD he l))) (fun k=>k<=(ik l).length) (fun k=>(ik l).length - k) 0 (aq8 _) ?_ ?_
 .exact ac.trans (ac.sub (K':=HV he l 2002 0) (B':=HW l 2002 (eL 1 [l.length]++((ik l).take 0).flatMap (nD he l))) aC ⟨rfl,rfl,rfl,rfl,congrArg (fun l=>some (ba.row _ .u8 l)) (at6 _).symm,trivial⟩) (ac.aV 2002 2001 rfl)
 intro k aa;have aa:k<=(ik l).length:=aa;refine⟨fun J=>?_,fun J=>?_⟩
 .have ct:k < (ik l).length:=by simpa using J
  obtain⟨e,U⟩:=HX (as3 ct);have en:=Ns (nD he l) ct;have F8:=pW (L:=ik l) (n:=(k:Nat)) rfl ct;have ol:nD he l (ik l)[k]=iE he e:=by unfold nD;rw[U]
  rw[ol] at en;obtain⟨rl,pg⟩:=kx U;obtain⟨cj,cT,eg,eR⟩:=h.ok e rl
  have eQ:((eL 1 [l.length]++((ik l).take k).flatMap (nD he l))).length<=8*600+1:=by
   rw[aq1,i5]
   have E:(((ik l).take k).flatMap (nD he l)).length<=((ik l).take k).length*600:=yL (nD he l) 600 _ fun nm aA=>by
    obtain⟨b7,gW⟩:=HX (List.mem_of_mem_take aA);obtain⟨cA,cF,dF,fj⟩:=h.ok b7 (kx gW).1;unfold nD;rw[gW];exact VT cA cF fj
   rw[aq9] at E;have aqL: [l.length].length*1=1:=rfl;omega
  rw[<-pg] at F8 U;have cf:=h.D rl;have aj:=h.M rl;have AF:=Hp (alu e.s e.g e.es cj cT) aj rfl rfl rfl rfl;rw[xX aj] at AF;have mH:=HS cj cT e.es;have alG:eL 1 [l.length]++((ik l).take (k+1)).flatMap (nD he l)=(eL 1 [l.length]++((ik l).take k).flatMap (nD he l))++iE he e:=by rw[en,au2]
  generalize eL 1 [l.length]++((ik l).take k).flatMap (nD he l)=A at*;have t2:=DR A e.nm 1 (.inl rfl) ay4 ay4 ay4;have gU:=yK e.nm 1
  have A3:=yJ (A++gH e.nm 1) 1 [iD e.on,iD (e.us&&he)] (.inl rfl) (fun n hn=>by
   simp only[aq5,List.not_mem_nil,or_false] at hn;rcases hn with rfl |rfl
   .exact HU _
   .exact HU _) ay6 (by rw[aq1,gU];omega)
  have pC:=nB 1 [iD e.on,iD (e.us&&he)];have t3:=DR (A++gH e.nm 1++eL 1 [iD e.on,iD (e.us&&he)]) (encZ e.s e.g e.es) 2 (.inr (.inl rfl)) ay4 ay4 (by rw[aq1,aq1,gU,pC];simp;omega);have DY:A++gH e.nm 1++eL 1 [iD e.on,iD (e.us&&he)]++gH (encZ e.s e.g e.es) 2=A++iE he e:=by unfold iE;simp only[au2]
  refine⟨ay4,e.nm,F8,bu [8] (ac.sub (K':=alE he l 2001 k e.nm e.ad) (B':=HW l 2001 A) ⟨rfl,(AY U),rfl,rfl,rfl,rfl,rfl,rfl,trivial⟩ aC) <| av (Fn.aV [(1001,2001),(1002,2002)] t2) ⟨_,_,fun N=>i' (b:=e.ad) rfl rfl N,rfl,?_⟩⟩;refine⟨_,_,fun N=>jq rfl Tryz.underlying60 rfl rfl gj az6 rfl N,rfl,?_⟩;refine⟨_,_,fun N=>lq (q:=1003) rfl Tryz.underlying4 rfl rfl rfl cf rfl N,rfl,?_⟩;refine av (NE e.on) ⟨_,_,fun N=>i' (b:=e.ad) rfl rfl N,rfl,?_⟩;refine⟨_,_,fun N=>jq rfl Tryz.underlying60 rfl rfl gj az6 rfl N,rfl,?_⟩;refine⟨_,_,fun N=>lq (q:=1003) rfl Tryz.underlying4 rfl rfl rfl cf rfl N,rfl,?_⟩;refine⟨fun a6=>?NF,fun a6=>?NG⟩
  case' NF=>
   have a6:e.us=true:=a6;rw[a6,Bool.true_and] at A3 t3 DY pC;refine av (NE he) ?_
  case' NG=>
   have a6:e.us=false:=a6;rw[a6,Bool.false_and] at A3 t3 DY pC;refine av (Fn.arg (NE false) aC) ?_
  all_goals
   refine av (Fn.aV [(1001,2002),(1002,2003)] A3) ⟨eF ay7,bu [] (br) ⟨_,_,fun N=>i' (b:=e.ad) rfl rfl N,rfl,?_⟩⟩;refine⟨_,_,fun N=>jq rfl Tryz.underlying60 rfl rfl wW (by rw[wX];decide) rfl N,rfl,?_⟩;refine⟨_,_,fun N=>lq (q:=1003) rfl Tryz.underlying58 rfl rfl rfl cf rfl N,rfl,?_⟩;exact av AF <| av (Fn.aV [(1001,2003),(1002,2004)] t3) ⟨ay4,k+1,ct,ay4,ac.trans (ac.sub (K':=HV he l 2004 (k+1)) (B':=HW l 2004 (eL 1 [l.length]++((ik l).take (k+1)).flatMap (nD he l))) aC ⟨rfl,rfl,rfl,rfl,congrArg (fun l=>some (ba.row _ .u8 l)) (DY.trans alG.symm),trivial⟩) (ac.aV 2004 2001 rfl)⟩
 .have ct:k=(ik l).length:=by
   have: ¬k < (ik l).length:=by simpa using J
   omega
  subst ct;rw[ar9];exact⟨_,_,_,ac.d0 2001 rfl,rfl,rfl,aC,rfl⟩
end
section
theorem VV (es:List (Z al×Z al)): ∀(n:Nat) (aB:Int),bY (aI:=al) (aK:=al) (hz es n) aB=if(0<=aB/\aB < (n:Int))/\iR es aB=true then some (1:Int) else none
 |0,aB=>by
  rw[if_neg ay4];rfl
 |n+1,aB=>by
  have h:=VV es n aB;unfold hz
  by_cases ai:iR es (n:Int)=true
  .rw[if_pos ai];obtain⟨dQ,cW⟩:=zV (aI:=al) (aK:=al) rq (n:Int) (1:Int) (hz es n)
   by_cases e:aB=(n:Int)
   .subst e;rw[if_pos ⟨ay4,ai⟩];exact dQ
   .rw[cW aB e,h]
    by_cases q:(0<=aB/\aB < (n:Int))/\iR es aB=true
    .rw[if_pos q,if_pos ⟨ay4,q.2⟩]
    .rw[if_neg q,if_neg (fun bf=>q ⟨ay4,bf.2⟩)]
  .rw[if_neg ai,h]
   by_cases q:(0<=aB/\aB < (n:Int))/\iR es aB=true
   .rw[if_pos q,if_pos ⟨ay4,q.2⟩]
   .rw[if_neg q,if_neg (fun bf=>by
     by_cases e:aB=(n:Int)
     .subst e;exact ai bf.2
     .exact q ⟨ay4,bf.2⟩)]
theorem VW {s g:Int} (aw:0<=s/\s<=4096) (aZ:1<=g/\g<=64) {es:List (Z al×Z al)} (a8:kB s g es) (aB:Int):iR (hz es (8*fw s g)) aB=iR es aB:=by
 have fa:=HR aw aZ;have h:=VV es (8*fw s g) aB;have aN:=a8 aB;show Dx ((bY (aI:=al) (aK:=al) (hz es (8*fw s g)) aB).getD (cO al))=_;rw[h]
 cases ai:iR es aB
 .rw[if_neg (fun bf=>by cases bf.2)];rfl
 .have aN:=aN ai;rw[if_pos ⟨ay4,rfl⟩];rfl
theorem VX {es eB:List (Z al×Z al)} (h: ∀aB,iR eB aB=iR es aB) (aB:Int): ∀k,il eB aB k=il es aB k
 |0=>rfl
 |k+1=>by unfold il;rw[h,VX h aB k]
theorem VY {es eB:List (Z al×Z al)} (h: ∀aB,iR eB aB=iR es aB): ∀n,pj eB n=pj es n
 |0=>rfl
 |n+1=>by unfold pj;rw[VX h,VY h n]
theorem alH {s g:Int} (aw:0<=s/\s<=4096) (aZ:1<=g/\g<=64) {es:List (Z al×Z al)} (a8:kB s g es):encZ s g (hz es (8*fw s g))=encZ s g es:=by
 unfold encZ;rw[VY (VW aw aZ a8)]
theorem NH (es:List (Z al×Z al)): ∀n,e5 (hz es n)
 |0=>List.Pairwise.nil
 |n+1=>by
  unfold hz
  split
  .exact e5.put rq (NH es n)
  .exact NH es n
end
section
def hU (l:List bd):List bd:=(ik l).filterMap (dd l)
theorem VZ (c:Bool) (l:List bd): ∀N:List aC3,(∀nm∈N,∃e,dd l nm=some e)->N.flatMap (nD c l)=(N.filterMap (dd l)).flatMap (iE c)
 | [],_=>rfl
 |nm::N,h=>by
  obtain⟨e,U⟩:=h nm (ar2 ..);have E:nD c l nm=iE c e:=by unfold nD;rw[U]
  rw[ax2,VZ c l N (fun x hx=>h x (aq2 _ hx)),E,ay2,U];rfl
theorem NI (c:Bool) (l:List bd):qM c l=eL 1 [l.length]++(hU l).flatMap (iE c):=by
 unfold qM hU;rw[VZ c l _ fun nm h=>HX h]
theorem V0 (l:List bd): ∀N:List aC3,(∀nm∈N,∃e,dd l nm=some e)->(N.filterMap (dd l)).map (·.nm)=N
 | [],_=>rfl
 |nm::N,h=>by
  obtain⟨e,U⟩:=h nm (ar2 ..);rw[ay2,U];show e.nm::(N.filterMap (dd l)).map (·.nm)=_;rw[V0 l N (fun x hx=>h x (aq2 _ hx)),(kx U).2]
theorem NJ (l:List bd):(hU l).map (·.nm)=ik l:=V0 l _ fun nm h=>HX h
theorem alI (l:List bd):(hU l).length=l.length:=by
 rw[<-M2 l,<-NJ l,ar1]
theorem HY {l:List bd} {e:bd} (h:e∈hU l):e∈l:=by
 obtain⟨nm,_,G⟩:=List.mem_filterMap.1 h;exact(kx G).1
abbrev A4:Type:=aC3×Bool×Bool×Int×Int×List (Z al×Z al)
def pk (e:bd):A4:=(e.nm,e.on,e.us,e.s,e.g,e.es)
def qN (e:bd):A4:=(e.nm,e.on,false,e.s,e.g,hz e.es (8*fw e.s e.g))
def HZ (c:Bool) (p:A4):aC3:=gH p.1 1++(eL 1 [iD p.2.1,iD (p.2.2.1&&c)]++gH (encZ p.2.2.2.1 p.2.2.2.2.1 p.2.2.2.2.2) 2)
theorem alJ (c:Bool) (e:bd):HZ c (pk e)=iE c e:=rfl
theorem alK {l:List bd} (h:d9 l) (a8: ∀e∈l,kB e.s e.g e.es) {e:bd} (U:e∈l):HZ true (qN e)=iE false e:=by
 obtain⟨cj,cT,eg,eR⟩:=h.ok e U;unfold HZ qN iE;show gH e.nm 1++(eL 1 [iD e.on,iD (false&&true)]++gH (encZ e.s e.g (hz e.es (8*fw e.s e.g))) 2)=_;rw[alH cj cT (a8 e U),Bool.and_false];rfl
theorem V1 {c b9:Bool} {g:bd->A4}: ∀{a b:List bd},a.map pk=b.map g->(∀e∈b,HZ c (g e)=iE b9 e)->a.flatMap (iE c)=b.flatMap (iE b9)
 | [],[],_,_=>rfl
 | [],_::_,h,_=>by cases h
 |_::_,[],h,_=>by cases h
 |x::a,y::b,h,q=>by
  injection h with E G
  rw[ax2,ax2,V1 G (fun e U=>q e (aq2 _ U)),<-alJ c x,E,q y (ar2 ..)]
theorem V2 {l:List bd} (h:d9 l) {e:bd} (U:e∈l):dd l e.nm=some e:=by
 cases aa:dd l e.nm with
 |none=>exact absurd (ar8 U) (Hs aa)
 |some b7=>
  obtain⟨E,G⟩:=kx aa;rw[wV h.jd E U G]
theorem V3 {l:List bd} (h:d9 l): ∀N:List bd,(∀e∈N,e∈l)->(N.map (·.nm)).filterMap (dd l)=N
 | [],_=>rfl
 |e::N,q=>by
  rw[ar4,ay2,V2 h (q e (ar2 ..)),V3 h N fun x hx=>q x (aq2 _ hx)]
theorem alL {l l':List bd} (h:d9 l) (h':d9 l') (a8: ∀e∈l,kB e.s e.g e.es) (ai:l'.map pk=(hU l).map qN):qM true l'=qM false l:=by
 have hn:l'.map (·.nm)=ik l:=by
  rw[<-NJ l];have E:=congrArg (List.map fun p:A4=>p.1) ai;rw[at7,at7] at E;exact E
 have H:ik l'=l'.map (·.nm):=by
  rw[hn];unfold ik oh;rw[AV l',hn];unfold ik oh;exact Go.mergeSort_of_perm (List.mergeSort_perm _ _)
 have aw:hU l'=l':=by
  unfold hU;rw[H];exact V3 h' l' fun e U=>U
 have ak:l'.length=l.length:=by
  have:=congrArg List.length hn
  rwa[ar1,M2] at this
 rw[NI,NI,aw,ak,V1 ai fun e U=>alK h a8 (HY U)]
end
section
abbrev g5:bz:=.arr 16 .u8
abbrev p0:bz:=.bP (.int .i64) g5
structure cn where
 n:Int
 R:Int
 nE:List (Z al×Z g5)
 bK:List (Z al×Z g5)
 fl:List (Z p0)
abbrev iS (c d e f:Nat) (m:cn):az:=[(c,.cells [.d (.int .i64 m.n),.d (.int .i64 m.R),.mp d,.mp e,.own f]),(d,.map al g5 m.nE),(e,.map al g5 m.bK),(f,.row 259 p0 m.fl)]
def hg (m:cn):bc:=.i9 1001 (iS 1001 1002 1003 1004 m)
def rX (n:Int):Bool:=decide (0<=n)&&decide (n<=4096)
theorem alM (n:Int):Fn Tryz.prog 241 [ab n] [] [] (fI (rX n)) []:=by
 refine aU [] Tryz.func241 ?_;refine⟨fun h=>?_,fun h=>?_⟩
 .exact eG br rfl (show decide (n<=4096)=rX n by simp at h;simp[rX,h])
 .exact eG br rfl (show false=rX n by simp at h;simp[rX];omega)
theorem alN (n r:Int) (h:(rX n&&decide (0<=r))=true):Fn Tryz.prog 216 [ab n,ab r] [] [1001] (.ci [.one (.ptr 1001 0),dz 0]) [(1001,.aG (hg ⟨n,r,[],[],[]⟩))]:=by
 refine aU [] Tryz.func216 ?_;refine av (alM n) ?_;simp only[vj,as5] at h;refine⟨fun E=>?_,fun E=>?_⟩
 .exfalso;simp[h.1] at E
 refine⟨fun G=>?_,fun G=>?_⟩
 .exfalso;simp at G;omega
 exact⟨rfl,rfl,rfl,_,_,_,(ac.wb 18 4 1004 259 p0 rfl rfl rfl).trans ((ac.aV 18 1001 rfl).trans ((ac.aV 15 1002 rfl).trans ((ac.aV 16 1003 rfl).trans (ac.close 1001 (iS 1001 1002 1003 1004 ⟨n,r,[],[],[]⟩) (o:=hg ⟨n,r,[],[],[]⟩) aC rfl fun _ _ _ _ h=>h)))),rfl,aC,aC,rfl⟩
end
section
theorem V4 (es:List (Z al×Z g5)):Fn Tryz.prog 179 [.c (.one (.mp 1001))] [(1001,.map al g5 es)] [2001] (.c (.one (.mp 2001))) [(1001,.map al g5 es),(2001,.map al g5 es)]:=
 Ur adC ay7 es
end
section
abbrev A5:aC4:=[1002,1003,1004]
theorem DZ {f:FuncId} {args:List aP} {m gw:cn} {aJ aO:az} {res:aP} {bb:aC4} (h:Fn Tryz.prog f args (iS 1001 1002 1003 1004 m++aJ) bb res (iS 1001 1002 1003 1004 gw++aO))
  (E:nZ 1001 A5 args (iS 1001 1002 1003 1004 m) aJ bb []=true) (G:n0 1001 (mO A5 bb []) res (iS 1001 1002 1003 1004 gw) aO=true):
  Fn Tryz.prog f args ((1001,.aG (hg m))::aJ) [] res ((1001,.aG (hg gw))::aO):=
 (cx.close (bp:=iS 1001 1002 1003 1004 m) (dG:=fun _:Unit=>iS 1001 1002 1003 1004 gw) (aO:=fun _=>aO) (o:=hg m) (o':=fun _=>hg gw) A5 h.x (fun _ _ _ _ h=>h) (fun _ _ _ _ _ h=>h) E (fun _=>G)).fn
def cn.lh (m:cn) (at_ aX:Int):Bool:=decide (0<=at_)&&decide (aX<=m.n)&&decide (at_<=m.n - aX)
theorem alO (m:cn):Fn Tryz.prog 238 [aq 1001] [(1001,.aG (hg m))] [] (ab m.n) [(1001,.aG (hg m))]:=by
 refine DZ (aJ:=[]) (aO:=[]) (bb:=[]) ?_ rfl rfl;refine aU [] Tryz.func238 ?_;exact bg
theorem V5 (m:cn):Fn Tryz.prog 264 [aq 1001] (iS 1001 1002 1003 1004 m) [] (ab (m.bK.length:Nat)) (iS 1001 1002 1003 1004 m):=by
 refine aU [] Tryz.func264 ?_;exact bg
theorem NK (m:cn) (at_ aX:Int) (au:0<=aX) (E:0<=m.n) (G:m.n<=4096):Fn Tryz.prog 262 [aq 1001,ab at_,ab aX] (iS 1001 1002 1003 1004 m) [] (fI (m.lh at_ aX)) (iS 1001 1002 1003 1004 m):=by
 refine aU [] Tryz.func262 ?_;refine⟨fun h=>?_,fun h=>?_⟩
 .have h:decide (0<=at_)=true:=h;refine⟨fun af=>?_,fun af=>?_⟩
  .have af:decide (aX<=m.n)=true:=af;have aW:aX<=m.n:=by simpa using af
   refine⟨ay4,?_⟩;exact eG br rfl (show decide (at_<=m.n - aX)=m.lh at_ aX by rw[cn.lh,h,af];rfl)
  .have af:decide (aX<=m.n)=false:=af;exact eG br rfl (show false=m.lh at_ aX by rw[cn.lh,h,af];rfl)
 .have h:decide (0<=at_)=false:=h;exact eG br rfl (show false=m.lh at_ aX by rw[cn.lh,h];rfl)
def cn.p1 (m:cn):cn:={m with nE:=m.bK,fl:=[]}
theorem alP (m:cn):Fn Tryz.prog 243 [aq 1001] (iS 1001 1002 1003 1004 m) [2001,2002] gO (iS 1001 2001 1003 2002 m.p1):=by
 refine aU [] Tryz.func243 ?_;exact av (Fn.aV [(1001,1003)] (V4 m.bK)) ⟨_,_,_,ac.wb 1001 4 2002 259 p0 rfl rfl rfl,rfl,trivial,aC,rfl⟩
end
section
theorem NL {f:FuncId} {args:List aP} {m gw:cn} {aJ aO:az} {res:aP} {bb:aC4} {d e g:Nat} (l:List (Nat×Nat)) (h:Fn Tryz.prog f args (iS 1001 1002 1003 1004 m++aJ) bb res (iS 1001 d e g gw++aO))
  (ak:eC (ln l []) 1001=1001/\eC (ln l []) d=1002/\eC (ln l []) e=1003/\eC (ln l []) g=1004)
  (E:nZ 1001 A5 args (iS 1001 1002 1003 1004 m) aJ bb []=true) (G:n0 1001 (mO A5 bb []) res (iS 1001 d e g gw) aO=true):
  Fn Tryz.prog f args ((1001,.aG (hg m))::aJ) [] res ((1001,.aG (hg gw))::aO):=
 (cx.close (bp:=iS 1001 1002 1003 1004 m) (dG:=fun _:Unit=>iS 1001 d e g gw) (aO:=fun _=>aO) (o:=hg m) (o':=fun _=>hg gw) A5 h.x (fun _ _ _ _ h=>h) (fun _ I F w p bf=>by
  have:=jn.aV l bf;obtain⟨ae,ao,bm,c0⟩:=ak;simp only[iS,kp,ae,ao,bm,c0,ba.eC,zO,bB.eC] at this;exact this) E (fun _=>G)).fn
theorem alQ (m:cn):Fn Tryz.prog 243 [aq 1001] [(1001,.aG (hg m))] [] gO [(1001,.aG (hg m.p1))]:=
 NL (aJ:=[]) (aO:=[]) [(2001,1002),(2002,1004)] (alP m) ⟨rfl,rfl,rfl,rfl⟩ rfl rfl
def yP (l:List Int) (v:Int):Int:=match l.idxOf? v with
 |some i=>(i:Nat)
 |none=> -1
theorem alR (l:List Int) (v:Int) (ak:l.length<=4294967296):Fn Tryz.prog 213 [bQ al l,ab v] [] [] (ab (yP l v)) []:=by
 refine aU [] Tryz.func213 ?_;refine d2 [] (X:=Nat) (fun k=>[(0,bQ al l),(1,ab v),(7,ab (l.length:Nat)),(8,ab (k:Nat))]) (fun _=>[]) (fun k=>k<=l.length/\ ∀(i:Nat),i < k->l[i]? ≠some v) (fun k=>l.length - k) 0 ⟨aq8 _,fun i h=>absurd h (ax7 _)⟩ ?_ ?_
 .exact ac.sub aC trivial
 intro k ⟨aa,ai⟩;refine⟨fun h=>?_,fun h=>?_⟩
 .have ct:k < l.length:=by
   have h:decide ((k:Int) < (l.length:Int))=true:=h;simpa using h
  refine⟨ay4,l[k],jJ (n:=k) ct,fun G=>?_,fun G=>?_⟩
  .have G:v=l[k]:=gd G;refine⟨_,_,_,br,rfl,(show((k:Nat):Int)=yP l v from ?_),trivial,rfl⟩
   have:l.idxOf? v=some k:=by
    rw[List.idxOf?_eq_some_iff];refine⟨ct,by simp[G],fun j V=>?_⟩;have:=ai j V;rw[oj ay4] at this;simpa using this
   rw[yP,this]
  .have G:v≠l[k]:=mu G;refine⟨ay4,k+1,⟨ay4,fun i aF=>?_⟩,ay4,ac.sub aC trivial⟩;rcases Nat.lt_or_ge i k with aW |aW
   .exact ai i aW
   .have:i=k:=az2
    subst this;rw[oj ct];intro e;injection e with e
    exact G e.symm
 .have h:decide ((k:Int) < (l.length:Int))=false:=h;have eD:k=l.length:=aB5
  refine⟨_,_,_,br,rfl,(show(-1:Int)=yP l v from ?_),trivial,rfl⟩
  have:l.idxOf? v=none:=by
   rw[List.idxOf?_eq_none_iff];intro aA;obtain⟨i,aF,e⟩:=aw0 aA;have:=ai i ay4;rw[oj aF] at this;exact this (by rw[e])
  rw[yP,this]
theorem alS (l:List Int) (v:Int) (ak:l.length<=4294967296):Fn Tryz.prog 178 [bQ al l,ab v] [] [] (fI (l.contains v)) []:=by
 refine aU [] Tryz.func178 ?_;refine av (alR l v ak) ⟨_,_,_,br,rfl,(show decide (0<=yP l v)=l.contains v from ?_),trivial,rfl⟩;unfold yP
 cases h:l.idxOf? v with
 |none=>
  rw[List.idxOf?_eq_none_iff] at h;simp[h]
 |some i=>
  obtain⟨aF,e,_⟩:=List.idxOf?_eq_some_iff.1 h
  have:v∈l:=by
   have:=as3 aF
   rwa[show l[i]=v by simpa using e] at this
  simp[this]
end
section
abbrev alT (x y:aC3) (i:Nat):aY:=[(0,bQ .u8 x),(1,bQ .u8 y),(12,ab (x.length:Nat)),(13,ab (i:Nat))]
theorem alU {x y:aC3} {i:Nat} (hx:i < x.length) (aD:i < y.length) (h:x.take i=y.take i) (U:x[i]=y[i]):x.take (i+1)=y.take (i+1):=by
 rw[at5 hx,at5 aD,h,U]
theorem V6 (x y:aC3) (hx:x.length<=4294967296) (aD:y.length<=4294967296):Fn Tryz.prog 135 [bQ .u8 x,bQ .u8 y] [] [] (fI (decide (x=y))) []:=by
 refine aU [] Tryz.func135 ?_;refine⟨fun h=>?_,fun h=>?_⟩
 .have h:(!decide ((x.length:Int)=(y.length:Nat)))=true:=h;have a7:x≠y:=fun e=>by rw[e] at h;simp at h
  rw[at0 a7];exact bg
 have h:(!decide ((x.length:Int)=(y.length:Nat)))=false:=h;have ak:x.length=y.length:=aB5
 refine d2 [] (X:=Nat) (alT x y) (fun _=>[]) (fun i=>i<=x.length/\x.take i=y.take i) (fun i=>x.length - i) 0 ⟨aq8 _,rfl⟩ ?_ ?_
 .exact ac.sub aC trivial
 rintro i ⟨aF,cq⟩;refine⟨fun G=>?_,fun G=>?_⟩
 .have G:decide ((i:Int) < (x.length:Int))=true:=G;have d1:i < x.length:=by simpa using G
  have pU:i < y.length:=az2
  refine⟨ay4,x[i],jJ (n:=i) d1,ay4,y[i],jJ (n:=i) pU,rfl,fun af=>?_,fun af=>?_⟩
  .have af:(!decide ((UInt8.toNat x[i]:Int)=(UInt8.toNat y[i]:Nat)))=true:=af
   have a7:x≠y:=fun e=>by
    subst e;simp at af
   rw[at0 a7];exact bg
  .have af:(!decide ((UInt8.toNat x[i]:Int)=(UInt8.toNat y[i]:Nat)))=false:=af
   have U:x[i]=y[i]:=by
    have aW:(UInt8.toNat x[i]:Int)=(UInt8.toNat y[i]:Nat):=by simpa using af
    exact UInt8.toNat_inj.1 ay4
   exact⟨ay4,i+1,⟨ay4,alU d1 pU cq U⟩,ay4,ac.sub aC trivial⟩
 .have G:decide ((i:Int) < (x.length:Int))=false:=G;have d1:i=x.length:=by simp at G;omega
  subst d1
  have U:x=y:=by
   rw[ar9] at cq;rw[cq,ak,ar9]
  rw[ar0 U];exact bg
end
section
structure vs (e:bd):Prop where
 ok:ot e.s e.g=true
 fW:kB e.s e.g e.es
 nm:gY e.nm=true
abbrev alV (l:List bd) (k:Nat):aY:=[(0,bQ .u8 (qM false l)),(4,aq 1001),(5,aq 3001),(13,ab (l.length:Nat)),(14,ab (k:Nat))]
abbrev alW (l':List bd) (x:aC3):az:=[(1001,.cells [.mp 1002]),(1002,.map .str .aM (dW l')),(1003,.aG (.bx (kb l'))),(1004,.aG (.bx (jT l'))),(3001,.cells [.d (.co .u8 x),.d (.int .i64 0)])]
structure alX (l:List bd) (p:Nat×List bd):Prop where
 k:p.1<=l.length
 ok:d9 p.2
 H0:p.2.map pk=((hU l).take p.1).map qN
theorem V7 {o o':bc} {b:Nat}: ∀{L:List (Nat×bc)},eu L b=some o->eu (e' L b o') b=some o'
 | [],h=>by cases h
 |(c,x)::L,h=>by
  by_cases e:c=b
  .subst e;simp[e',eu]
  .have G:eu L b=some o:=by simpa[eu,e] using h
   have af:=V7 (o':=o') G;simpa[e',eu,e] using af
theorem V8 {o:bc}: ∀{L:List bd} {n n':bd},n.ad∉L.map (·.ad)->n'.ad=n.ad->e' (e' (kb (L++[n])) n.ad o) n.ad (qF n'.nm n'.on n'.us n'.du)=kb (L++[n'])
 | [],n,n',_,e=>by simp[kb,e',e]
 |d::L,n,n',h,e=>by
  have E: ¬d.ad=n.ad:=fun e=>h (by rw[<-e];exact ar2 ..)
  have G:=V8 (o:=o) (L:=L) (n:=n) (n':=n') (fun bf=>h (aq2 _ bf)) e;simpa[kb,e',E] using G
theorem d9.oz {L:List bd} {n n':bd} (h:d9 (L++[n])) (E:n'.nm=n.nm) (G:n'.ad=n.ad) (af:n'.du=n.du) (aW:n'.s=n.s) (bG:n'.g=n.g) (fF:n'.es=n.es):d9 (L++[n']):=by
 refine⟨by have:=h.jd;simpa[E] using this,by have:=h.me;simpa[G] using this,by have:=h.vl;simpa[af] using this,fun e U=>?_,by have:=h.len;simpa using this⟩;rcases as1.1 U with U |U
 .exact h.ok e (as1.2 (.inl U))
 .rw[ar5] at U;subst U;rw[E,aW,bG,fF];exact h.ok n (as1.2 (.inr (ar5.2 rfl)))
theorem alY {l:List bd} (h:d9 l) (a1: ∀e∈l,vs e):cx Tryz.prog 82 [bQ .u8 (qM false l)] [] [1001,1002,1003,1004] (X:={l':List bd//d9 l'/\l'.map pk=(hU l).map qN}) (fun _=>.ci [.one (.ptr 1001 0),dz 0]) (fun p=>eA p.1):=by
 obtain⟨o8,gj,gk⟩:=ku DK;have bV:=h.len;have hB:=alI l
 have aqM:((hU l).flatMap (iE false)).length<=8*600:=by
  have E:=yL (iE false) 600 (hU l) fun e U=>by
   obtain⟨cA,cF,dF,fj⟩:=h.ok e (HY U);exact VT cA cF fj
  omega
 have j9:=NI false l
 have aqN:(qM false l).length<=5000:=by
  rw[j9,aq1,nB];simp only[List.length_singleton];omega
 have g':=HO (qM false l) ay4;have lB:=ph (ej l.length 1++(hU l).flatMap (iE false),0) 1 (.inl rfl);rw[pi ay4] at lB
 have alZ:ej l.length 1++(hU l).flatMap (iE false)=qM false l:=by
  rw[j9];unfold eL;simp
 rw[alZ] at lB;refine hO [7,11] Tryz.func82 ?_;refine av UC <| av (Fn.aV [(1001,3001)] g') <| av (Fn.aV [(1001,3001)] lB) <| d2 [7] (X:=Nat×List bd) (fun p=>alV l p.1) (fun p=>alW p.2 (((hU l).drop p.1).flatMap (iE false))) (alX l) (fun p=>l.length - p.1) (0,[]) ⟨aq8 _,?_,rfl⟩ ?_ ?_
 .exact d9.nil
 .exact ac.sub aC aC
 rintro⟨k,l'⟩ ai;have aa:k<=l.length:=ai.k;refine⟨fun J=>?_,fun J=>?_⟩
 .have J:decide ((k:Int) < (l.length:Int))=true:=J;have J:=gd J;have ct:k < (hU l).length:=az2
  have al0:k+1<=l.length:=az2
  obtain⟨e,U⟩: ∃e,e=(hU l)[k]:=⟨_,rfl⟩;have rl:e∈l:=HY (U▸as3 ct);obtain⟨cj,cT,eg,eR⟩:=h.ok e rl;have NM:=a1 e rl
  have ef:((hU l).drop k).flatMap (iE false)=iE false e++((hU l).drop (k+1)).flatMap (iE false):=by
   rw[av6 ct,ax2,U]
  generalize g':((hU l).drop (k+1)).flatMap (iE false)=bo at*;have t2:=DU (iE false e++bo,0) 1 (.inl rfl);have tT:=HU e.on;have mH:=HS cj cT e.es
  have ae:iE false e++bo=gH e.nm 1++(ej (iD e.on) 1++(ej (iD (e.us&&false)) 1++(gH (encZ e.s e.g e.es) 2++bo))):=by
   unfold iE eL;simp[au2]
  rw[<-ef] at t2;have ae:=ef.trans ae;rw[ae] at t2;rw[DV ay4] at t2;rw[<-ae] at t2;have A3:=ph (ej (iD e.on) 1++(ej (iD (e.us&&false)) 1++(gH (encZ e.s e.g e.es) 2++bo)),0) 1 (.inl rfl);rw[pi tT] at A3;have t3:=ph (ej (iD (e.us&&false)) 1++(gH (encZ e.s e.g e.es) 2++bo),0) 1 (.inl rfl);rw[pi (HU _)] at t3;have t4:=DU (gH (encZ e.s e.g e.es) 2++bo,0) 2 (.inr (.inl rfl));rw[DV ay4] at t4;have al1:=alz e.s e.g e.es NM.ok NM.fW;refine av (Fn.aV [(1001,3001)] t2) <| av (Fn.aV [(1001,3001)] A3) <| av (Fn.aV [(1001,3001)] t3) ⟨rfl,av (Fn.aV [(1001,3001)] t4) ⟨(show(encZ e.s e.g e.es).length<=4294967296 by omega),av (Fn.aV [(2001,6001),(2002,6002)] al1) ?_⟩⟩;show bw _ _ _ _ _ _ _
  have al2:l'.map (·.nm)=((hU l).take k).map (·.nm):=by
   have E:=congrArg (List.map fun p:A4=>p.1) ai.H0;rw[at7,at7] at E;exact E
  have dC:((hU l).map (·.nm)).Nodup:=by
   rw[NJ];unfold ik oh;rw[(List.mergeSort_perm _ _).nodup_iff,AV];exact h.jd
  have gf:l'.length=k:=by
   have:=congrArg List.length ai.H0;rw[ar1,ar1,aq9] at this;show l'.length=k;have Gg:(k,l').snd.length=min (k,l').fst (hU l).length:=this;have aqO:l'.length=min k (hU l).length:=Gg;omega
  have fU:dd l' e.nm=none:=by
   cases al3:dd l' e.nm with
   |none=>rfl
   |some x=>
    exfalso;obtain⟨g1,g2⟩:=kx al3;have cX:e.nm∈l'.map (·.nm):=g2▸ar8 g1;rw[al2] at cX;rw[<-List.take_append_drop k (hU l),av6 ct,<-U,au0,ar4] at dC;exact(List.nodup_append.1 dC).2.2 _ cX _ (ar2 ..) rfl
  have qG:=UJ ai.ok e.nm ay4 NM.nm fU (by show l'.length < 8;omega) e.s e.g (hz e.es (8*fw e.s e.g)) ⟨cj,cT,NH _ _⟩;refine bw.iL e3 ay7 ?_;refine dt <| lP (cx.aV [(2001,6001),(2002,6002)] qG) fun g=>dt ?_
  obtain⟨⟨ad,du⟩,nV⟩:=g;have sN:=AY (V2 nV (e:=⟨e.nm,ad,du,true,true,e.s,e.g,hz e.es (8*fw e.s e.g)⟩) ay6);refine⟨_,_,fun N=>i' (b:=ad) rfl (by exact congrArg (fun o=>aP.c (.one (.d (.aM o)))) sN) N,rfl,?_⟩;have A6:=nV.D (e:=⟨e.nm,ad,du,true,true,e.s,e.g,hz e.es (8*fw e.s e.g)⟩) ay6;refine⟨_,_,fun N=>jq rfl Tryz.underlying60 rfl rfl gj az6 rfl N,rfl,?_⟩;refine⟨_,_,fun N=>zY (q:=1003) (b:=ad) (j:=1) (y:=.bool (decide (((iD e.on:Nat):Int)=1))) (l:=AU e.nm true true du) (h':=fun _=>rfl) rfl gj gk rfl rfl rfl A6 (show 1 < 4 by decide) M3 N,rfl,?_⟩;refine⟨_,_,fun N=>i' (b:=ad) rfl (by exact congrArg (fun o=>aP.c (.one (.d (.aM o)))) sN) N,rfl,?_⟩;refine⟨_,_,fun N=>jq rfl Tryz.underlying60 rfl rfl gj az6 rfl N,rfl,?_⟩;have al4:eu (e' (kb (l'++[⟨e.nm,ad,du,true,true,e.s,e.g,hz e.es (8*fw e.s e.g)⟩])) ad (qF e.nm (decide (((iD e.on:Nat):Int)=1)) true du)) ad=some (qF e.nm (decide (((iD e.on:Nat):Int)=1)) true du):=V7 A6;refine⟨_,_,fun N=>zY (q:=1003) (b:=ad) (j:=2) (y:=.bool (decide (((iD (e.us&&false):Nat):Int)=1))) (l:=AU e.nm (decide (((iD e.on:Nat):Int)=1)) true du) (h':=fun _=>rfl) rfl gj gk rfl rfl rfl al4 (show 2 < 4 by decide) M3 N,rfl,?_⟩;refine⟨eF ay7,?_⟩;have vt:decide (((iD e.on:Nat):Int)=1)=e.on:=by cases e.on <;>rfl
  have uu:decide (((iD (e.us&&false):Nat):Int)=1)=false:=by cases e.us <;>rfl
  have H1:ad∉l'.map (·.ad):=by
   have E:=nV.me;rw[au0] at E;exact fun h=>(List.nodup_append.1 E).2.2 _ h _ (ar2 ..) rfl
  have lI:=V8 (L:=l') (n:=⟨e.nm,ad,du,true,true,e.s,e.g,hz e.es (8*fw e.s e.g)⟩) (n':=⟨e.nm,ad,du,e.on,false,e.s,e.g,hz e.es (8*fw e.s e.g)⟩) (o:=qF e.nm e.on true du) H1 rfl
  have uE:dW (l'++[⟨e.nm,ad,du,true,true,e.s,e.g,hz e.es (8*fw e.s e.g)⟩])=dW (l'++[⟨e.nm,ad,du,e.on,false,e.s,e.g,hz e.es (8*fw e.s e.g)⟩]):=by
   unfold dW;rw[au0,au0];rfl
  have iW:jT (l'++[⟨e.nm,ad,du,true,true,e.s,e.g,hz e.es (8*fw e.s e.g)⟩])=jT (l'++[⟨e.nm,ad,du,e.on,false,e.s,e.g,hz e.es (8*fw e.s e.g)⟩]):=by
   unfold jT;rw[au0,au0];rfl
  have al5:d9 (l'++[⟨e.nm,ad,du,e.on,false,e.s,e.g,hz e.es (8*fw e.s e.g)⟩]):=nV.oz rfl rfl rfl rfl rfl rfl;refine⟨ay4,(k+1,l'++[⟨e.nm,ad,du,e.on,false,e.s,e.g,hz e.es (8*fw e.s e.g)⟩]),⟨al0,al5,?_⟩,by show l.length - (k+1) < l.length - k;omega,ac.sub aC ⟨rfl,congrArg (fun x=>some (ba.map .str .aM x)) uE,?_,congrArg (fun x=>some (ba.aG (.bx x))) iW,congrArg (fun x=>some (ba.cells [.d (.co .u8 x),.d (.int .i64 0)])) g'.symm,trivial⟩⟩
  .show(l'++[_]).map pk=((hU l).take (k+1)).map qN;have aT:l'.map pk=((hU l).take k).map qN:=ai.H0;rw[au0,aT,at5 ct,au0,<-U];rfl
  .have al6:e' (e' (kb (l'++[⟨e.nm,ad,du,true,true,e.s,e.g,hz e.es (8*fw e.s e.g)⟩])) ad (qF e.nm (decide (((iD e.on:Nat):Int)=1)) true du)) ad (qF e.nm (decide (((iD e.on:Nat):Int)=1)) (decide (((iD (e.us&&false):Nat):Int)=1)) du)=kb (l'++[⟨e.nm,ad,du,e.on,false,e.s,e.g,hz e.es (8*fw e.s e.g)⟩]):=by
    rw[vt,uu];exact lI
   exact congrArg (fun x=>some (ba.aG (.bx x))) al6
 .have J:decide ((k:Int) < (l.length:Int))=false:=J;have J:=mu J;have ct:k=l.length:=az2
  subst ct
  have A1:l'.map pk=(hU l).map qN:=by
   have E:l'.map pk=((hU l).take l.length).map qN:=ai.H0
   rwa[<-hB,ar9] at E
  have au:((hU l).drop l.length).flatMap (iE false)=[]:=by rw[<-hB,List.drop_length];rfl
  have lU:=Nw (((hU l).drop l.length).flatMap (iE false),0);rw[show qL (((hU l).drop l.length).flatMap (iE false),0)=0 by rw[au];rfl] at lU;have pg:=VU (l:=l') ai.ok true;have V9:=alL h ai.ok (fun e U=>(a1 e U).fW) A1;have aT:=V6 (qM true l') (qM false l) (by rw[V9];omega) ay4;rw[ar0 V9] at aT;exact bu [] (br) <| av (Fn.aV [(1001,3001)] lU) <| dt <| av (Fn.arg pg aC) <| av aT <| dt ⟨⟨l',ai.ok,A1⟩,_,_,_,br,rfl,aC,aC,rfl⟩
end
section
def yQ (c:UInt8) (p:Int×Int):Int×Int:=((p.1+(UInt8.toNat c:Int)) % 65521,(p.2+(p.1+(UInt8.toNat c:Int)) % 65521) % 65521)
def oD (x:aC3) (p:Int×Int):Int×Int:=x.foldl (fun p c=>yQ c p) p
def A7 (p:Int×Int):Prop:=(0<=p.1/\p.1 < 65521)/\(0<=p.2/\p.2 < 65521)
theorem al7 {c:UInt8} {p:Int×Int} (h:A7 p):A7 (yQ c p):=by
 unfold A7 yQ;simp only;have:=h.1;have:=h.2;omega
theorem H2: ∀{x:aC3} {p:Int×Int},A7 p->A7 (oD x p)
 | [],_,h=>h
 |c::x,p,h=>H2 (x:=x) (al7 h)
theorem al8 (x:aC3) (c:UInt8) (p:Int×Int):oD (x++[c]) p=yQ c (oD x p):=by
 unfold oD;rw[ax5];rfl
def jx (x:aC3):Int:=65536*(oD x (1,0)).2+(oD x (1,0)).1
theorem NN (x:aC3):0<=jx x/\jx x < 4294967296:=by
 have h:=H2 (x:=x) (p:=(1,0)) ⟨ay5,ay5⟩;unfold jx;have:=h.1;have:=h.2;omega
theorem al9 (c:UInt8) (p:Int×Int) (h:A7 p):Fn Tryz.prog 263 [k1 (.d (.int .u8 (UInt8.toNat c:Int))),aq 1001,aq 1002] [(1001,.cells [.d (.int .i64 p.1)]),(1002,.cells [.d (.int .i64 p.2)])] [] (.ci [.one (.d (.int .i64 (yQ c p).1)),.one (.d (.int .i64 (yQ c p).2))]) [(1001,.cells [.d (.int .i64 p.1)]),(1002,.cells [.d (.int .i64 p.2)])]:=by
 have J:UInt8.toNat c < 256:=UInt8.toNat_lt c;obtain⟨⟨E,G⟩,af,aW⟩:=h;refine aU [] Tryz.func263 ?_;have cA: -9223372036854775808<=(UInt8.toNat c:Int)/\(UInt8.toNat c:Int)<=9223372036854775807:=az2
 refine⟨cA,?_⟩;have cF: -9223372036854775808<=p.1+(UInt8.toNat c:Int)/\p.1+(UInt8.toNat c:Int)<=9223372036854775807:=az2
 refine⟨cF,?_⟩;have dF:0<=p.1+(UInt8.toNat c:Int)/\(0:Int) < 65521:=az2
 have fj: -9223372036854775808<=(p.1+(UInt8.toNat c:Int)) % 65521/\(p.1+(UInt8.toNat c:Int)) % 65521<=9223372036854775807:=az2
 refine⟨dF,fj,?_⟩;have xU: -9223372036854775808<=p.2+(p.1+(UInt8.toNat c:Int)) % 65521/\p.2+(p.1+(UInt8.toNat c:Int)) % 65521<=9223372036854775807:=az2
 refine⟨xU,?_⟩;have wn:0<=p.2+(p.1+(UInt8.toNat c:Int)) % 65521/\(0:Int) < 65521:=az2
 have xV: -9223372036854775808<=(p.2+(p.1+(UInt8.toNat c:Int)) % 65521) % 65521/\(p.2+(p.1+(UInt8.toNat c:Int)) % 65521) % 65521<=9223372036854775807:=az2
 exact⟨wn,xV,rfl,bg⟩
abbrev V' (p:Int×Int):az:=[(3,.cells [.d (.int .i64 p.1)]),(4,.cells [.d (.int .i64 p.2)])]
abbrev al' (bD:List aC3) (i:Nat):aY:=[(3,aq 3),(4,aq 4),(5,.c (.one (.cY 263 [.p 3 0,.p 4 0]))),(11,bQ (.b' .u8) bD),(12,ab (bD.length:Nat)),(13,ab (i:Nat))]
abbrev ama (bD:List aC3) (i:Nat) (x:aC3) (j:Nat):aY:=[(3,aq 3),(4,aq 4),(5,.c (.one (.cY 263 [.p 3 0,.p 4 0]))),(11,bQ (.b' .u8) bD),(12,ab (bD.length:Nat)),(13,ab (i:Nat)),(17,bQ .u8 x),(18,ab (x.length:Nat)),(19,ab (j:Nat))]
theorem Wa {bD:List aC3} {i:Nat} (h:i < bD.length):(bD.take (i+1)).flatten=(bD.take i).flatten++bD[i]:=by
 rw[at5 h,List.flatten_append];simp
theorem NO (bD:List aC3) (ak:bD.length<=1000000) (ai: ∀x∈bD,x.length<=4294967296):Fn Tryz.prog 240 [bQ (.b' .u8) bD] [] [] (ab (jx bD.flatten)) []:=by
 refine aU [] Tryz.func240 ?_;refine⟨rfl,rfl,d2 [] (X:=Nat) (al' bD) (fun i=>V' (oD (bD.take i).flatten (1,0))) (fun i=>i<=bD.length) (fun i=>bD.length - i) 0 (aq8 _) ?_ ?_⟩
 .exact ac.sub aC aC
 intro i aF;refine⟨fun h=>?_,fun h=>?_⟩
 .have h:decide ((i:Int) < (bD.length:Int))=true:=h;have d1:i < bD.length:=az3
  have hx:=ai _ (as3 d1);refine⟨ay4,bD[i],jJ (n:=i) d1,d2 [] (X:=Nat) (fun j=>ama bD i bD[i] j) (fun j=>V' (oD ((bD.take i).flatten++bD[i].take j) (1,0))) (fun j=>j<=bD[i].length) (fun j=>bD[i].length - j) 0 (aq8 _) ?_ ?_⟩
  .refine ac.sub aC ⟨?_,?_,trivial⟩
   .rw[List.take_zero,at6];rfl
   .rw[List.take_zero,at6];rfl
  intro j V;refine⟨fun G=>?_,fun G=>?_⟩
  .have G:decide ((j:Int) < (bD[i].length:Int))=true:=G;have eO:j < bD[i].length:=by simpa using G
   have aw:oD ((bD.take i).flatten++bD[i].take (j+1)) (1,0)=yQ bD[i][j] (oD ((bD.take i).flatten++bD[i].take j) (1,0)):=by
    rw[at5 eO,<-au2,al8]
   have bv:=H2 (x:=(bD.take i).flatten++bD[i].take j) (p:=(1,0)) ⟨ay5,ay5⟩;refine⟨ay4,bD[i][j],jJ (n:=j) eO,av (Fn.aV [(1001,3),(1002,4)] (al9 bD[i][j] _ bv)) ⟨ay4,j+1,ay4,ay4,ac.sub aC ⟨?_,?_,trivial⟩⟩⟩
   .rw[aw];rfl
   .rw[aw];rfl
  .have G:decide ((j:Int) < (bD[i].length:Int))=false:=G;have eO:j=bD[i].length:=by simp at G;omega
   subst eO;refine⟨ay4,i+1,ay4,ay4,ac.sub aC ⟨?_,?_,trivial⟩⟩
   .rw[Wa d1,ar9];rfl
   .rw[Wa d1,ar9];rfl
 .have h:decide ((i:Int) < (bD.length:Int))=false:=h;have d1:i=bD.length:=aB5
  subst d1;rw[ar9];obtain⟨⟨E,G⟩,af,aW⟩:=H2 (x:=bD.flatten) (p:=(1,0)) ⟨ay5,ay5⟩;have cA: -9223372036854775808<=65536*(oD bD.flatten (1,0)).2/\65536*(oD bD.flatten (1,0)).2<=9223372036854775807:=az2
  refine⟨cA,?_⟩;have cF: -9223372036854775808<=65536*(oD bD.flatten (1,0)).2+(oD bD.flatten (1,0)).1/\65536*(oD bD.flatten (1,0)).2+(oD bD.flatten (1,0)).1<=9223372036854775807:=az2
  exact⟨cF,bg⟩
end
section
abbrev vu (c d:Nat) (R:Int) (es:List (Z .str×Z .aM)):az:=[(c,.cells [.d (.int .i64 R),.mp d]),(d,.map .str .aM es)]
def iF (es:List (Z .str×Z .aM)) (k:aC3):Option Nat:=(bY es (k:Z .str)).getD (cO .aM)
theorem NP (R:Int) (es:List (Z .str×Z .aM)) (name:aC3) (b:Nat) (h:iF es name=some b):Fn Tryz.prog 136 [aq 1001,bT name] (vu 1001 1002 R es) [] (.ci [Rc (some b),dz 0]) (vu 1001 1002 R es):=by
 refine aU [] Tryz.func136 ?_;refine⟨fun d5 h'=>?_,fun h'=>?_⟩
 .exact eG br rfl ⟨h,rfl,trivial⟩
 .exfalso;have:iF es name=none:=h';rw[h] at this
  cases this
theorem Wb (R:Int) (es:List (Z .str×Z .aM)) (name:aC3) (h:iF es name=none):Fn Tryz.prog 136 [aq 1001,bT name] (vu 1001 1002 R es) [] (.ci [mP,dz 40]) (vu 1001 1002 R es):=by
 refine aU [] Tryz.func136 ?_;refine⟨fun d5 h'=>?_,fun h'=>?_⟩
 .exfalso;have:iF es name=some d5:=h';rw[h] at this
  cases this
 .exact bg
theorem amb (R:Int) (h:0<=R):Fn Tryz.prog 28 [ab R] [] [1001,1002] (.ci [.one (.ptr 1001 0),dz 0]) (vu 1001 1002 R []):=by
 refine aU [] Tryz.func28 ?_;refine⟨fun E=>?_,fun E=>?_⟩
 .simp at E;omega
 exact⟨rfl,rfl,_,_,_,(ac.aV 9 1001 rfl).trans (ac.aV 7 1002 rfl),rfl,aC,aC,rfl⟩
theorem amc (R:Int) (es:List (Z .str×Z .aM)) (fr to:aC3) (b:Nat) (ak:to.length<=4294967296) (h:gY to=true) (hn:iF es fr=some b):Fn Tryz.prog 185 [aq 1001,bT fr,bT to] (vu 1001 1002 R es) [] (ab 0) (vu 1001 1002 R (dx (gM es (fr:Z .str)) (to:Z .str) (some b:Option Nat))):=by
 refine aU [] Tryz.func185 ?_;refine av (qB _ ak) ⟨fun E=>?_,fun E=>?_⟩
 .rw[h] at E;cases E
 refine av (NP R es fr b hn) ⟨fun G=>?_,fun G=>?_⟩
 .exact absurd G ay5
 exact⟨trivial,bg⟩
end
section
abbrev NQ (c d q:Nat) (R:Int) (es:List (Z .str×Z .aM)) (L:List (Nat×bc)):az:=[(c,.cells [.d (.int .i64 R),.mp d]),(d,.map .str .aM es),(q,.aG (.bx L))]
theorem amd (R:Int) (es:List (Z .str×Z .aM)) (L:List (Nat×bc)) (name:aC3) (n:Int) (ak:name.length<=4294967296) (E:gY name=true) (G:(rX n&&decide (0<=R))=true) (aW:iF es name=none) (bG:es.length < 16):
  cx Tryz.prog 183 [aq 1001,bT name,ab n] (NQ 1001 1002 1003 R es L) [] (fun b:Nat=>.ci [Rc (some b),dz 0]) (fun b=>NQ 1001 1002 1003 R (dx es (name:Z .str) (some b:Option Nat)) ((b,hg ⟨n,R,[],[],[]⟩)::L)):=by
 refine hO [8] Tryz.func183 ?_;refine av (Fn.aV [(1001,2001)] (alN n R G)) <| av (qB _ ak) ⟨fun ae=>?_,fun ae=>?_⟩
 .rw[E] at ae;cases ae
 refine⟨fun ao=>?_,fun ao=>?_⟩
 .exact absurd ao ay5
 refine⟨fun d5 bm=>?_,fun bm=>?_⟩
 .exfalso;have:iF es name=some d5:=bm;rw[aW] at this
  cases this
 refine⟨fun c0=>?_,fun c0=>?_⟩
 .exfalso;simp at c0;omega
 refine bw.e4 (di.name 8 2001 rfl rfl) fun b=>?_
 exact bu [] (br) ⟨trivial,b,_,_,_,ac.put 1003 2001 ay5 rfl rfl,rfl,aC,aC,rfl⟩
end
section
abbrev io:=List (Z al×Z g5)
def sU (x:Z g5):Prop:=List.length (α:=UInt8) x=16
theorem sU.wf {x:Z g5} (h:sU x):oK g5 x:=⟨h,fun _ _=>trivial⟩
def sV (eI:List Int):Nat->List (Z p0)->io->io
 |_,[],s=>s
 |k,w::l,s=>sV eI (k+1) l (match eI.contains (k:Int) with
  |true=>dx s w.1 w.2
  |false=>s)
theorem Wc (eI:List Int) (w:Z p0): ∀(l:List (Z p0)) (k:Nat) (s:io),sV eI k (l++[w]) s=match eI.contains ((k+l.length:Nat):Int) with
  |true=>dx (sV eI k l s) w.1 w.2
  |false=>sV eI k l s
 | [],k,s=>rfl
 |v::l,k,s=>by
  rw[List.cons_append,sV,Wc eI w l (k+1)];rw[show k+1+l.length=k+(v::l).length by simp;omega];rfl
def cn.oE (m:cn) (eI:List Int):cn:=let s:=sV eI 0 m.fl m.nE;{m with nE:=s,bK:=s,fl:=[]}
theorem ame (eI:List Int) (k:Int) (ak:eI.length<=4294967296):Fn Tryz.prog 177 [ab k,aq 1001] [(1001,.cells [.d (.co al eI)])] [] (fI (eI.contains k)) [(1001,.cells [.d (.co al eI)])]:=by
 refine aU [] Tryz.func177 ?_;exact av (alS eI k ak) bg
abbrev amf (m:cn) (eI:List Int) (k:Nat):aY:=[(0,aq 1001),(4,.c (.one (.cY 177 [.p 3 0]))),(11,eM 1004),(12,ab (m.fl.length:Nat)),(13,ab (k:Nat))]
abbrev amg (m:cn) (eI:List Int) (s:io):az:=iS 1001 1002 1003 1004 {m with nE:=s}++[(3,.cells [.d (.co al eI)])]
theorem amh (m:cn) (eI:List Int) (aa:eI.length<=4294967296) (ak:m.fl.length<=4294967296) (hw: ∀w,w∈m.fl->sU w.2):
  Fn Tryz.prog 129 [aq 1001,bQ al eI] (iS 1001 1002 1003 1004 m) [2001,2002] gO (iS 1001 1002 2001 2002 (m.oE eI)):=by
 refine aU [] Tryz.func129 ?_;refine⟨rfl,d2 [] (X:=Nat) (amf m eI) (fun k=>amg m eI (sV eI 0 (m.fl.take k) m.nE)) (fun k=>k<=m.fl.length) (fun k=>m.fl.length - k) 0 (aq8 _) ?_ ?_⟩
 .exact ac.sub aC aC
 intro k ct;refine⟨fun h=>?_,fun h=>?_⟩
 .have eD:k < m.fl.length:=by
   have h:decide ((k:Int) < (m.fl.length:Int))=true:=h;simpa using h
  have nn:=hw _ (as3 eD)
  have rU:sV eI 0 (m.fl.take (k+1)) m.nE=match eI.contains (k:Int) with
    |true=>dx (sV eI 0 (m.fl.take k) m.nE) (m.fl[k]).1 (m.fl[k]).2
    |false=>sV eI 0 (m.fl.take k) m.nE:=by
   rw[at5 eD,Wc,aq9,Nat.min_eq_left ay4,au1]
  refine⟨⟨ay4,by show(k:Int) < (m.fl.length:Nat);omega⟩,m.fl[k],jJ (n:=k) eD,rfl,av (Fn.aV [(1001,3)] (ame eI (k:Nat) aa)) ⟨fun G=>?_,fun G=>?_⟩⟩
  .rw[G] at rU;refine⟨(m.fl[k]).2,⟨nn.wf,rfl⟩,rfl,ay4,k+1,ay4,ay4,ac.sub aC ⟨rfl,?_,rfl,rfl,rfl,trivial⟩⟩;rw[rU];rfl
  .rw[G] at rU;refine⟨ay4,k+1,ay4,ay4,ac.sub aC ⟨rfl,?_,rfl,rfl,rfl,trivial⟩⟩;rw[rU];rfl
 .have h:decide ((k:Int) < (m.fl.length:Int))=false:=h;have eD:k=m.fl.length:=aB5
  subst eD;rw[ar9];exact av (Fn.aV [(1001,1002)] (V4 (sV eI 0 m.fl m.nE))) ⟨_,_,_,ac.wb 1001 4 2002 259 p0 rfl rfl rfl,rfl,trivial,aC,rfl⟩
theorem Wd (m:cn) (eI:List Int) (aa:eI.length<=4294967296) (ak:m.fl.length<=4294967296) (hw: ∀w,w∈m.fl->sU w.2):
  Fn Tryz.prog 129 [aq 1001,bQ al eI] [(1001,.aG (hg m))] [] gO [(1001,.aG (hg (m.oE eI)))]:=
 NL (aJ:=[]) (aO:=[]) [(2001,1003),(2002,1004)] (amh m eI aa ak hw) ⟨rfl,rfl,rfl,rfl⟩ rfl rfl
end
section
theorem ami (a b:Int):(f0 al (a:Z al) (b:Z al)=true)↔a=b:=by
 show zc a b=true↔a=b;unfold zc;exact decide_eq_true_iff
theorem NR {α lN:Type} {f:α->lN}: ∀{l:List α},(l.map f).Nodup-> ∀{p q:α},p∈l->q∈l->f p=f q->p=q
 | [],_,_,_,h,_,_=>by cases h
 |a::l,h,p,q,ai,aT,e=>by
  rw[ar4,as8] at h;rcases aq5.1 ai with ai |ai <;>rcases aq5.1 aT with aT |aT
  .rw[ai,aT]
  .exact absurd (by rw[<-ai,e];exact ar8 aT) h.1
  .exact absurd (by rw[<-aT,<-e];exact ar8 ai) h.1
  .exact NR h.2 ai aT e
end
section
def rY {aK:bz} (es:List (Z al×Z aK)):List Int:=es.map fun p=>(show Int from p.1)
def D0 (s:io) (a:Int):Z g5:=(bY s (a:Z al)).getD (cO g5)
def iT (s:io) (a:Int):aC3:=D0 s a
def p2 (s:io) (a:Int) (k:Nat):aC3:=(List.range k).flatMap fun i=>iT s (a+(i:Nat))
def w3 (s:io):Prop:= ∀p∈s,sU p.2
theorem We {aI aK:bz} {k:Z aI} {x:Z aK}: ∀{l:List (Z aI×Z aK)},bY l k=some x-> ∃p∈l,p.2=x
 | [],h=>by cases h
 |p::l,h=>by
  unfold bY at h
  split at h
  .injection h with h
   exact⟨p,ar2 ..,h⟩
  .obtain⟨q,aT,e⟩:=We h;exact⟨q,aq2 _ aT,e⟩
theorem Wf {s:io} (h:w3 s) (a:Int):sU (D0 s a):=by
 unfold D0
 cases e:bY s (a:Z al) with
 |none=>exact ar7
 |some x=>
  obtain⟨p,ai,e⟩:=We e;rw[<-e];exact h p ai
theorem Wg (s:io) (a:Int) (k:Nat):p2 s a (k+1)=p2 s a k++iT s (a+(k:Nat)):=by
 unfold p2;rw[List.range_succ,List.flatMap_append];simp
theorem H3 {s:io} (h:w3 s) (a:Int): ∀k,(p2 s a k).length=16*k
 |0=>rfl
 |k+1=>by
  have e:(iT s (a+(k:Nat))).length=16:=Wf h _;rw[Wg,aq1,H3 h a k];omega
abbrev Wh (at_ aX:Int) (k r:Nat):aY:=[(0,aq 1001),(1,ab at_),(2,ab aX),(8,eM r),(20,ab aX),(21,ab (k:Nat))]
abbrev Wi (m:cn) (r:Nat) (x:aC3):az:=iS 1001 1002 1003 1004 m++[(r,.row 5 .u8 x)]
theorem amj (m:cn) (at_ aX:Int) (h:0<=aX) (aF:m.lh at_ aX=true) (E:0<=m.n) (G:m.n<=4096) (hw:w3 m.bK):Fn Tryz.prog 235 [aq 1001,ab at_,ab aX] [(1001,.aG (hg m))] [] (.ci [.one (.d (.co .u8 (p2 m.bK at_ aX.toNat))),dz 0]) [(1001,.aG (hg m))]:=by
 refine DZ (aJ:=[]) (aO:=[]) (bb:=[]) ?_ rfl rfl;refine aU [] Tryz.func235 ?_;refine⟨fun E=>?_,fun _=>?_⟩
 .have E:aX < 0:=gd E;omega
 refine av (NK m at_ aX h E G) ?_;rw[aF];refine dt ?_;simp only[cn.lh,vj,as5] at aF;obtain⟨⟨oV,oW⟩,uX⟩:=aF;refine d2 [] (X:=Nat) (fun k=>Wh at_ aX k 2003) (fun k=>Wi m 2003 (p2 m.bK at_ k)) (fun k=>(k:Int)<=aX) (fun k=>aX.toNat - k) 0 h ?_ ?_
 .exact ac.trans (ac.nil 8 2003 5 .u8 rfl rfl) (ac.sub aC aC)
 intro k aa;refine⟨fun J=>?_,fun J=>?_⟩
 .have ct:(k:Int) < aX:=gd J;have nn:=Wf hw (at_+(k:Nat));have bV:=H3 hw at_ k;refine⟨ay4,rfl,D0 m.bK (at_+(k:Nat)),⟨nn.wf,rfl⟩,?_⟩
  have ae:(p2 m.bK at_ k).length+(iT m.bK (at_+(k:Nat))).length<=4294967296:=by
   have:(iT m.bK (at_+(k:Nat))).length=16:=nn;omega
  refine⟨ae,rfl,ay4,k+1,ay4,ay4,ac.trans (ac.sub (K':=Wh at_ aX (k+1) 34) (B':=Wi m 34 (p2 m.bK at_ (k+1))) aC ⟨rfl,rfl,rfl,rfl,?_,trivial⟩) (ac.aV 34 2003 rfl)⟩;rw[Wg];rfl
 .have ct:k=aX.toNat:=by
   have: ¬(k:Int) < aX:=mu J;omega
  subst ct;exact⟨_,_,_,ac.d0 2003 rfl,rfl,aC,aC,rfl⟩
end
section
def H4 (b:aC3) (k:Nat):aC3:=List.take 16 ((b.take ((((k:Nat):Int)+1)*16).toNat).drop (((k:Nat):Int)*16).toNat)
def sW (b:aC3) (k:Nat):Z g5:=H4 b k
theorem NS {b:aC3} {k:Nat} (h:16*(k+1)<=b.length):sU (sW b k):=by
 show(List.take 16 ((b.take _).drop _)).length=16;rw[aq9,au9,aq9];omega
theorem amk (b:aC3) (k:Nat):H4 b k=(b.drop (16*k)).take 16:=by
 unfold H4;rw[show((((k:Nat):Int)+1)*16).toNat=16*k+16 by omega,show(((k:Nat):Int)*16).toNat=16*k by omega,List.drop_take,List.take_take]
 congr 1
 omega
abbrev H5 (a:Int) (x:Z g5):Z p0:=(a,x)
def yR (at_:Int) (b:aC3) (s:io):Nat->io
 |0=>s
 |k+1=>dx (yR at_ b s k) (at_+(k:Nat):Int) (sW b k)
def w4 (at_:Int) (b:aC3) (l:List (Z p0)):Nat->List (Z p0)
 |0=>l
 |k+1=>w4 at_ b l k++[H5 (at_+(k:Nat)) (sW b k)]
theorem NT (at_:Int) (b:aC3) (l:List (Z p0)): ∀k,(w4 at_ b l k).length=l.length+k
 |0=>rfl
 |k+1=>by rw[w4,aq1,NT];simp;omega
def lX (s:io) (at_:Int):Nat->Nat
 |0=>0
 |k+1=>match(bY s (at_+(k:Nat):Int)).isSome with
  |true=>lX s at_ k
  |false=>lX s at_ k+1
theorem Wj (s:io) (at_:Int): ∀k,lX s at_ k<=k
 |0=>aq0 _
 |k+1=>by
  have:=Wj s at_ k;unfold lX
  split <;>omega
def cn.rZ (m:cn) (at_:Int) (k:Nat):Bool:=decide (m.R < (m.bK.length+lX m.bK at_ k:Nat))&&decide (0 < lX m.bK at_ k)
def cn.H6 (m:cn) (at_:Int) (b:aC3):cn:={m with bK:=yR at_ b m.bK (b.length/16),fl:=w4 at_ b m.fl (b.length/16)}
def vv (b:aC3):Bool:=decide (b.length=0)|| !decide (b.length % 16=0)
abbrev aml (m:cn) (at_:Int) (b:aC3) (k:Nat):aY:=[(0,aq 1001),(1,ab at_),(2,bQ .u8 b),(7,ab (b.length/16:Nat)),(8,ab (m.bK.length+lX m.bK at_ k:Nat)),(35,ab (b.length/16:Nat)),(36,ab (k:Nat))]
abbrev NU (m:cn) (at_:Int) (b:aC3) (k:Nat):aY:=[(0,aq 1001),(1,ab at_),(2,bQ .u8 b),(7,ab (b.length/16:Nat)),(67,ab (b.length/16:Nat)),(68,ab (k:Nat))]
abbrev NV (m:cn) (at_:Int) (b:aC3) (k r:Nat):az:=iS 1001 1002 1003 r {m with bK:=yR at_ b m.bK k,fl:=w4 at_ b m.fl k}
theorem NW (b:aC3):vv b=(decide ((b.length:Int)=0)|| !decide ((b.length:Int) % 16=0)):=by
 have ae:decide (b.length=0)=decide ((b.length:Int)=0):=by rw[Bool.eq_iff_iff,decide_eq_true_iff,decide_eq_true_iff];omega
 have ao:decide (b.length % 16=0)=decide ((b.length:Int) % 16=0):=by rw[Bool.eq_iff_iff,decide_eq_true_iff,decide_eq_true_iff];omega
 rw[vv,ae,ao]
theorem NX {b:aC3} (ak:b.length<=4294967296):(0<=(b.length:Int)/\(0:Int) < 16)/\(-9223372036854775808<=(b.length:Int)/16/\(b.length:Int)/16<=9223372036854775807)/\(-9223372036854775808<=(b.length:Int) % 16/\(b.length:Int) % 16<=9223372036854775807):=az2
theorem amm (m:cn) (at_:Int) (b:aC3) (ak:b.length<=4294967296) (h:vv b=true):Fn Tryz.prog 246 [aq 1001,ab at_,bQ .u8 b] [(1001,.aG (hg m))] [] (ab 1) [(1001,.aG (hg m))]:=by
 refine DZ (aJ:=[]) (aO:=[]) (bb:=[]) ?_ rfl rfl;rw[NW] at h;obtain⟨bZ,cg,a3⟩:=NX ak;refine aU [] Tryz.func246 ?_;refine⟨bZ,cg,fun _=>?_,fun E=>?_⟩
 .exact bg
 refine⟨bZ,a3,fun _=>?_,fun G=>?_⟩
 .exact bg
 .have E:decide ((b.length:Int)=0)=false:=E;have G:(!decide ((b.length:Int) % 16=0))=false:=G;rw[E,G] at h
  cases h
theorem amn (m:cn) (at_:Int) (b:aC3) (ak:b.length<=4294967296) (h:vv b=false) (aF:m.lh at_ (b.length/16:Nat)=false) (E:0<=m.n) (G:m.n<=4096):Fn Tryz.prog 246 [aq 1001,ab at_,bQ .u8 b] [(1001,.aG (hg m))] [] (ab 31) [(1001,.aG (hg m))]:=by
 refine DZ (aJ:=[]) (aO:=[]) (bb:=[]) ?_ rfl rfl;rw[NW,au4] at h;obtain⟨bZ,cg,a3⟩:=NX ak;refine aU [] Tryz.func246 ?_;refine⟨bZ,cg,fun af=>absurd (h.1.symm.trans af) ay5,fun _=>⟨bZ,a3,fun af=>absurd (h.2.symm.trans af) ay5,fun _=>av (NK m at_ (b.length/16:Nat) ay4 E G) ?_⟩⟩;rw[aF];exact fb bg
theorem amo (m:cn) (at_:Int) (b:aC3) (ak:b.length<=4294967296) (h:vv b=false) (aF:m.lh at_ (b.length/16:Nat)=true) (E:0<=m.n) (G:m.n<=4096) (af:m.bK.length<=4096) (hw:w3 m.bK) (H7:m.fl.length+b.length<=4294967296):
  Fn Tryz.prog 246 [aq 1001,ab at_,bQ .u8 b] (iS 1001 1002 1003 1004 m) [2004] (ab (match m.rZ at_ (b.length/16) with |true=>30 |false=>0)) (match m.rZ at_ (b.length/16) with |true=>iS 1001 1002 1003 1004 m |false=>iS 1001 1002 1003 2004 (m.H6 at_ b)):=by
 rw[NW,au4] at h;obtain⟨bZ,cg,a3⟩:=NX ak;refine aU [] Tryz.func246 ?_;refine⟨bZ,cg,fun af=>absurd (h.1.symm.trans af) ay5,fun _=>⟨bZ,a3,fun af=>absurd (h.2.symm.trans af) ay5,fun _=>av (NK m at_ (b.length/16:Nat) ay4 E G) ?_⟩⟩;rw[aF];refine dt ?_;simp only[cn.lh,vj,as5] at aF;obtain⟨⟨oV,oW⟩,uX⟩:=aF;refine av (V5 m) ?_;show bw _ _ _ _ _ _ _;have bF:((b.length:Int)/16)=((b.length/16:Nat):Int):=az2
 have LC:=Wj m.bK at_;refine d2 [] (X:=Nat) (aml m at_ b) (fun k=>iS 1001 1002 1003 1004 m) (fun k=>k<=b.length/16) (fun k=>b.length/16 - k) 0 (aq8 _) ?_ ?_
 .exact ac.sub ⟨rfl,rfl,rfl,bF,rfl,bF,rfl,trivial⟩ aC
 intro k aa;refine⟨fun J=>?_,fun J=>?_⟩
 .have ct:(k:Int) < (b.length/16:Nat):=gd J;have yG:=LC k;refine⟨ay4,rfl,?_⟩
  have aw:lX m.bK at_ (k+1)=match(bY m.bK (at_+(k:Nat):Int)).isSome with
    |true=>lX m.bK at_ k
    |false=>lX m.bK at_ k+1:=rfl
  refine⟨fun aW=>?_,fun aW=>?_⟩
  .have aW:(bY m.bK (at_+(k:Nat):Int)).isSome=false:=by
    have aW:(!(bY m.bK (at_+(k:Nat):Int)).isSome)=true:=aW;simpa using aW
   rw[aW] at aw;have aw:lX m.bK at_ (k+1)=lX m.bK at_ k+1:=aw;refine⟨ay4,ay4,k+1,ay4,ay4,ac.sub ⟨rfl,rfl,rfl,rfl,?_,rfl,rfl,trivial⟩ aC⟩;show _=_;rw[aw];omega
  .have aW:(bY m.bK (at_+(k:Nat):Int)).isSome=true:=by
    have aW:(!(bY m.bK (at_+(k:Nat):Int)).isSome)=false:=aW;simpa using aW
   rw[aW] at aw;refine⟨ay4,k+1,ay4,ay4,ac.sub ⟨rfl,rfl,rfl,rfl,?_,rfl,rfl,trivial⟩ aC⟩;show _=_;rw[aw]
 .have ct:k=b.length/16:=by
   have: ¬(k:Int) < (b.length/16:Nat):=mu J;omega
  subst ct;have yG:=LC (b.length/16);refine⟨fun cI=>?NF,fun cI=>?NG⟩
  case' NF=>
   have cI:decide (m.R < (m.bK.length+lX m.bK at_ (b.length/16):Nat))=true:=cI;refine av (V5 m) ?_;refine⟨fun cE=>?amp,fun cE=>?amq⟩
  case amp=>
   have cE:decide (((m.bK.length:Nat):Int) < (m.bK.length+lX m.bK at_ (b.length/16):Nat))=true:=cE
   have hf:m.rZ at_ (b.length/16)=true:=by
    have au:0 < lX m.bK at_ (b.length/16):=by have:=gd cE;omega
    rw[cn.rZ,cI,ar0 au];rfl
   rw[hf];exact bg
  case' amq=>
   have cE:decide (((m.bK.length:Nat):Int) < (m.bK.length+lX m.bK at_ (b.length/16):Nat))=false:=cE
   have hf:m.rZ at_ (b.length/16)=false:=by
    have au: ¬0 < lX m.bK at_ (b.length/16):=by have:=mu cE;omega
    rw[cn.rZ,cI,at0 au];rfl
   clear cI cE
  case' NG=>
   have cI:decide (m.R < (m.bK.length+lX m.bK at_ (b.length/16):Nat))=false:=cI
   have hf:m.rZ at_ (b.length/16)=false:=by
    rw[cn.rZ,cI];rfl
   clear cI
  all_goals
   rw[hf];refine d2 [] (X:=Nat) (NU m at_ b) (fun k=>NV m at_ b k 2004) (fun k=>k<=b.length/16) (fun k=>b.length/16 - k) 0 (aq8 _) ?_ ?_
   .exact ac.trans (cM (NU m at_ b 0) (NV m at_ b 0 1004)) (ac.aV 1004 2004 rfl)
   intro k aa;refine⟨fun J=>?_,fun J=>?_⟩
   .have ct:(k:Int) < (b.length/16:Nat):=gd J;have nn:sU (sW b k):=NS ay4;have mT:=NT at_ b m.fl k;have cA: -9223372036854775808<=(k:Int)*16/\(k:Int)*16<=9223372036854775807:=az2
    have cF: -9223372036854775808<=(k:Int)+1/\(k:Int)+1<=9223372036854775807:=az2
    have dF: -9223372036854775808<=((k:Int)+1)*16/\((k:Int)+1)*16<=9223372036854775807:=az2
    have fj:0<=(k:Int)*16/\(k:Int)*16<=((k:Int)+1)*16/\((k:Int)+1)*16<=(b.length:Nat):=az2
    refine⟨cA,cF,dF,fj,?_⟩
    have xU:0 < 16/\16<=((b.take (((k:Int)+1)*16).toNat).drop ((k:Int)*16).toNat).length:=by
     rw[au9,aq9];omega
    refine⟨xU,rfl,?_⟩;have wn: -9223372036854775808<=at_+(k:Nat)/\at_+(k:Nat)<=9223372036854775807:=az2
    refine⟨wn,sW b k,⟨nn.wf,rfl⟩,rfl,wn,rfl,H5 (at_+(k:Nat)) (sW b k),⟨⟨trivial,nn.wf⟩,rfl⟩,?_⟩
    have xV:(w4 at_ b m.fl k).length+ [H5 (at_+(k:Nat)) (sW b k)].length<=4294967296:=by
     rw[mT];simp only[at8,List.length_nil];omega
    exact⟨xV,rfl,rfl,ay4,k+1,ay4,ay4,ac.trans (cM (NU m at_ b (k+1)) (NV m at_ b (k+1) 99)) (ac.aV 99 2004 rfl)⟩
   .have ct:k=b.length/16:=by
     have: ¬(k:Int) < (b.length/16:Nat):=mu J;omega
    subst ct;exact bg
def cn.write (m:cn) (at_:Int) (b:aC3):cn×Int:=match vv b with
 |true=>(m,1)
 |false=>match m.lh at_ (b.length/16:Nat) with
  |false=>(m,31)
  |true=>match m.rZ at_ (b.length/16) with
   |true=>(m,30)
   |false=>(m.H6 at_ b,0)
theorem amr (m:cn) (at_:Int) (b:aC3) (ak:b.length<=1073741824) (E:0<=m.n) (G:m.n<=4096) (af:m.bK.length<=4096) (hw:w3 m.bK) (H7:m.fl.length<=1073741824):
  Fn Tryz.prog 246 [aq 1001,ab at_,bQ .u8 b] [(1001,.aG (hg m))] [] (ab (m.write at_ b).2) [(1001,.aG (hg (m.write at_ b).1))]:=by
 unfold cn.write
 cases ae:vv b with
 |true=>exact amm m at_ b ay4 ae
 |false=>
  simp only
  cases ao:m.lh at_ (b.length/16:Nat) with
  |false=>exact amn m at_ b ay4 ae ao E G
  |true=>
   simp only;have h:=amo m at_ b ay4 ae ao E G af hw ay4
   cases bm:m.rZ at_ (b.length/16) with
   |true=>rw[bm] at h;exact DZ (aJ:=[]) (aO:=[]) (bb:=[2004]) h rfl rfl
   |false=>rw[bm] at h;exact NL (aJ:=[]) (aO:=[]) (bb:=[2004]) [(2004,1004)] h ⟨rfl,rfl,rfl,rfl⟩ rfl rfl
end
section
abbrev ee:=List (Nat×cn)
def eZ (L:ee):List (Nat×bc):=L.map fun p=>(p.1,hg p.2)
def hV:ee->Nat->Option cn
 | [],_=>none
 |p::L,b=>if p.1=b then some p.2 else hV L b
def ip:ee->Nat->cn->ee
 | [],_,_=>[]
 |p::L,b,m=>if p.1=b then(p.1,m)::L else p::ip L b m
theorem Wk (b:Nat): ∀L:ee,eu (eZ L) b=(hV L b).map hg
 | []=>rfl
 |p::L=>by
  show(if p.1=b then some (hg p.2) else eu (eZ L) b)=_;unfold hV
  split
  .rfl
  .exact Wk b L
theorem Wl (b:Nat) (m:cn): ∀L:ee,e' (eZ L) b (hg m)=eZ (ip L b m)
 | []=>rfl
 |p::L=>by
  show(if p.1=b then(p.1,hg m)::eZ L else(p.1,hg p.2)::e' (eZ L) b (hg m))=_;unfold ip
  split
  .rfl
  .rw[Wl b m L];rfl
abbrev nF (c d q:Nat) (R:Int) (es:List (Z .str×Z .aM)) (L:ee):az:=NQ c d q R es (eZ L)
theorem A8 {f:FuncId} {args:List aP} {res:aP} {m gw:cn} {L:ee} {b:Nat} (h:Fn Tryz.prog f (aq 1001::args) [(1001,.aG (hg m))] [] res [(1001,.aG (hg gw))]) (cL:hV L b=some m)
  (E:(args.all fun v=> !v.has 1001)=true) (G:(!res.has 1001)=true):Fn Tryz.prog f (dr b::args) [(1003,.aG (.bx (eZ L)))] [] res [(1003,.aG (.bx (eZ (ip L b gw))))]:=by
 have:=(cx.bx (c:=1001) (q:=1003) (b:=b) (args:=args) (aJ:=[]) (bb:=[]) (X:=Unit) (res:=fun _=>res) (aO:=fun _=>[]) (o:=hg m) (o':=fun _=>hg gw) (L:=eZ L) h.x (by rw[Wk,cL];rfl) E ⟨rfl,rfl⟩ rfl (fun _=>G)).fn;rw[Wl] at this;exact this
theorem ams (R:Int) (es:List (Z .str×Z .aM)) (name:aC3):Fn Tryz.prog 182 [aq 1001,bT name] (vu 1001 1002 R es) [] (ab (match iF es name with |some _=>0 |none=>40)) (vu 1001 1002 R (gM es (name:Z .str))):=by
 cases h:iF es name with
 |some b=>
  refine aU [] Tryz.func182 ?_;exact av (NP R es name b h) bg
 |none=>
  refine aU [] Tryz.func182 ?_;exact av (Wb R es name h) bg
structure pm (n:Int) (s:io):Prop where
 hE:(rY s).Nodup
 rg: ∀k∈rY s,0<=k/\k < n
 wf:w3 s
structure hh (m:cn):Prop where
 lB:0<=m.n
 cU:m.n<=4096
 bK:pm m.n m.bK
 nE:pm m.n m.nE
 amt: ∀w∈m.fl,0<=(show Int from w.1)/\(show Int from w.1) < m.n
 NY: ∀w∈m.fl,sU w.2
def m6 (k:Int) (p:Z al×Z g5):Bool:=f0 al (k:Z al) p.1
def yS (k:Int) (x:Z g5):Z al×Z g5:=(k,x)
def D1 (p:Z al×Z g5):Int:=p.1
def sX (s:io) (k:Int) (x:Z g5):io:=dx s (k:Z al) x
theorem H8 (k:Int) (x:Z g5):sX [] k x=[yS k x]:=rfl
theorem A9 (p:Z al×Z g5) (l:io) (k:Int) (x:Z g5):sX (p::l) k x=match m6 k p with |true=>yS k x::l |false=>p::sX l k x:=rfl
theorem sY {k:Int} {p:Z al×Z g5}:m6 k p=true↔k=D1 p:=ami _ _
theorem vw (p:Z al×Z g5) (l:io):rY (p::l)=D1 p::rY l:=rfl
theorem NZ (k:Int) (x:Z g5):D1 (yS k x)=k:=rfl
theorem N0 {k:Int} {x:Z g5} {j:Int}: ∀{s:io},j∈rY (sX s k x)↔j=k\/j∈rY s
 | []=>by rw[H8,vw,NZ,aq5]
 |p::s=>by
  rw[A9]
  cases e:m6 k p with
  |true=>
   rw[vw,vw,NZ,<-sY.1 e];simp
  |false=>
   simp only;rw[vw,vw,aq5,aq5,N0];constructor
   .rintro(h |h |h)
    .exact .inr (.inl h)
    .exact .inl h
    .exact .inr (.inr h)
   .rintro(h |h |h)
    .exact .inr (.inl h)
    .exact .inl h
    .exact .inr (.inr h)
theorem Wm {k:Int} {x:Z g5}: ∀{s:io},(rY s).Nodup->(rY (sX s k x)).Nodup
 | [],_=>by rw[H8,vw];exact as8.2 ⟨fun h=>az4,av8⟩
 |p::s,h=>by
  rw[vw,as8] at h;rw[A9]
  cases e:m6 k p with
  |true=>
   simp only;rw[vw,NZ,sY.1 e];exact as8.2 h
  |false=>
   have e:k≠D1 p:=fun bf=>by rw[sY.2 bf] at e;cases e
   simp only;rw[vw];refine as8.2 ⟨fun aA=>?_,Wm h.2⟩;rcases N0.1 aA with bf |bf
   .exact e bf.symm
   .exact h.1 bf
theorem Wn {k:Int} {x:Z g5} (hx:sU x): ∀{s:io},w3 s->w3 (sX s k x)
 | [],_=>fun p ai=>by
  rw[H8] at ai;rcases aq5.1 ai with e |e
  .rw[e];exact hx
  .cases e
 |q::s,h=>fun p ai=>by
  rw[A9] at ai
  split at ai
  .rcases aq5.1 ai with rfl |ai
   .exact hx
   .exact h p (aq2 _ ai)
  .rcases aq5.1 ai with rfl |ai
   .exact h _ (ar2 ..)
   .exact Wn hx (fun p ai=>h p (aq2 _ ai)) p ai
theorem pm.put {n:Int} {s:io} (h:pm n s) {k:Int} {x:Z g5} (au:0<=k) (E:k < n) (hx:sU x):pm n (dx s (k:Z al) x):=
 ⟨Wm h.hE,fun j V=>by
  rcases N0.1 V with rfl |V
  .exact⟨au,E⟩
  .exact h.rg j V,Wn hx h.wf⟩
theorem pm.nil (n:Int):pm n []:=⟨av8,fun k h=>az4,fun p h=>az4⟩
theorem H9: ∀(n:Nat) (l:List Int),l.Nodup->(∀k∈l,0<=k/\k < n)->l.length<=n
 |0,[],_,_=>aq0 _
 |0,k::l,_,h=>by have:=h k (ar2 ..);omega
 |n+1,l,hn,h=>by
  by_cases aA:(n:Int)∈l
  .have E:=H9 n (l.erase (n:Int)) (hn.erase _) fun k aa=>by
    have eD:=(List.Nodup.mem_erase_iff hn).1 aa;have:=h k eD.2;have:=eD.1;omega
   rw[List.length_erase_of_mem aA] at E;omega
  .have:=H9 n l hn fun k aa=>by
    have:=h k aa;have:k≠n:=fun e=>aA (e▸aa)
    omega
   omega
theorem pm.len {n:Int} {s:io} (h:pm n s) (E:n<=4096):s.length<=4096:=by
 have:=H9 4096 (rY s) h.hE fun k aa=>by have:=h.rg k aa;omega
 rwa[show(rY s).length=s.length from ar1 _] at this
theorem hh.new {n R:Int} (h:rX n=true):hh ⟨n,R,[],[],[]⟩:=by
 simp[rX] at h;exact⟨h.1,h.2,pm.nil _,pm.nil _,fun w hw=>(by cases hw),fun w hw=>(by cases hw)⟩
theorem hh.p1 {m:cn} (h:hh m):hh m.p1:=⟨h.lB,h.cU,h.bK,h.bK,fun w hw=>(by cases hw),fun w hw=>(by cases hw)⟩
theorem N1 {n at_:Int} {b:aC3} (au:0<=at_) {s:io} (h:pm n s): ∀k:Nat,at_+k<=n->16*k<=b.length->pm n (yR at_ b s k)
 |0,_,_=>h
 |k+1,E,G=>(N1 au h k ay4 ay4).put ay4 ay4 (NS G)
theorem N2 {at_:Int} {b:aC3} {l:List (Z p0)} {w:Z p0}: ∀k:Nat,w∈w4 at_ b l k->w∈l\/ ∃i,i < k/\w=H5 (at_+(i:Nat)) (sW b i)
 |0,h=>.inl h
 |k+1,h=>by
  rcases as1.1 h with h |h
  .rcases N2 k h with h |⟨i,aF,e⟩
   .exact .inl h
   .exact .inr ⟨i,ay4,e⟩
  .rw[ar5] at h;exact .inr ⟨k,ay4,h⟩
theorem hh.write {m:cn} (h:hh m) (at_:Int) (b:aC3):hh (m.write at_ b).1:=by
 unfold cn.write
 split
 .exact h
 .split
  .exact h
  .rename_i aF;simp only[cn.lh,vj,as5] at aF;obtain⟨⟨oV,oW⟩,uX⟩:=aF
   split
   .exact h
   .refine⟨h.lB,h.cU,N1 oV h.bK _ (by show at_+_<=m.n;omega) ay4,h.nE,fun w hw=>?_,fun w hw=>?_⟩
    .rcases N2 _ hw with hw |⟨i,aF,rfl⟩
     .exact h.amt w hw
     .show 0<=at_+(i:Nat)/\at_+(i:Nat) < m.n;omega
    .rcases N2 _ hw with hw |⟨i,aF,rfl⟩
     .exact h.NY w hw
     .exact NS ay4
end
section
abbrev qO (bC:Nat):Z .fn:=((242,[bC]):Nat×aC4)
abbrev oF (bC a b:Nat):Z .fn:=((245,[bC,a,b]):Nat×aC4)
abbrev N3 (d:Nat) (e:Int) (eV:List (Z .fn)) (L:List (Nat×bc)):az:=[(1001,.cells [.ptr 1002 0]),(1002,.cells [.own d,.d (.int .i64 e)]),(d,.row 128 .fn eV),(1005,.aG (.bx L))]
abbrev amu (e:Int) (eV:List (Z .fn)) (L:List (Nat×bc)):az:=N3 1006 e eV L
theorem Wo (at_:Int) (x:aC3) (bC:Nat) (e:Int) (eV:List (Z .fn)) (L:List (Nat×bc)) (ak:eV.length<=1000000):
  cx Tryz.prog 244 [ab at_,bQ .u8 x,aq 1001,dr bC] (amu e eV L) [2006] (X:=Nat×Nat) (fun _=>gO) (fun g=>N3 2006 e (eV++[oF bC g.1 g.2]) ((g.2,ho (.co .u8 x))::(g.1,ho (.int .i64 at_))::L)):=by
 refine hO [1] Tryz.func244 ?_;refine⟨rfl,rfl,bw.e4 (di.box 4 4 1005 rfl rfl ay5 rfl) fun er=>bw.e4 (di.box 5 5 1005 rfl rfl ay5 rfl) fun fk=>bu [] (br) ?_⟩;have O:eV.length+1<=4294967296:=az2
 exact⟨O,rfl,rfl,(er,fk),_,_,_,(cM [] (N3 13 e (eV++[oF bC er fk]) ((fk,ho (.co .u8 x))::(er,ho (.int .i64 at_))::L))).trans (ac.aV 13 2006 rfl),rfl,trivial,aC,rfl⟩
theorem amv {bC s:Nat} {m:cn} {L:List (Nat×bc)} {M:ee} (cL:eu L bC=some (ho (.aM (some s)))) (aj:hV M s=some m):
  Fn Tryz.prog 242 [dr bC] [(1005,.aG (.bx L)),(1003,.aG (.bx (eZ M)))] [] (ab 0) [(1005,.aG (.bx L)),(1003,.aG (.bx (eZ (ip M s m.p1))))]:=by
 refine aU [] Tryz.func242 ?_;refine⟨_,_,fun N=>CA (q:=1005) rfl Tryz.underlying198 rfl rfl rfl cL N,rfl,?_⟩;exact av (A8 (alQ m) aj rfl rfl) bg
theorem amw {bC s er fk:Nat} {at_:Int} {x:aC3} {m:cn} {L:List (Nat×bc)} {M:ee} (G:eu L bC=some (ho (.aM (some s)))) (aW:eu L er=some (ho (.int .i64 at_))) (bG:eu L fk=some (ho (.co .u8 x)))
  (aj:hV M s=some m) (ah:hh m) (hx:x.length<=1073741824) (ak:m.fl.length<=1073741824):
  Fn Tryz.prog 245 [dr bC,dr er,dr fk] [(1005,.aG (.bx L)),(1003,.aG (.bx (eZ M)))] [] (ab (m.write at_ x).2) [(1005,.aG (.bx L)),(1003,.aG (.bx (eZ (ip M s (m.write at_ x).1))))]:=by
 refine aU [] Tryz.func245 ?_;refine⟨_,_,fun N=>CA (q:=1005) rfl Tryz.underlying198 rfl rfl rfl G N,rfl,?_⟩;refine⟨_,_,fun N=>CA (q:=1005) rfl Tryz.underlying3 rfl rfl rfl aW N,rfl,?_⟩;refine⟨_,_,fun N=>CA (q:=1005) rfl Tryz.underlying31 rfl rfl rfl bG N,rfl,?_⟩;exact av (A8 (amr m at_ x hx ah.lB ah.cU (ah.bK.len ah.cU) ah.bK.wf ak) aj rfl rfl) bg
end
section
theorem amx (x:aC3) (hx:x.length<=4294967296):Fn Tryz.prog 169 [bQ .u8 x] [] [2001] (eM 2001) (pZ 2001 x):=by
 refine aU [1] Tryz.func169 ?_;refine bw.iL e3 ay7 ?_;refine⟨_,Rp rfl rfl Tryz.underlying31,fun v e h=>?_⟩;obtain⟨b,O,rfl,rfl⟩:=h
 cases b
 .refine⟨rfl,?_⟩;have ak:0+x.length<=4294967296:=az2
  exact⟨ak,rfl,_,_,_,ac.aV 7 2001 rfl,rfl,rfl,aC,rfl⟩
 .have O:=O rfl;subst O;exact⟨_,_,_,ac.nil 2 2001 5 .u8 rfl rfl,rfl,rfl,aC,rfl⟩
def r0 (x:aC3):aC3:=x++ej (jx x).toNat 4
theorem Wp (x:aC3) (hx:x.length<=1000000):Fn Tryz.prog 247 [bQ .u8 x] [] [] (bQ .u8 (r0 x)) []:=by
 have h:=NN x;refine aU [2] Tryz.func247 ?_;refine av (amx x ay4) ?_;refine av (NO [x] ay6 (fun y aD=>by rw[ar5] at aD;rw[aD];omega)) ?_;have ae:([x]:List aC3).flatten=x:=by simp
 rw[ae];refine av (Fn.arg (Fn.aV [(1001,2001),(1002,3002)] (yJ x 4 [(jx x).toNat] (by unfold W;omega) (fun n hn=>by rw[ar5] at hn;rw[hn];omega) ay6 ay4)) ⟨rfl,rfl,DS h.1,trivial⟩) <| bu [] (ac.d0 3002 rfl) ?_;exact eG br rfl (show x++eL 4 [(jx x).toNat]=r0 x by unfold r0 eL;simp)
def dv (n:Int):Int:=max (n - 2) 0/2
theorem H' (n:Int) (au:0<=n) (E:n<=4096):Fn Tryz.prog 239 [ab n] [] [] (ab (dv n)) []:=by
 refine aU [] Tryz.func239 ?_;have cA: -9223372036854775808<=n - 2/\n - 2<=9223372036854775807:=az2
 refine⟨cA,?_⟩;have cF:0<=max (n - 2) 0/\(0:Int) < 2:=az2
 have dF: -9223372036854775808<=max (n - 2) 0/2/\max (n - 2) 0/2<=9223372036854775807:=az2
 exact⟨cF,dF,bg⟩
theorem N4 (n:Int) (au:0<=n) (E:n<=4096):Fn Tryz.prog 237 [ab n] [] [] (ab (dv n*16)) []:=by
 refine aU [] Tryz.func237 ?_;refine av (H' n au E) ?_;have dF: -9223372036854775808<=dv n*16/\dv n*16<=9223372036854775807:=by unfold dv;omega
 exact⟨dF,bg⟩
end
section
abbrev lY:bz:=.bP .str (.b' al)
abbrev lZ:=Z lY
abbrev pn (k:lZ):aC3:=k.1
abbrev ms (k:lZ):List Int:=k.2
def vx (ks:List lZ) (nm:aC3):Option Nat:=ks.findIdx? fun k=>decide (pn k=nm)
def qP (ks:List lZ) (nm:aC3):Int:=match vx ks nm with
 |some i=>(i:Nat)
 |none=> -1
def sZ (ks:List lZ) (nm:aC3):List Int:=match vx ks nm with
 |some i=>match ks[i]? with
  |some k=>ms k
  |none=>[]
 |none=>[]
theorem amy (k:lZ) (nm:aC3):Fn Tryz.prog 128 [.c (.agg [.d (.str (pn k)),.d (.co al (ms k))]),aq 1001] [(1001,.cells [.d (.str nm)])] [] (fI (decide (pn k=nm))) [(1001,.cells [.d (.str nm)])]:=by
 refine aU [] Tryz.func128 ?_;exact⟨rfl,bg⟩
theorem amz (ks:List lZ) (nm:aC3) (ak:ks.length<=4294967296):
  Fn Tryz.prog 127 [bQ lY ks,k1 (.cY 128 [.p 1001 0])] [(1001,.cells [.d (.str nm)])] [] (ab (qP ks nm)) [(1001,.cells [.d (.str nm)])]:=by
 refine aU [] Tryz.func127 ?_;refine d2 [] (X:=Nat) (fun k=>[(0,bQ lY ks),(1,k1 (.cY 128 [.p 1001 0])),(7,ab (ks.length:Nat)),(8,ab (k:Nat))]) (fun _=>[(1001,.cells [.d (.str nm)])]) (fun k=>k<=ks.length/\ ∀(i:Nat) x,i < k->ks[i]? =some x->pn x≠nm) (fun k=>ks.length - k) 0 ⟨aq8 _,fun i x h=>absurd h (ax7 _)⟩ ?_ ?_
 .exact ac.sub aC aC
 rintro k ⟨aa,ai⟩;refine⟨fun h=>?_,fun h=>?_⟩
 .have ct:k < ks.length:=by
   have h:decide ((k:Int) < (ks.length:Int))=true:=h;simpa using h
  refine⟨ay4,ks[k],jJ (n:=k) ct,av (amy ks[k] nm) ⟨fun G=>?_,fun G=>?_⟩⟩
  .have G:pn ks[k]=nm:=gd G;refine⟨_,_,_,br,rfl,(show((k:Nat):Int)=qP ks nm from ?_),aC,rfl⟩
   have:vx ks nm=some k:=by
    rw[vx,List.findIdx?_eq_some_iff_getElem];refine⟨ct,by simp[G],fun j V=>?_⟩;have:=ai j _ V (oj ay4);simpa using this
   rw[qP,this]
  .have G:pn ks[k]≠nm:=mu G;refine⟨ay4,k+1,⟨ay4,fun i x aF hx=>?_⟩,ay4,ac.sub aC aC⟩;rcases Nat.lt_or_ge i k with aW |aW
   .exact ai i x aW hx
   .have:i=k:=az2
    subst this;rw[oj ct] at hx;injection hx with hx
    rw[<-hx];exact G
 .have eD:k=ks.length:=by
   have h:decide ((k:Int) < (ks.length:Int))=false:=h;simp at h;omega
  refine⟨_,_,_,br,rfl,(show(-1:Int)=qP ks nm from ?_),aC,rfl⟩
  have:vx ks nm=none:=by
   rw[vx,List.findIdx?_eq_none_iff];intro x hx;obtain⟨i,aF,rfl⟩:=aw0 hx;have:=ai i _ ay4 (oj aF);simpa using this
  rw[qP,this]
theorem t6 (p:Nat×cn) (L:ee) (b:Nat):hV (p::L) b=if p.1=b then some p.2 else hV L b:=rfl
def mt (f:Nat->cn->cn) (L:ee):ee:=L.map fun q=>(q.1,f q.1 q.2)
theorem Wq (f:Nat->cn->cn) (a:Nat): ∀L:ee,hV (mt f L) a=(hV L a).map (f a)
 | []=>rfl
 |p::L=>by
  show(if p.1=a then some (f p.1 p.2) else hV (mt f L) a)=_;rw[t6]
  split
  .rename_i e;rw[e];rfl
  .exact Wq f a L
theorem Wr {f g:Nat->cn->cn} {L:ee} (h: ∀p∈L,f p.1 p.2=g p.1 p.2):mt f L=mt g L:=as2 fun p ai=>by rw[h p ai]
theorem Ws {f g:Nat->cn->cn} {a:Nat} {gw:cn}: ∀{L:ee},(L.map (·.1)).Nodup-> ∀{m:cn},hV L a=some m->g a m=gw->(∀b,b≠a-> ∀m,g b m=f b m)->ip (mt f L) a gw=mt g L
 | [],_,m,h,_,_=>by cases h
 |p::L,hn,m,h,E,G=>by
  rw[ar4,as8] at hn;show(if p.1=a then(p.1,gw)::mt f L else(p.1,f p.1 p.2)::ip (mt f L) a gw)=(p.1,g p.1 p.2)::mt g L;rw[t6] at h
  split at h
  .rename_i e;injection h with h
   rw[if_pos e,<-E,<-h,e]
   congr 1
   refine Wr fun q aT=>(G _ (fun ao=>hn.1 ?_) _).symm
   rw[e,<-ao];exact ar8 aT
  .rename_i e;rw[if_neg e,Ws hn.2 h E G,G _ e]
theorem amA {ks:List lZ} {nm:aC3} (h:qP ks nm < 0):sZ ks nm=[]:=by
 unfold sZ;unfold qP at h
 cases e:vx ks nm with
 |none=>rfl
 |some i=>rw[e] at h;simp only at h;omega
theorem amB {ks:List lZ} {nm:aC3} (h: ¬qP ks nm < 0): ∃(i:Nat) (aF:i < ks.length),qP ks nm=(i:Nat)/\sZ ks nm=ms ks[i]:=by
 unfold sZ;unfold qP at h⊢
 cases e:vx ks nm with
 |none=>rw[e] at h;simp only at h;omega
 |some i=>
  have E:i < ks.length:=by
   rw[vx,List.findIdx?_eq_some_iff_getElem] at e;exact e.1
  refine⟨i,E,rfl,?_⟩;simp only;rw[oj E]
abbrev s0:=Nat×(Z .str×Z .aM)
def Wt (e:s0):aC3:=e.2.1
def na (e:s0):Option Nat:=e.2.2
def p3 (ks:List lZ) (l:List s0) (bK:aC4) (a:Nat) (m:cn):cn:=match l.find? fun e=>decide (na e=some a) with
 |some e=>match bK.contains e.1 with
  |true=>m.oE (sZ ks (Wt e))
  |false=>m
 |none=>m
def s1 (p:Z .str×Z .aM):aC3:=p.1
def qQ (p:Z .str×Z .aM):Option Nat:=p.2
def yT (ks:List lZ) (es:List (Z .str×Z .aM)) (a:Nat) (m:cn):cn:=match es.find? fun p=>decide (qQ p=some a) with
 |some p=>m.oE (sZ ks (s1 p))
 |none=>m
theorem amC {ks:List lZ} {l:List s0} {bK:aC4} (h: ∀e∈l,e.1∈bK) (a:Nat) (m:cn):p3 ks l bK a m=yT ks (l.map (·.2)) a m:=by
 unfold p3 yT;rw[List.find?_map]
 show _=match Option.map (·.2) (l.find? fun e=>decide (na e=some a)) with
  |some p=>m.oE (sZ ks (s1 p))
  |none=>m
 cases e:l.find? fun e=>decide (na e=some a) with
 |none=>rfl
 |some x=>
  have:=h x (ax4 e);simp[this];rfl
structure s2 (es:List (Z .str×Z .aM)) (L:ee) (W:Nat):Prop where
 ex: ∀p∈es,∃a,qQ p=some a/\a∈L.map (·.1)
 hE:(es.map qQ).Nodup
 Ia:(L.map (·.1)).Nodup
 ok: ∀p∈L,hh p.2
 Ba: ∀p∈L,p.2.fl.length<=W
theorem N5 {a:Nat} {m:cn}: ∀{L:ee},hV L a=some m->(a,m)∈L
 | [],h=>by cases h
 |p::L,h=>by
  rw[t6] at h
  split at h
  .rename_i e;injection h with h
   rw[<-e,<-h];exact ar2 ..
  .exact aq2 _ (N5 h)
theorem Wu {a:Nat}: ∀{L:ee},a∈L.map (·.1)-> ∃m,hV L a=some m
 | [],h=>by cases h
 |p::L,h=>by
  rw[t6]
  split
  .exact⟨_,rfl⟩
  .rename_i e;rcases aq5.1 h with h |h
   .exact absurd h.symm e
   .exact Wu h
theorem amD {l:List s0} (hn:(l.map na).Nodup) {e:s0} (U:e∈l) {a:Nat} (ha:na e=some a):(l.find? fun x=>decide (na x=some a))=some e:=by
 cases h:l.find? fun x=>decide (na x=some a) with
 |none=>
  have:=List.find?_eq_none.1 h e U;simp[ha] at this
 |some x=>
  have E:=List.find?_some h;have G:=ax4 h;have E:na x=some a:=aC0
  rw[NR hn G U (E.trans ha.symm)]
abbrev amE (ks:List lZ):aY:=[(0,aq 1001),(1,bQ lY ks),(11,aq 11)]
abbrev amF (R:Int) (b bS:Nat) (bK:aC4) (l:List s0) (L:ee):az:=[(1001,.cells [.d (.int .i64 R),.mp 1002]),(1002,.aG (.wo b .str .aM l bS)),(11,.aG (.wq b bS bK bS)),(1003,.aG (.bx (eZ L)))]
def yU (bK:aC4) (l:List s0):List s0:=l.filter fun p=> !bK.contains p.1
theorem Wv {bK:aC4} {l:List s0} {p:s0} (ai:p∈l) (hn:p.1∉bK):(yU (bK++[p.1]) l).length < (yU bK l).length:=by
 have e:yU (bK++[p.1]) l=(yU bK l).filter fun q=> !decide (q.1=p.1):=by
  unfold yU;rw[List.filter_filter];refine List.filter_congr fun q _=>?_
  by_cases e:q.1=p.1 <;>simp[e]
 rw[e];have aA:p∈yU bK l:=ax3.2 ⟨ai,by simp[hn]⟩;exact List.length_filter_lt_length_iff_exists.2 ⟨p,aA,ay6⟩
theorem amG (R:Int) (es:List (Z .str×Z .aM)) (L:ee) (W:Nat) (ks:List lZ) (h:s2 es L W) (dc:W<=1073741824) (aa:ks.length<=1073741824) (hr: ∀k∈ks,(ms k).length<=1073741824):
  Fn Tryz.prog 81 [aq 1001,bQ lY ks] (nF 1001 1002 1003 R es L) [] gO (nF 1001 1002 1003 R es (mt (yT ks es) L)):=by
 refine aU [0] Tryz.func81 ?_;refine bw.e4 (di.Rh 1002 rfl) fun x=>?_
 obtain⟨b,l,bS,vy,N6,bt⟩:=x;refine bu [] (br) ⟨_,_,fun N=>Rj (d:=11) rfl Tryz.underlying123 rfl rfl N,rfl,?_⟩;show bw _ _ _ _ _ _ _;have O:(l.map (·.1)).Nodup:=N6.imp fun h=>by omega
 have dC:(l.map na).Nodup:=by
  have:=h.hE;rw[<-vy,at7] at this;exact this
 refine d2 [1] (X:=aC4) (fun _=>amE ks) (fun bK=>amF R b bS bK l (mt (p3 ks l bK) L)) (fun _=>True) (fun bK=>(yU bK l).length) [] trivial ?_ ?_
 .refine ac.sub aC ⟨rfl,rfl,rfl,?_,trivial⟩
  have:mt (p3 ks l []) L=L:=by
   have: ∀p:Nat×cn,(p.1,p3 ks l [] p.1 p.2)=p:=fun p=>by
    unfold p3
    split <;>rfl
   unfold mt;simp only[this];exact List.map_id' L
  rw[this];rfl
 intro bK _;refine bw.iL e3 ay7 ?_;refine⟨_,Rn (c:=1002) (r:=11) rfl rfl rfl rfl (fun p ai=>bt _ (ar8 ai)) (aq0 _),fun v e ay=>?_⟩;rcases ay with⟨p,ai,aw,rfl,rfl⟩ |⟨dB,rfl,rfl⟩
 .have Bb:p.2∈es:=by rw[<-vy];exact ar8 ai
  obtain⟨a,ha,amH⟩:=h.ex _ Bb;obtain⟨m,aA⟩:=Wu amH;have lm:=N5 aA;have yI:=amD dC ai (a:=a) ha
  have P4:p3 ks l bK a m=m:=by
   unfold p3;rw[yI];simp[aw]
  have mG:hV (mt (p3 ks l bK) L) a=some m:=by rw[Wq,aA,av4,P4]
  have gV:ip (mt (p3 ks l bK) L) a (m.oE (sZ ks (Wt p)))=mt (p3 ks l (bK++[p.1])) L:=by
   refine Ws h.Ia aA ?_ ?_
   .unfold p3;rw[yI];simp
   .intro d5 dp gw;unfold p3
    cases e:l.find? fun e=>decide (na e=some d5) with
    |none=>rfl
    |some y=>
     have E:na y=some d5:=by simpa using List.find?_some e
     have a7:y.1≠p.1:=fun ao=>by
      have:=NR O (ax4 e) ai ao;rw[this] at E;exact dp (Option.some.inj (E.symm.trans ha))
     simp[a7]
  have en:=h.ok _ lm;have H7:=h.Ba _ lm;obtain⟨u',yV,pa⟩:=p;have ha:pa=some a:=ha;subst ha;refine⟨_,_,fun N=>Ro (c:=1002) (r:=11) rfl rfl rfl rfl ai N,rfl,?_⟩;refine⟨rfl,av (Fn.aV [(1001,4)] (amz ks yV ay4)) ⟨fun G=>?_,fun G=>?_⟩⟩
  .have G:qP ks yV < 0:=gd G;have oq:sZ ks yV=[]:=amA G;refine av (Fn.arg (A8 (Wd m [] ay6 (by have:=H7;simp only at this;omega) en.NY) mG rfl rfl) aC) ⟨bK++[u'],trivial,Wv ai aw,ac.sub aC ⟨rfl,rfl,rfl,?_,trivial⟩⟩;rw[<-gV];show _=some (ba.aG (bc.bx (eZ (ip _ a (m.oE (sZ ks yV))))));rw[oq];rfl
  .have G: ¬qP ks yV < 0:=mu G;obtain⟨i,aF,vS,oq⟩:=amB G;refine⟨ay4,ks[i],(by rw[show(qP ks yV).toNat=i by omega];exact jJ (n:=i) aF),?_⟩;refine av (A8 (Wd m (ms ks[i]) (by have:=hr _ (as3 aF);omega) (by have:=H7;simp only at this;omega) en.NY) mG rfl rfl) ⟨bK++[u'],trivial,Wv ai aw,ac.sub aC ⟨rfl,rfl,rfl,?_,trivial⟩⟩;rw[<-gV];show _=some (ba.aG (bc.bx (eZ (ip _ a (m.oE (sZ ks yV))))));rw[oq];rfl
 .refine⟨_,_,_,ac.Ri 1002 rfl,rfl,trivial,⟨rfl,?_,?_,trivial⟩,rfl⟩
  .show some (ba.map .str .aM (l.map (·.2)))=_;rw[vy]
  .show some (ba.aG (bc.bx (eZ (mt (p3 ks l bK) L))))=_;rw[Wr (g:=yT ks es) fun q _=>by rw[amC dB,vy]]
end
section
theorem Ib {b:Nat} {m:cn}: ∀{L:ee},hV L b=some m->ip L b m=L
 | [],h=>by cases h
 |p::L,h=>by
  rw[t6] at h;show(if p.1=b then(p.1,m)::L else p::ip L b m)=_
  split at h
  .rename_i e;injection h with h
   rw[if_pos e,<-h]
  .rename_i e;rw[if_neg e,Ib h]
theorem amI (a b:aC3):(f0 .str (a:Z .str) (b:Z .str)=true)↔a=b:=by
 show zd a b=true↔a=b;unfold zd;exact decide_eq_true_iff
end
end Go.Proofs.YtkfbeijmgggkmaaGreat
