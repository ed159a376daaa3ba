/-
A part of the proof of this claim: lemmas, with no condition beyond what each says.
-/
import Derived.Test.YtgclhiekndohdaaGreatZu6
set_option linter.all false
set_option maxRecDepth 100000
set_option maxHeartbeats 0
namespace Go.Proofs.YtgclhiekndohdaaGreat
open Go.RowKit Go.Proofs _root_.Go.Proofs.Tryz Tryz
section
structure lZ (D:aH3) (n:Nat) (w:bQ):Prop where
 nn:uP D n w
 bi:w.z=1
 x: ∃x,w.ds=[x]/\x.us=true
def lZ.of {n:Nat} {w:bQ} (h:Jb n w):lZ (iK w) n w:=by obtain⟨ax,⟨p,db,lb,a,b,hw⟩,aM,_⟩:=h;refine⟨⟨ax,j3.no (by rw[hw]),aM,by rw[hw];rfl,?_,fun x _ j _ _=>rfl⟩,by rw[hw],⟨_,by rw[hw],rfl⟩⟩;rw[hw];intro x hx;rw[au5.1 hx]
def lZ.write {D:aH3} {n:Nat} {w w':bQ} (h:lZ D n w) {s:d1} {e:Int} (Z:s.kd=0) (aj:fp w s e w'):lZ D n w':=by
 refine⟨h.nn.write Z aj,(aj.l0 h.nn.ok).bi.trans h.bi,?_⟩;obtain⟨x,hx,aZ⟩:=h.x;obtain⟨_,rfl⟩:=aj.DS Z;unfold hz
 split
 .refine⟨j1 s.a ((s.b.length:Int)/16) x,?_,?_⟩
  .show w.ds.map _=_;rw[hx];rfl
  .unfold j1
   split
   .exact aZ
   .exact aZ
 .exact⟨x,hx,aZ⟩
def arG {w w':bQ} (sv:tB w.bO=false) {s:d1} {e:Int} (Z:s.kd=3\/s.kd=5\/s.kd=6\/s.kd=8\/s.kd=9) (aj:fp w s e w'):w'.ds=w.ds:=by
 cases aj with
 |over Z V aj=>
  obtain⟨p,dr,U,⟨ar,rfl⟩ |⟨ar,rfl⟩⟩:=aj
  .rfl
  .rfl
 |merge Z V aj=>
  obtain⟨_,⟨_,b,rfl⟩ |⟨_,rfl⟩⟩:=aj
  .rfl
  .rfl
 |pull Z V aj=>
  obtain⟨_,⟨_,b,rfl⟩ |⟨_,rfl⟩⟩:=aj
  .rfl
  .rfl
 |xX Z V=>rfl
 |xY Z V=>rfl
 |xZ Z V aj=>rw[V] at sv;cases sv
 |E6 Z V=>rfl
 |busy=>rfl
 |xu=>rfl
 |I7=>rfl
 |_=>omega
def lZ.step {D:aH3} {n:Nat} {w w':bQ} (h:lZ D n w) {s:d1} {e:Int} (Z:s.kd=3\/s.kd=5\/s.kd=6\/s.kd=8\/s.kd=9) (aj:fp w s e w'):lZ D n w':=
 ⟨h.nn.step Z aj,(aj.l0 h.nn.ok).bi.trans h.bi,by rw[arG h.nn.Pr Z aj];exact h.x⟩
def lZ.ev {D:aH3} {n:Nat} {w w':bQ} (h:lZ D n w) {x:jI} (hE:kI x≠7) (aj:Yx w x w'):lZ D n w':=by
 obtain⟨cJ,E,G⟩:=aj
 have bl:lZ D n cJ:=by
  rcases E with⟨_,e,aj⟩ |⟨_,rfl⟩
  .exact h.write rfl aj
  .exact h
 rcases G with⟨aV,e,aj⟩ |⟨_,rfl⟩
 .exact bl.step (by have:=Yy aV;show kI x=3\/kI x=5\/kI x=6\/kI x=8\/kI x=9;omega) aj
 .exact bl
structure nZ (D ri:aH3) (N:Nat) (ks:aI7) (p:Nat) (X:aH3):Prop where
 len:X.length=16*N
 g0: ∀s,s < N->Go.Proofs.YtgclhiekndohdaaGreat.g0 X s=if s < p/\ks[s]? =some 1 then Go.Proofs.YtgclhiekndohdaaGreat.g0 ri s else Go.Proofs.YtgclhiekndohdaaGreat.g0 D s
section
variable {D ri:aH3} {N:Nat} {ks:aI7} {p m:Nat} {X:aH3}
def nZ.skip (h:nZ D ri N ks p X) (Z: ∀s,p<=s->s < p+m->ks[s]? ≠some 1):nZ D ri N ks (p+m) X:=by
 refine⟨h.len,fun s aw=>?_⟩;rw[h.g0 s aw]
 by_cases E:ks[s]? =some 1
 .by_cases G:s < p
  .rw[vj ⟨G,E⟩,vj ⟨aD7,E⟩]
  .rw[mu (fun e=>G e.1),mu (fun e=>Z s aD7 e.1 E)]
 .rw[mu (fun e=>E e.2),mu (fun e=>E e.2)]
def nZ.arH (h:nZ D ri N ks p X) (Ij:p+m<=N) {Y:aH3} (DR:Y.length=16*m) (arI: ∀j,j < m->Go.Proofs.YtgclhiekndohdaaGreat.g0 Y j=Go.Proofs.YtgclhiekndohdaaGreat.g0 ri (p+j)) (Z: ∀s,p<=s->s < p+m->ks[s]? =some 1):nZ D ri N ks (p+m) (laid X (16*p) (16*m) Y):=by
 rw[<-DR];have lN:=h.len;refine⟨by rw[apG (X:=X) (ys:=Y) (off:=16*p) aD7];exact lN,fun s aw=>?_⟩;rw[apH (X:=X) (ys:=Y) (f:=p) (m:=m) aD7 DR,h.g0 s aw]
 by_cases E:p<=s/\s < p+m
 .rw[vj E,arI (s - p) aD7,vj ⟨E.2,Z s E.1 E.2⟩]
  congr 1
  omega
 .rw[mu E]
  by_cases G:s < p
  .by_cases ah:ks[s]? =some 1
   .rw[vj ⟨G,ah⟩,vj ⟨aD7,ah⟩]
   .rw[mu (fun e=>ah e.2),mu (fun e=>ah e.2)]
  .rw[mu (fun e=>G e.1),mu (fun e=>E ⟨aD7,e.1⟩)]
def nZ.start (cw:D.length=16*N):nZ D ri N ks 0 D:=
 ⟨cw,fun s aw=>by rw[mu (fun e=>at1 e.1 (aC7 s))]⟩
end
def arJ {g:Int} {es:aH5} {n s:Nat} (h:s < n):(h3 g es n)[s]? =some (if ke g es s=true then 1 else 0):=by unfold h3;rw[av1,List.getElem?_range h];rfl
def nZ.done {D:aH3} {n:Nat} {w:bQ} (h:lZ D n w) {x:bh} (hx:w.ds=[x]) {X:aH3} (cG:nZ D (iK w) (2*n) (h3 x.g x.es (2*n)) (2*n) X):X=iK w:=by
 have lN:=Pp h.nn.ok;rw[h.nn.aR,h.bi] at lN;have dr:=h.nn.C x (by rw[hx];exact au5.2 rfl);rw[h.bi] at dr;refine X' (n:=2*n) cG.len (by rw[lN];omega) fun s aw=>?_
 rw[cG.g0 s aw,arJ aw]
 cases aM:ke x.g x.es s with
 |true=>rw[vj ⟨aw,rfl⟩]
 |false=>rw[mu (fun e=>by have:=e.2;cases this),dr s aD7 aM]
def n0 (x:bh) (N:Nat):List cK:=me (kh ((N:Nat):Int) x.g x.es) 0 ((N:Nat):Int)
def arK (x:bh):nQ [x]=[x.nm]:=by unfold nQ pZ;rw[EB];exact List.mergeSort_singleton _
structure arL (x:bh) (N:Nat) (X:aI6):Prop where
 rt:fL 0 X=true
 k:eV X=h3 x.g x.es N
 len:X.length<=100
 kd: ∀y,y∈X->0<=y.2.2/\y.2.2 < 256
def arM {x:bh} {N:Nat} (E:1<=N) (eM:N<=24) (aw:x.s=((N:Nat):Int)) (aZ:x.us=true) (z:Nat) (L:aH6) (nm:aH3):
  arL x N (n0 x N)/\oU z L nm [x] (3,0,0,0,((N:Nat):Int))=mP 0 0 (gE (n0 x N)):=by
 have hr:(h3 x.g x.es N).length=N:=zx x.g x.es N;have zt:kh ((N:Nat):Int) x.g x.es=lQ (h3 x.g x.es N):=by unfold kh;rw[az8]
 obtain⟨PJ,PK⟩:=apP (ks:=h3 x.g x.es N) (by rw[hr];omega);have mJ:fa (kh ((N:Nat):Int) x.g x.es)=((N:Nat):Int):=by rw[zt,Pq PJ,PK,hr]
 rw[<-zt] at PJ PK;obtain⟨PL,Cv⟩:=apQ PJ (by rw[mJ];omega) (by rw[mJ];omega);rw[mJ] at PL Cv;rw[PK] at Cv
 have arN:me (kh ((N:Nat):Int) x.g x.es) 0 ((N:Nat):Int)≠[]:=fun e=>by
  rw[e] at Cv;have:=at2 List.length Cv;rw[hr] at this;have:0=N:=this;omega
 refine⟨⟨PL,Cv,?_,fun y aD=>?_⟩,?_⟩
 .have E:=H8 (kh ((N:Nat):Int) x.g x.es) 0 ((N:Nat):Int);have G:=(Ew (h3 x.g x.es N)).len;rw[<-zt,hr] at G;unfold n0;omega
 .obtain⟨i,hi,rfl⟩:=aA5 aD;have aC:=arC aD (Yi PL hi).2.1;rw[show eV (n0 x N)=h3 x.g x.es N from Cv] at aC;unfold h3 at aC;obtain⟨aH,_,e⟩:=av7.1 aC;rw[<-e]
  split <;>decide
 .have af:nY z L nm [x] (3,0,0,0,((N:Nat):Int))=(gE (n0 x N),0):=by
   show oT [x] (3,0,0,0,((N:Nat):Int))=_;unfold oT;rw[arK];show(match dE [x] x.nm with |none=>([],(110:Int)) |some e=>if e.us=true then oS (kh e.s e.g e.es) 0 ((N:Nat):Int) else([],110))=_;rw[v8,vj rfl];simp only[aZ,if_true,ite_true];rw[aw];unfold oS;rw[mu arN];rfl
  unfold oU;rw[af]
end
section
def ac.Zc {ids:aH4} {K:aW} {B:ay} (c:Nat) {o o':bc} (J:ae B c=some (.az o)) (h: ∀I F w p,o.bo I F w p->o'.bo I F w p):ac ids K B K ((c,.az o')::B):=by
 rintro N C a w ⟨hn,H,ρ,F,ak,au⟩;obtain⟨bH,aY⟩:=ak.hT (w':=w) (ch:=.az o') J (cU.refl _ _) fun I a7=>h _ _ _ _ (o.cj _ _ _ _ _ _ (ak.holds c _ J) a7 (fun _ _=>rfl) (at0 _))
 exact⟨hn,H,ρ,F,bH,au.mono aY fun _ _ _=>rfl⟩
def arO {l:aI1} {b:Nat} (I F:Nat->Prop) (w:aH9) (p:bp) (h:((i0 l).at b).bo I F w p):((jJ l).at b).bo I F w p:=⟨h.1,j8.aT [(1001,1005),(1002,1006),(1003,1007),(1004,1008)] h.2⟩
def arP {l:aI1} {b:Nat} (I F:Nat->Prop) (w:aH9) (p:bp) (h:((jJ l).at b).bo I F w p):((i0 l).at b).bo I F w p:=⟨h.1,j8.aT [(1005,1001),(1006,1002),(1007,1003),(1008,1004)] h.2⟩
abbrev x6 (x:aH3) (n:Nat) (e:Int):aN:=.b4 [.one (.d (.b' .u8 x)),.one (.d (.int .i64 (n:Nat))),.one (.d (.int .i64 e))]
def arQ {z R:Nat} {L:aH6} (h:b6 z R L) {l:aI1} (H:eA l) (db:Nat) (nm b:aH3) (O:b.length<=100000):
  Fn prog 17 [ap 1001,bN nm,dd db,bE .u8 b] [hR z R L,(1101,.az (.bt [(db,i0 l)]))] [] (x6 (i7 (oU z L nm l) b.length b).1 (i7 (oU z L nm l) b.length b).2.1 (i7 (oU z L nm l) b.length b).2.2) [hR z R L,(1101,.az (.bt [(db,i0 l)]))]:=by
 have E:=arB h H nm b O;generalize(i7 (oU z L nm l) b.length b).1=x at E;generalize(i7 (oU z L nm l) b.length b).2.1=n at E;generalize(i7 (oU z L nm l) b.length b).2.2=e at E
 have G:Fn prog 17 [ap 1001,bN nm,ap 1005,bE .u8 b] (bP z R L++[(1005,.az (jJ l))]) [] (x6 x n e) (bP z R L++[(1005,.az (jJ l))]):=
  Fn.S2 (d:=1009) (aO:=bP z R L++[(1005,.az (jJ l))]) E rfl rfl rfl
 have ah:Fn prog 17 [ap 1001,bN nm,ap 1005,bE .u8 b] (hR z R L::[(1005,.az (jJ l))]) [] (x6 x n e) (hR z R L::[(1005,.az (jJ l))]):=Fn.xR G rfl rfl;have aS:Fn prog 17 [ap 1001,bN nm,ap 1005,bE .u8 b] ([(1005,.az (jJ l))]++[hR z R L]) [] (x6 x n e) ([(1005,.az (jJ l))]++[hR z R L]):=Fn.swap (A:=[hR z R L]) (A':=[hR z R L]) ah rfl rfl;have bB:Fn prog 17 [ap 1001,bN nm,ap 1005,bE .u8 b] [(1005,.az ((jJ l).at db)),hR z R L] [] (x6 x n e) [(1005,.az ((jJ l).at db)),hR z R L]:=Fn.Xu (b:=db) aS rfl
 refine Fn.via (X:=Unit) (args':=fun _=>[ap 1001,bN nm,ap 1005,bE .u8 b]) (uh:=fun _=>[(1005,.az ((jJ l).at db)),(1101,.az (.bt (jS [(db,i0 l)] db))),hR z R L]) (m0:=fun _=>[(1005,.az ((jJ l).at db)),hR z R L]) (iR:=fun _=>[]) (res':=fun _=>x6 x n e) (nA:=fun _=>[(1005,.az ((jJ l).at db)),hR z R L]) bB.1 4 rfl ?_ (fun _=>bB) (fun _=>aA) (fun _=>rfl) (fun _=>rfl)
  (fun _=>⟨x6 x n e,[hR z R L,(1101,.az (.bt (fX [(db,i0 l)] db (i0 l))))],?_,aA,⟨rfl,?_,trivial⟩,rfl⟩)
 .rintro N C a w aw
  have gD:ac (ck [hR z R L,(1101,.az (.bt [(db,i0 l)]))]) (nx 0 [ap 1001,bN nm,dd db,bE .u8 b]) [hR z R L,(1101,.az (.bt [(db,i0 l)]))] (nx 0 [ap 1001,bN nm,ap 1005,bE .u8 b]) [(1005,.az ((jJ l).at db)),(1101,.az (.bt (jS [(db,i0 l)] db))),hR z R L]:=
   ac.trans (ac.AV 1101 1005 db rfl (vj rfl) rfl) (ac.trans (ac.Lq 2 1005 db rfl rfl) (ac.trans (ac.Zc 1005 rfl arO) (ac.sub aA aA)))
  exact⟨(),gD N C a w aw⟩
 .exact ac.trans (ac.Zc 1005 rfl arP) (ac.trans (ac.Lt (o:=i0 l) (L:=[(db,i0 l)]) 1101 1005 db rfl rfl (vj rfl) aD8) (ac.sub ⟨aA,trivial⟩ aA))
 .show some (a8.az (.bt (fX [(db,i0 l)] db (i0 l))))=_;rw[show fX [(db,i0 l)] db (i0 l)=[(db,i0 l)] from vj rfl]
end
section
def Zd (P:aI0) (g o:Nat) (t:aI3) (mj:aJ9): ∀(aE:aH7) (i:Nat) (di:aJ6) (w:aH9),w.heap[g]? =some (.cells di t mj)->o+i+aE.length<=mj.1->o+i+aE.length<=di.size->(∀v∈aE,v.oneCell'=true)->
  (storeCells ⟨g,o,none⟩ aE i).run P w= .ok () (w.setRow g (di.toList.take (o+i)++aE++di.toList.drop (o+i+aE.length)).toArray)
 | [],i,di,w,aV,_,_,_=>by
  simp only[storeCells,av2,List.length_nil,aA0,List.take_append_drop,Array.toArray_toList];rw[setRow_self w g di t mj aV];rfl
 |v::rest,i,di,w,aV,vu,al,E=>by
  have hi:o+i < di.size:=by simp at al;omega
  have qW:(⟨g,o,none⟩:Addr).add i=⟨g,o+i,none⟩:=by unfold Addr.add;split <;>simp_all
  have GQ:w.cell? ⟨g,o+i,none⟩=some di[o+i]:=by simp[World.cell?,aV,hi]
  have arR:w.frozen? ⟨g,o+i,none⟩=false:=by
   obtain⟨lo,FZ⟩:=mj;simp only[World.frozen?,aV,Bool.and_eq_false_iff,decide_eq_false_iff_not];left;simp only[aw7] at vu;omega
  have ed:(store ((⟨g,o,none⟩:Addr).add i) v).run P w= .ok () (w.setRow g (di.setIfInBounds (o+i) v)):=by
   rw[qW,run_store P w _ v _ (E v aD9),GQ];simp[arR,setCell_eq_setRow w g (o+i) di t mj v aV]
  have bk:=Zd P g o t mj rest (i+1) (di.setIfInBounds (o+i) v) (w.setRow g (di.setIfInBounds (o+i) v)) (setRow_heap w g di _ t _ aV) (by simp at vu⊢;omega) (by simp at al⊢;omega) (fun x hx=>E x (by simp[hx]));simp only[storeCells,aw3,ed,au6,bk,setRow_setRow]
  congr 3
  have e:=list_seg_step di.toList (o+i) v rest (by simp at al⊢;omega);simpa[Array.toList_setIfInBounds,Nat.add_assoc] using e
def arS {P:aI0} (w:aH9) (dT sT ty elem:aI3) (g o ro dCap:Nat) (a:Addr) (Ze uZ:Nat) (di:aJ6) (t:aI3) (mj:aJ9) (cs:aH7)
  (aZ:P.underlying dT=some (.slice elem)) (aw:(P.info? elem).map (·.size)=some 1)
  (aV:w.heap[g]? =some (.cells di t mj)) (hn:cs.length=Nat.min Ze ro)
  (CX: ∀j v,cs[j]? =some v->w.cell? (a.add j)=some v) (vu:o+cs.length<=mj.1) (jL:o+cs.length<=di.size) (E: ∀v∈cs,v.oneCell'=true):
  (Builtin.copy_ #[dT,sT] ty #[.slice (some ⟨g,o,none⟩) ro dCap,.slice (some a) Ze uZ]).run P w=
   .ok (goInt cs.length) (w.setRow g (di.toList.take o++cs++di.toList.drop (o+cs.length)).toArray):=by
 have al:=run_loadCells_list (P:=P) w a cs CX;have ed:=Zd P g o t mj cs 0 di w aV (by simpa using vu) (by simpa using jL) E
 cases a2:P.info? elem with
 |none=>simp[a2] at aw
 |some i=>
  have hi:i.size=1:=by simpa[a2] using aw
  simp[Builtin.copy_,run_underlying aZ,Builtin.lenOf,Builtin.firstCells,sizeOf,typeInfo,a2,hi,<-hn,al,ed]
def zX (X:aH3):bc where
 bo _ F w p:=(∀b,F b↔b=p.bf)/\p.A=some ⟨p.bf,0,none⟩/\p.n=X.length/\X.length<=p.cap/\p.cap<=maxLen/\ ∃di e mj,w.heap[p.bf]? =some (.cells di e mj)/\di.size=p.cap/\p.cap<=mj.1/\di.toList.take X.length=X.map gu
 cj I F w I' w' p h _ bg _:=by
  obtain⟨E,G,ah,aS,bB,di,e,mj,ej,hE⟩:=h;exact⟨E,G,ah,aS,bB,di,e,mj,(bg _ ((E _).2 rfl)).trans ej,hE⟩
section
variable {P:aI0} {aQ:df} {ids:aH4} {K:aW} {B:ay} {o:Oper}
def arT {S T e:aI3} {d:Nat} {x:aI2} {s:aH3} (ai:o.op= .convert S T x) (au:P.underlying S=some .string) (bR:P.underlying T=some (.slice e)) (U:P.underlying e=some (.int .u8)) (hx:a1 K x= .c (.one (.d (.str s)))) (al:s.length<=4294967296) (N:Nat):
  bx P N ids o K B (.c (.one (.own d))) ⟨[],[d],[(d,some (.az (zX s)))]⟩:=by
 have m1:x∈o.op.operands:=aE4
 refine bx.make (fun d h=>Aq h) fun K' B' g1 g2 C ρ F a w ak PM hn=>?_
 have aB:=PM.str ((g1 x m1).trans hx);have dK:=Lib.run_convert_string_bytes (P:=P) w S T e ⟨s.toArray⟩ au bR U;have jB:=Lib.bytesWorld_at_new w e ⟨s.toArray⟩;have rk:=grownCap_ge w s.length 0 e
 have cA:(Lib.bytesCells w e ⟨s.toArray⟩).size=grownCap w s.length 0 e:=by
  unfold Lib.bytesCells;rw[Array.size_append,Array.size_map,Array.size_replicate,u9];show s.toArray.size+_=_;rw[List.size_toArray];omega
 rw[u9] at dK
 refine⟨.slice (some ⟨w.heap.size,0,none⟩) s.length (grownCap w s.length 0 e),Lib.bytesWorld w e ⟨s.toArray⟩,⟨w.heap.size,some ⟨w.heap.size,0,none⟩,s.length,grownCap w s.length 0 e⟩,fun b=>b=w.heap.size,?_,⟨rfl,rfl,rfl,by rw[Lib.bytesWorld_size];omega,fun k Z=>Lib.bytesWorld_at_old w e _ k Z⟩,fun b O=>?_,
  fun I aY O=>⟨⟨fun b=>Iff.rfl,rfl,rfl,rk,grownCap_le_maxLen _ _ _ _ aH0,_,e,_,jB,cA,?_,?_⟩,?_⟩⟩
 .simp only[execOp,ai,aw3,aB,dK,au6,ax1]
 .subst O;exact⟨at0 _,by rw[Lib.bytesWorld_size];omega⟩
 .show _<=(Lib.bytesCells w e ⟨s.toArray⟩).size;rw[cA];exact at0 _
 .unfold Lib.bytesCells;rw[Array.toList_append,List.take_append_of_le_length aD9,ax3 aD9];simp[gu]
 .simp only[cx,gC,dW,dB,bp.eS]
def arU (bl:d6 P aQ) {T e:aI3} {te:b8} {x y:aI2} {c:Nat} {X:aH3} {i:Int} (ai:o.op= .slice T x (some y) none none) (U:elemOf aQ T=some (e,te)) (h6:pE aQ e=true) (hx:a1 K x= .c (.one (.own c))) (J:ae B c=some (.az (zX X))) (aD:a1 K y= .c (.one (.d (.int .i64 i)))) (ar:0<=i/\i<=X.length) (N:Nat):
  bx P N ids o K B (.c (.one (.os c 1 i.toNat (X.length - i.toNat)))) ⟨[c],[],[]⟩:=by
 have m1:x∈o.op.operands:=aE4
 have m2:y∈o.op.operands:=aE4
 obtain⟨aZ,c9,ds,bu⟩:=oe bl U;obtain⟨_,QY,i8,d8,wN,_,CY,_⟩:=ve bl h6;refine bx.val fun K' B' E G C ρ F a w ak au=>?_
 have dq:=au.own ((E x m1).trans hx);obtain⟨_,_,hn,sJ,_⟩:=ak.holds c _ ((G c aD9).trans J);unfold bp.eS at dq;rw[hn] at dq;obtain⟨cr,cv,dm⟩:=FY (P:=P) (w:=w) (K:=K) au (CV:=true) (lo:=some y) (hi:=none) (l:=i.toNat) (h:=X.length) (p:=0<=i/\i<=X.length) (n:=X.length) (cap:=(ρ c).cap) (by show yj X.length (some (a1 K y)) none=_;rw[aD];rfl) ar sJ (fun aH aM=>by injection aM with aM;rw[<-aM];exact E y m2) (fun aH aM=>by cases aM);rw[Option.map_none] at cr;refine⟨_,?_,rfl⟩;have hK:i8.size=1:=wN.size.trans CY;have aM:(sizeOf e).run P w= .ok 1 w:=by simp[sizeOf,typeInfo,wN.jK,hK]
 simp only[execOp,ai,aw3,Instr.sliceAt,Instr.slice,run_underlying aZ,au6,dq,Option.map_none,cr,aM,ax1]
def arV (bl:d6 P aQ) {T ew e:aI3} {te:b8} {x y:aI2} {c:Call} {d off n:Nat} {X ys:aH3} (ai:o.op= .call c) (eW:c.callee= .builtin .copy) (e3:c.args.toList=[x,y]) (li:c.argTypes.toList=[T,ew]) (U:elemOf aQ T=some (e,te)) (h6:pE aQ e=true) (hx:a1 K x= .c (.one (.os d 1 off n))) (al:ae B d=some (.az (zX X))) (aD:a1 K y= .c (.one (.d (.b' .u8 ys)))) (jL:off+n<=X.length) (N:Nat):
  bx P N ids o K B (.c (.one .any)) ⟨[d],[],[(d,some (.az (zX (laid X off n ys))))]⟩:=by
 have e6:c.args= #[x,y]:=ay4.1 e3;have iN:c.argTypes= #[T,ew]:=ay4.1 li;obtain⟨rC,args,ct⟩:=c;simp only at eW e6 iN;subst eW e6 iN;have m1:x∈o.op.operands:=aE8
 have m2:y∈o.op.operands:=aE8
 obtain⟨aZ,c9,ds,bu⟩:=oe bl U;obtain⟨_,QY,i8,d8,wN,_,CY,_⟩:=ve bl h6;have cA:(P.info? e).map (·.size)=some 1:=by rw[wN.jK];simp[wN.size,CY]
 refine bx.QW al fun K' B' E C ρ F a w ak au fG=>?_
 obtain⟨bg,dO,hn,sJ,Jn,di,t,mj,aV,fC,vu,rE⟩:=ak.holds d _ fG;have vg:=au.os ((E x m1).trans hx);have Kp:=QV (fun b O=>O.1) (au.b' ((E y m2).trans aD));obtain⟨sp,uZ,ir,bW,lh⟩:=PV Kp n;have Cw:=F4 X ys jL;have gD:((ys.map gu).take n).length<=n:=by rw[at9];exact Nat.min_le_left _ _
 have aa4:di.toList.length=(ρ d).cap:=by rw[Array.length_toList];exact fC
 by_cases ar:((ys.map gu).take n).length=0
 .have dK:=run_copy_none (P:=P) w T ew o.type e (if(ρ d).cap=off then(ρ d).A else(ρ d).A.map (·.add (off*1))) sp n ((ρ d).cap - off) (List.length (α:=UInt8) ys) uZ aZ cA (by rw[<-bW];exact ar)
  have qt:(execOp a.eval o).run P w= .ok (.value (goInt 0)) w:=by
   simp only[execOp,ai,resolve,invoke,builtin,vg,ir,dK,List.map_toArray,au9,aC9,aw3,ax1,au6]
  refine⟨_,w,qt,cU.refl _ _,fun I aY=>⟨bg,dO,by rw[Cw];exact hn,by rw[Cw];exact sJ,Jn,di,t,mj,aV,fC,vu,?_⟩⟩;have af:=Ko X ys off n;rw[aw5 ar] at af;rw[Cw,rE,<-af];simp
 .obtain⟨ad,rfl,CX⟩:=lh aD7;have EC: ¬(ρ d).cap=off:=aE5
  rw[mu EC,dO] at vg
  have vg:a.eval x= .slice (some ⟨(ρ d).bf,off,none⟩) n ((ρ d).cap - off):=by
   rw[vg,az3,qo,Nat.mul_one,ax6]
  have dK:=arS (P:=P) w T ew o.type e (ρ d).bf off n ((ρ d).cap - off) ad (List.length (α:=UInt8) ys) uZ di t mj ((ys.map gu).take n) aZ cA aV bW CX aD7 aD7 (fun v aB=>Jr _ v (List.mem_of_mem_take aB))
  have qt:(execOp a.eval o).run P w= .ok (.value (goInt ((ys.map gu).take n).length)) (w.setRow (ρ d).bf (di.toList.take off++(ys.map gu).take n++di.toList.drop (off+((ys.map gu).take n).length)).toArray):=by
   simp only[execOp,ai,resolve,invoke,builtin,vg,ir,dK,List.map_toArray,au9,aC9,aw3,ax1,au6]
  refine⟨_,_,qt,CU ((bg _).2 rfl),fun I aY=>⟨bg,dO,by rw[Cw];exact hn,by rw[Cw];exact sJ,Jn,_,t,mj,setRow_heap w _ _ _ t _ aV,?_,vu,?_⟩⟩
  .simp only[List.size_toArray,as9,at9,ax8] at*;omega
  .rw[Cw];show List.take X.length (di.toList.take off++(ys.map gu).take n++di.toList.drop (off+((ys.map gu).take n).length))=_;rw[QT _ _ _ _ aD7 aD7,rE];exact Ko X ys off n
def arW {S T e:aI3} {x:aI2} {c:Nat} {X:aH3} (ai:o.op= .convert S T x) (au:P.underlying S=some (.slice e)) (U:P.underlying e=some (.int .u8)) (bR:P.underlying T=some .string) (hx:a1 K x= .c (.one (.own c))) (J:ae B c=some (.az (zX X))) (N:Nat):
  bx P N ids o K B (.c (.one (.d (.str X)))) ⟨[c],[],[]⟩:=by
 have m1:x∈o.op.operands:=aE4
 refine bx.val fun K' B' E G C ρ F a w ak PM=>⟨_,?_,rfl⟩
 have dq:=PM.own ((E x m1).trans hx);obtain⟨_,dO,hn,sJ,Jn,di,t,mj,aV,fC,vu,rE⟩:=ak.holds c _ ((G c aD9).trans J);unfold bp.eS at dq;rw[hn,dO] at dq
 have O:pC (fun _=>True) w (.slice (some ⟨(ρ c).bf,0,none⟩) X.length (ρ c).cap) X:=by
  refine⟨aD9,_,_,rfl,sJ,Jn,fun ag=>⟨_,0,rfl,trivial,?_,fun j u V=>?_⟩⟩
  .exact(aA8.1 aV).1
  .rw[<-rE,ay5] at V
   split at V
   .rw[ax6];simp only[World.cell?,aV];simpa using V
   .cases V
 simp only[execOp,ai,aw3,dq,Js O S T e au U bR,au6,ax1]
end
end
section
def arX {z R:Nat} {L:aH6} (h:b6 z R L) {nm:aH3} {d:aI} (H:dk L nm=some d) {a m:Nat} (hn:a+m<=e0 d.im):mH z L nm (a:Int) (m:Int)=(jD z L nm (ce L nm) a m,0):=by
 have dP:dS d.im (a:Int) (m:Int)=0:=by
  unfold dS;rw[mu aD7,mu aD7]
 unfold mH;rw[H];simp only;rw[vj dP,az8,az8]
def arY {D:aH3} {n:Nat} {w:bQ} (h:lZ D n w) {p m:Nat} (Ij:p+m<=2*n): ∃Y:aH3,Y.length=16*m/\(∀j,j < m->g0 Y j=g0 (iK w) (p+j))/\Fn prog 22 [ap 1401,ab (p:Int),ab (m:Int)] (ql w) [] (.b4 [.one (.d (.b' .u8 Y)),dw 0]) (ql w):=by
 have ax:=h.nn.ok;have dr:=ax.cs;obtain⟨d,H⟩:=aw9.1 ax.kd;have aM:b7 w.L w.aU=d.im.t.length:=aF1
 have xh:=BC dr H;rw[<-aM,h.nn.aR,h.bi] at xh;have aj:=X8 w dr (p:Int) (m:Int);rw[arX dr H (by rw[xh];omega)] at aj;refine⟨_,zb dr.tonJ H (dr.b5 w.aU).1 p m,fun j V=>?_,aj⟩;rw[X9 dr H p m j V,Ja ax (by rw[h.nn.aR,h.bi];omega)];rfl
def lZ.PN {D:aH3} {n:Nat} {w:bQ} (h:lZ D n w):Jm n w:=⟨h.nn.ok,h.nn.Cp,h.bi,h.nn.aR⟩
def arZ {D:aH3} {n:Nat} (E:1<=n) (ej:n<=6) {w:bQ} (h:lZ D n w): ∃(A T Y:aH3) (X:aI6),
  Fn prog 16 [sB (3,0,0,0,(2:Int)*(n:Int))] [] [1001] (.b4 [.one (.own 1001),.one (.d (.int .i64 0))]) (k9 1001 A)/\
  Fn prog 17 [ap 1001,bN w.aU,dd w.db,bE .u8 A] [hR w.z w.R w.L,(1101,.az (.bt [(w.db,i0 w.ds)]))] [] (x6 T 0 0) [hR w.z w.R w.L,(1101,.az (.bt [(w.db,i0 w.ds)]))]/\
  Fn prog 20 [bE .u8 T] [] [1001] (.b4 [.one (.own 1001),.one (.d (.int .i64 0))]) [(1001,.row 61 x4 [((0:Int),(0:Int),Y)])]/\
  Fn prog 21 [bE .u8 Y] [] [1001] (.b4 [.one (.own 1001),.one (.d (.int .i64 0))]) [(1001,.row 66 gA X)]/\
  fL 0 X=true/\X.length<=100/\ ∃x,w.ds=[x]/\eV X=h3 x.g x.es (2*n):=by
 have ax:=h.nn.ok;obtain⟨x,hx,aZ⟩:=h.x
 have aw:x.s=((2*n:Nat):Int):=by
  have:=(ax.d9 x (by rw[hx];exact au5.2 rfl)).2;rw[this,h.nn.aR,h.bi]
  congr 1
  omega
 obtain⟨lN,ar0⟩:=arM (x:=x) (N:=2*n) aD7 aD7 aw aZ w.z w.L w.aU;rw[show(2:Int)*(n:Int)=((2*n:Nat):Int) by omega]
 have jL:tL (3,0,0,0,((2*n:Nat):Int))=true:=by
  show(fA 1 3&&(fA 1 0&&(fA 2 0&&(fA 4 0&&fA 4 ((2*n:Nat):Int)))))=true;rw[(sz (w:=4) (n:=((2*n:Nat):Int))).2 ⟨aD7,by rw[az8];show 2*n < 4294967296;omega⟩];rfl
 have PO:=aqP (3,0,0,0,((2*n:Nat):Int)) jL rfl
 have tb:(lW (3,0,0,0,((2*n:Nat):Int))).length=16:=by
  unfold lW;simp only[as9,mO]
 have qs:=arQ ax.cs ax.ds w.db w.aU (lW (3,0,0,0,((2*n:Nat):Int))) aD7;rw[arD _ jL rfl (by show¬(3:Int)=4;decide),hx,ar0,<-hx] at qs;have t8:=lN.len;have as2:=PH (n0 x (2*n));have Kf:=Za (n0 x (2*n)) ((gE (n0 x (2*n))).length+1) 0 lN.rt (Int.le_refl 0) lN.kd (Nat.lt_succ_self _);have ya:=arb (gE (n0 x (2*n))) (n0 x (2*n)) aD7 Kf
 have bR:uV 0 0 (gE (n0 x (2*n)))=true:=by
  show(fA 2 0&&(fA 2 0&&fA 4 (((gE (n0 x (2*n))).length:Nat):Int)))=true;rw[(sz (w:=4) (n:=(((gE (n0 x (2*n))).length:Nat):Int))).2 ⟨aD7,by rw[az8];show(gE (n0 x (2*n))).length < 4294967296;omega⟩];rfl
 have as3:(mP 0 0 (gE (n0 x (2*n)))).length<=2000:=by
  unfold mP;simp only[as9,mO,Pv];omega
 have mQ:=aq6 (mP 0 0 (gE (n0 x (2*n)))) [(0,0,gE (n0 x (2*n)))] aD7 (arE bR);exact⟨_,_,_,_,PO,qs,mQ,ya,lN.rt,t8,x,hx,lN.k⟩
abbrev x7 (n:Nat):aW:=[(0,ab (n:Int)),(5,ap 1401),(6,dY 6)]
abbrev uX (w:bQ) (X:aH3):ay:=cV w++[(6,.az (zX X))]
abbrev Zf (n:Nat) (l:List jI) (k:Nat):aW:=x7 n++[(35,bE np l),(36,ab (l.length:Nat)),(37,ab (k:Nat))]
abbrev ar1 (n:Nat) (l:List jI) (k:Nat):aW:=Zf n l k++[(8,ap 8)]
abbrev ar2 (w:bQ) (X:aH3) (o:jI):ay:=uX w X++[(8,.cells (Ps o))]
abbrev ar3 (n:Nat) (x:aI6):aW:=x7 n++[(16,bE gA x),(17,ab 0)]
abbrev Zg (n:Nat) (x:aI6) (i:Nat):aW:=x7 n++[(17,ab 0),(94,bE gA x),(95,ab (x.length:Nat)),(96,ab (i:Nat))]
abbrev ar4 (n:Nat) (x:aI6) (i:Nat) (Y:aH3):aW:=Zg n x i++[(19,ap 19),(20,bE .u8 Y)]
abbrev ar5 (w:bQ) (X:aH3) (p m:Nat) (k:Int):ay:=uX w X++[(19,.cells [.d (.int .i64 (p:Int)),.d (.int .i64 (m:Int)),.d (.int .i64 k)])]
def ar6 (y:Int) (l:List jI) (al:Fa l):Fn prog 4 [ab y,bE np l] [] [] (gb true) []:=by
 have ha:=aqj;have hf:=aqf y l al;have ll:=al.len
 cases bg:wx y l with
 |false=>
  rw[bg] at hf;refine aP [] func4 ?_;exact av hf <| fR <| av ha bb
 |true=>
  rw[bg] at hf;obtain⟨⟨R1,R2⟩,dP⟩:=aqd bg;obtain⟨n,rfl⟩:=aD1 (show 0<=y by omega);have Pt:=Yw (n:=n) aD7 aD7;refine aP [3,4,11,13,14,15,16,18,19,22,26,28] func4 ?_;refine av hf <| dh <| bG.iF eY aE0 ⟨_,_,_,fun g=>_,fun g=>_,Pt,trivial,rfl,fun _=>rfl,fun x=>?_⟩;obtain⟨gv,c1⟩:=x;have Jo:=lZ.of c1;have DM:(iK gv).length=32*n:=Jo.PN.len;have sV:=Zb Jo.PN (show n<=6 by omega);generalize cw:iK gv=D at Jo DM sV;refine bG.le (cz [(0,ab (n:Int)),(1,bE np l),(5,ap 1401)] (cV gv)) <| bG.nB (2000000+34) aD8 <| bw [11,13,14,15,16,18,19,22,26,28] (bn) <| av sV <| bm (fun N=>arT (d:=6) rfl underlying9 underlying27 underlying5 rfl aD7 N) ?_;refine dZ [11,13,14,15,16,18,19,22,26,28] (X:=Nat×bQ) (fun g=>Zf n l g.1) (fun g=>uX g.2 D) (fun g=>g.1<=l.length/\lZ D n g.2) (fun g=>l.length - g.1) (0,gv) ⟨at6 _,Jo⟩ ?_ ?_
  .exact ac.sub aA aA
  rintro⟨k,w⟩ ⟨Z,a7⟩;have Z:k<=l.length:=Z;have a7:lZ D n w:=a7;refine⟨fun h=>?_,fun h=>?_⟩
  .have cd:k < l.length:=by
    have h:decide ((k:Int) < (l.length:Int))=true:=h;simpa using h
   refine⟨aD7,l[k],lE (n:=k) cd,?_⟩;have lj:=av5 cd;generalize l[k]=o at lj;obtain⟨O,as4⟩:=dP o lj;refine⟨rfl,fun hE=>?_,fun hE=>?_⟩
   .have hE: ¬kI o=7:=by
     have hE:(!decide (kI o=7))=true:=hE;simpa using hE
    have H:=aqm w a7.nn.ok o aD7 aD7;refine bG.le (cz (ar1 n l k) (ar2 w D o)) <| bG.iF eY aE0 <| ov H fun g=>?_
    obtain⟨eH,vf⟩:=g;have qu:lZ D n eH:=a7.ev hE vf;exact⟨aD7,(k+1,eH),⟨by show k+1<=l.length;omega,qu⟩,by show l.length - (k+1) < l.length - k;omega,ac.sub aA aA⟩
   .exact⟨aD7,(k+1,w),⟨by show k+1<=l.length;omega,a7⟩,by show l.length - (k+1) < l.length - k;omega,ac.sub aA aA⟩
  .obtain⟨A,T,Y,x,PO,qs,mQ,ya,ar7,as5,sC,vg,PP⟩:=arZ aD7 aD7 a7;have jw:=Zb a7.PN (show n<=6 by omega);have M6:=fun X=>nZ.done (X:=X) a7 vg
   have hr:(h3 sC.g sC.es (2*n)).length=2*n:=zx sC.g sC.es (2*n);have ar8:nZ D (iK w) (2*n) (h3 sC.g sC.es (2*n)) 0 D:=nZ.start aD7;refine bw [14,15,16,18,19,22,26,28] (cz (x7 n) (uX w D)) ⟨aD7,av (Fn.arg (Fn.aT [(1001,5001)] PO) ⟨aA,trivial⟩) <| bw [15,16,18,19,22,26,28] (ac.trans (ac.dH 5001 rfl) (cz ((9,bE .u8 A)::x7 n) (uX w D))) <| av (apC w) <| av (apB w) <| av (apD w) <| av qs <| bw [16,18,19,22,26,28] (cz ((11,bE .u8 T)::x7 n) (uX w D)) <| av (Fn.aT [(1001,5001)] mQ) <| bw [18,19,22,26,28] (ac.trans (ac.dH 5001 rfl) (cz ((14,bE x4 [((0:Int),(0:Int),Y)])::(15,ab 0)::x7 n) (uX w D))) ?_⟩;have Zh:(0:Int)<=0:=by decide
   refine dh ⟨fun h=>at1 (show(!decide ((1:Int)=1))=true from h) aD8,fun _=>⟨Zh,((0:Int),(0:Int),Y),rfl,fun h=>at1 (show(!decide ((0:Int)=0))=true from h) aD8,fun _=>bw [19,22,26,28] (bn) ⟨Zh,((0:Int),(0:Int),Y),rfl,av (Fn.aT [(1001,5001)] ya) <| bw [22,26,28] (ac.trans (ac.dH 5001 rfl) (cz (ar3 n x) (uX w D))) <| dZ [22,26,28] (X:=Nat×aH3) (fun aH=>Zg n x aH.1) (fun aH=>uX w aH.2) (fun aH=>aH.1<=x.length/\nZ D (iK w) (2*n) (h3 sC.g sC.es (2*n)) (eV (x.take aH.1)).length aH.2) (fun aH=>x.length - aH.1) (0,D) ⟨at6 _,ar8⟩ ?_ ?_⟩⟩⟩
   .exact ac.sub aA aA
   rintro⟨i,X⟩ ⟨hi,zY⟩;have hi:i<=x.length:=hi;have zY:nZ D (iK w) (2*n) (h3 sC.g sC.es (2*n)) (eV (x.take i)).length X:=zY;refine⟨fun J=>?_,fun J=>?_⟩
   .have J:decide ((i:Int) < ((x.length:Nat):Int))=true:=J;have dc:i < x.length:=aF7
    obtain⟨PQ,Zi,PR⟩:=Yi ar7 dc;have gD:=apR x (i+1);have kp:=lE (n:=i) dc
    have hp: ∀s,(eV (x.take i)).length<=s->s < (eV (x.take i)).length+(x[i]).2.1.toNat->(h3 sC.g sC.es (2*n))[s]? =some (x[i]).2.2:=fun s hK fu=>by
     rw[<-PP];have af:eV x=eV (x.take (i+1))++eV (x.drop (i+1)):=by rw[<-x1,List.take_append_drop]
     rw[af,PR,aw8,aw4 hK,av8 (by rw[au2];omega),aB4,vj aD7]
    rw[PP,hr,PR,as9,au2] at gD;have A7:(eV (x.take (i+1))).length=(eV (x.take i)).length+(x[i]).2.1.toNat:=by rw[PR,as9,au2]
    generalize(eV (x.take i)).length=p at*;generalize x[i]=y at*;obtain⟨ar9,PS,Cx⟩:=y;have PQ:ar9=(p:Int):=PQ;have Zi:1<=PS:=Zi;obtain⟨tM,rfl⟩: ∃tM:Nat,PS=(tM:Int):=⟨PS.toNat,aD7⟩;subst PQ;simp only[az8] at gD A7 hp;have cC:c5 ((i:Int)+1):=aE5
    refine⟨aD7,((p:Int),(tM:Int),Cx),kp,rfl,bw [26] (bn) ⟨fun E=>?_,fun E=>?_⟩⟩
    .have E: ¬Cx=1:=by
      have E:(!decide (Cx=1))=true:=E;simpa using E
     have l4:=nZ.skip (m:=tM) zY (fun s hK fu=>by rw[hp s hK fu];exact fun e=>E (by injection e));rw[<-A7] at l4;exact⟨cC,(i+1,X),⟨dc,l4⟩,by show x.length - (i+1) < x.length - i;omega,ac.sub aA aA⟩
    .have E:Cx=1:=by
      have E:(!decide (Cx=1))=false:=E;simpa using E
     obtain⟨ri,Zj,ar',mb⟩:=arY a7 (p:=p) (m:=tM) aD7;have l4:=nZ.arH zY aD7 Zj ar' (fun s hK fu=>by rw[hp s hK fu,E]);rw[<-A7] at l4;have as6:=zY.len;have asa:((p:Int)*16).toNat=16*p:=aE5
     have asb:laid X ((p:Int)*16).toNat (X.length - ((p:Int)*16).toNat) ri=laid X (16*p) (16*tM) ri:=by
      rw[asa,<-Zj,apF X (16*p) _ aD7]
     refine av mb <| dh <| bw [] (cz (ar4 n x i ri) (ar5 w X p tM Cx)) ⟨aD7,bm (fun N=>arU eY rfl rfl rfl rfl rfl rfl (show(0:Int)<=(p:Int)*16/\(p:Int)*16<=((X.length:Nat):Int) by omega) N) ?_⟩;refine bm (fun N=>arV eY rfl rfl rfl rfl rfl rfl rfl rfl rfl (show((p:Int)*16).toNat+(X.length - ((p:Int)*16).toNat)<=X.length by omega) N) ?_;exact⟨cC,(i+1,laid X (16*p) (16*tM) ri),⟨dc,l4⟩,by show x.length - (i+1) < x.length - i;omega,ac.sub aA ⟨rfl,rfl,rfl,rfl,rfl,rfl,rfl,at2 (fun aH=>some (a8.az (zX aH))) asb,trivial⟩⟩
   .have J:decide ((i:Int) < ((x.length:Nat):Int))=false:=J;have oF:i=x.length:=aF6
    subst oF;rw[av0,PP,hr] at zY;have Ph:=M6 X zY;refine bw [] (cz ((17,ab 0)::x7 n) (uX w X)) <| av ha <| fR <| fR <| bm (arW rfl underlying27 underlying5 underlying9 rfl rfl) ?_;exact av jw ⟨eG aE0,ea bn rfl (show decide (X=iK w)=true from au1 Ph)⟩
end
end Go.Proofs.YtgclhiekndohdaaGreat
