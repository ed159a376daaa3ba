/-
A part of the proof of this claim: lemmas, with no condition beyond what each says.
-/
import Derived.Test.YtkfbeijmgggkmaaGreatZe6
set_option linter.all false
set_option maxRecDepth 100000
set_option maxHeartbeats 0
namespace Go.Proofs.YtkfbeijmgggkmaaGreat
open Go.RowKit Go.Proofs _root_.Go.Proofs.Tryz Tryz
section
def YV {s g:Int} (aU:1<=g) (j:Nat): ∀(m:aI4) (es:aH1),g6 g (m.foldl (tc s g) es) j=false->g6 g es j=false/\ ∀x,x∈m->x.2.2=1->qT s x.1 x.2.1-> ¬(x.1<=(j:Int)/\(j:Int) < x.1+x.2.1)
 | [],es,h=>⟨h,fun x hx=>(by cases hx)⟩
 |x::m,es,h=>by
  obtain⟨E,G⟩:=YV aU j m _ h;unfold tc at E
  by_cases c:x.2.2=1
  .rw[vj c] at E;obtain⟨ah,aW⟩:=MX aU _ _ _ _ E;refine⟨ah,fun y aC Z az=>?_⟩;rcases as8.1 aC with rfl |aC
   .exact aW az
   .exact G y aC Z az
  .rw[mu c] at E;refine⟨E,fun y aC Z az=>?_⟩;rcases as8.1 aC with rfl |aC
   .exact as3 Z c
   .exact G y aC Z az
def YW: ∀(l:aI4) (a:Int),gr a l=true-> ∀(i:Nat) (k:Int),(gu l)[i]? =some k-> ∃x,x∈l/\x.2.2=k/\x.1<=a+(i:Int)/\a+(i:Int) < x.1+x.2.1
 | [],a,_,i,k,h=>by
  have h:([]:aI2)[i]? =some k:=h;simp at h
 |x::l,a,ax,i,k,h=>by
  rw[yZ] at ax
  split at ax
  .rename_i J;obtain⟨E,G,ah⟩:=J;have e:gu (x::l)=List.replicate x.2.1.toNat x.2.2++gu l:=rfl;rw[e] at h
   by_cases aE:i < x.2.1.toNat
   .rw[au7 (by rw[at5];exact aE),aB6,vj aE] at h;injection h with h
    exact⟨x,at6 ..,h,aD1,aD1⟩
   .rw[au6 (by rw[at5];omega),at5] at h;obtain⟨y,aC,g1,g2,cK⟩:=YW l _ ax _ _ h;exact⟨y,as6 _ aC,g1,aD1,aD1⟩
  .cases ax
def aqN {g:Int} (aU:1<=g) {es de:aH1} {N:Nat} (e5:N<=4096) {j:Nat} (V:j < N) (h:g6 g (td (N:Int) g es (pz (N:Int) 1 de)) j=false):g6 1 de j=false:=by
 cases O:g6 1 de j with
 |false=>rfl
 |true=>
  exfalso;obtain⟨r1,r2⟩:=aiP (ks:=jy 1 de N) (by rw[Bp];omega);have ax:pz (N:Int) 1 de=jj (jy 1 de N):=rfl;rw[ax] at h;have ak:(gu (jj (jy 1 de N))).length=N:=by rw[r2,Bp]
  have U:=MW r1;rw[ak] at U;have BQ:DT (jj (jy 1 de N))=fj (jj (jy 1 de N)):=vj r1;obtain⟨cD,cv⟩:=aiQ r1 aD1 aD1;have hn:hG (jj (jy 1 de N))=qW (jj (jy 1 de N)) 0 (fj (jj (jy 1 de N))):=by unfold hG;rw[BQ]
  rw[<-hn] at cD cv;rw[r2] at cv
  have ay:td (N:Int) g es (jj (jy 1 de N))=(hG (jj (jy 1 de N))).foldl (tc (N:Int) g) es:=by
   unfold td nr;rw[au3]
  rw[ay] at h;generalize hG (jj (jy 1 de N))=m at h cD cv
  have Z:(gu m)[j]? =some 1:=by
   rw[cv];unfold jy;rw[au8,List.getElem?_range V];show some (if g6 1 de j=true then(1:Int) else 0)=some 1;rw[vj O]
  obtain⟨x,hx,b',b1,b2⟩:=YW m 0 cD j 1 Z
  have az:qT (N:Int) x.1 x.2.1:=by
   obtain⟨i,aE,rfl⟩:=List.mem_iff_getElem.1 hx;obtain⟨b4,cf,a3⟩:=aiR cD aE;have a4:=aiS m (i+1);rw[a3,as4,at5,cv,Bp] at a4;unfold qT;omega
  exact(YV aU j m es h).2 x hx b' az ⟨aD1,aD1⟩
end
section
def sy:aG9:=[109]
def uL (l:aJ6) (nm:aG9):Option aG9:=(l.reverse.find? fun p=>decide (p.1=nm)).map (·.2)
def Ja (l:aJ6) (nm F x:aG9):uL (l++[(nm,F)]) x=if nm=x then some F else uL l x:=by
 unfold uL;rw[List.reverse_append];show(((nm,F)::l.reverse).find? _).map _=_;rw[List.find?_cons]
 by_cases h:nm=x
 .rw[vj h];simp[h]
 .rw[mu h];simp[h]
def xO (b:Nat) (F:aG9) (k:Nat):aG9:=(F.take (k*(16*2 ^b)+16*2 ^b)).drop (k*(16*2 ^b))
def Pr (b:Nat) (F:aG9) {j k:Nat} (h:j/2 ^b=k):eZ (xO b F k) (j % 2 ^b)=eZ F j:=by
 apply aA3;intro t;rw[qX,qX]
 by_cases cm:t < 16
 .rw[vj cm,vj cm];unfold xO;have ay:=Nat.mod_lt j (Nat.two_pow_pos b);have V:=Nat.div_add_mod j (2 ^b);rw[h] at V;have e:k*(16*2 ^b)=16*(2 ^b*k):=by rw[aA2,aB2 k]
  rw[aA7,ax3,vj aD1]
  congr 1
  omega
 .rw[mu cm,mu cm]
def Ps {w:bR} (aq:eO w) {F:aG9} {k:Nat} (Z:k < b6 w.L w.aP) (bj:F.length=16*(b6 w.L w.aP*2 ^w.z)):fI w.z w.L w.aP (k:Int)=xO w.z F k↔ ∀j,j/2 ^w.z=k->eZ (hL w) j=eZ F j:=by
 obtain⟨E,G⟩:=aqM aq Z;have gy:=B9 (b:=w.z) Z;constructor
 .intro e j V;rw[<-G j V,e,Pr _ _ V]
 .intro h;refine Ut (n:=2 ^w.z) E ?_ fun i aE=>?_
  .have e:k*(16*2 ^w.z)=16*(k*2 ^w.z):=aA2 ..;unfold xO;rw[ax4,at3,e];omega
  .have af:(k*2 ^w.z+i)/2 ^w.z=k:=(sf (z:=w.z)).1 ⟨aD1,aD1⟩;have ao:=Nf af;have bo:(k*2 ^w.z+i) % 2 ^w.z=i:=aD9
   have ah:=G _ af;have aW:=Pr w.z F af;rw[bo] at ah aW;rw[ah,aW];exact h _ af
section
variable {z R:Nat} {L:aH2} {nm t:aG9} {d:aL} {k:Nat} {W:Nat->aG9} {l:aH0} {g:aH3}
def aqO {rm:Int} {k:Nat} (U: ¬(dS z L nm rm l g k).e=0):(dS z L nm rm l g k).over=true:=by
 unfold dS at U⊢
 split
 .rfl
 .rename_i c;rw[mu c] at U;exact as3 rfl U
def YX {rm:Int} {k:Nat} (U:(dS z L nm rm l g k).e=0):(dS z L nm rm l g k).l=l.erase k:=by
 unfold dS at U⊢
 split
 .rename_i c;rw[vj c] at U;exact as3 U (show¬(171:Int)=0 by decide)
 .rfl
def ro (z:Nat) (L:aH2) (nm:aG9) (W:Nat->aG9) (l:aH0) (g:aH3):Prop:=(∀p,p∈g->p.2=W p.1)/\ ∀k,k∈l->fI z L nm (k:Int)=W k
def ro.Em (h:ro z L nm W l g) (rm:Int) {k:Nat} (Z:k∈l):ro z L nm W (dS z L nm rm l g k).l (dS z L nm rm l g k).g:=by
 unfold dS
 split
 .exact⟨h.1,fun q aQ=>by cases aQ⟩
 .refine⟨fun p ae=>?_,fun q aQ=>h.2 q (List.mem_of_mem_erase aQ)⟩;have ae:p∈g++[(k,fI z L nm (k:Int))]:=ae;rcases au4.1 ae with ae |ae
  .exact h.1 p ae
  .obtain rfl:=at7.1 ae;exact h.2 k Z
def ro.zc (rm a aO:Int): ∀(ks l:aH0) (g:aH3),ro z L nm W l g->l.Nodup->(∀k,k∈ks->k∈l)->ks.Nodup->
  ro z L nm W (i7 z L nm rm a aO ks l g).l (i7 z L nm rm a aO ks l g).g/\((i7 z L nm rm a aO ks l g).over=false-> ∀q,q∈(i7 z L nm rm a aO ks l g).l->q∈l/\(q∈ks->HE z q a aO))
 | [],l,g,h,_,_,_=>⟨h,fun _ q aQ=>⟨aQ,fun e=>by cases e⟩⟩
 |k::ks,l,g,h,H,xp,hn=>by
  unfold i7;have hn:=av5.1 hn;have he:=xp k (at6 ..)
  split
  .rename_i J;obtain⟨kG,jX⟩:=ro.zc rm a aO ks l g h H (fun q aQ=>xp q (as6 _ aQ)) hn.2;refine⟨kG,fun ag q aQ=>⟨(jX ag q aQ).1,fun ay=>?_⟩⟩;rcases as8.1 ay with rfl |ay
   .exact J
   .exact(jX ag q aQ).2 ay
  .have t':=h.Em rm he
   split
   .rename_i U;have e:=YX U;have lB:(dS z L nm rm l g k).l.Nodup:=by rw[e];exact H.erase _
    obtain⟨kG,jX⟩:=ro.zc rm a aO ks _ _ t' lB (fun q aQ=>by
     rw[e];exact(H.mem_erase_iff).2 ⟨fun e=>hn.1 (e▸aQ),xp q (as6 _ aQ)⟩) hn.2
    refine⟨kG,fun ag q aQ=>?_⟩;obtain⟨kB,pD⟩:=jX ag q aQ;rw[e] at kB;obtain⟨uB,VW⟩:=(H.mem_erase_iff).1 kB;refine⟨VW,fun ay=>?_⟩;rcases as8.1 ay with rfl |ay
    .exact as3 rfl uB
    .exact pD ay
   .rename_i U;exact⟨t',fun ag=>by rw[aqO U] at ag;cases ag⟩
end
def kk (l:aJ6) (n:Nat) (w:bR):Prop:=match w.bH with
 | .pu _ _ _ bG g _ _=> ∃F,uL l (cT w.bu.eE)=some F/\F.length=16*(n*2 ^w.z)/\c6 w.bu.eE=((w.z:Nat):Int)/\eK w.bu.eE=((n:Nat):Int)/\(∀b,b∈w.Q->cT b≠cT w.bu.eE)/\ro w.z w.L w.aP (xO w.z F) bG g/\
  (
   (c2 w.bu.eE=[]/\w.bu.dZ=none/\(∀c,c < n->c∈bG\/c∈g.map Prod.fst)/\ ∀x,x∈w.ds->x.us=true-> ∀j,j < n*2 ^w.z->g6 x.g x.es j=false->eZ F j=eZ (hL w) j)\/
   (c2 w.bu.eE≠[]/\c2 w.bu.eE=mh w.Q/\w.Q≠[]/\w.bu.dQ=sy/\(∃p,w.bu.dZ=some p/\ ∀j,j < n*2 ^w.z->g6 1 p.2.2.2 j=false->eZ F j=eZ (hL w) j)/\ ∀j,j < n*2 ^w.z->(j/2 ^w.z∈bG\/j/2 ^w.z∈g.map Prod.fst)\/eZ (lW w.Q (mh w.Q)) j=eZ F j))
 |_=>True
def kk.no {l:aJ6} {n:Nat} {w:bR} (h:ss w.bH=false):kk l n w:=by
 unfold kk
 cases V:w.bH with
 |pu=>rw[V] at h;cases h
 |_=>trivial
structure hV (l:aJ6) (n:Nat) (w:bR):Prop where
 ok:eO w
 YY:jD w
 aR:b6 w.L w.aP=n
 ds: ∀x,x∈w.ds->x.nm=sy/\x.on=true
 A: ∀b,b∈w.Q-> ∃F,uL l (cT b)=some F/\lW w.Q (cT b)=F/\F.length=16*(n*2 ^w.z)
 C: ∀x,x∈w.ds->x.us=true->w.Q≠[]-> ∀j,j < n*2 ^w.z->g6 x.g x.es j=false->eZ (lW w.Q (mh w.Q)) j=eZ (hL w) j
 B:kk l n w
section
variable {l:aJ6} {n:Nat} {w w':bR}
def hV.of (h:hV l n w) (iq:eO w') (bC:jD w') (O:w'.z=w.z) (aN:b6 w'.L w'.aP=b6 w.L w.aP) (H:w'.ds=w.ds) (aQ:w'.Q=w.Q) (ax:hL w'=hL w) (cQ:kk l n w'):hV l n w':=
 ⟨iq,bC,aN.trans h.aR,by rw[H];exact h.ds,by rw[aQ,O];exact h.A,by rw[H,aQ,O,ax];exact h.C,cQ⟩
def Pt {z:Nat} {L:aH2} {nm:aG9} {rm a aO:Int}: ∀(ks l:aH0) (g:aH3),(i7 z L nm rm a aO ks l g).e=0-> ∀c,(c∈l\/c∈g.map Prod.fst)->c∈(i7 z L nm rm a aO ks l g).l\/c∈(i7 z L nm rm a aO ks l g).g.map Prod.fst
 | [],l,g,_,c,h=>h
 |k::ks,l,g,U,c,h=>by
  unfold i7 at U⊢
  split at U
  .rename_i cD;rw[vj cD];exact Pt ks l g U c h
  .rename_i cD;rw[mu cD]
   split at U
   .rename_i cv;rw[vj cv];refine Pt ks _ _ U c ?_;rw[(U8 cv).2,YX cv,aw2,au4]
    by_cases e:c=k
    .exact .inr (.inr (by rw[e];exact at7.2 rfl))
    .rcases h with h |h
     .exact .inl ((List.mem_erase_of_ne e).2 h)
     .exact .inr (.inl h)
   .rename_i cv;exact as3 U cv
end
end
section
section
variable {l:aJ6} {n:Nat} {w w':bR}
def HP (aq:eO w) {n' rm:Int} {bG:aH0} {g:aH3} {F:aG9} (bl:gk w.z w.R w.L w.aP bG g) (aN:ro w.z w.L w.aP (xO w.z F) bG g) (a aO:Int) (U:(f' w.z w.L w.aP rm a aO bG g false).e=0):
  ro w.z w.L w.aP (xO w.z F) (f' w.z w.L w.aP rm a aO bG g false).l (f' w.z w.L w.aP rm a aO bG g false).g/\(∀k,k∈(f' w.z w.L w.aP rm a aO bG g false).l->k∈bG/\(aO < 1\/HE w.z k a aO))/\
   ∀c,(c∈bG\/c∈g.map Prod.fst)->c∈(f' w.z w.L w.aP rm a aO bG g false).l\/c∈(f' w.z w.L w.aP rm a aO bG g false).g.map Prod.fst:=by
 have ag:=Yj U;unfold f' at U ag⊢;rw[mu aD2] at U ag⊢
 by_cases E:aO < 1
 .rw[vj E];exact⟨aN,fun k Z=>⟨Z,.inl E⟩,fun c J=>J⟩
 .rw[mu E] at U ag⊢;obtain⟨kG,jX⟩:=ro.zc rm a aO (oO bG) bG g aN bl.ho (fun k Z=>(vT bG).mem_iff.1 Z) ((vT bG).nodup_iff.2 bl.ho);exact⟨kG,fun k Z=>⟨(jX ag k Z).1,.inr ((jX ag k Z).2 ((vT bG).mem_iff.2 (jX ag k Z).1))⟩,Pt _ _ _ U⟩
def aqP {b k j:Nat} {a aO:Int} (h:aO < 1\/HE b k a aO) (V:j/2 ^b=k): ¬(a<=(j:Int)/\(j:Int) < a+aO):=by
 have E:=(sf (z:=b)).2 V;rcases h with h |h
 .omega
 .unfold HE at h;omega
def hV.o2 (h:hV l n w) {a aO:Int} {r:mK} (iq:eO (ed w a aO r)) (bC:jD (ed w a aO r)) (k6:i5 w.L w.aP r.L) (I9:r.e≠0->r.L=w.L)
  (hw:r.e=0->0<=a/\0<=aO/\a+aO<=((n*2 ^w.z:Nat):Int)/\ ∀j,j < n*2 ^w.z-> ¬(a<=(j:Int)/\(j:Int) < a+aO)->eZ (hL (ed w a aO r)) j=eZ (hL w) j):hV l n (ed w a aO r):=by
 have cE:pO w (ed w a aO r):=pO.o2 w a aO r k6;have cz:=h.aR;have nJ:(ed w a aO r).Q=w.Q:=by unfold ed;split <;>rfl
 have jg:(ed w a aO r).aP=w.aP:=by unfold ed;split <;>rfl
 by_cases U:r.e=0
 .obtain⟨b4,cf,a3,a4⟩:=hw U;have H:(ed w a aO r).ds=w.ds.map (kh a aO):=by unfold ed;rw[vj U]
  have dD: ∀x,x∈w.ds-> ∀j,g6 (kh a aO x).g (kh a aO x).es j=false->g6 x.g x.es j=false/\ ¬(a<=(j:Int)/\(j:Int) < a+aO):=fun x hx j O=>by
   obtain⟨_,tq⟩:=h.ds x hx;obtain⟨_,au⟩:=h.ok.ef x hx;have aU:=(h.ok.ds.ok x hx).2.1.1;have e:(kh a aO x).es=la x.s x.g x.es a aO:=vj tq;rw[e] at O;have O:g6 x.g (la x.s x.g x.es a aO) j=false:=O;obtain⟨b1,b2⟩:=MX aU _ _ _ _ O;rw[cz] at au;exact⟨b1,b2 (by unfold qT;omega)⟩
  refine⟨iq,bC,cE.aR.trans cz,?_,?_,?_,?_⟩
  .rw[H];intro x hx;obtain⟨y,aC,rfl⟩:=av0.1 hx;exact h.ds y aC
  .rw[nJ,cE.bi];exact h.A
  .rw[H,nJ,cE.bi];intro x hx a6 aQ j V O;obtain⟨y,aC,rfl⟩:=av0.1 hx;obtain⟨b1,b2⟩:=dD y aC j O;rw[a4 j V b2];exact h.C y aC a6 aQ j V b1
  .have cQ:=h.B
   cases V:w.bH with
   |pu nm n' rm bG g over done=>
    have f2:=h.ok.bH;rw[V] at f2;obtain⟨rfl,rfl,rfl,_,bl⟩:=f2;unfold kk at cQ;rw[V] at cQ;obtain⟨F,eW,e9,f3,iZ,f5,f6,f7⟩:=cQ
    by_cases O:(f' w.z w.L w.aP rm a aO bG g false).e=0
    .obtain⟨g1,g2,cK⟩:=HP (n':=n') h.ok bl f6 a aO O
     have AE:nB w.z w.L a aO w.bH= .pu w.aP n' rm (f' w.z w.L w.aP rm a aO bG g false).l (f' w.z w.L w.aP rm a aO bG g false).g (f' w.z w.L w.aP rm a aO bG g false).over false:=by
      rw[V];exact vj O
     have E7:(ed w a aO r).bH= .pu w.aP n' rm (f' w.z w.L w.aP rm a aO bG g false).l (f' w.z w.L w.aP rm a aO bG g false).g (f' w.z w.L w.aP rm a aO bG g false).over false:=by
      unfold ed;rw[vj U,AE];rfl
     have Pu:(ed w a aO r).bu={w.bu with dZ:=w.bu.dZ.map fun p=>(p.1,p.2.1,p.2.2.1,la p.2.1 p.2.2.1 p.2.2.2 a aO)}:=by
      unfold ed;rw[vj U,AE];rfl
     generalize f' w.z w.L w.aP rm a aO bG g false=b at g1 g2 cK E7;unfold kk;rw[E7];simp only;rw[Pu,nJ,cE.bi,H,jg];refine⟨F,eW,e9,f3,iZ,f5,⟨g1.1,fun k Z=>?_⟩,?_⟩
     .obtain⟨b',cS⟩:=g2 k Z;have bv:=bl.lt k b'
      have:=(Ps iq (F:=F) (k:=k) (by rw[cE.aR];exact bv) (by rw[cE.aR,cE.bi,cz];exact e9)).2 fun j dF=>by
       rw[cE.bi] at dF;have gy:=B9 (b:=w.z) bv;have dw:=(sf (z:=w.z)).2 dF;rw[cz] at gy;rw[a4 j aD1 (aqP cS dF)];exact(Ps h.ok bv (by rw[cz];exact e9)).1 (f6.2 k b') j dF
      rw[cE.bi,jg] at this;exact this
     .rcases f7 with⟨c1,cy,c5,c'⟩ |⟨c1,cy,c5,c',⟨p,iA,ld⟩,zP⟩
      .refine .inl ⟨c1,by rw[cy];rfl,fun c J=>cK c (c5 c J),fun x hx a6 j dF fk=>?_⟩;obtain⟨y,aC,rfl⟩:=av0.1 hx;obtain⟨b1,b2⟩:=dD y aC j fk;rw[a4 j dF b2];exact c' y aC a6 j dF b1
      .refine .inr ⟨c1,cy,c5,c',⟨_,by rw[iA];rfl,fun j dF fk=>?_⟩,fun j dF=>(zP j dF).imp (cK _) id⟩;obtain⟨jc,bF,_⟩:=h.ok.dZ p iA;have fk:g6 1 (la p.2.1 p.2.2.1 p.2.2.2 a aO) j=false:=fk;rw[bF,jc] at fk;obtain⟨b1,b2⟩:=MX aD2 _ _ _ _ fk;rw[cz] at b2;rw[a4 j dF (b2 (by unfold qT;omega))];exact ld j dF b1
    .refine kk.no ?_;unfold ed;rw[vj U,V];show ss (B1 _ _ _ _ (nB _ _ _ _ _))=false;unfold nB;simp only;rw[mu O];rfl
   |_=>
    refine kk.no ?_;unfold ed;rw[vj U,V];rfl
 .have cO:(ed w a aO r).L=w.L:=by
   unfold ed;rw[mu U];exact I9 U
  have H:(ed w a aO r).ds=w.ds:=by unfold ed;rw[mu U]
  have Pu:(ed w a aO r).bu=w.bu:=by unfold ed;rw[mu U]
  have lS:hL (ed w a aO r)=hL w:=by rw[I8,I9 U]
  refine hV.of h iq bC cE.bi cE.aR H nJ lS ?_;have cQ:=h.B
  cases V:w.bH with
  |pu nm n' rm bG g over done=>
   have f2:=h.ok.bH;rw[V] at f2;obtain⟨rfl,rfl,rfl,_,bl⟩:=f2;unfold kk at cQ;rw[V] at cQ;obtain⟨F,eW,e9,f3,iZ,f5,f6,f7⟩:=cQ
   by_cases O:(f' w.z w.L w.aP rm a aO bG g false).e=0
   .obtain⟨g1,g2,cK⟩:=HP (n':=n') h.ok bl f6 a aO O
    have E7:(ed w a aO r).bH= .pu w.aP n' rm (f' w.z w.L w.aP rm a aO bG g false).l (f' w.z w.L w.aP rm a aO bG g false).g (f' w.z w.L w.aP rm a aO bG g false).over false:=by
     unfold ed;rw[mu U,V];exact vj O
    generalize f' w.z w.L w.aP rm a aO bG g false=b at g1 g2 cK E7;unfold kk;rw[E7];simp only;rw[Pu,nJ,cE.bi,H,jg,cO,lS];refine⟨F,eW,e9,f3,iZ,f5,g1,?_⟩;rcases f7 with⟨c1,cy,c5,c'⟩ |⟨c1,cy,c5,c',iA,zP⟩
    .exact .inl ⟨c1,cy,fun c J=>cK c (c5 c J),c'⟩
    .exact .inr ⟨c1,cy,c5,c',iA,fun j dF=>(zP j dF).imp (cK _) id⟩
   .refine kk.no ?_;unfold ed;rw[mu U,V];have e:nB w.z w.L a aO (.pu w.aP n' rm bG g false false)= .no:=mu O;rw[e];rfl
  |_=>
   refine kk.no ?_;unfold ed;rw[mu U,V];rfl
end
end
section
def YZ (f:Nat->Bool) (z:Nat): ∀s t:Nat,t < s->f t=true->t/2 ^z∈hI f z s
 |0,t,h,_=>as3 h (aB8 _)
 |s+1,t,h,hf=>by
  unfold hI
  by_cases e:t=s
  .subst e;rw[vj hf];exact vN.2 (.inr rfl)
  .have:=YZ f z s t aD1 hf
   split
   .exact vN.2 (.inl this)
   .exact this
def aqQ {Q:aH9} (h:Q≠[]): ∃b,b∈Q/\mh Q=cT b:=by unfold mh;rw[List.getLast?_eq_some_getLast h];exact⟨_,List.getLast_mem h,rfl⟩
section
variable {l:aJ6} {n:Nat} {w w':bR}
def hV.push (h:hV l n w) {s:dL} {e:Int} (iw:s.eA=[]\/s.eA=sy) (iq:eO w') (bC:jD w') (ax:IZ w s e w'):hV (if e=0 then l++[(s.nm,hL w)] else l) n w':=by
 have cz:=h.aR;have bX:=aqE h.ok;rw[cz] at bX;have Ca:ei w=n:=cz
 have dw:pN w s=false-> ∀b,b∈w.Q->cT b≠s.nm:=fun hn b O e=>by
  unfold pN at hn;simp only[ax0] at hn;have:(w.Q.map cT).contains s.nm=true:=av4.2 (e▸au0 O);rw[this] at hn
  cases hn.2
 have dX:pN w s=false-> ∀b,b∈w.Q-> ∃F,uL (l++[(s.nm,hL w)]) (cT b)=some F/\lW w.Q (cT b)=F/\F.length=16*(n*2 ^w.z):=fun hn b O=>by
  obtain⟨F,eW,e9,f3⟩:=h.A b O;refine⟨F,?_,e9,f3⟩;rw[Ja,mu (fun e=>dw hn b O e.symm)];exact eW
 have Y0: ∀bG:aH0,(∀k,k∈bG->k < n)->ro w.z w.L w.aP (xO w.z (hL w)) bG []:=fun bG ak=>⟨fun p ae=>(by cases ae),fun k Z=>(Ps h.ok (by rw[cz];exact ak k Z) (by rw[cz];exact bX)).2 fun j _=>rfl⟩
 rcases ax with⟨_,U,rfl⟩ |⟨hn,⟨ag,⟨_,U,rfl⟩ |⟨_,U,b,rfl⟩⟩ |⟨_,_,U,rfl⟩ |⟨ag,x,hx,⟨B5,U,rfl⟩ |⟨H,⟨_,U,rfl⟩ |⟨_,U,b,jC,rfl⟩⟩⟩⟩
 .rw[mu (by rw[U];decide)];exact h
 .rw[mu (by rw[U];decide)];exact h
 .rw[vj U];refine⟨iq,bC,cz,h.ds,dX hn,h.C,?_⟩;refine⟨hL w,by rw[Ja];exact vj rfl,bX,rfl,by show((ei w:Nat):Int)=_;rw[Ca],dw hn,Y0 _ fun k Z=>by rw[Ca] at Z;exact Ei _ _ _ _ (as2 _) k Z,.inl ⟨rfl,rfl,fun c J=>.inl ?_,fun x _ _ j _ _=>rfl⟩⟩;have ae:=Nat.two_pow_pos w.z;have:=U5 w.z (ei w*2 ^w.z) (c*2 ^w.z) (by rw[Ca];exact Nat.mul_lt_mul_of_pos_right J ae);rw[Nat.mul_div_cancel _ ae] at this;exact this
 .rw[mu (by rw[U];decide)];exact h
 .rw[mu (by rw[U];exact B5)];exact h
 .rw[mu (by rw[U];decide)];exact h
 .rw[vj U]
  have a6:x.us=true/\mh w.Q≠[]:=by
   unfold qq at H
   split at H
   .exact as3 H aD2
   .rename_i a6
    split at H
    .exact as3 H aD2
    .rename_i aQ;exact⟨by simpa using a6,aQ⟩
  have nJ:w.Q≠[]:=fun e=>a6.2 (by rw[e];rfl)
  refine⟨iq,bC,cz,h.ds,dX hn,h.C,?_⟩;refine⟨hL w,by rw[Ja];exact vj rfl,bX,rfl,by show((ei w:Nat):Int)=_;rw[Ca],dw hn,Y0 _ fun k Z=>by rw[Ca] at Z;exact Ei _ _ _ _ (as2 _) k Z,.inr ⟨a6.2,rfl,nJ,iw.resolve_left ag,⟨_,rfl,fun j _ _=>rfl⟩,fun j V=>?_⟩⟩
  by_cases O:g6 x.g x.es j=true
  .exact .inl (.inl (YZ _ _ _ _ (by rw[Ca];exact V) O))
  .exact .inr (h.C x (ke hx).1 a6.1 nJ j V (az6.2 O))
def hV.pg (h:hV l n w) {n' rm:Int} {g:aH3} (V:w.bH= .pu w.aP n' rm [] g false false) (dX:gF w.Q (fD w.bu g)=0): ∃F,((c2 w.bu.eE=[]/\w.bu.dZ=none/\ ∀x,x∈w.ds->x.us=true-> ∀j,j < n*2 ^w.z->g6 x.g x.es j=false->eZ F j=eZ (hL w) j)\/
   (w.bu.dQ=sy/\ ∃p,w.bu.dZ=some p/\ ∀j,j < n*2 ^w.z->g6 1 p.2.2.2 j=false->eZ F j=eZ (hL w) j))/\
  (∀b,b∈e3 w.Q (fD w.bu g)-> ∃F,uL l (cT b)=some F/\lW (e3 w.Q (fD w.bu g)) (cT b)=F/\F.length=16*(n*2 ^w.z))/\lW (e3 w.Q (fD w.bu g)) (mh (e3 w.Q (fD w.bu g)))=F:=by
 have cQ:=h.B;have f2:=h.ok.bH;unfold kk at cQ;rw[V] at cQ f2;obtain⟨_,_,_,_,bl⟩:=f2;obtain⟨F,eW,e9,f3,iZ,f5,f6,f7⟩:=cQ;have a1:=h.ok.q.tolV
 have Un:fD w.bu g=(cT w.bu.eE,c2 w.bu.eE,((w.z:Nat):Int),((n:Nat):Int),lg g):=by
  show(cT w.bu.eE,c2 w.bu.eE,c6 w.bu.eE,eK w.bu.eE,lg g)=_;rw[f3,iZ]
 obtain⟨r1,r2⟩:=aqI a1 dX;have gh:=aqJ dX
 have gA:lW (e3 w.Q (fD w.bu g)) (cT w.bu.eE)=F:=by
  refine r2.trans ?_;rw[Un];refine aqL e9 (fun q aQ=>?_) fun j dF hn=>?_
  .obtain⟨cB,cH⟩:=bl.gt q aQ;rw[h.aR] at cB;exact⟨cB,cH,fun j dF=>by rw[f6.1 q aQ];exact Pr _ _ dF⟩
  .rcases f7 with⟨_,_,c5,_⟩ |⟨c1,cy,c5,_,_,zP⟩
   .rcases c5 _ (Ef dF) with E |E
    .cases E
    .exact as3 E hn
   .obtain⟨b,O,D1⟩:=aqQ c5;obtain⟨F',_,g2,cK⟩:=h.A b O;refine⟨c1,?_,?_⟩
    .show(lW w.Q (c2 w.bu.eE)).length=_;rw[cy,D1,g2];exact cK
    .show eZ (lW w.Q (c2 w.bu.eE)) j=_;rw[cy];rcases zP j dF with(E |E) |E
     .cases E
     .exact as3 E hn
     .exact E
 refine⟨F,?_,fun b O=>?_,by rw[gh];exact gA⟩
 .rcases f7 with⟨c1,cy,_,c'⟩ |⟨_,_,_,c',iA,_⟩
  .exact .inl ⟨c1,cy,c'⟩
  .exact .inr ⟨c',iA⟩
 .have e:e3 w.Q (fD w.bu g)=w.Q++[fD w.bu g]:=vj dX;have fk:=O;rw[e] at fk;rcases au4.1 fk with fk |fk
  .obtain⟨F',g1,g2,cK⟩:=h.A b fk;exact⟨F',g1,(alU a1 _ (VP fk)).1.trans g2,cK⟩
  .obtain rfl:=at7.1 fk;exact⟨F,eW,gA,e9⟩
end
end
section
def Y1 {ds:aH7} {dQ:aG9} {x:bf} (ce:eh ds) (Z:c9 ds dQ=some x) (hn: ∀y,y∈ds->y.nm=dQ) {bF g2:Int} {de:aH1} {a b:Nat} {y:bf} (aC:y∈zG ds dQ x bF g2 de a b):y=⟨dQ,a,b,x.on,true,x.s,x.g,td x.s x.g (kR x).es (pz bF g2 de)⟩:=by
 unfold zG at aC;obtain⟨aB,aN,rfl⟩:=av0.1 aC;rcases au4.1 aN with aN |aN
 .exfalso
  have E:(kP ds dQ kR).map (·.nm)=ds.map (·.nm):=by
   unfold kP;rw[aw7];refine av1 fun y _=>?_
   show(if y.nm=dQ then kR y else y).nm=y.nm
   split <;>rfl
  obtain⟨G,_⟩:=O' (l:=kP ds dQ kR) (by rw[E];exact ce.ji) (O9 (u:=kR) (fun _=>rfl) Z);have qC:aB.nm∈(kP ds dQ kR).map (·.nm):=au0 (Yo aN);rw[E] at qC;obtain⟨q,aQ,e⟩:=av0.1 qC;have e:aB.nm=dQ:=e.symm.trans (hn q aQ);have sG:aB.nm∈(lh (kP ds dQ kR) dQ).map (·.nm):=au0 aN;rw[e] at sG;exact Ep G sG
 .obtain rfl:=at7.1 aN;exact vj rfl
section
variable {l:aJ6} {n:Nat} {w w':bR}
def hV.ws (h:hV l n w) {nm:aG9} {n' rm:Int} {bG:aH0} {g:aH3} {e:Int} (V:w.bH= .pu nm n' rm bG g false false) (iq:eO w') (bC:jD w') (ax:E3 w nm n' rm bG g e w'):hV l n w':=by
 have f2:=h.ok.bH;have cQ:=h.B;rw[V] at f2;obtain⟨rfl,_,_,_,bl⟩:=f2;rcases ax with⟨rfl,t,hf,rfl⟩ |⟨a8,U,rfl⟩
 .have key: ∀(rE:aH7) (Q':aH9),t.1=rE->t.2.2.2.2=Q'->(∀x,x∈rE->x.nm=sy/\x.on=true)->(∀b,b∈Q'-> ∃F,uL l (cT b)=some F/\lW Q' (cT b)=F/\F.length=16*(n*2 ^w.z))->
    (∀x,x∈rE->x.us=true->Q'≠[]-> ∀j,j < n*2 ^w.z->g6 x.g x.es j=false->eZ (lW Q' (mh Q')) j=eZ (hL w) j)->hV l n {zH w g t with bH:=.no}:=fun rE Q' af ao b' cS en=>by
   subst af ao;exact⟨iq,bC,h.aR,b',cS,en,kk.no rfl⟩
  rcases hf with⟨_,_,hw⟩ |⟨dX,fb,J,⟨k8,hw⟩ |⟨U,jC,bF,g2,de,x,a,b,au,Z,H,hw⟩⟩
  .exact key w.ds w.Q (as5 bR.ds hw) (as5 bR.Q hw) h.ds h.A h.C
  .obtain⟨U,b,_,⟨t6,lb,rfl⟩ |⟨_,rfl⟩⟩:=J
   .obtain⟨F,eW,e9,f3⟩:=h.pg V dX;refine key w.ds (e3 w.Q (fD w.bu g)) (as5 bR.ds hw) (as5 bR.Q hw) h.ds e9 fun x hx a6 _ j dF O=>?_
    rw[f3];rcases eW with⟨_,_,c'⟩ |⟨c1,p,cy,_⟩
    .exact c' x hx a6 j dF O
    .exfalso;rcases k8 with k8 |k8 |k8
     .exact k8 (U.trans t6)
     .rw[cy] at k8
      cases k8
     .have E:=N9 h.ok.ds hx;rw[(h.ds x hx).1,<-c1] at E;have k8:c9 w.ds w.bu.dQ=none:=k8;rw[E] at k8
      cases k8
   .exact key w.ds w.Q (as5 bR.ds hw) (as5 bR.Q hw) h.ds h.A h.C
  .obtain⟨F,eW,e9,f3⟩:=h.pg V dX;obtain⟨gM,c,_,⟨t6,lb,rfl⟩ |⟨t6,rfl⟩⟩:=J
   .have au:w.bu.dZ=some (jC,bF,g2,de):=au;have Z:c9 w.ds w.bu.dQ=some x:=Z;rcases eW with⟨_,cy,_⟩ |⟨c1,p,cy,c5⟩
    .rw[cy] at au
     cases au
    .rw[cy] at au;injection au with au
     subst au;obtain⟨jc,u1,_⟩:=h.ok.dZ _ cy;have hx:=(ke Z).1;have pT:=(h.ok.ef x hx).2;have aqR:=(h.ok.ds.ok x hx).2.1.1;have tY:=(h.ok.ds.ok x hx).1.2;rw[h.aR] at jc pT;have jc:bF=((n*2 ^w.z:Nat):Int):=jc;have u1:g2=1:=u1;subst jc u1;refine key (zG w.ds w.bu.dQ x ((n*2 ^w.z:Nat):Int) 1 de a b) (e3 w.Q (fD w.bu g)) (as5 bR.ds hw) (as5 bR.Q hw) (fun y aC=>?_) e9 fun y aC _ _ j dF O=>?_
     .rw[Y1 h.ok.ds Z (fun aB aN=>(h.ds aB aN).1.trans c1.symm) aC];exact⟨c1,(h.ds x hx).2⟩
     .rw[f3];rw[Y1 h.ok.ds Z (fun aB aN=>(h.ds aB aN).1.trans c1.symm) aC] at O;have O:g6 x.g (td x.s x.g (kR x).es (pz ((n*2 ^w.z:Nat):Int) 1 de)) j=false:=O;rw[pT] at O tY;exact c5 j dF (aqN aqR aD1 dF O)
   .exact as3 (gM.symm.trans U) t6
 .have ay:=(D' a8).2.1
  by_cases aU:rm<=((g.length:Nat):Int)
  .have np:dS w.z w.L w.aP rm bG g (ek bG)=⟨171,[],g,true⟩:=vj aU;rw[np] at iq bC⊢;exact hV.of h iq bC rfl rfl rfl rfl rfl (kk.no rfl)
  .have np:dS w.z w.L w.aP rm bG g (ek bG)=⟨0,bG.erase (ek bG),g++[(ek bG,fI w.z w.L w.aP (ek bG:Int))],false⟩:=mu aU;unfold kk at cQ;rw[V] at cQ;obtain⟨F,eW,e9,f3,iZ,f5,f6,f7⟩:=cQ;have aN:=f6.Em rm ay;rw[np] at iq bC aN⊢
   have Y2: ∀c,(c∈bG\/c∈g.map Prod.fst)->c∈bG.erase (ek bG)\/c∈(g++[(ek bG,fI w.z w.L w.aP (ek bG:Int))]).map Prod.fst:=fun c h=>by
    rw[aw2,au4]
    by_cases ao:c=ek bG
    .exact .inr (.inr (by rw[ao];exact at7.2 rfl))
    .rcases h with h |h
     .exact .inl ((List.mem_erase_of_ne ao).2 h)
     .exact .inr (.inl h)
   refine hV.of h iq bC rfl rfl rfl rfl rfl ⟨F,eW,e9,f3,iZ,f5,aN,?_⟩;rcases f7 with⟨c1,cy,c5,c'⟩ |⟨c1,cy,c5,c',iA,zP⟩
   .exact .inl ⟨c1,cy,fun c J=>Y2 c (c5 c J),c'⟩
   .exact .inr ⟨c1,cy,c5,c',iA,fun j dF=>(zP j dF).imp (Y2 _) id⟩
def hV.step (h:hV l n w) {s:dL} {e:Int} (aW:s.kd≠4) (yW:s.kd≠11) (iw:s.kd=7->s.eA=[]\/s.eA=sy) (ax:gX w s e w'):hV (if s.kd=7/\e=0 then l++[(s.nm,hL w)] else l) n w':=by
 have iq:=h.ok.step ax;have bC:=h.YY.step h.ok ax;have cE:=ax.eP h.ok;have lS:=fun bd=>aqD h.ok h.YY ax bd
 by_cases xM:s.kd=7
 .rcases ax.xM xM with⟨_,U,rfl⟩ |⟨_,ae⟩
  .rw[mu (fun bd=>as3 (bd.2.symm.trans U) aD2)];exact h
  .have:=h.push (iw xM) iq bC ae
   by_cases U:e=0
   .rw[vj U] at this;rw[vj ⟨xM,U⟩];exact this
   .rw[mu U] at this;rw[mu (fun bd=>U bd.2)];exact this
 .rw[mu (fun bd=>xM bd.1)];have aN:=h.aR
  cases ax with
  |write Z=>
   refine h.o2 iq bC (vK h.ok.cs _ _ _) (D0 h.ok.cs) fun U=>?_
   obtain⟨d,H,ak,ha,dw,_⟩:=Hy U;have rt:b6 w.L w.aP=d.im.t.length:=aE5
   have dK:=nn dw;rw[y1 h.ok.cs H,<-rt,aN] at dK;refine⟨aD1,aD1,aD1,fun j V hn=>?_⟩;rw[zO iq (by rw[cE.aR,cE.bi,aN];exact V),zO h.ok (by rw[aN];exact V),Pq];exact(Hz h.ok.cs U j).trans (mu aD1)
  |zero Z=>
   refine h.o2 iq bC (Br h.ok.cs _ _ _) (HB h.ok.cs) fun U=>?_
   obtain⟨d,H,ha,ak,dw,_⟩:=MQ U;have rt:b6 w.L w.aP=d.im.t.length:=aE5
   have dK:=nn dw;rw[y1 h.ok.cs H,<-rt,aN] at dK;refine⟨aD1,aD1,aD1,fun j V hn=>?_⟩;rw[zO iq (by rw[cE.aR,cE.bi,aN];exact V),zO h.ok (by rw[aN];exact V),Pq];exact(MR h.ok.cs U j).trans (mu aD1)
  |B7 Z ay=>
   refine h.o2 iq bC (tg h.ok.cs _ _ _) Pp fun U=>?_
   obtain⟨d,H⟩:=av9.1 h.ok.kd
   have dw:d2 d.im s.a s.l=0:=by
    unfold h1 at U;rw[H] at U;simp only at U
    split at U
    .rename_i c;exact as3 U c
    .rename_i c;exact Decidable.not_not.1 c
   obtain⟨ha,ak⟩:=r8 dw;have rt:b6 w.L w.aP=d.im.t.length:=aE5
   have ov:=dw;rw[ha,ak] at ov;have dK:=nn ov;rw[y1 h.ok.cs H,<-rt,aN] at dK;refine⟨aD1,aD1,aD1,fun j V hn=>?_⟩;rw[zO iq (by rw[cE.aR,cE.bi,aN];exact V),zO h.ok (by rw[aN];exact V),Pq];exact aiV h.ok.cs fun _ _ _=>hn
  |over Z V ax=>
   obtain⟨p,ew,U,⟨aw,rfl⟩ |⟨aw,rfl⟩⟩:=ax
   .exact hV.of h iq bC cE.bi cE.aR rfl rfl (lS (.inr (.inr aD1))) (kk.no (by show ss w.bH=false;rw[V];rfl))
   .exact hV.of h iq bC cE.bi cE.aR rfl rfl (lS (.inr (.inr aD1))) (kk.no (by show ss w.bH=false;rw[V];rfl))
  |dQ Z=>exact as3 Z aW
  |merge Z V ax=>
   obtain⟨_,⟨_,b,rfl⟩ |⟨_,rfl⟩⟩:=ax
   .exact hV.of h iq bC rfl rfl rfl rfl rfl (kk.no rfl)
   .exact h
  |pull Z V ax=>
   obtain⟨_,⟨_,b,rfl⟩ |⟨_,rfl⟩⟩:=ax
   .exact hV.of h iq bC rfl rfl rfl rfl rfl (kk.no rfl)
   .exact h
  |push Z V ax=>exact as3 Z xM
  |zK Z V=>exact hV.of h iq bC cE.bi cE.aR rfl rfl (lS (.inr (.inr aD1))) (kk.no (by show ss (if _ then _ else _)=false;split <;>rfl))
  |zL Z V=>exact hV.of h iq bC cE.bi cE.aR rfl rfl (lS (.inr (.inr aD1))) (kk.no (by show ss (if _ then _ else _)=false;split <;>rfl))
  |ws Z V ax=>exact h.ws V iq bC ax
  |I4 Z V=>exact hV.of h iq bC rfl rfl rfl rfl rfl (kk.no rfl)
  |n2 Z t=>
   have hx: ∀x,x∈t.2.2.1->(x.nm=sy/\x.on=true)/\x.us=false:=fun x hx=>by
    obtain⟨bK,aw,E⟩:=Yn t.2.2.2.2 hx;obtain⟨hA,jd⟩:=h.ds bK aw;exact⟨⟨(as5 (fun p:v6=>p.1) E).trans hA,(as5 (fun p:v6=>p.2.1) E).trans jd⟩,as5 (fun p:v6=>p.2.2.1) E⟩
   refine⟨iq,bC,h.aR,fun x m6=>(hx x m6).1,h.A,fun x m6 a6=>?_,kk.no rfl⟩;rw[(hx x m6).2] at a6
   cases a6
  |drop Z=>exact as3 Z yW
  |_=>exact h
end
end
section
def aqS {P:aH6} {ids:aH0} {K:aZ} {B:aA} {o:Oper} {x:aH8} {T fF e c s i j:Nat} (ag:o.op= .binOp .eql T x (.const (.pointer none)) fF) (a6:P.underlying T=some (.pointer e)) (hx:a7 K x= .c (.one (.fW c s i j))) (N:Nat):bD P N ids o K B (qx false) ⟨[],[],[]⟩:=by
 have m1:x∈o.op.operands:=aD8
 refine bD.val fun K' B' g1 g2 C ρ F a w al av=>?_
 have af:=av.fW ((g1 x m1).trans hx);refine⟨.bool false,?_,rfl⟩;simp only[execOp,ag,af]
 have ao: ∀p:Addr,(Op.equal T (.pointer (some p)) (.pointer none)).run P w= .ok false w:=fun p=>by
  show(Op.equalIn (9999+1) T (.pointer (some p)) (.pointer none)).run P w= .ok false w;unfold Op.equalIn;simp[run_underlying a6]
 simp[eqGuard,binOp,ao,Act.eval,go_sem]
abbrev sz:bB:=.bU .str .str
abbrev aqT (nm:aG9) (k:Nat):aZ:=[(0,eC 1001),(1,bW nm),(4,.c (.one (.bN (.pointer none)))),(5,ab ((k:Int) - 1))]
def aqU (l:List (aa sz)) (ak:l.length<=4000000) (nm F:aG9) {i:Nat} (aE:l[i]? =some ((nm,F):aG9×aG9)) (hn: ∀j (p:aG9×aG9),i < j->l[j]? =some p->p.1≠nm):
  Fn prog 18 [eC 1001,bW nm] [(1001,.row 44 sz l)] [] (.c (.one (.fW 1001 2 i 0))) [(1001,.row 44 sz l)]:=by
 have uu:i < l.length:=(at0.1 aE).1;refine aY [] func18 ?_;refine⟨aD1,d1 [] (X:=Nat) (fun k=>aqT nm k) (fun _=>[(1001,.row 44 sz l)]) (fun k=>i < k/\k<=l.length) (fun k=>k) l.length ⟨uu,as2 _⟩ ?_ ?_⟩
 .exact ac.sub aD aD
 rintro k ⟨E,G⟩;obtain⟨m,rfl⟩: ∃m,k=m+1:=⟨k - 1,aD1⟩;have ay:(((m+1:Nat):Int) - 1).toNat=m:=aD9
 obtain⟨q,aQ⟩: ∃q:aG9×aG9,l[m]? =some q:=⟨l[m]'aD1,as0 _⟩
 have aU:fd l (((m+1:Nat):Int) - 1).toNat=some q:=by
  rw[ay];exact aQ
 refine⟨fun _=>⟨⟨aD1,aD1⟩,q,aU,fun h=>?_,fun h=>?_⟩,fun h=>as3 h aD3⟩
 .have h:q.1=nm:=gd h
  have ve:m=i:=by
   rcases aA6 i m with ah |ah
   .exact as3 h (hn m _ ah aQ)
   .omega
  refine⟨⟨aD1,aD1⟩,?_⟩;exact eN bt rfl (by rw[ay,ve];rfl)
 .have h: ¬q.1=nm:=oj h
  have ve:m≠i:=fun e=>by
   subst e;rw[aQ] at aE;injection aE with aE
   exact h (by rw[aE])
  refine⟨aD1,m,⟨aD1,aD1⟩,aD1,ac.sub ⟨rfl,rfl,rfl,(show sE (ab (((m+1:Nat):Int) - 1 - 1)) (ab ((m:Int) - 1)) by rw[show((m+1:Nat):Int) - 1 - 1=(m:Int) - 1 by omega];rfl),trivial⟩ aD⟩
def aqV {nm F:aG9} (l:aJ6):uL l nm=some F-> ∃i,l[i]? =some (nm,F)/\ ∀(j:Nat) (p:aG9×aG9),i < j->l[j]? =some p->p.1≠nm:=by
 have key: ∀m:List (aG9×aG9),uL m.reverse nm=some F-> ∃i,m.reverse[i]? =some (nm,F)/\ ∀(j:Nat) (p:aG9×aG9),i < j->m.reverse[j]? =some p->p.1≠nm:=fun m=>by
  induction m with
  |nil=>intro h;cases h
  |cons q m bn=>
   intro h;obtain⟨a,B⟩:=q;rw[List.reverse_cons] at h⊢;rw[Ja] at h
   by_cases e:a=nm
   .rw[vj e] at h;injection h with h
    subst e h;refine⟨m.reverse.length,by rw[au6 (as2 _),Nat.sub_self];rfl,fun j p V ae=>?_⟩;rw[au6 aD1] at ae;obtain⟨k,Z⟩: ∃k,j - m.reverse.length=k+1:=⟨j - m.reverse.length - 1,aD1⟩;rw[Z] at ae
    cases ae
   .rw[mu e] at h;obtain⟨i,E,G⟩:=bn h;have aE:=(at0.1 E).1;refine⟨i,by rw[au7 aE];exact E,fun j p V ae=>?_⟩;rcases Nat.lt_trichotomy j m.reverse.length with c |c |c
    .rw[au7 c] at ae;exact G j p V ae
    .rw[au6 aD1,c,Nat.sub_self] at ae;injection ae with ae
     rw[<-ae];exact e
    .rw[au6 aD1] at ae;obtain⟨k,Z⟩: ∃k,j - m.reverse.length=k+1:=⟨j - m.reverse.length - 1,aD1⟩;rw[Z] at ae
     cases ae
 intro h;have:=key l.reverse;rw[List.reverse_reverse] at this;exact this h
abbrev Y3 (g:Int):dL:=⟨4,g,0,[],sy,[],[]⟩
def hV.BA {w w':bR} {n:Nat} {g e:Int} (aq:eO w) (V:w.bH= .no) (H:w.ds=[]) (nJ:w.Q=[]) (aN:b6 w.L w.aP=n) (ax:gX w (Y3 g) e w'):hV [] n w':=by
 have iq:=aq.step ax;have bC:=(jD.no V).step aq ax;have cE:=ax.eP aq
 cases ax with
 |dQ Z l' ax=>
  refine⟨iq,bC,aN,?_,fun b O=>?_,fun x _ _ aQ=>as3 nJ aQ,kk.no (by show ss w.bH=false;rw[V];rfl)⟩
  .show∀x,x∈l'->_;rcases ax with⟨_,_,⟨_,_,_,_,a,b,rfl⟩ |⟨_,rfl⟩⟩ |⟨_,rfl⟩
   .intro x hx;rw[H] at hx;obtain rfl:=at7.1 hx;exact⟨rfl,rfl⟩
   .rw[H];intro x hx
    cases hx
   .rw[H];intro x hx
    cases hx
  .have O:b∈w.Q:=O;rw[nJ] at O
   cases O
 |H7 h=>exact as3 h (by show¬((4:Int) < 0\/(12:Int)<=4);decide)
 |write h=>exact as3 h (by show¬(4:Int)=0;decide)
 |zero h=>exact as3 h (by show¬(4:Int)=1;decide)
 |_=>first |(rename_i h;exact as3 h aD2) |(exfalso;simp at*;done) |(exfalso;omega)
end
section
abbrev Y4 (x y aB:Int) (w:bR):aA:=cV w++[(3,.cells (zM x y aB))]
abbrev Y5 (fr:List (aa sz)):Nat×ba:=(6002,.row 44 sz fr)
abbrev Jb (l:List kj) (k:Nat):aZ:=[(2,bP hU l),(3,ap 3),(7,ap 1401),(9,eC 6002),(50,bP hU l),(51,ab (l.length:Nat)),(52,ab (k:Nat))]
abbrev E8 (x y aB:Int) (w:bR) (fr:List (aa sz)):aA:=cV w++[(3,.cells (zM x y aB)),Y5 fr]
abbrev aqW (l:List kj) (k:Nat):aZ:=[(2,bP hU l),(3,ap 3),(7,ap 1401),(9,eC 6002),(50,bP hU l),(51,ab (l.length:Nat)),(52,ab (k:Nat)),(11,ap 11)]
abbrev Y6 (x y aB:Int) (s:dL) (w:bR) (fr:List (aa sz)):aA:=cV w++[(3,.cells (zM x y aB)),Y5 fr,(11,.cells (IR s))]
abbrev aqX (l:List kj) (k:Nat) (D:aG9) (e:Int):aZ:=[(2,bP hU l),(3,ap 3),(7,ap 1401),(9,eC 6002),(50,bP hU l),(51,ab (l.length:Nat)),(52,ab (k:Nat)),(11,ap 11),(12,bP .u8 D),(14,ab e)]
abbrev aqY (l:List kj) (k:Nat):aZ:=[(2,bP hU l),(3,ap 3),(7,ap 1401),(9,eC 107),(50,bP hU l),(51,ab (l.length:Nat)),(52,ab (k:Nat))]
abbrev aqZ (x y aB:Int) (w:bR) (fr:List (aa sz)):aA:=cV w++[(3,.cells (zM x y aB)),(107,.row 44 sz fr)]
abbrev aq0 (l:List kj) (k:Nat) (ns:aJ0) (j:Nat):aZ:=[(2,bP hU l),(3,ap 3),(7,ap 1401),(9,eC 6002),(50,bP hU l),(51,ab (l.length:Nat)),(52,ab (k:Nat)),(110,bP .str ns),(111,ab (ns.length:Nat)),(112,ab (j:Nat))]
def aq1 (x y aB:Int) (l:List kj) (g:Int) (ak:uK l):Fn prog 4 [Pk x y aB,ab g,bP hU l] [] [] (fX true) []:=by
 have ha:=aqt;have hf:=ak.BT x y aB;have nh:=ak.len
 cases ay:kN x y aB with
 |false=>
  have hn:=aqv x y aB ay;refine aY [] func4 ?_;exact⟨rfl,ar hn <| fm <| ar ha bh⟩
 |true=>
  have xc:=ay;simp only[kN,as1,av6] at xc;obtain⟨⟨⟨KJ,RC⟩,Po,sR⟩,hd,fk⟩:=xc;obtain⟨z,rfl⟩:=aA8 hd;obtain⟨R,rfl⟩:=aA8 Po;obtain⟨n,rfl⟩:=aA8 KJ;have su:((n:Nat):Int)*((2 ^((z:Nat):Int).toNat:Nat):Int)=((n*2 ^z:Nat):Int):=by rw[az0,az8]
  have vM:n*2 ^z<=2048:=by
   have iH:2 ^z<=2 ^3:=aB1 aD2 aD1;have ay:n*2 ^z<=256*8:=ax9 aD1 iH;omega
  have hn:=Ys z R n (by simp only[kN,as1,av6];omega) ay;refine aY [1,2,9,10,11,13,18] func4 ?_;refine⟨rfl,bw.iJ fa aD4 <| lM hn fun q=>?_⟩;obtain⟨p,ew⟩:=q;refine bw.ff (dv.mark 4001 4009 rfl aD2) fun db=>bw.le (ac.trans (ac.wm 1401 3 4001 4009 db rfl rfl rfl) (ac.trans (ac.wn 4001 4009 db rfl rfl) (ac.trans (ac.rK 1101 rfl) (ac.put 1101 4001 aD2 rfl rfl)))) <| bw.ff (dv.mark 3001 3009 rfl aD2) fun lb=>bw.le (ac.trans (ac.wm 1401 5 3001 3009 lb rfl rfl rfl) (ac.trans (ac.wn 3001 3009 lb rfl rfl) (ac.trans (ac.rK 1301 rfl) (ac.put 1301 3001 aD2 rfl rfl)))) <| bw.le (ac.trans (ac.wi 1401 8 rfl rfl) (ac.trans (ac.wi 1401 9 rfl rfl) (ac.trans (ac.wi 1401 16 rfl rfl) (ac.trans (ac.rK 1601 rfl) (ac.XK 1501 1001 rfl aD2))))) ?_
  have aw:=YF ay ew db lb;have aq2:=aqk ay p
  cases bj:tI n l with
  |false=>
   rw[bj] at hf;exact bz [] (cM [(1,ab g),(2,bP hU l),(3,ap 3),(7,ap 1401),(8,ab 0)] (Y4 z n R (gH z R n p db lb))) <| dE <| ar hf <| fm <| ar ha bh
  |true=>
   rw[bj] at hf;have Y7:=Pn (gH z R n p db lb) aw (Y3 g) (tG.of (at2 _) (show 1<=1000000 by decide) (show(0:Int)<=9223372036854775807 by decide) rfl) rfl rfl;refine bw.le (cM [(1,ab g),(2,bP hU l),(3,ap 3),(7,ap 1401),(8,ab 0)] (Y4 z n R (gH z R n p db lb))) <| bw.iJ fa aD4 <| dE <| lM hf.x fun _=>dE <| lM Y7 fun q=>?_
   obtain⟨⟨c7,ih⟩,Y8⟩:=q;refine⟨fun _=>?_,fun asf=>?_⟩
   .exact ar ha bh
   have aq3:hV [] n ih:=hV.BA aw rfl rfl rfl (by show b6 (tH z R n p) fu=n;rw[aq2];omega) Y8;have aq4:ih.z=z:=(Y8.eP aw).bi;clear Y7;refine d1 [9,10,11,13,18] (X:=Nat×List (aG9×aG9)×bR) (fun aB=>Jb l aB.1) (fun aB=>E8 z n R aB.2.2 aB.2.1) (fun aB=>aB.1<=l.length/\aB.2.1.length<=aB.1/\hV aB.2.1 n aB.2.2/\aB.2.2.z=z) (fun aB=>l.length - aB.1) (0,[],ih) ⟨at2 _,as2 _,aq3,aq4⟩ ?_ ?_
   .exact(ac.nil 9 6002 44 sz rfl rfl).trans (ac.sub aD aD)
   rintro⟨k,fr,w⟩ ⟨Z,Bc,a1,u9⟩;have Z:k<=l.length:=Z;have Bc:fr.length<=k:=Bc;have a1:hV fr n w:=a1;have u9:w.z=z:=u9;refine⟨fun h=>?_,fun h=>?_⟩
   rotate_left
   .exact ar ha bh
   have cu:k < l.length:=by
    have h:decide ((k:Int) < (l.length:Int))=true:=h;simpa using h
   refine⟨aD1,l[k],j4 (n:=k) cu,?_⟩;have lK:=av2 cu;generalize l[k]=o at lK;have aq:=a1.ok;have cz:=a1.aR;have eB:=ak.step lK;have aq5:=Pd w aq (co o) (ak.aqw bj lK);refine⟨rfl,fun _=>?_,fun aW=>?_⟩
   .refine⟨aD1,(k+1,fr,w),⟨by show k+1<=l.length;omega,by show fr.length<=k+1;omega,a1,u9⟩,by show l.length - (k+1) < l.length - k;omega,ac.sub aD aD⟩
   have aW: ¬(co o).kd=4:=oj aW;refine⟨fun _=>?_,fun yW=>?_⟩
   .refine⟨aD1,(k+1,fr,w),⟨by show k+1<=l.length;omega,by show fr.length<=k+1;omega,a1,u9⟩,by show l.length - (k+1) < l.length - k;omega,ac.sub aD aD⟩
   have yW: ¬(co o).kd=11:=oj yW
   have aQ:r9 w.z w.L w.aP 0 (((n:Nat):Int)*((2 ^((z:Nat):Int).toNat:Nat):Int))=(hL w,0):=by
    rw[su,<-cz,<-u9];exact aqF aq
   have lS:=aqx w aq.cs 0 (((n:Nat):Int)*((2 ^((z:Nat):Int).toNat:Nat):Int));rw[aQ] at lS;refine⟨fun iw=>⟨fun ag=>⟨fun ay=>?aq6,fun ay=>?EF⟩,fun ag=>?EG⟩,fun iw=>?On⟩
   case aq6=>refine⟨aD1,(k+1,fr,w),⟨by show k+1<=l.length;omega,by show fr.length<=k+1;omega,a1,u9⟩,by show l.length - (k+1) < l.length - k;omega,ac.sub aD aD⟩
   case' EF=>
    have Pv:(co o).kd=7->(co o).eA=[]\/(co o).eA=sy:=fun _=>.inr (by
     have ay:(!decide ((co o).eA=sy))=false:=ay;simpa using ay)
   case' EG=>
    have Pv:(co o).kd=7->(co o).eA=[]\/(co o).eA=sy:=fun _=>.inl (by
     have ag:(!decide ((co o).eA=[]))=false:=ag;simpa using ag)
   case' On=>
    have Pv:(co o).kd=7->(co o).eA=[]\/(co o).eA=sy:=fun e=>as3 e (oj iw)
   all_goals
    refine bz [10,11,13,18] (cM (aqW l k) (Y6 z n R (co o) w fr)) ?_;refine⟨⟨aD1,aD1,aD1⟩,⟨by rw[su];omega,by rw[su];omega⟩,ar lS <| bw.iJ fa aD4 <| lM eB.x fun _=>⟨_,_,_,fun g=>_,fun g=>_,aq5,aD,rfl,fun _=>rfl,fun aB=>?_⟩⟩;obtain⟨⟨e,w'⟩,ax⟩:=aB;have nI:hV (if(co o).kd=7/\e=0 then fr++[((co o).nm,hL w)] else fr) n w':=a1.step aW yW Pv ax;have aq7:w'.z=z:=(gX.eP aq ax).bi.trans u9;refine bz [13,18] (cM (aqX l k (hL w) e) (Y6 z n R (co o) w' fr)) ⟨fun Pw=>⟨fun U=>?_,fun U=>?_⟩,fun Pw=>?_⟩;rw[vj ⟨gd Pw,gd U⟩] at nI;refine⟨by show fr.length+1<=4294967296;omega,rfl,bw.le (ac.trans (cM (aqY l k) (aqZ z n R w' (fr++[((co o).nm,hL w)]))) ((ac.aX 107 6002 rfl).trans (cM (Jb l k) (E8 z n R w' (fr++[((co o).nm,hL w)]))))) ?_⟩;have zQ:(fr++[((co o).nm,hL w)]).length<=k+1:=by rw[as4];show fr.length+1<=k+1;omega
    generalize fr++[((co o).nm,hL w)]=zR at nI zQ⊢
    rotate_left
    rw[mu (fun bd=>as3 bd.2 (oj U))] at nI;refine bw.le (cM (Jb l k) (E8 z n R w' fr)) ?_;have zQ:fr.length<=k+1:=aD9
    generalize fr=zR at nI zQ⊢
    rotate_left
    rw[mu (fun bd=>as3 bd.1 (oj Pw))] at nI;refine bw.le (cM (Jb l k) (E8 z n R w' fr)) ?_;have zQ:fr.length<=k+1:=aD9
    generalize fr=zR at nI zQ⊢
    rotate_left
    all_goals
     have Px:=nI.ok;have aq8:=Ya Px.q.tolV w'.lb;refine bz [18] (bt) <| ar (YO w') <| ar aq8 <| d1 [18] (X:=Nat) (fun j=>aq0 l k (w'.Q.map cT) j) (fun _=>E8 z n R w' zR) (fun j=>j<=(w'.Q.map cT).length) (fun j=>(w'.Q.map cT).length - j) 0 (at2 _) ?_ ?_
     .exact ac.sub aD aD
     intro j V;have asg:=Px.q.tolV.len;have ash:(w'.Q.map cT).length=w'.Q.length:=at8 _;refine⟨fun h=>?_,fun h=>?_⟩
     .have eR:j < (w'.Q.map cT).length:=by
       have h:decide ((j:Int) < ((w'.Q.map cT).length:Int))=true:=h;simpa using h
      have dF:j < w'.Q.length:=aD9
      have aU:fd (w'.Q.map cT) j=some (cT w'.Q[j]):=by
       unfold fd;rw[au8,as0 dF];rfl
      have O:=av2 dF;generalize w'.Q[j]=b at aU O;obtain⟨F,eW,e9,f3⟩:=nI.A b O;obtain⟨i,kG,jX⟩:=aqV zR eW;have gA:=Fn.nt (b:=w'.lb) [1002] 1301 (VH Px.q.tolV (cT b));rw[alV (VP O),e9] at gA;have sI:=Fn.aX [(1001,6002)] (aqU zR (by have bM:List.length (α:=aa sz) zR<=k+1:=zQ;omega) (cT b) F kG jX);refine⟨aD1,cT b,aU,ar (YO w') <| ar gA <| ar sI <| bw.mA (2000000+130) aD2 <| bz [] (bt) ⟨fun h=>as3 h aD3,fun _=>bc (aqS rfl underlying50 rfl) ?_⟩⟩;refine⟨(cT b,F),kG,eU aD4,fun h=>as3 h aD3,fun _=>?_⟩;exact⟨aD1,j+1,eR,by show(w'.Q.map cT).length - (j+1) < (w'.Q.map cT).length - j;omega,ac.sub aD aD⟩
     .exact⟨aD1,(k+1,zR,w'),⟨by show k+1<=l.length;omega,zQ,nI,aq7⟩,by show l.length - (k+1) < l.length - k;omega,ac.sub aD aD⟩
end
end Go.Proofs.YtkfbeijmgggkmaaGreat
