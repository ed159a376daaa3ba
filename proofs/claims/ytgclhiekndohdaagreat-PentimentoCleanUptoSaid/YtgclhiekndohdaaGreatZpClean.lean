/-
A part of the proof of this claim: lemmas, with no condition beyond what each says.
-/
import Derived.Test.YtgclhiekndohdaaGreatZp6
set_option linter.all false
set_option maxRecDepth 100000
set_option maxHeartbeats 0
namespace Go.Proofs.YtgclhiekndohdaaGreat
open Go.RowKit Go.Proofs _root_.Go.Proofs.Tryz Tryz
section
abbrev V2:d3:=⟨4,2,0,[],[109],[],[]⟩
structure Hj (n:Nat) (w:bQ):Prop where
 ok:eQ w
 e: ∃p db lb a b,w={gq 1 60 n p db lb with ds:=[⟨[109],a,b,true,true,((2*n:Nat):Int),2,[]⟩]}
 aR:b6 w.L w.aX=n
 rd:gp w=List.replicate (32*n) 0
def fB.eI {w w':bQ} {s:d3} {e:Int} (Z:s.kd=4) (h:fB w s e w'):e=AD w s/\ ∃l',((mv ((dV w*2 ^w.z:Nat):Int) s.a=true/\AC w.ds s.nm true true ((dV w*2 ^w.z:Nat):Int) s.a [] l')\/(mv ((dV w*2 ^w.z:Nat):Int) s.a=false/\l'=w.ds))/\w'={w with ds:=l'}:=by
 cases h with
 |eB h l' aw=>exact⟨rfl,l',aw,rfl⟩
 |_=>omega
def V3:rf [] [109]=0:=by kernel_rfl
def V4 {n:Nat} (E:1<=n) (eH:n<=6):lM ((1:Nat):Int) (n:Int) ((60:Nat):Int)=true:=by
 obtain rfl |rfl |rfl |rfl |rfl |rfl:n=1\/n=2\/n=3\/n=4\/n=5\/n=6:=aA5
 all_goals decide
def am7 {n:Nat} (E:1<=n) (eH:n<=6):mv ((n*2 ^1:Nat):Int) 2=true:=by
 obtain rfl |rfl |rfl |rfl |rfl |rfl:n=1\/n=2\/n=3\/n=4\/n=5\/n=6:=aA5
 all_goals decide
def am8 {n:Nat} (E:1<=n) (eH:n<=6) {p:aF8} (dM:cc 1 60 (mB 1 60 n p)) {db lb:Nat} {e:Int} {w':bQ} (aw:fB (gq 1 60 n p db lb) V2 e w'):e=0/\Hj n w':=by
 have aD:=V4 E eH;have O:=am7 E eH;have au:=Nn aD dM db lb;have Hh:=au.step aw;have aO:b6 (mB 1 60 n p) hd=n:=VR aD p;have am9:dV (gq 1 60 n p db lb)=n:=aO;have H:=am1 aD dM db lb;obtain⟨U,l',ak,rfl⟩:=aw.eI rfl;unfold AD at U;rw[am9] at U ak;rw[vj O] at U;rcases ak with⟨_,_,⟨_,_,_,_,a,b,rfl⟩ |⟨h,_⟩⟩ |⟨h,_⟩
 .refine⟨U.trans V3,Hh,⟨p,db,lb,a,b,?_⟩,aO,?_⟩
  .rw[show n*2 ^(gq 1 60 n p db lb).z=2*n from ax5 n 2];rfl
  .show gp (gq 1 60 n p db lb)=_;rw[H,show 16*((n:Int).toNat*2 ^1)=32*n by omega]
 .exact ap0 V3 h
 .exact ap0 (O.symm.trans h) az8
def tn (p:aF8):List aL:=(fu 1 (mB 1 60 3 p) hd 0 (Dr 97)).L
abbrev qf:aD2:=Dr 97++List.replicate 16 0
abbrev nh:aD2:=List.replicate 32 0
def am' (p:aF8):(fu 1 (mB 1 60 3 p) hd 0 (Dr 97)).e=0:=by kernel_rfl
def ana (p:aF8):b6 (tn p) hd=3:=by kernel_rfl
def anb:h1 (fun _=>true) 1 (3*2 ^1)=[0,1,2]:=by kernel_rfl
def anc (p:aF8):ea 1 (tn p) hd 9 [0,1,2] [] 0=⟨0,[1,2],[(0,qf)],false⟩:=by kernel_rfl
def ane (p:aF8):ea 1 (tn p) hd 9 [1,2] [(0,qf)] 1=⟨0,[2],[(0,qf),(1,nh)],false⟩:=by kernel_rfl
def anf (p:aF8):ea 1 (tn p) hd 9 [2] [(0,qf),(1,nh)] 2=⟨0,[],[(0,qf),(1,nh),(2,nh)],false⟩:=by kernel_rfl
def V5:List j8:=[((0:Int),qf),((1:Int),nh),((2:Int),nh)]
def ang:nP [(0,qf),(1,nh),(2,nh)]=V5:=by unfold nP;rw[show e8 (j7 [(0,qf),(1,nh),(2,nh)])=[0,1,2] from rfl,ag5 (m:=[0,1,2]) (List.Perm.refl _) az8];rfl
def sj:b9:=([120],[],(1:Int),(3:Int),V5)
def V6:gy [] sj=0:=by kernel_rfl
def anh:rh [sj]=0:=by kernel_rfl
def ani:ta [sj] [120]=0:=by kernel_rfl
def anj:(Aj [sj] [120]).length=96/\fi (Aj [sj] [120]) 0=some 97:=⟨aA0,aA0⟩
abbrev yj:Made:=tl [120] [] 1 3 [] none
def ank:Nat->bQ->Prop
 |0,w=>w.bL= .pu hd 3 9 [0,1,2] [] false false/\w.bO=yj/\w.Q=[]
 |1,w=>w.bL= .pu hd 3 9 [1,2] [(0,qf)] false false/\w.bO=yj/\w.Q=[]
 |2,w=>w.bL= .pu hd 3 9 [2] [(0,qf),(1,nh)] false false/\w.bO=yj/\w.Q=[]
 |3,w=>w.bL= .pu hd 3 9 [] [(0,qf),(1,nh),(2,nh)] false false/\w.bO=yj/\w.Q=[]
 |_,w=>w.bL= .no/\w.Q=[sj]
structure tp (p:aF8) (k:Nat) (w:bQ):Prop where
 ok:eQ w
 bi:w.z=1
 L:w.L=tn p
 ao2:w.aX=hd
 V7:ank k w
def anl {p:aF8} {db lb:Nat} {d:aE3} {e:Int} {w':bQ} (h:fB {gq 1 60 3 p db lb with ds:=d} VS e w'):w'.z=1/\w'.L=tn p/\w'.aX=hd/\w'.bL= .no/\w'.Q=[]:=by obtain⟨rfl,rfl⟩:=h.Fi rfl;unfold h3;rw[vj (am' p)];exact⟨rfl,rfl,rfl,rfl,rfl⟩
def anm {p:aF8} {w w':bQ} {e:Int} (aq:eQ w) (O:w.z=1) (cP:w.L=tn p) (H:w.aX=hd) (V:w.bL= .no) (rE:w.Q=[]) (h:fB w No e w'):tp p 0 w':=by
 have cV:=aq.step h
 have hn:ri w No=false:=by
  unfold ri;rw[rE];rfl
 have aO:dV w=3:=by
  unfold dV;rw[cP,H];exact ana p
 rcases h.amK rfl with⟨h,_⟩ |⟨_,h⟩
 .rw[V] at h
  cases h
 .rcases h with⟨h,_⟩ |⟨_,⟨_,⟨h,_⟩ |⟨_,_,b,rfl⟩⟩ |⟨h,_⟩ |⟨h,_⟩⟩
  .exact ap0 (h.symm.trans hn) az8
  .exact ap0 h az8
  .refine⟨cV,O,cP,H,?_,?_,rE⟩
   .rw[aO,O,anb,H];rfl
   .show tl _ _ _ _ _ _=yj;rw[aO,O];rfl
  .exact ap0 rfl h
  .exact ap0 rfl h
def ann {p:aF8} {k:Nat} {w w':bQ} {e:Int} (aZ:tp p k w) (h:fB w VT e w'):tp p (k+1) w':=by
 have cV:=aZ.ok.step h;obtain⟨aq,E,G,ag,aS⟩:=aZ
 have st: ∀{l:aD3} {g:aD6} {c:Nat} {l':aD3} {gW:aD6},w.bL= .pu hd 3 9 l g false false->w.bO=yj->w.Q=[]->l≠[]->eA l=c->ea 1 (tn p) hd 9 l g c=⟨0,l',gW,false⟩->
   (eQ w'/\w'.z=1/\w'.L=tn p/\w'.aX=hd/\w'.bL= .pu hd 3 9 l' gW false false/\w'.bO=yj/\w'.Q=[]):=fun {l g c l' gW} ka oL p' a6 aD J=>by
  rcases h.Nl rfl with⟨j,_⟩ |⟨_,_,_,j,_⟩ |⟨_,_,j,_⟩ |⟨nm,n,rm,l,g,j,aw⟩
  .rw[ka] at j;cases j
  .rw[ka] at j;cases j
  .rw[ka] at j;cases j
  .rw[ka] at j
   cases j
   rcases aw with⟨ak,_⟩ |⟨_,_,rfl⟩
   .exact ap0 ak a6
   .rw[E,G,aD,J] at cV⊢;exact⟨cV,rfl,rfl,ag,rfl,oL,p'⟩
 match k,aS with
 |0,⟨ka,oL,p'⟩=>
  obtain⟨bR,b',a3,a4,a5,ft,qp⟩:=st ka oL p' az8 rfl (anc p);exact⟨bR,b',a3,a4,a5,ft,qp⟩
 |1,⟨ka,oL,p'⟩=>
  obtain⟨bR,b',a3,a4,a5,ft,qp⟩:=st ka oL p' az8 rfl (ane p);exact⟨bR,b',a3,a4,a5,ft,qp⟩
 |2,⟨ka,oL,p'⟩=>
  obtain⟨bR,b',a3,a4,a5,ft,qp⟩:=st ka oL p' az8 rfl (anf p);exact⟨bR,b',a3,a4,a5,ft,qp⟩
 |3,aS=>
  obtain⟨ka,oL,p'⟩:=aS;rcases h.Nl rfl with⟨j,_⟩ |⟨_,_,_,j,_⟩ |⟨_,_,j,_⟩ |⟨nm,n,rm,l,g,j,aw⟩
  .rw[ka] at j;cases j
  .rw[ka] at j;cases j
  .rw[ka] at j;cases j
  .rw[ka] at j
   cases j
   rcases aw with⟨_,t,aw,rfl⟩ |⟨ak,_⟩
   .have O:gH w.bO [(0,qf),(1,nh),(2,nh)]=sj:=by
     rw[oL];show([120],[],(1:Int),(3:Int),nP [(0,qf),(1,nh),(2,nh)])=sj;rw[ang];rfl
    have ak:gQ [] sj=[sj]:=by
     unfold gQ;rw[V6];rfl
    have:=amL aw (by show gy w.Q (gH w.bO _)=0;rw[O,p'];exact V6) (by show rh (gQ w.Q (gH w.bO _))=0;rw[O,p',ak];exact anh);refine⟨cV,E,G,ag,rfl,this.1.trans ?_⟩;show gQ w.Q (gH w.bO _)=_;rw[O,p',ak]
   .exact ap0 rfl ak
 |k+4,aS=>
  obtain⟨ka,oL⟩:=aS;rcases h.Nl rfl with⟨_,_,rfl⟩ |⟨_,_,_,j,_⟩ |⟨_,_,j,_⟩ |⟨nm,n,rm,l,g,j,aw⟩
  .exact⟨aq,E,G,ag,ka,oL⟩
  .rw[ka] at j;cases j
  .rw[ka] at j;cases j
  .rw[ka] at j;cases j
end
section
abbrev mC:bz:=.bT aj (.bT (.ce .u8) (.bT aj .str))
abbrev iV:=aa mC
abbrev tq (x:iV):Int:=x.1
abbrev ig (x:iV):aD2:=x.2.1
abbrev lZ (x:iV):Int:=x.2.2.1
abbrev ni (x:iV):aD2:=x.2.2.2
def mD (x:iV):Nat:=(ig x).length+(ni x).length
abbrev Nr (x:iV):List bw:=[.d (.int .i64 (tq x)),.d (.cr .u8 (ig x)),.d (.int .i64 (lZ x)),.d (.str (ni x))]
abbrev ano (x:iV):aN:=.c (.agg (Nr x))
def tr (l:List iV) (k:Nat):Nat:=((l.take k).map mD).sum
def V8 (l:List iV) {k:Nat} (h:k < l.length):tr l (k+1)=tr l k+mD l[k]:=amI mD h
def uX (y:Int) (l:List iV):Bool:=((decide (1<=y)&&decide (y<=6))&&decide (l.length<=40))&&decide ((l.map mD).sum<=3000)
structure Dt (l:List iV):Prop where
 len:l.length<=1048576
 sum:(l.map mD).sum<=1048576
def anp (x:iV):mD x+1<=hO mC x:=by have E:=VP (ig x);have e:hO mC x=1+(hO (.ce .u8) (ig x)+(1+(1+(ni x).length))):=rfl;have al:mD x=(ig x).length+(ni x).length:=rfl;rw[e,E,al];omega
def V9: ∀l:List iV,l.length+(l.map mD).sum<=hO (.ce mC) l
 | []=>ap9 _
 |o::l=>by
  have E:=V9 l;have e:hO (.ce mC) (o::l)=1+(hO mC o+(List.map (hO mC) l).sum):=rfl;have al:hO (.ce mC) l=1+(List.map (hO mC) l).sum:=rfl;have bt:=anp o;rw[e,as9,aq5,List.sum_cons];omega
def Dt.of {l:List iV} (h:hO (.ce mC) l<=1048576):Dt l:=by have:=V9 l;exact⟨az7,az7⟩
def anq {y:Int} {l:List iV} (h:uX y l=true):(1<=y/\y<=6)/\ ∀x∈l,(ig x).length<=3000/\(ni x).length<=3000:=by unfold uX at h;simp only[ao8,as1] at h;refine⟨h.1.1,fun x hx=>?_⟩;have E:mD x<=(l.map mD).sum:=VQ (f:=mD) hx;have G:mD x=(ig x).length+(ni x).length:=rfl;omega
abbrev anr (y:Int) (l:List iV) (k n:Nat):aW:=[(0,ab y),(1,b0 mC l),(5,ab (n:Nat)),(8,b0 mC l),(9,ab (l.length:Nat)),(10,ab (k:Nat))]
def ans (y:Int) (l:List iV) (ak:Dt l):Fn prog 5 [ab y,b0 mC l] [] [] (gT (uX y l)) []:=by
 have sl:=ak.len;have pB:=ak.sum;refine aU [7] func5 ?_;refine ed [7] (X:=Nat) (fun k=>anr y l k (tr l k)) (fun _=>[]) (fun k=>k<=l.length) (fun k=>l.length - k) 0 (ap9 _) ?_ ?_
 .exact ac.sub aE trivial
 intro k Z;have Z:k<=l.length:=Z;refine⟨fun h=>?_,fun h=>?_⟩
 .have cl:k < l.length:=by
   have h:decide ((k:Int) < (l.length:Int))=true:=h;simpa using h
  have Hk:=VO mD l (k+1);have Hk:tr l (k+1)<=(l.map mD).sum:=Hk;rw[V8 l cl] at Hk;have km:=V8 l cl;refine⟨az7,l[k],j2 (n:=k) cl,?_⟩;generalize l[k]=o at Hk km;have ao3:mD o=(ig o).length+(ni o).length:=rfl;refine⟨rfl,?_⟩;have cE: -9223372036854775808<=((ig o).length:Int)+(ni o).length/\((ig o).length:Int)+(ni o).length<=9223372036854775807:=aA5
  have cG: -9223372036854775808<=(tr l k:Int)+(((ig o).length:Int)+(ni o).length)/\(tr l k:Int)+(((ig o).length:Int)+(ni o).length)<=9223372036854775807:=aA5
  refine⟨cE,cG,?_⟩;refine⟨az7,k+1,by show k+1<=l.length;omega,by show l.length - (k+1) < l.length - k;omega,ac.sub ⟨rfl,rfl,?_,rfl,rfl,rfl,trivial⟩ trivial⟩;show(tr l k:Int)+(((ig o).length:Int)+(ni o).length)=((tr l (k+1):Nat):Int);omega
 .have cl:k=l.length:=by
   have h:decide ((k:Int) < (l.length:Int))=false:=h;have:=oj h;omega
  subst cl;have b4:tr l l.length=(l.map mD).sum:=by unfold tr;rw[ar2]
  rw[b4];have bj:uX y l=(((decide (1<=y)&&decide (y<=6))&&decide (l.length<=40))&&decide ((l.map mD).sum<=3000)):=rfl;generalize(l.map mD).sum=n at*;refine bx [] (bu) ⟨fun cy=>?_,fun cy=>?_⟩
  .have cy:decide (1<=y)=true:=cy;refine⟨fun cu=>?_,fun cu=>?_⟩
   .have cu:decide (y<=6)=true:=cu;refine⟨fun gl=>?_,fun gl=>?_⟩
    .have gl:decide (l.length<=40)=true:=aq1 (by have:=gd gl;omega);refine⟨_,_,_,bu,rfl,(show decide ((n:Int)<=3000)=uX y l from ?_),trivial,rfl⟩;rw[bj,cy,cu,gl,ax8];have:((n:Int)<=3000)=(n<=3000):=propext ⟨fun h=>by omega,fun h=>by omega⟩;simp only[this];rfl
    .have gl:decide (l.length<=40)=false:=as7 (by have:=oj gl;omega);refine⟨_,_,_,bu,rfl,(show false=uX y l from ?_),trivial,rfl⟩;rw[bj,cy,cu,gl];rfl
   .have cu:decide (y<=6)=false:=cu;refine⟨_,_,_,bu,rfl,(show false=uX y l from ?_),trivial,rfl⟩;rw[bj,cy,cu];rfl
  .have cy:decide (1<=y)=false:=cy;refine⟨_,_,_,bu,rfl,(show false=uX y l from ?_),trivial,rfl⟩;rw[bj,cy];rfl
end
section
abbrev Hl (k:Int):Prop:=k=0\/k=3\/k=4\/k=5\/k=6\/k=7\/k=8\/k=9
def Ns (w:bQ) (aq:eQ w) (s:d3) (ax:rl s) (Z:Hl s.kd) (au:s.ks=[]):cz prog 8 (amM s) (cS w) [] (X:=ng (fB w s)) (fun p=>ab p.1.1) (fun p=>cS p.1.2):=
 cz.arg (VF w aq s ax Z) ⟨rfl,⟨rfl,rfl,rfl,rfl,rfl,rfl,by rw[au];rfl,trivial⟩,trivial⟩
def Hm (w:bQ) (aq:eQ w) (s:d3) (ax:rl s) (Z:Hl s.kd) (au:s.ks=[]) (E:s.b=[]):cz prog 8 (VU s) (cS w) [] (X:=ng (fB w s)) (fun p=>ab p.1.1) (fun p=>cS p.1.2):=
 cz.arg (VF w aq s ax Z) ⟨rfl,⟨rfl,rfl,rfl,by rw[E];rfl,rfl,rfl,by rw[au];rfl,trivial⟩,trivial⟩
def ant (n:Int) (au:0<=n) (E:n < 256):Fn prog 23 [mH (.d (.int .u8 n))] [] [] (b0 .u8 (Dr n)) []:=by refine aU [] func23 ?_;exact⟨⟨rfl,az8,az8⟩,rfl,⟨az8,az8⟩,⟨⟨au,E⟩,az8⟩,_,_,_,ac.dX 4 rfl,rfl,rfl,trivial,rfl⟩
def V' {n:Nat} (E:1<=n) (eH:n<=6):cz prog 7 [ab (n:Int)] [] [1001,1101,1201,1301,1401,1501,1601] (X:={w:bQ//Hj n w}) (fun _=>ap 1401) (fun g=>cS g.1):=by
 have aD:=V4 E eH;have hn:=amH 1 60 n az8 aD;refine hR [1,2,4] func7 ?_;refine bB.hP eC aA0 ⟨_,_,_,fun g=>_,fun g=>_,hn,trivial,rfl,fun _=>rfl,fun x=>?_⟩;obtain⟨p,dM⟩:=x;refine bB.fJ (du.mark 4001 4009 rfl az8) fun db=>bB.le (ac.trans (ac.G9 1401 3 4001 4009 db rfl rfl rfl) (ac.trans (ac.Nc 4001 4009 db rfl rfl) (ac.trans (ac.t7 1101 rfl) (ac.put 1101 4001 az8 rfl rfl)))) <| bB.fJ (du.mark 3001 3009 rfl az8) fun lb=>bB.le (ac.trans (ac.G9 1401 5 3001 3009 lb rfl rfl rfl) (ac.trans (ac.Nc 3001 3009 lb rfl rfl) (ac.trans (ac.t7 1301 rfl) (ac.put 1301 3001 az8 rfl rfl)))) <| bB.le (ac.trans (ac.Az 1401 8 rfl rfl) (ac.trans (ac.Az 1401 9 rfl rfl) (ac.trans (ac.Az 1401 16 rfl rfl) (ac.trans (ac.t7 1601 rfl) (ac.alj 1501 1001 rfl az8))))) ?_
 have au:=Nn aD dM db lb;have H:=Hm _ au V2 (rl.of az8 az8 az8 rfl) (.inr (.inr (.inl rfl))) rfl rfl;refine bB.le (cH [(3,ap 1401),(4,ab 0)] (cS (gq 1 60 n p db lb))) <| bB.hP eC aA0 <| dR ⟨_,_,_,fun g=>_,fun g=>_,H,aE,rfl,fun _=>rfl,fun x=>?_⟩;obtain⟨⟨e,w'⟩,aw⟩:=x;obtain⟨U,cV⟩:=am8 E eH dM aw;have U:e=0:=U;have cV:Hj n w':=cV;subst U;exact⟨fun h=>ap0 h az9,fun _=>bx [] (cH [(3,ap 1401)] (cS w')) ⟨⟨w',cV⟩,_,_,_,bu,rfl,rfl,aE,rfl⟩⟩
def anu {p:aF8} {k:Nat} {w:bQ} (h:tp p k w):(k < 4->wg w.bL=3)/\(4<=k->wg w.bL=0):=by
 have aS:=h.V7
 match k,aS with
 |0,aS=>exact⟨fun _=>by rw[aS.1];rfl,fun h=>by omega⟩
 |1,aS=>exact⟨fun _=>by rw[aS.1];rfl,fun h=>by omega⟩
 |2,aS=>exact⟨fun _=>by rw[aS.1];rfl,fun h=>by omega⟩
 |3,aS=>exact⟨fun _=>by rw[aS.1];rfl,fun h=>by omega⟩
 |k+4,aS=>exact⟨fun h=>by omega,fun _=>by rw[aS.1];rfl⟩
def anv {p:aF8} {w:bQ} (aZ:tp p 0 w):cz prog 24 [ap 1401] (cS w) [] (X:={w':bQ//tp p 4 w'}) (fun _=>gU) (fun g=>cS g.1):=by
 refine hR [3] func24 ?_;refine ed [3] (X:=Nat×bQ) (fun x=>[(0,ap 1401),(2,ab (x.1:Nat))]) (fun x=>cS x.2) (fun x=>x.1<=4/\tp p x.1 x.2) (fun x=>4 - x.1) (0,w) ⟨ap9 _,aZ⟩ ?_ ?_
 .exact ac.sub aE aE
 rintro⟨k,w⟩ ⟨Z,aZ⟩;have Z:k<=4:=Z;have aZ:tp p k w:=aZ;obtain⟨ka,oL⟩:=anu aZ;refine⟨fun _=>az (amN w) ⟨fun h=>?_,fun h=>?_⟩,fun h=>ap0 (oj h) az7⟩
 .have cl:k < 4:=at0 fun J=>by
   have:=gd h;rw[oL az7] at this;omega
  have iw:=Hm w aZ.ok VT (rl.of az8 az8 az8 rfl) (.inr (.inr (.inr (.inr (.inr (.inr (.inl rfl))))))) rfl rfl;refine bB.hP eC aA0 ⟨_,_,_,fun g=>_,fun g=>_,iw,aE,rfl,fun _=>rfl,fun x=>?_⟩;obtain⟨⟨e,w'⟩,aw⟩:=x;refine⟨az7,(k+1,w'),⟨by show k+1<=4;omega,ann aZ aw⟩,by show 4 - (k+1) < 4 - k;omega,ac.sub aE aE⟩
 .have cl:k=4:=at0 fun J=>by
   have:=oj h;rw[ka az7] at this;omega
  subst cl;exact⟨⟨w,aZ⟩,_,_,_,bu,rfl,trivial,aE,rfl⟩
def anw:Fn prog 6 [] [] [] (gT true) []:=by
 have Nt:=V' (n:=3) az8 az8;refine aU [1,2,4,5,6,7] func6 ?_;refine bB.hP eC aA0 ⟨_,_,_,fun g=>_,fun g=>_,Nt,trivial,rfl,fun _=>rfl,fun x=>?_⟩;obtain⟨w,cV⟩:=x;refine bx [4,5,6,7] (cH [(1,ap 1401)] (cS w)) ?_;have E:=Ns w cV.ok VS (rl.of az8 az8 az8 rfl) (.inl rfl) rfl;obtain⟨aq,⟨p,db,lb,a,b,hw⟩,_,_⟩:=cV;refine bB.hP eC aA0 <| mN ((ant 97 az8 az8).x) fun _=>⟨_,_,_,fun g=>_,fun g=>_,E,aE,rfl,fun _=>rfl,fun x=>?_⟩
 obtain⟨⟨af,cp⟩,aw⟩:=x;have wq:=aq.step aw;rw[hw] at aw;obtain⟨g3,io,f3,l8,f5⟩:=anl aw;have wq:eQ cp:=wq;have g3:cp.z=1:=g3;have io:cp.L=tn p:=io;have f3:cp.aX=hd:=f3;have l8:cp.bL= .no:=l8;have f5:cp.Q=[]:=f5;have G:=Hm cp wq No (rl.of az8 az8 az8 rfl) (.inr (.inr (.inr (.inr (.inr (.inl rfl)))))) rfl rfl;refine bB.le (cH [(1,ap 1401)] (cS cp)) <| bB.hP eC aA0 ⟨_,_,_,fun g=>_,fun g=>_,G,aE,rfl,fun _=>rfl,fun x=>?_⟩;obtain⟨⟨al,dK⟩,tN⟩:=x;have aZ:tp p 0 dK:=anm wq g3 io f3 l8 f5 tN;have U:=anv aZ;refine bB.le (cH [(1,ap 1401)] (cS dK)) <| bB.hP eC aA0 ⟨_,_,_,fun g=>_,fun g=>_,U,aE,rfl,fun _=>rfl,fun x=>?_⟩;obtain⟨w,aZ⟩:=x;have aZ:tp p 4 w:=aZ;have rE:w.Q=[sj]:=aZ.V7.2;have aY:=aZ.ok.q.tonW;have eu:=Fn.nG (b:=w.lb) [1002] 1301 (ai' aY [120]);have anx:ta w.Q [120]=0:=by rw[rE];exact ani
 have anz:(Aj w.Q [120]).length=96/\fi (Aj w.Q [120]) 0=some 97:=by rw[rE];exact anj
 rw[anx] at eu;obtain⟨r1,r2⟩:=anz;generalize Aj w.Q [120]=bn at eu r1 r2;refine bx [] (cH [(1,ap 1401)] (cS w)) <| az (VW w) ⟨fun _ _=>az (VW w) <| az eu <| gV ?_,fun h=>aA7⟩;have SR:decide ((bn.length:Int)=96)=true:=by rw[r1];rfl
 exact⟨fun _=>⟨az8,(97:UInt8),r2,bd⟩,fun h=>Bool.noConfusion (SR.symm.trans h)⟩
abbrev Du (x:iV):d3:=⟨0,tq x,0,ig x,[],[],[]⟩
abbrev Hn (x:iV):d3:=⟨lZ x,0,9,[],ni x,[],[]⟩
def qg (k:Int):Bool:=decide (k=3)||(decide (5<=k)&&decide (k<=9))
def Wa (w:bQ) (x:iV) (w':bQ):Prop:=
 ∃cp,((0 < (ig x).length/\ ∃e,fB w (Du x) e cp)\/((ig x).length=0/\cp=w))/\((qg (lZ x)=true/\ ∃e,fB cp (Hn x) e w')\/(qg (lZ x)=false/\w'=cp))
def Wb {k:Int} (h:qg k=true):k=3\/k=5\/k=6\/k=7\/k=8\/k=9:=by unfold qg at h;simp only[au3,ao8,as1] at h;omega
abbrev Wc (w:bQ) (x:iV):av:=cS w++[(3,.cells (Nr x))]
abbrev Wd:aW:=[(0,ap 1401),(3,ap 3)]
def anA (w:bQ) (aq:eQ w) (x:iV) (O:(ig x).length<=1000000) (hn:(ni x).length<=1000000):cz prog 9 [ap 1401,ano x] (cS w) [] (X:={w':bQ//Wa w x w'}) (fun _=>gU) (fun g=>cS g.1):=by
 have hw:=Ns w aq (Du x) (rl.of O (ap9 _) (show(0:Int)<=9223372036854775807 by decide) rfl) (.inl rfl) rfl
 have tail: ∀cp:bQ,eQ cp->(qg (lZ x)=true->cz prog 8 (VU (Hn x)) (cS cp) [] (X:=ng (fB cp (Hn x))) (fun p=>ab p.1.1) (fun p=>cS p.1.2)):=fun cp E aV=>
  Hm cp E (Hn x) (rl.of (ap9 _) hn (show(9:Int)<=9223372036854775807 by decide) rfl) (by have:=Wb aV;show Hl (lZ x);unfold Hl;omega) rfl rfl
 refine hR [2,3,4] func9 ?_;refine⟨rfl,?_⟩;refine⟨fun h=>?C6,fun h=>?C7⟩
 case' C6=>
  have br:0 < (ig x).length:=by
   have h:decide ((0:Int) < ((ig x).length:Nat))=true:=h;have:=gd h;omega
  refine bB.hP eC aA0 <| mN hw fun g=>?_
  obtain⟨⟨e,cp⟩,aw⟩:=g;have wq:eQ cp:=aq.step aw;have ay:(0 < (ig x).length/\ ∃e,fB w (Du x) e cp)\/((ig x).length=0/\cp=w):=.inl ⟨br,e,aw⟩;refine bx [4] (cH Wd (Wc cp x)) ?_
 case' C7=>
  have br:(ig x).length=0:=by
   have h:decide ((0:Int) < ((ig x).length:Nat))=false:=h;have:=oj h;omega
  obtain⟨cp,wq,ay,rK⟩: ∃cp,eQ cp/\((0 < (ig x).length/\ ∃e,fB w (Du x) e cp)\/((ig x).length=0/\cp=w))/\cp=w:=⟨w,aq,.inr ⟨br,rfl⟩,rfl⟩;refine bx [4] (ac.sub (K':=Wd) (B':=Wc cp x) aE (by rw[rK];exact aE)) ?_
 all_goals
  clear hw;refine⟨fun cy=>?_,fun cy=>?_⟩
  .have cy:decide (lZ x=3)=true:=cy;have aV:qg (lZ x)=true:=by unfold qg;rw[cy];rfl
   have H:=tail cp wq aV;refine bB.hP eC aA0 <| mN H fun g=>?_
   obtain⟨⟨e,w'⟩,aw⟩:=g;exact⟨⟨w',cp,ay,.inl ⟨aV,e,aw⟩⟩,_,_,_,bu,rfl,trivial,aE,rfl⟩
  .have cy:decide (lZ x=3)=false:=cy;refine⟨fun cu=>?_,fun cu=>?_⟩
   .have cu:decide (5<=lZ x)=true:=cu;refine⟨fun gl=>?_,fun gl=>?_⟩
    .have gl:decide (lZ x<=9)=true:=gl;have aV:qg (lZ x)=true:=by unfold qg;rw[cy,cu,gl];rfl
     have H:=tail cp wq aV;refine bB.hP eC aA0 <| mN H fun g=>?_
     obtain⟨⟨e,w'⟩,aw⟩:=g;exact⟨⟨w',cp,ay,.inl ⟨aV,e,aw⟩⟩,_,_,_,bu,rfl,trivial,aE,rfl⟩
    .have gl:decide (lZ x<=9)=false:=gl;have aV:qg (lZ x)=false:=by unfold qg;rw[cy,cu,gl];rfl
     exact⟨⟨cp,cp,ay,.inr ⟨aV,rfl⟩⟩,_,_,_,bu,rfl,trivial,aE,rfl⟩
   .have cu:decide (5<=lZ x)=false:=cu;have aV:qg (lZ x)=false:=by unfold qg;rw[cy,cu];rfl
    exact⟨⟨cp,cp,ay,.inr ⟨aV,rfl⟩⟩,_,_,_,bu,rfl,trivial,aE,rfl⟩
end
section
open Go.RowKit Go.Proofs Go.Maps Go.Shelf Go.MapKept _root_.Go.Proofs.Tryz Tryz
open Go.WideElems (Fit rd rg pl rd_val rd_key rg_of)
def anB (es:aE1):Fn prog 170 [.c (.one (.mp 1001))] [(1001,.map aj dL es)] [2001] (.c (.one (.cW 229 [.p 2001 0]))) [(2001,.cells [.mp 1001]),(1001,.map aj dL es)]:=by refine aU [] func170 ?_;exact⟨rfl,_,_,_,ac.a7 1 2001 rfl,rfl,rfl,aE,rfl⟩
def anC (es:aE1) (hn:(e8 es).Nodup) (ak: ∀s∈e8 es,(Lit.int .i64 s).wf=true) (ax:es.length<=4294967296):
  Fn prog 169 [.c (.one (.cW 229 [.p 2001 0]))] [(2001,.cells [.mp 1001]),(1001,.map aj dL es)] [] (b0 aj (kC (e8 es))) [(2001,.cells [.mp 1001]),(1001,.map aj dL es)]:=by
 refine⟨aA0,fun ρ F I w bW aZ c9 bj ew bZ dz=>?_⟩
 match bW,bZ with
 | [v],_=>
  obtain⟨aB,ay,gq,r,hm,lO,aw⟩:=dz 0 _ v rfl rfl;have aw:r=[]:=aw;have lO:gq= .pointer (some ⟨(ρ 2001).bh,0,none⟩):=lO;subst aw lO hm ay;obtain⟨_,aB,T,jd,hm⟩:=c9 2001 _ rfl;obtain⟨x,r,hm,hx,aw⟩:=hm;have aw:r=[]:=aw;have hx:x= .map (some (ρ 1001).bh):=hx;subst aw hx hm;obtain⟨_,bP,bU,iZ,aD,dh⟩:=c9 1001 _ rfl;have Fx:(4294967296:Nat)<=maxLen:=by decide
  obtain⟨jj,dP,cL,oB⟩:=FV (P:=prog) (k:=3) aA0 iZ aD dh hn ak az7;have br:(ρ 2001).bh < w.heap.size:=l0 jd
  have un:SeqGives Fence.wide 2 prog 229 #[.pointer (some ⟨(ρ 2001).bh,0,none⟩)] Go.encZ (fun gY=>gY.Perm (intKeys jj)) (Maps.size jj) w:=
   AnyZI.keys_gives (ρ:=Qj) {aca with} Fence.wide _ trivial rfl az7 (ρ 2001).bh (ρ 1001).bh es.length jj w br (od jd rfl) dP
  have J:=AnyZI.sorted_in Jy Fence.wide 5 trivial trivial trivial trivial rfl az7 (LB _) (enters_of func228 aA0 rfl) 229 #[.pointer (some ⟨(ρ 2001).bh,0,none⟩)] trivial (enters_of func229 aA0 rfl) _ _ aC2 aC2 _ un;refine(callsIn_wide.1 J).mono ?_;rintro e w' ⟨v,gY,rfl,ar,fN,zI,gx⟩;have a2:cj I w (fun b=>b < w'.heap.size/\(I b\/w.heap.size<=b)) w':=fun b ia=>⟨⟨aq8 (aZ b ia) gx.size,.inl ia⟩,gx.block b (aZ b ia)⟩
  refine⟨v,ρ,F,rfl,cR.qh gx,fun _ _=>rfl,_,a2,fun b h=>⟨h.1,h.2.imp id .inr⟩,fun c ch J=>Holds.cg a2 (fun b O=>gx.block b (bj c ch J b O).1) gx.size ch (fun _ _=>rfl) (c9 c ch J),fun c ch J b O=>?_,fun c ck ch ch' b E G=>ew c ck ch ch' b E G,?_⟩
  .have:=bj c ch J b O;exact⟨aq8 this.1 gx.size,fun h=>(by rcases h.2 with h |h;exact this.2 h;omega),.inl ⟨c,ch,J,O⟩⟩
  .have Z:gY.mergeSort (fun x y=>decide (x<=y))=kC (e8 es):=Go.mergeSort_of_perm_i (ar.trans oB);rw[Z] at fN;have h6:=hy.sk fN;have vG:gY.length=(kC (e8 es)).length:=by rw[<-Z,List.length_mergeSort]
   rw[vG] at h6;exact(h6.yk fun i _ aG=>(fN.lt i aG).1).FW fun b E G=>⟨E,.inr G⟩
section
variable {t:aF9} {es:aE1}
def ts (es:aE1) (c:Nat):d7:=(fK es ((c/16:Nat):Int)).getD (c % 16) b7
def nj (es:aE1) (aF:aE5) (m:Nat):List Int:=((List.range m).map (ts es)).foldl iu aF
def We (aF:aE5) (m:Nat):nj es aF (m+1)=iu (nj es aF m) (ts es m):=by unfold nj;rw[List.range_succ,au2,ax4];rfl
def Wf {l:aE5} {q:d7} (h:q.1=0):iu l q=l:=mu az7
def Nu (aF:aE5) {a b:Nat} (MY:a<=b) (h: ∀c,a<=c->c < b->ts es c=b7):nj es aF b=nj es aF a:=by
 obtain⟨k,rfl⟩:=Nat.exists_eq_add_of_le MY
 induction k with
 |zero=>rfl
 |succ k bl=>
  rw[<-Nat.add_assoc,We,h (a+k) az7 az7,Wf rfl];exact bl az7 fun c E G=>h c E az7
def anD (eu:jM t es) (aF:aE5):nj es aF t.length=t.foldl iu aF:=by
 have e:(List.range t.length).map (ts es)=t:=by
  apply List.ext_getElem (by rw[aq3,List.length_range]);intro i E G;rw[List.getElem_map,List.getElem_range];exact eu.at_ i G
 unfold nj;rw[e]
def fC (es:aE1):List Int:=kC (e8 es)
def Wg (eu:jM t es):(e8 es).Nodup:=by
 have h:=eu.ho;unfold e8 List.Nodup;rw[List.pairwise_map]
 exact h.imp fun {p q} h e=>by
  rw[(oW p.1 q.1).2 e] at h
  cases h
def Ho (eu:jM t es) {q:Int} (h:q∈fC es): ∃j:Nat,q=(j:Int)/\16*j < t.length:=by have h:=(uz _).mem_iff.1 h;obtain⟨p,ao,rfl⟩:=ar6.1 h;exact eu.zm p ao
def Hp (eu:jM t es) {i j:Nat} (aG:i < (fC es).length) (V:j < (fC es).length) (gf:i < j):(fC es)[i] < (fC es)[j]:=by have E:=SM (e8 es);have G:(kC (e8 es)).Nodup:=(uz _).nodup_iff.2 (Wg eu);have ag:=List.pairwise_iff_getElem.1 E i j aG V gf;have aS:=List.pairwise_iff_getElem.1 G i j aG V gf;have ag:(fC es)[i]<=(fC es)[j]:=gd ag;have aS:(fC es)[i]≠(fC es)[j]:=aS;omega
def anE (eu:jM t es) (cq:t.length<=256):(fC es).length<=16:=by
 have E: ∀i (h:i < (fC es).length),(i:Int)<=(fC es)[i]:=fun i=>by
  induction i with
  |zero=>
   intro h;obtain⟨q,aY,_⟩:=Ho eu (ar4 h);omega
  |succ i bl=>
   intro h;have:=bl az7;have:=Hp eu (i:=i) (j:=i+1) az7 h az7;omega
 by_cases h:(fC es).length=0
 .omega
 .have G:=E ((fC es).length - 1) az7;obtain⟨q,aY,ag⟩:=Ho eu (ar4 (show(fC es).length - 1 < (fC es).length by omega));omega
def anF {c:Nat} (h:((c/16:Nat):Int)∉fC es):ts es c=b7:=by
 have au:bV (aI:=aj) (aK:=dL) es ((c/16:Nat):Int)=none:=Jk oW fun p ao=>by
  cases e:fD aj p.1 ((c/16:Nat):Int) with
  |false=>rfl
  |true=>
   have e:p.1=((c/16:Nat):Int):=(oW _ _).1 e;exact ap0 ((uz _).mem_iff.2 (ar6.2 ⟨p,ao,e⟩)) h
 unfold ts fK;rw[au];exact JX _
def Dv (t:aF9) (es:aE1) (k:Nat):Nat:=if h:k < (fC es).length then 16*(fC es)[k].toNat else t.length
def Hq (es:aE1):Nat->Nat
 |0=>0
 |k+1=>if h:k < (fC es).length then 16*(fC es)[k].toNat+16 else 0
def anG (eu:jM t es) (aF:aE5) {k:Nat} (Z:k<=(fC es).length):nj es aF (Dv t es k)=nj es aF (Hq es k):=by
 have dW: ∀c,Hq es k<=c->(∀h:k < (fC es).length,c < 16*(fC es)[k].toNat)->ts es c=b7:=fun c E G=>anF fun aD=>by
  obtain⟨j,V,e⟩:=aw4 aD
  by_cases jc:j < k
  .obtain⟨k,rfl⟩: ∃i,k=i+1:=⟨k - 1,az7⟩;have cl:k < (fC es).length:=aA5
   have ag:(fC es)[j]<=(fC es)[k]:=by
    by_cases al:j=k
    .subst al;exact Int.le_refl _
    .exact Int.le_of_lt (Hp eu V cl az7)
   have E:(if h:k < (fC es).length then 16*(fC es)[k].toNat+16 else 0)<=c:=E;rw[dif_pos cl] at E;omega
  .have cl:k < (fC es).length:=aA5
   have ag:(fC es)[k]<=(fC es)[j]:=by
    by_cases al:k=j
    .subst al;exact Int.le_refl _
    .exact Int.le_of_lt (Hp eu cl V az7)
   have:=G cl;omega
 unfold Dv
 by_cases cl:k < (fC es).length
 .rw[dif_pos cl];refine Nu aF ?_ fun c E G=>dW c E fun _=>G
  cases k with
  |zero=>exact ap9 _
  |succ k=>
   have ag:=Hp eu (i:=k) (j:=k+1) az7 cl az7;obtain⟨q,aY,_⟩:=Ho eu (ar4 (by omega:k < (fC es).length));show(if h:k < (fC es).length then 16*(fC es)[k].toNat+16 else 0)<=_;rw[dif_pos az7];omega
 .rw[dif_neg cl]
  by_cases aS:Hq es k<=t.length
  .exact Nu aF aS fun c E _=>dW c E fun h=>ap0 h cl
  .exact(Nu aF az7 fun c E _=>eu.fL c E).symm
end
end
section
abbrev Hr (n:Int) (es:aE1) (o:bc):av:=mq n es++[(2001,.cells [.ptr 1001 0]),(1009,.aA o)]
abbrev Wh (y:Nat) (ks:aE5) (k:Nat):aW:=[(0,vB y),(1,ap 2001),(12,b0 aj ks),(13,ab (ks.length:Nat)),(14,ab (k:Nat))]
abbrev Wi (y:Nat) (ks:aE5) (k:Nat) (q:Nat) (g:aF9) (i:Nat):aW:=Wh y ks k++[(4,ab (q:Nat)),(23,.c (.agg (fE dL g 0 48))),(24,ab (i:Nat))]
abbrev anH (y:Nat) (ks:aE5) (k:Nat) (q:Nat) (g:aF9) (i:Nat):aW:=Wi y ks k q g i++[(5,ab (i:Nat)),(6,ap 6)]
def Hs (g:aF9):AY (fE dL g 0 48) (fE dL g 0 48):=aE
def anI (y:Nat) {t:aF9} {es:aE1} (eu:jM t es) (cq:t.length<=256) (aF:aE5) (dq:List Int->bc)
  (aC: ∀c (h:c < t.length),(t[c]).1≠0->sL prog y [ab (c:Int),.c (mU t[c])] [(1009,.aA (dq (nj es aF c)))] (fun _:Unit=>oa true) (fun _=>[(1009,.aA (dq (iu (nj es aF c) t[c])))])):
  Fn prog 168 [vB y,ap 2001] (Hr (t.length:Nat) es (dq aF)) [] (.cm []) (mq (t.length:Nat) es++[(1009,.aA (dq (nj es aF t.length)))]):=by
 have dx:=Wg eu
 have mT: ∀s∈e8 es,(Lit.int .i64 s).wf=true:=fun s ax=>by
  obtain⟨p,ao,rfl⟩:=ar6.1 ax;obtain⟨j,E,G⟩:=eu.zm p ao;have e:Se p=(j:Int):=E;rw[e];exact QG az7
 have bZ:(fC es).length<=16:=anE eu cq
 have y2:es.length=(fC es).length:=by
  show _=(kC (e8 es)).length;rw[(uz _).length_eq];exact(aq3 ..).symm
 have ax:=anC es dx mT az7;have ax:Fn prog 169 [.c (.one (.cW 229 [.p 2001 0]))] [(2001,.cells [.mp 1001]),(1001,.map aj dL es)] [] (b0 aj (fC es)) [(2001,.cells [.mp 1001]),(1001,.map aj dL es)]:=ax;have cT:=fun i h=>Ho eu (ar4 (l:=fC es) (n:=i) h)
 have aV:=fun k h=>anG eu aF (k:=k) h
 have dh: ∀k (h:k < (fC es).length),Dv t es k=16*(fC es)[k].toNat:=fun k h=>dif_pos h
 have Wj:Dv t es (fC es).length=t.length:=dif_neg (az5 _);have a2: ∀k (h:k < (fC es).length),Hq es (k+1)=16*(fC es)[k].toNat+16:=fun k h=>dif_pos h
 generalize fC es=ks at ax cT aV dh Wj a2 bZ;refine aU [6] func168 ?_;refine az (Fn.a7 [(1001,1002),(2001,2002)] (anB es)) <| az (Fn.a7 [(1001,1002),(2001,2002)] ax) <| ed [6] (X:=Nat) (Wh y ks) (fun k=>Hr (t.length:Nat) es (dq (nj es aF (Dv t es k)))) (fun k=>k<=ks.length) (fun k=>ks.length - k) 0 (ap9 _) ?_ ?_
 .exact ac.sub aE ⟨rfl,rfl,rfl,ap1 (fun x=>some (ba.aA (dq x))) (aV 0 (ap9 _)).symm,trivial⟩
 intro k Z;have Z:k<=ks.length:=Z;refine⟨fun h=>?_,fun h=>?_⟩
 .have cl:k < ks.length:=by
   have h:decide ((k:Int) < (ks.length:Int))=true:=h;simpa using h
  obtain⟨q,aY,ao4⟩:=cT k cl;have Nv:=dh k cl;have Nw:=a2 k cl;have Jq:=aV (k+1) cl;rw[aY] at Nv Nw;rw[ax9] at Nv Nw;rw[Nv];refine⟨az7,ks[k],j2 (n:=k) cl,?_⟩;rw[aY];refine ed [6] (X:=Nat) (fun i=>Wi y ks k q (fK es ((q:Nat):Int)) i) (fun i=>Hr (t.length:Nat) es (dq (nj es aF (16*q+i)))) (fun i=>i<=16) (fun i=>16 - i) 0 (ap9 _) ?_ ?_
  .exact ac.sub ⟨rfl,rfl,rfl,rfl,rfl,rfl,Hs _,rfl,trivial⟩ aE
  intro i aG;have aG:i<=16:=aG;refine⟨fun h=>?_,fun h=>?_⟩
  .have dC:i < 16:=by
    have h:decide ((i:Int) < 16)=true:=h;have:=gd h;omega
   have b4:ts es (16*q+i)=(fK es ((q:Nat):Int)).getD i b7:=by
    unfold ts;rw[show(16*q+i)/16=q by omega,show(16*q+i) % 16=i by omega]
   obtain⟨QK,xp,zn⟩: ∃i,prog.info? 176=some i/\i.size=3:=by
    have:=JW
    cases e:prog.info? 176 with
    |none=>rw[e] at this;cases this
    |some i=>rw[e] at this;exact⟨i,rfl,by simpa using this⟩
   refine bo (fun N=>Qy (n:=16) (e:=176) (u:=qI) (g:=fK es ((q:Nat):Int)) (j:=(i:Int)) rfl underlying261 underlying176 rfl xp zn rfl rfl az7 az7 N) ?_;refine⟨rfl,?_⟩;have qS:=We (es:=es) aF (16*q+i);rw[b4] at qS;have iQ:=fun h=>eu.at_ (16*q+i) h
   have lG:=fun h=>eu.fL (16*q+i) h
   rw[show(16*q+i)/16=q by omega,show(16*q+i) % 16=i by omega] at iQ lG;have ws:=fun h=>aC (16*q+i) h
   rw[show(((16*q+i:Nat)):Int)=(q:Int)*16+(i:Int) by omega] at ws;have bI:List.getD (fK es ((q:Nat):Int)) ((i:Int)).toNat (cM qI)=(fK es ((q:Nat):Int)).getD i b7:=rfl;have ao5:q<=256:=aA5
   refine bB.le (ac.sub (K':=anH y ks k q (fK es ((q:Nat):Int)) i) (B':=(6,.cells (o1 ((fK es ((q:Nat):Int)).getD i b7)))::Hr (t.length:Nat) es (dq (nj es aF (16*q+i)))) ⟨rfl,rfl,rfl,rfl,rfl,rfl,Hs _,rfl,rfl,rfl,trivial⟩ aE) ?_;generalize(fK es ((q:Nat):Int)).getD i b7=x at*;refine bB.hP eC aA0 ⟨fun J=>?_,fun J=>?_⟩
   .have J: ¬x.1=0:=by
     have J:(!decide (x.1=0))=true:=J;simpa using J
    have br:16*q+i < t.length:=at0 fun h=>J (by rw[lG az7])
    have ws:=ws br;rw[<-iQ br] at ws;have ws:=ws J;rw[<-qS] at ws;refine⟨⟨az7,az7⟩,⟨az7,az7⟩,Unit,_,_,_,ws,aE,fun _=>rfl,fun _=>?_⟩;refine⟨az7,i+1,by show i+1<=16;omega,by show 16 - (i+1) < 16 - i;omega,ac.sub ⟨rfl,rfl,rfl,rfl,rfl,rfl,Hs _,rfl,trivial⟩ aE⟩
   .have J:x.1=0:=by
     have J:(!decide (x.1=0))=false:=J;simpa using J
    rw[Wf J] at qS;refine⟨az7,i+1,by show i+1<=16;omega,by show 16 - (i+1) < 16 - i;omega,ac.sub ⟨rfl,rfl,rfl,rfl,rfl,rfl,Hs _,rfl,trivial⟩ ⟨rfl,rfl,rfl,ap1 (fun x=>some (ba.aA (dq x))) qS.symm,trivial⟩⟩
  .have nQ:i=16:=by
    have h:decide ((i:Int) < 16)=false:=h;have:=oj h;omega
   subst nQ;refine⟨az7,k+1,by show k+1<=ks.length;omega,by show ks.length - (k+1) < ks.length - k;omega,ac.sub aE ⟨rfl,rfl,rfl,ap1 (fun x=>some (ba.aA (dq x))) (by rw[Jq,Nw]),trivial⟩⟩
 .have fO:k=ks.length:=by
   have h:decide ((k:Int) < (ks.length:Int))=false:=h;have:=oj h;omega
  subst fO;rw[Wj];exact bd
def anJ {t:aF9} {es:aE1} (eu:jM t es) (aF:aE5) {c:Nat} (J:c<=t.length):nj es aF c=(t.take c).foldl iu aF:=by
 have e:(List.range c).map (ts es)=t.take c:=by
  apply List.ext_getElem (by rw[aq3,List.length_range,aq0];omega);intro i E G;rw[List.getElem_map,List.getElem_range,List.getElem_take];exact eu.at_ i (by rw[aq0] at G;omega)
 unfold nj;rw[e]
def anK (y:Nat) {t:aF9} (cq:t.length<=256) (aF:aE5) (dq:List Int->bc)
  (aC: ∀c (h:c < t.length),(t[c]).1≠0->sL prog y [ab (c:Int),.c (mU t[c])] [(1009,.aA (dq ((t.take c).foldl iu aF)))] (fun _:Unit=>oa true) (fun _=>[(1009,.aA (dq (iu ((t.take c).foldl iu aF) t[c])))])):
  Fn prog 168 [vB y,ap 2001] [(1001,.aA (lL t)),(2001,.cells [.ptr 1001 0]),(1009,.aA (dq aF))] [] (.cm []) [(1001,.aA (lL t)),(1009,.aA (dq (t.foldl iu aF)))]:=
 Fn.BN (qD:=fun es:{es//jM t es}=>.iz 1001 (mq (t.length:Nat) es.1)) aA0 (fun _ _ _ _ ⟨es,h,aV⟩=>⟨⟨es,h⟩,aV⟩) fun es=>by
  have h:=anI y es.2 cq aF dq fun c h J=>by
   rw[anJ es.2 aF az7];exact aC c h J
  rw[anD es.2] at h;exact Fn.close [1002] h (fun _ _ _ _ h=>h) (fun _ _ _ _ h=>⟨es.1,es.2,h⟩) rfl rfl
def anL (t:aF9):Fn prog 103 [ap 1001] [(1001,.aA (lL t))] [2001] (.c (.one (.cW 168 [.p 2001 0]))) [(1001,.aA (lL t)),(2001,.cells [.ptr 1001 0])]:=by refine aU [] func103 ?_;exact⟨rfl,_,_,_,ac.a7 1 2001 rfl,rfl,rfl,aE,rfl⟩
def anM (l:aE5):Fn prog 43 [ap 1001] (lq l) [] (ab (l.length:Nat)) (lq l):=by refine aU [] func43 ?_;exact bd
def Wk (l:aE5):Fn prog 43 [ap 1001] [(1001,.aA (ju l))] [] (ab (l.length:Nat)) [(1001,.aA (ju l))]:=
 Fn.close [1002] (anM l) (fun _ _ _ _ h=>h) (fun _ _ _ _ h=>h) rfl rfl
def anN (l:aE5) (h:Nat) (bf:h < l.length):Fn prog 44 [ap 1001,ab (h:Int)] (lq l) [] (ab l[h]) (lq l):=by
 refine aU [] func44 ?_;refine az (QU l h) ⟨fun J=>?_,fun _=>?_⟩
 .have J:(!(decide ((0:Int)<=(h:Int))&&decide ((h:Int) < (l.length:Int))))=true:=J;rw[aq1 (show(0:Int)<=(h:Int) by omega),aq1 (show(h:Int) < (l.length:Int) by omega)] at J
  cases J
 .have m:(0:Int)<=(h:Int)/\(h:Int) < (l.length:Nat):=aA5
  exact⟨m,l[h],j2 (n:=h) bf,bd⟩
def anO (l:aE5) (h:Nat) (bf:h < l.length):Fn prog 44 [ap 1001,ab (h:Int)] [(1001,.aA (ju l))] [] (ab l[h]) [(1001,.aA (ju l))]:=
 Fn.close [1002] (anN l h bf) (fun _ _ _ _ h=>h) (fun _ _ _ _ h=>h) rfl rfl
def anP (s:bA) (ak:s.l.length<=1000000):Fn prog 42 [ap 1001] (c8 s) [2001] (ap 2001) (c8 s++[(2001,.aA (ju s.l))]):=by refine aU [] func42 ?_;exact az (Fn.a7 [(1001,1003),(2001,2001)] (am4 s.l ak)) bd
abbrev Wl (n:Int) (a:Nat):List bw:=[.d (.int .i64 n),.d (.aM (some a)),.ptr 1003 0,.mp 1004,.dc]
abbrev Nx (s:bA) (a:Nat):av:=[(1001,.cells (Wl s.z a)),(1003,.aA (ju s.l)),(1004,.aA (lo s.f))]
def anQ (s:bA) (a:Nat):Fn prog 102 [ap 1001] (Nx s a) [] (b0 .aM [some a]) (Nx s a):=by
 refine aU [] func102 ?_;refine ed [] (X:=Unit) (fun _=>[(0,ap 1001),(3,b0 .aM [some a]),(14,.c (.one .dc)),(15,ab 0),(16,ab 0)]) (fun _=>Nx s a) (fun _=>True) (fun _=>0) () trivial ?_ ?_
 .exact ac.sub aE aE
 intro _ _;exact dR bd
def ac.anR {ids:aD3} {K:aW} {B:av} (c j d m b:Nat) {l:List bw} (J:ae B c=some (.cells l)) (V:l[j]? =some (.d (.aM (some b)))) (aD:ae B m=some (.bY d (eO b))):ac ids K B K ((c,.cells (l.set j (.ptr d 0)))::B):=by
 rintro N C a w ⟨hn,H,ρ,F,ah,ar⟩;have O:=ou (N:=N) (a:=a) ah aD
 obtain⟨bK,a2⟩:=ah.hz (w':=w) (ch:=.cells (l.set j (.ptr d 0))) J (cR.refl _ _) fun I aZ=>by
  obtain⟨E,aB,T,G,ag⟩:=ah.holds c _ J;refine⟨E,aB,T,G,cb.set (s:=.d (.aM (some b))) (t:=.ptr d 0) (fun v h=>?_) V (cb.mono aZ _ _ (fun _ _=>rfl) ag)⟩;have h:v= .pointer (some ⟨b,0,none⟩):=h;rw[<-O] at h;exact h
 exact⟨hn,H,ρ,F,bK,ar.mono a2 fun _ _ _=>rfl⟩
abbrev Ny (s:bA) (a:Nat) (acc:aE5):av:=[(1001,.cells (Wl s.z a)),(1003,.aA (ju s.l)),(1004,.aA (lo s.f)),(9001,.bY 1002 (eO a)),(3,.cells [.own 5002]),(5002,.row 3 aj acc)]
abbrev Nz (a k:Nat):aW:=[(0,ap 1001),(3,ap 3),(15,b0 .aM [some a]),(16,ab 1),(17,ab (k:Nat))]
abbrev Wm (s:bA):av:=[(1002,.aA (lL s.t)),(2002,.cells [.ptr 1002 0])]
def anS (s:bA):Nat->List Int
 |0=>List.replicate s.l.length 0
 |_=>Ds s
def anT {s:bA} (aq:e6 s) {c:Nat} (J:c<=s.t.length):((s.t.take c).foldl iu (List.replicate s.l.length 0)).length=s.l.length:=(Hi aq c J).1
open Classical in
def anU {s:bA} (aq:e6 s) {c:Nat} (J:c<=s.t.length) {k:Nat} (Z:k < s.l.length): ∃x,((s.t.take c).foldl iu (List.replicate s.l.length 0))[k]? =some x/\0<=x/\x<=1:=by
 refine⟨_,(Hi aq c J).2 k Z,?_⟩
 split <;>decide
def anV (s:bA) (aq:e6 s) (ak:s.l.length<=1000000):Fn prog 46 [ap 1001] (c8 s) [2001] (eX 2001) (c8 s++[(2001,.row 3 aj (Ds s))]):=by
 refine aU [1,5,10] func46 ?_;refine bB.fJ (du.mark 1002 9001 rfl az8) fun a=>bB.le (ac.G9 1001 1 1002 9001 a rfl rfl rfl) <| bx [5,10] (bu) <| az (Fn.a7 [(1001,1003)] (Wk s.l)) ?_
 obtain⟨c',i1,i2,i3,i4⟩:=info_parts QS;have anW:(0:Int)<=(s.l.length:Nat):=aA5
 refine bo (fun N=>QC (d:=5002) rfl underlying42 i1 i2 i3 i4 rfl rfl anW az7 N) ?_;refine⟨rfl,az (anQ s a) ?_⟩;have aO:List.replicate ((s.l.length:Nat):Int).toNat (0:Int)=List.replicate s.l.length 0:=by rw[ax9]
 refine ed [5,10] (X:=Nat) (fun k=>Nz a k) (fun k=>(1002,.aA (lL s.t))::Ny s a (anS s k)) (fun k=>k<=1) (fun k=>1 - k) 0 az8 ?_ ?_
 .exact ac.sub aE ⟨rfl,rfl,rfl,rfl,rfl,rfl,ap1 (fun l=>some (ba.row 3 aj l)) aO,trivial⟩
 intro k Z;have Z:k<=1:=Z;refine⟨fun h=>?_,fun h=>?_⟩
 .have cl:k=0:=by
   have h:decide ((k:Int) < 1)=true:=h;have:=gd h;omega
  subst cl;refine⟨az7,some a,rfl,bB.le (ac.E5 5 1002 9001 a rfl rfl) <| bx [10] (bu) <| az (Fn.a7 [(1001,1002),(2001,2002)] (anL s.t)) <| bB.le (cH ((22,.c (.one (.cW 168 [.p 2002 0])))::Nz a 0) (Wm s++Ny s a (List.replicate s.l.length 0))) ?_⟩
  refine bB.Qu eC [] (pl:=[23,24]) rfl aA0 aA0 aA0 aA0 [1001,1002,1003,1004,3,1009] _ (Nz a 0) (Wm s) (Ny s a) 1009 (List.replicate s.l.length 0) (Ds s)
   (fun acc aB vk=> ∃c,∃h:c < s.t.length,(s.t[c]).1≠0/\acc=(s.t.take c).foldl iu (List.replicate s.l.length 0)/\aB=[ab (c:Int),.c (mU s.t[c])]/\vk=iu acc s.t[c]) [(1002,lL s.t)] rfl rfl aA9 rfl rfl ?_ ?_ ?_
  .rintro acc aB vk ⟨c,J,a6,rfl,rfl,rfl⟩;have bZ:=anT aq (c:=c) az7;have l9:=fun k Z=>anU aq (c:=c) az7 (k:=k) Z
   have h6:=aq.slot c _ (ao7 J);generalize(s.t.take c).foldl iu (List.replicate s.l.length 0)=acc at bZ l9;generalize s.t[c]=q at h6 a6;refine⟨rfl,rfl,rfl,rfl,fun E=>?_,fun E=>?_⟩
   .have E:q.1=1:=gd E;rcases h6 with rfl |rfl |⟨x,rfl,hx,_⟩
    .cases E
    .cases E
    have tM:=(ap6.1 hx).1;obtain⟨v,ay,v0,mH⟩:=l9 x tM;have m1:(0:Int)<=(x:Int)/\(x:Int) < (acc.length:Nat):=aA5
    refine⟨m1,v,ay,az7,m1,?_⟩;refine⟨⟨trivial,by show((x:Int)).toNat < acc.length;omega⟩,?_⟩
    have e:iu acc ((1:Int),(x:Int),true)=acc.set x (v+1):=by
     show(if(1:Int)=1 then acc.set ((x:Int)).toNat ((acc[((x:Int)).toNat]?).getD 0+1) else acc)=_;rw[vj rfl,ax9,ay];rfl
    exact⟨rfl,ac.sub trivial ⟨rfl,rfl,rfl,rfl,rfl,ap1 (fun l=>some (ba.row 3 aj l)) e.symm,trivial⟩⟩
   .have E: ¬q.1=1:=oj E;have e:iu acc q=acc:=mu E;exact⟨rfl,ac.sub trivial ⟨rfl,rfl,rfl,rfl,rfl,ap1 (fun l=>some (ba.row 3 aj l)) e.symm,trivial⟩⟩
  .intro y dq pU aC;exact Fn.a7 [(1001,1002),(2001,2002)] (anK y aq.ez _ dq fun c h J=>aC _ _ _ ⟨c,h,J,rfl,rfl,rfl⟩)
  .refine⟨az7,1,ao9 1,az8,ac.sub aE aE⟩
 .have cl:k=1:=by
   have h:decide ((k:Int) < 1)=false:=h;have:=oj h;omega
  subst cl;exact bB.le (ac.anR 1001 1 1002 9001 a rfl rfl rfl) <| bx [] (bu) ⟨_,_,_,ac.a7 5002 2001 rfl,rfl,rfl,aE,rfl⟩
end
section
abbrev anX (l:aE5) (k:Nat):aW:=[(0,b0 aj l),(1,b0 aj l),(6,.c (.one .dc)),(7,.c (.one .dc)),(10,ab (l.length:Nat)),(11,ab (k:Nat))]
def anY (l:aE5) (ak:l.length<=1000000):Fn prog 45 [b0 aj l,b0 aj l] [] [] (.cm [.one .dc,.one .dc]) []:=by
 refine aU [] func45 ?_;refine ed [] (X:=Nat) (anX l) (fun _=>[]) (fun k=>k<=l.length) (fun k=>l.length - k) 0 (ap9 _) ?_ ?_
 .exact ac.sub aE trivial
 intro k Z;have Z:k<=l.length:=Z;refine⟨fun h=>?_,fun h=>?_⟩
 .have cl:k < l.length:=by
   have h:decide ((k:Int) < (l.length:Int))=true:=h;simpa using h
  have hx:=j2 (n:=k) cl;generalize l[k]=x at hx;have m:(0:Int)<=(k:Int):=aA5
  refine⟨m,x,hx,m,x,hx,eJ aA0,fun h=>ap0 (gd h) (Int.lt_irrefl _),fun _=>⟨m,x,hx,m,x,hx,eJ aA0,fun h=>ap0 (gd h) (Int.lt_irrefl _),fun _=>?_⟩⟩;exact⟨az7,k+1,by show k+1<=l.length;omega,by show l.length - (k+1) < l.length - k;omega,ac.sub aE trivial⟩
 .exact bd
abbrev Dw:List bw:=[.dc,.dc,.dc,.dc]
abbrev NA:aN:=.c (.agg Dw)
def anZ:Fn prog 13 [NA] [] [] (gT true) []:=by refine aU [] func13 ?_;exact⟨rfl,az7,az7,az7,bd⟩
def an0 (s:bA) (aq:e6 s):Fn prog 46 [ap 1001] (c8 s) [] (b0 aj s.l) (c8 s):=by have h:=anV s aq (by have:=aq.ku;omega);rw[am6 aq] at h;exact Fn.dX h rfl rfl
abbrev Wn (l:aE5) (k:Nat):aW:=[(0,ap 1001),(2,ap 2),(3,ap 3),(4,eX 5002),(5,ap 2001),(10,ab (l.length:Nat)),(11,ab (k:Nat))]
abbrev Wo (s:bA) (k r:Nat):av:=c8 s++[(2,.cells Dw),(3,.cells Dw),(2001,.aA (ju s.l)),(r,.row 3 aj (s.l.take k))]
abbrev an1 (s:bA):av:=c8 s++[(2,.cells Dw),(3,.cells Dw),(2001,.aA (ju s.l)),(5002,.row 3 aj s.l)]
def an2 (s:bA) (aq:e6 s):Fn prog 14 [ap 1001] (c8 s) [] NA (c8 s):=by
 have ak:=aq.ku;refine aU [9] func14 ?_;refine⟨rfl,rfl,az (anP s az7) <| az (Fn.a7 [(1001,2001)] (Wk s.l)) <| ed [9] (X:=Nat) (Wn s.l) (fun k=>Wo s k 5002) (fun k=>k<=s.l.length) (fun k=>s.l.length - k) 0 (ap9 _) ?_ ?_⟩
 .exact ac.trans (ac.nil 4 5002 3 aj rfl rfl) (ac.sub aE aE)
 intro k Z;have Z:k<=s.l.length:=Z;refine⟨fun h=>?_,fun h=>?_⟩
 .have cl:k < s.l.length:=by
   have h:decide ((k:Int) < (s.l.length:Int))=true:=h;simpa using h
  refine az (Fn.a7 [(1001,2001)] (anO s.l k cl)) ?_;have O:(s.l.take k).length+1<=4294967296:=aB8
  refine⟨O,rfl,?_⟩;exact⟨az7,k+1,by show k+1<=s.l.length;omega,by show s.l.length - (k+1) < s.l.length - k;omega,ac.trans (ac.sub (K':=[(0,ap 1001),(2,ap 2),(3,ap 3),(4,eX 19),(5,ap 2001),(10,ab (s.l.length:Nat)),(11,ab ((k+1:Nat):Int))]) (B':=Wo s (k+1) 19) aE ⟨rfl,rfl,rfl,rfl,rfl,rfl,rfl,ap1 (fun l=>some (ba.row 3 aj l)) (at2 cl).symm,trivial⟩) (ac.a7 19 5002 rfl)⟩
 .have fO:k=s.l.length:=by
   have h:decide ((k:Int) < (s.l.length:Int))=false:=h;have:=oj h;omega
  subst fO;exact bx [] (ac.trans (ac.sub (K':=Wn s.l s.l.length) (B':=an1 s) aE ⟨rfl,rfl,rfl,rfl,rfl,rfl,rfl,ap1 (fun l=>some (ba.row 3 aj l)) ar2,trivial⟩) (ac.dX 5002 rfl)) <| az (an0 s aq) <| az (anY s.l az7) bd
end
section
structure nk (n:Nat) (w:bQ):Prop where
 ok:eQ w
 NB:kb w
 bi:w.z=1
 aR:b6 w.L w.aX=n
def nk.step {n:Nat} {w w':bQ} (h:nk n w) {s:d3} {e:Int} (aw:fB w s e w'):nk n w':=
 have cT:=aw.l1 h.ok
 ⟨h.ok.step aw,h.NB.step h.ok aw,cT.bi.trans h.bi,cT.aR.trans h.aR⟩
def nk.len {n:Nat} {w:bQ} (h:nk n w):(gp w).length=32*n:=by rw[Hg h.ok,h.aR,h.bi];omega
def nk.of {n:Nat} {w:bQ} (h:Hj n w):nk n w:=by
 obtain⟨p,db,lb,a,b,hw⟩:=h.e;have V:w.bL= .no:=by rw[hw]
 exact⟨h.ok,kb.no V,by rw[hw],h.aR⟩
def nk.ev {n:Nat} {w w':bQ} (h:nk n w) {x:iV} (O:ig x=[]) (aw:Wa w x w'):nk n w'/\gp w'=gp w:=by
 obtain⟨cp,E,G⟩:=aw
 have af:cp=w:=by
  rcases E with⟨E,_⟩ |⟨_,E⟩
  .rw[O] at E;exact ap0 E (az5 _)
  .exact E
 subst af;rcases G with⟨aV,e,aw⟩ |⟨_,rfl⟩
 .exact⟨h.step aw,V1 h.ok h.NB aw (.inr (.inr (by have:=Wb aV;show 2 < lZ x;omega)))⟩
 .exact⟨h,rfl⟩
def an3 {n:Nat} {w:bQ} (h:nk n w) (eH:n<=6):Fn prog 10 [ap 1401,ab (n:Int)] (cS w) [] (bS (gp w)) (cS w):=by
 have e:rV w.z w.L w.aX 0 (2*(n:Int))=(gp w,0):=by
  rw[show(2:Int)*(n:Int)=((b6 w.L w.aX*2 ^w.z:Nat):Int) by rw[h.aR,h.bi];omega];exact amY h.ok
 have oA:=amO w h.ok.cs 0 (2*(n:Int));rw[e] at oA;refine aU [] func10 ?_;exact⟨az7,az oA bd⟩
def an4 {z R:Nat} {L:aD5} (h:cc z R L) {d:aL} {nm:aD2} (H:dk L nm=some d):Fn prog 14 [di d.am] [mA z R L] [] NA [mA z R L]:=
 Vg (hG (an2 d.im (h.fQ d (cO H).1).1) (h.toir.M (cO H).1) rfl rfl rfl rfl)
abbrev Wp (y:Int) (l:List iV) (k:Nat):aW:=[(0,ab y),(5,ap 1401),(6,eX 23),(24,b0 mC l),(25,ab (l.length:Nat)),(26,ab (k:Nat))]
abbrev Wq (w:bQ) (bn:aD2):av:=cS w++[(23,.row 5 .u8 bn)]
abbrev wt (y:Int) (l:List iV) (k:Nat):aW:=Wp y l k++[(8,ap 8)]
abbrev wu (w:bQ) (bn:aD2) (x:iV):av:=Wq w bn++[(8,.cells (Nr x))]
abbrev an5 (y:Int) (l:List iV) (k:Nat) (gE:aF4) (i:Nat):aW:=wt y l k++[(67,b0 .str gE),(68,ab (gE.length:Nat)),(69,ab (i:Nat))]
def an6 (y:Int) (l:List iV) (ak:Dt l):Fn prog 3 [ab y,b0 mC l] [] [] (gT true) []:=by
 have ha:=anw;have hf:=ans y l ak;have mm:=ak.len
 cases bj:uX y l with
 |false=>
  rw[bj] at hf;refine aU [] func3 ?_;exact az hf <| gV <| az ha bd
 |true=>
  rw[bj] at hf;obtain⟨⟨PN,PO⟩,dW⟩:=anq bj;obtain⟨n,rfl⟩:=az0 (show 0<=y by omega);have Nt:=V' (n:=n) az7 az7;refine aU [3,4,10,11,12,13,15] func3 ?_;refine az hf <| dR <| bB.hP eC aA0 ⟨_,_,_,fun g=>_,fun g=>_,Nt,trivial,rfl,fun _=>rfl,fun x=>?_⟩;obtain⟨gq,cV⟩:=x;have an7:=nk.of cV;have oA:=cV.rd;refine bx [10,11,12,13,15] (cH [(0,ab (n:Int)),(1,b0 mC l),(5,ap 1401)] (cS gq)) ?_
  have qd:List.replicate ((2:Int)*(n:Int)*16).toNat (0:UInt8)=gp gq:=by
   rw[oA]
   congr 1
   omega
  refine⟨⟨az7,az7⟩,⟨az7,az7⟩,⟨rfl,az7,az7⟩,rfl,ed [10,11,12,13,15] (X:=Nat×bQ) (fun g=>Wp n l g.1) (fun g=>Wq g.2 (gp g.2)) (fun g=>g.1<=l.length/\nk n g.2) (fun g=>l.length - g.1) (0,gq) ⟨ap9 _,an7⟩ ?_ ?_⟩
  .exact ac.sub aE ⟨rfl,rfl,rfl,rfl,rfl,rfl,rfl,ap1 (fun l=>some (ba.row 5 .u8 l)) qd,trivial⟩
  rintro⟨k,w⟩ ⟨Z,aZ⟩;have Z:k<=l.length:=Z;have aZ:nk n w:=aZ;refine⟨fun h=>?_,fun h=>?_⟩
  .have cl:k < l.length:=by
    have h:decide ((k:Int) < (l.length:Int))=true:=h;simpa using h
   refine⟨az7,l[k],j2 (n:=k) cl,?_⟩;have mK:=ar4 cl;generalize l[k]=o at mK;obtain⟨O,ao6⟩:=dW o mK;have hw:=Ns w aZ.ok (Du o) (rl.of (by show(ig o).length<=_;omega) (ap9 _) (show(0:Int)<=9223372036854775807 by decide) rfl) (.inl rfl) rfl;refine⟨rfl,bB.le (cH (wt n l k) (wu w (gp w) o)) <| bB.hP eC aA0 ?_⟩;refine⟨fun h=>?an8,fun h=>?MD⟩
   case' an8=>
    refine mN hw fun g=>?_
    obtain⟨⟨e,cp⟩,aw⟩:=g;have sH:nk n cp:=aZ.step aw;refine⟨fun U=>?C6,fun U=>?C7⟩
   case' C6=>
    have U:e=0:=gd U;obtain⟨a,m,af,al,bt,c3⟩:=am0 aZ.ok aw rfl U;have af:tq o=(a:Int):=af;have al:(ig o).length=16*m:=al;have c3:gp cp=laid (gp w) (16*a) (ig o).length (ig o):=c3;have nM:=aZ.len;rw[aZ.aR,aZ.bi] at bt;have Wr:(tq o*16).toNat=16*a:=aA5
    have NC:laid (gp w) (tq o*16).toNat ((gp w).length - (tq o*16).toNat) (ig o)=gp cp:=by
     rw[Wr,c3,amR (gp w) (16*a) _ (by rw[nM];omega)]
    refine bx [12,13,15] (cH (wt n l k) (wu cp (gp w) o)) ?_;refine⟨by rw[af];omega,⟨show(0:Int)<=tq o*16/\tq o*16<=(((gp w).length:Nat):Int) by rw[af,nM];omega,?_⟩⟩;refine⟨(by show(tq o*16).toNat+((gp w).length - (tq o*16).toNat)<=(gp w).length;rw[Wr,nM];omega),eJ aA0,bB.le (ac.sub (K':=wt n l k) (B':=wu cp (gp cp) o) aE ⟨rfl,rfl,rfl,rfl,rfl,rfl,rfl,ap1 (fun aF=>some (ba.row 5 .u8 aF)) NC,rfl,trivial⟩) ?_⟩
   case' C7=>
    have U: ¬e=0:=oj U;have NC:gp w=gp cp:=(V1 aZ.ok aZ.NB aw (.inl U)).symm;refine bB.le (ac.sub (K':=wt n l k) (B':=wu cp (gp cp) o) aE ⟨rfl,rfl,rfl,rfl,rfl,rfl,rfl,ap1 (fun aF=>some (ba.row 5 .u8 aF)) NC,rfl,trivial⟩) ?_
   case' MD=>
    obtain⟨cp,sH,rK⟩: ∃cp,nk n cp/\cp=w:=⟨w,aZ,rfl⟩;refine bB.le (ac.sub (K':=wt n l k) (B':=wu cp (gp cp) o) aE (by rw[rK];exact aE)) ?_
   all_goals
    clear hw;have H:=cz.arg (args:=[ap 1401,.c (.agg [.d (.int .i64 0),.dc,.d (.int .i64 (lZ o)),.d (.str (ni o))])]) (anA cp sH.ok ((0:Int),([]:aD2),lZ o,ni o) (ap9 _) (by show(ni o).length<=_;omega)) ⟨rfl,aE,trivial⟩;refine bB.hP eC aA0 <| mN H fun g=>?_
    obtain⟨dK,tN⟩:=g;obtain⟨mJ,ND⟩:=sH.ev rfl tN;have mJ:nk n dK:=mJ;have ND:gp cp=gp dK:=ND.symm;refine bx [15,18] (ac.sub (K':=wt n l k) (B':=wu dK (gp dK) o) aE ⟨rfl,rfl,rfl,rfl,rfl,rfl,rfl,ap1 (fun aF=>some (ba.row 5 .u8 aF)) ND,rfl,trivial⟩) <| az (an3 mJ az7) ⟨eJ aA0,fun h=>ap0 h az9,fun _=>bx [] (cH (wt n l k) (wu dK (gp dK) o)) ?_⟩;have dM:=mJ.ok.cs;have ny:=fun a (h:a∈kx dK.L)=>Rr h
    have an9:(kx dK.L).length<=16:=by rw[Kv];exact dM.len
    refine az (VV dK) <| az ((afn dM).ch) ?_;generalize kx dK.L=gE at ny an9;refine ed [] (X:=Nat) (fun i=>an5 n l k gE i) (fun _=>wu dK (gp dK) o) (fun i=>i<=gE.length) (fun i=>gE.length - i) 0 (ap9 _) ?_ ?_
    .exact ac.sub aE aE
    intro i aG;have aG:i<=gE.length:=aG;refine⟨fun h=>?_,fun h=>?_⟩
    .have dC:i < gE.length:=by
      have h:decide ((i:Int) < (gE.length:Int))=true:=h;simpa using h
     refine⟨az7,gE[i],j2 (n:=i) dC,?_⟩;obtain⟨d,H⟩:=ny _ (ar4 dC);generalize gE[i]=nm at H;refine az (VV dK) <| az ((jh _ _ dK.L dM.toir nm d H).ch) <| az (an4 dM H) <| az anZ <| dR ?_;exact⟨az7,i+1,by show i+1<=gE.length;omega,by show gE.length - (i+1) < gE.length - i;omega,ac.sub aE aE⟩
    .exact⟨az7,(k+1,dK),⟨by show k+1<=l.length;omega,mJ⟩,by show l.length - (k+1) < l.length - k;omega,ac.sub aE aE⟩
  .exact az ha bd
end
end Go.Proofs.YtgclhiekndohdaaGreat
