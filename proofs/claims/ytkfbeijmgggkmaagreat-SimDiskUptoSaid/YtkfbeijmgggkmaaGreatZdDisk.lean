/-
A part of the proof of this claim: lemmas, with no condition beyond what each says.
-/
import Derived.Test.YtkfbeijmgggkmaaGreatZd22
set_option linter.unusedVariables false
set_option linter.unusedSimpArgs false
set_option maxRecDepth 10000
set_option maxHeartbeats 4000000
namespace Go.Proofs.YtkfbeijmgggkmaaGreat
open Go.RowKit Go.Proofs
section
theorem Ya (w:b0) (a aX:Int) (r:mY) (j:Nat):fY (gI w a aX r).z (gI w a aX r).L (gI w a aX r).aR j=fY w.z r.L w.aR j:=by
 unfold gI
 split <;>rfl
theorem apJ {w w':b0} (ap:eX w) {s:dE} {e:Int} (ax:gJ w s e w') (aa:s.kd=0) (U:e=0): ∃a m:Nat,s.a=a/\s.b.length=16*m/\a+m<=b4 w.L w.aR*2 ^w.z/\gp w'=laid (gp w) (16*a) s.b.length s.b:=by
 have sa:=ap.step ax;have cV:=ax.eI ap;obtain⟨E,G⟩:=ax.CX aa;rw[U] at E;obtain⟨d,H,ak,ha,eb,_⟩:=GV E.symm;have aN:b4 w.L w.aR=d.im.t.length:=az9
 have dB:=oc eb;rw[AG ap.cs H,<-aN] at dB;have j9:=Bs ap;refine⟨s.a.toNat,s.b.length/16,ha,ak,dB,O0 (n:=b4 w.L w.aR*2 ^w.z) ?_ ?_ fun j V=>?_⟩
 .rw[Bs sa,cV.aQ,cV.bi]
 .rw[X6 ay4,j9]
 .rw[Er sa (by rw[cV.aQ,cV.bi];exact V),X7 (m:=s.b.length/16) ay4 ak,Er ap V,G,Ya];exact GW ap.cs E.symm j
theorem apK {w w':b0} (ap:eX w) {s:dE} {e:Int} (ax:gJ w s e w') (aa:s.kd=1) (U:e=0): ∃a m:Nat,s.a=a/\s.l=m/\a+m<=b4 w.L w.aR*2 ^w.z/\gp w'=laid (gp w) (16*a) (16*m) (List.replicate (16*m) 0):=by
 have sa:=ap.step ax;have cV:=ax.eI ap
 have⟨E,G⟩:e=(h7 w.z w.L w.aR s.a s.l).e/\w'=gI w s.a s.l (h7 w.z w.L w.aR s.a s.l):=by
  cases ax with
  |zero h=>exact⟨rfl,rfl⟩
  |_=>omega
 rw[U] at E;obtain⟨d,H,ha,ak,eb,_⟩:=Md E.symm;have aN:b4 w.L w.aR=d.im.t.length:=az9
 have dB:=oc eb;rw[AG ap.cs H,<-aN] at dB;have j9:=Bs ap;have O2:(List.replicate (16*s.l.toNat) (0:UInt8)).length=16*s.l.toNat:=ar7;refine⟨s.a.toNat,s.l.toNat,ha,ak,dB,O0 (n:=b4 w.L w.aR*2 ^w.z) ?_ ?_ fun j V=>?_⟩
 .rw[Bs sa,cV.aQ,cV.bi]
 .have:=X6 (X:=gp w) (ys:=List.replicate (16*s.l.toNat) (0:UInt8)) (off:=16*s.a.toNat) ay4;rw[O2] at this;rw[this,j9]
 .have af:=X7 (X:=gp w) (ys:=List.replicate (16*s.l.toNat) (0:UInt8)) (f:=s.a.toNat) (m:=s.l.toNat) ay4 O2 j;rw[O2] at af;rw[Er sa (by rw[cV.aQ,cV.bi];exact V),af,Er ap V,G,Ya];have aW:fY w.z (h7 w.z w.L w.aR s.a s.l).L w.aR j=if s.a.toNat<=j/\j < s.a.toNat+s.l.toNat then List.replicate 16 0 else fY w.z w.L w.aR j:=Me ap.cs E.symm j
  rw[aW]
  split
  .rename_i c;rw[Dk _ _ ay4]
  .rfl
theorem apL {z R:Nat} {size:Int} (G:j7 z size R=true) {p:Nat×Nat} (d7:cb z R (nK z R size p)) (db lb:Nat):gp (fZ z R size p db lb)=List.replicate (16*(size.toNat*2 ^z)) 0:=by
 have H:=OW G p;have au:cl (nK z R size p) eP=0:=rL (.base H rfl) ay4;have ap:=OX G d7 db lb;have aN:=XU G p;refine O0 (n:=size.toNat*2 ^z) ?_ ar7 fun j V=>?_
 .rw[Bs ap];show 16*(b4 (nK z R size p) eP*2 ^z)=_;rw[aN]
 rw[Er ap (by show j < b4 (nK z R size p) eP*2 ^z;rw[aN];exact V)];show jt z (nK z R size p) eP (cl (nK z R size p) eP) j=_;rw[rN,yp H (fun bf=>bf.2 (by show((List.replicate size.toNat ck).getD (j/2 ^z) ck).1=0;rw[aq3,List.getElem?_replicate];split <;>rfl)),au];show kR (List.replicate (16*2 ^z) 0) (j % 2 ^z)=_;have:=Nat.mod_lt j (Nat.two_pow_pos z);rw[Dk _ _ ay4,Dk _ _ ay4]
end
section
abbrev Yb (x y aB:Int) (w:b0):az:=cQ w++[(2,.cells (Br x y aB))]
abbrev apM (x y aB:Int) (w:b0):az:=cQ w++[(2,.cells (Br x y aB)),(42,.row 5 .u8 (gp w))]
abbrev apN (l:List kY) (k:Nat):aY:=[(1,bQ i3 l),(2,aq 2),(5,aq 1401),(7,eM 42),(43,bQ i3 l),(44,ab (l.length:Nat)),(45,ab (k:Nat))]
abbrev Bt (x y aB:Int) (s:dE) (W:aC3) (w:b0):az:=cQ w++[(2,.cells (Br x y aB)),(42,.row 5 .u8 W),(9,.cells (In s))]
abbrev Bu (l:List kY) (k:Nat) (e:Int):aY:=[(1,bQ i3 l),(2,aq 2),(5,aq 1401),(7,eM 42),(43,bQ i3 l),(44,ab (l.length:Nat)),(45,ab (k:Nat)),(9,aq 9),(10,ab e)]
theorem apO (x y aB:Int) (l:List kY) (ak:ue l):Fn Tryz.prog 3 [OU x y aB,bQ i3 l] [] [] (fI true) []:=by
 have ha:=app;have hf:=ak.Ba x y aB;have mT:=ak.len
 cases aA:j7 x y aB with
 |false=>
  have hn:=apr x y aB aA;refine aU [] Tryz.func3 ?_;exact⟨rfl,av hn <| fb <| av ha bg⟩
 |true=>
  have wx:=aA;simp only[j7,vj,as5] at wx;obtain⟨⟨⟨Kg,Ra⟩,OZ,sm⟩,gX,hm⟩:=wx;obtain⟨z,rfl⟩:=Int.eq_ofNat_of_zero_le gX;obtain⟨R,rfl⟩:=Int.eq_ofNat_of_zero_le OZ;obtain⟨n,rfl⟩:=Int.eq_ofNat_of_zero_le Kg;have kf:((n:Nat):Int)*((2 ^((z:Nat):Int).toNat:Nat):Int)=((n*2 ^z:Nat):Int):=by rw[aw9,Int.natCast_mul]
  have va:n*2 ^z<=2048:=by
   have iu:2 ^z<=2 ^3:=Nat.pow_le_pow_right ay5 ay4;have aA:n*2 ^z<=256*8:=av1 ay4 iu;omega
  have hn:=XI z R n (by simp only[j7,vj,as5];omega) aA;refine aU [1,2,9,10,12,14] Tryz.func3 ?_;refine⟨rfl,bw.iL e3 ay7 <| lP hn fun q=>?_⟩;obtain⟨p,d7⟩:=q;refine bw.e4 (di.mark 4001 4009 rfl ay5) fun db=>?_
  refine bw.le (ac.trans (ac.vH 1401 3 4001 4009 db rfl rfl rfl) (ac.trans (ac.vI 4001 4009 db rfl rfl) (ac.trans (ac.ro 1101 rfl) (ac.put 1101 4001 ay5 rfl rfl)))) <| bw.e4 (di.mark 3001 3009 rfl ay5) fun lb=>bw.le (ac.trans (ac.vH 1401 5 3001 3009 lb rfl rfl rfl) (ac.trans (ac.vI 3001 3009 lb rfl rfl) (ac.trans (ac.ro 1301 rfl) (ac.put 1301 3001 ay5 rfl rfl)))) <| bw.le (ac.trans (ac.vD 1401 8 rfl rfl) (ac.trans (ac.vD 1401 9 rfl rfl) (ac.trans (ac.vD 1401 16 rfl rfl) (ac.trans (ac.ro 1601 rfl) (ac.W3 1501 1001 rfl ay5))))) ?_
  have au:=OX aA d7 db lb;have apP:=XU aA p
  cases bh:s8 n l with
  |false=>
   rw[bh] at hf;exact bu [] (cM [(1,bQ i3 l),(2,aq 2),(5,aq 1401),(6,ab 0)] (Yb z n R (fZ z R n p db lb))) <| dt <| av hf <| fb <| av ha bg
  |true=>
   rw[bh] at hf;refine bu [9,10,12,14] (cM [(1,bQ i3 l),(2,aq 2),(5,aq 1401),(6,ab 0)] (Yb z n R (fZ z R n p db lb))) <| dt <| av hf <| dt ?_
   have q0:List.replicate (((n:Nat):Int)*((2 ^((z:Nat):Int).toNat:Nat):Int)*16).toNat (0:UInt8)=gp (fZ z R n p db lb):=by
    rw[apL aA d7 db lb,kf,show((n:Nat):Int).toNat=n from rfl];generalize n*2 ^z=N
    congr 1
    omega
   refine⟨⟨ay4,ay4,ay4⟩,⟨by rw[kf];omega,by rw[kf];omega⟩,⟨by rw[kf];omega,by rw[kf];omega⟩,⟨rfl,by rw[kf];omega,by rw[kf];omega⟩,rfl,?_⟩;refine d2 [9,10,12,14] (X:=Nat×b0) (fun g=>apN l g.1) (fun g=>apM z n R g.2) (fun g=>g.1<=l.length/\eX g.2/\jW g.2/\g.2.z=z/\b4 g.2.L g.2.aR=n) (fun g=>l.length - g.1) (0,fZ z R n p db lb) ⟨aq8 _,au,jW.no rfl,rfl,by show b4 (nK z R n p) eP=n;rw[apP];omega⟩ ?_ ?_
   .exact ac.sub aC ⟨rfl,rfl,rfl,rfl,rfl,rfl,rfl,rfl,congrArg (fun l=>some (ba.row _ .u8 l)) q0,trivial⟩
   rintro⟨k,w⟩ ⟨aa,ap,aj,v6,cC⟩;have aa:k<=l.length:=aa;have ap:eX w:=ap;have aj:jW w:=aj;have v6:w.z=z:=v6;have cC:b4 w.L w.aR=n:=cC;refine⟨fun h=>?_,fun h=>?_⟩
   .have ct:k < l.length:=by
     have h:decide ((k:Int) < (l.length:Int))=true:=h;simpa using h
    refine⟨ay4,l[k],jJ (n:=k) ct,?_⟩;have lm:=as3 ct;generalize l[k]=o at lm;have en:=ak.step lm;have apQ:=ON w ap (b8 o) (ak.aps bh lm);refine⟨rfl,fun _=>?_,fun eD=>?_⟩
    .refine⟨ay4,(k+1,w),⟨by show k+1<=l.length;omega,ap,aj,v6,cC⟩,by show l.length - (k+1) < l.length - k;omega,ac.sub aC aC⟩
    have eD: ¬(b8 o).kd=2:=mu eD;refine bw.iL e3 ay7 ?_;refine lP en.x fun _=>?_
    refine lP apQ fun g=>?_
    obtain⟨⟨e,w'⟩,ax⟩:=g;have sa:eX w':=ap.step ax;have Yc:p' w w':=gJ.eI ap ax;have bI:jW w':=aj.step ap ax;have Es:w'.z=z:=Yc.bi.trans v6;have Et:b4 w'.L w'.aR=n:=Yc.aQ.trans cC;have j9:=Bs ap;rw[cC,v6] at j9
    have aT:rM w'.z w'.L w'.aR 0 (((n:Nat):Int)*((2 ^((z:Nat):Int).toNat:Nat):Int))=(gp w',0):=by
     rw[kf,<-Et,<-Es];exact apD sa
    have og:=apt w' sa.cs 0 (((n:Nat):Int)*((2 ^((z:Nat):Int).toNat:Nat):Int));rw[aT] at og;have kO:=fun E G=>apJ ap ax E G
    have sw:=fun E G=>apK ap ax E G
    have uU:=fun h=>apC ap aj ax h
    rw[cC,v6] at kO sw;refine bu [12,14] (cM (Bu l k e) (Bt z n R (b8 o) (gp w) w')) ⟨fun U=>?_,fun U=>?_⟩
    .have U:e=0:=gd U;refine⟨fun au=>?_,fun au=>?_⟩
     .have au:(b8 o).kd=0:=gd au;obtain⟨a,m,ae,ao,bm,c0⟩:=kO au U;have Eu:((b8 o).a*16).toNat=16*a:=az2
      refine⟨by rw[ae];omega,⟨show(0:Int)<=(b8 o).a*16/\(b8 o).a*16<=(((gp w).length:Nat):Int) by rw[ae,j9];omega,?_⟩⟩;refine⟨(by show((b8 o).a*16).toNat+((gp w).length - ((b8 o).a*16).toNat)<=(gp w).length;rw[Eu,j9];omega),eF ay7,?_⟩
      have y8:laid (gp w) ((b8 o).a*16).toNat ((gp w).length - ((b8 o).a*16).toNat) (b8 o).b=gp w':=by
       rw[Eu,c0,X5 (gp w) (16*a) _ (by rw[j9];omega)]
      refine bu [14] (ac.sub (K':=Bu l k e) (B':=Bt z n R (b8 o) (gp w') w') aC ⟨rfl,rfl,rfl,rfl,rfl,rfl,rfl,rfl,congrArg (fun aB=>some (ba.row 5 .u8 aB)) (y8),rfl,trivial⟩) ⟨fun _=>⟨fun h=>absurd (gd h) ay4,fun _=>bu [] (ac.sub (K':=Bu l k e) (B':=Bt z n R (b8 o) (gp w') w') aC ⟨rfl,rfl,rfl,rfl,rfl,rfl,rfl,rfl,congrArg (fun aB=>some (ba.row 5 .u8 aB)) (rfl),rfl,trivial⟩) ?_⟩,fun h=>absurd h aB8⟩;refine⟨⟨ay4,ay4,ay4⟩,⟨by rw[kf];omega,by rw[kf];omega⟩,av og ⟨fun h=>absurd h ay6,fun _=>⟨fun h=>absurd h ay6,fun _=>?_⟩⟩⟩;exact⟨ay4,(k+1,w'),⟨by show k+1<=l.length;omega,sa,bI,Es,Et⟩,by show l.length - (k+1) < l.length - k;omega,ac.sub aC aC⟩
     .have au: ¬(b8 o).kd=0:=mu au;refine bu [14] (br) ⟨fun _=>⟨fun E=>?_,fun E=>?_⟩,fun h=>absurd h aB8⟩
      .have E:(b8 o).kd=1:=gd E;obtain⟨a,m,ae,ao,bm,c0⟩:=sw E U;have Eu:((b8 o).a*16).toNat=16*a:=az2
       have apR:((b8 o).l*16).toNat=16*m:=az2
       refine⟨by rw[ae];omega,⟨show(0:Int)<=(b8 o).a*16/\(b8 o).a*16<=(((gp w).length:Nat):Int) by rw[ae,j9];omega,?_⟩⟩;refine⟨by rw[ao];omega,⟨rfl,by rw[ao];omega,by rw[ao];omega⟩,rfl,?_⟩;refine⟨_,_,fun N=>apE rfl rfl rfl rfl Tryz.underlying31 afX rfl rfl rfl rfl (by show((b8 o).a*16).toNat+((gp w).length - ((b8 o).a*16).toNat)<=(gp w).length;rw[Eu,j9];omega),rfl,?_⟩;refine⟨eF ay7,?_⟩
       have y8:laid (gp w) ((b8 o).a*16).toNat ((gp w).length - ((b8 o).a*16).toNat) (List.replicate ((b8 o).l*16).toNat 0)=gp w':=by
        rw[Eu,apR,c0,X5 (gp w) (16*a) _ (by rw[j9,ar7];omega),ar7]
       refine bu [] (ac.sub (K':=Bu l k e) (B':=Bt z n R (b8 o) (gp w') w') aC ⟨rfl,rfl,rfl,rfl,rfl,rfl,rfl,rfl,congrArg (fun aB=>some (ba.row 5 .u8 aB)) (y8),rfl,trivial⟩) ?_;refine⟨⟨ay4,ay4,ay4⟩,⟨by rw[kf];omega,by rw[kf];omega⟩,av og ⟨fun h=>absurd h ay6,fun _=>⟨fun h=>absurd h ay6,fun _=>?_⟩⟩⟩;exact⟨ay4,(k+1,w'),⟨by show k+1<=l.length;omega,sa,bI,Es,Et⟩,by show l.length - (k+1) < l.length - k;omega,ac.sub aC aC⟩
      .have E: ¬(b8 o).kd=1:=mu E;have y8:gp w=gp w':=(uU (.inr (by clear kO sw uU;omega))).symm;refine bu [] (ac.sub (K':=Bu l k e) (B':=Bt z n R (b8 o) (gp w') w') aC ⟨rfl,rfl,rfl,rfl,rfl,rfl,rfl,rfl,congrArg (fun aB=>some (ba.row 5 .u8 aB)) (y8),rfl,trivial⟩) ?_;refine⟨⟨ay4,ay4,ay4⟩,⟨by rw[kf];omega,by rw[kf];omega⟩,av og ⟨fun h=>absurd h ay6,fun _=>⟨fun h=>absurd h ay6,fun _=>?_⟩⟩⟩;exact⟨ay4,(k+1,w'),⟨by show k+1<=l.length;omega,sa,bI,Es,Et⟩,by show l.length - (k+1) < l.length - k;omega,ac.sub aC aC⟩
    .have U: ¬e=0:=mu U;have y8:gp w=gp w':=(uU (.inl U)).symm;refine bu [14] (br) ⟨fun h=>absurd (gd h) U,fun _=>bu [] (ac.sub (K':=Bu l k e) (B':=Bt z n R (b8 o) (gp w') w') aC ⟨rfl,rfl,rfl,rfl,rfl,rfl,rfl,rfl,congrArg (fun aB=>some (ba.row 5 .u8 aB)) (y8),rfl,trivial⟩) ?_⟩;refine⟨⟨ay4,ay4,ay4⟩,⟨by rw[kf];omega,by rw[kf];omega⟩,av og ⟨fun h=>absurd h ay6,fun _=>⟨fun h=>absurd h ay6,fun _=>?_⟩⟩⟩;exact⟨ay4,(k+1,w'),⟨by show k+1<=l.length;omega,sa,bI,Es,Et⟩,by show l.length - (k+1) < l.length - k;omega,ac.sub aC aC⟩
   .exact av ha bg
end
end Go.Proofs.YtkfbeijmgggkmaaGreat
