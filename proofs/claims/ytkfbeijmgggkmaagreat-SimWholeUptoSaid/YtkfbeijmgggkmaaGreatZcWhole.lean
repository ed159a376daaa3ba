/-
A part of the proof of this claim: lemmas, with no condition beyond what each says.
-/
import Derived.Test.YtkfbeijmgggkmaaGreatZc22
set_option linter.unusedVariables false
set_option linter.unusedSimpArgs false
set_option maxRecDepth 10000
set_option maxHeartbeats 4000000
namespace Go.Proofs.YtkfbeijmgggkmaaGreat
open Go.RowKit Go.Proofs
section
theorem Yh {k:Nat}: ∀{g:List (Nat×aA0)},k∈g.map Prod.fst->(k,uc g (k:Int))∈g
 | [],h=>by cases h
 |p::g,h=>by
  have c1:fN ai (k:Int) ((p.1:Nat):Int)=decide (k=p.1):=AY k p.1
  by_cases e:k=p.1
  .have af:uc (p::g) (k:Int)=p.2:=by
    show((match fN ai (k:Int) ((p.1:Nat):Int) with |true=>some p.2 |false=>bY (aH:=ai) (aJ:=iT) (jN g) (k:Int)).getD (cL iT))=_;rw[c1,ar6 e];rfl
   rw[af,e];exact ar4 ..
  .have af:uc (p::g) (k:Int)=uc g (k:Int):=by
    show((match fN ai (k:Int) ((p.1:Nat):Int) with |true=>some p.2 |false=>bY (aH:=ai) (aJ:=iT) (jN g) (k:Int)).getD (cL iT))=_;rw[c1,at3 e];rfl
   rw[af];rw[ar8,aq7] at h;exact aq6 _ (Yh (h.resolve_left e))
theorem apL {g:List (Nat×aA0)} {p:je} (ae:p∈k2 g): ∃q,q∈g/\p= @Prod.mk Int aA0 ((q.1:Nat):Int) q.2:=by
 obtain⟨k,Z,rfl⟩:=as5.1 ae;have Z:=(yy _).mem_iff.1 Z;rw[A1] at Z;obtain⟨j,V,rfl⟩:=as5.1 Z;exact⟨_,Yh V,rfl⟩
theorem apM {g:List (Nat×aA0)} {k:Nat} (h:k∈g.map Prod.fst): ∃p,p∈k2 g/\fD p=(k:Int):=by
 refine⟨ML g (k:Int),as0 ((yy _).mem_iff.2 ?_),rfl⟩;rw[A1];exact as0 h
theorem apN {Q:List bR} (a2:lE Q) {b:bR} (d5:gn Q b=0):r8 (fX Q b) (d4 b)=0/\vs (fX Q b) (d4 b)=s5 b (vs Q (di b)):=by
 obtain⟨E,G,al,aW⟩:=HO d5;have e:fX Q b=Q++[b]:=if_pos d5;rw[e];have jk:ep (Q++[b]) (d4 b)=Q.length:=akN G aw2;refine⟨by unfold r8;rw[jk,if_neg aw2],?_⟩
 have aY:l6 (Q++[b]) (ep (Q++[b]) (d4 b))=some b:=by
  rw[jk];unfold l6 fz;rw[if_pos aw0];simp
 unfold vs;rw[aq5,List.length_singleton];show s6 (Q++[b]) (d4 b) (w2 (Q++[b]) (Q.length+1))=_;unfold s6;rw[aY];simp only
 by_cases ae:di b=[]
 .unfold s5;simp only[ae,decide_true,if_true]
 .rw[Ve a2 b _ _ (aW (by simpa using ae))]
theorem apO {Q:List bR} {b:bR} (d5:gn Q b=0):qT (fX Q b)=d4 b:=by
 have e:fX Q b=Q++[b]:=if_pos d5;unfold qT;rw[e,List.getLast?_append];rfl
section
variable {n b:Nat}
theorem IZ {c:Nat} (h:c < n):c*2 ^b+2 ^b<=n*2 ^b:=by
 have:(c+1)*2 ^b<=n*2 ^b:=Nat.mul_le_mul_right _ h
 rwa[Nat.succ_mul] at this
theorem Yi {acc:aA0} {p:je} {c:Nat} (J:fD p=(c:Int)) (j0:c < n) (O:(jS p).length=16*2 ^b) (ha:acc.length=16*(n*2 ^b)):mC ((16*2 ^b:Nat):Int) acc p=laid acc (16*(c*2 ^b)) (jS p).length (jS p):=by
 have e:(fD p*((16*2 ^b:Nat):Int)).toNat=16*(c*2 ^b):=by
  rw[J,<-Int.natCast_mul,Int.toNat_natCast];exact Nat.mul_left_comm ..
 have fZ:=IZ (b:=b) j0;unfold mC;rw[e,apt _ _ _ aw0]
theorem apP {acc:aA0} {p:je} {c:Nat} (J:fD p=(c:Int)) (j0:c < n) (O:(jS p).length=16*2 ^b) (ha:acc.length=16*(n*2 ^b)) (j:Nat):ic (mC ((16*2 ^b:Nat):Int) acc p) j=if j/2 ^b=c then ic (jS p) (j % 2 ^b) else ic acc j:=by
 have fZ:=IZ (b:=b) j0;rw[Yi J j0 O ha,apv (m:=2 ^b) aw0 O]
 by_cases h:j/2 ^b=c
 .rw[if_pos (MF.2 h),if_pos h,ah1 h]
 .rw[if_neg (fun e=>h (MF.1 e)),if_neg h]
theorem Yj {F:aA0} (bd:F.length=16*(n*2 ^b)): ∀(bE:List je) (acc:aA0),acc.length=16*(n*2 ^b)->(∀p,p∈bE-> ∃c:Nat,fD p=(c:Int)/\c < n/\(jS p).length=16*2 ^b/\ ∀j,j/2 ^b=c->ic (jS p) (j % 2 ^b)=ic F j)->
  (∀j,j < n*2 ^b->(∀p,p∈bE->fD p≠((j/2 ^b:Nat):Int))->ic acc j=ic F j)->bE.foldl (mC ((16*2 ^b:Nat):Int)) acc=F
 | [],acc,ha,_,h=>aps ha bd fun j V=>h j V fun p ae=>(by cases ae)
 |p::bE,acc,ha,ae,h=>by
  obtain⟨c,E,G,al,aW⟩:=ae p (ar4 ..);have fZ:=IZ (b:=b) G;rw[List.foldl_cons];refine Yj bd bE _ ?_ (fun q aP=>ae q (aq6 _ aP)) fun j V hn=>?_
  .rw[Yi E G al ha,apu aw0,ha]
  .rw[apP E G al ha]
   by_cases e:j/2 ^b=c
   .rw[if_pos e];exact aW j e
   .rw[if_neg e];refine h j V fun q aP=>?_
    rcases aq7.1 aP with rfl |aP
    .rw[E];intro ao;exact e aw0
    .exact hn q aP
theorem Yk:e9 ((b:Nat):Int)=((16*2 ^b:Nat):Int):=by
 unfold e9;rw[Int.toNat_natCast,Int.natCast_mul];rfl
theorem apQ {F below:aA0} (bd:F.length=16*(n*2 ^b)) {nm pa:aA0} {g:List (Nat×aA0)} (aY: ∀q,q∈g->q.1 < n/\q.2.length=16*2 ^b/\ ∀j,j/2 ^b=q.1->ic q.2 (j % 2 ^b)=ic F j)
  (O: ∀j,j < n*2 ^b->j/2 ^b∉g.map Prod.fst->pa≠[]/\below.length=16*(n*2 ^b)/\ic below j=ic F j):s5 (nm,pa,((b:Nat):Int),((n:Nat):Int),k2 g) below=F:=by
 have aR:(((n:Nat):Int)*e9 ((b:Nat):Int)).toNat=16*(n*2 ^b):=by
  rw[Yk,<-Int.natCast_mul,Int.toNat_natCast];exact Nat.mul_left_comm ..
 have H:s5 (nm,pa,((b:Nat):Int),((n:Nat):Int),k2 g) below=(k2 g).foldl (mC (e9 ((b:Nat):Int))) (if decide (pa=[])=true then List.replicate (((n:Nat):Int)*e9 ((b:Nat):Int)).toNat (0:UInt8) else laid (List.replicate (((n:Nat):Int)*e9 ((b:Nat):Int)).toNat (0:UInt8)) 0 (List.replicate (((n:Nat):Int)*e9 ((b:Nat):Int)).toNat (0:UInt8)).length below):=rfl;rw[H,aR,Yk]
 have ap: ∀ys:aA0,(laid (List.replicate (16*(n*2 ^b)) (0:UInt8)) 0 (List.replicate (16*(n*2 ^b)) (0:UInt8)).length ys).length=16*(n*2 ^b):=fun ys=>by
  unfold laid;simp only[aq5,ar3,au3,at1];omega
 refine Yj bd _ _ ?_ (fun p ae=>?_) fun j V hn=>?_
 .split
  .exact at1
  .exact ap _
 .obtain⟨q,aP,rfl⟩:=apL ae;obtain⟨E,G,al⟩:=aY q aP;exact⟨q.1,rfl,E,G,al⟩
 .obtain⟨E,G,al⟩:=O j V fun aw=>by
   obtain⟨p,ae,e⟩:=apM aw;exact hn p ae e
  rw[if_neg ay8]
  have e:laid (List.replicate (16*(n*2 ^b)) (0:UInt8)) 0 (List.replicate (16*(n*2 ^b)) (0:UInt8)).length below=below:=by
   unfold laid;rw[at1,<-G,as2,List.take_zero,av8,Nat.zero_add,List.drop_of_length_le (by rw[at1];exact aq4 _),au0]
  rw[e];exact al
end
end
section
def sl:aA0:=[119,104,111,108,101]
structure zp (F:aA0) (n:Nat) (k:Nat) (w:bT):Prop where
 ok:dP w
 rd:pG w=F
 aS:cl w.L w.aQ=n
 st:(∃l g,w.bD= .pu w.aQ (n:Int) (n:Int) l g false false/\l.length+k=n/\g.length=k/\(∀c,c < n->c∈l\/c∈g.map Prod.fst)/\(∀q,q∈g->q.1 < n/\q.2.length=16*2 ^w.z/\ ∀j,j/2 ^w.z=q.1->ic q.2 (j % 2 ^w.z)=ic F j)/\w.bI=uk sl [] w.z (n:Int) [] none)\/
  (k=n+1/\w.bD= .no/\r8 w.Q sl=0/\vs w.Q sl=F/\qT w.Q=sl)
theorem apR {w w':bT} {s:dA} {e:Int} (aq:dP w) (V:w.bD= .no) (Z:s.kd=7) (hn:s.nm=sl) (ag:s.fx=[]) (ap:s.l=((cl w.L w.aQ:Nat):Int)) (aC:fy w s e w') (U:e=0):zp (pG w) (cl w.L w.aQ) 0 w':=by
 have pH:=aq.step aC;rcases aC.X0 Z with⟨_,h,_⟩ |⟨_,aC⟩
 .rw[h] at U;exact absurd U aw1
 rcases aC with⟨_,h,_⟩ |⟨_,⟨_,⟨_,h,_⟩ |⟨_,_,b,rfl⟩⟩ |⟨h,_⟩ |⟨h,_⟩⟩
 .rw[h] at U;exact absurd U aw1
 .rw[h] at U;exact absurd U aw1
 .refine⟨pH,rfl,rfl,.inl ⟨_,[],by rw[ap];rfl,?_,rfl,fun c J=>.inl ?_,fun q aP=>(by cases aP),by rw[hn,ag];rfl⟩⟩
  .show(he (fun _=>true) w.z (cl w.L w.aQ*2 ^w.z)).length+0=_;rw[aij];rfl
  .have ae:=Nat.two_pow_pos w.z;have:=MP w.z (cl w.L w.aQ*2 ^w.z) (c*2 ^w.z) (Nat.mul_lt_mul_of_pos_right J ae);rw[Nat.mul_div_cancel _ ae] at this;exact this
 .exact absurd ag h
 .exact absurd ag h
theorem apS {w:bT} (aq:dP w) {c:Nat} (J:c < cl w.L w.aQ):(e8 w.z w.L w.aQ (c:Int)).length=16*2 ^w.z/\ ∀j,j/2 ^w.z=c->ic (e8 w.z w.L w.aQ (c:Int)) (j % 2 ^w.z)=ic (pG w) j:=by
 obtain⟨d,H⟩:=at5.1 aq.kd;have aR:cl w.L w.aQ=d.im.t.length:=ay5
 rw[ahZ H aw0];refine⟨wI aq.cs.tonC H (aq.cs.cg _).1 c,fun j V=>?_⟩;have E:=IZ (b:=w.z) J;have G:=(MF (z:=w.z)).2 V;rw[apx aq aw0];unfold ME;rw[G8,V]
theorem apT {F:aA0} {n k:Nat} {w w':bT} {s:dA} {e:Int} (h:zp F n k w) (iS:k<=n) (Z:s.kd=8) (aC:fy w s e w'):(e=0->zp F n (k+1) w')/\(e≠0->k=n):=by
 obtain⟨aq,kH,cu,ax⟩:=h;have pH:=aq.step aC;rcases ax with⟨l,g,V,E,G,al,aW,bG⟩ |⟨E,_⟩
 rotate_left
 .omega
 have bd:=apw aq;rw[kH,cu] at bd;rcases aC.Ey Z with⟨j,_⟩ |⟨_,_,_,j,_⟩ |⟨_,_,j,_⟩ |⟨nm,dK,rm,gT,g2,j,ax⟩
 .rw[V] at j;cases j
 .rw[V] at j;cases j
 .rw[V] at j;cases j
 rw[V] at j
 cases j
 rcases ax with⟨rfl,t,hf,rfl⟩ |⟨a6,U,rfl⟩
 .have hR:k=n:=ay8
  refine⟨fun U=>?_,fun _=>hR⟩
  have d5:gn w.Q (gq w.bI g)=0/\oM (fX w.Q (gq w.bI g))=0:=by
   rcases hf with⟨b0,ca,_⟩ |⟨b0,e7,⟨ca,b,_,⟨a3,_⟩ |⟨a3,_⟩⟩,_⟩
   .exact absurd (ca.symm.trans U) b0
   .exact⟨b0,a3⟩
   .exact absurd (ca.symm.trans U) a3
  have wg:t.2.2.2.2=fX w.Q (gq w.bI g):=(X7 (w:={w with bD:=.pu w.aQ (n:Int) (n:Int) [] g true true}) hf d5.1 d5.2).1;have O:gq w.bI g=(sl,[],((w.z:Nat):Int),((n:Nat):Int),k2 g):=by rw[bG];rfl
  rw[O] at d5 wg;obtain⟨r1,r2⟩:=apN aq.q.tolE d5.1;have fV:=apO d5.1;rw[<-wg] at r1 r2 fV;refine⟨pH,kH,cu,.inr ⟨aw0,rfl,r1,?_,fV⟩⟩;show vs t.2.2.2.2 sl=F;refine r2.trans (apQ bd aW fun j V hn=>?_);rcases al _ (ah0 V) with h |h
  .cases h
  .exact absurd h hn
 .have aw:=(yt a6).2.1;have aq3:=List.length_pos_of_mem aw
  have bl:fu w.z w.R w.L w.aQ l g:=by
   have hS:=aq.bD;rw[V] at hS;exact hS.2.2.2.2
  have nt:=bl.lt _ aw;have rW:ek w.z w.L w.aQ (n:Int) l g (dE l)=⟨0,l.erase (dE l),g++[(dE l,e8 w.z w.L w.aQ (dE l:Int))],false⟩:=if_neg aw0;rw[rW] at U⊢;have U:e=0:=U;refine⟨fun _=>?_,fun h=>absurd U h⟩;rw[rW] at pH;obtain⟨cJ,cG⟩:=apS aq nt;refine⟨pH,kH,cu,.inl ⟨l.erase (dE l),g++[(dE l,e8 w.z w.L w.aQ (dE l:Int))],rfl,?_,?_,fun c J=>?_,fun q aP=>?_,bG⟩⟩
  .rw[List.length_erase_of_mem aw];omega
  .rw[aq5,G];rfl
  .rw[at9,as4]
   by_cases ao:c=dE l
   .exact .inr (.inr (by rw[ao];exact ar5.2 rfl))
   .rcases al c J with h |h
    .exact .inl ((List.mem_erase_of_ne ao).2 h)
    .exact .inr (.inl h)
  .rcases as4.1 aP with aP |aP
   .exact aW q aP
   .obtain rfl:=ar5.1 aP;rw[cu] at nt;rw[kH] at cG;exact⟨nt,cJ,cG⟩
end
section
abbrev apU (l:List ih) (k:Nat):aX:=[(1,bv en l),(2,ah 2),(5,ah 1401),(38,bv en l),(39,ac (l.length:Nat)),(40,ac (k:Nat))]
abbrev zq (x y aB:Int) (w:bT):ay:=cO w++[(2,.cells (zd x y aB))]
abbrev apV (l:List ih) (n:Nat) (F:aA0) (i:Nat):aX:=[(1,bv en l),(2,ah 2),(5,ah 1401),(9,bv .u8 F),(71,ac (((n:Nat):Int)+1)),(72,ac (i:Nat))]
theorem apW (x y aB:Int) (l:List ih) (ap:lf l):Fn Tryz.prog 6 [BA x y aB,bv en l] [] [] (fk true) []:=by
 have ha:=IU;have hf:=ap.q4 x y aB;have lq:=ap.len
 cases aw:h7 x y aB with
 |false=>
  have hn:=IV x y aB aw;refine aT [] Tryz.func6 ?_;exact⟨rfl,ak hn <| d7 <| ak ha bc⟩
 |true=>
  have nv:=aw;simp only[h7,vj,as1] at nv;obtain⟨⟨⟨uV,Cu⟩,vO,n3⟩,gb,gU⟩:=nv;obtain⟨z,rfl⟩:=Int.eq_ofNat_of_zero_le gb;obtain⟨R,rfl⟩:=Int.eq_ofNat_of_zero_le vO;obtain⟨n,rfl⟩:=Int.eq_ofNat_of_zero_le uV;have kn:((n:Nat):Int)*((2 ^((z:Nat):Int).toNat:Nat):Int)=((n*2 ^z:Nat):Int):=az0
  have t8:n*2 ^z<=2048:=by
   have gJ:2 ^z<=2 ^3:=Nat.pow_le_pow_right aw1 aw0;have aw:n*2 ^z<=256*8:=Nat.mul_le_mul aw0 gJ;omega
  have hn:=Ex z R n (by simp only[h7,vj,as1];omega) aw;refine aT [1,2,7,9,10,11,13,16,20] Tryz.func6 ?_;refine⟨rfl,bk.gz ee aw3 <| hp hn fun q=>?_⟩;obtain⟨p,ef⟩:=q;refine bk.eH (c5.mark 4001 4009 rfl aw1) fun db=>?_
  refine bk.le (ab.trans (ab.pC 1401 3 4001 4009 db rfl rfl rfl) (ab.trans (ab.pD 4001 4009 db rfl rfl) (ab.trans (ab.ll 1101 rfl) (ab.put 1101 4001 aw1 rfl rfl)))) <| bk.eH (c5.mark 3001 3009 rfl aw1) fun lb=>bk.le (ab.trans (ab.pC 1401 5 3001 3009 lb rfl rfl rfl) (ab.trans (ab.pD 3001 3009 lb rfl rfl) (ab.trans (ab.ll 1301 rfl) (ab.put 1301 3001 aw1 rfl rfl)))) <| bk.le (ab.trans (ab.nh 1401 8 rfl rfl) (ab.trans (ab.nh 1401 9 rfl rfl) (ab.trans (ab.nh 1401 16 rfl rfl) (ab.trans (ab.ll 1601 rfl) (ab.Ei 1501 1001 rfl aw1))))) ?_
  have av:=Ez aw ef db lb;have zg:=IS aw p
  cases bd:pF n l with
  |false=>
   rw[bd] at hf;exact br [] (cw [(1,bv en l),(2,ah 2),(5,ah 1401),(6,ac 0)] (zq z n R (e' z R n p db lb))) <| cX <| ak hf <| d7 <| ak ha bc
  |true=>
   rw[bd] at hf;refine br [7,9,10,11,13,16,20] (cw [(1,bv en l),(2,ah 2),(5,ah 1401),(6,ac 0)] (zq z n R (e' z R n p db lb))) <| cX <| ak hf <| cX ?_;refine dG [7,9,10,11,13,16,20] (X:=Nat×bT) (fun g=>apU l g.1) (fun g=>zq z n R g.2) (fun g=>g.1<=l.length/\dP g.2/\g.2.z=z/\cl g.2.L g.2.aQ=n) (fun g=>l.length - g.1) (0,e' z R n p db lb) ⟨aq9 _,av,rfl,by show cl (qj z R n p) e1=n;rw[zg];omega⟩ ?_ ?_
   .exact ab.sub az az
   rintro⟨k,w⟩ ⟨Z,aq,lO,cu⟩;have Z:k<=l.length:=Z;have aq:dP w:=aq;have lO:w.z=z:=lO;have cu:cl w.L w.aQ=n:=cu;refine⟨fun h=>?_,fun h=>?_⟩
   .have b':k < l.length:=by
     have h:decide ((k:Int) < (l.length:Int))=true:=h;simpa using h
    refine⟨aw0,l[k],iR (n:=k) b',?_⟩;have h4:=as3 b';generalize l[k]=o at h4;have d':=ap.step h4;have vP:=zb w aq (ct o) (ap.EB bd h4);refine⟨rfl,bk.gz ee aw3 <| hp d'.x fun _=>hp vP fun g=>?_⟩;obtain⟨⟨e,w'⟩,aC⟩:=g;have pH:dP w':=aq.step aC;have rh:md w w':=fy.dZ aq aC;refine⟨aw0,(k+1,w'),⟨by show k+1<=l.length;omega,pH,rh.bi.trans lO,rh.aS.trans cu⟩,by show l.length - (k+1) < l.length - k;omega,ab.sub az az⟩
   .have rs:=zf w aq Ye (pE.of aw1 aw1 aw1 rfl) rfl rfl;refine bk.gz ee aw3 ?_;refine hp rs fun g=>?_
    obtain⟨⟨q6,kb⟩,tq⟩:=g;have tr:dP kb:=aq.step tq;have EE:md w kb:=fy.dZ aq tq;have apX:kb.z=z:=EE.bi.trans lO;have O9:cl kb.L kb.aQ=n:=EE.aS.trans cu
    have apY:kb.bD= .no:=by
     rcases tq.Yd rfl with⟨h,_,e⟩ |⟨_,_,e⟩
     .have e:kb=w:=e;rw[e];exact h
     .have e:kb={w with bD:=.no}:=e;rw[e]
    have apZ:ou kb.z kb.L kb.aQ 0 (((n:Nat):Int)*((2 ^((z:Nat):Int).toNat:Nat):Int))=(pG kb,0):=by
     rw[kn,<-O9,<-apX];exact Yc tr
    have kH:=EC kb tr.cs 0 (((n:Nat):Int)*((2 ^((z:Nat):Int).toNat:Nat):Int));rw[apZ] at kH;have ji:=zf kb tr ⟨7,0,(n:Int),[],sl,[],[]⟩ (pE.of (aq9 _) (show 5<=1000000 by decide) (by show((n:Nat):Int)<=_;omega) rfl) rfl rfl
    have uE: ∀{w':bT} {e:Int},fy kb ⟨7,0,(n:Int),[],sl,[],[]⟩ e w'->e=0->zp (pG kb) n 0 w':=fun aC U=>by
     have:=apR tr apY rfl rfl rfl (by show((n:Nat):Int)=_;rw[O9]) aC U
     rwa[O9] at this
    generalize pG kb=F at kH uE;refine br [11,13,16,20] (cw [(1,bv en l),(2,ah 2),(5,ah 1401)] (zq z n R kb)) ⟨⟨aw0,aw0,aw0⟩,?_⟩;refine⟨⟨by rw[kn];omega,by rw[kn];omega⟩,ak kH <| bk.gz ee aw3 <| hp ji fun g=>?_⟩;obtain⟨⟨nG,O'⟩,ap0⟩:=g;refine⟨fun _=>?_,fun U=>?_⟩
    .exact ak ha bc
    have U:(!decide (nG=0))=false:=U;have a2:=uE ap0 (by simpa using U);have a2:zp F n 0 O':=a2;refine br [16,20] (cw [(1,bv en l),(2,ah 2),(5,ah 1401),(9,bv .u8 F)] (zq z n R O')) ⟨aw0,dG [16,20] (X:=Nat×bT) (fun g=>apV l n F g.1) (fun g=>zq z n R g.2) (fun g=>g.1<=n+1/\zp F n g.1 g.2) (fun g=>n+1 - g.1) (0,O') ⟨aq9 _,a2⟩ ?_ ?_⟩
    .exact ab.sub az az
    rintro⟨i,w⟩ ⟨aG,a2⟩;have aG:i<=n+1:=aG;have a2:zp F n i w:=a2;refine⟨fun h=>?_,fun h=>?_⟩
    .have dJ:i < n+1:=by
      have h:decide ((i:Int) < ((n:Nat):Int)+1)=true:=h;have:=gd h;omega
     have gJ:=zf w a2.ok IT (pE.of aw1 aw1 aw1 rfl) rfl rfl;refine bk.gz ee aw3 ?_;refine hp gJ fun g=>?_
     obtain⟨⟨e,w'⟩,aC⟩:=g;obtain⟨hE,fR⟩:=apT a2 aw0 rfl aC;refine⟨fun U=>?_,fun U=>?_⟩
     .have U:(!decide (e=0))=true:=U;have eD:=fR (by simpa using U);refine ak ha <| d7 ?_;exact ej bq rfl (show decide ((i:Int)=(n:Int))=true by rw[eD];simp)
     have U:(!decide (e=0))=false:=U;have qt:=hE (by simpa using U);refine⟨aw0,(i+1,w'),⟨by show i+1<=n+1;omega,qt⟩,by show n+1 - (i+1) < n+1 - i;omega,ab.sub az az⟩
    .have ox:i=n+1:=by
      have h:decide ((i:Int) < ((n:Nat):Int)+1)=false:=h;have:=mu h;omega
     have aq:=a2.ok;rcases a2.st with⟨_,_,_,h,_⟩ |⟨_,V,ap1,ap2,ap3⟩
     .omega
     have gM:=Fn.lW (b:=w.lb) [1002] 1301 (U7 aq.q.tolE sl);have cH:=IH aq.q.tolE w.lb;rw[ap1,ap2] at gM;rw[ap3] at cH;refine br [] (cw [(1,bv en l),(2,ah 2),(5,ah 1401),(9,bv .u8 F)] (zq z n R w)) <| ak (BC w) <| ak gM <| ak ha <| d7 <| d7 ⟨fun _=>ak (BB w) ?_,fun h=>absurd h aw2⟩;exact⟨fun _=>ak (BC w) <| ak cH <| ej bq rfl (show decide (sl=sl)=true by decide),fun h=>absurd h (by rw[V];decide)⟩
end
end Go.Proofs.YtkfbeijmgggkmaaGreat
