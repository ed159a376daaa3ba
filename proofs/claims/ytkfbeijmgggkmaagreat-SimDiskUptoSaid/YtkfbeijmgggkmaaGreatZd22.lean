/-
A part of the proof of this claim: lemmas, with no condition beyond what each says.
-/
import Derived.Test.YtkfbeijmgggkmaaGreatZd21
set_option linter.unusedVariables false
set_option linter.unusedSimpArgs false
set_option maxRecDepth 10000
set_option maxHeartbeats 4000000
namespace Go.Proofs.YtkfbeijmgggkmaaGreat
open Go.RowKit Go.Proofs
section
section
variable {z R:Nat} {L vN:List aL}
theorem apy (aa: ∀n d,dk L n=some d->dk vN n=some d) (ht: ∀d,d∈L->d.back≠[]-> ∃e,dk L d.back=some e) {n:aC3} {k:Nat} (h:ed L n k) (au: ∃d,dk L n=some d):c4 vN k n=c4 L k n:=by
 induction h with
 |gone h=>obtain⟨d,H⟩:=au;rw[h] at H;cases H
 |base h O=>rfl
 |step h O aw bq=>
  unfold c4;rw[h,aa _ _ h];simp only;rw[bq (ht _ (cR h).1 O)]
theorem X8 {c:Nat} (aa: ∀n d,dk L n=some d->dk vN n=some d): ∀(ns:List aC3) (i:Nat),(∀n,n∈ns-> ∃d,dk L n=some d)->hs z vN c ns i=hs z L c ns i
 | [],_,_=>rfl
 |n::ns,i,h=>by
  obtain⟨d,H⟩:=h n (ar2 ..);unfold hs;rw[H,aa _ _ H];simp only;rw[X8 aa ns (i+1) fun n hn=>h n (aq2 _ hn)]
theorem apz (h:cb z R L) (aa: ∀n d,dk L n=some d->dk vN n=some d) {n:aC3} {d:aL} (H:dk L n=some d) (c:Nat):fu z vN n (cl vN n) c=fu z L n (cl L n) c:=by
 have cf:=(h.b5 n).1;have iu:=(h.b5 n).2;have A6:=Tn (L':=vN) (fun n d H=>⟨d,aa n d H,rfl⟩) h.iy cf ⟨d,H⟩;have e:cl vN n=cl L n:=rL A6 ay4;unfold fu;rw[e,apy aa h.iy cf ⟨d,H⟩,X8 aa _ _ (h.L6 ⟨d,H⟩)]
theorem apA {nm aR:aC3} {ad am:Nat} {d:aL} (h:cb z R L) (H:dk L aR=some d) (au:dk L nm=none) (G:cb z R (kP L nm aR ad am (gi z d.im.t.length R))):kS z (kP L nm aR ad am (gi z d.im.t.length R)) nm=kS z L aR:=by
 have aa: ∀n e,dk L n=some e->dk (kP L nm aR ad am (gi z d.im.t.length R)) n=some e:=fun n e U=>by rw[yo,U];rfl
 have ID:dk (kP L nm aR ad am (gi z d.im.t.length R)) nm=some ⟨nm,aR,ad,am,gi z d.im.t.length R,none⟩:=by rw[yo,au,if_pos rfl];rfl
 have i6:aR≠[]:=Dh h ⟨d,H⟩;have en:=L7 G ID i6;have en:cl (kP L nm aR ad am (gi z d.im.t.length R)) nm=cl (kP L nm aR ad am (gi z d.im.t.length R)) aR+1:=en;have ak:(gi z d.im.t.length R).t.length=d.im.t.length:=ar7;unfold kS;rw[ID,H];simp only;rw[ak];refine Tq (N:=d.im.t.length) (fun c J=>?_) _ (aq0 _);rw[yp ID (fun bf=>bf.2 (by show((List.replicate d.im.t.length ck).getD c ck).1=0;rw[aq3,List.getElem?_replicate];split <;>rfl)),en,L5 ID];exact apz h aa H c
theorem X9 {nm:aC3} {a l:Int} (U:(iQ L nm a l).e≠0):(iQ L nm a l).L=L:=by
 unfold iQ at U⊢
 split at U
 .rfl
 .split at U
  .rename_i c;rw[if_pos c]
  .exact absurd rfl U
theorem i0.X' {L':List aL} {t top base:aC3} (h:cb z R L) (ak:i0 L t L'):hG L' top base=hG L top base:=by
 rcases ak with rfl |⟨d,im,H,aw,rfl⟩
 .rfl
 .exact(aho h H aw).2
end
def jW (w:b0):Prop:=match w.bM with
 | .de top base l _=>lc w.z w.R w.L top base l/\rS w.z w.L top base l
 | .pl top base _=>hG w.L top base=true
 |_=>True
abbrev gp (w:b0):aC3:=kS w.z w.L w.aR
theorem O1 (w:b0) (a aX:Int) (r:mY):gp (gI w a aX r)=kS w.z r.L w.aR:=by
 unfold gI
 split <;>rfl
theorem jW.no {w:b0} (h:w.bM= .no):jW w:=by
 unfold jW;rw[h]
 trivial
theorem jW.s7 {w:b0} (ap:eX w) (aj:jW w) {a aX:Int} {r:mY} (lo:i0 w.L w.aR r.L) (apB:r.e≠0->r.L=w.L)
  (hw:r.e=0->vF w.bM=true-> ∃a' N:Nat,a=a'/\aX=N/\ ∀s,¬(a'<=s/\s < a'+N)->fY w.z r.L w.aR s=fY w.z w.L w.aR s):jW (gI w a aX r):=by
 have hP:=ap.bM;have e8:=ap.cs;obtain⟨z,R,L,aR,db,ds,es,M,lb,Q,b,bM,bH⟩:=w;unfold gI
 cases bM with
 |no=>split <;>exact jW.no rfl
 |pu nm n rm l g over done=>
  unfold p8
  split
  .simp only
   split
   .trivial
   .trivial
  .simp only
   split
   .trivial
   .trivial
 |pl top base over=>
  have aj:hG L top base=true:=aj;have O:hG r.L top base=true:=by rw[lo.X' e8];exact aj
  split <;>exact O
 |de top base l over=>
  obtain⟨rfl,rfl,_⟩:=hP;obtain⟨cV,xN⟩:lc z R L top base l/\rS z L top base l:=aj
  by_cases U:r.e=0
  .rw[if_pos U];obtain⟨a',N,rfl,rfl,aw⟩:=hw U rfl;exact⟨(cV.rR lo).wr false _ _,ahV cV xN lo aw⟩
  .rw[if_neg U];show lc z R r.L top base l/\rS z r.L top base l;rw[apB U];exact⟨cV,xN⟩
theorem jW.step {w w':b0} (ap:eX w) (aj:jW w) {s:dE} {e:Int} (ax:gJ w s e w'):jW w':=by
 cases ax with
 |write h=>
  refine aj.s7 ap (wL ap.cs _ _ _) (GY ap.cs) fun U _=>?_
  obtain⟨_,_,_,ha,_⟩:=GV U;refine⟨s.a.toNat,s.b.length/16,ha,ay4,fun t cq=>?_⟩;show jt _ _ _ _ _=jt _ _ _ _ _;rw[GW ap.cs U t,if_neg cq]
 |zero h=>
  refine aj.s7 ap (Di ap.cs _ _ _) (Mg ap.cs) fun U _=>?_
  obtain⟨_,_,ha,ak,_⟩:=Md U;refine⟨s.a.toNat,s.l.toNat,ha,ak,fun t cq=>?_⟩;show jt _ _ _ _ _=jt _ _ _ _ _;rw[Me ap.cs U t,if_neg cq]
 |En h aA=>exact aj.s7 ap (tV ap.cs _ _ _) X9 fun _ aZ=>by rw[aA] at aZ;cases aZ
 |over h V ax=>obtain⟨_,_,_,⟨_,rfl⟩ |⟨_,rfl⟩⟩:=ax <;>exact jW.no V
 |merge h V ax=>
  obtain⟨U,⟨au,b,rfl⟩ |⟨_,rfl⟩⟩:=ax
  .rw[au] at U;exact⟨lc.G8 ap.cs U.symm,ahS ap.cs U.symm⟩
  .exact aj
 |pull h V ax=>
  obtain⟨U,⟨au,b,rfl⟩ |⟨_,rfl⟩⟩:=ax
  .rw[au] at U;show hG w.L w.aR s.fp=true;unfold tZ at U
   split at U
   .exact absurd U ay5
   .split at U
    .exact absurd U ay5
    .rename_i hn;exact av2 fun O=>hn (.inl (aw7.2 O))
  .exact aj
 |push h V ax=>
  rcases ax with⟨_,_,rfl⟩ |⟨hn,⟨_,⟨_,_,rfl⟩ |⟨_,_,b,rfl⟩⟩ |⟨_,_,_,rfl⟩ |⟨_,x,hx,⟨_,_,rfl⟩ |⟨_,⟨_,_,rfl⟩ |⟨_,_,b,ke,rfl⟩⟩⟩⟩
  all_goals first |exact aj |trivial
 | @Bn h top base l V=>
  have hP:=ap.bM;unfold jW at aj;rw[V] at hP aj;obtain⟨cV,xN⟩:=aj
  split
  .exact jW.no rfl
  .exact⟨(cV.step false).1,(TZ cV xN).1⟩
 | @Bo h top base V=>
  unfold jW at aj;rw[V] at aj;have aj:hG w.L top base=true:=aj;have hP:=ap.bM;rw[V] at hP;obtain⟨rfl,_⟩:=hP
  split
  .exact jW.no rfl
  .rename_i ah;show hG (hS w.z w.L w.aR base false).L w.aR base=true;obtain⟨d,H⟩:=at4.1 ap.kd;unfold hS at ah⊢;rw[if_neg (by rw[ap.kd];decide)] at ah⊢
   cases hn:om w.L w.aR base with
   |some k=>
    show hG (fe w.z w.L w.aR ((k*2 ^w.z:Nat):Int) (gy w.z w.L w.aR (k:Int))).L w.aR base=true;rw[(wL ap.cs _ _ _).X' ap.cs];exact aj
   |none=>
    rw[hn] at ah;exact absurd (show decide ((h8 w.L w.aR base).e=0)=true by rw[Mu ap.cs H aj];rfl) ah
 | @Bp h nm n rm l g V e w' ax=>
  rcases ax with⟨rfl,t,ax,rfl⟩ |⟨ak,rfl,rfl⟩
  .exact jW.no rfl
  .split
   .exact jW.no rfl
   .trivial
 |OM h V=>exact jW.no rfl
 |oE h t=>exact jW.no rfl
 |drop h ax=>
  rcases ax with⟨_,_,rfl⟩ |⟨_,J⟩
  .exact aj
  .rw[y5 J];exact aj
 |_=>exact aj
theorem apC {w w':b0} (ap:eX w) (aj:jW w) {s:dE} {e:Int} (ax:gJ w s e w') (hn:e≠0\/s.kd < 0\/2 < s.kd):gp w'=gp w:=by
 obtain⟨d,H⟩:=at4.1 ap.kd
 cases ax with
 |write h=>rw[O1,GY ap.cs ay4]
 |zero h=>rw[O1,Mg ap.cs ay4]
 |En h aA=>rw[O1,X9 ay4]
 |over h V ax=>
  obtain⟨p,d7,U,⟨au,rfl⟩ |⟨au,rfl⟩⟩:=ax
  .obtain⟨bZ,_,cg⟩:=Bq.1 (U.symm.trans au);show kS w.z (hR w.z w.R w.L s.nm ((ek w:Nat):Int) w.aR p).L s.nm=_;rw[cg] at d7⊢
   have aN:((ek w:Nat):Int).toNat=d.im.t.length:=by
    show ek w=_;unfold ek b4;rw[H]
   rw[aN] at d7⊢;exact apA ap.cs H bZ d7
  .rw[Bq.2 (fun h=>au (U.trans h))]
 |merge h V ax=>obtain⟨_,⟨_,b,rfl⟩ |⟨_,rfl⟩⟩:=ax <;>rfl
 |pull h V ax=>obtain⟨_,⟨_,b,rfl⟩ |⟨_,rfl⟩⟩:=ax <;>rfl
 |push h V ax=>
  rcases ax with⟨_,_,rfl⟩ |⟨hn,⟨_,⟨_,_,rfl⟩ |⟨_,_,b,rfl⟩⟩ |⟨_,_,_,rfl⟩ |⟨_,x,hx,⟨_,_,rfl⟩ |⟨_,⟨_,_,rfl⟩ |⟨_,_,b,ke,rfl⟩⟩⟩⟩ <;>rfl
 | @Bn h top base l V=>
  have hP:=ap.bM;unfold jW at aj;rw[V] at hP aj;obtain⟨rfl,_⟩:=hP;exact(TZ aj.1 aj.2).2
 | @Bo h top base V=>
  unfold jW at aj;rw[V] at aj;have aj:hG w.L top base=true:=aj;have hP:=ap.bM;rw[V] at hP;obtain⟨rfl,_⟩:=hP;show kS w.z (hS w.z w.L w.aR base false).L w.aR=_;unfold hS;rw[if_neg (by rw[ap.kd];decide)]
  cases ai:om w.L w.aR base with
  |some k=>
   show kS w.z (fe w.z w.L w.aR ((k*2 ^w.z:Nat):Int) (gy w.z w.L w.aR (k:Int))).L w.aR=_;have aa:=(TQ ai).2.1;have aN:b4 w.L w.aR=d.im.t.length:=az9
   exact ag8 ap.cs H ay4
  |none=>
   show kS w.z (h8 w.L w.aR base).L w.aR=_;rw[Mu ap.cs H aj];exact(ahp ap.cs H aj ai).2
 | @Bp h nm n rm l g V e w' ax=>
  rcases ax with⟨rfl,t,ax,rfl⟩ |⟨ak,rfl,rfl⟩ <;>rfl
 |drop h ax=>
  rcases ax with⟨_,_,rfl⟩ |⟨_,J⟩
  .rfl
  .rw[y5 J]
 |_=>rfl
theorem Bs {w:b0} (ap:eX w):(gp w).length=16*(b4 w.L w.aR*2 ^w.z):=by
 obtain⟨d,H⟩:=at4.1 ap.kd;unfold gp kS b4;rw[H];exact C5 ap.cs.tont H (ap.cs.b5 _).1 0 _
theorem Er {w:b0} (ap:eX w) {j:Nat} (V:j < b4 w.L w.aR*2 ^w.z):kR (gp w) j=fY w.z w.L w.aR j:=by
 obtain⟨d,H⟩:=at4.1 ap.kd;unfold gp kS fY;unfold b4 at V;rw[H] at V⊢;have:=apw ap.cs H 0 _ j V;rw[au1] at this;exact this
theorem apD {w:b0} (ap:eX w):rM w.z w.L w.aR 0 ((b4 w.L w.aR*2 ^w.z:Nat):Int)=(gp w,0):=by
 obtain⟨d,H⟩:=at4.1 ap.kd;have aN:b4 w.L w.aR=d.im.t.length:=az9
 rw[agX ap.cs H (by rw[AG ap.cs H,aN];exact aq0 _)];unfold gp kS;rw[H,aN]
end
section
theorem apE {P:Program} {N:Nat} {ids:aC4} {o:Oper} {K:aY} {B:az} {kz:Call} {T eJ e ae ao:TypeId} {x y:Operand} {c s off n:Nat} {xs ys:aC3} (ah:o.op= .call kz) (dL:kz.callee= .builtin .copy) (dS:kz.args.toList=[x,y]) (k':kz.argTypes.toList=[T,eJ])
  (a6:P.underlying T=some (.slice e)) (cC:(P.info? e).map (·.size)=some 1) (hx:a2 K x= .c (.one (.os c 1 off n))) (aD:a2 K y= .c (.one (.own s))) (c5:ag B c=some (.row ae .u8 xs)) (apF:ag B s=some (.row ao .u8 ys)) (kl:off+n<=xs.length):
  bA P N ids o K B (.c (.one .any)) ⟨[c,s],[],[(c,some (.row ae .u8 (laid xs off n ys)))]⟩:=by
 have e9:kz.args= #[x,y]:=au7.1 dS;have iV:kz.argTypes= #[T,eJ]:=au7.1 k';obtain⟨rb,args,cv⟩:=kz;simp only at dL e9 iV;subst dL e9 iV;have m1:x∈o.op.operands:=az5
 have m2:y∈o.op.operands:=az5
 rintro K' B' E G - C a w ⟨hn,H,ρ,F,aj,ar⟩ bt fJ Q cV;have cK:ag B' c=some (.row ae .u8 xs):=(G c ay6).trans c5;have d6:ag B' s=some (.row ao .u8 ys):=(G s ay6).trans apF;obtain⟨bh,jh,cs,dw,ji⟩:=aj.holds c _ cK;obtain⟨j1,aqX,JE,BU,Fg⟩:=aj.holds s _ d6;have E9:=dw;have apG:=BU;obtain⟨dH,A,cap,ay,_,_,_⟩:=fC.ps E9;obtain⟨apH,yM,aqY,tw,_,_,_⟩:=fC.ps apG;have re:(ρ c).n=xs.length:=by unfold bn.ef at ay;injection ay
 have e8:cs=xs.map hj:=JF ji (by have:=dH;simp[aQ] at this;exact this);have apI:JE=ys.map hj:=JF Fg (by have:=apH;simp[aQ] at this;exact this);have Fi:=fC.ps BU;have MO:a.eval y=(ρ s).ef:=ar.own ((E y m2).trans aD);rw[<-MO,apI] at Fi
 obtain⟨nT,dCap,JG,qi⟩: ∃nT dCap,a.eval x= .slice nT n dCap/\(0 < n-> ∀g cap,(ρ c).ef= .slice (some ⟨g,0,none⟩) xs.length cap->xs.length<=cap->nT=some ⟨g,off,none⟩):=⟨_,_,ar.os ((E x m1).trans hx),fun ai g cap ay ZZ=>by
  unfold bn.ef at ay;injection ay with ae ao bm
  rw[if_neg ay4,ae,av4,pr];simp⟩
 obtain⟨r,w',dN,cy,fK⟩:=P2 (P:=P) (w:=w) (dT:=T) (sT:=eJ) (ty:=o.type) a6 cC (dCap:=dCap) dw qi kl Fi (IF _)
 obtain⟨bI,U⟩:=aj.hI (w':=w') (ch:=.row ae .u8 (laid xs off n ys)) cK (cy.mono fun b _ O=>(bh b).2 O) fun I a1=>⟨bh,jh,List.take off cs++List.take n (List.map hj ys)++List.drop (off+(List.take n (List.map hj ys)).length) cs,by
  have bm:List.length (α:=Z .u8) (laid xs off n ys)=List.length (α:=Z .u8) xs:=Fh xs ys kl;show w'.ownsRow 0 ae 1 (ρ c).ef (List.length (α:=Z .u8) (laid xs off n ys)) _;rw[bm]
  exact fK,by
  rw[e8];have ae:=P5 xs ys off n;rw[ae];exact P6 I w' _⟩
 unfold Oper.wp;rw[show(execOp a.eval o).run P w= .ok (.value r) w' by simp[execOp,ah,resolve,invoke,builtin,JG,dN],Oper.upon_value];exact cV _ _ ⟨ki.trans hn,kj.trans H,ρ,F,bI,(ar.mono U fun _ _ _=>rfl).kk (fun e U=>by rw[hn];exact bt e U) trivial⟩
end
end Go.Proofs.YtkfbeijmgggkmaaGreat
