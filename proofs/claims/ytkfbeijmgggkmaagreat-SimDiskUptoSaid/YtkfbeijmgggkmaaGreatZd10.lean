/-
A part of the proof of this claim: lemmas, with no condition beyond what each says.
-/
import Derived.DeepKeys
import Derived.Laws.MakeOwn
import Derived.Laws.StructEq
import Derived.Test.YtkfbeijmgggkmaaGreatZd9
set_option linter.unusedVariables false
set_option linter.unusedSimpArgs false
set_option maxRecDepth 10000
set_option maxHeartbeats 4000000
namespace Go.Proofs.YtkfbeijmgggkmaaGreat
open Go.RowKit Go.Proofs
section
abbrev tF (fn:FuncId) (tmps:Array Value) (bD:Array Nat) (assign body:Code) (D:Nat) (st:LoopState):Loop:={state:=st,pending:=none,fn:=fn,tmps:=tmps,params:=bD,assign:=assign,body:=body,defers:=D}
def Gc (mC:Nat->bn) (h2:aC4) (lr:Nat->Prop) (sC:World) (l:Nat) (rec:Loop) (c:Nat) (B:az) (I F:Nat->Prop) (w:World) (p:bn):Prop:=
 cm lr sC I w/\w.heap[l]? =some (.loop rec)/\ ∃(ρ:Nat->bn) (ce:Nat->Nat->Prop),ρ c=p/\(∀d,d∈h2->ρ d=mC d)/\(∀d ch,ag B d=some ch->Holds ρ I (ce d) w (ρ d) ch)/\
  (∀d c3 ch ch' b,ag B d=some ch->ag B c3=some ch'->d≠c3->ce d b-> ¬ce c3 b)/\(∀d ch,ag B d=some ch-> ¬ce d l)/\ ∀b,F b↔b=l\/ ∃d ch,ag B d=some ch/\ce d b
def bc.nQ (mC:Nat->bn) (h2:aC4) (lr:Nat->Prop) (sC:World) (l:Nat) (rec:Loop) (c:Nat) (B:az):bc where
 bo:=Gc mC h2 lr sC l rec c B
 cp:=fun I F w I' w' p ⟨au,ak,ρ,ce,E,tq,G,af,BP,aW⟩ U bh aN=>
  ⟨au.trans U,(bh l ((aW l).2 (.inl rfl))).trans ak,ρ,ce,E,tq,fun d ch H=>Holds.cp U (fun b O=>bh b ((aW b).2 (.inr ⟨d,ch,H,O⟩))) aN ch (fun _ _=>rfl) (G d ch H),af,BP,aW⟩
def x0 (l:aC4):List aP->Bool
 | []=>true
 |v::aE=>v.i7 l&&x0 l aE
theorem KJ {l:aC4}: ∀{aE:List aP},x0 l aE=true-> ∀{i:Nat} {v:aP},aE[i]? =some v->v.i7 l=true
 | [],_,i,v,h=>by simp at h
 |x::aE,h,i,v,ay=>by
  simp only[x0,vj] at h
  match i with
  |0=>
   simp only[ar3,aq4] at ay;exact ay▸h.1
  |i+1=>exact KJ h.2 (i:=i) aA6
def CN (l:aC4):aY->Bool
 | []=>true
 |(_,v)::K=>v.i7 l&&CN l K
theorem KK {l:aC4}: ∀{K:aY},CN l K=true-> ∀s,(dI K s).i7 l=true
 | [],_,s=>rfl
 |(t,v)::K,h,s=>by
  simp only[CN,vj] at h;rw[kD]
  split
  .exact h.1
  .exact KK h.2 s
section
variable {P:Program} {aS:dg} {N:Nat} {mC:Nat->bn} {h2:aC4} {lr:Nat->Prop} {sC:World} {l:Nat} {rec:Loop} {c:Nat}
theorem n4 {c:Nat} {ch:ba}:ag [(c,ch)] c=some ch:=aA1
theorem uT {c d:Nat} {ch ch':ba} (h:ag [(c,ch)] d=some ch'):d=c/\ch'=ch:=by
 rw[cd] at h
 split at h
 .rename_i e;injection h with h;exact⟨e.symm,h.symm⟩
 .cases h
theorem adD {f:FuncId} {args:List aP} {res:aP} {pH o4:az} (h:Fn P f args pH [] res o4) (ha:x0 [c] args=true) (ax:res.i7 []=true):
  Fn P f args [(c,.aG (bc.nQ mC h2 lr sC l rec c pH))] [] res [(c,.aG (bc.nQ mC h2 lr sC l rec c o4))]:=by
 refine⟨h.1,fun ρ F I w bU a8 cZ bh eE bV dy=>?_⟩;have hP:Gc mC h2 lr sC l rec c pH I (F c) w (ρ c):=cZ c _ n4;obtain⟨au,ak,o1,ce,cA,x1,cF,dF,z2,fj⟩:=hP;have mJ: ∀b,F c b->b < w.heap.size/\ ¬I b:=fun b O=>bh c _ n4 b O
 have mT:l < w.heap.size:=l3 ak;have x2: ¬ ∃d ch,ag pH d=some ch/\ce d l:=fun⟨d,ch,H,aZ⟩=>z2 d ch H aZ
 refine(h.2 o1 ce I w bU a8 cF (fun d ch H b O=>mJ b ((fj b).2 (.inr ⟨d,ch,H,O⟩))) dF bV ?_).mono ?_
 .intro i v x ay hx;refine cw.mono (cm.refl _ _) v x (fun j V=>?_) (dy i v x ay hx);have:=aP.kK (KJ ha ay) V;rw[ar5] at this;subst this;exact cA
 .rintro e w' ⟨x,ρ',F',rfl,cy,dn,I',jk,gE,lK,ap,ic,sr⟩;have gf:w'.heap[l]? =some (.loop rec):=(cy.block l mT x2).trans ak
  have z6: ¬I' l:=fun aF=>by
   rcases(gE l aF).2 with h |h |h
   .exact(mJ l ((fj l).2 (.inl rfl))).2 h
   .exact x2 h
   .omega
  refine⟨x,ρ,fun d=>if d=c then(fun b=>b=l\/ ∃d ch,ag o4 d=some ch/\F' d b) else F d,rfl,cy.mono fun b _ ⟨d,ch,H,aZ⟩=>⟨c,_,n4,(fj b).2 (.inr ⟨d,ch,H,aZ⟩)⟩,fun _ _=>rfl,I',jk,fun b O=>⟨(gE b O).1,?_⟩,?_,?_,?_,?_⟩
  .rcases(gE b O).2 with h |⟨d,ch,H,aZ⟩ |h
   .exact .inl h
   .exact .inr (.inl ⟨c,_,n4,(fj b).2 (.inr ⟨d,ch,H,aZ⟩)⟩)
   .exact .inr (.inr h)
  .intro d ch H;obtain⟨rfl,rfl⟩:=uT H;simp only[if_true];refine⟨au.trans jk,gf,ρ',F',(dn _ ay6).trans cA,fun d H=>(dn d ay6).trans (x1 d H),lK,ic,fun d ch H aZ=>?_,fun b=>Iff.rfl⟩;rcases(ap d ch H l aZ).2.2 with h |h
   .exact x2 h
   .omega
  .intro d ch H b O;obtain⟨rfl,rfl⟩:=uT H;simp only[if_true] at O;rcases O with rfl |⟨d,ch,H,O⟩
   .exact⟨l3 gf,z6,.inl ⟨_,_,n4,(fj _).2 (.inl rfl)⟩⟩
   .obtain⟨r1,r2,gg⟩:=ap d ch H b O;exact⟨r1,r2,gg.imp (fun⟨d,ch,H,aZ⟩=>⟨_,_,n4,(fj b).2 (.inr ⟨d,ch,H,aZ⟩)⟩) id⟩
  .intro d c3 ch ch' b H dq a7;exact absurd ((uT H).1.trans (uT dq).1.symm) a7
  .exact cw.mono (cm.refl _ _) res x (fun j V=>by have:=aP.kK ax V;cases this) sr
def CO:aC4->List aP->aY->aY
 | [],_,K=>K
 |p::pl,aE,K=>match aE with
  | []=>K
  |v::aE=>CO pl aE ((p,v)::K)
theorem RN {ρ:Nat->bn} {I:Nat->Prop} {w:World}: ∀(pl:aC4) (aE:List aP) (bU:List Value) (K:aY) (t:Array Value),bU.length=aE.length->(∀p,p∈pl->p < t.size)->(∀(i:Nat) (v:aP) (x:Value),aE[i]? =some v->bU[i]? =some x->cw ρ I w v x)->
  (∀s,cw ρ I w (dI K s) (t.getD s undef))->(((pl.zip bU).foldl (fun t (p:Nat×Value)=>t.setIfInBounds p.1 p.2) t).size=t.size/\ ∀s,cw ρ I w (dI (CO pl aE K) s) (((pl.zip bU).foldl (fun t (p:Nat×Value)=>t.setIfInBounds p.1 p.2) t).getD s undef))
 | [],aE,bU,K,t,_,_,_,h=>⟨rfl,h⟩
 |p::pl,[],[],K,t,_,_,_,h=>⟨rfl,h⟩
 |p::pl,[],_::_,K,t,ak,_,_,h=>by simp at ak
 |p::pl,_::_,[],K,t,ak,_,_,h=>by simp at ak
 |p::pl,v::aE,x::bU,K,t,ak,ai,ay,h=>by
  have adE:=ai p (ar2 ..)
  obtain⟨g1,g2⟩:=RN pl aE bU ((p,v)::K) (t.setIfInBounds p x) aC1 (fun q aT=>by rw[Array.size_setIfInBounds];exact ai q (aq2 _ aT)) (fun i u y a6 aD=>ay (i+1) u y (by simpa using a6) (by simpa using aD)) (fun s=>by
   rw[kD]
   by_cases e:p=s
   .subst e;rw[if_pos rfl];have:(t.setIfInBounds p x).getD p undef=x:=by simp[adE]
    rw[this];exact ay 0 v x rfl rfl
   .rw[if_neg e];have:(t.setIfInBounds p x).getD s undef=t.getD s undef:=by simp[aw1 e]
    rw[this];exact h s)
  refine⟨?_,g2⟩;rw[List.zip_cons_cons,List.foldl_cons];exact g1.trans (Array.size_setIfInBounds)
theorem Mem.RO {ids:aC4} {C:fg} {B:az} {ρ:Nat->bn} {F:Nat->Nat->Prop} {w:World} (h:Mem ids C B ρ F w) (bh: ∀b,C.zb b-> ¬C.qd b):cm C.zb C.fZ (bX C B F w) w:=fun b O=>by
 have E:=h.k0.2.1 b (.inl O);refine⟨⟨ar6 E h.fr.size,.inl O,fun c ch J hf=>?_⟩,h.fr.block b E (bh b O)⟩;rcases(h.own c ch J b hf).2 with G |G
 .exact bh b O G
 .have:=G.1;omega
theorem adF (bl:ec P aS) {fn:FuncId} {tmps:Array Value} {bD:Array Nat} {pl:aC4} {assign body:Code} {D:Nat} (lI:bD.toList=pl) (hl: ∀p,p∈pl->p < N) (cC:tmps.size=N) (KL:jF P N assign=true) (CL:jF P N body=true)
  {la:aY} (KM:CN h2 la=true) (J:c∈h2) (hB: ∀s,cw mC lr sC (dI la s) (tmps.getD s undef)) (stops:aC4) {aE:List aP} (rf:aE.length=pl.length) (Kk:x0 [] aE=true) {pH o4:az}
  (adG:jB P aS N (0::h2) stops assign (CO pl aE la) pH (fun e K B=>e= .g7/\jB P aS N (0::h2) stops body K B (fun e K B=>e= .g7/\ac (0::h2) K B [] o4))):
  xO P l aE [(c,.aG (bc.nQ mC h2 lr sC l (tF fn tmps bD assign body D .ready) c pH))] (fun _:Unit=>q5 true) (fun _=>[(c,.aG (bc.nQ mC h2 lr sC l (tF fn tmps bD assign body D .ready) c o4))]):=by
 intro ρ F I w bU a8 cZ bh eE bV dy;have hP:Gc mC h2 lr sC l (tF fn tmps bD assign body D .ready) c pH I (F c) w (ρ c):=cZ c _ n4;obtain⟨au,ak,o1,ce,cA,x1,cF,dF,z2,fj⟩:=hP;have mJ: ∀b,F c b->b < w.heap.size/\ ¬I b:=fun b O=>bh c _ n4 b O
 have mT:l < w.heap.size:=l3 ak;have x2: ¬ ∃d ch,ag pH d=some ch/\ce d l:=fun⟨d,ch,H,aZ⟩=>z2 d ch H aZ
 have adH: ¬I l:=(mJ l ((fj l).2 (.inl rfl))).2;have x3: ∀{d ch b},ag pH d=some ch->ce d b->F c b:=fun {d ch b} H aZ=>(fj b).2 (.inr ⟨d,ch,H,aZ⟩)
 have aD:=run_yield (P:=P) (args:=bU.toArray) ak (by rw[List.size_toArray,bV,rf,<-lI,Array.length_toList]);refine⟨fn,_,assign,body,aD,roundIn_of_wpIn (F:=oQ none) trivial ?_⟩
 have adI:((bD.zip bU.toArray).foldl (fun tmps (x:Nat×Value)=>tmps.setIfInBounds x.1 x.2) tmps)=(pl.zip bU).foldl (fun t (p:Nat×Value)=>t.setIfInBounds p.1 p.2) tmps:=by
  rw[<-lI,<-Array.foldl_toList]
  congr 1
  simp
 obtain⟨g1,g2⟩:=RN (ρ:=o1) (I:=I) (w:=w) pl aE bU la tmps bV (fun p ai=>by rw[cC];exact hl p ai) (fun i v x ay hx=>cw.mono (cm.refl _ _) v x (fun j V=>by have:=aP.kK (KJ Kk ay) V;cases this) (dy i v x ay hx))
  (fun s=>cw.mono au _ _ (fun j V=>x1 j (aP.kK (KK KM s) V)) (hB s))
 let rs:fg:=⟨w,I,fun b=> ∃d ch,ag pH d=some ch/\ce d b,o1,[]⟩
 have sq:cm I w (bX rs pH ce w) w:=fun b O=>⟨⟨a8 b O,.inl O,fun d ch H aZ=>(mJ b (x3 H aZ)).2 O⟩,rfl⟩
 have kJ:Mem (0::h2) rs pH o1 ce w:=⟨cS.refl _ _,fun d ch H=>Holds.cp sq (fun _ _=>rfl) (aq0 _) ch (fun _ _=>rfl) (cF d ch H),fun d ch H b O=>⟨(mJ b (x3 H O)).1,.inl ⟨d,ch,H,O⟩⟩,dF,fun _ _=>rfl,av8,
  fun b O=>O.elim (a8 b) fun⟨d,ch,H,aZ⟩=>(mJ b (x3 H aZ)).1,fun D cf=>by cases cf⟩
 have h1:e2 N (0::h2) rs (CO pl aE la) pH ⟨(bD.zip bU.toArray).foldl (fun tmps (x:Nat×Value)=>tmps.setIfInBounds x.1 x.2) tmps,[]⟩ w:=by
  rw[adI];exact⟨g1.trans cC,rfl,o1,ce,kJ,fun s=>cw.mono sq _ _ (fun _ _=>rfl) (g2 s)⟩
 refine zD bl (zL bl) stops assign _ _ _ KL adG (some l) (fun h=>by simp[un] at h) rs _ ?_ _ w h1;rintro e Qs jG ds hX ⟨rfl,adJ⟩ bZ dX fS;have hX:ds=[]:=hX (by simp[un]);subst hX;obtain⟨cU,hJ,sv,cG,iW,adK⟩:=fS;have iW:Mem (0::h2) rs jG sv cG dX:=iW;have qc:dX.heap[l]? =some (.loop (tF fn tmps bD assign body D .ready)):=(iW.fr.block l mT x2).trans ak;have adL:=l3 qc
 have z6: ¬bX rs jG cG dX l:=fun aF=>by
  rcases aF.2.1 with h |h |h
  .exact adH h
  .exact x2 h
  .have h:w.heap.size<=l:=h.1;omega
 have Gd: ∀d ch,ag jG d=some ch-> ¬cG d l:=fun d ch H hf=>by
  rcases(iW.own d ch H l hf).2 with h |h
  .exact x2 h
  .have h:w.heap.size<=l:=h.1;omega
 refine⟨_,run_beginRound qc rfl,?_⟩;obtain⟨e6,uU⟩: ∃e6,e6=dX.putObj l (.loop {tF fn tmps bD assign body D .ready with state:=.busy}):=⟨_,rfl⟩;rw[<-uU];have CP:e6.heap.size=dX.heap.size:=by rw[uU,World.putObj_size]
 have KN: ∀b,b≠l->e6.heap[b]? =dX.heap[b]? :=fun b O=>by rw[uU];exact World.putObj_heap_other O
 have qg:e6.heap[l]? =some (.loop {tF fn tmps bD assign body D .ready with state:=.busy}):=by rw[uU];exact World.putObj_heap_same adL
 have KO:e6.os=dX.os/\e6.tape=dX.tape/\e6.output=dX.output:=by rw[uU];exact⟨rfl,rfl,rfl⟩
 let o5:fg:=⟨e6,bX rs jG cG dX,fun b=> ∃d ch,ag jG d=some ch/\cG d b,sv,[]⟩
 have so:cm (bX rs jG cG dX) dX (bX o5 jG cG e6) e6:=fun b O=>⟨⟨by rw[CP];exact O.1,.inl O,O.2.2⟩,KN b (fun e=>z6 (e▸O))⟩
 have adM:Mem (0::h2) o5 jG sv cG e6:=⟨cS.refl _ _,fun d ch H=>Holds.cp so (fun b O=>KN b (fun e=>Gd d ch H (e▸O))) (Nat.le_of_eq CP.symm) ch (fun _ _=>rfl) (iW.holds d ch H),fun d ch H b O=>⟨by rw[CP];exact(iW.own d ch H b O).1,.inl ⟨d,ch,H,O⟩⟩,iW.fh,fun _ _=>rfl,av8,
  fun b O=>by
   show b < e6.heap.size;rw[CP];exact O.elim (fun O=>O.1) fun⟨d,ch,H,aZ⟩=>(iW.own d ch H b aZ).1,fun D cf=>by cases cf⟩
 refine zD bl (zL bl) stops body _ _ _ CL adJ (some l) (fun h=>by simp[un] at h) o5 _ ?_ bZ e6 ⟨cU,hJ,sv,cG,adM,adK.mono so fun _ _ _=>rfl⟩;rintro e aqc aqd ds hX ⟨rfl,g8⟩ a3 iw adN;have hX:ds=[]:=hX (by simp[un]);subst hX;obtain⟨ls,qf,zS,tG,sD,aqe⟩:=g8 N (o5.at []) a3 iw adN;have sD:Mem (0::h2) o5 o4 zS tG iw:=sD;have RP:iw.heap[l]? =some (.loop {tF fn tmps bD assign body D .ready with state:=.busy}):=(sD.fr.block l (l3 qg) (fun⟨d,ch,H,aZ⟩=>Gd d ch H aZ)).trans qg;have RQ:=l3 RP
 have RR: ¬bX o5 o4 tG iw l:=fun aF=>by
  rcases aF.2.1 with h |h |h
  .exact z6 h
  .obtain⟨d,ch,H,aZ⟩:=h;exact Gd d ch H aZ
  .have h:e6.heap.size<=l:=h.1;omega
 have RS: ∀d ch,ag o4 d=some ch-> ¬tG d l:=fun d ch H hf=>by
  rcases(sD.own d ch H l hf).2 with h |h
  .obtain⟨d,ch,H,aZ⟩:=h;exact Gd d ch H aZ
  .have h:e6.heap.size<=l:=h.1;omega
 obtain⟨iY,nk⟩: ∃iY,iY=iw.putObj l (.loop (tF fn tmps bD assign body D .ready)):=⟨_,rfl⟩;have dN:(Instr.endRound l none).run P iw= .ok (.bool true) iY:=by rw[nk];exact run_endRound none RP
 refine⟨.bool true,iY,dN,?_⟩;have sE:iY.heap.size=iw.heap.size:=by rw[nk,World.putObj_size]
 have wz: ∀b,b≠l->iY.heap[b]? =iw.heap[b]? :=fun b O=>by rw[nk];exact World.putObj_heap_other O
 have adO:iY.heap[l]? =some (.loop (tF fn tmps bD assign body D .ready)):=by rw[nk];exact World.putObj_heap_same RQ
 have x4:iY.os=iw.os/\iY.tape=iw.tape/\iY.output=iw.output:=by rw[nk];exact⟨rfl,rfl,rfl⟩
 have adP:cm I w (bX rs jG cG dX) dX:=iW.RO fun b O ⟨d,ch,H,aZ⟩=>(mJ b (x3 H aZ)).2 O
 have adQ:cm (bX rs jG cG dX) dX (bX rs jG cG dX) e6:=fun b O=>⟨O,(so b O).2⟩
 have adR:cm (bX rs jG cG dX) e6 (bX o5 o4 tG iw) iw:=sD.RO fun b O ⟨d,ch,H,aZ⟩=>O.2.2 d ch H aZ
 have RT:cm (bX o5 o4 tG iw) iw (bX o5 o4 tG iw) iY:=fun b O=>⟨O,wz b (fun e=>RR (e▸O))⟩
 have RU:cm I w (bX o5 o4 tG iw) iY:=adP.trans (adQ.trans (adR.trans RT));have RV:=iW.fr.size;have RV:w.heap.size<=dX.heap.size:=RV;have z23:e6.heap.size<=iw.heap.size:=sD.fr.size
 have fq: ∀{b},(o5.qd b\/o5.fZ.heap.size<=b/\b∉o5.ds)->F c b\/w.heap.size<=b:=fun {b} h=>by
  rcases h with⟨d,ch,H,aZ⟩ |h
  .rcases(iW.own d ch H b aZ).2 with⟨d,ch,H,aZ⟩ |h
   .exact .inl (x3 H aZ)
   .exact .inr h.1
  .have h:e6.heap.size<=b:=h.1;exact .inr ay4
 refine⟨(),.bool true,ρ,fun d=>if d=c then(fun b=>b=l\/ ∃d ch,ag o4 d=some ch/\tG d b) else F d,rfl,?_,fun _=>rfl,bX o5 o4 tG iw,RU,fun b O=>⟨by rw[sE];exact O.1,?_⟩,?_,?_,?_,rfl⟩
 .have ib:cS (fun b=>F c b) w dX:=iW.fr.mono fun b _ ⟨d,ch,H,aZ⟩=>x3 H aZ
  have jC:cS (fun b=>b=l) dX e6:=⟨KO.1,KO.2.1,KO.2.2,Nat.le_of_eq CP.symm,fun b _ O=>KN b O⟩;have f3:cS o5.qd e6 iw:=sD.fr;have px:cS (fun b=>b=l) iw iY:=⟨x4.1,x4.2.1,x4.2.2,Nat.le_of_eq sE.symm,fun b _ O=>wz b O⟩;have dH:F c l:=(fj l).2 (.inl rfl)
  have f:cS (fun b=>F c b) w iY:=((ib.trans jC fun b _ (O:b=l)=>by rw[O];exact dH).trans f3 fun b O hf=>by
   rcases fq (.inl hf) with h |h
   .exact h
   .omega).trans px fun b _ (O:b=l)=>by rw[O];exact dH
  exact f.mono fun b _ O=>⟨c,_,n4,O⟩
 .rcases O.2.1 with h |h
  .rcases h.2.1 with h |⟨d,ch,H,aZ⟩ |h
   .exact .inl h
   .exact .inr (.inl ⟨c,_,n4,x3 H aZ⟩)
   .exact .inr (.inr h.1)
  .exact .inr ((fq h).imp (fun h=>⟨c,_,n4,h⟩) id)
 .intro d ch H;obtain⟨rfl,rfl⟩:=uT H;simp only[if_true];have aa: ∀d,d∈h2->zS d=o1 d:=fun d H=>(sD.eI d (aq2 _ H)).trans (iW.eI d (aq2 _ H))
  exact⟨au.trans RU,adO,zS,tG,(aa _ J).trans cA,fun d H=>(aa d H).trans (x1 d H),fun d ch H=>Holds.cp RT (fun b O=>wz b (fun e=>RS d ch H (e▸O))) (Nat.le_of_eq sE.symm) ch (fun _ _=>rfl) (sD.holds d ch H),sD.fh,RS,fun b=>Iff.rfl⟩
 .intro d ch H b O;obtain⟨rfl,rfl⟩:=uT H;simp only[if_true] at O;rcases O with rfl |⟨d,ch,H,O⟩
  .exact⟨by rw[sE];exact RQ,RR,.inl ⟨_,_,n4,(fj _).2 (.inl rfl)⟩⟩
  .obtain⟨r1,r2⟩:=sD.own d ch H b O;exact⟨by rw[sE];exact r1,fun aF=>aF.2.2 d ch H O,(fq r2).imp (fun h=>⟨_,_,n4,h⟩) id⟩
 .intro d c3 ch ch' b H dq a7;exact absurd ((uT H).1.trans (uT dq).1.symm) a7
theorem adS {f:FuncId} {w:World} {cs args:Array Value} (hf:jA P f=true):(invoke (.fn (.func f) cs) args).run P w= .ok (.enter f (args++cs)) w:=by
 unfold jA at hf
 split at hf
 .rename_i fn ko;simp only[Bool.not_eq_true',au4,beq_eq_false_iff_ne] at hf;have G: ¬fn.body=none:=fun e=>by rw[e] at hf;simp at hf
  simp[invoke,callFunc,go_sem,ko];rw[if_neg hf.1,if_neg G]
 .cases hf
theorem bw.range (bl:ec P aS) {ids:aC4} (stops:aC4) {s:Nat} {bD:Array Nat} {pl:aC4} {assign body:Code} (lI:bD.toList=pl) (KL:jF P N assign=true) (CL:jF P N body=true) (hl:(pl.all fun p=>Nat.blt p N)=true)
  {f:FuncId} {KP:List kZ} (hf:jA P f=true) (h2:aC4) (K la:aY) (j5:az) {X:Type} (g9:X->az) (c:Nat) (h0 CQ:X) (Y:X->List aP->X->Prop)
  (adT:dI K s= .c (.one (.cY f KP))) (KM:zF K la)
  (aa:(h2.contains c&&CN h2 la&&ids.all h2.contains&& !un ids)=true) (Ft:((cr (g9 h0)).all (fun d=> !(cr j5).contains d)&& !(cr j5).contains c)=true)
  (adU: ∀x aE rt,Y x aE rt->aE.length=pl.length/\x0 [] aE=true/\jB P aS N (0::h2) stops assign (CO pl aE la) (g9 x) (fun e K B=>e= .g7/\jB P aS N (0::h2) stops body K B (fun e K B=>e= .g7/\ac (0::h2) K B [] (g9 rt))))
  (adV: ∀(l:Nat) (fX:X->bc),(∀tz args res x rt,Fn P tz args (g9 x) [] res (g9 rt)->x0 [c] args=true->res.i7 []=true->Fn P tz args [(c,.aG (fX x))] [] res [(c,.aG (fX rt))])->
   (∀x aE rt,Y x aE rt->xO P l aE [(c,.aG (fX x))] (fun _:Unit=>q5 true) (fun _=>[(c,.aG (fX rt))]))->
   Fn P f (.c (.one (.bJ (.func (.yield l) #[] #[])))::oO KP) (j5++[(c,.aG (fX h0))]) [] (.ci []) [(c,.aG (fX CQ))])
  {Q:oP->aY->az->Prop} (Cc:Q .g7 la (g9 CQ)):bw P N ids (.rangeFunc (.tmp s) bD assign body) K (j5++g9 h0) Q:=by
 intro r ax C iK aT a w aw;simp only[vj,Bool.not_eq_true'] at aa Ft;obtain⟨⟨⟨ct,eD⟩,adW⟩,hid⟩:=aa;obtain⟨gX,hm⟩:=Ft;have ct:=tB ct;have IH: ∀d,d∈ids->d∈h2:=fun d H=>tB (as4.1 adW d H)
 have RW:ag j5 c=none:=by
  cases e:ag j5 c with
  |none=>rfl
  |some ch=>have:=as7.2 (gv.2 ⟨ch,e⟩);rw[hm] at this;cases this
 have ax:=ax hid;subst ax;obtain⟨hn,H,ρ,F,aj,ar⟩:=aw
 have pI: ∀{d ch},ag (g9 h0) d=some ch->ag (j5++g9 h0) d=some ch/\ag j5 d=none:=fun {d ch} h=>by
  have aa:=as4.1 gX d (gv.2 ⟨ch,h⟩)
  have hn:ag j5 d=none:=by
   cases e:ag j5 d with
   |none=>rfl
   |some ch'=>rw[as7.2 (gv.2 ⟨ch',e⟩)] at aa;cases aa
  exact⟨by rw[iN,hn];exact h,hn⟩
 have ru: ∀{d ch},ag j5 d=some ch->ag (j5++g9 h0) d=some ch:=fun {d ch} h=>by rw[iN,h]
 refine wpIn_rangeFunc fun fn _=>?_
 obtain⟨rec,ji⟩: ∃rec,rec=tF fn a.tmps bD assign body w.heap.size .ready:=⟨_,rfl⟩;obtain⟨dX,sw⟩: ∃dX,dX=(w.alloc (.deferred (some []))).alloc (.loop rec):=⟨_,rfl⟩;have qp:Below w.heap.size w dX:=by rw[sw];exact((Below.refl _ w).alloc (aq0 _) _).alloc ay6 _
 have aqf:dX.heap.size=w.heap.size+2:=by rw[sw];simp
 have KQ:dX.heap[w.heap.size+1]? =some (.loop rec):=by rw[sw];have:=World.alloc_heap_new (w.alloc (.deferred (some []))) (.loop rec);rwa[World.size_alloc] at this
 have KR:dX.heap[w.heap.size]? =some (.deferred (some [])):=by rw[sw];exact(Below.heap_alloc _ _ _ ay6).trans (World.alloc_heap_new w _)
 obtain⟨l,nl⟩: ∃l,l=w.heap.size+1:=⟨_,rfl⟩;rw[<-nl] at KQ
 let lr:=bX C (j5++g9 h0) F w
 have ni:cm lr w lr dX:=fun b O=>⟨O,qp.block b O.1⟩
 let fX:=fun x=>bc.nQ ρ h2 lr dX l rec c (g9 x)
 have ay:=ar s;rw[adT] at ay;obtain⟨cs,ev,xP⟩:=ay;obtain⟨adX,adY⟩:=hW.bU KP cs xP
 have hB: ∀t,cw ρ lr dX (dI la t) (a.tmps.getD t undef):=fun t=>by
  rcases JT KM t with h |h
  .exact cw.mono ni _ _ (fun _ _=>rfl) (v' h (ar t))
  .rw[h];trivial
 have ko:=adV l fX (fun tz args res x rt h ha ax=>adD h ha ax) (fun x aE rt aD=>by
  obtain⟨uJ,wg,Ci⟩:=adU x aE rt aD;show xO P l aE [(c,.aG (bc.nQ ρ h2 lr dX l rec c (g9 x)))] (fun _:Unit=>q5 true) (fun _=>[(c,.aG (bc.nQ ρ h2 lr dX l rec c (g9 rt)))]);rw[ji];exact adF bl lI (fun p ai=>by have:=as4.1 hl p ai;simpa[Nat.blt_eq] using this) hn KL CL eD ct hB stops uJ wg Ci)
 refine⟨l,[xi w.heap.size],dX,{target:=.fn (.func f) cs.toArray,args:= #[.func (.yield l) #[] #[]]},dX,f,#[.func (.yield l) #[] #[]]++cs.toArray,dX,?_,?_,fun _ _=>trivial,adS hf,fun h=>absurd h ay6,Qi ?_⟩
 .rw[sw,nl,ji];exact run_enterLoop_outer _ _ _ _ _
 .have adZ:a.eval (.tmp s)= .func (.func f) #[] cs.toArray:=ev;simp only[resolve,adZ];simp[go_sem]
 have ad0: #[Value.func (.yield l) #[] #[]]++cs.toArray=(Value.func (.yield l) #[] #[]::cs).toArray:=by simp
 rw[ad0];have tD: ∀b,(∃d ch,ag (g9 h0) d=some ch/\F d b)->b < w.heap.size:=fun b ⟨d,ch,H,O⟩=>(aj.own d ch (pI H).1 b O).1
 let cG:Nat->Nat->Prop:=fun d=>if d=c then(fun b=>b=l\/ ∃d ch,ag (g9 h0) d=some ch/\F d b) else F d
 have iM: ∀{d ch},ag (j5++[(c,ba.aG (fX h0))]) d=some ch->(d=c/\ch= .aG (fX h0))\/(d≠c/\ag j5 d=some ch):=fun {d ch} h=>by
  rw[iN] at h
  cases e:ag j5 d with
  |some ch'=>
   rw[e] at h;exact .inr ⟨fun KS=>(by rw[KS,RW] at e;cases e),h⟩
  |none=>
   rw[e] at h;obtain⟨ae,ao⟩:=uT h;exact .inl ⟨ae,ao⟩
 have dH:ag (j5++[(c,ba.aG (fX h0))]) c=some (.aG (fX h0)):=by rw[iN,RW];exact n4
 have wA:cG c=(fun b=>b=l\/ ∃d ch,ag (g9 h0) d=some ch/\F d b):=if_pos rfl;have tH: ∀{d},d≠c->cG d=F d:=fun {d} h=>if_neg h
 have aqg:w.heap.size<=l:=az2
 refine(ko.2 ρ cG lr dX _ (fun b O=>by have:=O.1;omega) ?_ ?_ ?_ (by simp[adX]) ?_).mono ?_
 .intro d ch H;rcases iM H with⟨rfl,rfl⟩ |⟨e,H⟩
  .rw[wA]
   exact⟨cm.refl _ _,KQ,ρ,F,rfl,fun _ _=>rfl,fun d ch H=>Holds.cp ni (fun b O=>qp.block b (aj.own d ch (pI H).1 b O).1) qp.size ch (fun _ _=>rfl) (aj.holds d ch (pI H).1),fun d c3 ch ch' b E G=>aj.fh d c3 ch ch' b (pI E).1 (pI G).1,
    fun d ch H O=>by have:=(aj.own d ch (pI H).1 l O).1;omega,fun b=>Iff.rfl⟩
  .rw[tH e];exact Holds.cp ni (fun b O=>qp.block b (aj.own d ch (ru H) b O).1) qp.size ch (fun _ _=>rfl) (aj.holds d ch (ru H))
 .intro d ch H b O;rcases iM H with⟨rfl,rfl⟩ |⟨e,H⟩
  .rw[wA] at O;rcases O with rfl |⟨d,ch,H,O⟩
   .exact⟨l3 KQ,fun aF=>by have:=aF.1;omega⟩
   .have:=(aj.own d ch (pI H).1 b O).1;exact⟨ay4,fun aF=>aF.2.2 d ch (pI H).1 O⟩
  .rw[tH e] at O;have:=(aj.own d ch (ru H) b O).1;exact⟨ay4,fun aF=>aF.2.2 d ch (ru H) O⟩
 .intro d c3 ch ch' b H dq a7 O dp
  have key: ∀{d ch b},ag j5 d=some ch->F d b-> ¬(b=l\/ ∃d ch,ag (g9 h0) d=some ch/\F d b):=fun {ae cI b1} cj cT hx=>by
   rcases hx with hx |⟨jj,oR,eg,eR⟩
   .have:=(aj.own ae cI (ru cj) _ cT).1;omega
   .exact aj.fh ae jj cI oR b1 (ru cj) (pI eg).1 (fun e=>by rw[e,(pI eg).2] at cj;cases cj) cT eR
  rcases iM H with⟨e,_⟩ |⟨e,H⟩ <;>rcases iM dq with⟨b7,_⟩ |⟨b7,dq⟩
  .exact a7 (e.trans b7.symm)
  .rw[e,wA] at O;rw[tH b7] at dp;exact key dq dp O
  .rw[tH e] at O;rw[b7,wA] at dp;exact key H O dp
  .rw[tH e] at O;rw[tH b7] at dp;exact aj.fh d c3 ch ch' b (ru H) (ru dq) a7 O dp
 .intro i v x ay hx
  match i with
  |0=>
   simp only[ar3,aq4] at ay hx;subst ay hx;rfl
  |i+1=>exact cw.mono ni v x (fun _ _=>rfl) (adY i v x aA6 aB9)
 rintro e e6 ⟨x,ρ',F',rfl,cy,dn,I',jk,gE,lK,ap,ic,-⟩;have hP:Gc ρ h2 lr dX l rec c (g9 CQ) I' (F' c) e6 (ρ' c):=lK c _ n4;obtain⟨au,ak,o1,ce,cA,x1,cF,dF,z2,fj⟩:=hP;have mT:=l3 ak;obtain⟨iY,nk⟩: ∃iY,iY=e6.putObj l (.loop {rec with state:=.exhausted}):=⟨_,rfl⟩
 have dN:(Instr.endLoop l).run P e6= .ok none iY:=by
  have E:=run_endLoop (P:=P) ak (by rw[ji];simp);have G:rec.pending=none:=by rw[ji]
  rw[nk,E,G]
 refine⟨none,iY,dN,?_⟩;show iK .normal {a with defers:=[xi w.heap.size]++a.defers} iY;have sE:iY.heap.size=e6.heap.size:=by rw[nk,World.putObj_size]
 have wz: ∀b,b≠l->iY.heap[b]? =e6.heap[b]? :=fun b O=>by rw[nk];exact World.putObj_heap_other O
 have x4:iY.os=e6.os/\iY.tape=e6.tape/\iY.output=e6.output:=by rw[nk];exact⟨rfl,rfl,rfl⟩
 have aqh:=cy.size
 have KT: ∀{b},F' c b->b < e6.heap.size/\ ¬I' b/\(b=l\/(∃d ch,ag (j5++g9 h0) d=some ch/\F d b)\/dX.heap.size<=b):=fun {b} O=>by
  obtain⟨r1,r2,gg⟩:=ap c _ n4 b O;refine⟨r1,r2,?_⟩;rcases gg with⟨d,ch,H,hf⟩ |gg
  .rcases iM H with⟨rfl,rfl⟩ |⟨e,H⟩
   .rw[wA] at hf;exact hf.imp id fun⟨d,ch,H,hf⟩=>.inl ⟨d,ch,(pI H).1,hf⟩
   .rw[tH e] at hf;exact .inr (.inl ⟨d,ch,ru H,hf⟩)
  .exact .inr (.inr gg)
 have z6: ¬I' l:=(KT ((fj l).2 (.inl rfl))).2.1
 have RX: ∀{b},((∃d ch,ag (j5++g9 h0) d=some ch/\F d b)\/dX.heap.size<=b)->(C.qd b\/C.fZ.heap.size<=b/\b∉w.heap.size::C.ds):=fun {b} h=>by
  rcases h with⟨d,ch,H,hf⟩ |h
  .obtain⟨r1,r2⟩:=aj.own d ch H b hf;exact r2.imp id fun x=>⟨x.1,fun aA=>(aq5.1 aA).elim (fun e=>by omega) x.2⟩
  .have:=aj.fresh (b:=b) ay4;exact .inr ⟨this.1,fun aA=>(aq5.1 aA).elim (fun e=>by omega) this.2⟩
 have ad1: ∀{b},(lr b\/(∃d ch,ag (j5++g9 h0) d=some ch/\F d b)\/dX.heap.size<=b)->(C.zb b\/C.qd b\/C.fZ.heap.size<=b/\b∉w.heap.size::C.ds):=fun {b} h=>by
  rcases h with h |h
  .have E:=h.1;exact h.2.1.imp id fun x=>x.imp id fun x=>⟨x.1,fun aA=>(aq5.1 aA).elim (fun e=>by omega) x.2⟩
  .exact .inr (RX h)
 have CR:cm I' e6 (bX (C.at (w.heap.size::C.ds)) (g9 CQ) ce iY) iY:=fun b O=>by
  have a7:b≠l:=fun e=>z6 (e▸O)
  obtain⟨r1,r2⟩:=gE b O;refine⟨⟨by rw[sE];exact r1,ad1 ?_,fun d ch H aZ=>(KT ((fj b).2 (.inr ⟨d,ch,H,aZ⟩))).2.1 O⟩,wz b a7⟩;rcases r2 with r2 |⟨d,ch,H,hf⟩ |r2
  .exact .inl r2
  .rcases iM H with⟨rfl,rfl⟩ |⟨e,H⟩
   .rw[wA] at hf;rcases hf with hf |⟨d,ch,H,hf⟩
    .exact absurd hf a7
    .exact .inr (.inl ⟨d,ch,(pI H).1,hf⟩)
   .rw[tH e] at hf;exact .inr (.inl ⟨d,ch,ru H,hf⟩)
  .exact .inr (.inr r2)
 refine aT .g7 la (g9 CQ) (w.heap.size::C.ds) (fun h=>by rw[hid] at h;cases h) Cc _ _ ⟨hn,?_,o1,ce,⟨?_,?_,?_,dF,?_,?_,aj.k0.2.1,?_⟩,?_⟩
 .show[xi w.heap.size]++a.defers=List.map xi (w.heap.size::C.ds);rw[H];rfl
 .refine(aj.fr.trans (S':=fun b=>b=l\/ ∃d ch,ag (j5++g9 h0) d=some ch/\F d b) ?_ fun b O h=>?_)
  .have ib:cS (fun b=>b=l\/ ∃d ch,ag (j5++g9 h0) d=some ch/\F d b) w dX:=cS.pq qp;have px:cS (fun b=>b=l) e6 iY:=⟨x4.1,x4.2.1,x4.2.2,Nat.le_of_eq sE.symm,fun b _ O=>wz b O⟩;refine(ib.trans cy ?_).trans px fun b _ O=>.inl O
   rintro b _ ⟨d,ch,H,hf⟩;rcases iM H with⟨rfl,rfl⟩ |⟨e,H⟩
   .rw[wA] at hf;exact hf.imp id fun⟨d,ch,H,hf⟩=>⟨d,ch,(pI H).1,hf⟩
   .rw[tH e] at hf;exact .inr ⟨d,ch,ru H,hf⟩
  .have z0:=aj.fr.size;rcases h with h |⟨d,ch,H,hf⟩
   .omega
   .rcases(aj.own d ch H b hf).2 with h |h
    .exact h
    .have:=h.1;omega
 .exact fun d ch H=>Holds.cp CR (fun b O=>wz b (fun e=>z2 d ch H (e▸O))) (Nat.le_of_eq sE.symm) ch (fun _ _=>rfl) (cF d ch H)
 .intro d ch H b O;obtain⟨r1,r2,gg⟩:=KT ((fj b).2 (.inr ⟨d,ch,H,O⟩));have a7:b≠l:=fun e=>z2 d ch H (e▸O)
  exact⟨by rw[sE];exact r1,RX (gg.resolve_left a7)⟩
 .exact fun d H=>(x1 d (IH d H)).trans (aj.eI d H)
 .exact as8.2 ⟨fun h=>by have:=(aj.k0.2.2 _ h).1;omega,aj.k0.1⟩
 .intro D cf
  have KU:D≠l/\D < dX.heap.size/\dX.heap[D]? =some (.deferred (some []))/\C.fZ.heap.size<=D:=by
   rcases aq5.1 cf with rfl |cf
   .exact⟨ay4,ay4,KR,aj.fr.size⟩
   .obtain⟨r1,r2,gg⟩:=aj.k0.2.2 D cf;exact⟨ay4,ay4,(qp.block D r1).trans r2,gg⟩
  obtain⟨k7,bC,uv,BR⟩:=KU
  have z7: ¬ ∃d ch,ag (j5++[(c,ba.aG (fX h0))]) d=some ch/\cG d D:=by
   rintro⟨d,ch,H,hf⟩
   have bG: ∃d ch,ag (j5++g9 h0) d=some ch/\F d D:=by
    rcases iM H with⟨rfl,rfl⟩ |⟨e,H⟩
    .rw[wA] at hf;rcases hf with hf |⟨d,ch,H,hf⟩
     .exact absurd hf k7
     .exact⟨d,ch,(pI H).1,hf⟩
    .rw[tH e] at hf;exact⟨d,ch,ru H,hf⟩
   obtain⟨d,ch,H,hf⟩:=bG;obtain⟨r1,r2⟩:=aj.own d ch H D hf;rcases aq5.1 cf with rfl |cf
   .omega
   .rcases r2 with r2 |r2
    .have:=aj.k0.2.1 D (.inr r2);omega
    .exact r2.2 cf
  exact⟨by rw[sE];omega,(wz D k7).trans ((cy.block D bC z7).trans uv),BR⟩
 .intro t;exact cw.mono (jk.trans CR) _ _ (fun j V=>x1 j (aP.kK (KK eD t) V)) (hB t)
end
end
section
def KV:bB->Value
 | .d (.int k n)=>.int k n
 | .d (.bool b)=>.bool b
 | .d (.lit b)=>.bool b
 | .d (.str s)=>.string ⟨List.toArray s⟩
 |_=>.nilFunc
def z8:bB->Lit
 | .d (.int k n)=>.int k n
 | .d (.bool b)=>.bool b
 | .d (.lit b)=>.bool b
 | .d (.str s)=>.string s
 |_=>.nil
def KW:bB->Bool
 | .d (.int _ _)=>true
 | .d (.bool _)=>true
 | .d (.lit _)=>true
 | .d (.str _)=>true
 |_=>false
def o6:List bB->List Value
 | []=>[]
 |s::l=>KV s::o6 l
def j6:List bB->List Lit
 | []=>[]
 |s::l=>z8 s::j6 l
def CS:List bB->Bool
 | []=>true
 |s::l=>KW s&&CS l
theorem KX {ρ:Nat->bn} {I:Nat->Prop} {w:World}: ∀{l:List bB} {aE:List Value},CS l=true->cc ρ I w l aE->aE=o6 l
 | [],aE,_,h=>h
 |s::l,aE,ai,⟨v,r,e,E,G⟩=>by
  simp only[CS,vj] at ai;have af:=KX ai.2 G;subst af e
  have:v=KV s:=by
   cases s with
   |d x=>cases x <;>first |exact E |(simp[KW] at ai;done)
   |_=>simp[KW] at ai
  rw[this];rfl
section
variable {P:Program} {aS:dg} {ids:aC4} {K:aY} {B:az}
theorem KY {o:Oper} {T fG:TypeId} {x y:Operand} {lx ly:List bB} {m D:Nat} (ah:o.op= .binOp .eql T x y fG) (aZ:P.eqGuardType P.depth T=false) (aa:P.keyTypeAt m T=true) (aA:m<=10000)
  (hx:a2 K x= .c (.agg lx)) (aD:a2 K y= .c (.agg ly)) (hl:(CS lx&&CS ly)=true) (ad2:(Value.agg (List.toArray (o6 lx))).formed P T=true) (ad3:(Value.agg (List.toArray (o6 ly))).formed P T=true)
  (ad4:P.keyLits D T (o6 lx)=some (j6 lx)) (ad5:P.keyLits D T (o6 ly)=some (j6 ly)) {r:Bool} (ax:r=true↔j6 lx=j6 ly) (N:Nat):bA P N ids o K B (.c (.one (.d (.bool r)))) ⟨[],[],[]⟩:=by
 have m1:x∈o.op.operands:=az1
 have m2:y∈o.op.operands:=az1
 simp only[vj] at hl;refine bA.val fun K' B' g1 g2 C ρ F a w aj ar=>?_
 obtain⟨aE,ae,E⟩:=ar.ev ((g1 x m1).trans hx);obtain⟨us,ao,G⟩:=ar.ev ((g1 y m2).trans aD);have E:=KX hl.1 E;have G:=KX hl.2 G;subst E G;obtain⟨q,aT,q4⟩:=run_equalIn_deep (P:=P) (10000 - m) m T aa w D D (.agg (List.toArray (o6 lx))) (.agg (List.toArray (o6 ly))) (j6 lx) (j6 ly) ad2 ad3 (by simpa[Value.cells] using ad4) (by simpa[Value.cells] using ad5);rw[show 10000 - m+m=10000 by omega] at aT
 have br:q=r:=by
  cases q <;>cases r
  .rfl
  .exact absurd (q4.2 (ax.1 rfl)) ay6
  .exact absurd (ax.2 (q4.1 rfl)) ay6
  .rfl
 subst br;refine⟨.bool q,?_,rfl⟩;simp only[execOp,ah,ae,ao,Sem.run_bind,run_eqGuard_agg w .eql T x y _ _ aZ,Result.andThen_ok,run_eql_struct,aT,Sem.run_pure]
theorem KZ {o:Oper} {T:TypeId} {x:Operand} {f:Nat} {l:List bB} {fs:Array Field} {j0:Field} {d:TypeDesc} {s:bB} (ah:o.op= .field T x f) (b6:P.underlying T=some (.struct fs)) (ut:fs[f]? =some j0) (H:P.underlying j0.type=some d) (fK:d.isRow=false)
  (hx:a2 K x= .c (.agg l)) (aw:l[j0.offset]? =some s) (N:Nat):bA P N ids o K B (.c (.one s)) ⟨[],[],[]⟩:=by
 have m1:x∈o.op.operands:=az1
 refine bA.val fun K' B' g1 g2 C ρ F a w aj ar=>?_
 obtain⟨aE,ae,E⟩:=ar.ev ((g1 x m1).trans hx);obtain⟨v,ay,dy⟩:=cc.get _ _ E j0.offset s aw;refine⟨v,?_,dy⟩;have K0:(Go.isAgg j0.type).run P w= .ok false w:=by cases d <;>first |(simp[TypeDesc.isRow] at fK;done) |simp[Go.isAgg,run_underlying H]
 have hD:(List.toArray aE)[j0.offset]? =some v:=aA6
 simp only[execOp,ah,ae,Instr.field,Sem.run_bind,run_underlying b6,Result.andThen_ok,ut,asAgg,Sem.run_pure,part,K0,Bool.false_eq_true,if_false,hD]
theorem K1 {n:Nat} {u:bz} (g:List (Z u)) (i q:Nat) (aT:q < aQ u):fD (.arr n u) g (i*aQ u+q)=fD u (List.getD g i (cO u)) q:=by
 show fD u (List.getD g ((i*aQ u+q)/aQ u) (cO u)) ((i*aQ u+q) % aQ u)=_;rw[show(i*aQ u+q)/aQ u=i by rw[Nat.mul_comm,Nat.mul_add_div ay4,Nat.div_eq_of_lt aT,aw3],show(i*aQ u+q) % aQ u=q by rw[Nat.mul_comm,Nat.mul_add_mod,Nat.mod_eq_of_lt aT]]
theorem ad6 {o:Oper} {T:TypeId} {x i:Operand} {n e:Nat} {c8:TypeInfo} {d:TypeDesc} {u:bz} {g:List (Z u)} {j:Int} (ah:o.op= .index T x i) (b6:P.underlying T=some (.array n e)) (U:P.underlying e=some d) (fK:d.isRow=true) (aF:P.info? e=some c8) (aN:c8.size=aQ u)
  (hx:a2 K x= .c (.agg (gq (.arr n u) g 0 (n*aQ u)))) (V:a2 K i= .c (.one (.d (.int .i64 j)))) (au:0<=j) (E:j < n) (N:Nat):bA P N ids o K B (.c (.agg (gq u (List.getD g j.toNat (cO u)) 0 (aQ u)))) ⟨[],[],[]⟩:=by
 have m1:x∈o.op.operands:=az1
 have m2:i∈o.op.operands:=az1
 refine bA.val fun K' B' g1 g2 C ρ F a w aj ar=>?_
 obtain⟨aE,ae,H⟩:=ar.ev ((g1 x m1).trans hx);have ao:=ar.int ((g1 i m2).trans V);have bV:aE.length=n*aQ u:=(cc.length _ _ H).trans (tm (.arr n u) g _ _);have K0:(Go.isAgg e).run P w= .ok true w:=by cases d <;>first |(simp[TypeDesc.isRow] at fK;done) |simp[Go.isAgg,run_underlying U]
 have cC:(sizeOf e).run P w= .ok (aQ u) w:=by simp[sizeOf,typeInfo,aF,aN]
 have g8:j.toNat*aQ u+aQ u<=n*aQ u:=by
  have:=au8 (aQ u) (show j.toNat+1<=n by omega);rw[aw4] at this;exact this
 refine⟨.agg ((List.toArray aE).extract (j.toNat*aQ u) (j.toNat*aQ u+aQ u)),?_,(aE.drop (j.toNat*aQ u)).take (aQ u),by simp[List.extract],?_⟩
 .simp[execOp,ah,ae,ao,Instr.index,asIntOf,run_underlying b6,au,E,cC,part,K0]
 .have key: ∀(m gP:Nat),gP+m<=aQ u->cc ρ (bX C B' F w) w (gq u (List.getD g j.toNat (cO u)) gP m) ((aE.drop (j.toNat*aQ u+gP)).take m):=fun m=>by
   induction m with
   |zero=>intro gP _;simp[gq,cc]
   |succ m bq=>
    intro gP aA;have bt:j.toNat*aQ u+gP < n*aQ u:=az2
    obtain⟨v,ay,tt⟩:=cc.get _ _ H _ _ (zt (.arr n u) g (n*aQ u) 0 (j.toNat*aQ u+gP) bt)
    have CT:aE.drop (j.toNat*aQ u+gP)=v::aE.drop (j.toNat*aQ u+(gP+1)):=by
     obtain⟨ak,oT⟩:=aq7.1 ay;rw[av6 ak,oT,Nat.add_assoc]
    rw[CT,List.take_succ_cons];refine⟨v,_,rfl,?_,bq (gP+1) ay4⟩
    have J:fD (.arr n u) g (0+(j.toNat*aQ u+gP))=fD u (List.getD g j.toNat (cO u)) gP:=by
     rw[au1];exact K1 g _ _ ay4
    rw[J] at tt;exact tt
  exact key (aQ u) 0 ay4
theorem ac.ad7 (c:Nat) {u:bz} {x:Z u} (hw:oK u x) (J:ag B c=some (.cells (gq u x 0 (aQ u)))):ac ids K B K ((c,.val u x)::B):=by
 rintro N C a w ⟨hn,H,ρ,F,aj,ar⟩;obtain⟨bh,aE,T,O,dy⟩:=aj.holds c _ J;obtain⟨bI,a1⟩:=aj.hI (w':=w) (ch:=.val u x) J (cS.refl _ _) fun I a8=>⟨bh,aE,T,O,by rw[cc.length _ _ dy,tm],BO hw (cc.mono (ρ':=ρ) a8 _ _ (fun _ _=>rfl) dy)⟩
 exact⟨hn,H,ρ,F,bI,ar.mono a1 fun _ _ _=>rfl⟩
theorem ad8 {o:Oper} {T:TypeId} {x i:Operand} {n e c:Nat} {c8:TypeInfo} {s:Nat} {j:Int} (ah:o.op= .indexAddr T x i) (b6:P.underlying T=some (.array n e)) (aF:P.info? e=some c8) (aN:c8.size=s)
  (hx:a2 K x= .c (.one (.ptr c 0))) (V:a2 K i= .c (.one (.d (.int .i64 j)))) (au:0<=j) (E:j < n) (N:Nat):bA P N ids o K B (.c (.one (.gc c s j.toNat 0))) ⟨[],[],[]⟩:=by
 have m1:x∈o.op.operands:=az1
 have m2:i∈o.op.operands:=az1
 refine bA.val fun K' B' g1 g2 C ρ F a w aj ar=>?_
 have ae:=ar.ptr ((g1 x m1).trans hx);have ao:=ar.int ((g1 i m2).trans V);have cC:(sizeOf e).run P w= .ok s w:=by simp[sizeOf,typeInfo,aF,aN]
 refine⟨.pointer (some ⟨(ρ c).bk,j.toNat*s,none⟩),?_,rfl⟩;simp[execOp,ah,ae,ao,Instr.indexAt,asIntOf,run_underlying b6,au,E,cC,Instr.sureAddr,pr]
theorem ad9 {I:Nat->Prop} {w:World} {n:Nat} {u:bz} {g:List (Z u)} {c:Nat->Option Value} (H:cu I w (.arr n u) g c) {y:Z u} {j:Nat} {cs:List Value} (ak:cs.length=aQ u) (aD:cu I w u y (fun i=>cs[i]?)) (V:j < n):
  cu I w (.arr n u) (g.set j y) (fun i=>if j*aQ u<=i/\i < j*aQ u+aQ u then cs[i - j*aQ u]? else c i):=by
 obtain⟨E,G⟩:=H;refine⟨by rw[av3];exact E,fun i aB aN=>?_⟩;unfold fE at aN;rw[aw6] at aN
 split at aN
 .rename_i e;subst e
  split at aN
  .injection aN with aN
   subst aN;refine cu.mono (cm.refl _ _) u y _ _ (fun q v ay=>?_) aD;have aT:q < aQ u:=by rw[<-ak];exact(aq7.1 ay).1
   simp only;rw[if_pos ⟨ay4,ay4⟩,show j*aQ u+q - j*aQ u=q by omega];exact ay
  .cases aN
 .rename_i a7;have nn:=G i aB aN;rcases Nat.eq_zero_or_pos (aQ u) with au |au
  .refine cu.mono (cm.refl _ _) u aB _ _ (fun q v ay=>?_) nn;simp only;rw[if_neg ay4];exact ay
  .refine cu.mk u aB _ (cu.wf u aB _ nn) fun q aT=>?_
   obtain⟨v,ay,tt⟩:=cu.cell u aB _ q nn aT;refine⟨v,?_,tt⟩;simp only;rw[if_neg ?_]
   .exact ay
   .rintro⟨bZ,cg⟩;rcases Nat.lt_or_gt_of_ne a7 with bt |uw
    .have:=au8 (aQ u) (show j+1<=i by omega);rw[aw4] at this;omega
    .have:=au8 (aQ u) (show i+1<=j by omega);rw[aw4] at this;omega
theorem ad' {o:Oper} {T:TypeId} {x v:Operand} {c n j:Nat} {u:bz} {g:List (Z u)} {y:Z u} {c8:TypeInfo} (ah:o.op= .store T x v) (aF:P.info? T=some c8) (aN:c8.size=aQ u) (hx:a2 K x= .c (.one (.gc c (aQ u) j 0))) (V:j < n)
  (J:ag B c=some (.val (.arr n u) g)) (ay:a2 K v= .c (.agg (gq u y 0 (aQ u)))) (hw:oK u y) (N:Nat):bA P N ids o K B .undef ⟨[c],[],[(c,some (.val (.arr n u) (g.set j y)))]⟩:=by
 have m1:x∈o.op.operands:=az1
 have m2:v∈o.op.operands:=az1
 refine bA.hI J fun K' B' g1 C ρ F a w aj ar gf=>?_
 obtain⟨bh,aE,eJ,O,bV,dy⟩:=aj.holds c _ gf;have ae:=ar.gc ((g1 x m1).trans hx);obtain⟨us,ao,G⟩:=ar.ev ((g1 v m2).trans ay);have K2:us.length=aQ u:=by rw[cc.length _ _ G,tm]
 have RY:=BO hw G
 have kl:j*aQ u+us.length<=aE.length:=by
  have:=au8 (aQ u) (show j+1<=n by omega);rw[aw4] at this;rw[bV,K2];exact this
 have sf: ∀aB,aB∈us->aB.oneCell'=true:=fun aB aN=>by
  obtain⟨q,aT,rfl⟩:=aw0 aN;obtain⟨z',rc,td⟩:=cu.one u y _ RY q ay4;rw[oj aT] at rc;injection rc with rc
  rw[rc];exact td
 have dN:=BN (P:=P) (o:=o) (ev:=a.eval) (w:=w) (us:=us) ah (by rw[ae,aw3]) (by rw[ao];rfl) aF (aN.trans K2.symm) O kl sf;have gV:(w.setRow (ρ c).bk (List.toArray (aE.take (j*aQ u)++us++aE.drop (j*aQ u+us.length)))).heap[(ρ c).bk]? =some (.cells (List.toArray (aE.take (j*aQ u)++us++aE.drop (j*aQ u+us.length))) eJ (0,0)):=setRow_heap w _ _ _ eJ _ O;refine⟨_,dN,⟨rfl,rfl,rfl,by simp[World.setRow],fun k _ aa=>setRow_other w _ k _ (fun e=>aa ((bh k).2 e))⟩,fun I a1=>⟨bh,_,eJ,gV,?_,?_⟩⟩
 .rw[aq1,aq1,aq9,au9];omega
 .refine cu.mk (.arr n u) (g.set j y) _ ?_ ?_
  .have RZ:=cu.wf (.arr n u) g _ dy;refine⟨by rw[av3];exact RZ.1,fun aB aN=>?_⟩;rcases List.mem_or_eq_of_mem_set aN with aN |rfl
   .exact RZ.2 aB aN
   .exact hw
  .intro q aT;have oU:=ad9 dy (y:=y) (j:=j) K2 RY V;obtain⟨aB,aN,zf⟩:=cu.cell (.arr n u) _ _ q oU aT;refine⟨aB,?_,gK.mono a1 _ _ zf⟩;rw[<-aN];have FT:q < aE.length:=by rw[bV];exact aT
   split
   .rename_i eb;rw[au2,at1 aA2,aq9,as6 ay4]
    congr 1
    omega
   .rename_i nW;rcases Nat.lt_or_ge q (j*aQ u) with bt |vO
    .rw[au2,as6 aA2,au6,if_pos bt]
    .have:j*aQ u+aQ u<=q:=by
      rcases Nat.lt_or_ge q (j*aQ u+aQ u) with h |h
      .exact absurd ⟨vO,h⟩ nW
      .exact h
     rw[at1 (by rw[aq1,aq9];omega),aq1,aq9,List.getElem?_drop]
     congr 1
     omega
theorem R0 {o:Oper} {T:TypeId} {x:Operand} {c:Nat} {u:bz} {y:Z u} {c8:TypeInfo} {d:TypeDesc} (ah:o.op= .load T x) (b6:P.underlying T=some d) (fK:d.isRow=true) (aF:P.info? T=some c8) (aN:c8.size=aQ u) (hx:a2 K x= .c (.one (.ptr c 0)))
  (J:ag B c=some (.val u y)) (N:Nat):bA P N ids o K B (.c (.agg (gq u y 0 (aQ u)))) ⟨[c],[],[]⟩:=by
 have m1:x∈o.op.operands:=az1
 refine bA.val fun K' B' g1 g2 C ρ F a w aj ar=>?_
 obtain⟨bh,aE,eJ,O,bV,dy⟩:=aj.holds c _ ((g2 c ay6).trans J);have ae:=ar.ptr ((g1 x m1).trans hx);obtain⟨us,E,G⟩:=E5 (ρ:=ρ) dy (aQ u) 0 ay4;refine⟨_,E3 (cs:=us) ah ae b6 fK aF (by rw[cc.length _ _ E,tm];exact aN) (fun j v V=>?_),us,rfl,E⟩;have:=G j v V;exact oS O this
theorem aea {aS:dg} (bl:ec P aS) {o:Oper} {T n e:Nat} {ti:ca} (ah:o.op= .build T #[]) (cq:aS.find T=some ti) (b6:P.underlying T=some (.array n e)) {CU:TypeInfo} (aeb:P.info? e=some CU) (fK:ti.row=true) (N:Nat):bA P N ids o K B (.c (.agg ti.zero)) ⟨[],[],[]⟩:=by
 refine bA.val fun K' B' g1 g2 C ρ F a w aj ar=>?_
 obtain⟨i,d,bv⟩:=bl.at_ cq;obtain⟨aB,aN,mH⟩:=bv.zero;obtain⟨kH,q'⟩:=vW (ρ:=ρ) (I:=bX C B' F w) (w:=w) _ _ mH;refine⟨.agg aB.cells,?_,aB.cells.toList,ay6,kH⟩;simp[execOp,ah,Instr.build,zeroValue,typeInfo,bv.jY,aN,run_underlying b6,sizeOf,aeb,Instr.fill]
theorem aec {o:Oper} {T e d:Nat} {x y:Operand} {c8:TypeInfo} {n:Int} (ah:o.op= .makeSlice T x y) (b6:P.underlying T=some (.slice e)) (aF:P.info? e=some c8) (aN:c8.zero=some (.int .i64 0)) (aw:c8.size=1) (O:c8.bytes=8)
  (hx:a2 K x= .c (.one (.d (.int .i64 n)))) (aD:a2 K y= .c (.one (.d (.int .i64 n)))) (au:0<=n) (E:n<=1000000) (N:Nat):bA P N ids o K B (.c (.one (.own d))) ⟨[],[d],[(d,some (.row e (.int .i64) (List.replicate n.toNat (0:Int))))]⟩:=by
 have m1:x∈o.op.operands:=az1
 have m2:y∈o.op.operands:=az1
 refine bA.make (fun d h=>BS h) fun K' B' g1 g2 C ρ F a w aj ar hn=>?_
 have dO:=ar.int ((g1 x m1).trans hx);have d':=ar.int ((g1 y m2).trans aD);have dN:=run_make (P:=P) w T e c8 _ b6 aF aN .i64 .i64 n n au (Int.le_refl _) (by rw[O];omega) ay4
 have xg:madeCells (Value.int .i64 0).cells (n.toNat*c8.size)=(List.replicate n.toNat (Value.int .i64 0)).toArray:=by
  rw[aw];simp[madeCells,Value.cells];apply Array.ext
  .simp
  .intro i E G;simp[Nat.mod_one]
 rw[xg] at dN;refine⟨.slice (some ⟨w.heap.size,0,none⟩) n.toNat n.toNat,w.alloc (.cells (List.replicate n.toNat (.int .i64 0)).toArray e),⟨w.heap.size,some ⟨w.heap.size,0,none⟩,n.toNat,n.toNat⟩,fun b=>b=w.heap.size,?_,tb w _,fun b O=>?_,fun I a1 a8=>⟨⟨?_,?_,List.replicate n.toNat (.int .i64 0),?_,?_⟩,?_⟩⟩
 .simp only[execOp,ah,Sem.run_bind,dO,d',dN,Result.andThen_ok,Sem.run_pure]
 .subst O;simp
 .intro b;simp[bn.ef,Value.ownBlock,eq_comm]
 .intro b O;simp[bn.ef,Value.ownBlock] at O;exact O.symm
 .have:=Fa w e 1 n.toNat (List.replicate n.toNat (.int .i64 0)) ay6 aA9;have ae:List.length (α:=Z (.int .i64)) (List.replicate n.toNat (0:Int))=n.toNat:=ar7;rw[ae];exact this
 .intro i aB aN;obtain⟨aF,rc⟩:=aq7.1 aN;have ts:aB=(0:Int):=by rw[<-rc];exact List.getElem_replicate ..
  subst ts
  have aF:i < n.toNat:=by
   have E:i < List.length (α:=Int) (List.replicate n.toNat (0:Int)):=aF;rw[ar7] at E;exact E
  show(List.replicate n.toNat (Value.int .i64 0))[i*1+0]? =some (.int .i64 0);simp[aF]
 .simp only[cw,gC,dY,c7];rfl
theorem R1 (w:World) {T:TypeId} {bD jl:Array TypeId} {up:Bool} (b6:P.underlying T=some (.func bD jl up)) (f:Go.Fn) (a b:Array Value):(binOp .eql T (.func f a b) .nilFunc).run P w= .ok (.bool false) w/\(binOp .neq T (.func f a b) .nilFunc).run P w= .ok (.bool true) w:=by
 have au: ∀d,(Op.equalIn (d+1) T (.func f a b) .nilFunc).run P w= .ok false w:=fun d=>by simp[Op.equalIn,run_underlying b6]
 have h:(Op.equalIn 10000 T (.func f a b) .nilFunc).run P w= .ok false w:=au 9999;constructor
 .simp only[binOp];simp[Op.equal,Op.maxDepth,h]
 .simp only[binOp];simp[Op.equal,Op.maxDepth,h]
theorem aed {o:Oper} {T fG:TypeId} {x:Operand} {op:BinOp} {y:Nat×aC4} {b:Bool} {bD jl:Array TypeId} {up:Bool} (wd:(op= .eql/\b=false)\/(op= .neq/\b=true)) (ah:o.op= .binOp op T x (.const .nilFunc) fG) (b6:P.underlying T=some (.func bD jl up))
  (hx:a2 K x= .c (.one (.d (.fn y)))) (N:Nat):bA P N ids o K B (.c (.one (.d (.lit b)))) ⟨[],[],[]⟩:=by
 have m1:x∈o.op.operands:=az1
 refine bA.val fun K' B' g1 g2 C ρ F a w aj ar=>?_
 have ae:a.eval x=mA y:=ar.ev ((g1 x m1).trans hx);refine⟨.bool b,?_,rfl⟩;have ao:a.eval (.const .nilFunc)= .nilFunc:=rfl;rcases wd with⟨rfl,rfl⟩ |⟨rfl,rfl⟩
 .have h:=(R1 (P:=P) w b6 (.func y.1) #[] (List.toArray (q2 y.2))).1;simp[execOp,ah,ae,ao,eqGuard,mA,h]
 .have h:=(R1 (P:=P) w b6 (.func y.1) #[] (List.toArray (q2 y.2))).2;simp[execOp,ah,ae,ao,eqGuard,mA,h]
theorem R2 (w:World) {T:TypeId} {bD jl:Array TypeId} {up:Bool} (b6:P.underlying T=some (.func bD jl up)):(binOp .eql T .nilFunc .nilFunc).run P w= .ok (.bool true) w/\(binOp .neq T .nilFunc .nilFunc).run P w= .ok (.bool false) w:=by
 have au: ∀d,(Op.equalIn (d+1) T .nilFunc .nilFunc).run P w= .ok true w:=fun d=>by simp[Op.equalIn,run_underlying b6]
 have h:(Op.equalIn 10000 T .nilFunc .nilFunc).run P w= .ok true w:=au 9999;constructor
 .simp only[binOp];simp[Op.equal,Op.maxDepth,h]
 .simp only[binOp];simp[Op.equal,Op.maxDepth,h]
theorem aee {o:Oper} {T fG:TypeId} {x:Operand} {op:BinOp} {b:Bool} {bD jl:Array TypeId} {up:Bool} (wd:(op= .eql/\b=true)\/(op= .neq/\b=false)) (ah:o.op= .binOp op T x (.const .nilFunc) fG) (b6:P.underlying T=some (.func bD jl up))
  (hx:a2 K x= .c (.one (.bJ .nilFunc))) (N:Nat):bA P N ids o K B (.c (.one (.d (.lit b)))) ⟨[],[],[]⟩:=by
 have m1:x∈o.op.operands:=az1
 refine bA.val fun K' B' g1 g2 C ρ F a w aj ar=>?_
 have ae:=ar.bJ ((g1 x m1).trans hx);refine⟨.bool b,?_,rfl⟩;have ao:a.eval (.const .nilFunc)= .nilFunc:=rfl;rcases wd with⟨rfl,rfl⟩ |⟨rfl,rfl⟩
 .have h:=(R2 (P:=P) w b6).1;simp[execOp,ah,ae,ao,eqGuard,h]
 .have h:=(R2 (P:=P) w b6).2;simp[execOp,ah,ae,ao,eqGuard,h]
end
end
section
abbrev tI:bz:=.bP (.int .i64) (.bP (.int .i64) .bool)
abbrev fx:bz:=.arr 16 tI
abbrev fd:=Int×Int×Bool
abbrev qt (s:fd):List bB:=[.d (.int .i64 s.1),.d (.int .i64 s.2.1),.d (.bool s.2.2)]
abbrev pJ (s:fd):dP:=.agg (qt s)
abbrev ck:fd:=(0,0,false)
def tJ (s:fd):Prop:=(-1000000<=s.1/\s.1<=1000000)/\ -1000000<=s.2.1/\s.2.1<=1000000
def qu:List fd:=List.replicate 16 ck
abbrev o7 (n:Int) (es:List (Z al×Z fx)):az:=[(1001,.cells [.d (.int .i64 n),.mp 1002]),(1002,.map al fx es)]
def hQ (es:List (Z al×Z fx)) (k:Int):List fd:=(bY (aI:=al) (aK:=fx) es k).getD qu
structure n9 (t:List fd) (es:List (Z al×Z fx)):Prop where
 hE:e5 es
 wf: ∀p,p∈es->List.length (α:=fd) p.2=16
 ok: ∀k i,tJ ((hQ es k).getD i ck)
 at_: ∀c (h:c < t.length),(hQ es ((c/16:Nat):Int)).getD (c % 16) ck=t[c]
theorem n9.len {t:List fd} {es:List (Z al×Z fx)} (h:n9 t es) (k:Int):(hQ es k).length=16:=by
 unfold hQ
 cases e:bY (aI:=al) (aK:=fx) es k with
 |none=>rfl
 |some g=>exact h.wf _ (Rr rq e)
theorem aef (es:List (Z al×Z fx)) (k:Int) (g:List fd):hQ (dx (aI:=al) (aK:=fx) es k g) k=g/\ ∀j,j≠k->hQ (dx (aI:=al) (aK:=fx) es k g) j=hQ es j:=by
 obtain⟨E,G⟩:=zV (aI:=al) (aK:=fx) rq k g es;refine⟨by unfold hQ;rw[E];rfl,fun j V=>?_⟩;unfold hQ;rw[G j V]
theorem aeg {es:List (Z al×Z fx)} (hn:e5 es) (k:Int):hQ (gM (aI:=al) (aK:=fx) es k) k=qu/\ ∀j,j≠k->hQ (gM (aI:=al) (aK:=fx) es k) j=hQ es j:=by
 obtain⟨E,G⟩:=CC (aI:=al) (aK:=fx) rq k es hn;refine⟨by unfold hQ;rw[E];rfl,fun j V=>?_⟩;unfold hQ;rw[G j V]
def rv (es:List (Z al×Z fx)) (c:Nat) (s:fd):List (Z al×Z fx):=
 if(hQ es ((c/16:Nat):Int)).set (c % 16) s=qu then gM (aI:=al) (aK:=fx) es ((c/16:Nat):Int) else dx (aI:=al) (aK:=fx) es ((c/16:Nat):Int) ((hQ es ((c/16:Nat):Int)).set (c % 16) s)
theorem aeh {t:List fd} {es:List (Z al×Z fx)} (h:n9 t es) (c:Nat) (s:fd):hQ (rv es c s) ((c/16:Nat):Int)=(hQ es ((c/16:Nat):Int)).set (c % 16) s/\ ∀j,j≠((c/16:Nat):Int)->hQ (rv es c s) j=hQ es j:=by
 unfold rv
 split
 .rename_i e;obtain⟨E,G⟩:=aeg h.hE ((c/16:Nat):Int);exact⟨E.trans e.symm,G⟩
 .exact aef es _ _
theorem n9.set {t:List fd} {es:List (Z al×Z fx)} (h:n9 t es) (c:Nat) (s:fd) (aw:tJ s):n9 (t.set c s) (rv es c s):=by
 obtain⟨g1,g2⟩:=aeh h c s;refine⟨?_,?_,fun k i=>?_,fun d H=>?_⟩
 .unfold rv
  split
  .exact e5.ng h.hE
  .exact e5.put rq h.hE
 .intro p ai;unfold rv at ai
  split at ai
  .exact h.wf p (zW ai)
  .rcases Kx ai with rfl |ai
   .show List.length (α:=fd) ((hQ es ((c/16:Nat):Int)).set (c % 16) s)=16;rw[av3];exact h.len _
   .exact h.wf p ai
 .by_cases e:k=((c/16:Nat):Int)
  .rw[e,g1,aq3,aw6]
   split
   .split
    .exact aw
    .exact⟨ay5,ay5⟩
   .rw[<-aq3];exact h.ok _ _
  .rw[g2 _ e];exact h.ok _ _
 .rw[av3] at H;have ak:=h.len ((c/16:Nat):Int)
  by_cases e:d/16=c/16
  .rw[e,g1]
   by_cases ao:d=c
   .subst ao;rw[List.getElem_set_self,aq3,av0 (by rw[ak];omega)];rfl
   .have a7:c % 16≠d % 16:=fun h=>ao ay4
    rw[List.getElem_set_ne (Ne.symm ao),aq3,au3 a7,<-aq3,<-e];exact h.at_ d H
  .have a7:((d/16:Nat):Int)≠((c/16:Nat):Int):=fun h=>e ay4
   rw[g2 _ a7,List.getElem_set_ne (fun ao=>e (by rw[ao]))];exact h.at_ d H
theorem R3:(Tryz.prog.info? 243).map (·.size)=some 3:=by kernel_rfl
def rx (s:fd):Bool:=if s.1=1 then decide (0<=s.2.1)&&decide (s.2.1 < 512) else decide (s=ck)||decide (s=(2,0,false))
theorem R4 (s q:fd):decide (s=q)=true↔j6 (qt s)=j6 (qt q):=by
 rw[decide_eq_true_iff];simp only[j6,z8,qt,List.cons.injEq,Lit.int.injEq,Lit.bool.injEq,true_and,and_true];constructor
 .intro h;subst h;exact⟨rfl,rfl,rfl⟩
 .rintro⟨E,G,af⟩;exact Prod.ext E (Prod.ext G af)
theorem aei {n:Int} (h: -1000000<=n/\n<=1000000):(Lit.int .i64 n).wf=true:=by
 simp only[Lit.wf,vj,as5];have E:IntKind.min .i64= -9223372036854775808:=by decide
 have G:IntKind.max .i64=9223372036854775807:=by decide
 rw[E,G];omega
theorem R5 (d:Nat) {n:Int} (h: -1000000<=n/\n<=1000000):Tryz.prog.keyLits (d+1) 3 [.int .i64 n]=some [.int .i64 n]:=by
 unfold Program.keyLits;simp only[Tryz.underlying3];have hw:=aei h;simp[hw]
theorem lQ (d:Nat) {s:fd} (h:tJ s):Tryz.prog.keyLits (d+2) 243 (o6 (qt s))=some (j6 (qt s)):=by
 have cI:Tryz.prog.cellsOf 243=3:=by kernel_rfl
 have cE:Tryz.prog.cellsOf 3=1:=by kernel_rfl
 have hN:Tryz.prog.cellsOf 4=1:=by kernel_rfl
 have cj:=R5 d h.1;have cT:=R5 d h.2
 have eg:Tryz.prog.keyLits (d+1) 4 [.bool s.2.2]=some [.bool s.2.2]:=by
  unfold Program.keyLits;simp only[Tryz.underlying4]
 unfold Program.keyLits;simp only[Tryz.underlying243,cI];simp[o6,KV,qt,cE,hN,cj,cT,eg,j6,z8]
theorem aej (s:fd) (aw:tJ s):Fn Tryz.prog 228 [.c (pJ s)] [] [] (fI (rx s)) []:=by
 refine aU [] Tryz.func228 ?_;refine⟨rfl,fun E=>?_,fun E=>?_⟩
 .have E:=gd E;refine⟨fun G=>?_,fun G=>?_⟩
  .refine⟨_,_,_,br,rfl,?_,trivial,rfl⟩;show decide (s.2.1 < 512)=rx s;unfold rx;have G:decide (0<=s.2.1)=true:=G;rw[if_pos E,G,Bool.true_and]
  .refine⟨_,_,_,br,rfl,?_,trivial,rfl⟩;show false=rx s;unfold rx;have G:decide (0<=s.2.1)=false:=G;rw[if_pos E,G,Bool.false_and]
 .have E:=mu E;refine⟨_,_,fun N=>KY (m:=5) (D:=5) (lx:=qt s) (ly:=[.d (.int .i64 0),.d (.int .i64 0),.d (.lit false)]) rfl ay7 ay7 ay5 rfl rfl rfl rfl rfl (lQ 3 aw) (lQ 3 (s:=ck) ⟨ay5,ay5⟩) (R4 s ck) N,rfl,?_⟩;refine⟨fun G=>?_,fun G=>?_⟩
  .refine⟨_,_,_,br,rfl,?_,trivial,rfl⟩;show true=rx s;unfold rx;rw[if_neg E,G,Bool.true_or]
  .refine⟨_,_,fun N=>KY (m:=5) (D:=5) (lx:=qt s) (ly:=[.d (.int .i64 2),.d (.int .i64 0),.d (.lit false)]) rfl ay7 ay7 ay5 rfl rfl rfl rfl rfl (lQ 3 aw) (lQ 3 (s:=(2,0,false)) ⟨ay5,ay5⟩) (R4 s (2,0,false)) N,rfl,?_⟩;refine⟨_,_,_,br,rfl,?_,trivial,rfl⟩;show decide (s=(2,0,false))=rx s;unfold rx;rw[if_neg E,G,Bool.false_or]
def uV (s:fd):Bool:=decide (s.1=1)&&s.2.2
theorem aek (s:fd):Fn Tryz.prog 202 [.c (pJ s)] [] [] (fI (uV s)) []:=by
 refine aU [] Tryz.func202 ?_;refine⟨rfl,fun E=>?_,fun E=>?_⟩
 .refine⟨_,_,_,br,rfl,?_,trivial,rfl⟩;show s.2.2=uV s;unfold uV;have E:decide (s.1=1)=true:=E;rw[E,Bool.true_and]
 .refine⟨_,_,_,br,rfl,?_,trivial,rfl⟩;show false=uV s;unfold uV;have E:decide (s.1=1)=false:=E;rw[E,Bool.false_and]
theorem R6 (n:Int):Fn Tryz.prog 152 [ab n] [] [] (fI (decide (0<=n)&&decide (n<=256))) []:=by
 refine aU [] Tryz.func152 ?_;refine⟨fun h=>?_,fun h=>?_⟩
 .refine⟨_,_,_,br,rfl,?_,trivial,rfl⟩;show decide (n<=256)=_;have h:decide (0<=n)=true:=h;rw[h,Bool.true_and]
 .refine⟨_,_,_,br,rfl,?_,trivial,rfl⟩;show false=_;have h:decide (0<=n)=false:=h;rw[h,Bool.false_and]
theorem ael (n:Int) (es:List (Z al×Z fx)):Fn Tryz.prog 165 [aq 1001] (o7 n es) [] (ab n) (o7 n es):=by
 refine aU [] Tryz.func165 ?_;exact bg
theorem R7 {t:List fd} {es:List (Z al×Z fx)} (g':n9 t es) (ak:t.length<=256) (c:Nat) (J:c < t.length):Fn Tryz.prog 167 [aq 1001,ab (c:Int)] (o7 (t.length:Nat) es) [] (.c (pJ t[c])) (o7 (t.length:Nat) es):=by
 have aZ:(hQ es ((c:Int)/16)).getD ((c:Int) % 16).toNat ck=t[c]:=by
  rw[<-g'.at_ c J]
  congr 1
 obtain⟨aem,CV,Ge⟩: ∃i,Tryz.prog.info? 243=some i/\i.size=3:=by
  have:=R3
  cases e:Tryz.prog.info? 243 with
  |none=>rw[e] at this;cases this
  |some i=>rw[e] at this;exact⟨i,rfl,by simpa using this⟩
 refine aU [] Tryz.func167 ?_;refine⟨rfl,fun E=>absurd (gd E) ay4,fun E=>⟨fun E=>absurd (gd E) ay4,fun E=>⟨⟨ay4,ay4⟩,⟨ay4,ay4⟩,⟨ay4,ay4⟩,⟨ay4,ay4⟩,_,_,fun N=>ad6 (n:=16) (e:=243) (u:=tI) (g:=hQ es ((c:Int)/16)) (j:=(c:Int) % 16) rfl Tryz.underlying290 Tryz.underlying243 rfl CV Ge rfl rfl ay4 ay4 N,rfl,?_⟩⟩⟩;refine⟨_,_,_,br,rfl,?_,aC,rfl⟩;show tg (.c (.agg (gq tI ((hQ es ((c:Int)/16)).getD ((c:Int) % 16).toNat ck) 0 3))) _;rw[aZ];exact aC
theorem aen (g hp:List fd) (ak:g.length=16) (gf:hp.length=16):j6 (gq fx g 0 48)=j6 (gq fx hp 0 48)->g=hp:=by
 intro h
 have mG: ∀(l:List bB) (j:Nat),(j6 l)[j]? =(l[j]?).map z8:=fun l=>by
  induction l with
  |nil=>intro j;simp[j6]
  |cons s l bq=>
   intro j
   match j with
   |0=>rfl
   |j+1=>simpa[j6] using bq j
 have J: ∀i,i < 16-> ∀q,q < 3->z8 (.d (fD tI (g.getD i ck) q))=z8 (.d (fD tI (hp.getD i ck) q)):=fun i aF q aT=>by
  have E:=congrArg (fun l=>l[i*3+q]?) h;simp only[mG] at E;have ae:=zt fx g 48 0 (i*3+q) ay4;have ao:=zt fx hp 48 0 (i*3+q) ay4;rw[ae,ao] at E;simp only[av4,aq4,au1] at E;have cI:fD fx g (i*3+q)=fD tI (g.getD i ck) q:=K1 (u:=tI) (n:=16) g i q aT;have cE:fD fx hp (i*3+q)=fD tI (hp.getD i ck) q:=K1 (u:=tI) (n:=16) hp i q aT;rw[cI,cE] at E;exact E
 refine List.ext_getElem (ak.trans gf.symm) fun i E G=>?_
 have a0:=J i ay4 0 ay4;have bZ:=J i ay4 1 ay4;have cg:=J i ay4 2 ay4;have ae:g.getD i ck=g[i]:=by rw[aq3,oj E];rfl
 have ao:hp.getD i ck=hp[i]:=by rw[aq3,oj G];rfl
 rw[ae,ao] at a0 bZ cg;have eK:Lit.int .i64 (g[i]).1=Lit.int .i64 (hp[i]).1:=a0;have b1:Lit.int .i64 (g[i]).2.1=Lit.int .i64 (hp[i]).2.1:=bZ;have b2:Lit.bool (g[i]).2.2=Lit.bool (hp[i]).2.2:=cg;injection eK with _ eK
 injection b1 with _ b1
 injection b2 with b2
 exact Prod.ext eK (Prod.ext b1 b2)
theorem R8 {α lN:Type} {f:α->Option lN} {g:α->lN}: ∀{l:List α},(∀a,a∈l->f a=some (g a))->l.mapM f=some (l.map g)
 | [],_=>rfl
 |a::l,h=>by
  rw[List.mapM_cons,h a (ar2 ..),R8 fun b O=>h b (aq2 _ O)];rfl
theorem R9 (d:Nat) (g:List fd) (h: ∀i,i < 16->tJ (g.getD i ck)):Tryz.prog.keyLits (d+3) 290 (o6 (gq fx g 0 48))=some (j6 (gq fx g 0 48)):=by
 have cI:Tryz.prog.cellsOf 290=48:=by kernel_rfl
 have cE:Tryz.prog.cellsOf 243=3:=by kernel_rfl
 have key: ∀i,i < 16->Tryz.prog.keyLits (d+2) 243 (((o6 (gq fx g 0 48)).drop (i*3)).take 3)=some (j6 (qt (g.getD i ck))):=by
  intro i aF
  match i,aF with
  |0,_=>exact lQ d (h 0 ay4)
  |1,_=>exact lQ d (h 1 ay4)
  |2,_=>exact lQ d (h 2 ay4)
  |3,_=>exact lQ d (h 3 ay4)
  |4,_=>exact lQ d (h 4 ay4)
  |5,_=>exact lQ d (h 5 ay4)
  |6,_=>exact lQ d (h 6 ay4)
  |7,_=>exact lQ d (h 7 ay4)
  |8,_=>exact lQ d (h 8 ay4)
  |9,_=>exact lQ d (h 9 ay4)
  |10,_=>exact lQ d (h 10 ay4)
  |11,_=>exact lQ d (h 11 ay4)
  |12,_=>exact lQ d (h 12 ay4)
  |13,_=>exact lQ d (h 13 ay4)
  |14,_=>exact lQ d (h 14 ay4)
  |15,_=>exact lQ d (h 15 ay4)
  |n+16,aF=>exact absurd aF ay4
 unfold Program.keyLits;simp only[Tryz.underlying290,cI,cE];have ak:(o6 (gq fx g 0 48)).length=48:=rfl;have ax:((List.range 16).map fun i=>j6 (qt (g.getD i ck))).flatten=j6 (gq fx g 0 48):=rfl;generalize o6 (gq fx g 0 48)=aqi at ak key⊢;rw[if_pos ak,R8 (g:=fun i=>j6 (qt (g.getD i ck))) fun i aF=>key i (List.mem_range.1 aF)];exact congrArg some ax
theorem aeo:(Tryz.prog.info? 290).map (·.size)=some 48:=by kernel_rfl
theorem ku {T n:Nat} (h:(Tryz.prog.info? T).map (·.size)=some n): ∃i,Tryz.prog.info? T=some i/\i.size=n:=by
 cases e:Tryz.prog.info? T with
 |none=>rw[e] at h;cases h
 |some i=>rw[e] at h;exact⟨i,rfl,by simpa using h⟩
theorem R' (i:Nat):qu.getD i ck=ck:=by
 unfold qu;rw[aq3,List.getElem?_replicate]
 split <;>rfl
abbrev oa:List bB:=[.d (.int .i64 0),.d (.int .i64 0),.d (.lit false)]
abbrev Gf:List bB:=oa++(oa++(oa++(oa++(oa++(oa++(oa++(oa++(oa++(oa++(oa++(oa++(oa++(oa++(oa++oa))))))))))))))
theorem aep:Tryz.prog.keyLits 5 290 (o6 Gf)=some (j6 Gf):=R9 2 qu fun i _=>by rw[R'];exact⟨ay5,ay5⟩
abbrev aeq (c:Nat):aY:=[(0,aq 1001),(1,ab (c:Int)),(5,aq 5),(6,aq 6)]
abbrev aer (n:Int) (es:List (Z al×Z fx)) (s:fd) (g:List fd):az:=[(6,.val fx g),(5,.cells (qt s)),(1001,.cells [.d (.int .i64 n),.mp 1002]),(1002,.map al fx es)]
theorem aes {t:List fd} {es:List (Z al×Z fx)} (g':n9 t es) (n:Int) (c:Nat) (J:c < 100000) (s:fd) (aw:tJ s):Fn Tryz.prog 229 [aq 1001,ab (c:Int),.c (pJ s)] (o7 n es) [] gO (o7 n (rv es c s)):=by
 obtain⟨aem,CV,Ge⟩:=ku R3;obtain⟨aqj,Sa,Sb⟩:=ku aeo;have bV:=g'.len ((c:Int)/16);have dd:((c/16:Nat):Int)=(c:Int)/16:=az2
 have Aa:((c:Int) % 16).toNat=c % 16:=az2
 have Sc:(hQ es ((c:Int)/16)).set (c % 16) s=qu->rv es c s=gM (aI:=al) (aK:=fx) es ((c:Int)/16):=fun h=>by
  unfold rv;rw[dd,if_pos h];rfl
 have Gg: ¬(hQ es ((c:Int)/16)).set (c % 16) s=qu->rv es c s=dx (aI:=al) (aK:=fx) es ((c:Int)/16) ((hQ es ((c:Int)/16)).set (c % 16) s):=fun h=>by
  unfold rv;rw[dd,if_neg h];rfl
 have uW:((hQ es ((c:Int)/16)).set (c % 16) s).length=16:=by rw[av3];exact bV
 have Sd: ∀i,i < 16->tJ (((hQ es ((c:Int)/16)).set (c % 16) s).getD i ck):=fun i _=>by
  rw[aq3,aw6]
  split
  .split
   .exact aw
   .exact⟨ay5,ay5⟩
  .rw[<-aq3];exact g'.ok _ _
 obtain⟨hp,ry⟩: ∃hp:List fd,hp=(hQ es ((c:Int)/16)).set (c % 16) s:=⟨_,rfl⟩;rw[<-ry] at Sc Gg Sd uW
 have sk:decide (hp=qu)=true↔j6 (gq fx hp 0 48)=j6 Gf:=by
  rw[decide_eq_true_iff];exact⟨fun h=>by rw[h];rfl,aen hp qu uW rfl⟩
 refine aU [2] Tryz.func229 ?_;refine⟨rfl,⟨ay4,ay4⟩,⟨ay4,ay4⟩,rfl,bu [] ((ac.ad7 6 (u:=fx) (x:=hQ es ((c:Int)/16)) ⟨bV,fun _ _=>⟨trivial,trivial,trivial⟩⟩ rfl).trans (cM (aeq c) (aer n es s (hQ es ((c:Int)/16))))) ⟨⟨ay4,ay4⟩,⟨ay4,ay4⟩,_,_,fun N=>ad8 (s:=3) (j:=(c:Int) % 16) rfl Tryz.underlying290 CV Ge rfl rfl ay4 ay4 N,rfl,?_⟩⟩;rw[Aa];refine⟨_,⟨[6],[],[(6,some (.val fx hp))]⟩,fun N=>by rw[ry];exact ad' (n:=16) (u:=tI) (g:=hQ es ((c:Int)/16)) (y:=s) rfl CV Ge rfl ay4 rfl rfl ⟨trivial,trivial,trivial⟩ N,rfl,?_⟩;refine⟨_,_,fun N=>R0 (u:=fx) (y:=hp) rfl Tryz.underlying290 rfl Sa Sb rfl rfl N,rfl,?_⟩;refine⟨_,_,fun N=>aea e3 rfl rfl Tryz.underlying290 CV rfl N,rfl,?_⟩;refine⟨_,_,fun N=>KY (m:=5) (D:=5) (r:=decide (hp=qu)) (lx:=gq fx hp 0 48) (ly:=Gf) rfl ay7 ay7 ay5 rfl rfl rfl rfl rfl (R9 2 hp Sd) aep (sk) N,rfl,?_⟩;refine⟨fun h=>?_,fun h=>?_⟩
 .have h:=gd h;refine⟨⟨ay4,ay4⟩,⟨ay4,ay4⟩,?_⟩;rw[Sc h];exact bg
 .have h:=mu h;refine⟨⟨ay4,ay4⟩,⟨ay4,ay4⟩,_,_,fun N=>R0 (u:=fx) (y:=hp) rfl Tryz.underlying290 rfl Sa Sb rfl rfl N,rfl,?_⟩;refine⟨hp,⟨⟨uW,fun _ _=>⟨trivial,trivial,trivial⟩⟩,rfl⟩,rfl,?_⟩;rw[Gg h];exact bg
theorem aet {t:List fd} {es:List (Z al×Z fx)} (g':n9 t es) (ak:t.length<=256) (c:Nat) (J:c < t.length) (s:fd) (aw:tJ s) (ax:rx s=true):
  Fn Tryz.prog 205 [aq 1001,ab (c:Int),.c (pJ s)] (o7 (t.length:Nat) es) [] (.ci [pJ t[c],dz 0]) (o7 (t.length:Nat) (rv es c s)):=by
 refine aU [] Tryz.func205 ?_;refine⟨rfl,rfl,fun E=>absurd (gd E) ay4,fun E=>⟨fun E=>absurd (gd E) ay4,fun E=>av (aej s aw) ?_⟩⟩;exact⟨fun E=>absurd E (by rw[ax];decide),fun _=>av (R7 g' ak c J) ⟨rfl,av (aes g' (t.length:Nat) c ay4 s aw) <| eG br rfl ⟨aC,rfl,trivial⟩⟩⟩
def rz (t:List fd):bc where
 bo:=fun I F w p=> ∃es,n9 t es/\jn 1001 (o7 (t.length:Nat) es) I F w p
 cp:=fun I F w I' w' p ⟨es,h,aZ⟩ U bh aN=>⟨es,h,(bc.i9 1001 (o7 (t.length:Nat) es)).cp I F w I' w' p aZ U bh aN⟩
theorem n9.new (n:Nat):n9 (List.replicate n ck) []:=by
 have aZ: ∀k i,(hQ [] k).getD i ck=ck:=fun k i=>R' i
 refine⟨.nil,fun p ai=>(by cases ai),fun k i=>?_,fun c J=>?_⟩
 .rw[aZ];exact⟨ay5,ay5⟩
 .rw[aZ,List.getElem_replicate]
theorem aeu (n:Int) (h: ¬(0<=n/\n<=256)):Fn Tryz.prog 98 [ab n] [] [] (.ci [mP,dz 1]) []:=by
 have O:(decide (0<=n)&&decide (n<=256))=false:=by
  rw[Bool.and_eq_false_iff,decide_eq_false_iff_not,decide_eq_false_iff_not];omega
 refine aU [] Tryz.func98 ?_;refine av (R6 n) ?_;rw[O];exact⟨fun _=>bg,fun E=>absurd E ay5⟩
theorem K3 (n:Nat) (h:n<=256):Fn Tryz.prog 98 [ab (n:Int)] [] [1001] (.ci [.one (.ptr 1001 0),dz 0]) [(1001,.aG (rz (List.replicate n ck)))]:=by
 have O:(decide ((0:Int)<=n)&&decide ((n:Int)<=256))=true:=by
  rw[vj,decide_eq_true_iff,decide_eq_true_iff];omega
 have ak:((List.replicate n ck).length:Nat)=n:=ar7;refine aU [] Tryz.func98 ?_;refine av (R6 n) ?_;rw[O];refine⟨fun E=>absurd E ay5,fun _=>⟨rfl,rfl,?_⟩⟩;refine⟨_,_,_,(ac.aV 10 1001 rfl).trans ((ac.aV 8 1002 rfl).trans (ac.close 1001 (o7 (n:Nat) []) (o:=rz (List.replicate n ck)) aC rfl fun _ _ _ _ h=>⟨[],n9.new n,by rw[ak];exact h⟩)),rfl,aC,aC,rfl⟩
end
section
abbrev pK (l:List Int):az:=[(1001,.cells [.own 1002]),(1002,.row 3 al l)]
def rA (l:List Int):bc:=.i9 1001 (pK l)
theorem aev:(Tryz.prog.info? 3).map (fun i=>(i.zero,i.size,i.bytes))=some (some (.int .i64 0),1,8):=by kernel_rfl
theorem Se (n:Int) (h: ¬(0<=n/\n<=512)):Fn Tryz.prog 99 [ab n] [] [] (.ci [mP,dz 1]) []:=by
 refine aU [] Tryz.func99 ?_;refine⟨fun E=>?_,fun E=>?_⟩
 .exact bg
 refine⟨fun G=>?_,fun G=>?_⟩
 .exact bg
 .exfalso;simp at E G;omega
theorem Gh (n:Int) (au:0<=n) (hn:n<=512):Fn Tryz.prog 99 [ab n] [] [1001] (.ci [.one (.ptr 1001 0),dz 0]) [(1001,.aG (rA (List.replicate n.toNat (0:Int))))]:=by
 obtain⟨c8,oV,oW,uX,Ab⟩:=info_parts aev;refine aU [] Tryz.func99 ?_;refine⟨fun E=>?_,fun E=>?_⟩
 .exfalso;simp at E;omega
 refine⟨fun G=>?_,fun G=>?_⟩
 .exfalso;simp at G;omega
 refine⟨_,_,fun N=>aec (d:=11) rfl Tryz.underlying83 oV oW uX Ab rfl rfl au ay4 N,rfl,?_⟩;exact⟨rfl,_,_,_,(ac.aV 13 1001 rfl).trans ((ac.aV 11 1002 rfl).trans (ac.close 1001 (pK (List.replicate n.toNat (0:Int))) (o:=rA (List.replicate n.toNat (0:Int))) aC rfl fun _ _ _ _ h=>h)),rfl,aC,aC,rfl⟩
theorem aew (l:List Int) (h:Int):Fn Tryz.prog 269 [aq 1001,ab h] (pK l) [] (fI (decide (0<=h)&&decide (h < l.length))) (pK l):=by
 refine aU [] Tryz.func269 ?_;refine⟨fun E=>?_,fun E=>?_⟩
 .refine⟨_,_,_,br,rfl,?_,aC,rfl⟩;show decide (h < (l.length:Nat))=(decide (0<=h)&&decide (h < (l.length:Nat)));have E:decide (0<=h)=true:=E;rw[E,Bool.true_and]
 .refine⟨_,_,_,br,rfl,?_,aC,rfl⟩;show false=(decide (0<=h)&&decide (h < (l.length:Nat)));have E:decide (0<=h)=false:=E;rw[E,Bool.false_and]
theorem aex (n:Int) (h:n≠0):Fn Tryz.prog 259 [ab n] [] [] (ab 0) []:=by
 refine aU [] Tryz.func259 ?_;exact⟨fun E=>absurd (gd E) h,fun E=>bg⟩
theorem aey (l:List Int) (h:Nat) (n:Int) (hn:l[h]? =some n) (E:1<=n) (G:n<=65535):Fn Tryz.prog 258 [aq 1001,ab (h:Int),ab (-1),k1 (.cY 259 [])] (pK l) [] (ab 0) (pK (l.set h (n - 1))):=by
 have ak:h < l.length:=(aq7.1 hn).1;refine aU [] Tryz.func258 ?_;refine av (aew l h) ?_;have m1:(0:Int)<=(h:Int):=az2
 have m2:(h:Int) < (l.length:Nat):=az2
 refine⟨fun _=>?_,fun hf=>?_⟩
 .exact⟨⟨m1,m2⟩,n,hn,av (aex n ay4) <| fb ⟨⟨m1,m2⟩,n,hn,⟨ay4,ay4⟩,⟨m1,m2⟩,⟨trivial,ak⟩,bg⟩⟩
 .exfalso;have hf:(decide ((0:Int)<=h)&&decide ((h:Int) < l.length))=false:=hf;rw[ar0 ay4,ar0 ay4] at hf
  cases hf
theorem aez (l:List Int) (h:Nat) (n:Int) (hn:l[h]? =some n) (E:1<=n) (G:n<=65535):Fn Tryz.prog 230 [aq 1001,ab (h:Int)] (pK l) [] (.ci [.one (.d (.int .i64 (n - 1))),dz 0]) (pK (l.set h (n - 1))):=by
 have ak:h < l.length:=(aq7.1 hn).1;refine aU [] Tryz.func230 ?_;refine av (aey l h n hn E G) <| dt ?_;have qg:h < (l.set h (n - 1)).length:=by rw[av3];exact ak
 have m1:(0:Int)<=(h:Int):=az2
 have m2:(h:Int) < ((l.set h (n - 1)).length:Nat):=az2
 have m3:(l.set h (n - 1))[h]? =some (n - 1):=by rw[av0 ak]
 exact⟨⟨m1,m2⟩,n - 1,m3,bg⟩
def dV (l:List Int):Nat:=(l.filter fun x=>decide (x=0)).length
theorem K4 (l:List Int):dV l<=l.length:=List.length_filter_le _ _
theorem aeA {l:List Int} {k:Nat} (h:k < l.length):dV (l.take (k+1))=dV (l.take k)+(if l[k]=0 then 1 else 0):=by
 unfold dV;rw[at5 h,List.filter_append,aq1]
 congr 1
 by_cases e:l[k]=0
 .simp[e]
 .simp[e]
abbrev aeB (l:List Int) (k:Nat):aY:=[(3,ab (dV (l.take k):Nat)),(9,eM 1002),(10,ab (l.length:Nat)),(11,ab (k:Nat))]
theorem aeC (l:List Int) (ak:l.length<=1000000):Fn Tryz.prog 203 [aq 1001] (pK l) [] (ab (dV l:Nat)) (pK l):=by
 refine aU [] Tryz.func203 ?_;refine d2 [] (X:=Nat) (aeB l) (fun _=>pK l) (fun k=>k<=l.length) (fun k=>l.length - k) 0 (aq8 _) ?_ ?_
 .exact ac.sub aC aC
 intro k aa;have aN:=K4 (l.take k);have ts:(l.take k).length<=l.length:=aA2
 refine⟨fun h=>?_,fun h=>?_⟩
 .have h:decide ((k:Int) < (l.length:Nat))=true:=h;have eD:k < l.length:=az3
  have aw:=aeA eD;have m1:(0:Int)<=(k:Int):=az2
  have m2:(k:Int) < (l.length:Nat):=az2
  refine⟨⟨m1,m2⟩,l[k],jJ (n:=k) eD,fun au=>?_,fun au=>?_⟩
  .have au:=gd au;refine⟨ay4,ay4,k+1,ay4,ay4,ac.sub ⟨?_,rfl,rfl,rfl,trivial⟩ aC⟩;show((dV (l.take k):Nat):Int)+1=(dV (l.take (k+1)):Nat);rw[aw,if_pos au];omega
  .have au:=mu au;refine⟨ay4,k+1,ay4,ay4,ac.sub ⟨?_,rfl,rfl,rfl,trivial⟩ aC⟩;show((dV (l.take k):Nat):Int)=(dV (l.take (k+1)):Nat);rw[aw,if_neg au];omega
 .have h:decide ((k:Int) < (l.length:Nat))=false:=h;have eD:k=l.length:=aB5
  subst eD;refine⟨_,_,_,br,rfl,?_,aC,rfl⟩;show((dV (l.take l.length):Nat):Int)=_;rw[ar9]
abbrev aeD (l:List Int) (k:Nat):aY:=[(0,aq 1001),(9,ab (l.length:Nat)),(10,ab (k:Nat))]
theorem aeE (l:List Int) (ak:l.length<=1000000) (h:Nat) (bf:l[h]? =some 0) (hf: ∀j,j < h->l[j]? ≠some 0):Fn Tryz.prog 204 [aq 1001] (pK l) [] (.ci [.one (.d (.int .i64 (h:Int))),dz 0]) (pK (l.set h 1)):=by
 have bt:h < l.length:=(aq7.1 bf).1;refine aU [] Tryz.func204 ?_;refine d2 [] (X:=Nat) (aeD l) (fun _=>pK l) (fun k=>k<=h) (fun k=>l.length - k) 0 (aq8 _) ?_ ?_
 .exact ac.sub aC aC
 intro k aa;refine⟨fun _=>?_,fun E=>?_⟩
 .have eD:k < l.length:=az2
  have m1:(0:Int)<=(k:Int):=az2
  have m2:(k:Int) < (l.length:Nat):=az2
  refine⟨⟨m1,m2⟩,l[k],jJ (n:=k) eD,fun au=>?_,fun au=>?_⟩
  .have au:=gd au
   have Sf:k=h:=by
    rcases Nat.lt_or_ge k h with af |af
    .exact absurd (by rw[oj eD,au]) (hf k af)
    .omega
   subst Sf;exact⟨⟨m1,m2⟩,⟨trivial,eD⟩,bg⟩
  .have au:=mu au
   have Sf:k≠h:=fun e=>by
    subst e;rw[oj eD] at bf;exact au (by injection bf)
   exact⟨ay4,k+1,ay4,ay4,ac.sub aC aC⟩
 .exfalso;have E:decide ((k:Int) < (l.length:Nat))=false:=E;simp at E;omega
end
section
def Ac (l:aC4):az->Bool
 | []=>true
 |(c,ch)::B=> !l.contains c&&(l.all fun d=> !ch.has d)&&Ac l B
theorem Gi {l:aC4}: ∀{B:az},Ac l B=true-> ∀{c ch},ag B c=some ch->c∉l/\ ∀d,d∈l->ch.has d=false
 | [],_,c,ch,J=>by cases J
 |(e,x)::B,h,c,ch,J=>by
  simp only[Ac,vj,Bool.not_eq_true'] at h;obtain⟨⟨E,G⟩,af⟩:=h;rw[cd] at J
  split at J
  .rename_i e;injection J with J
   subst e J;refine⟨fun aA=>(by rw[as7.2 aA] at E;cases E),fun d H=>?_⟩;have:=as4.1 G d H;simpa using this
  .exact Gi af J
theorem Fn.qv {P:Program} {f:FuncId} {args:List aP} {aJ:az} {bb:aC4} {res:aP} {aO:az} (pL:az) (h:Fn P f args aJ bb res aO) (E:((cr pL).all fun d=> !(cr aJ).contains d&& !(cr aO).contains d)=true) (G:Ac bb pL=true):
  Fn P f args (aJ++pL) bb res (aO++pL):=by
 have cj: ∀{c ch},ag pL c=some ch->ag aJ c=none/\ag aO c=none:=fun {c ch} J=>by
  have:=as4.1 E c (gv.2 ⟨ch,J⟩);simp only[vj,Bool.not_eq_true'] at this;constructor
  .cases e:ag aJ c with
   |none=>rfl
   |some x=>rw[as7.2 (gv.2 ⟨x,e⟩)] at this;cases this.1
  .cases e:ag aO c with
   |none=>rfl
   |some x=>rw[as7.2 (gv.2 ⟨x,e⟩)] at this;cases this.2
 have wB: ∀{c ch},ag aJ c=some ch->ag (aJ++pL) c=some ch:=fun {c ch} J=>by rw[iN,J]
 have uY: ∀{c ch},ag pL c=some ch->ag (aJ++pL) c=some ch:=fun {c ch} J=>by rw[iN,(cj J).1];exact J
 have Gj: ∀{c ch},ag (aO++pL) c=some ch->ag aO c=some ch\/ag pL c=some ch:=fun {c ch} J=>by
  rw[iN] at J
  cases e:ag aO c with
  |none=>rw[e] at J;exact .inr J
  |some x=>rw[e] at J;exact .inl J
 refine⟨h.1,fun ρ F I w bU bZ cg a3 a4 a5 gB=>(h.2 ρ F I w bU bZ (fun c ch J=>cg c ch (wB J)) (fun c ch J=>a3 c ch (wB J)) (fun c b9 ch ch' b J cK=>a4 c b9 ch ch' b (wB J) (wB cK)) a5 gB).mono ?_⟩;rintro e w' ⟨x,ρ',F',r1,r2,gg,I',j2,lL,mb,lM,mQ,n1⟩
 let cN:Nat->Nat->Prop:=fun c=>if(ag pL c).isSome=true then F c else F' c
 have ib: ∀{c ch},ag pL c=some ch->cN c=F c:=fun {c ch} J=>if_pos (by rw[J];rfl)
 have jC: ∀{c ch},ag aO c=some ch->cN c=F' c:=fun {c ch} J=>if_neg (fun aw=>by
  cases e:ag pL c with
  |none=>rw[e] at aw;cases aw
  |some x=>rw[(cj e).2] at J;cases J)
 have Gk: ∀{c ch} {b:Nat},ag pL c=some ch->F c b-> ¬ ∃d ch',ag aJ d=some ch'/\F d b:=fun {c ch b} J O=>by
  rintro⟨d,ch',H,dp⟩;refine a4 c d ch ch' b (uY J) (wB H) (fun e=>?_) O dp;subst e;rw[(cj J).1] at H
  cases H
 refine⟨x,ρ',cN,r1,r2.mono fun b _ ⟨c,ch,J,O⟩=>⟨c,ch,wB J,O⟩,gg,I',j2,fun b O=>⟨(lL b O).1,(lL b O).2.imp id (Or.imp (fun⟨c,ch,J,O⟩=>⟨c,ch,wB J,O⟩) id)⟩,fun c ch J=>?_,fun c ch J b O=>?_,fun c b9 ch ch' b J cK a7 O dp=>?_,n1⟩
 .rcases Gj J with J |J
  .rw[jC J];exact mb c ch J
  .rw[ib J];obtain⟨g1,g2⟩:=Gi G J;rw[gg c g1];exact Holds.cp j2 (fun b O=>r2.block b (a3 c ch (uY J) b O).1 (Gk J O)) r2.size ch (fun d H=>gg d fun aA=>by rw[g2 d aA] at H;cases H) (cg c ch (uY J))
 .rcases Gj J with J |J
  .rw[jC J] at O;obtain⟨g1,g2,cX⟩:=lM c ch J b O;exact⟨g1,g2,cX.imp (fun⟨d,ch',H,O⟩=>⟨d,ch',wB H,O⟩) id⟩
  .rw[ib J] at O;obtain⟨g1,g2⟩:=a3 c ch (uY J) b O;refine⟨ar6 g1 r2.size,fun a8=>?_,.inl ⟨c,ch,uY J,O⟩⟩;rcases(lL b a8).2 with h |h |h
   .exact g2 h
   .exact Gk J O h
   .omega
 .rcases Gj J with J |J <;>rcases Gj cK with cK |cK
  .rw[jC J] at O;rw[jC cK] at dp;exact mQ c b9 ch ch' b J cK a7 O dp
  .rw[jC J] at O;rw[ib cK] at dp;rcases(lM c ch J b O).2.2 with h |h
   .exact Gk cK dp h
   .have:=(a3 b9 ch' (uY cK) b dp).1;omega
  .rw[ib J] at O;rw[jC cK] at dp;rcases(lM b9 ch' cK b dp).2.2 with h |h
   .exact Gk J O h
   .have:=(a3 c ch (uY J) b O).1;omega
  .rw[ib J] at O;rw[ib cK] at dp;exact a4 c b9 ch ch' b (uY J) (uY cK) a7 O dp
theorem Fn.d0 {P:Program} {f:FuncId} {args:List aP} {aJ:az} {bb:aC4} {d:Nat} {e:TypeId} {u:bz} {xs:List (Z u)} {aO:az} (h:Fn P f args aJ (d::bb) (.c (.one (.own d))) (aO++[(d,.row e u xs)])) (E:(cr aO).contains d=false) (G:Ac [d] aO=true):
  Fn P f args aJ bb (.c (.one (.d (.co u xs)))) aO:=by
 have cj:ag aO d=none:=by
  cases e:ag aO d with
  |none=>rfl
  |some x=>rw[as7.2 (gv.2 ⟨x,e⟩)] at E;cases E
 have rB:ag (aO++[(d,ba.row e u xs)]) d=some (.row e u xs):=by rw[iN,cj];simp[ag]
 have hF: ∀{c ch},ag aO c=some ch->ag (aO++[(d,ba.row e u xs)]) c=some ch:=fun {c ch} J=>by rw[iN,J]
 have a7: ∀{c ch},ag aO c=some ch->c≠d:=fun {c ch} J e=>by rw[e,cj] at J;cases J
 refine⟨h.1,fun ρ F I w bU bZ cg a3 a4 a5 gB=>(h.2 ρ F I w bU bZ cg a3 a4 a5 gB).mono ?_⟩;rintro ex w' ⟨x,ρ',F',r1,r2,gg,I',j2,lL,mb,lM,mQ,n1⟩;have fK:=mb d _ rB;have zG: ∀b,I' b->(fun b=>I' b\/F' d b) b:=fun b O=>.inl O
 have a1:cm I' w' (fun b=>I' b\/F' d b) w':=fun b O=>⟨.inl O,rfl⟩
 have dy:gK (fun b=>I' b\/F' d b) w' (.co u xs) (ρ' d).ef:=BQ fK zG (fun b O=>.inr O);refine⟨x,da ρ' d (ρ d),F',r1,r2,fun c J=>?_,fun b=>I' b\/F' d b,fun b O=>⟨.inl (j2 b O).1,(j2 b O).2⟩,fun b O=>?_,fun c ch J=>?_,fun c ch J b O=>?_,fun c b9 ch ch' b J cK=>mQ c b9 ch ch' b (hF J) (hF cK),?_⟩
 .by_cases e:c=d
  .rw[e,c7]
  .rw[dh _ _ e];exact gg c (fun aA=>by rcases aq5.1 aA with h |h;exact e h;exact J h)
 .rcases O with O |O
  .exact lL b O
  .obtain⟨g1,g2,cX⟩:=lM d _ rB b O;exact⟨g1,.inr cX⟩
 .have sy:=a7 J;obtain⟨_,g2⟩:=Gi G J;rw[dh _ _ sy];exact Holds.cp a1 (fun _ _=>rfl) (aq0 _) ch (fun j V=>dh _ _ fun e=>by rw[e,g2 d (ar5.2 rfl)] at V;cases V) (mb c ch (hF J))
 .obtain⟨g1,g2,cX⟩:=lM c ch (hF J) b O;refine⟨g1,fun a8=>?_,cX⟩;rcases a8 with a8 |a8
  .exact g2 a8
  .exact mQ c d ch _ b (hF J) rB (a7 J) O a8
 .have hx:x=(ρ' d).ef:=n1;rw[hx];exact dy
theorem Fn.aeF {P:Program} {f:FuncId} {args:List aP} {aJ:az} {bb:aC4} {d:Nat} {e:TypeId} {u:bz} {xs:List (Z u)} {res:aP} {aO:az} (h:Fn P f args aJ (d::bb) res (aO++[(d,.row e u xs)])) (E:(cr aO).contains d=false) (G:Ac [d] aO=true) (af:(res.d0 d (.co u xs)).has d=false):
  Fn P f args aJ bb (res.d0 d (.co u xs)) aO:=by
 have cj:ag aO d=none:=by
  cases e:ag aO d with
  |none=>rfl
  |some x=>rw[as7.2 (gv.2 ⟨x,e⟩)] at E;cases E
 have rB:ag (aO++[(d,ba.row e u xs)]) d=some (.row e u xs):=by rw[iN,cj];simp[ag]
 have hF: ∀{c ch},ag aO c=some ch->ag (aO++[(d,ba.row e u xs)]) c=some ch:=fun {c ch} J=>by rw[iN,J]
 have a7: ∀{c ch},ag aO c=some ch->c≠d:=fun {c ch} J e=>by rw[e,cj] at J;cases J
 refine⟨h.1,fun ρ F I w bU bZ cg a3 a4 a5 gB=>(h.2 ρ F I w bU bZ cg a3 a4 a5 gB).mono ?_⟩;rintro ex w' ⟨x,ρ',F',r1,r2,gg,I',j2,lL,mb,lM,mQ,n1⟩;have fK:=mb d _ rB;have zG: ∀b,I' b->(fun b=>I' b\/F' d b) b:=fun b O=>.inl O
 have a1:cm I' w' (fun b=>I' b\/F' d b) w':=fun b O=>⟨.inl O,rfl⟩
 have dy:gK (fun b=>I' b\/F' d b) w' (.co u xs) (ρ' d).ef:=BQ fK zG (fun b O=>.inr O);refine⟨x,da ρ' d (ρ d),F',r1,r2,fun c J=>?_,fun b=>I' b\/F' d b,fun b O=>⟨.inl (j2 b O).1,(j2 b O).2⟩,fun b O=>?_,fun c ch J=>?_,fun c ch J b O=>?_,fun c b9 ch ch' b J cK=>mQ c b9 ch ch' b (hF J) (hF cK),?_⟩
 .by_cases e:c=d
  .rw[e,c7]
  .rw[dh _ _ e];exact gg c (fun aA=>by rcases aq5.1 aA with h |h;exact e h;exact J h)
 .rcases O with O |O
  .exact lL b O
  .obtain⟨g1,g2,cX⟩:=lM d _ rB b O;exact⟨g1,.inr cX⟩
 .have sy:=a7 J;obtain⟨_,g2⟩:=Gi G J;rw[dh _ _ sy];exact Holds.cp a1 (fun _ _=>rfl) (aq0 _) ch (fun j V=>dh _ _ fun e=>by rw[e,g2 d (ar5.2 rfl)] at V;cases V) (mb c ch (hF J))
 .obtain⟨g1,g2,cX⟩:=lM c ch (hF J) b O;refine⟨g1,fun a8=>?_,cX⟩;rcases a8 with a8 |a8
  .exact g2 a8
  .exact mQ c d ch _ b (hF J) rB (a7 J) O a8
 .have ay:cw ρ' (fun b=>I' b\/F' d b) w' (res.d0 d (.co u xs)) x:=cw.d0 a1 dy res x n1;exact cw.mono (cm.refl _ _) _ _ (fun c J=>dh _ _ fun e=>by subst e;rw[af] at J;cases J) ay
theorem Fn.own {P:Program} {f:FuncId} {args:List aP} {aJ:az} {bb:aC4} {d:Nat} {e:TypeId} {u:bz} {xs:List (Z u)} {res:aP} {aO:az} (h:Fn P f (args.map (aP.d0 d (.co u xs))) aJ bb res aO) (E:(cr aJ).contains d=false):
  Fn P f args (aJ++[(d,.row e u xs)]) bb res aO:=by
 have cj:ag aJ d=none:=by
  cases e:ag aJ d with
  |none=>rfl
  |some x=>rw[as7.2 (gv.2 ⟨x,e⟩)] at E;cases E
 have rB:ag (aJ++[(d,ba.row e u xs)]) d=some (.row e u xs):=by rw[iN,cj];simp[ag]
 have hF: ∀{c ch},ag aJ c=some ch->ag (aJ++[(d,ba.row e u xs)]) c=some ch:=fun {c ch} J=>by rw[iN,J]
 have a7: ∀{c ch},ag aJ c=some ch->c≠d:=fun {c ch} J e=>by rw[e,cj] at J;cases J
 refine⟨h.1,fun ρ F I w bU bZ cg a3 a4 a5 gB=>?_⟩;have fK:=cg d _ rB;have a1:cm I w (fun b=>I b\/F d b) w:=fun b O=>⟨.inl O,rfl⟩
 have dy:gK (fun b=>I b\/F d b) w (.co u xs) (ρ d).ef:=BQ fK (fun b O=>.inl O) (fun b O=>.inr O)
 refine(h.2 ρ F (fun b=>I b\/F d b) w bU (fun b O=>O.elim (bZ b) fun O=>(a3 d _ rB b O).1) (fun c ch J=>Holds.cp a1 (fun _ _=>rfl) (aq0 _) ch (fun _ _=>rfl) (cg c ch (hF J)))
  (fun c ch J b O=>⟨(a3 c ch (hF J) b O).1,fun a8=>a8.elim (a3 c ch (hF J) b O).2 fun H=>a4 c d ch _ b (hF J) rB (a7 J) O H⟩) (fun c b9 ch ch' b J cK=>a4 c b9 ch ch' b (hF J) (hF cK)) (by rw[ar1];exact a5) (fun i v x ay hx=>?_)).mono ?_
 .rw[as0] at ay;obtain⟨s,aw,rfl⟩:=at3.1 ay;exact cw.d0 a1 dy s x (gB i s x aw hx)
 .rintro ex w' ⟨x,ρ',F',r1,r2,gg,I',j2,lL,mb,lM,mQ,n1⟩;refine⟨x,ρ',F',r1,r2.mono fun b _ ⟨c,ch,J,O⟩=>⟨c,ch,hF J,O⟩,gg,I',fun b O=>j2 b (.inl O),fun b O=>⟨(lL b O).1,?_⟩,mb,fun c ch J b O=>?_,mQ,n1⟩
  .rcases(lL b O).2 with h |⟨c,ch,J,O⟩ |h
   .exact h.elim .inl fun h=>.inr (.inl ⟨d,_,rB,h⟩)
   .exact .inr (.inl ⟨c,ch,hF J,O⟩)
   .exact .inr (.inr h)
  .obtain⟨g1,g2,cX⟩:=lM c ch J b O;exact⟨g1,g2,cX.imp (fun⟨c,ch,J,O⟩=>⟨c,ch,hF J,O⟩) id⟩
end
end Go.Proofs.YtkfbeijmgggkmaaGreat
