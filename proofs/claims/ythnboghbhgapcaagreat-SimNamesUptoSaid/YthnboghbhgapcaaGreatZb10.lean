/-
A part of the proof of this claim: lemmas, with no condition beyond what each says.
-/
import Derived.DeepKeys
import Derived.Laws.MakeOwn
import Derived.Laws.StructEq
import Derived.Test.YthnboghbhgapcaaGreatZb9
set_option linter.unusedVariables false
set_option linter.unusedSimpArgs false
set_option maxRecDepth 10000
set_option maxHeartbeats 4000000
namespace Go.Proofs.YthnboghbhgapcaaGreat
open Go.RowKit Go.Proofs
section
abbrev tt (fn:FuncId) (tmps:Array Value) (bE:Array Nat) (assign body:Code) (D:Nat) (st:LoopState):Loop:={state:=st,pending:=none,fn:=fn,tmps:=tmps,params:=bE,assign:=assign,body:=body,defers:=D}
def FD (ms:Nat->bn) (hT:ay5) (la:Nat->Prop) (sm:World) (l:Nat) (rec:Loop) (c:Nat) (B:aw) (I F:Nat->Prop) (w:World) (p:bn):Prop:=
 ce la sm I w/\w.heap[l]? =some (.loop rec)/\ ∃(ρ:Nat->bn) (b8:Nat->Nat->Prop),ρ c=p/\(∀d,d∈hT->ρ d=ms d)/\(∀d ch,ag B d=some ch->Holds ρ I (b8 d) w (ρ d) ch)/\
  (∀d c1 ch ch' b,ag B d=some ch->ag B c1=some ch'->d≠c1->b8 d b-> ¬b8 c1 b)/\(∀d ch,ag B d=some ch-> ¬b8 d l)/\ ∀b,F b↔b=l\/ ∃d ch,ag B d=some ch/\b8 d b
def bf.nF (ms:Nat->bn) (hT:ay5) (la:Nat->Prop) (sm:World) (l:Nat) (rec:Loop) (c:Nat) (B:aw):bf where
 R:=FD ms hT la sm l rec c B
 cj:=fun I F w I' w' p ⟨av,al,ρ,b8,E,td,G,aj,Bk,aX⟩ V bh aR=>
  ⟨av.trans V,(bh l ((aX l).2 (.inl rfl))).trans al,ρ,b8,E,td,fun d ch J=>Holds.cj V (fun b O=>bh b ((aX b).2 (.inr ⟨d,ch,J,O⟩))) aR ch (fun _ _=>rfl) (G d ch J),aj,Bk,aX⟩
def xJ (l:ay5):List aP->Bool
 | []=>true
 |v::aE=>v.iW l&&xJ l aE
theorem Ka {l:ay5}: ∀{aE:List aP},xJ l aE=true-> ∀{i:Nat} {v:aP},aE[i]? =some v->v.iW l=true
 | [],_,i,v,h=>by simp at h
 |x::aE,h,i,v,ay=>by
  simp only[xJ,vj] at h
  match i with
  |0=>
   simp only[aq5,ap4] at ay;exact ay▸h.1
  |i+1=>exact Ka h.2 (i:=i) aw6
def Ch (l:ay5):aY->Bool
 | []=>true
 |(_,v)::K=>v.iW l&&Ch l K
theorem Kb {l:ay5}: ∀{K:aY},Ch l K=true-> ∀s,(dA K s).iW l=true
 | [],_,s=>rfl
 |(t,v)::K,h,s=>by
  simp only[Ch,vj] at h;rw[ke]
  split
  .exact h.1
  .exact Kb h.2 s
section
variable {P:Program} {aS:dc} {N:Nat} {ms:Nat->bn} {hT:ay5} {la:Nat->Prop} {sm:World} {l:Nat} {rec:Loop} {c:Nat}
theorem nU {c:Nat} {ch:bb}:ag [(c,ch)] c=some ch:=aw1
theorem uH {c d:Nat} {ch ch':bb} (h:ag [(c,ch)] d=some ch'):d=c/\ch'=ch:=by
 rw[ca] at h
 split at h
 .rename_i e;injection h with h;exact⟨e.symm,h.symm⟩
 .cases h
theorem acR {f:FuncId} {args:List aP} {res:aP} {pA oT:aw} (h:Fn P f args pA [] res oT) (ha:xJ [c] args=true) (aF:res.iW []=true):
  Fn P f args [(c,.aG (bf.nF ms hT la sm l rec c pA))] [] res [(c,.aG (bf.nF ms hT la sm l rec c oT))]:=by
 refine⟨h.1,fun ρ F I w bW ba cX bh ep b6 dt=>?_⟩;have lc:FD ms hT la sm l rec c pA I (F c) w (ρ c):=cX c _ nU;obtain⟨av,al,oQ,b8,cx,xK,cA,dy,zF,fb⟩:=lc;have mA: ∀b,F c b->b < w.heap.size/\ ¬I b:=fun b O=>bh c _ nU b O
 have mK:l < w.heap.size:=k1 al;have xL: ¬ ∃d ch,ag pA d=some ch/\b8 d l:=fun⟨d,ch,J,a1⟩=>zF d ch J a1
 refine(h.2 oQ b8 I w bW ba cA (fun d ch J b O=>mA b ((fb b).2 (.inr ⟨d,ch,J,O⟩))) dy b6 ?_).mono ?_
 .intro i v x ay hx;refine cr.mono (ce.refl _ _) v x (fun j Z=>?_) (dt i v x ay hx);have:=aP.kn (Ka ha ay) Z;rw[aq2] at this;subst this;exact cx
 .rintro e w' ⟨x,ρ',F',rfl,cz,dl,I',i5,gn,lB,aD,h3,se⟩;have f3:w'.heap[l]? =some (.loop rec):=(cz.block l mK xL).trans al
  have zG: ¬I' l:=fun aH=>by
   rcases(gn l aH).2 with h |h |h
   .exact(mA l ((fb l).2 (.inl rfl))).2 h
   .exact xL h
   .omega
  refine⟨x,ρ,fun d=>if d=c then(fun b=>b=l\/ ∃d ch,ag oT d=some ch/\F' d b) else F d,rfl,cz.mono fun b _ ⟨d,ch,J,a1⟩=>⟨c,_,nU,(fb b).2 (.inr ⟨d,ch,J,a1⟩)⟩,fun _ _=>rfl,I',i5,fun b O=>⟨(gn b O).1,?_⟩,?_,?_,?_,?_⟩
  .rcases(gn b O).2 with h |⟨d,ch,J,a1⟩ |h
   .exact .inl h
   .exact .inr (.inl ⟨c,_,nU,(fb b).2 (.inr ⟨d,ch,J,a1⟩)⟩)
   .exact .inr (.inr h)
  .intro d ch J;obtain⟨rfl,rfl⟩:=uH J;simp only[if_true];refine⟨av.trans i5,f3,ρ',F',(dl _ au7).trans cx,fun d J=>(dl d au7).trans (xK d J),lB,h3,fun d ch J a1=>?_,fun b=>Iff.rfl⟩;rcases(aD d ch J l a1).2.2 with h |h
   .exact xL h
   .omega
  .intro d ch J b O;obtain⟨rfl,rfl⟩:=uH J;simp only[if_true] at O;rcases O with rfl |⟨d,ch,J,O⟩
   .exact⟨k1 f3,zG,.inl ⟨_,_,nU,(fb _).2 (.inl rfl)⟩⟩
   .obtain⟨r1,r2,ga⟩:=aD d ch J b O;exact⟨r1,r2,ga.imp (fun⟨d,ch,J,a1⟩=>⟨_,_,nU,(fb b).2 (.inr ⟨d,ch,J,a1⟩)⟩) id⟩
  .intro d c1 ch ch' b J dK a2;exact absurd ((uH J).1.trans (uH dK).1.symm) a2
  .exact cr.mono (ce.refl _ _) res x (fun j Z=>by have:=aP.kn aF Z;cases this) se
def Ci:ay5->List aP->aY->aY
 | [],_,K=>K
 |p::pl,aE,K=>match aE with
  | []=>K
  |v::aE=>Ci pl aE ((p,v)::K)
theorem QX {ρ:Nat->bn} {I:Nat->Prop} {w:World}: ∀(pl:ay5) (aE:List aP) (bW:List Value) (K:aY) (t:Array Value),bW.length=aE.length->(∀p,p∈pl->p < t.size)->(∀(i:Nat) (v:aP) (x:Value),aE[i]? =some v->bW[i]? =some x->cr ρ I w v x)->
  (∀s,cr ρ I w (dA K s) (t.getD s undef))->(((pl.zip bW).foldl (fun t (p:Nat×Value)=>t.setIfInBounds p.1 p.2) t).size=t.size/\ ∀s,cr ρ I w (dA (Ci pl aE K) s) (((pl.zip bW).foldl (fun t (p:Nat×Value)=>t.setIfInBounds p.1 p.2) t).getD s undef))
 | [],aE,bW,K,t,_,_,_,h=>⟨rfl,h⟩
 |p::pl,[],[],K,t,_,_,_,h=>⟨rfl,h⟩
 |p::pl,[],_::_,K,t,al,_,_,h=>by simp at al
 |p::pl,_::_,[],K,t,al,_,_,h=>by simp at al
 |p::pl,v::aE,x::bW,K,t,al,af,ay,h=>by
  have acS:=af p (aq0 ..)
  obtain⟨g1,g2⟩:=QX pl aE bW ((p,v)::K) (t.setIfInBounds p x) ay2 (fun q aT=>by rw[Array.size_setIfInBounds];exact af q (ap2 _ aT)) (fun i u y a7 aB=>ay (i+1) u y (by simpa using a7) (by simpa using aB)) (fun s=>by
   rw[ke]
   by_cases e:p=s
   .subst e;rw[if_pos rfl];have:(t.setIfInBounds p x).getD p undef=x:=by simp[acS]
    rw[this];exact ay 0 v x rfl rfl
   .rw[if_neg e];have:(t.setIfInBounds p x).getD s undef=t.getD s undef:=by simp[Array.getElem?_setIfInBounds_ne e]
    rw[this];exact h s)
  refine⟨?_,g2⟩;rw[List.zip_cons_cons,List.foldl_cons];exact g1.trans (Array.size_setIfInBounds)
theorem Mem.QY {ids:ay5} {C:e9} {B:aw} {ρ:Nat->bn} {F:Nat->Nat->Prop} {w:World} (h:Mem ids C B ρ F w) (bh: ∀b,C.yP b-> ¬C.p3 b):ce C.yP C.gh (bZ C B F w) w:=fun b O=>by
 have E:=h.kI.2.1 b (.inl O);refine⟨⟨Nat.lt_of_lt_of_le E h.fr.size,.inl O,fun c ch H hf=>?_⟩,h.fr.block b E (bh b O)⟩;rcases(h.own c ch H b hf).2 with G |G
 .exact bh b O G
 .have:=G.1;omega
theorem acT (bm:d6 P aS) {fn:FuncId} {tmps:Array Value} {bE:Array Nat} {pl:ay5} {assign body:Code} {D:Nat} (lw:bE.toList=pl) (hc: ∀p,p∈pl->p < N) (cM:tmps.size=N) (Kc:jr P N assign=true) (Cf:jr P N body=true)
  {kQ:aY} (Kd:Ch hT kQ=true) (H:c∈hT) (hp: ∀s,cr ms la sm (dA kQ s) (tmps.getD s undef)) (stops:ay5) {aE:List aP} (q4:aE.length=pl.length) (JM:xJ [] aE=true) {pA oT:aw}
  (acU:jm P aS N (0::hT) stops assign (Ci pl aE kQ) pA (fun e K B=>e= .gY/\jm P aS N (0::hT) stops body K B (fun e K B=>e= .gY/\ae (0::hT) K B [] oT))):
  xw P l aE [(c,.aG (bf.nF ms hT la sm l (tt fn tmps bE assign body D .ready) c pA))] (fun _:Unit=>qV true) (fun _=>[(c,.aG (bf.nF ms hT la sm l (tt fn tmps bE assign body D .ready) c oT))]):=by
 intro ρ F I w bW ba cX bh ep b6 dt;have lc:FD ms hT la sm l (tt fn tmps bE assign body D .ready) c pA I (F c) w (ρ c):=cX c _ nU;obtain⟨av,al,oQ,b8,cx,xK,cA,dy,zF,fb⟩:=lc;have mA: ∀b,F c b->b < w.heap.size/\ ¬I b:=fun b O=>bh c _ nU b O
 have mK:l < w.heap.size:=k1 al;have xL: ¬ ∃d ch,ag pA d=some ch/\b8 d l:=fun⟨d,ch,J,a1⟩=>zF d ch J a1
 have acV: ¬I l:=(mA l ((fb l).2 (.inl rfl))).2;have xM: ∀{d ch b},ag pA d=some ch->b8 d b->F c b:=fun {d ch b} J a1=>(fb b).2 (.inr ⟨d,ch,J,a1⟩)
 have aB:=run_yield (P:=P) (args:=bW.toArray) al (by rw[List.size_toArray,b6,q4,<-lw,Array.length_toList]);refine⟨fn,_,assign,body,aB,roundIn_of_wpIn (F:=oD none) trivial ?_⟩
 have acW:((bE.zip bW.toArray).foldl (fun tmps (x:Nat×Value)=>tmps.setIfInBounds x.1 x.2) tmps)=(pl.zip bW).foldl (fun t (p:Nat×Value)=>t.setIfInBounds p.1 p.2) tmps:=by
  rw[<-lw,<-Array.foldl_toList]
  congr 1
  simp
 obtain⟨g1,g2⟩:=QX (ρ:=oQ) (I:=I) (w:=w) pl aE bW kQ tmps b6 (fun p af=>by rw[cM];exact hc p af) (fun i v x ay hx=>cr.mono (ce.refl _ _) v x (fun j Z=>by have:=aP.kn (Ka JM ay) Z;cases this) (dt i v x ay hx))
  (fun s=>cr.mono av _ _ (fun j Z=>xK j (aP.kn (Kb Kd s) Z)) (hp s))
 let re:e9:=⟨w,I,fun b=> ∃d ch,ag pA d=some ch/\b8 d b,oQ,[]⟩
 have sc:ce I w (bZ re pA b8 w) w:=fun b O=>⟨⟨ba b O,.inl O,fun d ch J a1=>(mA b (xM J a1)).2 O⟩,rfl⟩
 have km:Mem (0::hT) re pA oQ b8 w:=⟨cK.refl _ _,fun d ch J=>Holds.cj sc (fun _ _=>rfl) (ap0 _) ch (fun _ _=>rfl) (cA d ch J),fun d ch J b O=>⟨(mA b (xM J O)).1,.inl ⟨d,ch,J,O⟩⟩,dy,fun _ _=>rfl,at0,
  fun b O=>O.elim (ba b) fun⟨d,ch,J,a1⟩=>(mA b (xM J a1)).1,fun D b9=>by cases b9⟩
 have iG:eW N (0::hT) re (Ci pl aE kQ) pA ⟨(bE.zip bW.toArray).foldl (fun tmps (x:Nat×Value)=>tmps.setIfInBounds x.1 x.2) tmps,[]⟩ w:=by
  rw[acW];exact⟨g1.trans cM,rfl,oQ,b8,km,fun s=>cr.mono sc _ _ (fun _ _=>rfl) (g2 s)⟩
 refine zh bm (zp bm) stops assign _ _ _ Kc acU (some l) (fun h=>by simp[ua] at h) re _ ?_ _ w iG;rintro e PB js ds ho ⟨rfl,acX⟩ b4 dz f';have ho:ds=[]:=ho (by simp[ua]);subst ho;obtain⟨cI,hB,sh,ct,iN,acY⟩:=f';have iN:Mem (0::hT) re js sh ct dz:=iN;have ox:dz.heap[l]? =some (.loop (tt fn tmps bE assign body D .ready)):=(iN.fr.block l mK xL).trans al;have acZ:=k1 ox
 have zG: ¬bZ re js ct dz l:=fun aH=>by
  rcases aH.2.1 with h |h |h
  .exact acV h
  .exact xL h
  .have h:w.heap.size<=l:=h.1;omega
 have FE: ∀d ch,ag js d=some ch-> ¬ct d l:=fun d ch J hf=>by
  rcases(iN.own d ch J l hf).2 with h |h
  .exact xL h
  .have h:w.heap.size<=l:=h.1;omega
 refine⟨_,run_beginRound ox rfl,?_⟩;obtain⟨e0,Cj⟩: ∃e0,e0=dz.putObj l (.loop {tt fn tmps bE assign body D .ready with state:=.busy}):=⟨_,rfl⟩;rw[<-Cj];have Ck:e0.heap.size=dz.heap.size:=by rw[Cj,World.putObj_size]
 have Ke: ∀b,b≠l->e0.heap[b]? =dz.heap[b]? :=fun b O=>by rw[Cj];exact World.putObj_heap_other O
 have oK:e0.heap[l]? =some (.loop {tt fn tmps bE assign body D .ready with state:=.busy}):=by rw[Cj];exact World.putObj_heap_same acZ
 have Kf:e0.os=dz.os/\e0.tape=dz.tape/\e0.output=dz.output:=by rw[Cj];exact⟨rfl,rfl,rfl⟩
 let oU:e9:=⟨e0,bZ re js ct dz,fun b=> ∃d ch,ag js d=some ch/\ct d b,sh,[]⟩
 have sb:ce (bZ re js ct dz) dz (bZ oU js ct e0) e0:=fun b O=>⟨⟨by rw[Ck];exact O.1,.inl O,O.2.2⟩,Ke b (fun e=>zG (e▸O))⟩
 have ac0:Mem (0::hT) oU js sh ct e0:=⟨cK.refl _ _,fun d ch J=>Holds.cj sb (fun b O=>Ke b (fun e=>FE d ch J (e▸O))) (Nat.le_of_eq Ck.symm) ch (fun _ _=>rfl) (iN.holds d ch J),fun d ch J b O=>⟨by rw[Ck];exact(iN.own d ch J b O).1,.inl ⟨d,ch,J,O⟩⟩,iN.e',fun _ _=>rfl,at0,
  fun b O=>by
   show b < e0.heap.size;rw[Ck];exact O.elim (fun O=>O.1) fun⟨d,ch,J,a1⟩=>(iN.own d ch J b a1).1,fun D b9=>by cases b9⟩
 refine zh bm (zp bm) stops body _ _ _ Cf acX (some l) (fun h=>by simp[ua] at h) oU _ ?_ b4 e0 ⟨cI,hB,sh,ct,ac0,acY.mono sb fun _ _ _=>rfl⟩;rintro e ao1 ao2 ds ho ⟨rfl,gZ⟩ a3 ij ac1;have ho:ds=[]:=ho (by simp[ua]);subst ho;obtain⟨ld,p5,zw,tu,sn,ao3⟩:=gZ N (oU.at []) a3 ij ac1;have sn:Mem (0::hT) oU oT zw tu ij:=sn;have QZ:ij.heap[l]? =some (.loop {tt fn tmps bE assign body D .ready with state:=.busy}):=(sn.fr.block l (k1 oK) (fun⟨d,ch,J,a1⟩=>FE d ch J a1)).trans oK;have Q0:=k1 QZ
 have Q1: ¬bZ oU oT tu ij l:=fun aH=>by
  rcases aH.2.1 with h |h |h
  .exact zG h
  .obtain⟨d,ch,J,a1⟩:=h;exact FE d ch J a1
  .have h:e0.heap.size<=l:=h.1;omega
 have Q2: ∀d ch,ag oT d=some ch-> ¬tu d l:=fun d ch J hf=>by
  rcases(sn.own d ch J l hf).2 with h |h
  .obtain⟨d,ch,J,a1⟩:=h;exact FE d ch J a1
  .have h:e0.heap.size<=l:=h.1;omega
 obtain⟨iP,na⟩: ∃iP,iP=ij.putObj l (.loop (tt fn tmps bE assign body D .ready)):=⟨_,rfl⟩;have dO:(Instr.endRound l none).run P ij= .ok (.bool true) iP:=by rw[na];exact run_endRound none QZ
 refine⟨.bool true,iP,dO,?_⟩;have so:iP.heap.size=ij.heap.size:=by rw[na,World.putObj_size]
 have wd: ∀b,b≠l->iP.heap[b]? =ij.heap[b]? :=fun b O=>by rw[na];exact World.putObj_heap_other O
 have ac2:iP.heap[l]? =some (.loop (tt fn tmps bE assign body D .ready)):=by rw[na];exact World.putObj_heap_same Q0
 have xN:iP.os=ij.os/\iP.tape=ij.tape/\iP.output=ij.output:=by rw[na];exact⟨rfl,rfl,rfl⟩
 have ac3:ce I w (bZ re js ct dz) dz:=iN.QY fun b O ⟨d,ch,J,a1⟩=>(mA b (xM J a1)).2 O
 have ac4:ce (bZ re js ct dz) dz (bZ re js ct dz) e0:=fun b O=>⟨O,(sb b O).2⟩
 have ac5:ce (bZ re js ct dz) e0 (bZ oU oT tu ij) ij:=sn.QY fun b O ⟨d,ch,J,a1⟩=>O.2.2 d ch J a1
 have Q3:ce (bZ oU oT tu ij) ij (bZ oU oT tu ij) iP:=fun b O=>⟨O,wd b (fun e=>Q1 (e▸O))⟩
 have Q4:ce I w (bZ oU oT tu ij) iP:=ac3.trans (ac4.trans (ac5.trans Q3));have Q5:=iN.fr.size;have Q5:w.heap.size<=dz.heap.size:=Q5;have z23:e0.heap.size<=ij.heap.size:=sn.fr.size
 have fi: ∀{b},(oU.p3 b\/oU.gh.heap.size<=b/\b∉oU.ds)->F c b\/w.heap.size<=b:=fun {b} h=>by
  rcases h with⟨d,ch,J,a1⟩ |h
  .rcases(iN.own d ch J b a1).2 with⟨d,ch,J,a1⟩ |h
   .exact .inl (xM J a1)
   .exact .inr h.1
  .have h:e0.heap.size<=b:=h.1;exact .inr au5
 refine⟨(),.bool true,ρ,fun d=>if d=c then(fun b=>b=l\/ ∃d ch,ag oT d=some ch/\tu d b) else F d,rfl,?_,fun _=>rfl,bZ oU oT tu ij,Q4,fun b O=>⟨by rw[so];exact O.1,?_⟩,?_,?_,?_,rfl⟩
 .have h2:cK (fun b=>F c b) w dz:=iN.fr.mono fun b _ ⟨d,ch,J,a1⟩=>xM J a1
  have jn:cK (fun b=>b=l) dz e0:=⟨Kf.1,Kf.2.1,Kf.2.2,Nat.le_of_eq Ck.symm,fun b _ O=>Ke b O⟩;have po:cK oU.p3 e0 ij:=sn.fr;have f4:cK (fun b=>b=l) ij iP:=⟨xN.1,xN.2.1,xN.2.2,Nat.le_of_eq so.symm,fun b _ O=>wd b O⟩;have dJ:F c l:=(fb l).2 (.inl rfl)
  have f:cK (fun b=>F c b) w iP:=((h2.trans jn fun b _ (O:b=l)=>by rw[O];exact dJ).trans po fun b O hf=>by
   rcases fi (.inl hf) with h |h
   .exact h
   .omega).trans f4 fun b _ (O:b=l)=>by rw[O];exact dJ
  exact f.mono fun b _ O=>⟨c,_,nU,O⟩
 .rcases O.2.1 with h |h
  .rcases h.2.1 with h |⟨d,ch,J,a1⟩ |h
   .exact .inl h
   .exact .inr (.inl ⟨c,_,nU,xM J a1⟩)
   .exact .inr (.inr h.1)
  .exact .inr ((fi h).imp (fun h=>⟨c,_,nU,h⟩) id)
 .intro d ch J;obtain⟨rfl,rfl⟩:=uH J;simp only[if_true];have ab: ∀d,d∈hT->zw d=oQ d:=fun d J=>(sn.d' d (ap2 _ J)).trans (iN.d' d (ap2 _ J))
  exact⟨av.trans Q4,ac2,zw,tu,(ab _ H).trans cx,fun d J=>(ab d J).trans (xK d J),fun d ch J=>Holds.cj Q3 (fun b O=>wd b (fun e=>Q2 d ch J (e▸O))) (Nat.le_of_eq so.symm) ch (fun _ _=>rfl) (sn.holds d ch J),sn.e',Q2,fun b=>Iff.rfl⟩
 .intro d ch J b O;obtain⟨rfl,rfl⟩:=uH J;simp only[if_true] at O;rcases O with rfl |⟨d,ch,J,O⟩
  .exact⟨by rw[so];exact Q0,Q1,.inl ⟨_,_,nU,(fb _).2 (.inl rfl)⟩⟩
  .obtain⟨r1,r2⟩:=sn.own d ch J b O;exact⟨by rw[so];exact r1,fun aH=>aH.2.2 d ch J O,(fi r2).imp (fun h=>⟨_,_,nU,h⟩) id⟩
 .intro d c1 ch ch' b J dK a2;exact absurd ((uH J).1.trans (uH dK).1.symm) a2
theorem ac6 {f:FuncId} {w:World} {cs args:Array Value} (hf:jl P f=true):(invoke (.fn (.func f) cs) args).run P w= .ok (.enter f (args++cs)) w:=by
 unfold jl at hf
 split at hf
 .rename_i fn j0;simp only[Bool.not_eq_true',Bool.or_eq_false_iff,beq_eq_false_iff_ne] at hf;have G: ¬fn.body=none:=fun e=>by rw[e] at hf;simp at hf
  simp[invoke,callFunc,go_sem,j0];rw[if_neg hf.1,if_neg G]
 .cases hf
theorem bt.range (bm:d6 P aS) {ids:ay5} (stops:ay5) {s:Nat} {bE:Array Nat} {pl:ay5} {assign body:Code} (lw:bE.toList=pl) (Kc:jr P N assign=true) (Cf:jr P N body=true) (hc:(pl.all fun p=>Nat.blt p N)=true)
  {f:FuncId} {Kg:List kH} (hf:jl P f=true) (hT:ay5) (K kQ:aY) (jM:aw) {X:Type} (g0:X->aw) (c:Nat) (hS Cl:X) (Y:X->List aP->X->Prop)
  (ac7:dA K s= .c (.one (.cU f Kg))) (Kd:zj K kQ)
  (ab:(hT.contains c&&Ch hT kQ&&ids.all hT.contains&& !ua ids)=true) (EU:((cl (g0 hS)).all (fun d=> !(cl jM).contains d)&& !(cl jM).contains c)=true)
  (ac8: ∀x aE rf,Y x aE rf->aE.length=pl.length/\xJ [] aE=true/\jm P aS N (0::hT) stops assign (Ci pl aE kQ) (g0 x) (fun e K B=>e= .gY/\jm P aS N (0::hT) stops body K B (fun e K B=>e= .gY/\ae (0::hT) K B [] (g0 rf))))
  (ac9: ∀(l:Nat) (fV:X->bf),(∀tm args res x rf,Fn P tm args (g0 x) [] res (g0 rf)->xJ [c] args=true->res.iW []=true->Fn P tm args [(c,.aG (fV x))] [] res [(c,.aG (fV rf))])->
   (∀x aE rf,Y x aE rf->xw P l aE [(c,.aG (fV x))] (fun _:Unit=>qV true) (fun _=>[(c,.aG (fV rf))]))->
   Fn P f (.c (.one (.bJ (.func (.yield l) #[] #[])))::oC Kg) (jM++[(c,.aG (fV hS))]) [] (.cf []) [(c,.aG (fV Cl))])
  {Q:nG->aY->aw->Prop} (BH:Q .gY kQ (g0 Cl)):bt P N ids (.rangeFunc (.tmp s) bE assign body) K (jM++g0 hS) Q:=by
 intro r aF C h1 aT a w ax;simp only[vj,Bool.not_eq_true'] at ab EU;obtain⟨⟨⟨cm,fe⟩,ac'⟩,hid⟩:=ab;obtain⟨gQ,he⟩:=EU;have cm:=tp cm;have Ia: ∀d,d∈ids->d∈hT:=fun d J=>tp (ar4.1 ac' d J)
 have Q6:ag jM c=none:=by
  cases e:ag jM c with
  |none=>rfl
  |some ch=>have:=ar6.2 (gm.2 ⟨ch,e⟩);rw[he] at this;cases this
 have aF:=aF hid;subst aF;obtain⟨hn,J,ρ,F,aq,au⟩:=ax
 have pB: ∀{d ch},ag (g0 hS) d=some ch->ag (jM++g0 hS) d=some ch/\ag jM d=none:=fun {d ch} h=>by
  have ab:=ar4.1 gQ d (gm.2 ⟨ch,h⟩)
  have hn:ag jM d=none:=by
   cases e:ag jM d with
   |none=>rfl
   |some ch'=>rw[ar6.2 (gm.2 ⟨ch',e⟩)] at ab;cases ab
  exact⟨by rw[iF,hn];exact h,hn⟩
 have rh: ∀{d ch},ag jM d=some ch->ag (jM++g0 hS) d=some ch:=fun {d ch} h=>by rw[iF,h]
 refine wpIn_rangeFunc fun fn _=>?_
 obtain⟨rec,jI⟩: ∃rec,rec=tt fn a.tmps bE assign body w.heap.size .ready:=⟨_,rfl⟩;obtain⟨dz,xE⟩: ∃dz,dz=(w.alloc (.deferred (some []))).alloc (.loop rec):=⟨_,rfl⟩;have qd:Below w.heap.size w dz:=by rw[xE];exact((Below.refl _ w).alloc (ap0 _) _).alloc au7 _
 have ao4:dz.heap.size=w.heap.size+2:=by rw[xE];simp
 have Kh:dz.heap[w.heap.size+1]? =some (.loop rec):=by rw[xE];have:=World.alloc_heap_new (w.alloc (.deferred (some []))) (.loop rec);rwa[World.size_alloc] at this
 have Ki:dz.heap[w.heap.size]? =some (.deferred (some [])):=by rw[xE];exact(Below.heap_alloc _ _ _ au7).trans (World.alloc_heap_new w _)
 obtain⟨l,we⟩: ∃l,l=w.heap.size+1:=⟨_,rfl⟩;rw[<-we] at Kh
 let la:=bZ C (jM++g0 hS) F w
 have m9:ce la w la dz:=fun b O=>⟨O,qd.block b O.1⟩
 let fV:=fun x=>bf.nF ρ hT la dz l rec c (g0 x)
 have ay:=au s;rw[ac7] at ay;obtain⟨cs,ev,xx⟩:=ay;obtain⟨ada,adb⟩:=hO.bW Kg cs xx
 have hp: ∀t,cr ρ la dz (dA kQ t) (a.tmps.getD t undef):=fun t=>by
  rcases Jk Kd t with h |h
  .exact cr.mono m9 _ _ (fun _ _=>rfl) (vM h (au t))
  .rw[h];trivial
 have j0:=ac9 l fV (fun tm args res x rf h ha aF=>acR h ha aF) (fun x aE rf aB=>by
  obtain⟨ux,vS,BN⟩:=ac8 x aE rf aB;show xw P l aE [(c,.aG (bf.nF ρ hT la dz l rec c (g0 x)))] (fun _:Unit=>qV true) (fun _=>[(c,.aG (bf.nF ρ hT la dz l rec c (g0 rf)))]);rw[jI];exact acT bm lw (fun p af=>by have:=ar4.1 hc p af;simpa[Nat.blt_eq] using this) hn Kc Cf fe cm hp stops ux vS BN)
 refine⟨l,[w0 w.heap.size],dz,{target:=.fn (.func f) cs.toArray,args:= #[.func (.yield l) #[] #[]]},dz,f,#[.func (.yield l) #[] #[]]++cs.toArray,dz,?_,?_,fun _ _=>trivial,ac6 hf,fun h=>absurd h au7,Pr ?_⟩
 .rw[xE,we,jI];exact run_enterLoop_outer _ _ _ _ _
 .have adc:a.eval (.tmp s)= .func (.func f) #[] cs.toArray:=ev;simp only[resolve,adc];simp[go_sem]
 have ade: #[Value.func (.yield l) #[] #[]]++cs.toArray=(Value.func (.yield l) #[] #[]::cs).toArray:=by simp
 rw[ade];have tr: ∀b,(∃d ch,ag (g0 hS) d=some ch/\F d b)->b < w.heap.size:=fun b ⟨d,ch,J,O⟩=>(aq.own d ch (pB J).1 b O).1
 let ct:Nat->Nat->Prop:=fun d=>if d=c then(fun b=>b=l\/ ∃d ch,ag (g0 hS) d=some ch/\F d b) else F d
 have iE: ∀{d ch},ag (jM++[(c,bb.aG (fV hS))]) d=some ch->(d=c/\ch= .aG (fV hS))\/(d≠c/\ag jM d=some ch):=fun {d ch} h=>by
  rw[iF] at h
  cases e:ag jM d with
  |some ch'=>
   rw[e] at h;exact .inr ⟨fun Kj=>(by rw[Kj,Q6] at e;cases e),h⟩
  |none=>
   rw[e] at h;obtain⟨ai,ao⟩:=uH h;exact .inl ⟨ai,ao⟩
 have dJ:ag (jM++[(c,bb.aG (fV hS))]) c=some (.aG (fV hS)):=by rw[iF,Q6];exact nU
 have wg:ct c=(fun b=>b=l\/ ∃d ch,ag (g0 hS) d=some ch/\F d b):=if_pos rfl;have tv: ∀{d},d≠c->ct d=F d:=fun {d} h=>if_neg h
 have ao5:w.heap.size<=l:=av3
 refine(j0.2 ρ ct la dz _ (fun b O=>by have:=O.1;omega) ?_ ?_ ?_ (by simp[ada]) ?_).mono ?_
 .intro d ch J;rcases iE J with⟨rfl,rfl⟩ |⟨e,J⟩
  .rw[wg]
   exact⟨ce.refl _ _,Kh,ρ,F,rfl,fun _ _=>rfl,fun d ch J=>Holds.cj m9 (fun b O=>qd.block b (aq.own d ch (pB J).1 b O).1) qd.size ch (fun _ _=>rfl) (aq.holds d ch (pB J).1),fun d c1 ch ch' b E G=>aq.e' d c1 ch ch' b (pB E).1 (pB G).1,
    fun d ch J O=>by have:=(aq.own d ch (pB J).1 l O).1;omega,fun b=>Iff.rfl⟩
  .rw[tv e];exact Holds.cj m9 (fun b O=>qd.block b (aq.own d ch (rh J) b O).1) qd.size ch (fun _ _=>rfl) (aq.holds d ch (rh J))
 .intro d ch J b O;rcases iE J with⟨rfl,rfl⟩ |⟨e,J⟩
  .rw[wg] at O;rcases O with rfl |⟨d,ch,J,O⟩
   .exact⟨k1 Kh,fun aH=>by have:=aH.1;omega⟩
   .have:=(aq.own d ch (pB J).1 b O).1;exact⟨au5,fun aH=>aH.2.2 d ch (pB J).1 O⟩
  .rw[tv e] at O;have:=(aq.own d ch (rh J) b O).1;exact⟨au5,fun aH=>aH.2.2 d ch (rh J) O⟩
 .intro d c1 ch ch' b J dK a2 O dm
  have key: ∀{d ch b},ag jM d=some ch->F d b-> ¬(b=l\/ ∃d ch,ag (g0 hS) d=some ch/\F d b):=fun {ai cC b1} ci cN hx=>by
   rcases hx with hx |⟨iB,oE,ec,eG⟩
   .have:=(aq.own ai cC (rh ci) _ cN).1;omega
   .exact aq.e' ai iB cC oE b1 (rh ci) (pB ec).1 (fun e=>by rw[e,(pB ec).2] at ci;cases ci) cN eG
  rcases iE J with⟨e,_⟩ |⟨e,J⟩ <;>rcases iE dK with⟨b5,_⟩ |⟨b5,dK⟩
  .exact a2 (e.trans b5.symm)
  .rw[e,wg] at O;rw[tv b5] at dm;exact key dK dm O
  .rw[tv e] at O;rw[b5,wg] at dm;exact key J O dm
  .rw[tv e] at O;rw[tv b5] at dm;exact aq.e' d c1 ch ch' b (rh J) (rh dK) a2 O dm
 .intro i v x ay hx
  match i with
  |0=>
   simp only[aq5,ap4] at ay hx;subst ay hx;rfl
  |i+1=>exact cr.mono m9 v x (fun _ _=>rfl) (adb i v x aw6 ax7)
 rintro e e0 ⟨x,ρ',F',rfl,cz,dl,I',i5,gn,lB,aD,h3,-⟩;have lc:FD ρ hT la dz l rec c (g0 Cl) I' (F' c) e0 (ρ' c):=lB c _ nU;obtain⟨av,al,oQ,b8,cx,xK,cA,dy,zF,fb⟩:=lc;have mK:=k1 al;obtain⟨iP,na⟩: ∃iP,iP=e0.putObj l (.loop {rec with state:=.exhausted}):=⟨_,rfl⟩
 have dO:(Instr.endLoop l).run P e0= .ok none iP:=by
  have E:=run_endLoop (P:=P) al (by rw[jI];simp);have G:rec.pending=none:=by rw[jI]
  rw[na,E,G]
 refine⟨none,iP,dO,?_⟩;show h1 .normal {a with defers:=[w0 w.heap.size]++a.defers} iP;have so:iP.heap.size=e0.heap.size:=by rw[na,World.putObj_size]
 have wd: ∀b,b≠l->iP.heap[b]? =e0.heap[b]? :=fun b O=>by rw[na];exact World.putObj_heap_other O
 have xN:iP.os=e0.os/\iP.tape=e0.tape/\iP.output=e0.output:=by rw[na];exact⟨rfl,rfl,rfl⟩
 have ao6:=cz.size
 have Kk: ∀{b},F' c b->b < e0.heap.size/\ ¬I' b/\(b=l\/(∃d ch,ag (jM++g0 hS) d=some ch/\F d b)\/dz.heap.size<=b):=fun {b} O=>by
  obtain⟨r1,r2,ga⟩:=aD c _ nU b O;refine⟨r1,r2,?_⟩;rcases ga with⟨d,ch,J,hf⟩ |ga
  .rcases iE J with⟨rfl,rfl⟩ |⟨e,J⟩
   .rw[wg] at hf;exact hf.imp id fun⟨d,ch,J,hf⟩=>.inl ⟨d,ch,(pB J).1,hf⟩
   .rw[tv e] at hf;exact .inr (.inl ⟨d,ch,rh J,hf⟩)
  .exact .inr (.inr ga)
 have zG: ¬I' l:=(Kk ((fb l).2 (.inl rfl))).2.1
 have Q7: ∀{b},((∃d ch,ag (jM++g0 hS) d=some ch/\F d b)\/dz.heap.size<=b)->(C.p3 b\/C.gh.heap.size<=b/\b∉w.heap.size::C.ds):=fun {b} h=>by
  rcases h with⟨d,ch,J,hf⟩ |h
  .obtain⟨r1,r2⟩:=aq.own d ch J b hf;exact r2.imp id fun x=>⟨x.1,fun az=>(ap3.1 az).elim (fun e=>by omega) x.2⟩
  .have:=aq.fresh (b:=b) au5;exact .inr ⟨this.1,fun az=>(ap3.1 az).elim (fun e=>by omega) this.2⟩
 have adf: ∀{b},(la b\/(∃d ch,ag (jM++g0 hS) d=some ch/\F d b)\/dz.heap.size<=b)->(C.yP b\/C.p3 b\/C.gh.heap.size<=b/\b∉w.heap.size::C.ds):=fun {b} h=>by
  rcases h with h |h
  .have E:=h.1;exact h.2.1.imp id fun x=>x.imp id fun x=>⟨x.1,fun az=>(ap3.1 az).elim (fun e=>by omega) x.2⟩
  .exact .inr (Q7 h)
 have Cm:ce I' e0 (bZ (C.at (w.heap.size::C.ds)) (g0 Cl) b8 iP) iP:=fun b O=>by
  have a2:b≠l:=fun e=>zG (e▸O)
  obtain⟨r1,r2⟩:=gn b O;refine⟨⟨by rw[so];exact r1,adf ?_,fun d ch J a1=>(Kk ((fb b).2 (.inr ⟨d,ch,J,a1⟩))).2.1 O⟩,wd b a2⟩;rcases r2 with r2 |⟨d,ch,J,hf⟩ |r2
  .exact .inl r2
  .rcases iE J with⟨rfl,rfl⟩ |⟨e,J⟩
   .rw[wg] at hf;rcases hf with hf |⟨d,ch,J,hf⟩
    .exact absurd hf a2
    .exact .inr (.inl ⟨d,ch,(pB J).1,hf⟩)
   .rw[tv e] at hf;exact .inr (.inl ⟨d,ch,rh J,hf⟩)
  .exact .inr (.inr r2)
 refine aT .gY kQ (g0 Cl) (w.heap.size::C.ds) (fun h=>by rw[hid] at h;cases h) BH _ _ ⟨hn,?_,oQ,b8,⟨?_,?_,?_,dy,?_,?_,aq.kI.2.1,?_⟩,?_⟩
 .show[w0 w.heap.size]++a.defers=List.map w0 (w.heap.size::C.ds);rw[J];rfl
 .refine(aq.fr.trans (S':=fun b=>b=l\/ ∃d ch,ag (jM++g0 hS) d=some ch/\F d b) ?_ fun b O h=>?_)
  .have h2:cK (fun b=>b=l\/ ∃d ch,ag (jM++g0 hS) d=some ch/\F d b) w dz:=cK.mo qd;have f4:cK (fun b=>b=l) e0 iP:=⟨xN.1,xN.2.1,xN.2.2,Nat.le_of_eq so.symm,fun b _ O=>wd b O⟩;refine(h2.trans cz ?_).trans f4 fun b _ O=>.inl O
   rintro b _ ⟨d,ch,J,hf⟩;rcases iE J with⟨rfl,rfl⟩ |⟨e,J⟩
   .rw[wg] at hf;exact hf.imp id fun⟨d,ch,J,hf⟩=>⟨d,ch,(pB J).1,hf⟩
   .rw[tv e] at hf;exact .inr ⟨d,ch,rh J,hf⟩
  .have z0:=aq.fr.size;rcases h with h |⟨d,ch,J,hf⟩
   .omega
   .rcases(aq.own d ch J b hf).2 with h |h
    .exact h
    .have:=h.1;omega
 .exact fun d ch J=>Holds.cj Cm (fun b O=>wd b (fun e=>zF d ch J (e▸O))) (Nat.le_of_eq so.symm) ch (fun _ _=>rfl) (cA d ch J)
 .intro d ch J b O;obtain⟨r1,r2,ga⟩:=Kk ((fb b).2 (.inr ⟨d,ch,J,O⟩));have a2:b≠l:=fun e=>zF d ch J (e▸O)
  exact⟨by rw[so];exact r1,Q7 (ga.resolve_left a2)⟩
 .exact fun d J=>(xK d (Ia d J)).trans (aq.d' d J)
 .exact aq7.2 ⟨fun h=>by have:=(aq.kI.2.2 _ h).1;omega,aq.kI.1⟩
 .intro D b9
  have Kl:D≠l/\D < dz.heap.size/\dz.heap[D]? =some (.deferred (some []))/\C.gh.heap.size<=D:=by
   rcases ap3.1 b9 with rfl |b9
   .exact⟨au5,au5,Ki,aq.fr.size⟩
   .obtain⟨r1,r2,ga⟩:=aq.kI.2.2 D b9;exact⟨au5,au5,(qd.block D r1).trans r2,ga⟩
  obtain⟨kO,bD,uh,Bm⟩:=Kl
  have zH: ¬ ∃d ch,ag (jM++[(c,bb.aG (fV hS))]) d=some ch/\ct d D:=by
   rintro⟨d,ch,J,hf⟩
   have bH: ∃d ch,ag (jM++g0 hS) d=some ch/\F d D:=by
    rcases iE J with⟨rfl,rfl⟩ |⟨e,J⟩
    .rw[wg] at hf;rcases hf with hf |⟨d,ch,J,hf⟩
     .exact absurd hf kO
     .exact⟨d,ch,(pB J).1,hf⟩
    .rw[tv e] at hf;exact⟨d,ch,rh J,hf⟩
   obtain⟨d,ch,J,hf⟩:=bH;obtain⟨r1,r2⟩:=aq.own d ch J D hf;rcases ap3.1 b9 with rfl |b9
   .omega
   .rcases r2 with r2 |r2
    .have:=aq.kI.2.1 D (.inr r2);omega
    .exact r2.2 b9
  exact⟨by rw[so];omega,(wd D kO).trans ((cz.block D bD zH).trans uh),Bm⟩
 .intro t;exact cr.mono (i5.trans Cm) _ _ (fun j Z=>xK j (aP.kn (Kb fe t) Z)) (hp t)
end
end
section
def Km:bC->Value
 | .d (.int k n)=>.int k n
 | .d (.bool b)=>.bool b
 | .d (.lit b)=>.bool b
 | .d (.str s)=>.string ⟨List.toArray s⟩
 |_=>.nilFunc
def zI:bC->Lit
 | .d (.int k n)=>.int k n
 | .d (.bool b)=>.bool b
 | .d (.lit b)=>.bool b
 | .d (.str s)=>.string s
 |_=>.nil
def Kn:bC->Bool
 | .d (.int _ _)=>true
 | .d (.bool _)=>true
 | .d (.lit _)=>true
 | .d (.str _)=>true
 |_=>false
def oV:List bC->List Value
 | []=>[]
 |s::l=>Km s::oV l
def jN:List bC->List Lit
 | []=>[]
 |s::l=>zI s::jN l
def Cn:List bC->Bool
 | []=>true
 |s::l=>Kn s&&Cn l
theorem Ko {ρ:Nat->bn} {I:Nat->Prop} {w:World}: ∀{l:List bC} {aE:List Value},Cn l=true->b' ρ I w l aE->aE=oV l
 | [],aE,_,h=>h
 |s::l,aE,af,⟨v,r,e,E,G⟩=>by
  simp only[Cn,vj] at af;have aj:=Ko af.2 G;subst aj e
  have:v=Km s:=by
   cases s with
   |d x=>cases x <;>first |exact E |(simp[Kn] at af;done)
   |_=>simp[Kn] at af
  rw[this];rfl
section
variable {P:Program} {aS:dc} {ids:ay5} {K:aY} {B:aw}
theorem Kp {o:Oper} {T fG:TypeId} {x y:Operand} {lx ly:List bC} {m D:Nat} (ah:o.op= .binOp .eql T x y fG) (a1:P.eqGuardType P.depth T=false) (ab:P.keyTypeAt m T=true) (az:m<=10000)
  (hx:a6 K x= .c (.agg lx)) (aB:a6 K y= .c (.agg ly)) (hc:(Cn lx&&Cn ly)=true) (adg:(Value.agg (List.toArray (oV lx))).formed P T=true) (adh:(Value.agg (List.toArray (oV ly))).formed P T=true)
  (adi:P.keyLits D T (oV lx)=some (jN lx)) (adj:P.keyLits D T (oV ly)=some (jN ly)) {r:Bool} (aF:r=true↔jN lx=jN ly) (N:Nat):bB P N ids o K B (.c (.one (.d (.bool r)))) ⟨[],[],[]⟩:=by
 have m1:x∈o.op.operands:=av2
 have m2:y∈o.op.operands:=av2
 simp only[vj] at hc;refine bB.val fun K' B' g1 g2 C ρ F a w aq au=>?_
 obtain⟨aE,ai,E⟩:=au.ev ((g1 x m1).trans hx);obtain⟨us,ao,G⟩:=au.ev ((g1 y m2).trans aB);have E:=Ko hc.1 E;have G:=Ko hc.2 G;subst E G;obtain⟨q,aT,qU⟩:=run_equalIn_deep (P:=P) (10000 - m) m T ab w D D (.agg (List.toArray (oV lx))) (.agg (List.toArray (oV ly))) (jN lx) (jN ly) adg adh (by simpa[Value.cells] using adi) (by simpa[Value.cells] using adj);rw[show 10000 - m+m=10000 by omega] at aT
 have bp:q=r:=by
  cases q <;>cases r
  .rfl
  .exact absurd (qU.2 (aF.1 rfl)) au7
  .exact absurd (aF.2 (qU.1 rfl)) au7
  .rfl
 subst bp;refine⟨.bool q,?_,rfl⟩;simp only[execOp,ah,ai,ao,Sem.run_bind,run_eqGuard_agg w .eql T x y _ _ a1,Result.andThen_ok,run_eql_struct,aT,Sem.run_pure]
theorem Kq {o:Oper} {T:TypeId} {x:Operand} {f:Nat} {l:List bC} {fs:Array Field} {jG:Field} {d:TypeDesc} {s:bC} (ah:o.op= .field T x f) (cd:P.underlying T=some (.struct fs)) (uf:fs[f]? =some jG) (J:P.underlying jG.type=some d) (fX:d.isRow=false)
  (hx:a6 K x= .c (.agg l)) (ax:l[jG.offset]? =some s) (N:Nat):bB P N ids o K B (.c (.one s)) ⟨[],[],[]⟩:=by
 have m1:x∈o.op.operands:=av2
 refine bB.val fun K' B' g1 g2 C ρ F a w aq au=>?_
 obtain⟨aE,ai,E⟩:=au.ev ((g1 x m1).trans hx);obtain⟨v,ay,dt⟩:=b'.get _ _ E jG.offset s ax;refine⟨v,?_,dt⟩;have Kr:(Go.isAgg jG.type).run P w= .ok false w:=by cases d <;>first |(simp[TypeDesc.isRow] at fX;done) |simp[Go.isAgg,run_underlying J]
 have hr:(List.toArray aE)[jG.offset]? =some v:=aw6
 simp only[execOp,ah,ai,Instr.field,Sem.run_bind,run_underlying cd,Result.andThen_ok,uf,asAgg,Sem.run_pure,part,Kr,Bool.false_eq_true,if_false,hr]
theorem Ks {n:Nat} {u:bx} (g:List (aa u)) (i q:Nat) (aT:q < aQ u):fC (.arr n u) g (i*aQ u+q)=fC u (List.getD g i (cL u)) q:=by
 show fC u (List.getD g ((i*aQ u+q)/aQ u) (cL u)) ((i*aQ u+q) % aQ u)=_;rw[show(i*aQ u+q)/aQ u=i by rw[Nat.mul_comm,Nat.mul_add_div au5,Nat.div_eq_of_lt aT,Nat.add_zero],show(i*aQ u+q) % aQ u=q by rw[Nat.mul_comm,Nat.mul_add_mod,Nat.mod_eq_of_lt aT]]
theorem adk {o:Oper} {T:TypeId} {x i:Operand} {n e:Nat} {c7:TypeInfo} {d:TypeDesc} {u:bx} {g:List (aa u)} {j:Int} (ah:o.op= .index T x i) (cd:P.underlying T=some (.array n e)) (V:P.underlying e=some d) (fX:d.isRow=true) (aH:P.info? e=some c7) (aR:c7.size=aQ u)
  (hx:a6 K x= .c (.agg (gi (.arr n u) g 0 (n*aQ u)))) (Z:a6 K i= .c (.one (.d (.int .i64 j)))) (av:0<=j) (E:j < n) (N:Nat):bB P N ids o K B (.c (.agg (gi u (List.getD g j.toNat (cL u)) 0 (aQ u)))) ⟨[],[],[]⟩:=by
 have m1:x∈o.op.operands:=av2
 have m2:i∈o.op.operands:=av2
 refine bB.val fun K' B' g1 g2 C ρ F a w aq au=>?_
 obtain⟨aE,ai,J⟩:=au.ev ((g1 x m1).trans hx);have ao:=au.int ((g1 i m2).trans Z);have b6:aE.length=n*aQ u:=(b'.length _ _ J).trans (ta (.arr n u) g _ _);have Kr:(Go.isAgg e).run P w= .ok true w:=by cases d <;>first |(simp[TypeDesc.isRow] at fX;done) |simp[Go.isAgg,run_underlying V]
 have cM:(sizeOf e).run P w= .ok (aQ u) w:=by simp[sizeOf,typeInfo,aH,aR]
 have gZ:j.toNat*aQ u+aQ u<=n*aQ u:=by
  have:=Nat.mul_le_mul_right (aQ u) (show j.toNat+1<=n by omega);rw[Nat.succ_mul] at this;exact this
 refine⟨.agg ((List.toArray aE).extract (j.toNat*aQ u) (j.toNat*aQ u+aQ u)),?_,(aE.drop (j.toNat*aQ u)).take (aQ u),by simp[List.extract],?_⟩
 .simp[execOp,ah,ai,ao,Instr.index,asIntOf,run_underlying cd,av,E,cM,part,Kr]
 .have key: ∀(m g3:Nat),g3+m<=aQ u->b' ρ (bZ C B' F w) w (gi u (List.getD g j.toNat (cL u)) g3 m) ((aE.drop (j.toNat*aQ u+g3)).take m):=fun m=>by
   induction m with
   |zero=>intro g3 _;simp[gi,b']
   |succ m br=>
    intro g3 az;have bw:j.toNat*aQ u+g3 < n*aQ u:=av3
    obtain⟨v,ay,th⟩:=b'.get _ _ J _ _ (y7 (.arr n u) g (n*aQ u) 0 (j.toNat*aQ u+g3) bw)
    have Co:aE.drop (j.toNat*aQ u+g3)=v::aE.drop (j.toNat*aQ u+(g3+1)):=by
     obtain⟨al,oG⟩:=ap5.1 ay;rw[List.drop_eq_getElem_cons al,oG,Nat.add_assoc]
    rw[Co,List.take_succ_cons];refine⟨v,_,rfl,?_,br (g3+1) au5⟩
    have H:fC (.arr n u) g (0+(j.toNat*aQ u+g3))=fC u (List.getD g j.toNat (cL u)) g3:=by
     rw[Nat.zero_add];exact Ks g _ _ au5
    rw[H] at th;exact th
  exact key (aQ u) 0 au5
theorem ae.adl (c:Nat) {u:bx} {x:aa u} (hw:oy u x) (H:ag B c=some (.cells (gi u x 0 (aQ u)))):ae ids K B K ((c,.val u x)::B):=by
 rintro N C a w ⟨hn,J,ρ,F,aq,au⟩;obtain⟨bh,aE,T,O,dt⟩:=aq.holds c _ H;obtain⟨bN,aW⟩:=aq.hP (w':=w) (ch:=.val u x) H (cK.refl _ _) fun I ba=>⟨bh,aE,T,O,by rw[b'.length _ _ dt,ta],Bj hw (b'.mono (ρ':=ρ) ba _ _ (fun _ _=>rfl) dt)⟩
 exact⟨hn,J,ρ,F,bN,au.mono aW fun _ _ _=>rfl⟩
theorem adm {o:Oper} {T:TypeId} {x i:Operand} {n e c:Nat} {c7:TypeInfo} {s:Nat} {j:Int} (ah:o.op= .indexAddr T x i) (cd:P.underlying T=some (.array n e)) (aH:P.info? e=some c7) (aR:c7.size=s)
  (hx:a6 K x= .c (.one (.ptr c 0))) (Z:a6 K i= .c (.one (.d (.int .i64 j)))) (av:0<=j) (E:j < n) (N:Nat):bB P N ids o K B (.c (.one (.f2 c s j.toNat 0))) ⟨[],[],[]⟩:=by
 have m1:x∈o.op.operands:=av2
 have m2:i∈o.op.operands:=av2
 refine bB.val fun K' B' g1 g2 C ρ F a w aq au=>?_
 have ai:=au.ptr ((g1 x m1).trans hx);have ao:=au.int ((g1 i m2).trans Z);have cM:(sizeOf e).run P w= .ok s w:=by simp[sizeOf,typeInfo,aH,aR]
 refine⟨.pointer (some ⟨(ρ c).bj,j.toNat*s,none⟩),?_,rfl⟩;simp[execOp,ah,ai,ao,Instr.indexAt,asIntOf,run_underlying cd,av,E,cM,Instr.sureAddr,p1]
theorem adn {I:Nat->Prop} {w:World} {n:Nat} {u:bx} {g:List (aa u)} {c:Nat->Option Value} (J:co I w (.arr n u) g c) {y:aa u} {j:Nat} {cs:List Value} (al:cs.length=aQ u) (aB:co I w u y (fun i=>cs[i]?)) (Z:j < n):
  co I w (.arr n u) (g.set j y) (fun i=>if j*aQ u<=i/\i < j*aQ u+aQ u then cs[i - j*aQ u]? else c i):=by
 obtain⟨E,G⟩:=J;refine⟨by rw[List.length_set];exact E,fun i aC aR=>?_⟩;unfold fD at aR;rw[List.getElem?_set] at aR
 split at aR
 .rename_i e;subst e
  split at aR
  .injection aR with aR
   subst aR;refine co.mono (ce.refl _ _) u y _ _ (fun q v ay=>?_) aB;have aT:q < aQ u:=by rw[<-al];exact(ap5.1 ay).1
   simp only;rw[if_pos ⟨au5,au5⟩,show j*aQ u+q - j*aQ u=q by omega];exact ay
  .cases aR
 .rename_i a2;have nb:=G i aC aR;rcases Nat.eq_zero_or_pos (aQ u) with av |av
  .refine co.mono (ce.refl _ _) u aC _ _ (fun q v ay=>?_) nb;simp only;rw[if_neg au5];exact ay
  .refine co.mk u aC _ (co.wf u aC _ nb) fun q aT=>?_
   obtain⟨v,ay,th⟩:=co.cell u aC _ q nb aT;refine⟨v,?_,th⟩;simp only;rw[if_neg ?_]
   .exact ay
   .rintro⟨b4,cg⟩;rcases Nat.lt_or_gt_of_ne a2 with bw |ui
    .have:=Nat.mul_le_mul_right (aQ u) (show j+1<=i by omega);rw[Nat.succ_mul] at this;omega
    .have:=Nat.mul_le_mul_right (aQ u) (show i+1<=j by omega);rw[Nat.succ_mul] at this;omega
theorem ado {o:Oper} {T:TypeId} {x v:Operand} {c n j:Nat} {u:bx} {g:List (aa u)} {y:aa u} {c7:TypeInfo} (ah:o.op= .store T x v) (aH:P.info? T=some c7) (aR:c7.size=aQ u) (hx:a6 K x= .c (.one (.f2 c (aQ u) j 0))) (Z:j < n)
  (H:ag B c=some (.val (.arr n u) g)) (ay:a6 K v= .c (.agg (gi u y 0 (aQ u)))) (hw:oy u y) (N:Nat):bB P N ids o K B .undef ⟨[c],[],[(c,some (.val (.arr n u) (g.set j y)))]⟩:=by
 have m1:x∈o.op.operands:=av2
 have m2:v∈o.op.operands:=av2
 refine bB.hP H fun K' B' g1 C ρ F a w aq au f3=>?_
 obtain⟨bh,aE,eS,O,b6,dt⟩:=aq.holds c _ f3;have ai:=au.f2 ((g1 x m1).trans hx);obtain⟨us,ao,G⟩:=au.ev ((g1 v m2).trans ay);have Kt:us.length=aQ u:=by rw[b'.length _ _ G,ta]
 have Q8:=Bj hw G
 have k2:j*aQ u+us.length<=aE.length:=by
  have:=Nat.mul_le_mul_right (aQ u) (show j+1<=n by omega);rw[Nat.succ_mul] at this;rw[b6,Kt];exact this
 have rY: ∀aC,aC∈us->aC.oneCell'=true:=fun aC aR=>by
  obtain⟨q,aT,rfl⟩:=List.getElem_of_mem aR;obtain⟨z',q3,s3⟩:=co.one u y _ Q8 q au5;rw[oj aT] at q3;injection q3 with q3
  rw[q3];exact s3
 have dO:=Bi (P:=P) (o:=o) (ev:=a.eval) (w:=w) (us:=us) ah (by rw[ai,Nat.add_zero]) (by rw[ao];rfl) aH (aR.trans Kt.symm) O k2 rY;have gO:(w.setRow (ρ c).bj (List.toArray (aE.take (j*aQ u)++us++aE.drop (j*aQ u+us.length)))).heap[(ρ c).bj]? =some (.cells (List.toArray (aE.take (j*aQ u)++us++aE.drop (j*aQ u+us.length))) eS (0,0)):=setRow_heap w _ _ _ eS _ O;refine⟨_,dO,⟨rfl,rfl,rfl,by simp[World.setRow],fun k _ ab=>setRow_other w _ k _ (fun e=>ab ((bh k).2 e))⟩,fun I aW=>⟨bh,_,eS,gO,?_,?_⟩⟩
 .rw[ap1,ap1,ap8,at1];omega
 .refine co.mk (.arr n u) (g.set j y) _ ?_ ?_
  .have Q9:=co.wf (.arr n u) g _ dt;refine⟨by rw[List.length_set];exact Q9.1,fun aC aR=>?_⟩;rcases List.mem_or_eq_of_mem_set aR with aR |rfl
   .exact Q9.2 aC aR
   .exact hw
  .intro q aT;have oH:=adn dt (y:=y) (j:=j) Kt Q8 Z;obtain⟨aC,aR,yT⟩:=co.cell (.arr n u) _ _ q oH aT;refine⟨aC,?_,gF.mono aW _ _ yT⟩;rw[<-aR];have Fj:q < aE.length:=by rw[b6];exact aT
   split
   .rename_i ft;rw[as8,ar9 aw5,ap8,ar7 au5]
    congr 1
    omega
   .rename_i nM;rcases Nat.lt_or_ge q (j*aQ u) with bw |vx
    .rw[as8,ar7 aw5,List.getElem?_take,if_pos bw]
    .have:j*aQ u+aQ u<=q:=by
      rcases Nat.lt_or_ge q (j*aQ u+aQ u) with h |h
      .exact absurd ⟨vx,h⟩ nM
      .exact h
     rw[ar9 (by rw[ap1,ap8];omega),ap1,ap8,List.getElem?_drop]
     congr 1
     omega
theorem Ra {o:Oper} {T:TypeId} {x:Operand} {c:Nat} {u:bx} {y:aa u} {c7:TypeInfo} {d:TypeDesc} (ah:o.op= .load T x) (cd:P.underlying T=some d) (fX:d.isRow=true) (aH:P.info? T=some c7) (aR:c7.size=aQ u) (hx:a6 K x= .c (.one (.ptr c 0)))
  (H:ag B c=some (.val u y)) (N:Nat):bB P N ids o K B (.c (.agg (gi u y 0 (aQ u)))) ⟨[c],[],[]⟩:=by
 have m1:x∈o.op.operands:=av2
 refine bB.val fun K' B' g1 g2 C ρ F a w aq au=>?_
 obtain⟨bh,aE,eS,O,b6,dt⟩:=aq.holds c _ ((g2 c au7).trans H);have ai:=au.ptr ((g1 x m1).trans hx);obtain⟨us,E,G⟩:=EC (ρ:=ρ) dt (aQ u) 0 au5;refine⟨_,EA (cs:=us) ah ai cd fX aH (by rw[b'.length _ _ E,ta];exact aR) (fun j v Z=>?_),us,rfl,E⟩;have:=G j v Z;exact oF O this
theorem adp {aS:dc} (bm:d6 P aS) {o:Oper} {T n e:Nat} {ti:cb} (ah:o.op= .build T #[]) (cq:aS.find T=some ti) (cd:P.underlying T=some (.array n e)) {Cp:TypeInfo} (adq:P.info? e=some Cp) (fX:ti.row=true) (N:Nat):bB P N ids o K B (.c (.agg ti.zero)) ⟨[],[],[]⟩:=by
 refine bB.val fun K' B' g1 g2 C ρ F a w aq au=>?_
 obtain⟨i,d,bu⟩:=bm.at_ cq;obtain⟨aC,aR,my⟩:=bu.zero;obtain⟨kk,q1⟩:=vF (ρ:=ρ) (I:=bZ C B' F w) (w:=w) _ _ my;refine⟨.agg aC.cells,?_,aC.cells.toList,au7,kk⟩;simp[execOp,ah,Instr.build,zeroValue,typeInfo,bu.jE,aR,run_underlying cd,sizeOf,adq,Instr.fill]
theorem adr {o:Oper} {T e d:Nat} {x y:Operand} {c7:TypeInfo} {n:Int} (ah:o.op= .makeSlice T x y) (cd:P.underlying T=some (.slice e)) (aH:P.info? e=some c7) (aR:c7.zero=some (.int .i64 0)) (ax:c7.size=1) (O:c7.bytes=8)
  (hx:a6 K x= .c (.one (.d (.int .i64 n)))) (aB:a6 K y= .c (.one (.d (.int .i64 n)))) (av:0<=n) (E:n<=1000000) (N:Nat):bB P N ids o K B (.c (.one (.own d))) ⟨[],[d],[(d,some (.row e (.int .i64) (List.replicate n.toNat (0:Int))))]⟩:=by
 have m1:x∈o.op.operands:=av2
 have m2:y∈o.op.operands:=av2
 refine bB.make (fun d h=>Bn h) fun K' B' g1 g2 C ρ F a w aq au hn=>?_
 have dE:=au.int ((g1 x m1).trans hx);have d4:=au.int ((g1 y m2).trans aB);have dO:=run_make (P:=P) w T e c7 _ cd aH aR .i64 .i64 n n av (Int.le_refl _) (by rw[O];omega) au5
 have wX:madeCells (Value.int .i64 0).cells (n.toNat*c7.size)=(List.replicate n.toNat (Value.int .i64 0)).toArray:=by
  rw[ax];simp[madeCells,Value.cells];apply Array.ext
  .simp
  .intro i E G;simp[Nat.mod_one]
 rw[wX] at dO;refine⟨.slice (some ⟨w.heap.size,0,none⟩) n.toNat n.toNat,w.alloc (.cells (List.replicate n.toNat (.int .i64 0)).toArray e),⟨w.heap.size,some ⟨w.heap.size,0,none⟩,n.toNat,n.toNat⟩,fun b=>b=w.heap.size,?_,s0 w _,fun b O=>?_,fun I aW ba=>⟨⟨?_,?_,List.replicate n.toNat (.int .i64 0),?_,?_⟩,?_⟩⟩
 .simp only[execOp,ah,Sem.run_bind,dE,d4,dO,Result.andThen_ok,Sem.run_pure]
 .subst O;simp
 .intro b;simp[bn.ey,Value.ownBlock,eq_comm]
 .intro b O;simp[bn.ey,Value.ownBlock] at O;exact O.symm
 .have:=EH w e 1 n.toNat (List.replicate n.toNat (.int .i64 0)) au7 aw9;have ai:List.length (α:=aa (.int .i64)) (List.replicate n.toNat (0:Int))=n.toNat:=as4;rw[ai];exact this
 .intro i aC aR;obtain⟨aH,q3⟩:=ap5.1 aR;have tg:aC=(0:Int):=by rw[<-q3];exact List.getElem_replicate ..
  subst tg
  have aH:i < n.toNat:=by
   have E:i < List.length (α:=Int) (List.replicate n.toNat (0:Int)):=aH;rw[as4] at E;exact E
  show(List.replicate n.toNat (Value.int .i64 0))[i*1+0]? =some (.int .i64 0);simp[aH]
 .simp only[cr,gA,dU,c6];rfl
theorem Rb (w:World) {T:TypeId} {bE i6:Array TypeId} {uc:Bool} (cd:P.underlying T=some (.func bE i6 uc)) (f:Go.Fn) (a b:Array Value):(binOp .eql T (.func f a b) .nilFunc).run P w= .ok (.bool false) w/\(binOp .neq T (.func f a b) .nilFunc).run P w= .ok (.bool true) w:=by
 have av: ∀d,(Op.equalIn (d+1) T (.func f a b) .nilFunc).run P w= .ok false w:=fun d=>by simp[Op.equalIn,run_underlying cd]
 have h:(Op.equalIn 10000 T (.func f a b) .nilFunc).run P w= .ok false w:=av 9999;constructor
 .simp only[binOp];simp[Op.equal,Op.maxDepth,h]
 .simp only[binOp];simp[Op.equal,Op.maxDepth,h]
theorem ads {o:Oper} {T fG:TypeId} {x:Operand} {op:BinOp} {y:Nat×ay5} {b:Bool} {bE i6:Array TypeId} {uc:Bool} (vQ:(op= .eql/\b=false)\/(op= .neq/\b=true)) (ah:o.op= .binOp op T x (.const .nilFunc) fG) (cd:P.underlying T=some (.func bE i6 uc))
  (hx:a6 K x= .c (.one (.d (.fn y)))) (N:Nat):bB P N ids o K B (.c (.one (.d (.lit b)))) ⟨[],[],[]⟩:=by
 have m1:x∈o.op.operands:=av2
 refine bB.val fun K' B' g1 g2 C ρ F a w aq au=>?_
 have ai:a.eval x=mq y:=au.ev ((g1 x m1).trans hx);refine⟨.bool b,?_,rfl⟩;have ao:a.eval (.const .nilFunc)= .nilFunc:=rfl;rcases vQ with⟨rfl,rfl⟩ |⟨rfl,rfl⟩
 .have h:=(Rb (P:=P) w cd (.func y.1) #[] (List.toArray (qS y.2))).1;simp[execOp,ah,ai,ao,eqGuard,mq,h]
 .have h:=(Rb (P:=P) w cd (.func y.1) #[] (List.toArray (qS y.2))).2;simp[execOp,ah,ai,ao,eqGuard,mq,h]
theorem Rc (w:World) {T:TypeId} {bE i6:Array TypeId} {uc:Bool} (cd:P.underlying T=some (.func bE i6 uc)):(binOp .eql T .nilFunc .nilFunc).run P w= .ok (.bool true) w/\(binOp .neq T .nilFunc .nilFunc).run P w= .ok (.bool false) w:=by
 have av: ∀d,(Op.equalIn (d+1) T .nilFunc .nilFunc).run P w= .ok true w:=fun d=>by simp[Op.equalIn,run_underlying cd]
 have h:(Op.equalIn 10000 T .nilFunc .nilFunc).run P w= .ok true w:=av 9999;constructor
 .simp only[binOp];simp[Op.equal,Op.maxDepth,h]
 .simp only[binOp];simp[Op.equal,Op.maxDepth,h]
theorem adt {o:Oper} {T fG:TypeId} {x:Operand} {op:BinOp} {b:Bool} {bE i6:Array TypeId} {uc:Bool} (vQ:(op= .eql/\b=true)\/(op= .neq/\b=false)) (ah:o.op= .binOp op T x (.const .nilFunc) fG) (cd:P.underlying T=some (.func bE i6 uc))
  (hx:a6 K x= .c (.one (.bJ .nilFunc))) (N:Nat):bB P N ids o K B (.c (.one (.d (.lit b)))) ⟨[],[],[]⟩:=by
 have m1:x∈o.op.operands:=av2
 refine bB.val fun K' B' g1 g2 C ρ F a w aq au=>?_
 have ai:=au.bJ ((g1 x m1).trans hx);refine⟨.bool b,?_,rfl⟩;have ao:a.eval (.const .nilFunc)= .nilFunc:=rfl;rcases vQ with⟨rfl,rfl⟩ |⟨rfl,rfl⟩
 .have h:=(Rc (P:=P) w cd).1;simp[execOp,ah,ai,ao,eqGuard,h]
 .have h:=(Rc (P:=P) w cd).2;simp[execOp,ah,ai,ao,eqGuard,h]
end
end
section
abbrev tw:bx:=.bQ (.int .i64) (.bQ (.int .i64) .bool)
abbrev fw:bx:=.arr 16 tw
abbrev e7:=Int×Int×Bool
abbrev qh (s:e7):List bC:=[.d (.int .i64 s.1),.d (.int .i64 s.2.1),.d (.bool s.2.2)]
abbrev pC (s:e7):dI:=.agg (qh s)
abbrev cD:e7:=(0,0,false)
def tx (s:e7):Prop:=(-1000000<=s.1/\s.1<=1000000)/\ -1000000<=s.2.1/\s.2.1<=1000000
def qi:List e7:=List.replicate 16 cD
abbrev oW (n:Int) (es:List (aa ak×aa fw)):aw:=[(1001,.cells [.d (.int .i64 n),.mp 1002]),(1002,.map ak fw es)]
def hH (es:List (aa ak×aa fw)) (k:Int):List e7:=(b0 (aI:=ak) (aK:=fw) es k).getD qi
structure nV (t:List e7) (es:List (aa ak×aa fw)):Prop where
 fN:eZ es
 wf: ∀p,p∈es->List.length (α:=e7) p.2=16
 ok: ∀k i,tx ((hH es k).getD i cD)
 at_: ∀c (h:c < t.length),(hH es ((c/16:Nat):Int)).getD (c % 16) cD=t[c]
theorem nV.len {t:List e7} {es:List (aa ak×aa fw)} (h:nV t es) (k:Int):(hH es k).length=16:=by
 unfold hH
 cases e:b0 (aI:=ak) (aK:=fw) es k with
 |none=>rfl
 |some g=>exact h.wf _ (QB rb e)
theorem adu (es:List (aa ak×aa fw)) (k:Int) (g:List e7):hH (dr (aI:=ak) (aK:=fw) es k g) k=g/\ ∀j,j≠k->hH (dr (aI:=ak) (aK:=fw) es k g) j=hH es j:=by
 obtain⟨E,G⟩:=zz (aI:=ak) (aK:=fw) rb k g es;refine⟨by unfold hH;rw[E];rfl,fun j Z=>?_⟩;unfold hH;rw[G j Z]
theorem adv {es:List (aa ak×aa fw)} (hn:eZ es) (k:Int):hH (gH (aI:=ak) (aK:=fw) es k) k=qi/\ ∀j,j≠k->hH (gH (aI:=ak) (aK:=fw) es k) j=hH es j:=by
 obtain⟨E,G⟩:=B5 (aI:=ak) (aK:=fw) rb k es hn;refine⟨by unfold hH;rw[E];rfl,fun j Z=>?_⟩;unfold hH;rw[G j Z]
def ri (es:List (aa ak×aa fw)) (c:Nat) (s:e7):List (aa ak×aa fw):=
 if(hH es ((c/16:Nat):Int)).set (c % 16) s=qi then gH (aI:=ak) (aK:=fw) es ((c/16:Nat):Int) else dr (aI:=ak) (aK:=fw) es ((c/16:Nat):Int) ((hH es ((c/16:Nat):Int)).set (c % 16) s)
theorem adw {t:List e7} {es:List (aa ak×aa fw)} (h:nV t es) (c:Nat) (s:e7):hH (ri es c s) ((c/16:Nat):Int)=(hH es ((c/16:Nat):Int)).set (c % 16) s/\ ∀j,j≠((c/16:Nat):Int)->hH (ri es c s) j=hH es j:=by
 unfold ri
 split
 .rename_i e;obtain⟨E,G⟩:=adv h.fN ((c/16:Nat):Int);exact⟨E.trans e.symm,G⟩
 .exact adu es _ _
theorem nV.set {t:List e7} {es:List (aa ak×aa fw)} (h:nV t es) (c:Nat) (s:e7) (ax:tx s):nV (t.set c s) (ri es c s):=by
 obtain⟨g1,g2⟩:=adw h c s;refine⟨?_,?_,fun k i=>?_,fun d J=>?_⟩
 .unfold ri
  split
  .exact eZ.k7 h.fN
  .exact eZ.put rb h.fN
 .intro p af;unfold ri at af
  split at af
  .exact h.wf p (zA af)
  .rcases JZ af with rfl |af
   .show List.length (α:=e7) ((hH es ((c/16:Nat):Int)).set (c % 16) s)=16;rw[List.length_set];exact h.len _
   .exact h.wf p af
 .by_cases e:k=((c/16:Nat):Int)
  .rw[e,g1,ap9,List.getElem?_set]
   split
   .split
    .exact ax
    .exact⟨au6,au6⟩
   .rw[<-ap9];exact h.ok _ _
  .rw[g2 _ e];exact h.ok _ _
 .rw[List.length_set] at J;have al:=h.len ((c/16:Nat):Int)
  by_cases e:d/16=c/16
  .rw[e,g1]
   by_cases ao:d=c
   .subst ao;rw[List.getElem_set_self,ap9,List.getElem?_set_self (by rw[al];omega)];rfl
   .have a2:c % 16≠d % 16:=fun h=>ao au5
    rw[List.getElem_set_ne (Ne.symm ao),ap9,List.getElem?_set_ne a2,<-ap9,<-e];exact h.at_ d J
  .have a2:((d/16:Nat):Int)≠((c/16:Nat):Int):=fun h=>e au5
   rw[g2 _ a2,List.getElem_set_ne (fun ao=>e (by rw[ao]))];exact h.at_ d J
theorem Rd:(Tryz.prog.info? 224).map (·.size)=some 3:=by kernel_rfl
def rj (s:e7):Bool:=if s.1=1 then decide (0<=s.2.1)&&decide (s.2.1 < 512) else decide (s=cD)||decide (s=(2,0,false))
theorem Re (s q:e7):decide (s=q)=true↔jN (qh s)=jN (qh q):=by
 rw[decide_eq_true_iff];simp only[jN,zI,qh,List.cons.injEq,Lit.int.injEq,Lit.bool.injEq,true_and,and_true];constructor
 .intro h;subst h;exact⟨rfl,rfl,rfl⟩
 .rintro⟨E,G,aj⟩;exact Prod.ext E (Prod.ext G aj)
theorem adx {n:Int} (h: -1000000<=n/\n<=1000000):(Lit.int .i64 n).wf=true:=by
 simp only[Lit.wf,vj,ar5];have E:IntKind.min .i64= -9223372036854775808:=by decide
 have G:IntKind.max .i64=9223372036854775807:=by decide
 rw[E,G];omega
theorem Rf (d:Nat) {n:Int} (h: -1000000<=n/\n<=1000000):Tryz.prog.keyLits (d+1) 3 [.int .i64 n]=some [.int .i64 n]:=by
 unfold Program.keyLits;simp only[Tryz.underlying3];have hw:=adx h;simp[hw]
theorem lH (d:Nat) {s:e7} (h:tx s):Tryz.prog.keyLits (d+2) 224 (oV (qh s))=some (jN (qh s)):=by
 have cC:Tryz.prog.cellsOf 224=3:=by kernel_rfl
 have cG:Tryz.prog.cellsOf 3=1:=by kernel_rfl
 have hF:Tryz.prog.cellsOf 4=1:=by kernel_rfl
 have ci:=Rf d h.1;have cN:=Rf d h.2
 have ec:Tryz.prog.keyLits (d+1) 4 [.bool s.2.2]=some [.bool s.2.2]:=by
  unfold Program.keyLits;simp only[Tryz.underlying4]
 unfold Program.keyLits;simp only[Tryz.underlying224,cC];simp[oV,Km,qh,cG,hF,ci,cN,ec,jN,zI]
theorem ady (s:e7) (ax:tx s):Fn Tryz.prog 204 [.c (pC s)] [] [] (fK (rj s)) []:=by
 refine aU [] Tryz.func204 ?_;refine⟨rfl,fun E=>?_,fun E=>?_⟩
 .have E:=gd E;refine⟨fun G=>?_,fun G=>?_⟩
  .refine⟨_,_,_,bp,rfl,?_,trivial,rfl⟩;show decide (s.2.1 < 512)=rj s;unfold rj;have G:decide (0<=s.2.1)=true:=G;rw[if_pos E,G,Bool.true_and]
  .refine⟨_,_,_,bp,rfl,?_,trivial,rfl⟩;show false=rj s;unfold rj;have G:decide (0<=s.2.1)=false:=G;rw[if_pos E,G,Bool.false_and]
 .have E:=mu E;refine⟨_,_,fun N=>Kp (m:=5) (D:=5) (lx:=qh s) (ly:=[.d (.int .i64 0),.d (.int .i64 0),.d (.lit false)]) rfl au8 au8 au6 rfl rfl rfl rfl rfl (lH 3 ax) (lH 3 (s:=cD) ⟨au6,au6⟩) (Re s cD) N,rfl,?_⟩;refine⟨fun G=>?_,fun G=>?_⟩
  .refine⟨_,_,_,bp,rfl,?_,trivial,rfl⟩;show true=rj s;unfold rj;rw[if_neg E,G,Bool.true_or]
  .refine⟨_,_,fun N=>Kp (m:=5) (D:=5) (lx:=qh s) (ly:=[.d (.int .i64 2),.d (.int .i64 0),.d (.lit false)]) rfl au8 au8 au6 rfl rfl rfl rfl rfl (lH 3 ax) (lH 3 (s:=(2,0,false)) ⟨au6,au6⟩) (Re s (2,0,false)) N,rfl,?_⟩;refine⟨_,_,_,bp,rfl,?_,trivial,rfl⟩;show decide (s=(2,0,false))=rj s;unfold rj;rw[if_neg E,G,Bool.false_or]
def wh (s:e7):Bool:=decide (s.1=1)&&s.2.2
theorem adz (s:e7):Fn Tryz.prog 179 [.c (pC s)] [] [] (fK (wh s)) []:=by
 refine aU [] Tryz.func179 ?_;refine⟨rfl,fun E=>?_,fun E=>?_⟩
 .refine⟨_,_,_,bp,rfl,?_,trivial,rfl⟩;show s.2.2=wh s;unfold wh;have E:decide (s.1=1)=true:=E;rw[E,Bool.true_and]
 .refine⟨_,_,_,bp,rfl,?_,trivial,rfl⟩;show false=wh s;unfold wh;have E:decide (s.1=1)=false:=E;rw[E,Bool.false_and]
theorem Rg (n:Int):Fn Tryz.prog 129 [ac n] [] [] (fK (decide (0<=n)&&decide (n<=256))) []:=by
 refine aU [] Tryz.func129 ?_;refine⟨fun h=>?_,fun h=>?_⟩
 .refine⟨_,_,_,bp,rfl,?_,trivial,rfl⟩;show decide (n<=256)=_;have h:decide (0<=n)=true:=h;rw[h,Bool.true_and]
 .refine⟨_,_,_,bp,rfl,?_,trivial,rfl⟩;show false=_;have h:decide (0<=n)=false:=h;rw[h,Bool.false_and]
theorem adA (n:Int) (es:List (aa ak×aa fw)):Fn Tryz.prog 38 [ap 1001] (oW n es) [] (ac n) (oW n es):=by
 refine aU [] Tryz.func38 ?_;exact bg
theorem Rh {t:List e7} {es:List (aa ak×aa fw)} (fq:nV t es) (al:t.length<=256) (c:Nat) (H:c < t.length):Fn Tryz.prog 148 [ap 1001,ac (c:Int)] (oW (t.length:Nat) es) [] (.c (pC t[c])) (oW (t.length:Nat) es):=by
 have a1:(hH es ((c:Int)/16)).getD ((c:Int) % 16).toNat cD=t[c]:=by
  rw[<-fq.at_ c H]
  congr 1
 obtain⟨adB,Cq,FF⟩: ∃i,Tryz.prog.info? 224=some i/\i.size=3:=by
  have:=Rd
  cases e:Tryz.prog.info? 224 with
  |none=>rw[e] at this;cases this
  |some i=>rw[e] at this;exact⟨i,rfl,by simpa using this⟩
 refine aU [] Tryz.func148 ?_;refine⟨rfl,fun E=>absurd (gd E) au5,fun E=>⟨fun E=>absurd (gd E) au5,fun E=>⟨⟨au5,au5⟩,⟨au5,au5⟩,⟨au5,au5⟩,⟨au5,au5⟩,_,_,fun N=>adk (n:=16) (e:=224) (u:=tw) (g:=hH es ((c:Int)/16)) (j:=(c:Int) % 16) rfl Tryz.underlying268 Tryz.underlying224 rfl Cq FF rfl rfl au5 au5 N,rfl,?_⟩⟩⟩;refine⟨_,_,_,bp,rfl,?_,aA,rfl⟩;show s5 (.c (.agg (gi tw ((hH es ((c:Int)/16)).getD ((c:Int) % 16).toNat cD) 0 3))) _;rw[a1];exact aA
theorem adC (g hh:List e7) (al:g.length=16) (f3:hh.length=16):jN (gi fw g 0 48)=jN (gi fw hh 0 48)->g=hh:=by
 intro h
 have mx: ∀(l:List bC) (j:Nat),(jN l)[j]? =(l[j]?).map zI:=fun l=>by
  induction l with
  |nil=>intro j;simp[jN]
  |cons s l br=>
   intro j
   match j with
   |0=>rfl
   |j+1=>simpa[jN] using br j
 have H: ∀i,i < 16-> ∀q,q < 3->zI (.d (fC tw (g.getD i cD) q))=zI (.d (fC tw (hh.getD i cD) q)):=fun i aH q aT=>by
  have E:=congrArg (fun l=>l[i*3+q]?) h;simp only[mx] at E;have ai:=y7 fw g 48 0 (i*3+q) au5;have ao:=y7 fw hh 48 0 (i*3+q) au5;rw[ai,ao] at E;simp only[at2,ap4,Nat.zero_add] at E;have cC:fC fw g (i*3+q)=fC tw (g.getD i cD) q:=Ks (u:=tw) (n:=16) g i q aT;have cG:fC fw hh (i*3+q)=fC tw (hh.getD i cD) q:=Ks (u:=tw) (n:=16) hh i q aT;rw[cC,cG] at E;exact E
 refine List.ext_getElem (al.trans f3.symm) fun i E G=>?_
 have a0:=H i au5 0 au5;have b4:=H i au5 1 au5;have cg:=H i au5 2 au5;have ai:g.getD i cD=g[i]:=by rw[ap9,oj E];rfl
 have ao:hh.getD i cD=hh[i]:=by rw[ap9,oj G];rfl
 rw[ai,ao] at a0 b4 cg;have eA:Lit.int .i64 (g[i]).1=Lit.int .i64 (hh[i]).1:=a0;have b1:Lit.int .i64 (g[i]).2.1=Lit.int .i64 (hh[i]).2.1:=b4;have b2:Lit.bool (g[i]).2.2=Lit.bool (hh[i]).2.2:=cg;injection eA with _ eA
 injection b1 with _ b1
 injection b2 with b2
 exact Prod.ext eA (Prod.ext b1 b2)
theorem Ri {α lE:Type} {f:α->Option lE} {g:α->lE}: ∀{l:List α},(∀a,a∈l->f a=some (g a))->l.mapM f=some (l.map g)
 | [],_=>rfl
 |a::l,h=>by
  rw[List.mapM_cons,h a (aq0 ..),Ri fun b O=>h b (ap2 _ O)];rfl
theorem Rj (d:Nat) (g:List e7) (h: ∀i,i < 16->tx (g.getD i cD)):Tryz.prog.keyLits (d+3) 268 (oV (gi fw g 0 48))=some (jN (gi fw g 0 48)):=by
 have cC:Tryz.prog.cellsOf 268=48:=by kernel_rfl
 have cG:Tryz.prog.cellsOf 224=3:=by kernel_rfl
 have key: ∀i,i < 16->Tryz.prog.keyLits (d+2) 224 (((oV (gi fw g 0 48)).drop (i*3)).take 3)=some (jN (qh (g.getD i cD))):=by
  intro i aH
  match i,aH with
  |0,_=>exact lH d (h 0 au5)
  |1,_=>exact lH d (h 1 au5)
  |2,_=>exact lH d (h 2 au5)
  |3,_=>exact lH d (h 3 au5)
  |4,_=>exact lH d (h 4 au5)
  |5,_=>exact lH d (h 5 au5)
  |6,_=>exact lH d (h 6 au5)
  |7,_=>exact lH d (h 7 au5)
  |8,_=>exact lH d (h 8 au5)
  |9,_=>exact lH d (h 9 au5)
  |10,_=>exact lH d (h 10 au5)
  |11,_=>exact lH d (h 11 au5)
  |12,_=>exact lH d (h 12 au5)
  |13,_=>exact lH d (h 13 au5)
  |14,_=>exact lH d (h 14 au5)
  |15,_=>exact lH d (h 15 au5)
  |n+16,aH=>exact absurd aH au5
 unfold Program.keyLits;simp only[Tryz.underlying268,cC,cG];have al:(oV (gi fw g 0 48)).length=48:=rfl;have aF:((List.range 16).map fun i=>jN (qh (g.getD i cD))).flatten=jN (gi fw g 0 48):=rfl;generalize oV (gi fw g 0 48)=ao7 at al key⊢;rw[if_pos al,Ri (g:=fun i=>jN (qh (g.getD i cD))) fun i aH=>key i (List.mem_range.1 aH)];exact congrArg some aF
theorem adD:(Tryz.prog.info? 268).map (·.size)=some 48:=by kernel_rfl
theorem j5 {T n:Nat} (h:(Tryz.prog.info? T).map (·.size)=some n): ∃i,Tryz.prog.info? T=some i/\i.size=n:=by
 cases e:Tryz.prog.info? T with
 |none=>rw[e] at h;cases h
 |some i=>rw[e] at h;exact⟨i,rfl,by simpa using h⟩
theorem Rk (i:Nat):qi.getD i cD=cD:=by
 unfold qi;rw[ap9,List.getElem?_replicate]
 split <;>rfl
abbrev nW:List bC:=[.d (.int .i64 0),.d (.int .i64 0),.d (.lit false)]
abbrev FG:List bC:=nW++(nW++(nW++(nW++(nW++(nW++(nW++(nW++(nW++(nW++(nW++(nW++(nW++(nW++(nW++nW))))))))))))))
theorem adE:Tryz.prog.keyLits 5 268 (oV FG)=some (jN FG):=Rj 2 qi fun i _=>by rw[Rk];exact⟨au6,au6⟩
abbrev adF (c:Nat):aY:=[(0,ap 1001),(1,ac (c:Int)),(5,ap 5),(6,ap 6)]
abbrev adG (n:Int) (es:List (aa ak×aa fw)) (s:e7) (g:List e7):aw:=[(6,.val fw g),(5,.cells (qh s)),(1001,.cells [.d (.int .i64 n),.mp 1002]),(1002,.map ak fw es)]
theorem adH {t:List e7} {es:List (aa ak×aa fw)} (fq:nV t es) (n:Int) (c:Nat) (H:c < 100000) (s:e7) (ax:tx s):Fn Tryz.prog 205 [ap 1001,ac (c:Int),.c (pC s)] (oW n es) [] gJ (oW n (ri es c s)):=by
 obtain⟨adB,Cq,FF⟩:=j5 Rd;obtain⟨ao8,Rl,Rm⟩:=j5 adD;have b6:=fq.len ((c:Int)/16);have c3:((c/16:Nat):Int)=(c:Int)/16:=av3
 have Cr:((c:Int) % 16).toNat=c % 16:=av3
 have Rn:(hH es ((c:Int)/16)).set (c % 16) s=qi->ri es c s=gH (aI:=ak) (aK:=fw) es ((c:Int)/16):=fun h=>by
  unfold ri;rw[c3,if_pos h];rfl
 have FH: ¬(hH es ((c:Int)/16)).set (c % 16) s=qi->ri es c s=dr (aI:=ak) (aK:=fw) es ((c:Int)/16) ((hH es ((c:Int)/16)).set (c % 16) s):=fun h=>by
  unfold ri;rw[c3,if_neg h];rfl
 have uI:((hH es ((c:Int)/16)).set (c % 16) s).length=16:=by rw[List.length_set];exact b6
 have Ro: ∀i,i < 16->tx (((hH es ((c:Int)/16)).set (c % 16) s).getD i cD):=fun i _=>by
  rw[ap9,List.getElem?_set]
  split
  .split
   .exact ax
   .exact⟨au6,au6⟩
  .rw[<-ap9];exact fq.ok _ _
 obtain⟨hh,rk⟩: ∃hh:List e7,hh=(hH es ((c:Int)/16)).set (c % 16) s:=⟨_,rfl⟩;rw[<-rk] at Rn FH Ro uI
 have r6:decide (hh=qi)=true↔jN (gi fw hh 0 48)=jN FG:=by
  rw[decide_eq_true_iff];exact⟨fun h=>by rw[h];rfl,adC hh qi uI rfl⟩
 refine aU [2] Tryz.func205 ?_;refine⟨rfl,⟨au5,au5⟩,⟨au5,au5⟩,rfl,bz [] ((ae.adl 6 (u:=fw) (x:=hH es ((c:Int)/16)) ⟨b6,fun _ _=>⟨trivial,trivial,trivial⟩⟩ rfl).trans (cH (adF c) (adG n es s (hH es ((c:Int)/16))))) ⟨⟨au5,au5⟩,⟨au5,au5⟩,_,_,fun N=>adm (s:=3) (j:=(c:Int) % 16) rfl Tryz.underlying268 Cq FF rfl rfl au5 au5 N,rfl,?_⟩⟩;rw[Cr];refine⟨_,⟨[6],[],[(6,some (.val fw hh))]⟩,fun N=>by rw[rk];exact ado (n:=16) (u:=tw) (g:=hH es ((c:Int)/16)) (y:=s) rfl Cq FF rfl au5 rfl rfl ⟨trivial,trivial,trivial⟩ N,rfl,?_⟩;refine⟨_,_,fun N=>Ra (u:=fw) (y:=hh) rfl Tryz.underlying268 rfl Rl Rm rfl rfl N,rfl,?_⟩;refine⟨_,_,fun N=>adp eX rfl rfl Tryz.underlying268 Cq rfl N,rfl,?_⟩;refine⟨_,_,fun N=>Kp (m:=5) (D:=5) (r:=decide (hh=qi)) (lx:=gi fw hh 0 48) (ly:=FG) rfl au8 au8 au6 rfl rfl rfl rfl rfl (Rj 2 hh Ro) adE (r6) N,rfl,?_⟩;refine⟨fun h=>?_,fun h=>?_⟩
 .have h:=gd h;refine⟨⟨au5,au5⟩,⟨au5,au5⟩,?_⟩;rw[Rn h];exact bg
 .have h:=mu h;refine⟨⟨au5,au5⟩,⟨au5,au5⟩,_,_,fun N=>Ra (u:=fw) (y:=hh) rfl Tryz.underlying268 rfl Rl Rm rfl rfl N,rfl,?_⟩;refine⟨hh,⟨⟨uI,fun _ _=>⟨trivial,trivial,trivial⟩⟩,rfl⟩,rfl,?_⟩;rw[FH h];exact bg
theorem adI {t:List e7} {es:List (aa ak×aa fw)} (fq:nV t es) (al:t.length<=256) (c:Nat) (H:c < t.length) (s:e7) (ax:tx s) (aF:rj s=true):
  Fn Tryz.prog 182 [ap 1001,ac (c:Int),.c (pC s)] (oW (t.length:Nat) es) [] (.cf [pC t[c],dw 0]) (oW (t.length:Nat) (ri es c s)):=by
 refine aU [] Tryz.func182 ?_;refine⟨rfl,rfl,fun E=>absurd (gd E) au5,fun E=>⟨fun E=>absurd (gd E) au5,fun E=>ar (ady s ax) ?_⟩⟩;exact⟨fun E=>absurd E (by rw[aF];decide),fun _=>ar (Rh fq al c H) ⟨rfl,ar (adH fq (t.length:Nat) c au5 s ax) <| eq bp rfl ⟨aA,rfl,trivial⟩⟩⟩
def rl (t:List e7):bf where
 R:=fun I F w p=> ∃es,nV t es/\iD 1001 (oW (t.length:Nat) es) I F w p
 cj:=fun I F w I' w' p ⟨es,h,a1⟩ V bh aR=>⟨es,h,(bf.iX 1001 (oW (t.length:Nat) es)).cj I F w I' w' p a1 V bh aR⟩
theorem nV.new (n:Nat):nV (List.replicate n cD) []:=by
 have a1: ∀k i,(hH [] k).getD i cD=cD:=fun k i=>Rk i
 refine⟨.nil,fun p af=>(by cases af),fun k i=>?_,fun c H=>?_⟩
 .rw[a1];exact⟨au6,au6⟩
 .rw[a1,List.getElem_replicate]
theorem adJ (n:Int) (h: ¬(0<=n/\n<=256)):Fn Tryz.prog 76 [ac n] [] [] (.cf [mG,dw 1]) []:=by
 have O:(decide (0<=n)&&decide (n<=256))=false:=by
  rw[Bool.and_eq_false_iff,decide_eq_false_iff_not,decide_eq_false_iff_not];omega
 refine aU [] Tryz.func76 ?_;refine ar (Rg n) ?_;rw[O];exact⟨fun _=>bg,fun E=>absurd E au6⟩
theorem Ku (n:Nat) (h:n<=256):Fn Tryz.prog 76 [ac (n:Int)] [] [1001] (.cf [.one (.ptr 1001 0),dw 0]) [(1001,.aG (rl (List.replicate n cD)))]:=by
 have O:(decide ((0:Int)<=n)&&decide ((n:Int)<=256))=true:=by
  rw[vj,decide_eq_true_iff,decide_eq_true_iff];omega
 have al:((List.replicate n cD).length:Nat)=n:=as4;refine aU [] Tryz.func76 ?_;refine ar (Rg n) ?_;rw[O];refine⟨fun E=>absurd E au6,fun _=>⟨rfl,rfl,?_⟩⟩;refine⟨_,_,_,(ae.aV 10 1001 rfl).trans ((ae.aV 8 1002 rfl).trans (ae.close 1001 (oW (n:Nat) []) (o:=rl (List.replicate n cD)) aA rfl fun _ _ _ _ h=>⟨[],nV.new n,by rw[al];exact h⟩)),rfl,aA,aA,rfl⟩
end
section
abbrev pD (l:List Int):aw:=[(1001,.cells [.own 1002]),(1002,.row 3 ak l)]
def rn (l:List Int):bf:=.iX 1001 (pD l)
theorem adK:(Tryz.prog.info? 3).map (fun i=>(i.zero,i.size,i.bytes))=some (some (.int .i64 0),1,8):=by kernel_rfl
theorem Rp (n:Int) (h: ¬(0<=n/\n<=512)):Fn Tryz.prog 77 [ac n] [] [] (.cf [mG,dw 1]) []:=by
 refine aU [] Tryz.func77 ?_;refine⟨fun E=>?_,fun E=>?_⟩
 .exact bg
 refine⟨fun G=>?_,fun G=>?_⟩
 .exact bg
 .exfalso;simp at E G;omega
theorem FI (n:Int) (av:0<=n) (hn:n<=512):Fn Tryz.prog 77 [ac n] [] [1001] (.cf [.one (.ptr 1001 0),dw 0]) [(1001,.aG (rn (List.replicate n.toNat (0:Int))))]:=by
 obtain⟨c7,oI,oJ,uJ,zJ⟩:=info_parts adK;refine aU [] Tryz.func77 ?_;refine⟨fun E=>?_,fun E=>?_⟩
 .exfalso;simp at E;omega
 refine⟨fun G=>?_,fun G=>?_⟩
 .exfalso;simp at G;omega
 refine⟨_,_,fun N=>adr (d:=11) rfl Tryz.underlying71 oI oJ uJ zJ rfl rfl av au5 N,rfl,?_⟩;exact⟨rfl,_,_,_,(ae.aV 13 1001 rfl).trans ((ae.aV 11 1002 rfl).trans (ae.close 1001 (pD (List.replicate n.toNat (0:Int))) (o:=rn (List.replicate n.toNat (0:Int))) aA rfl fun _ _ _ _ h=>h)),rfl,aA,aA,rfl⟩
theorem adL (l:List Int) (h:Int):Fn Tryz.prog 259 [ap 1001,ac h] (pD l) [] (fK (decide (0<=h)&&decide (h < l.length))) (pD l):=by
 refine aU [] Tryz.func259 ?_;refine⟨fun E=>?_,fun E=>?_⟩
 .refine⟨_,_,_,bp,rfl,?_,aA,rfl⟩;show decide (h < (l.length:Nat))=(decide (0<=h)&&decide (h < (l.length:Nat)));have E:decide (0<=h)=true:=E;rw[E,Bool.true_and]
 .refine⟨_,_,_,bp,rfl,?_,aA,rfl⟩;show false=(decide (0<=h)&&decide (h < (l.length:Nat)));have E:decide (0<=h)=false:=E;rw[E,Bool.false_and]
theorem adM (n:Int) (h:n≠0):Fn Tryz.prog 238 [ac n] [] [] (ac 0) []:=by
 refine aU [] Tryz.func238 ?_;exact⟨fun E=>absurd (gd E) h,fun E=>bg⟩
theorem adN (l:List Int) (h:Nat) (n:Int) (hn:l[h]? =some n) (E:1<=n) (G:n<=65535):Fn Tryz.prog 237 [ap 1001,ac (h:Int),ac (-1),kJ (.cU 238 [])] (pD l) [] (ac 0) (pD (l.set h (n - 1))):=by
 have al:h < l.length:=(ap5.1 hn).1;refine aU [] Tryz.func237 ?_;refine ar (adL l h) ?_;have m1:(0:Int)<=(h:Int):=av3
 have m2:(h:Int) < (l.length:Nat):=av3
 refine⟨fun _=>?_,fun hf=>?_⟩
 .exact⟨⟨m1,m2⟩,n,hn,ar (adM n au5) <| e5 ⟨⟨m1,m2⟩,n,hn,⟨au5,au5⟩,⟨m1,m2⟩,⟨trivial,al⟩,bg⟩⟩
 .exfalso;have hf:(decide ((0:Int)<=h)&&decide ((h:Int) < l.length))=false:=hf;rw[aq1 au5,aq1 au5] at hf
  cases hf
theorem adO (l:List Int) (h:Nat) (n:Int) (hn:l[h]? =some n) (E:1<=n) (G:n<=65535):Fn Tryz.prog 206 [ap 1001,ac (h:Int)] (pD l) [] (.cf [.one (.d (.int .i64 (n - 1))),dw 0]) (pD (l.set h (n - 1))):=by
 have al:h < l.length:=(ap5.1 hn).1;refine aU [] Tryz.func206 ?_;refine ar (adN l h n hn E G) <| df ?_;have oK:h < (l.set h (n - 1)).length:=by rw[List.length_set];exact al
 have m1:(0:Int)<=(h:Int):=av3
 have m2:(h:Int) < ((l.set h (n - 1)).length:Nat):=av3
 have m3:(l.set h (n - 1))[h]? =some (n - 1):=by rw[List.getElem?_set_self al]
 exact⟨⟨m1,m2⟩,n - 1,m3,bg⟩
def d3 (l:List Int):Nat:=(l.filter fun x=>decide (x=0)).length
theorem Kv (l:List Int):d3 l<=l.length:=List.length_filter_le _ _
theorem adP {l:List Int} {k:Nat} (h:k < l.length):d3 (l.take (k+1))=d3 (l.take k)+(if l[k]=0 then 1 else 0):=by
 unfold d3;rw[as1 h,List.filter_append,ap1]
 congr 1
 by_cases e:l[k]=0
 .simp[e]
 .simp[e]
abbrev adQ (l:List Int) (k:Nat):aY:=[(3,ac (d3 (l.take k):Nat)),(9,eO 1002),(10,ac (l.length:Nat)),(11,ac (k:Nat))]
theorem adR (l:List Int) (al:l.length<=1000000):Fn Tryz.prog 180 [ap 1001] (pD l) [] (ac (d3 l:Nat)) (pD l):=by
 refine aU [] Tryz.func180 ?_;refine dQ [] (X:=Nat) (adQ l) (fun _=>pD l) (fun k=>k<=l.length) (fun k=>l.length - k) 0 (ap7 _) ?_ ?_
 .exact ae.sub aA aA
 intro k ab;have aR:=Kv (l.take k);have tg:(l.take k).length<=l.length:=aw5
 refine⟨fun h=>?_,fun h=>?_⟩
 .have h:decide ((k:Int) < (l.length:Nat))=true:=h;have fe:k < l.length:=av4
  have ax:=adP fe;have m1:(0:Int)<=(k:Int):=av3
  have m2:(k:Int) < (l.length:Nat):=av3
  refine⟨⟨m1,m2⟩,l[k],jv (n:=k) fe,fun av=>?_,fun av=>?_⟩
  .have av:=gd av;refine⟨au5,au5,k+1,au5,au5,ae.sub ⟨?_,rfl,rfl,rfl,trivial⟩ aA⟩;show((d3 (l.take k):Nat):Int)+1=(d3 (l.take (k+1)):Nat);rw[ax,if_pos av];omega
  .have av:=mu av;refine⟨au5,k+1,au5,au5,ae.sub ⟨?_,rfl,rfl,rfl,trivial⟩ aA⟩;show((d3 (l.take k):Nat):Int)=(d3 (l.take (k+1)):Nat);rw[ax,if_neg av];omega
 .have h:decide ((k:Int) < (l.length:Nat))=false:=h;have fe:k=l.length:=ax5
  subst fe;refine⟨_,_,_,bp,rfl,?_,aA,rfl⟩;show((d3 (l.take l.length):Nat):Int)=_;rw[aq9]
abbrev adS (l:List Int) (k:Nat):aY:=[(0,ap 1001),(9,ac (l.length:Nat)),(10,ac (k:Nat))]
theorem adT (l:List Int) (al:l.length<=1000000) (h:Nat) (bk:l[h]? =some 0) (hf: ∀j,j < h->l[j]? ≠some 0):Fn Tryz.prog 181 [ap 1001] (pD l) [] (.cf [.one (.d (.int .i64 (h:Int))),dw 0]) (pD (l.set h 1)):=by
 have bw:h < l.length:=(ap5.1 bk).1;refine aU [] Tryz.func181 ?_;refine dQ [] (X:=Nat) (adS l) (fun _=>pD l) (fun k=>k<=h) (fun k=>l.length - k) 0 (ap7 _) ?_ ?_
 .exact ae.sub aA aA
 intro k ab;refine⟨fun _=>?_,fun E=>?_⟩
 .have fe:k < l.length:=av3
  have m1:(0:Int)<=(k:Int):=av3
  have m2:(k:Int) < (l.length:Nat):=av3
  refine⟨⟨m1,m2⟩,l[k],jv (n:=k) fe,fun av=>?_,fun av=>?_⟩
  .have av:=gd av
   have Rq:k=h:=by
    rcases Nat.lt_or_ge k h with aj |aj
    .exact absurd (by rw[oj fe,av]) (hf k aj)
    .omega
   subst Rq;exact⟨⟨m1,m2⟩,⟨trivial,fe⟩,bg⟩
  .have av:=mu av
   have Rq:k≠h:=fun e=>by
    subst e;rw[oj fe] at bk;exact av (by injection bk)
   exact⟨au5,k+1,au5,au5,ae.sub aA aA⟩
 .exfalso;have E:decide ((k:Int) < (l.length:Nat))=false:=E;simp at E;omega
end
section
def zK (l:ay5):aw->Bool
 | []=>true
 |(c,ch)::B=> !l.contains c&&(l.all fun d=> !ch.has d)&&zK l B
theorem FJ {l:ay5}: ∀{B:aw},zK l B=true-> ∀{c ch},ag B c=some ch->c∉l/\ ∀d,d∈l->ch.has d=false
 | [],_,c,ch,H=>by cases H
 |(e,x)::B,h,c,ch,H=>by
  simp only[zK,vj,Bool.not_eq_true'] at h;obtain⟨⟨E,G⟩,aj⟩:=h;rw[ca] at H
  split at H
  .rename_i e;injection H with H
   subst e H;refine⟨fun az=>(by rw[ar6.2 az] at E;cases E),fun d J=>?_⟩;have:=ar4.1 G d J;simpa using this
  .exact FJ aj H
theorem Fn.qj {P:Program} {f:FuncId} {args:List aP} {aJ:aw} {bc:ay5} {res:aP} {aO:aw} (pE:aw) (h:Fn P f args aJ bc res aO) (E:((cl pE).all fun d=> !(cl aJ).contains d&& !(cl aO).contains d)=true) (G:zK bc pE=true):
  Fn P f args (aJ++pE) bc res (aO++pE):=by
 have ci: ∀{c ch},ag pE c=some ch->ag aJ c=none/\ag aO c=none:=fun {c ch} H=>by
  have:=ar4.1 E c (gm.2 ⟨ch,H⟩);simp only[vj,Bool.not_eq_true'] at this;constructor
  .cases e:ag aJ c with
   |none=>rfl
   |some x=>rw[ar6.2 (gm.2 ⟨x,e⟩)] at this;cases this.1
  .cases e:ag aO c with
   |none=>rfl
   |some x=>rw[ar6.2 (gm.2 ⟨x,e⟩)] at this;cases this.2
 have wi: ∀{c ch},ag aJ c=some ch->ag (aJ++pE) c=some ch:=fun {c ch} H=>by rw[iF,H]
 have uK: ∀{c ch},ag pE c=some ch->ag (aJ++pE) c=some ch:=fun {c ch} H=>by rw[iF,(ci H).1];exact H
 have FK: ∀{c ch},ag (aO++pE) c=some ch->ag aO c=some ch\/ag pE c=some ch:=fun {c ch} H=>by
  rw[iF] at H
  cases e:ag aO c with
  |none=>rw[e] at H;exact .inr H
  |some x=>rw[e] at H;exact .inl H
 refine⟨h.1,fun ρ F I w bW b4 cg a3 a4 a5 gy=>(h.2 ρ F I w bW b4 (fun c ch H=>cg c ch (wi H)) (fun c ch H=>a3 c ch (wi H)) (fun c bX ch ch' b H cF=>a4 c bX ch ch' b (wi H) (wi cF)) a5 gy).mono ?_⟩;rintro e w' ⟨x,ρ',F',r1,r2,ga,I',jJ,lC,l6,lD,mH,nQ⟩
 let cJ:Nat->Nat->Prop:=fun c=>if(ag pE c).isSome=true then F c else F' c
 have h2: ∀{c ch},ag pE c=some ch->cJ c=F c:=fun {c ch} H=>if_pos (by rw[H];rfl)
 have jn: ∀{c ch},ag aO c=some ch->cJ c=F' c:=fun {c ch} H=>if_neg (fun ax=>by
  cases e:ag pE c with
  |none=>rw[e] at ax;cases ax
  |some x=>rw[(ci e).2] at H;cases H)
 have FL: ∀{c ch} {b:Nat},ag pE c=some ch->F c b-> ¬ ∃d ch',ag aJ d=some ch'/\F d b:=fun {c ch b} H O=>by
  rintro⟨d,ch',J,dm⟩;refine a4 c d ch ch' b (uK H) (wi J) (fun e=>?_) O dm;subst e;rw[(ci H).1] at J
  cases J
 refine⟨x,ρ',cJ,r1,r2.mono fun b _ ⟨c,ch,H,O⟩=>⟨c,ch,wi H,O⟩,ga,I',jJ,fun b O=>⟨(lC b O).1,(lC b O).2.imp id (Or.imp (fun⟨c,ch,H,O⟩=>⟨c,ch,wi H,O⟩) id)⟩,fun c ch H=>?_,fun c ch H b O=>?_,fun c bX ch ch' b H cF a2 O dm=>?_,nQ⟩
 .rcases FK H with H |H
  .rw[jn H];exact l6 c ch H
  .rw[h2 H];obtain⟨g1,g2⟩:=FJ G H;rw[ga c g1];exact Holds.cj jJ (fun b O=>r2.block b (a3 c ch (uK H) b O).1 (FL H O)) r2.size ch (fun d J=>ga d fun az=>by rw[g2 d az] at J;cases J) (cg c ch (uK H))
 .rcases FK H with H |H
  .rw[jn H] at O;obtain⟨g1,g2,cZ⟩:=lD c ch H b O;exact⟨g1,g2,cZ.imp (fun⟨d,ch',J,O⟩=>⟨d,ch',wi J,O⟩) id⟩
  .rw[h2 H] at O;obtain⟨g1,g2⟩:=a3 c ch (uK H) b O;refine⟨Nat.lt_of_lt_of_le g1 r2.size,fun ba=>?_,.inl ⟨c,ch,uK H,O⟩⟩;rcases(lC b ba).2 with h |h |h
   .exact g2 h
   .exact FL H O h
   .omega
 .rcases FK H with H |H <;>rcases FK cF with cF |cF
  .rw[jn H] at O;rw[jn cF] at dm;exact mH c bX ch ch' b H cF a2 O dm
  .rw[jn H] at O;rw[h2 cF] at dm;rcases(lD c ch H b O).2.2 with h |h
   .exact FL cF dm h
   .have:=(a3 bX ch' (uK cF) b dm).1;omega
  .rw[h2 H] at O;rw[jn cF] at dm;rcases(lD bX ch' cF b dm).2.2 with h |h
   .exact FL H O h
   .have:=(a3 c ch (uK H) b O).1;omega
  .rw[h2 H] at O;rw[h2 cF] at dm;exact a4 c bX ch ch' b (uK H) (uK cF) a2 O dm
theorem Fn.dW {P:Program} {f:FuncId} {args:List aP} {aJ:aw} {bc:ay5} {d:Nat} {e:TypeId} {u:bx} {xs:List (aa u)} {aO:aw} (h:Fn P f args aJ (d::bc) (.c (.one (.own d))) (aO++[(d,.row e u xs)])) (E:(cl aO).contains d=false) (G:zK [d] aO=true):
  Fn P f args aJ bc (.c (.one (.d (.ck u xs)))) aO:=by
 have ci:ag aO d=none:=by
  cases e:ag aO d with
  |none=>rfl
  |some x=>rw[ar6.2 (gm.2 ⟨x,e⟩)] at E;cases E
 have ro:ag (aO++[(d,bb.row e u xs)]) d=some (.row e u xs):=by rw[iF,ci];simp[ag]
 have hs: ∀{c ch},ag aO c=some ch->ag (aO++[(d,bb.row e u xs)]) c=some ch:=fun {c ch} H=>by rw[iF,H]
 have a2: ∀{c ch},ag aO c=some ch->c≠d:=fun {c ch} H e=>by rw[e,ci] at H;cases H
 refine⟨h.1,fun ρ F I w bW b4 cg a3 a4 a5 gy=>(h.2 ρ F I w bW b4 cg a3 a4 a5 gy).mono ?_⟩;rintro ex w' ⟨x,ρ',F',r1,r2,ga,I',jJ,lC,l6,lD,mH,nQ⟩;have fX:=l6 d _ ro;have zk: ∀b,I' b->(fun b=>I' b\/F' d b) b:=fun b O=>.inl O
 have aW:ce I' w' (fun b=>I' b\/F' d b) w':=fun b O=>⟨.inl O,rfl⟩
 have dt:gF (fun b=>I' b\/F' d b) w' (.ck u xs) (ρ' d).ey:=Bl fX zk (fun b O=>.inr O);refine⟨x,c5 ρ' d (ρ d),F',r1,r2,fun c H=>?_,fun b=>I' b\/F' d b,fun b O=>⟨.inl (jJ b O).1,(jJ b O).2⟩,fun b O=>?_,fun c ch H=>?_,fun c ch H b O=>?_,fun c bX ch ch' b H cF=>mH c bX ch ch' b (hs H) (hs cF),?_⟩
 .by_cases e:c=d
  .rw[e,c6]
  .rw[dd _ _ e];exact ga c (fun az=>by rcases ap3.1 az with h |h;exact e h;exact H h)
 .rcases O with O |O
  .exact lC b O
  .obtain⟨g1,g2,cZ⟩:=lD d _ ro b O;exact⟨g1,.inr cZ⟩
 .have sj:=a2 H;obtain⟨_,g2⟩:=FJ G H;rw[dd _ _ sj];exact Holds.cj aW (fun _ _=>rfl) (ap0 _) ch (fun j Z=>dd _ _ fun e=>by rw[e,g2 d (aq2.2 rfl)] at Z;cases Z) (l6 c ch (hs H))
 .obtain⟨g1,g2,cZ⟩:=lD c ch (hs H) b O;refine⟨g1,fun ba=>?_,cZ⟩;rcases ba with ba |ba
  .exact g2 ba
  .exact mH c d ch _ b (hs H) ro (a2 H) O ba
 .have hx:x=(ρ' d).ey:=nQ;rw[hx];exact dt
theorem Fn.adU {P:Program} {f:FuncId} {args:List aP} {aJ:aw} {bc:ay5} {d:Nat} {e:TypeId} {u:bx} {xs:List (aa u)} {res:aP} {aO:aw} (h:Fn P f args aJ (d::bc) res (aO++[(d,.row e u xs)])) (E:(cl aO).contains d=false) (G:zK [d] aO=true) (aj:(res.dW d (.ck u xs)).has d=false):
  Fn P f args aJ bc (res.dW d (.ck u xs)) aO:=by
 have ci:ag aO d=none:=by
  cases e:ag aO d with
  |none=>rfl
  |some x=>rw[ar6.2 (gm.2 ⟨x,e⟩)] at E;cases E
 have ro:ag (aO++[(d,bb.row e u xs)]) d=some (.row e u xs):=by rw[iF,ci];simp[ag]
 have hs: ∀{c ch},ag aO c=some ch->ag (aO++[(d,bb.row e u xs)]) c=some ch:=fun {c ch} H=>by rw[iF,H]
 have a2: ∀{c ch},ag aO c=some ch->c≠d:=fun {c ch} H e=>by rw[e,ci] at H;cases H
 refine⟨h.1,fun ρ F I w bW b4 cg a3 a4 a5 gy=>(h.2 ρ F I w bW b4 cg a3 a4 a5 gy).mono ?_⟩;rintro ex w' ⟨x,ρ',F',r1,r2,ga,I',jJ,lC,l6,lD,mH,nQ⟩;have fX:=l6 d _ ro;have zk: ∀b,I' b->(fun b=>I' b\/F' d b) b:=fun b O=>.inl O
 have aW:ce I' w' (fun b=>I' b\/F' d b) w':=fun b O=>⟨.inl O,rfl⟩
 have dt:gF (fun b=>I' b\/F' d b) w' (.ck u xs) (ρ' d).ey:=Bl fX zk (fun b O=>.inr O);refine⟨x,c5 ρ' d (ρ d),F',r1,r2,fun c H=>?_,fun b=>I' b\/F' d b,fun b O=>⟨.inl (jJ b O).1,(jJ b O).2⟩,fun b O=>?_,fun c ch H=>?_,fun c ch H b O=>?_,fun c bX ch ch' b H cF=>mH c bX ch ch' b (hs H) (hs cF),?_⟩
 .by_cases e:c=d
  .rw[e,c6]
  .rw[dd _ _ e];exact ga c (fun az=>by rcases ap3.1 az with h |h;exact e h;exact H h)
 .rcases O with O |O
  .exact lC b O
  .obtain⟨g1,g2,cZ⟩:=lD d _ ro b O;exact⟨g1,.inr cZ⟩
 .have sj:=a2 H;obtain⟨_,g2⟩:=FJ G H;rw[dd _ _ sj];exact Holds.cj aW (fun _ _=>rfl) (ap0 _) ch (fun j Z=>dd _ _ fun e=>by rw[e,g2 d (aq2.2 rfl)] at Z;cases Z) (l6 c ch (hs H))
 .obtain⟨g1,g2,cZ⟩:=lD c ch (hs H) b O;refine⟨g1,fun ba=>?_,cZ⟩;rcases ba with ba |ba
  .exact g2 ba
  .exact mH c d ch _ b (hs H) ro (a2 H) O ba
 .have ay:cr ρ' (fun b=>I' b\/F' d b) w' (res.dW d (.ck u xs)) x:=cr.dW aW dt res x nQ;exact cr.mono (ce.refl _ _) _ _ (fun c H=>dd _ _ fun e=>by subst e;rw[aj] at H;cases H) ay
theorem Fn.own {P:Program} {f:FuncId} {args:List aP} {aJ:aw} {bc:ay5} {d:Nat} {e:TypeId} {u:bx} {xs:List (aa u)} {res:aP} {aO:aw} (h:Fn P f (args.map (aP.dW d (.ck u xs))) aJ bc res aO) (E:(cl aJ).contains d=false):
  Fn P f args (aJ++[(d,.row e u xs)]) bc res aO:=by
 have ci:ag aJ d=none:=by
  cases e:ag aJ d with
  |none=>rfl
  |some x=>rw[ar6.2 (gm.2 ⟨x,e⟩)] at E;cases E
 have ro:ag (aJ++[(d,bb.row e u xs)]) d=some (.row e u xs):=by rw[iF,ci];simp[ag]
 have hs: ∀{c ch},ag aJ c=some ch->ag (aJ++[(d,bb.row e u xs)]) c=some ch:=fun {c ch} H=>by rw[iF,H]
 have a2: ∀{c ch},ag aJ c=some ch->c≠d:=fun {c ch} H e=>by rw[e,ci] at H;cases H
 refine⟨h.1,fun ρ F I w bW b4 cg a3 a4 a5 gy=>?_⟩;have fX:=cg d _ ro;have aW:ce I w (fun b=>I b\/F d b) w:=fun b O=>⟨.inl O,rfl⟩
 have dt:gF (fun b=>I b\/F d b) w (.ck u xs) (ρ d).ey:=Bl fX (fun b O=>.inl O) (fun b O=>.inr O)
 refine(h.2 ρ F (fun b=>I b\/F d b) w bW (fun b O=>O.elim (b4 b) fun O=>(a3 d _ ro b O).1) (fun c ch H=>Holds.cj aW (fun _ _=>rfl) (ap0 _) ch (fun _ _=>rfl) (cg c ch (hs H)))
  (fun c ch H b O=>⟨(a3 c ch (hs H) b O).1,fun ba=>ba.elim (a3 c ch (hs H) b O).2 fun J=>a4 c d ch _ b (hs H) ro (a2 H) O J⟩) (fun c bX ch ch' b H cF=>a4 c bX ch ch' b (hs H) (hs cF)) (by rw[aq3];exact a5) (fun i v x ay hx=>?_)).mono ?_
 .rw[ar0] at ay;obtain⟨s,ax,rfl⟩:=as0.1 ay;exact cr.dW aW dt s x (gy i s x ax hx)
 .rintro ex w' ⟨x,ρ',F',r1,r2,ga,I',jJ,lC,l6,lD,mH,nQ⟩;refine⟨x,ρ',F',r1,r2.mono fun b _ ⟨c,ch,H,O⟩=>⟨c,ch,hs H,O⟩,ga,I',fun b O=>jJ b (.inl O),fun b O=>⟨(lC b O).1,?_⟩,l6,fun c ch H b O=>?_,mH,nQ⟩
  .rcases(lC b O).2 with h |⟨c,ch,H,O⟩ |h
   .exact h.elim .inl fun h=>.inr (.inl ⟨d,_,ro,h⟩)
   .exact .inr (.inl ⟨c,ch,hs H,O⟩)
   .exact .inr (.inr h)
  .obtain⟨g1,g2,cZ⟩:=lD c ch H b O;exact⟨g1,g2,cZ.imp (fun⟨c,ch,H,O⟩=>⟨c,ch,hs H,O⟩) id⟩
end
end Go.Proofs.YthnboghbhgapcaaGreat
