/-
A part of the proof of this claim: lemmas, with no condition beyond what each says.
-/
import Derived.DeepKeys
import Derived.Laws.MakeOwn
import Derived.Laws.StructEq
import Derived.Test.YtkfbeijmgggkmaaGreatZc9
set_option linter.unusedVariables false
set_option linter.unusedSimpArgs false
set_option maxRecDepth 10000
set_option maxHeartbeats 4000000
namespace Go.Proofs.YtkfbeijmgggkmaaGreat
open Go.RowKit Go.Proofs
section
abbrev tT (fn:FuncId) (tmps:Array Value) (bE:Array Nat) (assign body:Code) (D:Nat) (st:LoopState):Loop:={state:=st,pending:=none,fn:=fn,tmps:=tmps,params:=bE,assign:=assign,body:=body,defers:=D}
def Gr (mN:Nat->bo) (hG:aA1) (lp:Nat->Prop) (sN:World) (l:Nat) (rec:Loop) (c:Nat) (B:ay) (I F:Nat->Prop) (w:World) (p:bo):Prop:=
 cj lp sN I w/\w.heap[l]? =some (.loop rec)/\ ∃(ρ:Nat->bo) (b9:Nat->Nat->Prop),ρ c=p/\(∀d,d∈hG->ρ d=mN d)/\(∀d ch,aj B d=some ch->Holds ρ I (b9 d) w (ρ d) ch)/\
  (∀d cT ch ch' b,aj B d=some ch->aj B cT=some ch'->d≠cT->b9 d b-> ¬b9 cT b)/\(∀d ch,aj B d=some ch-> ¬b9 d l)/\ ∀b,F b↔b=l\/ ∃d ch,aj B d=some ch/\b9 d b
def bg.nX (mN:Nat->bo) (hG:aA1) (lp:Nat->Prop) (sN:World) (l:Nat) (rec:Loop) (c:Nat) (B:ay):bg where
 bn:=Gr mN hG lp sN l rec c B
 ck:=fun I F w I' w' p ⟨av,ap,ρ,b9,E,tF,G,al,BW,aW⟩ U bd aR=>
  ⟨av.trans U,(bd l ((aW l).2 (.inl rfl))).trans ap,ρ,b9,E,tF,fun d ch H=>Holds.ck U (fun b O=>bd b ((aW b).2 (.inr ⟨d,ch,H,O⟩))) aR ch (fun _ _=>rfl) (G d ch H),al,BW,aW⟩
def x7 (l:aA1):List aO->Bool
 | []=>true
 |v::aE=>v.i7 l&&x7 l aE
theorem K3 {l:aA1}: ∀{aE:List aO},x7 l aE=true-> ∀{i:Nat} {v:aO},aE[i]? =some v->v.i7 l=true
 | [],_,i,v,h=>by simp at h
 |x::aE,h,i,v,aA=>by
  simp only[x7,vj] at h
  match i with
  |0=>
   simp only[ar9,aq8] at aA;exact aA▸h.1
  |i+1=>exact K3 h.2 (i:=i) ay1
def CT (l:aA1):aX->Bool
 | []=>true
 |(_,v)::K=>v.i7 l&&CT l K
theorem K4 {l:aA1}: ∀{K:aX},CT l K=true-> ∀s,(dI K s).i7 l=true
 | [],_,s=>rfl
 |(t,v)::K,h,s=>by
  simp only[CT,vj] at h;rw[kp]
  split
  .exact h.1
  .exact K4 h.2 s
section
variable {P:Program} {aU:dl} {N:Nat} {mN:Nat->bo} {hG:aA1} {lp:Nat->Prop} {sN:World} {l:Nat} {rec:Loop} {c:Nat}
theorem oi {c:Nat} {ch:ba}:aj [(c,ch)] c=some ch:=ax6
theorem u3 {c d:Nat} {ch ch':ba} (h:aj [(c,ch)] d=some ch'):d=c/\ch'=ch:=by
 rw[cd] at h
 split at h
 .rename_i e;injection h with h;exact⟨e.symm,h.symm⟩
 .cases h
theorem adI {f:FuncId} {args:List aO} {res:aO} {pX pc:ay} (h:Fn P f args pX [] res pc) (ha:x7 [c] args=true) (aC:res.i7 []=true):
  Fn P f args [(c,.aF (bg.nX mN hG lp sN l rec c pX))] [] res [(c,.aF (bg.nX mN hG lp sN l rec c pc))]:=by
 refine⟨h.1,fun ρ F I w bW a2 c0 bd eG bZ dx=>?_⟩;have hS:Gr mN hG lp sN l rec c pX I (F c) w (ρ c):=c0 c _ oi;obtain⟨av,ap,o8,b9,cC,x8,cF,dD,An,fm⟩:=hS;have mT: ∀b,F c b->b < w.heap.size/\ ¬I b:=fun b O=>bd c _ oi b O
 have lq:l < w.heap.size:=me ap;have x9: ¬ ∃d ch,aj pX d=some ch/\b9 d l:=fun⟨d,ch,H,aY⟩=>An d ch H aY
 refine(h.2 o8 b9 I w bW a2 cF (fun d ch H b O=>mT b ((fm b).2 (.inr ⟨d,ch,H,O⟩))) dD bZ ?_).mono ?_
 .intro i v x aA hx;refine cx.mono (cj.refl _ _) v x (fun j V=>?_) (dx i v x aA hx);have:=aO.kB (K3 ha aA) V;rw[ar5] at this;subst this;exact cC
 .rintro e w' ⟨x,ρ',F',rfl,cE,dr,I',jl,gL,lQ,aq,ip,sF⟩;have f1:w'.heap[l]? =some (.loop rec):=(cE.block l lq x9).trans ap
  have Ao: ¬I' l:=fun aG=>by
   rcases(gL l aG).2 with h |h |h
   .exact(mT l ((fm l).2 (.inl rfl))).2 h
   .exact x9 h
   .omega
  refine⟨x,ρ,fun d=>if d=c then(fun b=>b=l\/ ∃d ch,aj pc d=some ch/\F' d b) else F d,rfl,cE.mono fun b _ ⟨d,ch,H,aY⟩=>⟨c,_,oi,(fm b).2 (.inr ⟨d,ch,H,aY⟩)⟩,fun _ _=>rfl,I',jl,fun b O=>⟨(gL b O).1,?_⟩,?_,?_,?_,?_⟩
  .rcases(gL b O).2 with h |⟨d,ch,H,aY⟩ |h
   .exact .inl h
   .exact .inr (.inl ⟨c,_,oi,(fm b).2 (.inr ⟨d,ch,H,aY⟩)⟩)
   .exact .inr (.inr h)
  .intro d ch H;obtain⟨rfl,rfl⟩:=u3 H;simp only[if_true];refine⟨av.trans jl,f1,ρ',F',(dr _ aw2).trans cC,fun d H=>(dr d aw2).trans (x8 d H),lQ,ip,fun d ch H aY=>?_,fun b=>Iff.rfl⟩;rcases(aq d ch H l aY).2.2 with h |h
   .exact x9 h
   .omega
  .intro d ch H b O;obtain⟨rfl,rfl⟩:=u3 H;simp only[if_true] at O;rcases O with rfl |⟨d,ch,H,O⟩
   .exact⟨me f1,Ao,.inl ⟨_,_,oi,(fm _).2 (.inl rfl)⟩⟩
   .obtain⟨r1,r2,fV⟩:=aq d ch H b O;exact⟨r1,r2,fV.imp (fun⟨d,ch,H,aY⟩=>⟨_,_,oi,(fm b).2 (.inr ⟨d,ch,H,aY⟩)⟩) id⟩
  .intro d cT ch ch' b H dn a6;exact absurd ((u3 H).1.trans (u3 dn).1.symm) a6
  .exact cx.mono (cj.refl _ _) res x (fun j V=>by have:=aO.kB aC V;cases this) sF
def CU:aA1->List aO->aX->aX
 | [],_,K=>K
 |p::pl,aE,K=>match aE with
  | []=>K
  |v::aE=>CU pl aE ((p,v)::K)
theorem RU {ρ:Nat->bo} {I:Nat->Prop} {w:World}: ∀(pl:aA1) (aE:List aO) (bW:List Value) (K:aX) (t:Array Value),bW.length=aE.length->(∀p,p∈pl->p < t.size)->(∀(i:Nat) (v:aO) (x:Value),aE[i]? =some v->bW[i]? =some x->cx ρ I w v x)->
  (∀s,cx ρ I w (dI K s) (t.getD s undef))->(((pl.zip bW).foldl (fun t (p:Nat×Value)=>t.setIfInBounds p.1 p.2) t).size=t.size/\ ∀s,cx ρ I w (dI (CU pl aE K) s) (((pl.zip bW).foldl (fun t (p:Nat×Value)=>t.setIfInBounds p.1 p.2) t).getD s undef))
 | [],aE,bW,K,t,_,_,_,h=>⟨rfl,h⟩
 |p::pl,[],[],K,t,_,_,_,h=>⟨rfl,h⟩
 |p::pl,[],_::_,K,t,ap,_,_,h=>by simp at ap
 |p::pl,_::_,[],K,t,ap,_,_,h=>by simp at ap
 |p::pl,v::aE,x::bW,K,t,ap,ae,aA,h=>by
  have adJ:=ae p (ar4 ..)
  obtain⟨g1,g2⟩:=RU pl aE bW ((p,v)::K) (t.setIfInBounds p x) az8 (fun q aP=>by rw[Array.size_setIfInBounds];exact ae q (aq6 _ aP)) (fun i u y a8 aD=>aA (i+1) u y (by simpa using a8) (by simpa using aD)) (fun s=>by
   rw[kp]
   by_cases e:p=s
   .subst e;rw[if_pos rfl];have:(t.setIfInBounds p x).getD p undef=x:=by simp[adJ]
    rw[this];exact aA 0 v x rfl rfl
   .rw[if_neg e];have:(t.setIfInBounds p x).getD s undef=t.getD s undef:=by simp[Array.getElem?_setIfInBounds_ne e]
    rw[this];exact h s)
  refine⟨?_,g2⟩;rw[List.zip_cons_cons,List.foldl_cons];exact g1.trans (Array.size_setIfInBounds)
theorem Mem.RV {ids:aA1} {C:fi} {B:ay} {ρ:Nat->bo} {F:Nat->Nat->Prop} {w:World} (h:Mem ids C B ρ F w) (bd: ∀b,C.zt b-> ¬C.qn b):cj C.zt C.e' (b5 C B F w) w:=fun b O=>by
 have E:=h.kR.2.1 b (.inl O);refine⟨⟨Nat.lt_of_lt_of_le E h.fr.size,.inl O,fun c ch J hf=>?_⟩,h.fr.block b E (bd b O)⟩;rcases(h.own c ch J b hf).2 with G |G
 .exact bd b O G
 .have:=G.1;omega
theorem adK (bl:eh P aU) {fn:FuncId} {tmps:Array Value} {bE:Array Nat} {pl:aA1} {assign body:Code} {D:Nat} (lM:bE.toList=pl) (hm: ∀p,p∈pl->p < N) (cu:tmps.size=N) (K5:jF P N assign=true) (CR:jF P N body=true)
  {k0:aX} (K6:CT hG k0=true) (J:c∈hG) (hB: ∀s,cx mN lp sN (dI k0 s) (tmps.getD s undef)) (stops:aA1) {aE:List aO} (ry:aE.length=pl.length) (KE:x7 [] aE=true) {pX pc:ay}
  (adL:jA P aU N (0::hG) stops assign (CU pl aE k0) pX (fun e K B=>e= .g'/\jA P aU N (0::hG) stops body K B (fun e K B=>e= .g'/\ab (0::hG) K B [] pc))):
  xU P l aE [(c,.aF (bg.nX mN hG lp sN l (tT fn tmps bE assign body D .ready) c pX))] (fun _:Unit=>ro true) (fun _=>[(c,.aF (bg.nX mN hG lp sN l (tT fn tmps bE assign body D .ready) c pc))]):=by
 intro ρ F I w bW a2 c0 bd eG bZ dx;have hS:Gr mN hG lp sN l (tT fn tmps bE assign body D .ready) c pX I (F c) w (ρ c):=c0 c _ oi;obtain⟨av,ap,o8,b9,cC,x8,cF,dD,An,fm⟩:=hS;have mT: ∀b,F c b->b < w.heap.size/\ ¬I b:=fun b O=>bd c _ oi b O
 have lq:l < w.heap.size:=me ap;have x9: ¬ ∃d ch,aj pX d=some ch/\b9 d l:=fun⟨d,ch,H,aY⟩=>An d ch H aY
 have adM: ¬I l:=(mT l ((fm l).2 (.inl rfl))).2;have x': ∀{d ch b},aj pX d=some ch->b9 d b->F c b:=fun {d ch b} H aY=>(fm b).2 (.inr ⟨d,ch,H,aY⟩)
 have aD:=run_yield (P:=P) (args:=bW.toArray) ap (by rw[List.size_toArray,bZ,ry,<-lM,Array.length_toList]);refine⟨fn,_,assign,body,aD,roundIn_of_wpIn (F:=oX none) trivial ?_⟩
 have adN:((bE.zip bW.toArray).foldl (fun tmps (x:Nat×Value)=>tmps.setIfInBounds x.1 x.2) tmps)=(pl.zip bW).foldl (fun t (p:Nat×Value)=>t.setIfInBounds p.1 p.2) tmps:=by
  rw[<-lM,<-Array.foldl_toList]
  congr 1
  simp
 obtain⟨g1,g2⟩:=RU (ρ:=o8) (I:=I) (w:=w) pl aE bW k0 tmps bZ (fun p ae=>by rw[cu];exact hm p ae) (fun i v x aA hx=>cx.mono (cj.refl _ _) v x (fun j V=>by have:=aO.kB (K3 KE aA) V;cases this) (dx i v x aA hx))
  (fun s=>cx.mono av _ _ (fun j V=>x8 j (aO.kB (K4 K6 s) V)) (hB s))
 let rH:fi:=⟨w,I,fun b=> ∃d ch,aj pX d=some ch/\b9 d b,o8,[]⟩
 have sE:cj I w (b5 rH pX b9 w) w:=fun b O=>⟨⟨a2 b O,.inl O,fun d ch H aY=>(mT b (x' H aY)).2 O⟩,rfl⟩
 have kA:Mem (0::hG) rH pX o8 b9 w:=⟨cP.refl _ _,fun d ch H=>Holds.ck sE (fun _ _=>rfl) (aq4 _) ch (fun _ _=>rfl) (cF d ch H),fun d ch H b O=>⟨(mT b (x' H O)).1,.inl ⟨d,ch,H,O⟩⟩,dD,fun _ _=>rfl,au7,
  fun b O=>O.elim (a2 b) fun⟨d,ch,H,aY⟩=>(mT b (x' H aY)).1,fun D cp=>by cases cp⟩
 have hE:fa N (0::hG) rH (CU pl aE k0) pX ⟨(bE.zip bW.toArray).foldl (fun tmps (x:Nat×Value)=>tmps.setIfInBounds x.1 x.2) tmps,[]⟩ w:=by
  rw[adN];exact⟨g1.trans cu,rfl,o8,b9,kA,fun s=>cx.mono sE _ _ (fun _ _=>rfl) (g2 s)⟩
 refine zU bl (z6 bl) stops assign _ _ _ K5 adL (some l) (fun h=>by simp[ux] at h) rH _ ?_ _ w hE;rintro e Qz jG ds hA ⟨rfl,adO⟩ b0 d0 fR;have hA:ds=[]:=hA (by simp[ux]);subst hA;obtain⟨cM,hM,sI,cz,iY,adP⟩:=fR;have iY:Mem (0::hG) rH jG sI cz d0:=iY;have qm:d0.heap[l]? =some (.loop (tT fn tmps bE assign body D .ready)):=(iY.fr.block l lq x9).trans ap;have adQ:=me qm
 have Ao: ¬b5 rH jG cz d0 l:=fun aG=>by
  rcases aG.2.1 with h |h |h
  .exact adM h
  .exact x9 h
  .have h:w.heap.size<=l:=h.1;omega
 have Gs: ∀d ch,aj jG d=some ch-> ¬cz d l:=fun d ch H hf=>by
  rcases(iY.own d ch H l hf).2 with h |h
  .exact x9 h
  .have h:w.heap.size<=l:=h.1;omega
 refine⟨_,run_beginRound qm rfl,?_⟩;obtain⟨e7,CV⟩: ∃e7,e7=d0.putObj l (.loop {tT fn tmps bE assign body D .ready with state:=.busy}):=⟨_,rfl⟩;rw[<-CV];have CW:e7.heap.size=d0.heap.size:=by rw[CV,World.putObj_size]
 have K7: ∀b,b≠l->e7.heap[b]? =d0.heap[b]? :=fun b O=>by rw[CV];exact World.putObj_heap_other O
 have qq:e7.heap[l]? =some (.loop {tT fn tmps bE assign body D .ready with state:=.busy}):=by rw[CV];exact World.putObj_heap_same adQ
 have K8:e7.os=d0.os/\e7.tape=d0.tape/\e7.output=d0.output:=by rw[CV];exact⟨rfl,rfl,rfl⟩
 let pd:fi:=⟨e7,b5 rH jG cz d0,fun b=> ∃d ch,aj jG d=some ch/\cz d b,sI,[]⟩
 have qt:cj (b5 rH jG cz d0) d0 (b5 pd jG cz e7) e7:=fun b O=>⟨⟨by rw[CW];exact O.1,.inl O,O.2.2⟩,K7 b (fun e=>Ao (e▸O))⟩
 have adR:Mem (0::hG) pd jG sI cz e7:=⟨cP.refl _ _,fun d ch H=>Holds.ck qt (fun b O=>K7 b (fun e=>Gs d ch H (e▸O))) (Nat.le_of_eq CW.symm) ch (fun _ _=>rfl) (iY.holds d ch H),fun d ch H b O=>⟨by rw[CW];exact(iY.own d ch H b O).1,.inl ⟨d,ch,H,O⟩⟩,iY.fj,fun _ _=>rfl,au7,
  fun b O=>by
   show b < e7.heap.size;rw[CW];exact O.elim (fun O=>O.1) fun⟨d,ch,H,aY⟩=>(iY.own d ch H b aY).1,fun D cp=>by cases cp⟩
 refine zU bl (z6 bl) stops body _ _ _ CR adO (some l) (fun h=>by simp[ux] at h) pd _ ?_ b0 e7 ⟨cM,hM,sI,cz,adR,adP.mono qt fun _ _ _=>rfl⟩;rintro e aqj aqk ds hA ⟨rfl,fZ⟩ a3 iy adS;have hA:ds=[]:=hA (by simp[ux]);subst hA;obtain⟨lr,qp,Ae,tU,sO,aql⟩:=fZ N (pd.at []) a3 iy adS;have sO:Mem (0::hG) pd pc Ae tU iy:=sO;have RW:iy.heap[l]? =some (.loop {tT fn tmps bE assign body D .ready with state:=.busy}):=(sO.fr.block l (me qq) (fun⟨d,ch,H,aY⟩=>Gs d ch H aY)).trans qq;have RX:=me RW
 have RY: ¬b5 pd pc tU iy l:=fun aG=>by
  rcases aG.2.1 with h |h |h
  .exact Ao h
  .obtain⟨d,ch,H,aY⟩:=h;exact Gs d ch H aY
  .have h:e7.heap.size<=l:=h.1;omega
 have RZ: ∀d ch,aj pc d=some ch-> ¬tU d l:=fun d ch H hf=>by
  rcases(sO.own d ch H l hf).2 with h |h
  .obtain⟨d,ch,H,aY⟩:=h;exact Gs d ch H aY
  .have h:e7.heap.size<=l:=h.1;omega
 obtain⟨i0,nx⟩: ∃i0,i0=iy.putObj l (.loop (tT fn tmps bE assign body D .ready)):=⟨_,rfl⟩;have dW:(Instr.endRound l none).run P iy= .ok (.bool true) i0:=by rw[nx];exact run_endRound none RW
 refine⟨.bool true,i0,dW,?_⟩;have sP:i0.heap.size=iy.heap.size:=by rw[nx,World.putObj_size]
 have wz: ∀b,b≠l->i0.heap[b]? =iy.heap[b]? :=fun b O=>by rw[nx];exact World.putObj_heap_other O
 have adT:i0.heap[l]? =some (.loop (tT fn tmps bE assign body D .ready)):=by rw[nx];exact World.putObj_heap_same RX
 have ya:i0.os=iy.os/\i0.tape=iy.tape/\i0.output=iy.output:=by rw[nx];exact⟨rfl,rfl,rfl⟩
 have adU:cj I w (b5 rH jG cz d0) d0:=iY.RV fun b O ⟨d,ch,H,aY⟩=>(mT b (x' H aY)).2 O
 have adV:cj (b5 rH jG cz d0) d0 (b5 rH jG cz d0) e7:=fun b O=>⟨O,(qt b O).2⟩
 have adW:cj (b5 rH jG cz d0) e7 (b5 pd pc tU iy) iy:=sO.RV fun b O ⟨d,ch,H,aY⟩=>O.2.2 d ch H aY
 have R0:cj (b5 pd pc tU iy) iy (b5 pd pc tU iy) i0:=fun b O=>⟨O,wz b (fun e=>RY (e▸O))⟩
 have R1:cj I w (b5 pd pc tU iy) i0:=adU.trans (adV.trans (adW.trans R0));have R2:=iY.fr.size;have R2:w.heap.size<=d0.heap.size:=R2;have z23:e7.heap.size<=iy.heap.size:=sO.fr.size
 have fA: ∀{b},(pd.qn b\/pd.e'.heap.size<=b/\b∉pd.ds)->F c b\/w.heap.size<=b:=fun {b} h=>by
  rcases h with⟨d,ch,H,aY⟩ |h
  .rcases(iY.own d ch H b aY).2 with⟨d,ch,H,aY⟩ |h
   .exact .inl (x' H aY)
   .exact .inr h.1
  .have h:e7.heap.size<=b:=h.1;exact .inr aw0
 refine⟨(),.bool true,ρ,fun d=>if d=c then(fun b=>b=l\/ ∃d ch,aj pc d=some ch/\tU d b) else F d,rfl,?_,fun _=>rfl,b5 pd pc tU iy,R1,fun b O=>⟨by rw[sP];exact O.1,?_⟩,?_,?_,?_,rfl⟩
 .have io:cP (fun b=>F c b) w d0:=iY.fr.mono fun b _ ⟨d,ch,H,aY⟩=>x' H aY
  have jB:cP (fun b=>b=l) d0 e7:=⟨K8.1,K8.2.1,K8.2.2,Nat.le_of_eq CW.symm,fun b _ O=>K7 b O⟩;have pL:cP pd.qn e7 iy:=sO.fr;have pM:cP (fun b=>b=l) iy i0:=⟨ya.1,ya.2.1,ya.2.2,Nat.le_of_eq sP.symm,fun b _ O=>wz b O⟩;have dF:F c l:=(fm l).2 (.inl rfl)
  have f:cP (fun b=>F c b) w i0:=((io.trans jB fun b _ (O:b=l)=>by rw[O];exact dF).trans pL fun b O hf=>by
   rcases fA (.inl hf) with h |h
   .exact h
   .omega).trans pM fun b _ (O:b=l)=>by rw[O];exact dF
  exact f.mono fun b _ O=>⟨c,_,oi,O⟩
 .rcases O.2.1 with h |h
  .rcases h.2.1 with h |⟨d,ch,H,aY⟩ |h
   .exact .inl h
   .exact .inr (.inl ⟨c,_,oi,x' H aY⟩)
   .exact .inr (.inr h.1)
  .exact .inr ((fA h).imp (fun h=>⟨c,_,oi,h⟩) id)
 .intro d ch H;obtain⟨rfl,rfl⟩:=u3 H;simp only[if_true];have Z: ∀d,d∈hG->Ae d=o8 d:=fun d H=>(sO.dZ d (aq6 _ H)).trans (iY.dZ d (aq6 _ H))
  exact⟨av.trans R1,adT,Ae,tU,(Z _ J).trans cC,fun d H=>(Z d H).trans (x8 d H),fun d ch H=>Holds.ck R0 (fun b O=>wz b (fun e=>RZ d ch H (e▸O))) (Nat.le_of_eq sP.symm) ch (fun _ _=>rfl) (sO.holds d ch H),sO.fj,RZ,fun b=>Iff.rfl⟩
 .intro d ch H b O;obtain⟨rfl,rfl⟩:=u3 H;simp only[if_true] at O;rcases O with rfl |⟨d,ch,H,O⟩
  .exact⟨by rw[sP];exact RX,RY,.inl ⟨_,_,oi,(fm _).2 (.inl rfl)⟩⟩
  .obtain⟨r1,r2⟩:=sO.own d ch H b O;exact⟨by rw[sP];exact r1,fun aG=>aG.2.2 d ch H O,(fA r2).imp (fun h=>⟨_,_,oi,h⟩) id⟩
 .intro d cT ch ch' b H dn a6;exact absurd ((u3 H).1.trans (u3 dn).1.symm) a6
theorem adX {f:FuncId} {w:World} {cs args:Array Value} (hf:jz P f=true):(invoke (.fn (.func f) cs) args).run P w= .ok (.enter f (args++cs)) w:=by
 unfold jz at hf
 split at hf
 .rename_i fn jk;simp only[Bool.not_eq_true',Bool.or_eq_false_iff,beq_eq_false_iff_ne] at hf;have G: ¬fn.body=none:=fun e=>by rw[e] at hf;simp at hf
  simp[invoke,callFunc,go_sem,jk];rw[if_neg hf.1,if_neg G]
 .cases hf
theorem bk.range (bl:eh P aU) {ids:aA1} (stops:aA1) {s:Nat} {bE:Array Nat} {pl:aA1} {assign body:Code} (lM:bE.toList=pl) (K5:jF P N assign=true) (CR:jF P N body=true) (hm:(pl.all fun p=>Nat.blt p N)=true)
  {f:FuncId} {K9:List kQ} (hf:jz P f=true) (hG:aA1) (K k0:aX) (j4:ay) {X:Type} (hb:X->ay) (c:Nat) (h3 CX:X) (Y:X->List aO->X->Prop)
  (wA:dI K s= .c (.one (.cY f K9))) (K6:zW K k0)
  (Z:(hG.contains c&&CT hG k0&&ids.all hG.contains&& !ux ids)=true) (Fz:((cm (hb h3)).all (fun d=> !(cm j4).contains d)&& !(cm j4).contains c)=true)
  (adY: ∀x aE rI,Y x aE rI->aE.length=pl.length/\x7 [] aE=true/\jA P aU N (0::hG) stops assign (CU pl aE k0) (hb x) (fun e K B=>e= .g'/\jA P aU N (0::hG) stops body K B (fun e K B=>e= .g'/\ab (0::hG) K B [] (hb rI))))
  (adZ: ∀(l:Nat) (f':X->bg),(∀tN args res x rI,Fn P tN args (hb x) [] res (hb rI)->x7 [c] args=true->res.i7 []=true->Fn P tN args [(c,.aF (f' x))] [] res [(c,.aF (f' rI))])->
   (∀x aE rI,Y x aE rI->xU P l aE [(c,.aF (f' x))] (fun _:Unit=>ro true) (fun _=>[(c,.aF (f' rI))]))->
   Fn P f (.c (.one (.bM (.func (.yield l) #[] #[])))::oW K9) (j4++[(c,.aF (f' h3))]) [] (.cb []) [(c,.aF (f' CX))])
  {Q:nY->aX->ay->Prop} (wg:Q .g' k0 (hb CX)):bk P N ids (.rangeFunc (.tmp s) bE assign body) K (j4++hb h3) Q:=by
 intro r aC C il aP a w ax;simp only[vj,Bool.not_eq_true'] at Z Fz;obtain⟨⟨⟨b',fc⟩,ad0⟩,hid⟩:=Z;obtain⟨gb,gU⟩:=Fz;have b':=tP b';have I2: ∀d,d∈ids->d∈hG:=fun d H=>tP (as9.1 ad0 d H)
 have R3:aj j4 c=none:=by
  cases e:aj j4 c with
  |none=>rfl
  |some ch=>have:=at2.2 (gw.2 ⟨ch,e⟩);rw[gU] at this;cases this
 have aC:=aC hid;subst aC;obtain⟨hn,H,ρ,F,ar,au⟩:=ax
 have pY: ∀{d ch},aj (hb h3) d=some ch->aj (j4++hb h3) d=some ch/\aj j4 d=none:=fun {d ch} h=>by
  have Z:=as9.1 gb d (gw.2 ⟨ch,h⟩)
  have hn:aj j4 d=none:=by
   cases e:aj j4 d with
   |none=>rfl
   |some ch'=>rw[at2.2 (gw.2 ⟨ch',e⟩)] at Z;cases Z
  exact⟨by rw[iQ,hn];exact h,hn⟩
 have rJ: ∀{d ch},aj j4 d=some ch->aj (j4++hb h3) d=some ch:=fun {d ch} h=>by rw[iQ,h]
 refine wpIn_rangeFunc fun fn _=>?_
 obtain⟨rec,jZ⟩: ∃rec,rec=tT fn a.tmps bE assign body w.heap.size .ready:=⟨_,rfl⟩;obtain⟨d0,x2⟩: ∃d0,d0=(w.alloc (.deferred (some []))).alloc (.loop rec):=⟨_,rfl⟩;have qA:Below w.heap.size w d0:=by rw[x2];exact((Below.refl _ w).alloc (aq4 _) _).alloc aw2 _
 have aqm:d0.heap.size=w.heap.size+2:=by rw[x2];simp
 have La:d0.heap[w.heap.size+1]? =some (.loop rec):=by rw[x2];have:=World.alloc_heap_new (w.alloc (.deferred (some []))) (.loop rec);rwa[World.size_alloc] at this
 have Lb:d0.heap[w.heap.size]? =some (.deferred (some [])):=by rw[x2];exact(Below.heap_alloc _ _ _ aw2).trans (World.alloc_heap_new w _)
 obtain⟨l,pe⟩: ∃l,l=w.heap.size+1:=⟨_,rfl⟩;rw[<-pe] at La
 let lp:=b5 C (j4++hb h3) F w
 have nw:cj lp w lp d0:=fun b O=>⟨O,qA.block b O.1⟩
 let f':=fun x=>bg.nX ρ hG lp d0 l rec c (hb x)
 have aA:=au s;rw[wA] at aA;obtain⟨cs,ev,xV⟩:=aA;obtain⟨ad1,ad2⟩:=hZ.bW K9 cs xV
 have hB: ∀t,cx ρ lp d0 (dI k0 t) (a.tmps.getD t undef):=fun t=>by
  rcases Kc K6 t with h |h
  .exact cx.mono nw _ _ (fun _ _=>rfl) (wa h (au t))
  .rw[h];trivial
 have jk:=adZ l f' (fun tN args res x rI h ha aC=>adI h ha aC) (fun x aE rI aD=>by
  obtain⟨uT,wi,Co⟩:=adY x aE rI aD;show xU P l aE [(c,.aF (bg.nX ρ hG lp d0 l rec c (hb x)))] (fun _:Unit=>ro true) (fun _=>[(c,.aF (bg.nX ρ hG lp d0 l rec c (hb rI)))]);rw[jZ];exact adK bl lM (fun p ae=>by have:=as9.1 hm p ae;simpa[Nat.blt_eq] using this) hn K5 CR fc b' hB stops uT wi Co)
 refine⟨l,[xo w.heap.size],d0,{target:=.fn (.func f) cs.toArray,args:= #[.func (.yield l) #[] #[]]},d0,f,#[.func (.yield l) #[] #[]]++cs.toArray,d0,?_,?_,fun _ _=>trivial,adX hf,fun h=>absurd h aw2,Qp ?_⟩
 .rw[x2,pe,jZ];exact run_enterLoop_outer _ _ _ _ _
 .have ad3:a.eval (.tmp s)= .func (.func f) #[] cs.toArray:=ev;simp only[resolve,ad3];simp[go_sem]
 have ad4: #[Value.func (.yield l) #[] #[]]++cs.toArray=(Value.func (.yield l) #[] #[]::cs).toArray:=by simp
 rw[ad4];have tR: ∀b,(∃d ch,aj (hb h3) d=some ch/\F d b)->b < w.heap.size:=fun b ⟨d,ch,H,O⟩=>(ar.own d ch (pY H).1 b O).1
 let cz:Nat->Nat->Prop:=fun d=>if d=c then(fun b=>b=l\/ ∃d ch,aj (hb h3) d=some ch/\F d b) else F d
 have iP: ∀{d ch},aj (j4++[(c,ba.aF (f' h3))]) d=some ch->(d=c/\ch= .aF (f' h3))\/(d≠c/\aj j4 d=some ch):=fun {d ch} h=>by
  rw[iQ] at h
  cases e:aj j4 d with
  |some ch'=>
   rw[e] at h;exact .inr ⟨fun Lc=>(by rw[Lc,R3] at e;cases e),h⟩
  |none=>
   rw[e] at h;obtain⟨af,ao⟩:=u3 h;exact .inl ⟨af,ao⟩
 have dF:aj (j4++[(c,ba.aF (f' h3))]) c=some (.aF (f' h3)):=by rw[iQ,R3];exact oi
 have wB:cz c=(fun b=>b=l\/ ∃d ch,aj (hb h3) d=some ch/\F d b):=if_pos rfl;have tV: ∀{d},d≠c->cz d=F d:=fun {d} h=>if_neg h
 have aqn:w.heap.size<=l:=aw8
 refine(jk.2 ρ cz lp d0 _ (fun b O=>by have:=O.1;omega) ?_ ?_ ?_ (by simp[ad1]) ?_).mono ?_
 .intro d ch H;rcases iP H with⟨rfl,rfl⟩ |⟨e,H⟩
  .rw[wB]
   exact⟨cj.refl _ _,La,ρ,F,rfl,fun _ _=>rfl,fun d ch H=>Holds.ck nw (fun b O=>qA.block b (ar.own d ch (pY H).1 b O).1) qA.size ch (fun _ _=>rfl) (ar.holds d ch (pY H).1),fun d cT ch ch' b E G=>ar.fj d cT ch ch' b (pY E).1 (pY G).1,
    fun d ch H O=>by have:=(ar.own d ch (pY H).1 l O).1;omega,fun b=>Iff.rfl⟩
  .rw[tV e];exact Holds.ck nw (fun b O=>qA.block b (ar.own d ch (rJ H) b O).1) qA.size ch (fun _ _=>rfl) (ar.holds d ch (rJ H))
 .intro d ch H b O;rcases iP H with⟨rfl,rfl⟩ |⟨e,H⟩
  .rw[wB] at O;rcases O with rfl |⟨d,ch,H,O⟩
   .exact⟨me La,fun aG=>by have:=aG.1;omega⟩
   .have:=(ar.own d ch (pY H).1 b O).1;exact⟨aw0,fun aG=>aG.2.2 d ch (pY H).1 O⟩
  .rw[tV e] at O;have:=(ar.own d ch (rJ H) b O).1;exact⟨aw0,fun aG=>aG.2.2 d ch (rJ H) O⟩
 .intro d cT ch ch' b H dn a6 O dt
  have key: ∀{d ch b},aj j4 d=some ch->F d b-> ¬(b=l\/ ∃d ch,aj (hb h3) d=some ch/\F d b):=fun {af cJ b1} ce cR hx=>by
   rcases hx with hx |⟨jj,oY,er,eQ⟩
   .have:=(ar.own af cJ (rJ ce) _ cR).1;omega
   .exact ar.fj af jj cJ oY b1 (rJ ce) (pY er).1 (fun e=>by rw[e,(pY er).2] at ce;cases ce) cR eQ
  rcases iP H with⟨e,_⟩ |⟨e,H⟩ <;>rcases iP dn with⟨b6,_⟩ |⟨b6,dn⟩
  .exact a6 (e.trans b6.symm)
  .rw[e,wB] at O;rw[tV b6] at dt;exact key dn dt O
  .rw[tV e] at O;rw[b6,wB] at dt;exact key H O dt
  .rw[tV e] at O;rw[tV b6] at dt;exact ar.fj d cT ch ch' b (rJ H) (rJ dn) a6 O dt
 .intro i v x aA hx
  match i with
  |0=>
   simp only[ar9,aq8] at aA hx;subst aA hx;rfl
  |i+1=>exact cx.mono nw v x (fun _ _=>rfl) (ad2 i v x ay1 az5)
 rintro e e7 ⟨x,ρ',F',rfl,cE,dr,I',jl,gL,lQ,aq,ip,-⟩;have hS:Gr ρ hG lp d0 l rec c (hb CX) I' (F' c) e7 (ρ' c):=lQ c _ oi;obtain⟨av,ap,o8,b9,cC,x8,cF,dD,An,fm⟩:=hS;have lq:=me ap;obtain⟨i0,nx⟩: ∃i0,i0=e7.putObj l (.loop {rec with state:=.exhausted}):=⟨_,rfl⟩
 have dW:(Instr.endLoop l).run P e7= .ok none i0:=by
  have E:=run_endLoop (P:=P) ap (by rw[jZ];simp);have G:rec.pending=none:=by rw[jZ]
  rw[nx,E,G]
 refine⟨none,i0,dW,?_⟩;show il .normal {a with defers:=[xo w.heap.size]++a.defers} i0;have sP:i0.heap.size=e7.heap.size:=by rw[nx,World.putObj_size]
 have wz: ∀b,b≠l->i0.heap[b]? =e7.heap[b]? :=fun b O=>by rw[nx];exact World.putObj_heap_other O
 have ya:i0.os=e7.os/\i0.tape=e7.tape/\i0.output=e7.output:=by rw[nx];exact⟨rfl,rfl,rfl⟩
 have aqo:=cE.size
 have Ld: ∀{b},F' c b->b < e7.heap.size/\ ¬I' b/\(b=l\/(∃d ch,aj (j4++hb h3) d=some ch/\F d b)\/d0.heap.size<=b):=fun {b} O=>by
  obtain⟨r1,r2,fV⟩:=aq c _ oi b O;refine⟨r1,r2,?_⟩;rcases fV with⟨d,ch,H,hf⟩ |fV
  .rcases iP H with⟨rfl,rfl⟩ |⟨e,H⟩
   .rw[wB] at hf;exact hf.imp id fun⟨d,ch,H,hf⟩=>.inl ⟨d,ch,(pY H).1,hf⟩
   .rw[tV e] at hf;exact .inr (.inl ⟨d,ch,rJ H,hf⟩)
  .exact .inr (.inr fV)
 have Ao: ¬I' l:=(Ld ((fm l).2 (.inl rfl))).2.1
 have R4: ∀{b},((∃d ch,aj (j4++hb h3) d=some ch/\F d b)\/d0.heap.size<=b)->(C.qn b\/C.e'.heap.size<=b/\b∉w.heap.size::C.ds):=fun {b} h=>by
  rcases h with⟨d,ch,H,hf⟩ |h
  .obtain⟨r1,r2⟩:=ar.own d ch H b hf;exact r2.imp id fun x=>⟨x.1,fun aw=>(aq7.1 aw).elim (fun e=>by omega) x.2⟩
  .have:=ar.fresh (b:=b) aw0;exact .inr ⟨this.1,fun aw=>(aq7.1 aw).elim (fun e=>by omega) this.2⟩
 have ad5: ∀{b},(lp b\/(∃d ch,aj (j4++hb h3) d=some ch/\F d b)\/d0.heap.size<=b)->(C.zt b\/C.qn b\/C.e'.heap.size<=b/\b∉w.heap.size::C.ds):=fun {b} h=>by
  rcases h with h |h
  .have E:=h.1;exact h.2.1.imp id fun x=>x.imp id fun x=>⟨x.1,fun aw=>(aq7.1 aw).elim (fun e=>by omega) x.2⟩
  .exact .inr (R4 h)
 have CY:cj I' e7 (b5 (C.at (w.heap.size::C.ds)) (hb CX) b9 i0) i0:=fun b O=>by
  have a6:b≠l:=fun e=>Ao (e▸O)
  obtain⟨r1,r2⟩:=gL b O;refine⟨⟨by rw[sP];exact r1,ad5 ?_,fun d ch H aY=>(Ld ((fm b).2 (.inr ⟨d,ch,H,aY⟩))).2.1 O⟩,wz b a6⟩;rcases r2 with r2 |⟨d,ch,H,hf⟩ |r2
  .exact .inl r2
  .rcases iP H with⟨rfl,rfl⟩ |⟨e,H⟩
   .rw[wB] at hf;rcases hf with hf |⟨d,ch,H,hf⟩
    .exact absurd hf a6
    .exact .inr (.inl ⟨d,ch,(pY H).1,hf⟩)
   .rw[tV e] at hf;exact .inr (.inl ⟨d,ch,rJ H,hf⟩)
  .exact .inr (.inr r2)
 refine aP .g' k0 (hb CX) (w.heap.size::C.ds) (fun h=>by rw[hid] at h;cases h) wg _ _ ⟨hn,?_,o8,b9,⟨?_,?_,?_,dD,?_,?_,ar.kR.2.1,?_⟩,?_⟩
 .show[xo w.heap.size]++a.defers=List.map xo (w.heap.size::C.ds);rw[H];rfl
 .refine(ar.fr.trans (S':=fun b=>b=l\/ ∃d ch,aj (j4++hb h3) d=some ch/\F d b) ?_ fun b O h=>?_)
  .have io:cP (fun b=>b=l\/ ∃d ch,aj (j4++hb h3) d=some ch/\F d b) w d0:=cP.oR qA;have pM:cP (fun b=>b=l) e7 i0:=⟨ya.1,ya.2.1,ya.2.2,Nat.le_of_eq sP.symm,fun b _ O=>wz b O⟩;refine(io.trans cE ?_).trans pM fun b _ O=>.inl O
   rintro b _ ⟨d,ch,H,hf⟩;rcases iP H with⟨rfl,rfl⟩ |⟨e,H⟩
   .rw[wB] at hf;exact hf.imp id fun⟨d,ch,H,hf⟩=>⟨d,ch,(pY H).1,hf⟩
   .rw[tV e] at hf;exact .inr ⟨d,ch,rJ H,hf⟩
  .have z0:=ar.fr.size;rcases h with h |⟨d,ch,H,hf⟩
   .omega
   .rcases(ar.own d ch H b hf).2 with h |h
    .exact h
    .have:=h.1;omega
 .exact fun d ch H=>Holds.ck CY (fun b O=>wz b (fun e=>An d ch H (e▸O))) (Nat.le_of_eq sP.symm) ch (fun _ _=>rfl) (cF d ch H)
 .intro d ch H b O;obtain⟨r1,r2,fV⟩:=Ld ((fm b).2 (.inr ⟨d,ch,H,O⟩));have a6:b≠l:=fun e=>An d ch H (e▸O)
  exact⟨by rw[sP];exact r1,R4 (fV.resolve_left a6)⟩
 .exact fun d H=>(x8 d (I2 d H)).trans (ar.dZ d H)
 .exact at0.2 ⟨fun h=>by have:=(ar.kR.2.2 _ h).1;omega,ar.kR.1⟩
 .intro D cp
  have Le:D≠l/\D < d0.heap.size/\d0.heap[D]? =some (.deferred (some []))/\C.e'.heap.size<=D:=by
   rcases aq7.1 cp with rfl |cp
   .exact⟨aw0,aw0,Lb,ar.fr.size⟩
   .obtain⟨r1,r2,fV⟩:=ar.kR.2.2 D cp;exact⟨aw0,aw0,(qA.block D r1).trans r2,fV⟩
  obtain⟨kY,bF,uD,BY⟩:=Le
  have Ap: ¬ ∃d ch,aj (j4++[(c,ba.aF (f' h3))]) d=some ch/\cz d D:=by
   rintro⟨d,ch,H,hf⟩
   have bG: ∃d ch,aj (j4++hb h3) d=some ch/\F d D:=by
    rcases iP H with⟨rfl,rfl⟩ |⟨e,H⟩
    .rw[wB] at hf;rcases hf with hf |⟨d,ch,H,hf⟩
     .exact absurd hf kY
     .exact⟨d,ch,(pY H).1,hf⟩
    .rw[tV e] at hf;exact⟨d,ch,rJ H,hf⟩
   obtain⟨d,ch,H,hf⟩:=bG;obtain⟨r1,r2⟩:=ar.own d ch H D hf;rcases aq7.1 cp with rfl |cp
   .omega
   .rcases r2 with r2 |r2
    .have:=ar.kR.2.1 D (.inr r2);omega
    .exact r2.2 cp
  exact⟨by rw[sP];omega,(wz D kY).trans ((cE.block D bF Ap).trans uD),BY⟩
 .intro t;exact cx.mono (jl.trans CY) _ _ (fun j V=>x8 j (aO.kB (K4 fc t) V)) (hB t)
end
end
section
def Lf:bC->Value
 | .d (.int k n)=>.int k n
 | .d (.bool b)=>.bool b
 | .d (.lit b)=>.bool b
 | .d (.str s)=>.string ⟨List.toArray s⟩
 |_=>.nilFunc
def Aq:bC->Lit
 | .d (.int k n)=>.int k n
 | .d (.bool b)=>.bool b
 | .d (.lit b)=>.bool b
 | .d (.str s)=>.string s
 |_=>.nil
def Lg:bC->Bool
 | .d (.int _ _)=>true
 | .d (.bool _)=>true
 | .d (.lit _)=>true
 | .d (.str _)=>true
 |_=>false
def pf:List bC->List Value
 | []=>[]
 |s::l=>Lf s::pf l
def j5:List bC->List Lit
 | []=>[]
 |s::l=>Aq s::j5 l
def CZ:List bC->Bool
 | []=>true
 |s::l=>Lg s&&CZ l
theorem Lh {ρ:Nat->bo} {I:Nat->Prop} {w:World}: ∀{l:List bC} {aE:List Value},CZ l=true->cc ρ I w l aE->aE=pf l
 | [],aE,_,h=>h
 |s::l,aE,ae,⟨v,r,e,E,G⟩=>by
  simp only[CZ,vj] at ae;have al:=Lh ae.2 G;subst al e
  have:v=Lf s:=by
   cases s with
   |d x=>cases x <;>first |exact E |(simp[Lg] at ae;done)
   |_=>simp[Lg] at ae
  rw[this];rfl
section
variable {P:Program} {aU:dl} {ids:aA1} {K:aX} {B:ay}
theorem Li {o:Oper} {T fQ:TypeId} {x y:Operand} {lx ly:List bC} {m D:Nat} (ag:o.op= .binOp .eql T x y fQ) (aY:P.eqGuardType P.depth T=false) (Z:P.keyTypeAt m T=true) (aw:m<=10000)
  (hx:a7 K x= .c (.agg lx)) (aD:a7 K y= .c (.agg ly)) (hm:(CZ lx&&CZ ly)=true) (ad6:(Value.agg (List.toArray (pf lx))).formed P T=true) (ad7:(Value.agg (List.toArray (pf ly))).formed P T=true)
  (ad8:P.keyLits D T (pf lx)=some (j5 lx)) (ad9:P.keyLits D T (pf ly)=some (j5 ly)) {r:Bool} (aC:r=true↔j5 lx=j5 ly) (N:Nat):bB P N ids o K B (.c (.one (.d (.bool r)))) ⟨[],[],[]⟩:=by
 have m1:x∈o.op.operands:=aw7
 have m2:y∈o.op.operands:=aw7
 simp only[vj] at hm;refine bB.val fun K' B' g1 g2 C ρ F a w ar au=>?_
 obtain⟨aE,af,E⟩:=au.ev ((g1 x m1).trans hx);obtain⟨us,ao,G⟩:=au.ev ((g1 y m2).trans aD);have E:=Lh hm.1 E;have G:=Lh hm.2 G;subst E G;obtain⟨q,aP,rn⟩:=run_equalIn_deep (P:=P) (10000 - m) m T Z w D D (.agg (List.toArray (pf lx))) (.agg (List.toArray (pf ly))) (j5 lx) (j5 ly) ad6 ad7 (by simpa[Value.cells] using ad8) (by simpa[Value.cells] using ad9);rw[show 10000 - m+m=10000 by omega] at aP
 have bq:q=r:=by
  cases q <;>cases r
  .rfl
  .exact absurd (rn.2 (aC.1 rfl)) aw2
  .exact absurd (aC.2 (rn.1 rfl)) aw2
  .rfl
 subst bq;refine⟨.bool q,?_,rfl⟩;simp only[execOp,ag,af,ao,Sem.run_bind,run_eqGuard_agg w .eql T x y _ _ aY,Result.andThen_ok,run_eql_struct,aP,Sem.run_pure]
theorem Lj {o:Oper} {T:TypeId} {x:Operand} {f:Nat} {l:List bC} {fs:Array Field} {jX:Field} {d:TypeDesc} {s:bC} (ag:o.op= .field T x f) (ci:P.underlying T=some (.struct fs)) (uC:fs[f]? =some jX) (H:P.underlying jX.type=some d) (ga:d.isRow=false)
  (hx:a7 K x= .c (.agg l)) (ax:l[jX.offset]? =some s) (N:Nat):bB P N ids o K B (.c (.one s)) ⟨[],[],[]⟩:=by
 have m1:x∈o.op.operands:=aw7
 refine bB.val fun K' B' g1 g2 C ρ F a w ar au=>?_
 obtain⟨aE,af,E⟩:=au.ev ((g1 x m1).trans hx);obtain⟨v,aA,dx⟩:=cc.get _ _ E jX.offset s ax;refine⟨v,?_,dx⟩;have Lk:(Go.isAgg jX.type).run P w= .ok false w:=by cases d <;>first |(simp[TypeDesc.isRow] at ga;done) |simp[Go.isAgg,run_underlying H]
 have hD:(List.toArray aE)[jX.offset]? =some v:=ay1
 simp only[execOp,ag,af,Instr.field,Sem.run_bind,run_underlying ci,Result.andThen_ok,uC,asAgg,Sem.run_pure,part,Lk,Bool.false_eq_true,if_false,hD]
theorem Ll {n:Nat} {u:bA} (g:List (aa u)) (i q:Nat) (aP:q < aS u):fM (.arr n u) g (i*aS u+q)=fM u (List.getD g i (cL u)) q:=by
 show fM u (List.getD g ((i*aS u+q)/aS u) (cL u)) ((i*aS u+q) % aS u)=_;rw[show(i*aS u+q)/aS u=i by rw[Nat.mul_comm,Nat.mul_add_div aw0,Nat.div_eq_of_lt aP,Nat.add_zero],show(i*aS u+q) % aS u=q by rw[Nat.mul_comm,Nat.mul_add_mod,Nat.mod_eq_of_lt aP]]
theorem ad' {o:Oper} {T:TypeId} {x i:Operand} {n e:Nat} {de:TypeInfo} {d:TypeDesc} {u:bA} {g:List (aa u)} {j:Int} (ag:o.op= .index T x i) (ci:P.underlying T=some (.array n e)) (U:P.underlying e=some d) (ga:d.isRow=true) (aG:P.info? e=some de) (aR:de.size=aS u)
  (hx:a7 K x= .c (.agg (gr (.arr n u) g 0 (n*aS u)))) (V:a7 K i= .c (.one (.d (.int .i64 j)))) (av:0<=j) (E:j < n) (N:Nat):bB P N ids o K B (.c (.agg (gr u (List.getD g j.toNat (cL u)) 0 (aS u)))) ⟨[],[],[]⟩:=by
 have m1:x∈o.op.operands:=aw7
 have m2:i∈o.op.operands:=aw7
 refine bB.val fun K' B' g1 g2 C ρ F a w ar au=>?_
 obtain⟨aE,af,H⟩:=au.ev ((g1 x m1).trans hx);have ao:=au.int ((g1 i m2).trans V);have bZ:aE.length=n*aS u:=(cc.length _ _ H).trans (tC (.arr n u) g _ _);have Lk:(Go.isAgg e).run P w= .ok true w:=by cases d <;>first |(simp[TypeDesc.isRow] at ga;done) |simp[Go.isAgg,run_underlying U]
 have cu:(sizeOf e).run P w= .ok (aS u) w:=by simp[sizeOf,typeInfo,aG,aR]
 have fZ:j.toNat*aS u+aS u<=n*aS u:=by
  have:=Nat.mul_le_mul_right (aS u) (show j.toNat+1<=n by omega);rw[Nat.succ_mul] at this;exact this
 refine⟨.agg ((List.toArray aE).extract (j.toNat*aS u) (j.toNat*aS u+aS u)),?_,(aE.drop (j.toNat*aS u)).take (aS u),by simp[List.extract],?_⟩
 .simp[execOp,ag,af,ao,Instr.index,asIntOf,run_underlying ci,av,E,cu,part,Lk]
 .have key: ∀(m hc:Nat),hc+m<=aS u->cc ρ (b5 C B' F w) w (gr u (List.getD g j.toNat (cL u)) hc m) ((aE.drop (j.toNat*aS u+hc)).take m):=fun m=>by
   induction m with
   |zero=>intro hc _;simp[gr,cc]
   |succ m bu=>
    intro hc aw;have bx:j.toNat*aS u+hc < n*aS u:=aw8
    obtain⟨v,aA,tI⟩:=cc.get _ _ H _ _ (zL (.arr n u) g (n*aS u) 0 (j.toNat*aS u+hc) bx)
    have C0:aE.drop (j.toNat*aS u+hc)=v::aE.drop (j.toNat*aS u+(hc+1)):=by
     obtain⟨ap,o0⟩:=ar1.1 aA;rw[List.drop_eq_getElem_cons ap,o0,Nat.add_assoc]
    rw[C0,List.take_succ_cons];refine⟨v,_,rfl,?_,bu (hc+1) aw0⟩
    have J:fM (.arr n u) g (0+(j.toNat*aS u+hc))=fM u (List.getD g j.toNat (cL u)) hc:=by
     rw[Nat.zero_add];exact Ll g _ _ aw0
    rw[J] at tI;exact tI
  exact key (aS u) 0 aw0
theorem ab.aea (c:Nat) {u:bA} {x:aa u} (hw:oS u x) (J:aj B c=some (.cells (gr u x 0 (aS u)))):ab ids K B K ((c,.val u x)::B):=by
 rintro N C a w ⟨hn,H,ρ,F,ar,au⟩;obtain⟨bd,aE,T,O,dx⟩:=ar.holds c _ J;obtain⟨bP,aZ⟩:=ar.h0 (w':=w) (ch:=.val u x) J (cP.refl _ _) fun I a2=>⟨bd,aE,T,O,by rw[cc.length _ _ dx,tC],BV hw (cc.mono (ρ':=ρ) a2 _ _ (fun _ _=>rfl) dx)⟩
 exact⟨hn,H,ρ,F,bP,au.mono aZ fun _ _ _=>rfl⟩
theorem aeb {o:Oper} {T:TypeId} {x i:Operand} {n e c:Nat} {de:TypeInfo} {s:Nat} {j:Int} (ag:o.op= .indexAddr T x i) (ci:P.underlying T=some (.array n e)) (aG:P.info? e=some de) (aR:de.size=s)
  (hx:a7 K x= .c (.one (.ptr c 0))) (V:a7 K i= .c (.one (.d (.int .i64 j)))) (av:0<=j) (E:j < n) (N:Nat):bB P N ids o K B (.c (.one (.gj c s j.toNat 0))) ⟨[],[],[]⟩:=by
 have m1:x∈o.op.operands:=aw7
 have m2:i∈o.op.operands:=aw7
 refine bB.val fun K' B' g1 g2 C ρ F a w ar au=>?_
 have af:=au.ptr ((g1 x m1).trans hx);have ao:=au.int ((g1 i m2).trans V);have cu:(sizeOf e).run P w= .ok s w:=by simp[sizeOf,typeInfo,aG,aR]
 refine⟨.pointer (some ⟨(ρ c).bh,j.toNat*s,none⟩),?_,rfl⟩;simp[execOp,ag,af,ao,Instr.indexAt,asIntOf,run_underlying ci,av,E,cu,Instr.sureAddr,qk]
theorem aec {I:Nat->Prop} {w:World} {n:Nat} {u:bA} {g:List (aa u)} {c:Nat->Option Value} (H:cq I w (.arr n u) g c) {y:aa u} {j:Nat} {cs:List Value} (ap:cs.length=aS u) (aD:cq I w u y (fun i=>cs[i]?)) (V:j < n):
  cq I w (.arr n u) (g.set j y) (fun i=>if j*aS u<=i/\i < j*aS u+aS u then cs[i - j*aS u]? else c i):=by
 obtain⟨E,G⟩:=H;refine⟨by rw[List.length_set];exact E,fun i aB aR=>?_⟩;unfold fz at aR;rw[List.getElem?_set] at aR
 split at aR
 .rename_i e;subst e
  split at aR
  .injection aR with aR
   subst aR;refine cq.mono (cj.refl _ _) u y _ _ (fun q v aA=>?_) aD;have aP:q < aS u:=by rw[<-ap];exact(ar1.1 aA).1
   simp only;rw[if_pos ⟨aw0,aw0⟩,show j*aS u+q - j*aS u=q by omega];exact aA
  .cases aR
 .rename_i a6;have ny:=G i aB aR;rcases Nat.eq_zero_or_pos (aS u) with av |av
  .refine cq.mono (cj.refl _ _) u aB _ _ (fun q v aA=>?_) ny;simp only;rw[if_neg aw0];exact aA
  .refine cq.mk u aB _ (cq.wf u aB _ ny) fun q aP=>?_
   obtain⟨v,aA,tI⟩:=cq.cell u aB _ q ny aP;refine⟨v,?_,tI⟩;simp only;rw[if_neg ?_]
   .exact aA
   .rintro⟨b0,ca⟩;rcases Nat.lt_or_gt_of_ne a6 with bx |uF
    .have:=Nat.mul_le_mul_right (aS u) (show j+1<=i by omega);rw[Nat.succ_mul] at this;omega
    .have:=Nat.mul_le_mul_right (aS u) (show i+1<=j by omega);rw[Nat.succ_mul] at this;omega
theorem aed {o:Oper} {T:TypeId} {x v:Operand} {c n j:Nat} {u:bA} {g:List (aa u)} {y:aa u} {de:TypeInfo} (ag:o.op= .store T x v) (aG:P.info? T=some de) (aR:de.size=aS u) (hx:a7 K x= .c (.one (.gj c (aS u) j 0))) (V:j < n)
  (J:aj B c=some (.val (.arr n u) g)) (aA:a7 K v= .c (.agg (gr u y 0 (aS u)))) (hw:oS u y) (N:Nat):bB P N ids o K B .undef ⟨[c],[],[(c,some (.val (.arr n u) (g.set j y)))]⟩:=by
 have m1:x∈o.op.operands:=aw7
 have m2:v∈o.op.operands:=aw7
 refine bB.h0 J fun K' B' g1 C ρ F a w ar au f1=>?_
 obtain⟨bd,aE,e3,O,bZ,dx⟩:=ar.holds c _ f1;have af:=au.gj ((g1 x m1).trans hx);obtain⟨us,ao,G⟩:=au.ev ((g1 v m2).trans aA);have Lm:us.length=aS u:=by rw[cc.length _ _ G,tC]
 have R5:=BV hw G
 have lg:j*aS u+us.length<=aE.length:=by
  have:=Nat.mul_le_mul_right (aS u) (show j+1<=n by omega);rw[Nat.succ_mul] at this;rw[bZ,Lm];exact this
 have ss: ∀aB,aB∈us->aB.oneCell'=true:=fun aB aR=>by
  obtain⟨q,aP,rfl⟩:=List.getElem_of_mem aR;obtain⟨z',pP,tu⟩:=cq.one u y _ R5 q aw0;rw[oj aP] at pP;injection pP with pP
  rw[pP];exact tu
 have dW:=BU (P:=P) (o:=o) (ev:=a.eval) (w:=w) (us:=us) ag (by rw[af,Nat.add_zero]) (by rw[ao];rfl) aG (aR.trans Lm.symm) O lg ss;have gZ:(w.setRow (ρ c).bh (List.toArray (aE.take (j*aS u)++us++aE.drop (j*aS u+us.length)))).heap[(ρ c).bh]? =some (.cells (List.toArray (aE.take (j*aS u)++us++aE.drop (j*aS u+us.length))) e3 (0,0)):=setRow_heap w _ _ _ e3 _ O;refine⟨_,dW,⟨rfl,rfl,rfl,by simp[World.setRow],fun k _ Z=>setRow_other w _ k _ (fun e=>Z ((bd k).2 e))⟩,fun I aZ=>⟨bd,_,e3,gZ,?_,?_⟩⟩
 .rw[aq5,aq5,ar3,au3];omega
 .refine cq.mk (.arr n u) (g.set j y) _ ?_ ?_
  .have R6:=cq.wf (.arr n u) g _ dx;refine⟨by rw[List.length_set];exact R6.1,fun aB aR=>?_⟩;rcases List.mem_or_eq_of_mem_set aR with aR |rfl
   .exact R6.2 aB aR
   .exact hw
  .intro q aP;have o1:=aec dx (y:=y) (j:=j) Lm R5 V;obtain⟨aB,aR,zx⟩:=cq.cell (.arr n u) _ _ q o1 aP;refine⟨aB,?_,gP.mono aZ _ _ zx⟩;rw[<-aR];have F7:q < aE.length:=by rw[bZ];exact aP
   split
   .rename_i eD;rw[au2,at4 ax7,ar3,as8 aw0]
    congr 1
    omega
   .rename_i n4;rcases Nat.lt_or_ge q (j*aS u) with bx |vQ
    .rw[au2,as8 ax7,List.getElem?_take,if_pos bx]
    .have:j*aS u+aS u<=q:=by
      rcases Nat.lt_or_ge q (j*aS u+aS u) with h |h
      .exact absurd ⟨vQ,h⟩ n4
      .exact h
     rw[at4 (by rw[aq5,ar3];omega),aq5,ar3,List.getElem?_drop]
     congr 1
     omega
theorem R7 {o:Oper} {T:TypeId} {x:Operand} {c:Nat} {u:bA} {y:aa u} {de:TypeInfo} {d:TypeDesc} (ag:o.op= .load T x) (ci:P.underlying T=some d) (ga:d.isRow=true) (aG:P.info? T=some de) (aR:de.size=aS u) (hx:a7 K x= .c (.one (.ptr c 0)))
  (J:aj B c=some (.val u y)) (N:Nat):bB P N ids o K B (.c (.agg (gr u y 0 (aS u)))) ⟨[c],[],[]⟩:=by
 have m1:x∈o.op.operands:=aw7
 refine bB.val fun K' B' g1 g2 C ρ F a w ar au=>?_
 obtain⟨bd,aE,e3,O,bZ,dx⟩:=ar.holds c _ ((g2 c aw2).trans J);have af:=au.ptr ((g1 x m1).trans hx);obtain⟨us,E,G⟩:=Fg (ρ:=ρ) dx (aS u) 0 aw0;refine⟨_,Fe (cs:=us) ag af ci ga aG (by rw[cc.length _ _ E,tC];exact aR) (fun j v V=>?_),us,rfl,E⟩;have:=G j v V;exact oZ O this
theorem aee {aU:dl} (bl:eh P aU) {o:Oper} {T n e:Nat} {ti:b8} (ag:o.op= .build T #[]) (cn:aU.find T=some ti) (ci:P.underlying T=some (.array n e)) {C1:TypeInfo} (aef:P.info? e=some C1) (ga:ti.row=true) (N:Nat):bB P N ids o K B (.c (.agg ti.zero)) ⟨[],[],[]⟩:=by
 refine bB.val fun K' B' g1 g2 C ρ F a w ar au=>?_
 obtain⟨i,d,bz⟩:=bl.at_ cn;obtain⟨aB,aR,mR⟩:=bz.zero;obtain⟨ky,rv⟩:=vY (ρ:=ρ) (I:=b5 C B' F w) (w:=w) _ _ mR;refine⟨.agg aB.cells,?_,aB.cells.toList,aw2,ky⟩;simp[execOp,ag,Instr.build,zeroValue,typeInfo,bz.jW,aR,run_underlying ci,sizeOf,aef,Instr.fill]
theorem aeg {o:Oper} {T e d:Nat} {x y:Operand} {de:TypeInfo} {n:Int} (ag:o.op= .makeSlice T x y) (ci:P.underlying T=some (.slice e)) (aG:P.info? e=some de) (aR:de.zero=some (.int .i64 0)) (ax:de.size=1) (O:de.bytes=8)
  (hx:a7 K x= .c (.one (.d (.int .i64 n)))) (aD:a7 K y= .c (.one (.d (.int .i64 n)))) (av:0<=n) (E:n<=1000000) (N:Nat):bB P N ids o K B (.c (.one (.own d))) ⟨[],[d],[(d,some (.row e (.int .i64) (List.replicate n.toNat (0:Int))))]⟩:=by
 have m1:x∈o.op.operands:=aw7
 have m2:y∈o.op.operands:=aw7
 refine bB.make (fun d h=>BZ h) fun K' B' g1 g2 C ρ F a w ar au hn=>?_
 have dM:=au.int ((g1 x m1).trans hx);have ed:=au.int ((g1 y m2).trans aD);have dW:=run_make (P:=P) w T e de _ ci aG aR .i64 .i64 n n av (Int.le_refl _) (by rw[O];omega) aw0
 have xm:madeCells (Value.int .i64 0).cells (n.toNat*de.size)=(List.replicate n.toNat (Value.int .i64 0)).toArray:=by
  rw[ax];simp[madeCells,Value.cells];apply Array.ext
  .simp
  .intro i E G;simp[Nat.mod_one]
 rw[xm] at dW;refine⟨.slice (some ⟨w.heap.size,0,none⟩) n.toNat n.toNat,w.alloc (.cells (List.replicate n.toNat (.int .i64 0)).toArray e),⟨w.heap.size,some ⟨w.heap.size,0,none⟩,n.toNat,n.toNat⟩,fun b=>b=w.heap.size,?_,ts w _,fun b O=>?_,fun I aZ a2=>⟨⟨?_,?_,List.replicate n.toNat (.int .i64 0),?_,?_⟩,?_⟩⟩
 .simp only[execOp,ag,Sem.run_bind,dM,ed,dW,Result.andThen_ok,Sem.run_pure]
 .subst O;simp
 .intro b;simp[bo.eK,Value.ownBlock,eq_comm]
 .intro b O;simp[bo.eK,Value.ownBlock] at O;exact O.symm
 .have:=Fl w e 1 n.toNat (List.replicate n.toNat (.int .i64 0)) aw2 ay4;have af:List.length (α:=aa (.int .i64)) (List.replicate n.toNat (0:Int))=n.toNat:=at1;rw[af];exact this
 .intro i aB aR;obtain⟨aG,pP⟩:=ar1.1 aR;have tH:aB=(0:Int):=by rw[<-pP];exact List.getElem_replicate ..
  subst tH
  have aG:i < n.toNat:=by
   have E:i < List.length (α:=Int) (List.replicate n.toNat (0:Int)):=aG;rw[at1] at E;exact E
  show(List.replicate n.toNat (Value.int .i64 0))[i*1+0]? =some (.int .i64 0);simp[aG]
 .simp only[cx,gI,d1,dd];rfl
theorem R8 (w:World) {T:TypeId} {bE jm:Array TypeId} {uz:Bool} (ci:P.underlying T=some (.func bE jm uz)) (f:Go.Fn) (a b:Array Value):(binOp .eql T (.func f a b) .nilFunc).run P w= .ok (.bool false) w/\(binOp .neq T (.func f a b) .nilFunc).run P w= .ok (.bool true) w:=by
 have av: ∀d,(Op.equalIn (d+1) T (.func f a b) .nilFunc).run P w= .ok false w:=fun d=>by simp[Op.equalIn,run_underlying ci]
 have h:(Op.equalIn 10000 T (.func f a b) .nilFunc).run P w= .ok false w:=av 9999;constructor
 .simp only[binOp];simp[Op.equal,Op.maxDepth,h]
 .simp only[binOp];simp[Op.equal,Op.maxDepth,h]
theorem aeh {o:Oper} {T fQ:TypeId} {x:Operand} {op:BinOp} {y:Nat×aA1} {b:Bool} {bE jm:Array TypeId} {uz:Bool} (we:(op= .eql/\b=false)\/(op= .neq/\b=true)) (ag:o.op= .binOp op T x (.const .nilFunc) fQ) (ci:P.underlying T=some (.func bE jm uz))
  (hx:a7 K x= .c (.one (.d (.fn y)))) (N:Nat):bB P N ids o K B (.c (.one (.d (.lit b)))) ⟨[],[],[]⟩:=by
 have m1:x∈o.op.operands:=aw7
 refine bB.val fun K' B' g1 g2 C ρ F a w ar au=>?_
 have af:a.eval x=mL y:=au.ev ((g1 x m1).trans hx);refine⟨.bool b,?_,rfl⟩;have ao:a.eval (.const .nilFunc)= .nilFunc:=rfl;rcases we with⟨rfl,rfl⟩ |⟨rfl,rfl⟩
 .have h:=(R8 (P:=P) w ci (.func y.1) #[] (List.toArray (rk y.2))).1;simp[execOp,ag,af,ao,eqGuard,mL,h]
 .have h:=(R8 (P:=P) w ci (.func y.1) #[] (List.toArray (rk y.2))).2;simp[execOp,ag,af,ao,eqGuard,mL,h]
theorem R9 (w:World) {T:TypeId} {bE jm:Array TypeId} {uz:Bool} (ci:P.underlying T=some (.func bE jm uz)):(binOp .eql T .nilFunc .nilFunc).run P w= .ok (.bool true) w/\(binOp .neq T .nilFunc .nilFunc).run P w= .ok (.bool false) w:=by
 have av: ∀d,(Op.equalIn (d+1) T .nilFunc .nilFunc).run P w= .ok true w:=fun d=>by simp[Op.equalIn,run_underlying ci]
 have h:(Op.equalIn 10000 T .nilFunc .nilFunc).run P w= .ok true w:=av 9999;constructor
 .simp only[binOp];simp[Op.equal,Op.maxDepth,h]
 .simp only[binOp];simp[Op.equal,Op.maxDepth,h]
theorem aei {o:Oper} {T fQ:TypeId} {x:Operand} {op:BinOp} {b:Bool} {bE jm:Array TypeId} {uz:Bool} (we:(op= .eql/\b=true)\/(op= .neq/\b=false)) (ag:o.op= .binOp op T x (.const .nilFunc) fQ) (ci:P.underlying T=some (.func bE jm uz))
  (hx:a7 K x= .c (.one (.bM .nilFunc))) (N:Nat):bB P N ids o K B (.c (.one (.d (.lit b)))) ⟨[],[],[]⟩:=by
 have m1:x∈o.op.operands:=aw7
 refine bB.val fun K' B' g1 g2 C ρ F a w ar au=>?_
 have af:=au.bM ((g1 x m1).trans hx);refine⟨.bool b,?_,rfl⟩;have ao:a.eval (.const .nilFunc)= .nilFunc:=rfl;rcases we with⟨rfl,rfl⟩ |⟨rfl,rfl⟩
 .have h:=(R9 (P:=P) w ci).1;simp[execOp,ag,af,ao,eqGuard,h]
 .have h:=(R9 (P:=P) w ci).2;simp[execOp,ag,af,ao,eqGuard,h]
end
end
section
abbrev tW:bA:=.bK (.int .i64) (.bK (.int .i64) .bool)
abbrev fI:bA:=.arr 16 tW
abbrev fh:=Int×Int×Bool
abbrev qD (s:fh):List bC:=[.d (.int .i64 s.1),.d (.int .i64 s.2.1),.d (.bool s.2.2)]
abbrev pZ (s:fh):dQ:=.agg (qD s)
abbrev cy:fh:=(0,0,false)
def tX (s:fh):Prop:=(-1000000<=s.1/\s.1<=1000000)/\ -1000000<=s.2.1/\s.2.1<=1000000
def qE:List fh:=List.replicate 16 cy
abbrev pg (n:Int) (es:List (aa ai×aa fI)):ay:=[(1001,.cells [.d (.int .i64 n),.mp 1002]),(1002,.map ai fI es)]
def hT (es:List (aa ai×aa fI)) (k:Int):List fh:=(bY (aH:=ai) (aJ:=fI) es k).getD qE
structure ol (t:List fh) (es:List (aa ai×aa fI)):Prop where
 gF:fb es
 wf: ∀p,p∈es->List.length (α:=fh) p.2=16
 ok: ∀k i,tX ((hT es k).getD i cy)
 at_: ∀c (h:c < t.length),(hT es ((c/16:Nat):Int)).getD (c % 16) cy=t[c]
theorem ol.len {t:List fh} {es:List (aa ai×aa fI)} (h:ol t es) (k:Int):(hT es k).length=16:=by
 unfold hT
 cases e:bY (aH:=ai) (aJ:=fI) es k with
 |none=>rfl
 |some g=>exact h.wf _ (Ry rF e)
theorem aej (es:List (aa ai×aa fI)) (k:Int) (g:List fh):hT (dw (aH:=ai) (aJ:=fI) es k g) k=g/\ ∀j,j≠k->hT (dw (aH:=ai) (aJ:=fI) es k g) j=hT es j:=by
 obtain⟨E,G⟩:=Ah (aH:=ai) (aJ:=fI) rF k g es;refine⟨by unfold hT;rw[E];rfl,fun j V=>?_⟩;unfold hT;rw[G j V]
theorem aek {es:List (aa ai×aa fI)} (hn:fb es) (k:Int):hT (gR (aH:=ai) (aJ:=fI) es k) k=qE/\ ∀j,j≠k->hT (gR (aH:=ai) (aJ:=fI) es k) j=hT es j:=by
 obtain⟨E,G⟩:=CH (aH:=ai) (aJ:=fI) rF k es hn;refine⟨by unfold hT;rw[E];rfl,fun j V=>?_⟩;unfold hT;rw[G j V]
def rK (es:List (aa ai×aa fI)) (c:Nat) (s:fh):List (aa ai×aa fI):=
 if(hT es ((c/16:Nat):Int)).set (c % 16) s=qE then gR (aH:=ai) (aJ:=fI) es ((c/16:Nat):Int) else dw (aH:=ai) (aJ:=fI) es ((c/16:Nat):Int) ((hT es ((c/16:Nat):Int)).set (c % 16) s)
theorem ael {t:List fh} {es:List (aa ai×aa fI)} (h:ol t es) (c:Nat) (s:fh):hT (rK es c s) ((c/16:Nat):Int)=(hT es ((c/16:Nat):Int)).set (c % 16) s/\ ∀j,j≠((c/16:Nat):Int)->hT (rK es c s) j=hT es j:=by
 unfold rK
 split
 .rename_i e;obtain⟨E,G⟩:=aek h.gF ((c/16:Nat):Int);exact⟨E.trans e.symm,G⟩
 .exact aej es _ _
theorem ol.set {t:List fh} {es:List (aa ai×aa fI)} (h:ol t es) (c:Nat) (s:fh) (ax:tX s):ol (t.set c s) (rK es c s):=by
 obtain⟨g1,g2⟩:=ael h c s;refine⟨?_,?_,fun k i=>?_,fun d H=>?_⟩
 .unfold rK
  split
  .exact fb.lU h.gF
  .exact fb.put rF h.gF
 .intro p ae;unfold rK at ae
  split at ae
  .exact h.wf p (Ai ae)
  .rcases KR ae with rfl |ae
   .show List.length (α:=fh) ((hT es ((c/16:Nat):Int)).set (c % 16) s)=16;rw[List.length_set];exact h.len _
   .exact h.wf p ae
 .by_cases e:k=((c/16:Nat):Int)
  .rw[e,g1,ar2,List.getElem?_set]
   split
   .split
    .exact ax
    .exact⟨aw1,aw1⟩
   .rw[<-ar2];exact h.ok _ _
  .rw[g2 _ e];exact h.ok _ _
 .rw[List.length_set] at H;have ap:=h.len ((c/16:Nat):Int)
  by_cases e:d/16=c/16
  .rw[e,g1]
   by_cases ao:d=c
   .subst ao;rw[List.getElem_set_self,ar2,List.getElem?_set_self (by rw[ap];omega)];rfl
   .have a6:c % 16≠d % 16:=fun h=>ao aw0
    rw[List.getElem_set_ne (Ne.symm ao),ar2,List.getElem?_set_ne a6,<-ar2,<-e];exact h.at_ d H
  .have a6:((d/16:Nat):Int)≠((c/16:Nat):Int):=fun h=>e aw0
   rw[g2 _ a6,List.getElem_set_ne (fun ao=>e (by rw[ao]))];exact h.at_ d H
theorem R':(Tryz.prog.info? 243).map (·.size)=some 3:=by kernel_rfl
def rL (s:fh):Bool:=if s.1=1 then decide (0<=s.2.1)&&decide (s.2.1 < 512) else decide (s=cy)||decide (s=(2,0,false))
theorem Sa (s q:fh):decide (s=q)=true↔j5 (qD s)=j5 (qD q):=by
 rw[decide_eq_true_iff];simp only[j5,Aq,qD,List.cons.injEq,Lit.int.injEq,Lit.bool.injEq,true_and,and_true];constructor
 .intro h;subst h;exact⟨rfl,rfl,rfl⟩
 .rintro⟨E,G,al⟩;exact Prod.ext E (Prod.ext G al)
theorem aem {n:Int} (h: -1000000<=n/\n<=1000000):(Lit.int .i64 n).wf=true:=by
 simp only[Lit.wf,vj,as1];have E:IntKind.min .i64= -9223372036854775808:=by decide
 have G:IntKind.max .i64=9223372036854775807:=by decide
 rw[E,G];omega
theorem Sb (d:Nat) {n:Int} (h: -1000000<=n/\n<=1000000):Tryz.prog.keyLits (d+1) 3 [.int .i64 n]=some [.int .i64 n]:=by
 unfold Program.keyLits;simp only[Tryz.underlying3];have hw:=aem h;simp[hw]
theorem lX (d:Nat) {s:fh} (h:tX s):Tryz.prog.keyLits (d+2) 243 (pf (qD s))=some (j5 (qD s)):=by
 have cJ:Tryz.prog.cellsOf 243=3:=by kernel_rfl
 have cG:Tryz.prog.cellsOf 3=1:=by kernel_rfl
 have hP:Tryz.prog.cellsOf 4=1:=by kernel_rfl
 have ce:=Sb d h.1;have cR:=Sb d h.2
 have er:Tryz.prog.keyLits (d+1) 4 [.bool s.2.2]=some [.bool s.2.2]:=by
  unfold Program.keyLits;simp only[Tryz.underlying4]
 unfold Program.keyLits;simp only[Tryz.underlying243,cJ];simp[pf,Lf,qD,cG,hP,ce,cR,er,j5,Aq]
theorem aen (s:fh) (ax:tX s):Fn Tryz.prog 228 [.c (pZ s)] [] [] (fk (rL s)) []:=by
 refine aT [] Tryz.func228 ?_;refine⟨rfl,fun E=>?_,fun E=>?_⟩
 .have E:=gd E;refine⟨fun G=>?_,fun G=>?_⟩
  .refine⟨_,_,_,bq,rfl,?_,trivial,rfl⟩;show decide (s.2.1 < 512)=rL s;unfold rL;have G:decide (0<=s.2.1)=true:=G;rw[if_pos E,G,Bool.true_and]
  .refine⟨_,_,_,bq,rfl,?_,trivial,rfl⟩;show false=rL s;unfold rL;have G:decide (0<=s.2.1)=false:=G;rw[if_pos E,G,Bool.false_and]
 .have E:=mu E;refine⟨_,_,fun N=>Li (m:=5) (D:=5) (lx:=qD s) (ly:=[.d (.int .i64 0),.d (.int .i64 0),.d (.lit false)]) rfl aw3 aw3 aw1 rfl rfl rfl rfl rfl (lX 3 ax) (lX 3 (s:=cy) ⟨aw1,aw1⟩) (Sa s cy) N,rfl,?_⟩;refine⟨fun G=>?_,fun G=>?_⟩
  .refine⟨_,_,_,bq,rfl,?_,trivial,rfl⟩;show true=rL s;unfold rL;rw[if_neg E,G,Bool.true_or]
  .refine⟨_,_,fun N=>Li (m:=5) (D:=5) (lx:=qD s) (ly:=[.d (.int .i64 2),.d (.int .i64 0),.d (.lit false)]) rfl aw3 aw3 aw1 rfl rfl rfl rfl rfl (lX 3 ax) (lX 3 (s:=(2,0,false)) ⟨aw1,aw1⟩) (Sa s (2,0,false)) N,rfl,?_⟩;refine⟨_,_,_,bq,rfl,?_,trivial,rfl⟩;show decide (s=(2,0,false))=rL s;unfold rL;rw[if_neg E,G,Bool.false_or]
def u4 (s:fh):Bool:=decide (s.1=1)&&s.2.2
theorem aeo (s:fh):Fn Tryz.prog 202 [.c (pZ s)] [] [] (fk (u4 s)) []:=by
 refine aT [] Tryz.func202 ?_;refine⟨rfl,fun E=>?_,fun E=>?_⟩
 .refine⟨_,_,_,bq,rfl,?_,trivial,rfl⟩;show s.2.2=u4 s;unfold u4;have E:decide (s.1=1)=true:=E;rw[E,Bool.true_and]
 .refine⟨_,_,_,bq,rfl,?_,trivial,rfl⟩;show false=u4 s;unfold u4;have E:decide (s.1=1)=false:=E;rw[E,Bool.false_and]
theorem Sc (n:Int):Fn Tryz.prog 152 [ac n] [] [] (fk (decide (0<=n)&&decide (n<=256))) []:=by
 refine aT [] Tryz.func152 ?_;refine⟨fun h=>?_,fun h=>?_⟩
 .refine⟨_,_,_,bq,rfl,?_,trivial,rfl⟩;show decide (n<=256)=_;have h:decide (0<=n)=true:=h;rw[h,Bool.true_and]
 .refine⟨_,_,_,bq,rfl,?_,trivial,rfl⟩;show false=_;have h:decide (0<=n)=false:=h;rw[h,Bool.false_and]
theorem aep (n:Int) (es:List (aa ai×aa fI)):Fn Tryz.prog 165 [ah 1001] (pg n es) [] (ac n) (pg n es):=by
 refine aT [] Tryz.func165 ?_;exact bc
theorem Sd {t:List fh} {es:List (aa ai×aa fI)} (gM:ol t es) (ap:t.length<=256) (c:Nat) (J:c < t.length):Fn Tryz.prog 167 [ah 1001,ac (c:Int)] (pg (t.length:Nat) es) [] (.c (pZ t[c])) (pg (t.length:Nat) es):=by
 have aY:(hT es ((c:Int)/16)).getD ((c:Int) % 16).toNat cy=t[c]:=by
  rw[<-gM.at_ c J]
  congr 1
 obtain⟨aeq,C2,Gt⟩: ∃i,Tryz.prog.info? 243=some i/\i.size=3:=by
  have:=R'
  cases e:Tryz.prog.info? 243 with
  |none=>rw[e] at this;cases this
  |some i=>rw[e] at this;exact⟨i,rfl,by simpa using this⟩
 refine aT [] Tryz.func167 ?_;refine⟨rfl,fun E=>absurd (gd E) aw0,fun E=>⟨fun E=>absurd (gd E) aw0,fun E=>⟨⟨aw0,aw0⟩,⟨aw0,aw0⟩,⟨aw0,aw0⟩,⟨aw0,aw0⟩,_,_,fun N=>ad' (n:=16) (e:=243) (u:=tW) (g:=hT es ((c:Int)/16)) (j:=(c:Int) % 16) rfl Tryz.underlying290 Tryz.underlying243 rfl C2 Gt rfl rfl aw0 aw0 N,rfl,?_⟩⟩⟩;refine⟨_,_,_,bq,rfl,?_,az,rfl⟩;show tw (.c (.agg (gr tW ((hT es ((c:Int)/16)).getD ((c:Int) % 16).toNat cy) 0 3))) _;rw[aY];exact az
theorem aer (g hq:List fh) (ap:g.length=16) (f1:hq.length=16):j5 (gr fI g 0 48)=j5 (gr fI hq 0 48)->g=hq:=by
 intro h
 have lL: ∀(l:List bC) (j:Nat),(j5 l)[j]? =(l[j]?).map Aq:=fun l=>by
  induction l with
  |nil=>intro j;simp[j5]
  |cons s l bu=>
   intro j
   match j with
   |0=>rfl
   |j+1=>simpa[j5] using bu j
 have J: ∀i,i < 16-> ∀q,q < 3->Aq (.d (fM tW (g.getD i cy) q))=Aq (.d (fM tW (hq.getD i cy) q)):=fun i aG q aP=>by
  have E:=congrArg (fun l=>l[i*3+q]?) h;simp only[lL] at E;have af:=zL fI g 48 0 (i*3+q) aw0;have ao:=zL fI hq 48 0 (i*3+q) aw0;rw[af,ao] at E;simp only[au5,aq8,Nat.zero_add] at E;have cJ:fM fI g (i*3+q)=fM tW (g.getD i cy) q:=Ll (u:=tW) (n:=16) g i q aP;have cG:fM fI hq (i*3+q)=fM tW (hq.getD i cy) q:=Ll (u:=tW) (n:=16) hq i q aP;rw[cJ,cG] at E;exact E
 refine List.ext_getElem (ap.trans f1.symm) fun i E G=>?_
 have a0:=J i aw0 0 aw0;have b0:=J i aw0 1 aw0;have ca:=J i aw0 2 aw0;have af:g.getD i cy=g[i]:=by rw[ar2,oj E];rfl
 have ao:hq.getD i cy=hq[i]:=by rw[ar2,oj G];rfl
 rw[af,ao] at a0 b0 ca;have eL:Lit.int .i64 (g[i]).1=Lit.int .i64 (hq[i]).1:=a0;have b1:Lit.int .i64 (g[i]).2.1=Lit.int .i64 (hq[i]).2.1:=b0;have b2:Lit.bool (g[i]).2.2=Lit.bool (hq[i]).2.2:=ca;injection eL with _ eL
 injection b1 with _ b1
 injection b2 with b2
 exact Prod.ext eL (Prod.ext b1 b2)
theorem Se {α lT:Type} {f:α->Option lT} {g:α->lT}: ∀{l:List α},(∀a,a∈l->f a=some (g a))->l.mapM f=some (l.map g)
 | [],_=>rfl
 |a::l,h=>by
  rw[List.mapM_cons,h a (ar4 ..),Se fun b O=>h b (aq6 _ O)];rfl
theorem Sf (d:Nat) (g:List fh) (h: ∀i,i < 16->tX (g.getD i cy)):Tryz.prog.keyLits (d+3) 290 (pf (gr fI g 0 48))=some (j5 (gr fI g 0 48)):=by
 have cJ:Tryz.prog.cellsOf 290=48:=by kernel_rfl
 have cG:Tryz.prog.cellsOf 243=3:=by kernel_rfl
 have key: ∀i,i < 16->Tryz.prog.keyLits (d+2) 243 (((pf (gr fI g 0 48)).drop (i*3)).take 3)=some (j5 (qD (g.getD i cy))):=by
  intro i aG
  match i,aG with
  |0,_=>exact lX d (h 0 aw0)
  |1,_=>exact lX d (h 1 aw0)
  |2,_=>exact lX d (h 2 aw0)
  |3,_=>exact lX d (h 3 aw0)
  |4,_=>exact lX d (h 4 aw0)
  |5,_=>exact lX d (h 5 aw0)
  |6,_=>exact lX d (h 6 aw0)
  |7,_=>exact lX d (h 7 aw0)
  |8,_=>exact lX d (h 8 aw0)
  |9,_=>exact lX d (h 9 aw0)
  |10,_=>exact lX d (h 10 aw0)
  |11,_=>exact lX d (h 11 aw0)
  |12,_=>exact lX d (h 12 aw0)
  |13,_=>exact lX d (h 13 aw0)
  |14,_=>exact lX d (h 14 aw0)
  |15,_=>exact lX d (h 15 aw0)
  |n+16,aG=>exact absurd aG aw0
 unfold Program.keyLits;simp only[Tryz.underlying290,cJ,cG];have ap:(pf (gr fI g 0 48)).length=48:=rfl;have aC:((List.range 16).map fun i=>j5 (qD (g.getD i cy))).flatten=j5 (gr fI g 0 48):=rfl;generalize pf (gr fI g 0 48)=aqp at ap key⊢;rw[if_pos ap,Se (g:=fun i=>j5 (qD (g.getD i cy))) fun i aG=>key i (List.mem_range.1 aG)];exact congrArg some aC
theorem aes:(Tryz.prog.info? 290).map (·.size)=some 48:=by kernel_rfl
theorem ki {T n:Nat} (h:(Tryz.prog.info? T).map (·.size)=some n): ∃i,Tryz.prog.info? T=some i/\i.size=n:=by
 cases e:Tryz.prog.info? T with
 |none=>rw[e] at h;cases h
 |some i=>rw[e] at h;exact⟨i,rfl,by simpa using h⟩
theorem Sg (i:Nat):qE.getD i cy=cy:=by
 unfold qE;rw[ar2,List.getElem?_replicate]
 split <;>rfl
abbrev om:List bC:=[.d (.int .i64 0),.d (.int .i64 0),.d (.lit false)]
abbrev Gu:List bC:=om++(om++(om++(om++(om++(om++(om++(om++(om++(om++(om++(om++(om++(om++(om++om))))))))))))))
theorem aet:Tryz.prog.keyLits 5 290 (pf Gu)=some (j5 Gu):=Sf 2 qE fun i _=>by rw[Sg];exact⟨aw1,aw1⟩
abbrev aeu (c:Nat):aX:=[(0,ah 1001),(1,ac (c:Int)),(5,ah 5),(6,ah 6)]
abbrev aev (n:Int) (es:List (aa ai×aa fI)) (s:fh) (g:List fh):ay:=[(6,.val fI g),(5,.cells (qD s)),(1001,.cells [.d (.int .i64 n),.mp 1002]),(1002,.map ai fI es)]
theorem aew {t:List fh} {es:List (aa ai×aa fI)} (gM:ol t es) (n:Int) (c:Nat) (J:c < 100000) (s:fh) (ax:tX s):Fn Tryz.prog 229 [ah 1001,ac (c:Int),.c (pZ s)] (pg n es) [] gV (pg n (rK es c s)):=by
 obtain⟨aeq,C2,Gt⟩:=ki R';obtain⟨aqq,Sh,Si⟩:=ki aes;have bZ:=gM.len ((c:Int)/16);have c1:((c/16:Nat):Int)=(c:Int)/16:=aw8
 have C3:((c:Int) % 16).toNat=c % 16:=aw8
 have C4:(hT es ((c:Int)/16)).set (c % 16) s=qE->rK es c s=gR (aH:=ai) (aJ:=fI) es ((c:Int)/16):=fun h=>by
  unfold rK;rw[c1,if_pos h];rfl
 have yb: ¬(hT es ((c:Int)/16)).set (c % 16) s=qE->rK es c s=dw (aH:=ai) (aJ:=fI) es ((c:Int)/16) ((hT es ((c:Int)/16)).set (c % 16) s):=fun h=>by
  unfold rK;rw[c1,if_neg h];rfl
 have u5:((hT es ((c:Int)/16)).set (c % 16) s).length=16:=by rw[List.length_set];exact bZ
 have Sj: ∀i,i < 16->tX (((hT es ((c:Int)/16)).set (c % 16) s).getD i cy):=fun i _=>by
  rw[ar2,List.getElem?_set]
  split
  .split
   .exact ax
   .exact⟨aw1,aw1⟩
  .rw[<-ar2];exact gM.ok _ _
 obtain⟨hq,rM⟩: ∃hq:List fh,hq=(hT es ((c:Int)/16)).set (c % 16) s:=⟨_,rfl⟩;rw[<-rM] at C4 yb Sj u5
 have sz:decide (hq=qE)=true↔j5 (gr fI hq 0 48)=j5 Gu:=by
  rw[decide_eq_true_iff];exact⟨fun h=>by rw[h];rfl,aer hq qE u5 rfl⟩
 refine aT [2] Tryz.func229 ?_;refine⟨rfl,⟨aw0,aw0⟩,⟨aw0,aw0⟩,rfl,br [] ((ab.aea 6 (u:=fI) (x:=hT es ((c:Int)/16)) ⟨bZ,fun _ _=>⟨trivial,trivial,trivial⟩⟩ rfl).trans (cw (aeu c) (aev n es s (hT es ((c:Int)/16))))) ⟨⟨aw0,aw0⟩,⟨aw0,aw0⟩,_,_,fun N=>aeb (s:=3) (j:=(c:Int) % 16) rfl Tryz.underlying290 C2 Gt rfl rfl aw0 aw0 N,rfl,?_⟩⟩;rw[C3];refine⟨_,⟨[6],[],[(6,some (.val fI hq))]⟩,fun N=>by rw[rM];exact aed (n:=16) (u:=tW) (g:=hT es ((c:Int)/16)) (y:=s) rfl C2 Gt rfl aw0 rfl rfl ⟨trivial,trivial,trivial⟩ N,rfl,?_⟩;refine⟨_,_,fun N=>R7 (u:=fI) (y:=hq) rfl Tryz.underlying290 rfl Sh Si rfl rfl N,rfl,?_⟩;refine⟨_,_,fun N=>aee ee rfl rfl Tryz.underlying290 C2 rfl N,rfl,?_⟩;refine⟨_,_,fun N=>Li (m:=5) (D:=5) (r:=decide (hq=qE)) (lx:=gr fI hq 0 48) (ly:=Gu) rfl aw3 aw3 aw1 rfl rfl rfl rfl rfl (Sf 2 hq Sj) aet (sz) N,rfl,?_⟩;refine⟨fun h=>?_,fun h=>?_⟩
 .have h:=gd h;refine⟨⟨aw0,aw0⟩,⟨aw0,aw0⟩,?_⟩;rw[C4 h];exact bc
 .have h:=mu h;refine⟨⟨aw0,aw0⟩,⟨aw0,aw0⟩,_,_,fun N=>R7 (u:=fI) (y:=hq) rfl Tryz.underlying290 rfl Sh Si rfl rfl N,rfl,?_⟩;refine⟨hq,⟨⟨u5,fun _ _=>⟨trivial,trivial,trivial⟩⟩,rfl⟩,rfl,?_⟩;rw[yb h];exact bc
theorem aex {t:List fh} {es:List (aa ai×aa fI)} (gM:ol t es) (ap:t.length<=256) (c:Nat) (J:c < t.length) (s:fh) (ax:tX s) (aC:rL s=true):
  Fn Tryz.prog 205 [ah 1001,ac (c:Int),.c (pZ s)] (pg (t.length:Nat) es) [] (.cb [pZ t[c],dp 0]) (pg (t.length:Nat) (rK es c s)):=by
 refine aT [] Tryz.func205 ?_;refine⟨rfl,rfl,fun E=>absurd (gd E) aw0,fun E=>⟨fun E=>absurd (gd E) aw0,fun E=>ak (aen s ax) ?_⟩⟩;exact⟨fun E=>absurd E (by rw[aC];decide),fun _=>ak (Sd gM ap c J) ⟨rfl,ak (aew gM (t.length:Nat) c aw0 s ax) <| ej bq rfl ⟨az,rfl,trivial⟩⟩⟩
def rN (t:List fh):bg where
 bn:=fun I F w p=> ∃es,ol t es/\iO 1001 (pg (t.length:Nat) es) I F w p
 ck:=fun I F w I' w' p ⟨es,h,aY⟩ U bd aR=>⟨es,h,(bg.i9 1001 (pg (t.length:Nat) es)).ck I F w I' w' p aY U bd aR⟩
theorem ol.new (n:Nat):ol (List.replicate n cy) []:=by
 have aY: ∀k i,(hT [] k).getD i cy=cy:=fun k i=>Sg i
 refine⟨.nil,fun p ae=>(by cases ae),fun k i=>?_,fun c J=>?_⟩
 .rw[aY];exact⟨aw1,aw1⟩
 .rw[aY,List.getElem_replicate]
theorem aey (n:Int) (h: ¬(0<=n/\n<=256)):Fn Tryz.prog 98 [ac n] [] [] (.cb [mZ,dp 1]) []:=by
 have O:(decide (0<=n)&&decide (n<=256))=false:=by
  rw[Bool.and_eq_false_iff,decide_eq_false_iff_not,decide_eq_false_iff_not];omega
 refine aT [] Tryz.func98 ?_;refine ak (Sc n) ?_;rw[O];exact⟨fun _=>bc,fun E=>absurd E aw1⟩
theorem Ln (n:Nat) (h:n<=256):Fn Tryz.prog 98 [ac (n:Int)] [] [1001] (.cb [.one (.ptr 1001 0),dp 0]) [(1001,.aF (rN (List.replicate n cy)))]:=by
 have O:(decide ((0:Int)<=n)&&decide ((n:Int)<=256))=true:=by
  rw[vj,decide_eq_true_iff,decide_eq_true_iff];omega
 have ap:((List.replicate n cy).length:Nat)=n:=at1;refine aT [] Tryz.func98 ?_;refine ak (Sc n) ?_;rw[O];refine⟨fun E=>absurd E aw1,fun _=>⟨rfl,rfl,?_⟩⟩;refine⟨_,_,_,(ab.aV 10 1001 rfl).trans ((ab.aV 8 1002 rfl).trans (ab.close 1001 (pg (n:Nat) []) (o:=rN (List.replicate n cy)) az rfl fun _ _ _ _ h=>⟨[],ol.new n,by rw[ap];exact h⟩)),rfl,az,az,rfl⟩
end
section
abbrev p0 (l:List Int):ay:=[(1001,.cells [.own 1002]),(1002,.row 3 ai l)]
def rO (l:List Int):bg:=.i9 1001 (p0 l)
theorem aez:(Tryz.prog.info? 3).map (fun i=>(i.zero,i.size,i.bytes))=some (some (.int .i64 0),1,8):=by kernel_rfl
theorem Sk (n:Int) (h: ¬(0<=n/\n<=512)):Fn Tryz.prog 99 [ac n] [] [] (.cb [mZ,dp 1]) []:=by
 refine aT [] Tryz.func99 ?_;refine⟨fun E=>?_,fun E=>?_⟩
 .exact bc
 refine⟨fun G=>?_,fun G=>?_⟩
 .exact bc
 .exfalso;simp at E G;omega
theorem Gv (n:Int) (av:0<=n) (hn:n<=512):Fn Tryz.prog 99 [ac n] [] [1001] (.cb [.one (.ptr 1001 0),dp 0]) [(1001,.aF (rO (List.replicate n.toNat (0:Int))))]:=by
 obtain⟨de,o2,o3,u6,Ar⟩:=info_parts aez;refine aT [] Tryz.func99 ?_;refine⟨fun E=>?_,fun E=>?_⟩
 .exfalso;simp at E;omega
 refine⟨fun G=>?_,fun G=>?_⟩
 .exfalso;simp at G;omega
 refine⟨_,_,fun N=>aeg (d:=11) rfl Tryz.underlying83 o2 o3 u6 Ar rfl rfl av aw0 N,rfl,?_⟩;exact⟨rfl,_,_,_,(ab.aV 13 1001 rfl).trans ((ab.aV 11 1002 rfl).trans (ab.close 1001 (p0 (List.replicate n.toNat (0:Int))) (o:=rO (List.replicate n.toNat (0:Int))) az rfl fun _ _ _ _ h=>h)),rfl,az,az,rfl⟩
theorem aeA (l:List Int) (h:Int):Fn Tryz.prog 269 [ah 1001,ac h] (p0 l) [] (fk (decide (0<=h)&&decide (h < l.length))) (p0 l):=by
 refine aT [] Tryz.func269 ?_;refine⟨fun E=>?_,fun E=>?_⟩
 .refine⟨_,_,_,bq,rfl,?_,az,rfl⟩;show decide (h < (l.length:Nat))=(decide (0<=h)&&decide (h < (l.length:Nat)));have E:decide (0<=h)=true:=E;rw[E,Bool.true_and]
 .refine⟨_,_,_,bq,rfl,?_,az,rfl⟩;show false=(decide (0<=h)&&decide (h < (l.length:Nat)));have E:decide (0<=h)=false:=E;rw[E,Bool.false_and]
theorem aeB (n:Int) (h:n≠0):Fn Tryz.prog 259 [ac n] [] [] (ac 0) []:=by
 refine aT [] Tryz.func259 ?_;exact⟨fun E=>absurd (gd E) h,fun E=>bc⟩
theorem aeC (l:List Int) (h:Nat) (n:Int) (hn:l[h]? =some n) (E:1<=n) (G:n<=65535):Fn Tryz.prog 258 [ah 1001,ac (h:Int),ac (-1),kS (.cY 259 [])] (p0 l) [] (ac 0) (p0 (l.set h (n - 1))):=by
 have ap:h < l.length:=(ar1.1 hn).1;refine aT [] Tryz.func258 ?_;refine ak (aeA l h) ?_;have m1:(0:Int)<=(h:Int):=aw8
 have m2:(h:Int) < (l.length:Nat):=aw8
 refine⟨fun _=>?_,fun hf=>?_⟩
 .exact⟨⟨m1,m2⟩,n,hn,ak (aeB n aw0) <| d7 ⟨⟨m1,m2⟩,n,hn,⟨aw0,aw0⟩,⟨m1,m2⟩,⟨trivial,ap⟩,bc⟩⟩
 .exfalso;have hf:(decide ((0:Int)<=h)&&decide ((h:Int) < l.length))=false:=hf;rw[ar6 aw0,ar6 aw0] at hf
  cases hf
theorem aeD (l:List Int) (h:Nat) (n:Int) (hn:l[h]? =some n) (E:1<=n) (G:n<=65535):Fn Tryz.prog 230 [ah 1001,ac (h:Int)] (p0 l) [] (.cb [.one (.d (.int .i64 (n - 1))),dp 0]) (p0 (l.set h (n - 1))):=by
 have ap:h < l.length:=(ar1.1 hn).1;refine aT [] Tryz.func230 ?_;refine ak (aeC l h n hn E G) <| cX ?_;have qq:h < (l.set h (n - 1)).length:=by rw[List.length_set];exact ap
 have m1:(0:Int)<=(h:Int):=aw8
 have m2:(h:Int) < ((l.set h (n - 1)).length:Nat):=aw8
 have m3:(l.set h (n - 1))[h]? =some (n - 1):=by rw[List.getElem?_set_self ap]
 exact⟨⟨m1,m2⟩,n - 1,m3,bc⟩
def d9 (l:List Int):Nat:=(l.filter fun x=>decide (x=0)).length
theorem Lo (l:List Int):d9 l<=l.length:=List.length_filter_le _ _
theorem aeE {l:List Int} {k:Nat} (h:k < l.length):d9 (l.take (k+1))=d9 (l.take k)+(if l[k]=0 then 1 else 0):=by
 unfold d9;rw[at7 h,List.filter_append,aq5]
 congr 1
 by_cases e:l[k]=0
 .simp[e]
 .simp[e]
abbrev aeF (l:List Int) (k:Nat):aX:=[(3,ac (d9 (l.take k):Nat)),(9,eX 1002),(10,ac (l.length:Nat)),(11,ac (k:Nat))]
theorem aeG (l:List Int) (ap:l.length<=1000000):Fn Tryz.prog 203 [ah 1001] (p0 l) [] (ac (d9 l:Nat)) (p0 l):=by
 refine aT [] Tryz.func203 ?_;refine dG [] (X:=Nat) (aeF l) (fun _=>p0 l) (fun k=>k<=l.length) (fun k=>l.length - k) 0 (aq9 _) ?_ ?_
 .exact ab.sub az az
 intro k Z;have aR:=Lo (l.take k);have tH:(l.take k).length<=l.length:=ax7
 refine⟨fun h=>?_,fun h=>?_⟩
 .have h:decide ((k:Int) < (l.length:Nat))=true:=h;have fc:k < l.length:=aw9
  have ax:=aeE fc;have m1:(0:Int)<=(k:Int):=aw8
  have m2:(k:Int) < (l.length:Nat):=aw8
  refine⟨⟨m1,m2⟩,l[k],iR (n:=k) fc,fun av=>?_,fun av=>?_⟩
  .have av:=gd av;refine⟨aw0,aw0,k+1,aw0,aw0,ab.sub ⟨?_,rfl,rfl,rfl,trivial⟩ az⟩;show((d9 (l.take k):Nat):Int)+1=(d9 (l.take (k+1)):Nat);rw[ax,if_pos av];omega
  .have av:=mu av;refine⟨aw0,k+1,aw0,aw0,ab.sub ⟨?_,rfl,rfl,rfl,trivial⟩ az⟩;show((d9 (l.take k):Nat):Int)=(d9 (l.take (k+1)):Nat);rw[ax,if_neg av];omega
 .have h:decide ((k:Int) < (l.length:Nat))=false:=h;have fc:k=l.length:=az3
  subst fc;refine⟨_,_,_,bq,rfl,?_,az,rfl⟩;show((d9 (l.take l.length):Nat):Int)=_;rw[as2]
abbrev aeH (l:List Int) (k:Nat):aX:=[(0,ah 1001),(9,ac (l.length:Nat)),(10,ac (k:Nat))]
theorem aeI (l:List Int) (ap:l.length<=1000000) (h:Nat) (bj:l[h]? =some 0) (hf: ∀j,j < h->l[j]? ≠some 0):Fn Tryz.prog 204 [ah 1001] (p0 l) [] (.cb [.one (.d (.int .i64 (h:Int))),dp 0]) (p0 (l.set h 1)):=by
 have bx:h < l.length:=(ar1.1 bj).1;refine aT [] Tryz.func204 ?_;refine dG [] (X:=Nat) (aeH l) (fun _=>p0 l) (fun k=>k<=h) (fun k=>l.length - k) 0 (aq9 _) ?_ ?_
 .exact ab.sub az az
 intro k Z;refine⟨fun _=>?_,fun E=>?_⟩
 .have fc:k < l.length:=aw8
  have m1:(0:Int)<=(k:Int):=aw8
  have m2:(k:Int) < (l.length:Nat):=aw8
  refine⟨⟨m1,m2⟩,l[k],iR (n:=k) fc,fun av=>?_,fun av=>?_⟩
  .have av:=gd av
   have Sl:k=h:=by
    rcases Nat.lt_or_ge k h with al |al
    .exact absurd (by rw[oj fc,av]) (hf k al)
    .omega
   subst Sl;exact⟨⟨m1,m2⟩,⟨trivial,fc⟩,bc⟩
  .have av:=mu av
   have Sl:k≠h:=fun e=>by
    subst e;rw[oj fc] at bj;exact av (by injection bj)
   exact⟨aw0,k+1,aw0,aw0,ab.sub az az⟩
 .exfalso;have E:decide ((k:Int) < (l.length:Nat))=false:=E;simp at E;omega
end
section
def As (l:aA1):ay->Bool
 | []=>true
 |(c,ch)::B=> !l.contains c&&(l.all fun d=> !ch.has d)&&As l B
theorem Gw {l:aA1}: ∀{B:ay},As l B=true-> ∀{c ch},aj B c=some ch->c∉l/\ ∀d,d∈l->ch.has d=false
 | [],_,c,ch,J=>by cases J
 |(e,x)::B,h,c,ch,J=>by
  simp only[As,vj,Bool.not_eq_true'] at h;obtain⟨⟨E,G⟩,al⟩:=h;rw[cd] at J
  split at J
  .rename_i e;injection J with J
   subst e J;refine⟨fun aw=>(by rw[at2.2 aw] at E;cases E),fun d H=>?_⟩;have:=as9.1 G d H;simpa using this
  .exact Gw al J
theorem Fn.qF {P:Program} {f:FuncId} {args:List aO} {aI:ay} {bb:aA1} {res:aO} {aN:ay} (p1:ay) (h:Fn P f args aI bb res aN) (E:((cm p1).all fun d=> !(cm aI).contains d&& !(cm aN).contains d)=true) (G:As bb p1=true):
  Fn P f args (aI++p1) bb res (aN++p1):=by
 have ce: ∀{c ch},aj p1 c=some ch->aj aI c=none/\aj aN c=none:=fun {c ch} J=>by
  have:=as9.1 E c (gw.2 ⟨ch,J⟩);simp only[vj,Bool.not_eq_true'] at this;constructor
  .cases e:aj aI c with
   |none=>rfl
   |some x=>rw[at2.2 (gw.2 ⟨x,e⟩)] at this;cases this.1
  .cases e:aj aN c with
   |none=>rfl
   |some x=>rw[at2.2 (gw.2 ⟨x,e⟩)] at this;cases this.2
 have wC: ∀{c ch},aj aI c=some ch->aj (aI++p1) c=some ch:=fun {c ch} J=>by rw[iQ,J]
 have u7: ∀{c ch},aj p1 c=some ch->aj (aI++p1) c=some ch:=fun {c ch} J=>by rw[iQ,(ce J).1];exact J
 have Gx: ∀{c ch},aj (aN++p1) c=some ch->aj aN c=some ch\/aj p1 c=some ch:=fun {c ch} J=>by
  rw[iQ] at J
  cases e:aj aN c with
  |none=>rw[e] at J;exact .inr J
  |some x=>rw[e] at J;exact .inl J
 refine⟨h.1,fun ρ F I w bW b0 ca a3 a4 a5 gD=>(h.2 ρ F I w bW b0 (fun c ch J=>ca c ch (wC J)) (fun c ch J=>a3 c ch (wC J)) (fun c b7 ch ch' b J cQ=>a4 c b7 ch ch' b (wC J) (wC cQ)) a5 gD).mono ?_⟩;rintro e w' ⟨x,ρ',F',r1,r2,fV,I',j1,lR,mq,lS,m0,od⟩
 let cN:Nat->Nat->Prop:=fun c=>if(aj p1 c).isSome=true then F c else F' c
 have io: ∀{c ch},aj p1 c=some ch->cN c=F c:=fun {c ch} J=>if_pos (by rw[J];rfl)
 have jB: ∀{c ch},aj aN c=some ch->cN c=F' c:=fun {c ch} J=>if_neg (fun ax=>by
  cases e:aj p1 c with
  |none=>rw[e] at ax;cases ax
  |some x=>rw[(ce e).2] at J;cases J)
 have Gy: ∀{c ch} {b:Nat},aj p1 c=some ch->F c b-> ¬ ∃d ch',aj aI d=some ch'/\F d b:=fun {c ch b} J O=>by
  rintro⟨d,ch',H,dt⟩;refine a4 c d ch ch' b (u7 J) (wC H) (fun e=>?_) O dt;subst e;rw[(ce J).1] at H
  cases H
 refine⟨x,ρ',cN,r1,r2.mono fun b _ ⟨c,ch,J,O⟩=>⟨c,ch,wC J,O⟩,fV,I',j1,fun b O=>⟨(lR b O).1,(lR b O).2.imp id (Or.imp (fun⟨c,ch,J,O⟩=>⟨c,ch,wC J,O⟩) id)⟩,fun c ch J=>?_,fun c ch J b O=>?_,fun c b7 ch ch' b J cQ a6 O dt=>?_,od⟩
 .rcases Gx J with J |J
  .rw[jB J];exact mq c ch J
  .rw[io J];obtain⟨g1,g2⟩:=Gw G J;rw[fV c g1];exact Holds.ck j1 (fun b O=>r2.block b (a3 c ch (u7 J) b O).1 (Gy J O)) r2.size ch (fun d H=>fV d fun aw=>by rw[g2 d aw] at H;cases H) (ca c ch (u7 J))
 .rcases Gx J with J |J
  .rw[jB J] at O;obtain⟨g1,g2,c2⟩:=lS c ch J b O;exact⟨g1,g2,c2.imp (fun⟨d,ch',H,O⟩=>⟨d,ch',wC H,O⟩) id⟩
  .rw[io J] at O;obtain⟨g1,g2⟩:=a3 c ch (u7 J) b O;refine⟨Nat.lt_of_lt_of_le g1 r2.size,fun a2=>?_,.inl ⟨c,ch,u7 J,O⟩⟩;rcases(lR b a2).2 with h |h |h
   .exact g2 h
   .exact Gy J O h
   .omega
 .rcases Gx J with J |J <;>rcases Gx cQ with cQ |cQ
  .rw[jB J] at O;rw[jB cQ] at dt;exact m0 c b7 ch ch' b J cQ a6 O dt
  .rw[jB J] at O;rw[io cQ] at dt;rcases(lS c ch J b O).2.2 with h |h
   .exact Gy cQ dt h
   .have:=(a3 b7 ch' (u7 cQ) b dt).1;omega
  .rw[io J] at O;rw[jB cQ] at dt;rcases(lS b7 ch' cQ b dt).2.2 with h |h
   .exact Gy J O h
   .have:=(a3 c ch (u7 J) b O).1;omega
  .rw[io J] at O;rw[io cQ] at dt;exact a4 c b7 ch ch' b (u7 J) (u7 cQ) a6 O dt
theorem Fn.d3 {P:Program} {f:FuncId} {args:List aO} {aI:ay} {bb:aA1} {d:Nat} {e:TypeId} {u:bA} {xs:List (aa u)} {aN:ay} (h:Fn P f args aI (d::bb) (.c (.one (.own d))) (aN++[(d,.row e u xs)])) (E:(cm aN).contains d=false) (G:As [d] aN=true):
  Fn P f args aI bb (.c (.one (.d (.cf u xs)))) aN:=by
 have ce:aj aN d=none:=by
  cases e:aj aN d with
  |none=>rfl
  |some x=>rw[at2.2 (gw.2 ⟨x,e⟩)] at E;cases E
 have rP:aj (aN++[(d,ba.row e u xs)]) d=some (.row e u xs):=by rw[iQ,ce];simp[aj]
 have hF: ∀{c ch},aj aN c=some ch->aj (aN++[(d,ba.row e u xs)]) c=some ch:=fun {c ch} J=>by rw[iQ,J]
 have a6: ∀{c ch},aj aN c=some ch->c≠d:=fun {c ch} J e=>by rw[e,ce] at J;cases J
 refine⟨h.1,fun ρ F I w bW b0 ca a3 a4 a5 gD=>(h.2 ρ F I w bW b0 ca a3 a4 a5 gD).mono ?_⟩;rintro ex w' ⟨x,ρ',F',r1,r2,fV,I',j1,lR,mq,lS,m0,od⟩;have ga:=mq d _ rP;have zX: ∀b,I' b->(fun b=>I' b\/F' d b) b:=fun b O=>.inl O
 have aZ:cj I' w' (fun b=>I' b\/F' d b) w':=fun b O=>⟨.inl O,rfl⟩
 have dx:gP (fun b=>I' b\/F' d b) w' (.cf u xs) (ρ' d).eK:=BX ga zX (fun b O=>.inr O);refine⟨x,dc ρ' d (ρ d),F',r1,r2,fun c J=>?_,fun b=>I' b\/F' d b,fun b O=>⟨.inl (j1 b O).1,(j1 b O).2⟩,fun b O=>?_,fun c ch J=>?_,fun c ch J b O=>?_,fun c b7 ch ch' b J cQ=>m0 c b7 ch ch' b (hF J) (hF cQ),?_⟩
 .by_cases e:c=d
  .rw[e,dd]
  .rw[dm _ _ e];exact fV c (fun aw=>by rcases aq7.1 aw with h |h;exact e h;exact J h)
 .rcases O with O |O
  .exact lR b O
  .obtain⟨g1,g2,c2⟩:=lS d _ rP b O;exact⟨g1,.inr c2⟩
 .have sK:=a6 J;obtain⟨_,g2⟩:=Gw G J;rw[dm _ _ sK];exact Holds.ck aZ (fun _ _=>rfl) (aq4 _) ch (fun j V=>dm _ _ fun e=>by rw[e,g2 d (ar5.2 rfl)] at V;cases V) (mq c ch (hF J))
 .obtain⟨g1,g2,c2⟩:=lS c ch (hF J) b O;refine⟨g1,fun a2=>?_,c2⟩;rcases a2 with a2 |a2
  .exact g2 a2
  .exact m0 c d ch _ b (hF J) rP (a6 J) O a2
 .have hx:x=(ρ' d).eK:=od;rw[hx];exact dx
theorem Fn.aeJ {P:Program} {f:FuncId} {args:List aO} {aI:ay} {bb:aA1} {d:Nat} {e:TypeId} {u:bA} {xs:List (aa u)} {res:aO} {aN:ay} (h:Fn P f args aI (d::bb) res (aN++[(d,.row e u xs)])) (E:(cm aN).contains d=false) (G:As [d] aN=true) (al:(res.d3 d (.cf u xs)).has d=false):
  Fn P f args aI bb (res.d3 d (.cf u xs)) aN:=by
 have ce:aj aN d=none:=by
  cases e:aj aN d with
  |none=>rfl
  |some x=>rw[at2.2 (gw.2 ⟨x,e⟩)] at E;cases E
 have rP:aj (aN++[(d,ba.row e u xs)]) d=some (.row e u xs):=by rw[iQ,ce];simp[aj]
 have hF: ∀{c ch},aj aN c=some ch->aj (aN++[(d,ba.row e u xs)]) c=some ch:=fun {c ch} J=>by rw[iQ,J]
 have a6: ∀{c ch},aj aN c=some ch->c≠d:=fun {c ch} J e=>by rw[e,ce] at J;cases J
 refine⟨h.1,fun ρ F I w bW b0 ca a3 a4 a5 gD=>(h.2 ρ F I w bW b0 ca a3 a4 a5 gD).mono ?_⟩;rintro ex w' ⟨x,ρ',F',r1,r2,fV,I',j1,lR,mq,lS,m0,od⟩;have ga:=mq d _ rP;have zX: ∀b,I' b->(fun b=>I' b\/F' d b) b:=fun b O=>.inl O
 have aZ:cj I' w' (fun b=>I' b\/F' d b) w':=fun b O=>⟨.inl O,rfl⟩
 have dx:gP (fun b=>I' b\/F' d b) w' (.cf u xs) (ρ' d).eK:=BX ga zX (fun b O=>.inr O);refine⟨x,dc ρ' d (ρ d),F',r1,r2,fun c J=>?_,fun b=>I' b\/F' d b,fun b O=>⟨.inl (j1 b O).1,(j1 b O).2⟩,fun b O=>?_,fun c ch J=>?_,fun c ch J b O=>?_,fun c b7 ch ch' b J cQ=>m0 c b7 ch ch' b (hF J) (hF cQ),?_⟩
 .by_cases e:c=d
  .rw[e,dd]
  .rw[dm _ _ e];exact fV c (fun aw=>by rcases aq7.1 aw with h |h;exact e h;exact J h)
 .rcases O with O |O
  .exact lR b O
  .obtain⟨g1,g2,c2⟩:=lS d _ rP b O;exact⟨g1,.inr c2⟩
 .have sK:=a6 J;obtain⟨_,g2⟩:=Gw G J;rw[dm _ _ sK];exact Holds.ck aZ (fun _ _=>rfl) (aq4 _) ch (fun j V=>dm _ _ fun e=>by rw[e,g2 d (ar5.2 rfl)] at V;cases V) (mq c ch (hF J))
 .obtain⟨g1,g2,c2⟩:=lS c ch (hF J) b O;refine⟨g1,fun a2=>?_,c2⟩;rcases a2 with a2 |a2
  .exact g2 a2
  .exact m0 c d ch _ b (hF J) rP (a6 J) O a2
 .have aA:cx ρ' (fun b=>I' b\/F' d b) w' (res.d3 d (.cf u xs)) x:=cx.d3 aZ dx res x od;exact cx.mono (cj.refl _ _) _ _ (fun c J=>dm _ _ fun e=>by subst e;rw[al] at J;cases J) aA
theorem Fn.own {P:Program} {f:FuncId} {args:List aO} {aI:ay} {bb:aA1} {d:Nat} {e:TypeId} {u:bA} {xs:List (aa u)} {res:aO} {aN:ay} (h:Fn P f (args.map (aO.d3 d (.cf u xs))) aI bb res aN) (E:(cm aI).contains d=false):
  Fn P f args (aI++[(d,.row e u xs)]) bb res aN:=by
 have ce:aj aI d=none:=by
  cases e:aj aI d with
  |none=>rfl
  |some x=>rw[at2.2 (gw.2 ⟨x,e⟩)] at E;cases E
 have rP:aj (aI++[(d,ba.row e u xs)]) d=some (.row e u xs):=by rw[iQ,ce];simp[aj]
 have hF: ∀{c ch},aj aI c=some ch->aj (aI++[(d,ba.row e u xs)]) c=some ch:=fun {c ch} J=>by rw[iQ,J]
 have a6: ∀{c ch},aj aI c=some ch->c≠d:=fun {c ch} J e=>by rw[e,ce] at J;cases J
 refine⟨h.1,fun ρ F I w bW b0 ca a3 a4 a5 gD=>?_⟩;have ga:=ca d _ rP;have aZ:cj I w (fun b=>I b\/F d b) w:=fun b O=>⟨.inl O,rfl⟩
 have dx:gP (fun b=>I b\/F d b) w (.cf u xs) (ρ d).eK:=BX ga (fun b O=>.inl O) (fun b O=>.inr O)
 refine(h.2 ρ F (fun b=>I b\/F d b) w bW (fun b O=>O.elim (b0 b) fun O=>(a3 d _ rP b O).1) (fun c ch J=>Holds.ck aZ (fun _ _=>rfl) (aq4 _) ch (fun _ _=>rfl) (ca c ch (hF J)))
  (fun c ch J b O=>⟨(a3 c ch (hF J) b O).1,fun a2=>a2.elim (a3 c ch (hF J) b O).2 fun H=>a4 c d ch _ b (hF J) rP (a6 J) O H⟩) (fun c b7 ch ch' b J cQ=>a4 c b7 ch ch' b (hF J) (hF cQ)) (by rw[ar7];exact a5) (fun i v x aA hx=>?_)).mono ?_
 .rw[as6] at aA;obtain⟨s,ax,rfl⟩:=at6.1 aA;exact cx.d3 aZ dx s x (gD i s x ax hx)
 .rintro ex w' ⟨x,ρ',F',r1,r2,fV,I',j1,lR,mq,lS,m0,od⟩;refine⟨x,ρ',F',r1,r2.mono fun b _ ⟨c,ch,J,O⟩=>⟨c,ch,hF J,O⟩,fV,I',fun b O=>j1 b (.inl O),fun b O=>⟨(lR b O).1,?_⟩,mq,fun c ch J b O=>?_,m0,od⟩
  .rcases(lR b O).2 with h |⟨c,ch,J,O⟩ |h
   .exact h.elim .inl fun h=>.inr (.inl ⟨d,_,rP,h⟩)
   .exact .inr (.inl ⟨c,ch,hF J,O⟩)
   .exact .inr (.inr h)
  .obtain⟨g1,g2,c2⟩:=lS c ch J b O;exact⟨g1,g2,c2.imp (fun⟨c,ch,J,O⟩=>⟨c,ch,hF J,O⟩) id⟩
end
end Go.Proofs.YtkfbeijmgggkmaaGreat
