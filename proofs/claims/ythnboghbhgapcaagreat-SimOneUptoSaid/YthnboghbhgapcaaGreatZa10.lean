/-
A part of the proof of this claim: lemmas, with no condition beyond what each says.
-/
import Derived.DeepKeys
import Derived.Laws.MakeOwn
import Derived.Laws.StructEq
import Derived.Test.YthnboghbhgapcaaGreatZa9
set_option linter.unusedVariables false
set_option linter.unusedSimpArgs false
set_option maxRecDepth 10000
namespace Go.Proofs.YthnboghbhgapcaaGreat
open Go.RowKit Go.Proofs
section
abbrev tm (fn:FuncId) (tmps:Array Value) (bE:Array Nat) (assign body:Code) (D:Nat) (st:LoopState):Loop:={state:=st,pending:=none,fn:=fn,tmps:=tmps,params:=bE,assign:=assign,body:=body,defers:=D}
def Fu (mr:Nat->bo) (hR:List Nat) (k':Nat->Prop) (sh:World) (l:Nat) (rec:Loop) (c:Nat) (B:ay) (I F:Nat->Prop) (w:World) (p:bo):Prop:=
 cd k' sh I w/\w.heap[l]? =some (.loop rec)/\ ∃(ρ:Nat->bo) (b8:Nat->Nat->Prop),ρ c=p/\(∀d,d∈hR->ρ d=mr d)/\(∀d ch,ah B d=some ch->Holds ρ I (b8 d) w (ρ d) ch)/\
  (∀d cZ ch ch' b,ah B d=some ch->ah B cZ=some ch'->d≠cZ->b8 d b-> ¬b8 cZ b)/\(∀d ch,ah B d=some ch-> ¬b8 d l)/\ ∀b,F b↔b=l\/ ∃d ch,ah B d=some ch/\b8 d b
def bh.nF (mr:Nat->bo) (hR:List Nat) (k':Nat->Prop) (sh:World) (l:Nat) (rec:Loop) (c:Nat) (B:ay):bh where
 R:=Fu mr hR k' sh l rec c B
 cg:=fun I F w I' w' p ⟨aw,aq,ρ,b8,E,s7,G,al,Bc,aZ⟩ V bj aR=>
  ⟨aw.trans V,(bj l ((aZ l).2 (.inl rfl))).trans aq,ρ,b8,E,s7,fun d ch J=>Holds.cg V (fun b O=>bj b ((aZ b).2 (.inr ⟨d,ch,J,O⟩))) aR ch (fun _ _=>rfl) (G d ch J),al,Bc,aZ⟩
def xC (l:List Nat):List aQ->Bool
 | []=>true
 |v::aD=>v.iW l&&xC l aD
theorem J3 {l:List Nat}: ∀{aD:List aQ},xC l aD=true-> ∀{i:Nat} {v:aQ},aD[i]? =some v->v.iW l=true
 | [],_,i,v,h=>by simp at h
 |x::aD,h,i,v,az=>by
  simp only[xC,vj] at h
  match i with
  |0=>
   simp only[aq5,ap4] at az;exact az▸h.1
  |i+1=>exact J3 h.2 (i:=i) (by simpa using az)
def B9 (l:List Nat):a1->Bool
 | []=>true
 |(_,v)::K=>v.iW l&&B9 l K
theorem J4 {l:List Nat}: ∀{K:a1},B9 l K=true-> ∀s,(dA K s).iW l=true
 | [],_,s=>rfl
 |(t,v)::K,h,s=>by
  simp only[B9,vj] at h;rw[kc]
  split
  .exact h.1
  .exact J4 h.2 s
section
variable {P:Program} {aU:dd} {N:Nat} {mr:Nat->bo} {hR:List Nat} {k':Nat->Prop} {sh:World} {l:Nat} {rec:Loop} {c:Nat}
theorem nU {c:Nat} {ch:bd}:ah [(c,ch)] c=some ch:=by rw[ca,if_pos rfl]
theorem uB {c d:Nat} {ch ch':bd} (h:ah [(c,ch)] d=some ch'):d=c/\ch'=ch:=by
 rw[ca] at h
 split at h
 .rename_i e;injection h with h;exact⟨e.symm,h.symm⟩
 .cases h
theorem acJ {f:FuncId} {args:List aQ} {res:aQ} {pw oQ:ay} (h:Fn P f args pw [] res oQ) (ha:xC [c] args=true) (aF:res.iW []=true):
  Fn P f args [(c,.aG (bh.nF mr hR k' sh l rec c pw))] [] res [(c,.aG (bh.nF mr hR k' sh l rec c oQ))]:=by
 refine⟨h.1,fun ρ F I w bW bb cV bj eo b6 dt=>?_⟩;have kQ:Fu mr hR k' sh l rec c pw I (F c) w (ρ c):=cV c _ nU;obtain⟨aw,aq,oN,b8,cx,xD,cA,dy,zx,fa⟩:=kQ;have mz: ∀b,F c b->b < w.heap.size/\ ¬I b:=fun b O=>bj c _ nU b O
 have mI:l < w.heap.size:=k0 aq;have xE: ¬ ∃d ch,ah pw d=some ch/\b8 d l:=fun⟨d,ch,J,a6⟩=>zx d ch J a6
 refine(h.2 oN b8 I w bW bb cA (fun d ch J b O=>mz b ((fa b).2 (.inr ⟨d,ch,J,O⟩))) dy b6 ?_).mono ?_
 .intro i v x az hx;refine ct.mono (cd.refl _ _) v x (fun j aa=>?_) (dt i v x az hx);have:=aQ.km (J3 ha az) aa;rw[aq0] at this;subst this;exact cx
 .rintro e w' ⟨x,ρ',F',rfl,cz,dl,I',i6,gA,lz,aE,h2,sa⟩;have f4:w'.heap[l]? =some (.loop rec):=(cz.block l mI xE).trans aq
  have zy: ¬I' l:=fun aI=>by
   rcases(gA l aI).2 with h |h |h
   .exact(mz l ((fa l).2 (.inl rfl))).2 h
   .exact xE h
   .omega
  refine⟨x,ρ,fun d=>if d=c then(fun b=>b=l\/ ∃d ch,ah oQ d=some ch/\F' d b) else F d,rfl,cz.mono fun b _ ⟨d,ch,J,a6⟩=>⟨c,_,nU,(fa b).2 (.inr ⟨d,ch,J,a6⟩)⟩,fun _ _=>rfl,I',i6,fun b O=>⟨(gA b O).1,?_⟩,?_,?_,?_,?_⟩
  .rcases(gA b O).2 with h |⟨d,ch,J,a6⟩ |h
   .exact .inl h
   .exact .inr (.inl ⟨c,_,nU,(fa b).2 (.inr ⟨d,ch,J,a6⟩)⟩)
   .exact .inr (.inr h)
  .intro d ch J;obtain⟨rfl,rfl⟩:=uB J;simp only[if_true];refine⟨aw.trans i6,f4,ρ',F',(dl _ au7).trans cx,fun d J=>(dl d au7).trans (xD d J),lz,h2,fun d ch J a6=>?_,fun b=>Iff.rfl⟩;rcases(aE d ch J l a6).2.2 with h |h
   .exact xE h
   .omega
  .intro d ch J b O;obtain⟨rfl,rfl⟩:=uB J;simp only[if_true] at O;rcases O with rfl |⟨d,ch,J,O⟩
   .exact⟨k0 f4,zy,.inl ⟨_,_,nU,(fa _).2 (.inl rfl)⟩⟩
   .obtain⟨r1,r2,ga⟩:=aE d ch J b O;exact⟨r1,r2,ga.imp (fun⟨d,ch,J,a6⟩=>⟨_,_,nU,(fa b).2 (.inr ⟨d,ch,J,a6⟩)⟩) id⟩
  .intro d cZ ch ch' b J dK ba;exact absurd ((uB J).1.trans (uB dK).1.symm) ba
  .exact ct.mono (cd.refl _ _) res x (fun j aa=>by have:=aQ.km aF aa;cases this) sa
def Ca:List Nat->List aQ->a1->a1
 | [],_,K=>K
 |p::pl,aD,K=>match aD with
  | []=>K
  |v::aD=>Ca pl aD ((p,v)::K)
theorem QP {ρ:Nat->bo} {I:Nat->Prop} {w:World}: ∀(pl:List Nat) (aD:List aQ) (bW:List Value) (K:a1) (t:Array Value),bW.length=aD.length->(∀p,p∈pl->p < t.size)->(∀(i:Nat) (v:aQ) (x:Value),aD[i]? =some v->bW[i]? =some x->ct ρ I w v x)->
  (∀s,ct ρ I w (dA K s) (t.getD s undef))->(((pl.zip bW).foldl (fun t (p:Nat×Value)=>t.setIfInBounds p.1 p.2) t).size=t.size/\ ∀s,ct ρ I w (dA (Ca pl aD K) s) (((pl.zip bW).foldl (fun t (p:Nat×Value)=>t.setIfInBounds p.1 p.2) t).getD s undef))
 | [],aD,bW,K,t,_,_,_,h=>⟨rfl,h⟩
 |p::pl,[],[],K,t,_,_,_,h=>⟨rfl,h⟩
 |p::pl,[],_::_,K,t,aq,_,_,h=>by simp at aq
 |p::pl,_::_,[],K,t,aq,_,_,h=>by simp at aq
 |p::pl,v::aD,x::bW,K,t,aq,ag,az,h=>by
  have acK:=ag p (aq1 ..)
  obtain⟨g1,g2⟩:=QP pl aD bW ((p,v)::K) (t.setIfInBounds p x) (by simpa using aq) (fun q aV=>by rw[Array.size_setIfInBounds];exact ag q (ap2 _ aV)) (fun i u y a8 aC=>az (i+1) u y (by simpa using a8) (by simpa using aC)) (fun s=>by
   rw[kc]
   by_cases e:p=s
   .subst e;rw[if_pos rfl];have:(t.setIfInBounds p x).getD p undef=x:=by simp[acK]
    rw[this];exact az 0 v x rfl rfl
   .rw[if_neg e];have:(t.setIfInBounds p x).getD s undef=t.getD s undef:=by simp[Array.getElem?_setIfInBounds_ne e]
    rw[this];exact h s)
  refine⟨?_,g2⟩;rw[List.zip_cons_cons,List.foldl_cons];exact g1.trans (Array.size_setIfInBounds)
theorem Mem.QQ {ids:List Nat} {C:e8} {B:ay} {ρ:Nat->bo} {F:Nat->Nat->Prop} {w:World} (h:Mem ids C B ρ F w) (bj: ∀b,C.yH b-> ¬C.p0 b):cd C.yH C.f2 (bZ C B F w) w:=fun b O=>by
 have E:=h.kG.2.1 b (.inl O);refine⟨⟨Nat.lt_of_lt_of_le E h.fr.size,.inl O,fun c ch H hf=>?_⟩,h.fr.block b E (bj b O)⟩;rcases(h.own c ch H b hf).2 with G |G
 .exact bj b O G
 .have:=G.1;omega
set_option maxHeartbeats 1000000 in
theorem acL (bn:d6 P aU) {fn:FuncId} {tmps:Array Value} {bE:Array Nat} {pl:List Nat} {assign body:Code} {D:Nat} (lu:bE.toList=pl) (g': ∀p,p∈pl->p < N) (cQ:tmps.size=N) (J5:jr P N assign=true) (B7:jr P N body=true)
  {kP:a1} (J6:B9 hR kP=true) (H:c∈hR) (ho: ∀s,ct mr k' sh (dA kP s) (tmps.getD s undef)) (stops:List Nat) {aD:List aQ} (q2:aD.length=pl.length) (JD:xC [] aD=true) {pw oQ:ay}
  (acM:jm P aU N (0::hR) stops assign (Ca pl aD kP) pw (fun e K B=>e= .gX/\jm P aU N (0::hR) stops body K B (fun e K B=>e= .gX/\af (0::hR) K B [] oQ))):
  xo P l aD [(c,.aG (bh.nF mr hR k' sh l (tm fn tmps bE assign body D .ready) c pw))] (fun _:Unit=>qT true) (fun _=>[(c,.aG (bh.nF mr hR k' sh l (tm fn tmps bE assign body D .ready) c oQ))]):=by
 intro ρ F I w bW bb cV bj eo b6 dt;have kQ:Fu mr hR k' sh l (tm fn tmps bE assign body D .ready) c pw I (F c) w (ρ c):=cV c _ nU;obtain⟨aw,aq,oN,b8,cx,xD,cA,dy,zx,fa⟩:=kQ;have mz: ∀b,F c b->b < w.heap.size/\ ¬I b:=fun b O=>bj c _ nU b O
 have mI:l < w.heap.size:=k0 aq;have xE: ¬ ∃d ch,ah pw d=some ch/\b8 d l:=fun⟨d,ch,J,a6⟩=>zx d ch J a6
 have acN: ¬I l:=(mz l ((fa l).2 (.inl rfl))).2;have xF: ∀{d ch b},ah pw d=some ch->b8 d b->F c b:=fun {d ch b} J a6=>(fa b).2 (.inr ⟨d,ch,J,a6⟩)
 have aC:=run_yield (P:=P) (args:=bW.toArray) aq (by rw[List.size_toArray,b6,q2,<-lu,Array.length_toList]);refine⟨fn,_,assign,body,aC,roundIn_of_wpIn (F:=oB none) trivial ?_⟩
 have acO:((bE.zip bW.toArray).foldl (fun tmps (x:Nat×Value)=>tmps.setIfInBounds x.1 x.2) tmps)=(pl.zip bW).foldl (fun t (p:Nat×Value)=>t.setIfInBounds p.1 p.2) tmps:=by
  rw[<-lu,<-Array.foldl_toList]
  congr 1
  simp
 obtain⟨g1,g2⟩:=QP (ρ:=oN) (I:=I) (w:=w) pl aD bW kP tmps b6 (fun p ag=>by rw[cQ];exact g' p ag) (fun i v x az hx=>ct.mono (cd.refl _ _) v x (fun j aa=>by have:=aQ.km (J3 JD az) aa;cases this) (dt i v x az hx))
  (fun s=>ct.mono aw _ _ (fun j aa=>xD j (aQ.km (J4 J6 s) aa)) (ho s))
 let rb:e8:=⟨w,I,fun b=> ∃d ch,ah pw d=some ch/\b8 d b,oN,[]⟩
 have r9:cd I w (bZ rb pw b8 w) w:=fun b O=>⟨⟨bb b O,.inl O,fun d ch J a6=>(mz b (xF J a6)).2 O⟩,rfl⟩
 have kl:Mem (0::hR) rb pw oN b8 w:=⟨cJ.refl _ _,fun d ch J=>Holds.cg r9 (fun _ _=>rfl) (ap0 _) ch (fun _ _=>rfl) (cA d ch J),fun d ch J b O=>⟨(mz b (xF J O)).1,.inl ⟨d,ch,J,O⟩⟩,dy,fun _ _=>rfl,at0,
  fun b O=>O.elim (bb b) fun⟨d,ch,J,a6⟩=>(mz b (xF J a6)).1,fun D b9=>by cases b9⟩
 have iD:eX N (0::hR) rb (Ca pl aD kP) pw ⟨(bE.zip bW.toArray).foldl (fun tmps (x:Nat×Value)=>tmps.setIfInBounds x.1 x.2) tmps,[]⟩ w:=by
  rw[acO];exact⟨g1.trans cQ,rfl,oN,b8,kl,fun s=>ct.mono r9 _ _ (fun _ _=>rfl) (g2 s)⟩
 refine y9 bn (zh bn) stops assign _ _ _ J5 acM (some l) (fun h=>by simp[t1] at h) rb _ ?_ _ w iD;rintro e Pv js ds hm ⟨rfl,acP⟩ b4 dz f';have hm:ds=[]:=hm (by simp[t1]);subst hm;obtain⟨cH,hz,sd,cu,iK,acQ⟩:=f';have iK:Mem (0::hR) rb js sd cu dz:=iK;have pZ:dz.heap[l]? =some (.loop (tm fn tmps bE assign body D .ready)):=(iK.fr.block l mI xE).trans aq;have acR:=k0 pZ
 have zy: ¬bZ rb js cu dz l:=fun aI=>by
  rcases aI.2.1 with h |h |h
  .exact acN h
  .exact xE h
  .have h:w.heap.size<=l:=h.1;omega
 have Fv: ∀d ch,ah js d=some ch-> ¬cu d l:=fun d ch J hf=>by
  rcases(iK.own d ch J l hf).2 with h |h
  .exact xE h
  .have h:w.heap.size<=l:=h.1;omega
 refine⟨_,run_beginRound pZ rfl,?_⟩;obtain⟨e0,Cb⟩: ∃e0,e0=dz.putObj l (.loop {tm fn tmps bE assign body D .ready with state:=.busy}):=⟨_,rfl⟩;rw[<-Cb];have Cc:e0.heap.size=dz.heap.size:=by rw[Cb,World.putObj_size]
 have J7: ∀b,b≠l->e0.heap[b]? =dz.heap[b]? :=fun b O=>by rw[Cb];exact World.putObj_heap_other O
 have p3:e0.heap[l]? =some (.loop {tm fn tmps bE assign body D .ready with state:=.busy}):=by rw[Cb];exact World.putObj_heap_same acR
 have J8:e0.os=dz.os/\e0.tape=dz.tape/\e0.output=dz.output:=by rw[Cb];exact⟨rfl,rfl,rfl⟩
 let oR:e8:=⟨e0,bZ rb js cu dz,fun b=> ∃d ch,ah js d=some ch/\cu d b,sd,[]⟩
 have r8:cd (bZ rb js cu dz) dz (bZ oR js cu e0) e0:=fun b O=>⟨⟨by rw[Cc];exact O.1,.inl O,O.2.2⟩,J7 b (fun e=>zy (e▸O))⟩
 have acS:Mem (0::hR) oR js sd cu e0:=⟨cJ.refl _ _,fun d ch J=>Holds.cg r8 (fun b O=>J7 b (fun e=>Fv d ch J (e▸O))) (Nat.le_of_eq Cc.symm) ch (fun _ _=>rfl) (iK.holds d ch J),fun d ch J b O=>⟨by rw[Cc];exact(iK.own d ch J b O).1,.inl ⟨d,ch,J,O⟩⟩,iK.e9,fun _ _=>rfl,at0,
  fun b O=>by
   show b < e0.heap.size;rw[Cc];exact O.elim (fun O=>O.1) fun⟨d,ch,J,a6⟩=>(iK.own d ch J b a6).1,fun D b9=>by cases b9⟩
 refine y9 bn (zh bn) stops body _ _ _ B7 acP (some l) (fun h=>by simp[t1] at h) oR _ ?_ b4 e0 ⟨cH,hz,sd,cu,acS,acQ.mono r8 fun _ _ _=>rfl⟩;rintro e aoU aoV ds hm ⟨rfl,gY⟩ a3 ij acT;have hm:ds=[]:=hm (by simp[t1]);subst hm;obtain⟨la,p2,zo,tn,si,aoW⟩:=gY N (oR.at []) a3 ij acT;have si:Mem (0::hR) oR oQ zo tn ij:=si;have QR:ij.heap[l]? =some (.loop {tm fn tmps bE assign body D .ready with state:=.busy}):=(si.fr.block l (k0 p3) (fun⟨d,ch,J,a6⟩=>Fv d ch J a6)).trans p3;have QS:=k0 QR
 have QT: ¬bZ oR oQ tn ij l:=fun aI=>by
  rcases aI.2.1 with h |h |h
  .exact zy h
  .obtain⟨d,ch,J,a6⟩:=h;exact Fv d ch J a6
  .have h:e0.heap.size<=l:=h.1;omega
 have QU: ∀d ch,ah oQ d=some ch-> ¬tn d l:=fun d ch J hf=>by
  rcases(si.own d ch J l hf).2 with h |h
  .obtain⟨d,ch,J,a6⟩:=h;exact Fv d ch J a6
  .have h:e0.heap.size<=l:=h.1;omega
 obtain⟨iM,m9⟩: ∃iM,iM=ij.putObj l (.loop (tm fn tmps bE assign body D .ready)):=⟨_,rfl⟩;have dO:(Instr.endRound l none).run P ij= .ok (.bool true) iM:=by rw[m9];exact run_endRound none QR
 refine⟨.bool true,iM,dO,?_⟩;have sj:iM.heap.size=ij.heap.size:=by rw[m9,World.putObj_size]
 have v1: ∀b,b≠l->iM.heap[b]? =ij.heap[b]? :=fun b O=>by rw[m9];exact World.putObj_heap_other O
 have acU:iM.heap[l]? =some (.loop (tm fn tmps bE assign body D .ready)):=by rw[m9];exact World.putObj_heap_same QS
 have xG:iM.os=ij.os/\iM.tape=ij.tape/\iM.output=ij.output:=by rw[m9];exact⟨rfl,rfl,rfl⟩
 have acV:cd I w (bZ rb js cu dz) dz:=iK.QQ fun b O ⟨d,ch,J,a6⟩=>(mz b (xF J a6)).2 O
 have acW:cd (bZ rb js cu dz) dz (bZ rb js cu dz) e0:=fun b O=>⟨O,(r8 b O).2⟩
 have acX:cd (bZ rb js cu dz) e0 (bZ oR oQ tn ij) ij:=si.QQ fun b O ⟨d,ch,J,a6⟩=>O.2.2 d ch J a6
 have QV:cd (bZ oR oQ tn ij) ij (bZ oR oQ tn ij) iM:=fun b O=>⟨O,v1 b (fun e=>QT (e▸O))⟩
 have QW:cd I w (bZ oR oQ tn ij) iM:=acV.trans (acW.trans (acX.trans QV));have QX:=iK.fr.size;have QX:w.heap.size<=dz.heap.size:=QX;have z23:e0.heap.size<=ij.heap.size:=si.fr.size
 have fg: ∀{b},(oR.p0 b\/oR.f2.heap.size<=b/\b∉oR.ds)->F c b\/w.heap.size<=b:=fun {b} h=>by
  rcases h with⟨d,ch,J,a6⟩ |h
  .rcases(iK.own d ch J b a6).2 with⟨d,ch,J,a6⟩ |h
   .exact .inl (xF J a6)
   .exact .inr h.1
  .have h:e0.heap.size<=b:=h.1;exact .inr au5
 refine⟨(),.bool true,ρ,fun d=>if d=c then(fun b=>b=l\/ ∃d ch,ah oQ d=some ch/\tn d b) else F d,rfl,?_,fun _=>rfl,bZ oR oQ tn ij,QW,fun b O=>⟨by rw[sj];exact O.1,?_⟩,?_,?_,?_,rfl⟩
 .have h1:cJ (fun b=>F c b) w dz:=iK.fr.mono fun b _ ⟨d,ch,J,a6⟩=>xF J a6
  have jn:cJ (fun b=>b=l) dz e0:=⟨J8.1,J8.2.1,J8.2.2,Nat.le_of_eq Cc.symm,fun b _ O=>J7 b O⟩;have f3:cJ oR.p0 e0 ij:=si.fr;have pj:cJ (fun b=>b=l) ij iM:=⟨xG.1,xG.2.1,xG.2.2,Nat.le_of_eq sj.symm,fun b _ O=>v1 b O⟩;have dJ:F c l:=(fa l).2 (.inl rfl)
  have f:cJ (fun b=>F c b) w iM:=((h1.trans jn fun b _ (O:b=l)=>by rw[O];exact dJ).trans f3 fun b O hf=>by
   rcases fg (.inl hf) with h |h
   .exact h
   .omega).trans pj fun b _ (O:b=l)=>by rw[O];exact dJ
  exact f.mono fun b _ O=>⟨c,_,nU,O⟩
 .rcases O.2.1 with h |h
  .rcases h.2.1 with h |⟨d,ch,J,a6⟩ |h
   .exact .inl h
   .exact .inr (.inl ⟨c,_,nU,xF J a6⟩)
   .exact .inr (.inr h.1)
  .exact .inr ((fg h).imp (fun h=>⟨c,_,nU,h⟩) id)
 .intro d ch J;obtain⟨rfl,rfl⟩:=uB J;simp only[if_true];have ab: ∀d,d∈hR->zo d=oN d:=fun d J=>(si.ed d (ap2 _ J)).trans (iK.ed d (ap2 _ J))
  exact⟨aw.trans QW,acU,zo,tn,(ab _ H).trans cx,fun d J=>(ab d J).trans (xD d J),fun d ch J=>Holds.cg QV (fun b O=>v1 b (fun e=>QU d ch J (e▸O))) (Nat.le_of_eq sj.symm) ch (fun _ _=>rfl) (si.holds d ch J),si.e9,QU,fun b=>Iff.rfl⟩
 .intro d ch J b O;obtain⟨rfl,rfl⟩:=uB J;simp only[if_true] at O;rcases O with rfl |⟨d,ch,J,O⟩
  .exact⟨by rw[sj];exact QS,QT,.inl ⟨_,_,nU,(fa _).2 (.inl rfl)⟩⟩
  .obtain⟨r1,r2⟩:=si.own d ch J b O;exact⟨by rw[sj];exact r1,fun aI=>aI.2.2 d ch J O,(fg r2).imp (fun h=>⟨_,_,nU,h⟩) id⟩
 .intro d cZ ch ch' b J dK ba;exact absurd ((uB J).1.trans (uB dK).1.symm) ba
theorem acY {f:FuncId} {w:World} {cs args:Array Value} (hf:jl P f=true):(invoke (.fn (.func f) cs) args).run P w= .ok (.enter f (args++cs)) w:=by
 unfold jl at hf
 split at hf
 .rename_i fn j0;simp only[Bool.not_eq_true',Bool.or_eq_false_iff,beq_eq_false_iff_ne] at hf;have G: ¬fn.body=none:=fun e=>by rw[e] at hf;simp at hf
  simp[invoke,callFunc,go_sem,j0];rw[if_neg hf.1,if_neg G]
 .cases hf
set_option maxHeartbeats 1000000 in
theorem bt.range (bn:d6 P aU) {ids:List Nat} (stops:List Nat) {s:Nat} {bE:Array Nat} {pl:List Nat} {assign body:Code} (lu:bE.toList=pl) (J5:jr P N assign=true) (B7:jr P N body=true) (g':(pl.all fun p=>Nat.blt p N)=true)
  {f:FuncId} {J9:List kF} (hf:jl P f=true) (hR:List Nat) (K kP:a1) (jN:ay) {X:Type} (gZ:X->ay) (c:Nat) (hQ Cd:X) (Y:X->List aQ->X->Prop)
  (acZ:dA K s= .c (.one (.cT f J9))) (J6:zb K kP)
  (ab:(hR.contains c&&B9 hR kP&&ids.all hR.contains&& !t1 ids)=true) (EL:((cl (gZ hQ)).all (fun d=> !(cl jN).contains d)&& !(cl jN).contains c)=true)
  (ac0: ∀x aD rc,Y x aD rc->aD.length=pl.length/\xC [] aD=true/\jm P aU N (0::hR) stops assign (Ca pl aD kP) (gZ x) (fun e K B=>e= .gX/\jm P aU N (0::hR) stops body K B (fun e K B=>e= .gX/\af (0::hR) K B [] (gZ rc))))
  (ac1: ∀(l:Nat) (fT:X->bh),(∀tf args res x rc,Fn P tf args (gZ x) [] res (gZ rc)->xC [c] args=true->res.iW []=true->Fn P tf args [(c,.aG (fT x))] [] res [(c,.aG (fT rc))])->
   (∀x aD rc,Y x aD rc->xo P l aD [(c,.aG (fT x))] (fun _:Unit=>qT true) (fun _=>[(c,.aG (fT rc))]))->
   Fn P f (.c (.one (.bI (.func (.yield l) #[] #[])))::oA J9) (jN++[(c,.aG (fT hQ))]) [] (.ce []) [(c,.aG (fT Cd))])
  {Q:nG->a1->ay->Prop} (Bz:Q .gX kP (gZ Cd)):bt P N ids (.rangeFunc (.tmp s) bE assign body) K (jN++gZ hQ) Q:=by
 intro r aF C h0 aV a w ax;simp only[vj,Bool.not_eq_true'] at ab EL;obtain⟨⟨⟨cn,fd⟩,ac2⟩,hid⟩:=ab;obtain⟨gQ,hc⟩:=EL;have cn:=th cn;have H2: ∀d,d∈ids->d∈hR:=fun d J=>th (ar4.1 ac2 d J)
 have QY:ah jN c=none:=by
  cases e:ah jN c with
  |none=>rfl
  |some ch=>have:=ar6.2 (gl.2 ⟨ch,e⟩);rw[hc] at this;cases this
 have aF:=aF hid;subst aF;obtain⟨hn,J,ρ,F,ar,av⟩:=ax
 have px: ∀{d ch},ah (gZ hQ) d=some ch->ah (jN++gZ hQ) d=some ch/\ah jN d=none:=fun {d ch} h=>by
  have ab:=ar4.1 gQ d (gl.2 ⟨ch,h⟩)
  have hn:ah jN d=none:=by
   cases e:ah jN d with
   |none=>rfl
   |some ch'=>rw[ar6.2 (gl.2 ⟨ch',e⟩)] at ab;cases ab
  exact⟨by rw[iC,hn];exact h,hn⟩
 have re: ∀{d ch},ah jN d=some ch->ah (jN++gZ hQ) d=some ch:=fun {d ch} h=>by rw[iC,h]
 refine wpIn_rangeFunc fun fn _=>?_
 obtain⟨rec,jJ⟩: ∃rec,rec=tm fn a.tmps bE assign body w.heap.size .ready:=⟨_,rfl⟩;obtain⟨dz,xx⟩: ∃dz,dz=(w.alloc (.deferred (some []))).alloc (.loop rec):=⟨_,rfl⟩;have qb:Below w.heap.size w dz:=by rw[xx];exact((Below.refl _ w).alloc (ap0 _) _).alloc au7 _
 have aoX:dz.heap.size=w.heap.size+2:=by rw[xx];simp
 have J':dz.heap[w.heap.size+1]? =some (.loop rec):=by rw[xx];have:=World.alloc_heap_new (w.alloc (.deferred (some []))) (.loop rec);rwa[World.size_alloc] at this
 have Ka:dz.heap[w.heap.size]? =some (.deferred (some [])):=by rw[xx];exact(Below.heap_alloc _ _ _ au7).trans (World.alloc_heap_new w _)
 obtain⟨l,v6⟩: ∃l,l=w.heap.size+1:=⟨_,rfl⟩;rw[<-v6] at J'
 let k':=bZ C (jN++gZ hQ) F w
 have m7:cd k' w k' dz:=fun b O=>⟨O,qb.block b O.1⟩
 let fT:=fun x=>bh.nF ρ hR k' dz l rec c (gZ x)
 have az:=av s;rw[acZ] at az;obtain⟨cs,ev,xp⟩:=az;obtain⟨ac3,ac4⟩:=hM.bW J9 cs xp
 have ho: ∀t,ct ρ k' dz (dA kP t) (a.tmps.getD t undef):=fun t=>by
  rcases Jb J6 t with h |h
  .exact ct.mono m7 _ _ (fun _ _=>rfl) (vE h (av t))
  .rw[h];trivial
 have j0:=ac1 l fT (fun tf args res x rc h ha aF=>acJ h ha aF) (fun x aD rc aC=>by
  obtain⟨uq,vK,BF⟩:=ac0 x aD rc aC;show xo P l aD [(c,.aG (bh.nF ρ hR k' dz l rec c (gZ x)))] (fun _:Unit=>qT true) (fun _=>[(c,.aG (bh.nF ρ hR k' dz l rec c (gZ rc)))]);rw[jJ];exact acL bn lu (fun p ag=>by have:=ar4.1 g' p ag;simpa[Nat.blt_eq] using this) hn J5 B7 fd cn ho stops uq vK BF)
 refine⟨l,[wT w.heap.size],dz,{target:=.fn (.func f) cs.toArray,args:= #[.func (.yield l) #[] #[]]},dz,f,#[.func (.yield l) #[] #[]]++cs.toArray,dz,?_,?_,fun _ _=>trivial,acY hf,fun h=>absurd h au7,Pl ?_⟩
 .rw[xx,v6,jJ];exact run_enterLoop_outer _ _ _ _ _
 .have ac5:a.eval (.tmp s)= .func (.func f) #[] cs.toArray:=ev;simp only[resolve,ac5];simp[go_sem]
 have ac6: #[Value.func (.yield l) #[] #[]]++cs.toArray=(Value.func (.yield l) #[] #[]::cs).toArray:=by simp
 rw[ac6];have tk: ∀b,(∃d ch,ah (gZ hQ) d=some ch/\F d b)->b < w.heap.size:=fun b ⟨d,ch,J,O⟩=>(ar.own d ch (px J).1 b O).1
 let cu:Nat->Nat->Prop:=fun d=>if d=c then(fun b=>b=l\/ ∃d ch,ah (gZ hQ) d=some ch/\F d b) else F d
 have iB: ∀{d ch},ah (jN++[(c,bd.aG (fT hQ))]) d=some ch->(d=c/\ch= .aG (fT hQ))\/(d≠c/\ah jN d=some ch):=fun {d ch} h=>by
  rw[iC] at h
  cases e:ah jN d with
  |some ch'=>
   rw[e] at h;exact .inr ⟨fun Kb=>(by rw[Kb,QY] at e;cases e),h⟩
  |none=>
   rw[e] at h;obtain⟨aj,ap⟩:=uB h;exact .inl ⟨aj,ap⟩
 have dJ:ah (jN++[(c,bd.aG (fT hQ))]) c=some (.aG (fT hQ)):=by rw[iC,QY];exact nU
 have v7:cu c=(fun b=>b=l\/ ∃d ch,ah (gZ hQ) d=some ch/\F d b):=if_pos rfl;have tp: ∀{d},d≠c->cu d=F d:=fun {d} h=>if_neg h
 have aoY:w.heap.size<=l:=by omega
 refine(j0.2 ρ cu k' dz _ (fun b O=>by have:=O.1;omega) ?_ ?_ ?_ (by simp[ac3]) ?_).mono ?_
 .intro d ch J;rcases iB J with⟨rfl,rfl⟩ |⟨e,J⟩
  .rw[v7]
   exact⟨cd.refl _ _,J',ρ,F,rfl,fun _ _=>rfl,fun d ch J=>Holds.cg m7 (fun b O=>qb.block b (ar.own d ch (px J).1 b O).1) qb.size ch (fun _ _=>rfl) (ar.holds d ch (px J).1),fun d cZ ch ch' b E G=>ar.e9 d cZ ch ch' b (px E).1 (px G).1,
    fun d ch J O=>by have:=(ar.own d ch (px J).1 l O).1;omega,fun b=>Iff.rfl⟩
  .rw[tp e];exact Holds.cg m7 (fun b O=>qb.block b (ar.own d ch (re J) b O).1) qb.size ch (fun _ _=>rfl) (ar.holds d ch (re J))
 .intro d ch J b O;rcases iB J with⟨rfl,rfl⟩ |⟨e,J⟩
  .rw[v7] at O;rcases O with rfl |⟨d,ch,J,O⟩
   .exact⟨k0 J',fun aI=>by have:=aI.1;omega⟩
   .have:=(ar.own d ch (px J).1 b O).1;exact⟨au5,fun aI=>aI.2.2 d ch (px J).1 O⟩
  .rw[tp e] at O;have:=(ar.own d ch (re J) b O).1;exact⟨au5,fun aI=>aI.2.2 d ch (re J) O⟩
 .intro d cZ ch ch' b J dK ba O dm
  have key: ∀{d ch b},ah jN d=some ch->F d b-> ¬(b=l\/ ∃d ch,ah (gZ hQ) d=some ch/\F d b):=fun {aj cB b1} cf cM hx=>by
   rcases hx with hx |⟨i5,oC,eb,eA⟩
   .have:=(ar.own aj cB (re cf) _ cM).1;omega
   .exact ar.e9 aj i5 cB oC b1 (re cf) (px eb).1 (fun e=>by rw[e,(px eb).2] at cf;cases cf) cM eA
  rcases iB J with⟨e,_⟩ |⟨e,J⟩ <;>rcases iB dK with⟨b5,_⟩ |⟨b5,dK⟩
  .exact ba (e.trans b5.symm)
  .rw[e,v7] at O;rw[tp b5] at dm;exact key dK dm O
  .rw[tp e] at O;rw[b5,v7] at dm;exact key J O dm
  .rw[tp e] at O;rw[tp b5] at dm;exact ar.e9 d cZ ch ch' b (re J) (re dK) ba O dm
 .intro i v x az hx
  match i with
  |0=>
   simp only[aq5,ap4] at az hx;subst az hx;rfl
  |i+1=>exact ct.mono m7 v x (fun _ _=>rfl) (ac4 i v x (by simpa using az) (by simpa using hx))
 rintro e e0 ⟨x,ρ',F',rfl,cz,dl,I',i6,gA,lz,aE,h2,-⟩;have kQ:Fu ρ hR k' dz l rec c (gZ Cd) I' (F' c) e0 (ρ' c):=lz c _ nU;obtain⟨aw,aq,oN,b8,cx,xD,cA,dy,zx,fa⟩:=kQ;have mI:=k0 aq;obtain⟨iM,m9⟩: ∃iM,iM=e0.putObj l (.loop {rec with state:=.exhausted}):=⟨_,rfl⟩
 have dO:(Instr.endLoop l).run P e0= .ok none iM:=by
  have E:=run_endLoop (P:=P) aq (by rw[jJ];simp);have G:rec.pending=none:=by rw[jJ]
  rw[m9,E,G]
 refine⟨none,iM,dO,?_⟩;show h0 .normal {a with defers:=[wT w.heap.size]++a.defers} iM;have sj:iM.heap.size=e0.heap.size:=by rw[m9,World.putObj_size]
 have v1: ∀b,b≠l->iM.heap[b]? =e0.heap[b]? :=fun b O=>by rw[m9];exact World.putObj_heap_other O
 have xG:iM.os=e0.os/\iM.tape=e0.tape/\iM.output=e0.output:=by rw[m9];exact⟨rfl,rfl,rfl⟩
 have aoZ:=cz.size
 have Kc: ∀{b},F' c b->b < e0.heap.size/\ ¬I' b/\(b=l\/(∃d ch,ah (jN++gZ hQ) d=some ch/\F d b)\/dz.heap.size<=b):=fun {b} O=>by
  obtain⟨r1,r2,ga⟩:=aE c _ nU b O;refine⟨r1,r2,?_⟩;rcases ga with⟨d,ch,J,hf⟩ |ga
  .rcases iB J with⟨rfl,rfl⟩ |⟨e,J⟩
   .rw[v7] at hf;exact hf.imp id fun⟨d,ch,J,hf⟩=>.inl ⟨d,ch,(px J).1,hf⟩
   .rw[tp e] at hf;exact .inr (.inl ⟨d,ch,re J,hf⟩)
  .exact .inr (.inr ga)
 have zy: ¬I' l:=(Kc ((fa l).2 (.inl rfl))).2.1
 have QZ: ∀{b},((∃d ch,ah (jN++gZ hQ) d=some ch/\F d b)\/dz.heap.size<=b)->(C.p0 b\/C.f2.heap.size<=b/\b∉w.heap.size::C.ds):=fun {b} h=>by
  rcases h with⟨d,ch,J,hf⟩ |h
  .obtain⟨r1,r2⟩:=ar.own d ch J b hf;exact r2.imp id fun x=>⟨x.1,fun aA=>(ap3.1 aA).elim (fun e=>by omega) x.2⟩
  .have:=ar.fresh (b:=b) au5;exact .inr ⟨this.1,fun aA=>(ap3.1 aA).elim (fun e=>by omega) this.2⟩
 have ac7: ∀{b},(k' b\/(∃d ch,ah (jN++gZ hQ) d=some ch/\F d b)\/dz.heap.size<=b)->(C.yH b\/C.p0 b\/C.f2.heap.size<=b/\b∉w.heap.size::C.ds):=fun {b} h=>by
  rcases h with h |h
  .have E:=h.1;exact h.2.1.imp id fun x=>x.imp id fun x=>⟨x.1,fun aA=>(ap3.1 aA).elim (fun e=>by omega) x.2⟩
  .exact .inr (QZ h)
 have Ce:cd I' e0 (bZ (C.at (w.heap.size::C.ds)) (gZ Cd) b8 iM) iM:=fun b O=>by
  have ba:b≠l:=fun e=>zy (e▸O)
  obtain⟨r1,r2⟩:=gA b O;refine⟨⟨by rw[sj];exact r1,ac7 ?_,fun d ch J a6=>(Kc ((fa b).2 (.inr ⟨d,ch,J,a6⟩))).2.1 O⟩,v1 b ba⟩;rcases r2 with r2 |⟨d,ch,J,hf⟩ |r2
  .exact .inl r2
  .rcases iB J with⟨rfl,rfl⟩ |⟨e,J⟩
   .rw[v7] at hf;rcases hf with hf |⟨d,ch,J,hf⟩
    .exact absurd hf ba
    .exact .inr (.inl ⟨d,ch,(px J).1,hf⟩)
   .rw[tp e] at hf;exact .inr (.inl ⟨d,ch,re J,hf⟩)
  .exact .inr (.inr r2)
 refine aV .gX kP (gZ Cd) (w.heap.size::C.ds) (fun h=>by rw[hid] at h;cases h) Bz _ _ ⟨hn,?_,oN,b8,⟨?_,?_,?_,dy,?_,?_,ar.kG.2.1,?_⟩,?_⟩
 .show[wT w.heap.size]++a.defers=List.map wT (w.heap.size::C.ds);rw[J];rfl
 .refine(ar.fr.trans (S':=fun b=>b=l\/ ∃d ch,ah (jN++gZ hQ) d=some ch/\F d b) ?_ fun b O h=>?_)
  .have h1:cJ (fun b=>b=l\/ ∃d ch,ah (jN++gZ hQ) d=some ch/\F d b) w dz:=cJ.mn qb;have pj:cJ (fun b=>b=l) e0 iM:=⟨xG.1,xG.2.1,xG.2.2,Nat.le_of_eq sj.symm,fun b _ O=>v1 b O⟩;refine(h1.trans cz ?_).trans pj fun b _ O=>.inl O
   rintro b _ ⟨d,ch,J,hf⟩;rcases iB J with⟨rfl,rfl⟩ |⟨e,J⟩
   .rw[v7] at hf;exact hf.imp id fun⟨d,ch,J,hf⟩=>⟨d,ch,(px J).1,hf⟩
   .rw[tp e] at hf;exact .inr ⟨d,ch,re J,hf⟩
  .have z0:=ar.fr.size;rcases h with h |⟨d,ch,J,hf⟩
   .omega
   .rcases(ar.own d ch J b hf).2 with h |h
    .exact h
    .have:=h.1;omega
 .exact fun d ch J=>Holds.cg Ce (fun b O=>v1 b (fun e=>zx d ch J (e▸O))) (Nat.le_of_eq sj.symm) ch (fun _ _=>rfl) (cA d ch J)
 .intro d ch J b O;obtain⟨r1,r2,ga⟩:=Kc ((fa b).2 (.inr ⟨d,ch,J,O⟩));have ba:b≠l:=fun e=>zx d ch J (e▸O)
  exact⟨by rw[sj];exact r1,QZ (ga.resolve_left ba)⟩
 .exact fun d J=>(xD d (H2 d J)).trans (ar.ed d J)
 .exact aq7.2 ⟨fun h=>by have:=(ar.kG.2.2 _ h).1;omega,ar.kG.1⟩
 .intro D b9
  have Kd:D≠l/\D < dz.heap.size/\dz.heap[D]? =some (.deferred (some []))/\C.f2.heap.size<=D:=by
   rcases ap3.1 b9 with rfl |b9
   .exact⟨au5,au5,Ka,ar.fr.size⟩
   .obtain⟨r1,r2,ga⟩:=ar.kG.2.2 D b9;exact⟨au5,au5,(qb.block D r1).trans r2,ga⟩
  obtain⟨kN,bD,ub,Be⟩:=Kd
  have zz: ¬ ∃d ch,ah (jN++[(c,bd.aG (fT hQ))]) d=some ch/\cu d D:=by
   rintro⟨d,ch,J,hf⟩
   have bK: ∃d ch,ah (jN++gZ hQ) d=some ch/\F d D:=by
    rcases iB J with⟨rfl,rfl⟩ |⟨e,J⟩
    .rw[v7] at hf;rcases hf with hf |⟨d,ch,J,hf⟩
     .exact absurd hf kN
     .exact⟨d,ch,(px J).1,hf⟩
    .rw[tp e] at hf;exact⟨d,ch,re J,hf⟩
   obtain⟨d,ch,J,hf⟩:=bK;obtain⟨r1,r2⟩:=ar.own d ch J D hf;rcases ap3.1 b9 with rfl |b9
   .omega
   .rcases r2 with r2 |r2
    .have:=ar.kG.2.1 D (.inr r2);omega
    .exact r2.2 b9
  exact⟨by rw[sj];omega,(v1 D kN).trans ((cz.block D bD zz).trans ub),Be⟩
 .intro t;exact ct.mono (i6.trans Ce) _ _ (fun j aa=>xD j (aQ.km (J4 fd t) aa)) (ho t)
end
end
section
def Ke:bC->Value
 | .d (.int k n)=>.int k n
 | .d (.bool b)=>.bool b
 | .d (.lit b)=>.bool b
 | .d (.str s)=>.string ⟨List.toArray s⟩
 |_=>.nilFunc
def zA:bC->Lit
 | .d (.int k n)=>.int k n
 | .d (.bool b)=>.bool b
 | .d (.lit b)=>.bool b
 | .d (.str s)=>.string s
 |_=>.nil
def Kf:bC->Bool
 | .d (.int _ _)=>true
 | .d (.bool _)=>true
 | .d (.lit _)=>true
 | .d (.str _)=>true
 |_=>false
def oS:List bC->List Value
 | []=>[]
 |s::l=>Ke s::oS l
def jO:List bC->List Lit
 | []=>[]
 |s::l=>zA s::jO l
def Cf:List bC->Bool
 | []=>true
 |s::l=>Kf s&&Cf l
theorem Kg {ρ:Nat->bo} {I:Nat->Prop} {w:World}: ∀{l:List bC} {aD:List Value},Cf l=true->b' ρ I w l aD->aD=oS l
 | [],aD,_,h=>h
 |s::l,aD,ag,⟨v,r,e,E,G⟩=>by
  simp only[Cf,vj] at ag;have al:=Kg ag.2 G;subst al e
  have:v=Ke s:=by
   cases s with
   |d x=>cases x <;>first |exact E |(simp[Kf] at ag;done)
   |_=>simp[Kf] at ag
  rw[this];rfl
section
variable {P:Program} {aU:dd} {ids:List Nat} {K:a1} {B:ay}
theorem Kh {o:Oper} {T fE:TypeId} {x y:Operand} {lx ly:List bC} {m D:Nat} (ai:o.op= .binOp .eql T x y fE) (a6:P.eqGuardType P.depth T=false) (ab:P.keyTypeAt m T=true) (aA:m<=10000)
  (hx:a7 K x= .c (.agg lx)) (aC:a7 K y= .c (.agg ly)) (g':(Cf lx&&Cf ly)=true) (ac8:(Value.agg (List.toArray (oS lx))).formed P T=true) (ac9:(Value.agg (List.toArray (oS ly))).formed P T=true)
  (ac':P.keyLits D T (oS lx)=some (jO lx)) (ada:P.keyLits D T (oS ly)=some (jO ly)) {r:Bool} (aF:r=true↔jO lx=jO ly) (N:Nat):bB P N ids o K B (.c (.one (.d (.bool r)))) ⟨[],[],[]⟩:=by
 have m1:x∈o.op.operands:=by rw[ai];simp[Op.operands]
 have m2:y∈o.op.operands:=by rw[ai];simp[Op.operands]
 simp only[vj] at g';refine bB.val fun K' B' g1 g2 C ρ F a w ar av=>?_
 obtain⟨aD,aj,E⟩:=av.ev ((g1 x m1).trans hx);obtain⟨us,ap,G⟩:=av.ev ((g1 y m2).trans aC);have E:=Kg g'.1 E;have G:=Kg g'.2 G;subst E G;obtain⟨q,aV,qS⟩:=run_equalIn_deep (P:=P) (10000 - m) m T ab w D D (.agg (List.toArray (oS lx))) (.agg (List.toArray (oS ly))) (jO lx) (jO ly) ac8 ac9 (by simpa[Value.cells] using ac') (by simpa[Value.cells] using ada);rw[show 10000 - m+m=10000 by omega] at aV
 have aH:q=r:=by
  cases q <;>cases r
  .rfl
  .exact absurd (qS.2 (aF.1 rfl)) au7
  .exact absurd (aF.2 (qS.1 rfl)) au7
  .rfl
 subst aH;refine⟨.bool q,?_,rfl⟩;simp only[execOp,ai,aj,ap,Sem.run_bind,run_eqGuard_agg w .eql T x y _ _ a6,Result.andThen_ok,run_eql_struct,aV,Sem.run_pure]
theorem Ki {o:Oper} {T:TypeId} {x:Operand} {f:Nat} {l:List bC} {fs:Array Field} {jH:Field} {d:TypeDesc} {s:bC} (ai:o.op= .field T x f) (cc:P.underlying T=some (.struct fs)) (t':fs[f]? =some jH) (J:P.underlying jH.type=some d) (fW:d.isRow=false)
  (hx:a7 K x= .c (.agg l)) (ax:l[jH.offset]? =some s) (N:Nat):bB P N ids o K B (.c (.one s)) ⟨[],[],[]⟩:=by
 have m1:x∈o.op.operands:=by rw[ai];simp[Op.operands]
 refine bB.val fun K' B' g1 g2 C ρ F a w ar av=>?_
 obtain⟨aD,aj,E⟩:=av.ev ((g1 x m1).trans hx);obtain⟨v,az,dt⟩:=b'.get _ _ E jH.offset s ax;refine⟨v,?_,dt⟩;have Kj:(Go.isAgg jH.type).run P w= .ok false w:=by cases d <;>first |(simp[TypeDesc.isRow] at fW;done) |simp[Go.isAgg,run_underlying J]
 have hq:(List.toArray aD)[jH.offset]? =some v:=by simpa using az
 simp only[execOp,ai,aj,Instr.field,Sem.run_bind,run_underlying cc,Result.andThen_ok,t',asAgg,Sem.run_pure,part,Kj,Bool.false_eq_true,if_false,hq]
theorem Kk {n:Nat} {u:bx} (g:List (Z u)) (i q:Nat) (aV:q < aS u):fA (.arr n u) g (i*aS u+q)=fA u (List.getD g i (cK u)) q:=by
 show fA u (List.getD g ((i*aS u+q)/aS u) (cK u)) ((i*aS u+q) % aS u)=_;rw[show(i*aS u+q)/aS u=i by rw[Nat.mul_comm,Nat.mul_add_div au5,Nat.div_eq_of_lt aV,Nat.add_zero],show(i*aS u+q) % aS u=q by rw[Nat.mul_comm,Nat.mul_add_mod,Nat.mod_eq_of_lt aV]]
theorem adb {o:Oper} {T:TypeId} {x i:Operand} {n e:Nat} {c7:TypeInfo} {d:TypeDesc} {u:bx} {g:List (Z u)} {j:Int} (ai:o.op= .index T x i) (cc:P.underlying T=some (.array n e)) (V:P.underlying e=some d) (fW:d.isRow=true) (aI:P.info? e=some c7) (aR:c7.size=aS u)
  (hx:a7 K x= .c (.agg (gh (.arr n u) g 0 (n*aS u)))) (aa:a7 K i= .c (.one (.d (.int .i64 j)))) (aw:0<=j) (E:j < n) (N:Nat):bB P N ids o K B (.c (.agg (gh u (List.getD g j.toNat (cK u)) 0 (aS u)))) ⟨[],[],[]⟩:=by
 have m1:x∈o.op.operands:=by rw[ai];simp[Op.operands]
 have m2:i∈o.op.operands:=by rw[ai];simp[Op.operands]
 refine bB.val fun K' B' g1 g2 C ρ F a w ar av=>?_
 obtain⟨aD,aj,J⟩:=av.ev ((g1 x m1).trans hx);have ap:=av.int ((g1 i m2).trans aa);have b6:aD.length=n*aS u:=(b'.length _ _ J).trans (s4 (.arr n u) g _ _);have Kj:(Go.isAgg e).run P w= .ok true w:=by cases d <;>first |(simp[TypeDesc.isRow] at fW;done) |simp[Go.isAgg,run_underlying V]
 have cQ:(sizeOf e).run P w= .ok (aS u) w:=by simp[sizeOf,typeInfo,aI,aR]
 have gY:j.toNat*aS u+aS u<=n*aS u:=by
  have:=Nat.mul_le_mul_right (aS u) (show j.toNat+1<=n by omega);rw[Nat.succ_mul] at this;exact this
 refine⟨.agg ((List.toArray aD).extract (j.toNat*aS u) (j.toNat*aS u+aS u)),?_,(aD.drop (j.toNat*aS u)).take (aS u),by simp[List.extract],?_⟩
 .simp[execOp,ai,aj,ap,Instr.index,asIntOf,run_underlying cc,aw,E,cQ,part,Kj]
 .have key: ∀(m g0:Nat),g0+m<=aS u->b' ρ (bZ C B' F w) w (gh u (List.getD g j.toNat (cK u)) g0 m) ((aD.drop (j.toNat*aS u+g0)).take m):=fun m=>by
   induction m with
   |zero=>intro g0 _;simp[gh,b']
   |succ m br=>
    intro g0 aA;have bw:j.toNat*aS u+g0 < n*aS u:=by omega
    obtain⟨v,az,ta⟩:=b'.get _ _ J _ _ (yZ (.arr n u) g (n*aS u) 0 (j.toNat*aS u+g0) bw)
    have Cg:aD.drop (j.toNat*aS u+g0)=v::aD.drop (j.toNat*aS u+(g0+1)):=by
     obtain⟨aq,oE⟩:=ap5.1 az;rw[List.drop_eq_getElem_cons aq,oE,Nat.add_assoc]
    rw[Cg,List.take_succ_cons];refine⟨v,_,rfl,?_,br (g0+1) au5⟩
    have H:fA (.arr n u) g (0+(j.toNat*aS u+g0))=fA u (List.getD g j.toNat (cK u)) g0:=by
     rw[Nat.zero_add];exact Kk g _ _ au5
    rw[H] at ta;exact ta
  exact key (aS u) 0 au5
theorem af.adc (c:Nat) {u:bx} {x:Z u} (hw:ow u x) (H:ah B c=some (.cells (gh u x 0 (aS u)))):af ids K B K ((c,.val u x)::B):=by
 rintro N C a w ⟨hn,J,ρ,F,ar,av⟩;obtain⟨bj,aD,T,O,dt⟩:=ar.holds c _ H;obtain⟨bN,aY⟩:=ar.hN (w':=w) (ch:=.val u x) H (cJ.refl _ _) fun I bb=>⟨bj,aD,T,O,by rw[b'.length _ _ dt,s4],Bb hw (b'.mono (ρ':=ρ) bb _ _ (fun _ _=>rfl) dt)⟩
 exact⟨hn,J,ρ,F,bN,av.mono aY fun _ _ _=>rfl⟩
theorem ade {o:Oper} {T:TypeId} {x i:Operand} {n e c:Nat} {c7:TypeInfo} {s:Nat} {j:Int} (ai:o.op= .indexAddr T x i) (cc:P.underlying T=some (.array n e)) (aI:P.info? e=some c7) (aR:c7.size=s)
  (hx:a7 K x= .c (.one (.ptr c 0))) (aa:a7 K i= .c (.one (.d (.int .i64 j)))) (aw:0<=j) (E:j < n) (N:Nat):bB P N ids o K B (.c (.one (.f1 c s j.toNat 0))) ⟨[],[],[]⟩:=by
 have m1:x∈o.op.operands:=by rw[ai];simp[Op.operands]
 have m2:i∈o.op.operands:=by rw[ai];simp[Op.operands]
 refine bB.val fun K' B' g1 g2 C ρ F a w ar av=>?_
 have aj:=av.ptr ((g1 x m1).trans hx);have ap:=av.int ((g1 i m2).trans aa);have cQ:(sizeOf e).run P w= .ok s w:=by simp[sizeOf,typeInfo,aI,aR]
 refine⟨.pointer (some ⟨(ρ c).bk,j.toNat*s,none⟩),?_,rfl⟩;simp[execOp,ai,aj,ap,Instr.indexAt,asIntOf,run_underlying cc,aw,E,cQ,Instr.sureAddr,pX]
theorem adf {I:Nat->Prop} {w:World} {n:Nat} {u:bx} {g:List (Z u)} {c:Nat->Option Value} (J:cp I w (.arr n u) g c) {y:Z u} {j:Nat} {cs:List Value} (aq:cs.length=aS u) (aC:cp I w u y (fun i=>cs[i]?)) (aa:j < n):
  cp I w (.arr n u) (g.set j y) (fun i=>if j*aS u<=i/\i < j*aS u+aS u then cs[i - j*aS u]? else c i):=by
 obtain⟨E,G⟩:=J;refine⟨by rw[List.length_set];exact E,fun i aB aR=>?_⟩;unfold fB at aR;rw[List.getElem?_set] at aR
 split at aR
 .rename_i e;subst e
  split at aR
  .injection aR with aR
   subst aR;refine cp.mono (cd.refl _ _) u y _ _ (fun q v az=>?_) aC;have aV:q < aS u:=by rw[<-aq];exact(ap5.1 az).1
   simp only;rw[if_pos ⟨au5,au5⟩,show j*aS u+q - j*aS u=q by omega];exact az
  .cases aR
 .rename_i ba;have m':=G i aB aR;rcases Nat.eq_zero_or_pos (aS u) with aw |aw
  .refine cp.mono (cd.refl _ _) u aB _ _ (fun q v az=>?_) m';simp only;rw[if_neg au5];exact az
  .refine cp.mk u aB _ (cp.wf u aB _ m') fun q aV=>?_
   obtain⟨v,az,ta⟩:=cp.cell u aB _ q m' aV;refine⟨v,?_,ta⟩;simp only;rw[if_neg ?_]
   .exact az
   .rintro⟨b4,ci⟩;rcases Nat.lt_or_gt_of_ne ba with bw |uc
    .have:=Nat.mul_le_mul_right (aS u) (show j+1<=i by omega);rw[Nat.succ_mul] at this;omega
    .have:=Nat.mul_le_mul_right (aS u) (show i+1<=j by omega);rw[Nat.succ_mul] at this;omega
theorem adg {o:Oper} {T:TypeId} {x v:Operand} {c n j:Nat} {u:bx} {g:List (Z u)} {y:Z u} {c7:TypeInfo} (ai:o.op= .store T x v) (aI:P.info? T=some c7) (aR:c7.size=aS u) (hx:a7 K x= .c (.one (.f1 c (aS u) j 0))) (aa:j < n)
  (H:ah B c=some (.val (.arr n u) g)) (az:a7 K v= .c (.agg (gh u y 0 (aS u)))) (hw:ow u y) (N:Nat):bB P N ids o K B .undef ⟨[c],[],[(c,some (.val (.arr n u) (g.set j y)))]⟩:=by
 have m1:x∈o.op.operands:=by rw[ai];simp[Op.operands]
 have m2:v∈o.op.operands:=by rw[ai];simp[Op.operands]
 refine bB.hN H fun K' B' g1 C ρ F a w ar av f4=>?_
 obtain⟨bj,aD,eT,O,b6,dt⟩:=ar.holds c _ f4;have aj:=av.f1 ((g1 x m1).trans hx);obtain⟨us,ap,G⟩:=av.ev ((g1 v m2).trans az);have Kl:us.length=aS u:=by rw[b'.length _ _ G,s4]
 have Q0:=Bb hw G
 have k1:j*aS u+us.length<=aD.length:=by
  have:=Nat.mul_le_mul_right (aS u) (show j+1<=n by omega);rw[Nat.succ_mul] at this;rw[b6,Kl];exact this
 have rV: ∀aB,aB∈us->aB.oneCell'=true:=fun aB aR=>by
  obtain⟨q,aV,rfl⟩:=List.getElem_of_mem aR;obtain⟨z',q1,sX⟩:=cp.one u y _ Q0 q au5;rw[oj aV] at q1;injection q1 with q1
  rw[q1];exact sX
 have dO:=Ba (P:=P) (o:=o) (ev:=a.eval) (w:=w) (us:=us) ai (by rw[aj,Nat.add_zero]) (by rw[ap];rfl) aI (aR.trans Kl.symm) O k1 rV;have gN:(w.setRow (ρ c).bk (List.toArray (aD.take (j*aS u)++us++aD.drop (j*aS u+us.length)))).heap[(ρ c).bk]? =some (.cells (List.toArray (aD.take (j*aS u)++us++aD.drop (j*aS u+us.length))) eT (0,0)):=setRow_heap w _ _ _ eT _ O;refine⟨_,dO,⟨rfl,rfl,rfl,by simp[World.setRow],fun k _ ab=>setRow_other w _ k _ (fun e=>ab ((bj k).2 e))⟩,fun I aY=>⟨bj,_,eT,gN,?_,?_⟩⟩
 .rw[ap1,ap1,ap8,at1];omega
 .refine cp.mk (.arr n u) (g.set j y) _ ?_ ?_
  .have Q1:=cp.wf (.arr n u) g _ dt;refine⟨by rw[List.length_set];exact Q1.1,fun aB aR=>?_⟩;rcases List.mem_or_eq_of_mem_set aR with aR |rfl
   .exact Q1.2 aB aR
   .exact hw
  .intro q aV;have oF:=adf dt (y:=y) (j:=j) Kl Q0 aa;obtain⟨aB,aR,yL⟩:=cp.cell (.arr n u) _ _ q oF aV;refine⟨aB,?_,gE.mono aY _ _ yL⟩;rw[<-aR];have Fa:q < aD.length:=by rw[b6];exact aV
   split
   .rename_i fq;rw[as6,ar9 (by rw[ap8];omega),ap8,ar7 au5]
    congr 1
    omega
   .rename_i nM;rcases Nat.lt_or_ge q (j*aS u) with bw |vp
    .rw[as6,ar7 (by rw[ap8];omega),List.getElem?_take,if_pos bw]
    .have:j*aS u+aS u<=q:=by
      rcases Nat.lt_or_ge q (j*aS u+aS u) with h |h
      .exact absurd ⟨vp,h⟩ nM
      .exact h
     rw[ar9 (by rw[ap1,ap8];omega),ap1,ap8,List.getElem?_drop]
     congr 1
     omega
theorem Q2 {o:Oper} {T:TypeId} {x:Operand} {c:Nat} {u:bx} {y:Z u} {c7:TypeInfo} {d:TypeDesc} (ai:o.op= .load T x) (cc:P.underlying T=some d) (fW:d.isRow=true) (aI:P.info? T=some c7) (aR:c7.size=aS u) (hx:a7 K x= .c (.one (.ptr c 0)))
  (H:ah B c=some (.val u y)) (N:Nat):bB P N ids o K B (.c (.agg (gh u y 0 (aS u)))) ⟨[c],[],[]⟩:=by
 have m1:x∈o.op.operands:=by rw[ai];simp[Op.operands]
 refine bB.val fun K' B' g1 g2 C ρ F a w ar av=>?_
 obtain⟨bj,aD,eT,O,b6,dt⟩:=ar.holds c _ ((g2 c au7).trans H);have aj:=av.ptr ((g1 x m1).trans hx);obtain⟨us,E,G⟩:=Et (ρ:=ρ) dt (aS u) 0 au5;refine⟨_,Er (cs:=us) ai aj cc fW aI (by rw[b'.length _ _ E,s4];exact aR) (fun j v aa=>?_),us,rfl,E⟩;have:=G j v aa;exact oD O this
theorem adh {aU:dd} (bn:d6 P aU) {o:Oper} {T n e:Nat} {ti:cb} (ai:o.op= .build T #[]) (cr:aU.find T=some ti) (cc:P.underlying T=some (.array n e)) {Ch:TypeInfo} (adi:P.info? e=some Ch) (fW:ti.row=true) (N:Nat):bB P N ids o K B (.c (.agg ti.zero)) ⟨[],[],[]⟩:=by
 refine bB.val fun K' B' g1 g2 C ρ F a w ar av=>?_
 obtain⟨i,d,bu⟩:=bn.at_ cr;obtain⟨aB,aR,mx⟩:=bu.zero;obtain⟨kj,qZ⟩:=vx (ρ:=ρ) (I:=bZ C B' F w) (w:=w) _ _ mx;refine⟨.agg aB.cells,?_,aB.cells.toList,au7,kj⟩;simp[execOp,ai,Instr.build,zeroValue,typeInfo,bu.jF,aR,run_underlying cc,sizeOf,adi,Instr.fill]
theorem adj {o:Oper} {T e d:Nat} {x y:Operand} {c7:TypeInfo} {n:Int} (ai:o.op= .makeSlice T x y) (cc:P.underlying T=some (.slice e)) (aI:P.info? e=some c7) (aR:c7.zero=some (.int .i64 0)) (ax:c7.size=1) (O:c7.bytes=8)
  (hx:a7 K x= .c (.one (.d (.int .i64 n)))) (aC:a7 K y= .c (.one (.d (.int .i64 n)))) (aw:0<=n) (E:n<=1000000) (N:Nat):bB P N ids o K B (.c (.one (.own d))) ⟨[],[d],[(d,some (.row e (.int .i64) (List.replicate n.toNat (0:Int))))]⟩:=by
 have m1:x∈o.op.operands:=by rw[ai];simp[Op.operands]
 have m2:y∈o.op.operands:=by rw[ai];simp[Op.operands]
 refine bB.make (fun d h=>Bf h) fun K' B' g1 g2 C ρ F a w ar av hn=>?_
 have dE:=av.int ((g1 x m1).trans hx);have d4:=av.int ((g1 y m2).trans aC);have dO:=run_make (P:=P) w T e c7 _ cc aI aR .i64 .i64 n n aw (Int.le_refl _) (by rw[O];omega) au5
 have wQ:madeCells (Value.int .i64 0).cells (n.toNat*c7.size)=(List.replicate n.toNat (Value.int .i64 0)).toArray:=by
  rw[ax];simp[madeCells,Value.cells];apply Array.ext
  .simp
  .intro i E G;simp[Nat.mod_one]
 rw[wQ] at dO;refine⟨.slice (some ⟨w.heap.size,0,none⟩) n.toNat n.toNat,w.alloc (.cells (List.replicate n.toNat (.int .i64 0)).toArray e),⟨w.heap.size,some ⟨w.heap.size,0,none⟩,n.toNat,n.toNat⟩,fun b=>b=w.heap.size,?_,sU w _,fun b O=>?_,fun I aY bb=>⟨⟨?_,?_,List.replicate n.toNat (.int .i64 0),?_,?_⟩,?_⟩⟩
 .simp only[execOp,ai,Sem.run_bind,dE,d4,dO,Result.andThen_ok,Sem.run_pure]
 .subst O;simp
 .intro b;simp[bo.er,Value.ownBlock,eq_comm]
 .intro b O;simp[bo.er,Value.ownBlock] at O;exact O.symm
 .have:=Ey w e 1 n.toNat (List.replicate n.toNat (.int .i64 0)) au7 (by simp only[maxLen];omega);have aj:List.length (α:=Z (.int .i64)) (List.replicate n.toNat (0:Int))=n.toNat:=as7;rw[aj];exact this
 .intro i aB aR;obtain⟨aI,q1⟩:=ap5.1 aR;have s9:aB=(0:Int):=by rw[<-q1];exact List.getElem_replicate ..
  subst s9
  have aI:i < n.toNat:=by
   have E:i < List.length (α:=Int) (List.replicate n.toNat (0:Int)):=aI;rw[as7] at E;exact E
  show(List.replicate n.toNat (Value.int .i64 0))[i*1+0]? =some (.int .i64 0);simp[aI]
 .simp only[ct,gy,dS,c6];rfl
theorem Q3 (w:World) {T:TypeId} {bE i7:Array TypeId} {t6:Bool} (cc:P.underlying T=some (.func bE i7 t6)) (f:Go.Fn) (a b:Array Value):(binOp .eql T (.func f a b) .nilFunc).run P w= .ok (.bool false) w/\(binOp .neq T (.func f a b) .nilFunc).run P w= .ok (.bool true) w:=by
 have aw: ∀d,(Op.equalIn (d+1) T (.func f a b) .nilFunc).run P w= .ok false w:=fun d=>by simp[Op.equalIn,run_underlying cc]
 have h:(Op.equalIn 10000 T (.func f a b) .nilFunc).run P w= .ok false w:=aw 9999;constructor
 .simp only[binOp];simp[Op.equal,Op.maxDepth,h]
 .simp only[binOp];simp[Op.equal,Op.maxDepth,h]
theorem adk {o:Oper} {T fE:TypeId} {x:Operand} {op:BinOp} {y:Nat×List Nat} {b:Bool} {bE i7:Array TypeId} {t6:Bool} (vI:(op= .eql/\b=false)\/(op= .neq/\b=true)) (ai:o.op= .binOp op T x (.const .nilFunc) fE) (cc:P.underlying T=some (.func bE i7 t6))
  (hx:a7 K x= .c (.one (.d (.fn y)))) (N:Nat):bB P N ids o K B (.c (.one (.d (.lit b)))) ⟨[],[],[]⟩:=by
 have m1:x∈o.op.operands:=by rw[ai];simp[Op.operands]
 refine bB.val fun K' B' g1 g2 C ρ F a w ar av=>?_
 have aj:a.eval x=mo y:=av.ev ((g1 x m1).trans hx);refine⟨.bool b,?_,rfl⟩;have ap:a.eval (.const .nilFunc)= .nilFunc:=rfl;rcases vI with⟨rfl,rfl⟩ |⟨rfl,rfl⟩
 .have h:=(Q3 (P:=P) w cc (.func y.1) #[] (List.toArray (qQ y.2))).1;simp[execOp,ai,aj,ap,eqGuard,mo,h]
 .have h:=(Q3 (P:=P) w cc (.func y.1) #[] (List.toArray (qQ y.2))).2;simp[execOp,ai,aj,ap,eqGuard,mo,h]
theorem Q4 (w:World) {T:TypeId} {bE i7:Array TypeId} {t6:Bool} (cc:P.underlying T=some (.func bE i7 t6)):(binOp .eql T .nilFunc .nilFunc).run P w= .ok (.bool true) w/\(binOp .neq T .nilFunc .nilFunc).run P w= .ok (.bool false) w:=by
 have aw: ∀d,(Op.equalIn (d+1) T .nilFunc .nilFunc).run P w= .ok true w:=fun d=>by simp[Op.equalIn,run_underlying cc]
 have h:(Op.equalIn 10000 T .nilFunc .nilFunc).run P w= .ok true w:=aw 9999;constructor
 .simp only[binOp];simp[Op.equal,Op.maxDepth,h]
 .simp only[binOp];simp[Op.equal,Op.maxDepth,h]
theorem adl {o:Oper} {T fE:TypeId} {x:Operand} {op:BinOp} {b:Bool} {bE i7:Array TypeId} {t6:Bool} (vI:(op= .eql/\b=true)\/(op= .neq/\b=false)) (ai:o.op= .binOp op T x (.const .nilFunc) fE) (cc:P.underlying T=some (.func bE i7 t6))
  (hx:a7 K x= .c (.one (.bI .nilFunc))) (N:Nat):bB P N ids o K B (.c (.one (.d (.lit b)))) ⟨[],[],[]⟩:=by
 have m1:x∈o.op.operands:=by rw[ai];simp[Op.operands]
 refine bB.val fun K' B' g1 g2 C ρ F a w ar av=>?_
 have aj:=av.bI ((g1 x m1).trans hx);refine⟨.bool b,?_,rfl⟩;have ap:a.eval (.const .nilFunc)= .nilFunc:=rfl;rcases vI with⟨rfl,rfl⟩ |⟨rfl,rfl⟩
 .have h:=(Q4 (P:=P) w cc).1;simp[execOp,ai,aj,ap,eqGuard,h]
 .have h:=(Q4 (P:=P) w cc).2;simp[execOp,ai,aj,ap,eqGuard,h]
end
end
section
abbrev tq:bx:=.bR (.int .i64) (.bR (.int .i64) .bool)
abbrev fu:bx:=.arr 16 tq
abbrev e7:=Int×Int×Bool
abbrev qf (s:e7):List bC:=[.d (.int .i64 s.1),.d (.int .i64 s.2.1),.d (.bool s.2.2)]
abbrev py (s:e7):dI:=.agg (qf s)
abbrev cD:e7:=(0,0,false)
def tr (s:e7):Prop:=(-1000000<=s.1/\s.1<=1000000)/\ -1000000<=s.2.1/\s.2.1<=1000000
def qg:List e7:=List.replicate 16 cD
abbrev oT (n:Int) (es:List (Z ak×Z fu)):ay:=[(1001,.cells [.d (.int .i64 n),.mp 1002]),(1002,.map ak fu es)]
def hE (es:List (Z ak×Z fu)) (k:Int):List e7:=(b0 (aJ:=ak) (aL:=fu) es k).getD qg
structure nV (t:List e7) (es:List (Z ak×Z fu)):Prop where
 fK:eZ es
 wf: ∀p,p∈es->List.length (α:=e7) p.2=16
 ok: ∀k i,tr ((hE es k).getD i cD)
 at_: ∀c (h:c < t.length),(hE es ((c/16:Nat):Int)).getD (c % 16) cD=t[c]
theorem nV.len {t:List e7} {es:List (Z ak×Z fu)} (h:nV t es) (k:Int):(hE es k).length=16:=by
 unfold hE
 cases e:b0 (aJ:=ak) (aL:=fu) es k with
 |none=>rfl
 |some g=>exact h.wf _ (Qt q' e)
theorem adm (es:List (Z ak×Z fu)) (k:Int) (g:List e7):hE (dr (aJ:=ak) (aL:=fu) es k g) k=g/\ ∀j,j≠k->hE (dr (aJ:=ak) (aL:=fu) es k g) j=hE es j:=by
 obtain⟨E,G⟩:=zr (aJ:=ak) (aL:=fu) q' k g es;refine⟨by unfold hE;rw[E];rfl,fun j aa=>?_⟩;unfold hE;rw[G j aa]
theorem adn {es:List (Z ak×Z fu)} (hn:eZ es) (k:Int):hE (gG (aJ:=ak) (aL:=fu) es k) k=qg/\ ∀j,j≠k->hE (gG (aJ:=ak) (aL:=fu) es k) j=hE es j:=by
 obtain⟨E,G⟩:=BX (aJ:=ak) (aL:=fu) q' k es hn;refine⟨by unfold hE;rw[E];rfl,fun j aa=>?_⟩;unfold hE;rw[G j aa]
def rf (es:List (Z ak×Z fu)) (c:Nat) (s:e7):List (Z ak×Z fu):=
 if(hE es ((c/16:Nat):Int)).set (c % 16) s=qg then gG (aJ:=ak) (aL:=fu) es ((c/16:Nat):Int) else dr (aJ:=ak) (aL:=fu) es ((c/16:Nat):Int) ((hE es ((c/16:Nat):Int)).set (c % 16) s)
theorem ado {t:List e7} {es:List (Z ak×Z fu)} (h:nV t es) (c:Nat) (s:e7):hE (rf es c s) ((c/16:Nat):Int)=(hE es ((c/16:Nat):Int)).set (c % 16) s/\ ∀j,j≠((c/16:Nat):Int)->hE (rf es c s) j=hE es j:=by
 unfold rf
 split
 .rename_i e;obtain⟨E,G⟩:=adn h.fK ((c/16:Nat):Int);exact⟨E.trans e.symm,G⟩
 .exact adm es _ _
theorem nV.set {t:List e7} {es:List (Z ak×Z fu)} (h:nV t es) (c:Nat) (s:e7) (ax:tr s):nV (t.set c s) (rf es c s):=by
 obtain⟨g1,g2⟩:=ado h c s;refine⟨?_,?_,fun k i=>?_,fun d J=>?_⟩
 .unfold rf
  split
  .exact eZ.k6 h.fK
  .exact eZ.put q' h.fK
 .intro p ag;unfold rf at ag
  split at ag
  .exact h.wf p (zs ag)
  .rcases JR ag with rfl |ag
   .show List.length (α:=e7) ((hE es ((c/16:Nat):Int)).set (c % 16) s)=16;rw[List.length_set];exact h.len _
   .exact h.wf p ag
 .by_cases e:k=((c/16:Nat):Int)
  .rw[e,g1,ap9,List.getElem?_set]
   split
   .split
    .exact ax
    .exact⟨au6,au6⟩
   .rw[<-ap9];exact h.ok _ _
  .rw[g2 _ e];exact h.ok _ _
 .rw[List.length_set] at J;have aq:=h.len ((c/16:Nat):Int)
  by_cases e:d/16=c/16
  .rw[e,g1]
   by_cases ap:d=c
   .subst ap;rw[List.getElem_set_self,ap9,List.getElem?_set_self (by rw[aq];omega)];rfl
   .have ba:c % 16≠d % 16:=fun h=>ap au5
    rw[List.getElem_set_ne (Ne.symm ap),ap9,List.getElem?_set_ne ba,<-ap9,<-e];exact h.at_ d J
  .have ba:((d/16:Nat):Int)≠((c/16:Nat):Int):=fun h=>e au5
   rw[g2 _ ba,List.getElem_set_ne (fun ap=>e (by rw[ap]))];exact h.at_ d J
theorem Q5:(Tryz.prog.info? 224).map (·.size)=some 3:=by kernel_rfl
def rh (s:e7):Bool:=if s.1=1 then decide (0<=s.2.1)&&decide (s.2.1 < 512) else decide (s=cD)||decide (s=(2,0,false))
theorem Q6 (s q:e7):decide (s=q)=true↔jO (qf s)=jO (qf q):=by
 rw[decide_eq_true_iff];simp only[jO,zA,qf,List.cons.injEq,Lit.int.injEq,Lit.bool.injEq,true_and,and_true];constructor
 .intro h;subst h;exact⟨rfl,rfl,rfl⟩
 .rintro⟨E,G,al⟩;exact Prod.ext E (Prod.ext G al)
theorem adp {n:Int} (h: -1000000<=n/\n<=1000000):(Lit.int .i64 n).wf=true:=by
 simp only[Lit.wf,vj,ar5];have E:IntKind.min .i64= -9223372036854775808:=by decide
 have G:IntKind.max .i64=9223372036854775807:=by decide
 rw[E,G];omega
theorem Q7 (d:Nat) {n:Int} (h: -1000000<=n/\n<=1000000):Tryz.prog.keyLits (d+1) 3 [.int .i64 n]=some [.int .i64 n]:=by
 unfold Program.keyLits;simp only[Tryz.underlying3];have hw:=adp h;simp[hw]
theorem lE (d:Nat) {s:e7} (h:tr s):Tryz.prog.keyLits (d+2) 224 (oS (qf s))=some (jO (qf s)):=by
 have cB:Tryz.prog.cellsOf 224=3:=by kernel_rfl
 have cL:Tryz.prog.cellsOf 3=1:=by kernel_rfl
 have gP:Tryz.prog.cellsOf 4=1:=by kernel_rfl
 have cf:=Q7 d h.1;have cM:=Q7 d h.2
 have eb:Tryz.prog.keyLits (d+1) 4 [.bool s.2.2]=some [.bool s.2.2]:=by
  unfold Program.keyLits;simp only[Tryz.underlying4]
 unfold Program.keyLits;simp only[Tryz.underlying224,cB];simp[oS,Ke,qf,cL,gP,cf,cM,eb,jO,zA]
theorem adq (s:e7) (ax:tr s):Fn Tryz.prog 204 [.c (py s)] [] [] (fI (rh s)) []:=by
 refine aW [] Tryz.func204 rfl rfl rfl rfl ?_;refine⟨rfl,fun E=>?_,fun E=>?_⟩
 .have E:=gd E;refine⟨fun G=>?_,fun G=>?_⟩
  .refine⟨_,_,_,aH,rfl,?_,trivial,rfl⟩;show decide (s.2.1 < 512)=rh s;unfold rh;have G:decide (0<=s.2.1)=true:=G;rw[if_pos E,G,Bool.true_and]
  .refine⟨_,_,_,aH,rfl,?_,trivial,rfl⟩;show false=rh s;unfold rh;have G:decide (0<=s.2.1)=false:=G;rw[if_pos E,G,Bool.false_and]
 .have E:=mu E;refine⟨_,_,fun N=>Kh (m:=5) (D:=5) (lx:=qf s) (ly:=[.d (.int .i64 0),.d (.int .i64 0),.d (.lit false)]) rfl au8 au8 au6 rfl rfl rfl rfl rfl (lE 3 ax) (lE 3 (s:=cD) ⟨au6,au6⟩) (Q6 s cD) N,rfl,?_⟩;refine⟨fun G=>?_,fun G=>?_⟩
  .refine⟨_,_,_,aH,rfl,?_,trivial,rfl⟩;show true=rh s;unfold rh;rw[if_neg E,G,Bool.true_or]
  .refine⟨_,_,fun N=>Kh (m:=5) (D:=5) (lx:=qf s) (ly:=[.d (.int .i64 2),.d (.int .i64 0),.d (.lit false)]) rfl au8 au8 au6 rfl rfl rfl rfl rfl (lE 3 ax) (lE 3 (s:=(2,0,false)) ⟨au6,au6⟩) (Q6 s (2,0,false)) N,rfl,?_⟩;refine⟨_,_,_,aH,rfl,?_,trivial,rfl⟩;show decide (s=(2,0,false))=rh s;unfold rh;rw[if_neg E,G,Bool.false_or]
def v8 (s:e7):Bool:=decide (s.1=1)&&s.2.2
theorem adr (s:e7):Fn Tryz.prog 179 [.c (py s)] [] [] (fI (v8 s)) []:=by
 refine aW [] Tryz.func179 rfl rfl rfl rfl ?_;refine⟨rfl,fun E=>?_,fun E=>?_⟩
 .refine⟨_,_,_,aH,rfl,?_,trivial,rfl⟩;show s.2.2=v8 s;unfold v8;have E:decide (s.1=1)=true:=E;rw[E,Bool.true_and]
 .refine⟨_,_,_,aH,rfl,?_,trivial,rfl⟩;show false=v8 s;unfold v8;have E:decide (s.1=1)=false:=E;rw[E,Bool.false_and]
theorem Q8 (n:Int):Fn Tryz.prog 129 [ae n] [] [] (fI (decide (0<=n)&&decide (n<=256))) []:=by
 refine aW [] Tryz.func129 rfl rfl rfl rfl ?_;refine⟨fun h=>?_,fun h=>?_⟩
 .refine⟨_,_,_,aH,rfl,?_,trivial,rfl⟩;show decide (n<=256)=_;have h:decide (0<=n)=true:=h;rw[h,Bool.true_and]
 .refine⟨_,_,_,aH,rfl,?_,trivial,rfl⟩;show false=_;have h:decide (0<=n)=false:=h;rw[h,Bool.false_and]
theorem ads (n:Int) (es:List (Z ak×Z fu)):Fn Tryz.prog 38 [ao 1001] (oT n es) [] (ae n) (oT n es):=by
 refine aW [] Tryz.func38 rfl rfl rfl rfl ?_;exact aT aH rfl rfl ac rfl
theorem Q9 {t:List e7} {es:List (Z ak×Z fu)} (fp:nV t es) (aq:t.length<=256) (c:Nat) (H:c < t.length):Fn Tryz.prog 148 [ao 1001,ae (c:Int)] (oT (t.length:Nat) es) [] (.c (py t[c])) (oT (t.length:Nat) es):=by
 have a6:(hE es ((c:Int)/16)).getD ((c:Int) % 16).toNat cD=t[c]:=by
  rw[<-fp.at_ c H]
  congr 1
 obtain⟨adt,Ci,Fw⟩: ∃i,Tryz.prog.info? 224=some i/\i.size=3:=by
  have:=Q5
  cases e:Tryz.prog.info? 224 with
  |none=>rw[e] at this;cases this
  |some i=>rw[e] at this;exact⟨i,rfl,by simpa using this⟩
 refine aW [] Tryz.func148 rfl rfl rfl rfl ?_;refine⟨rfl,fun E=>absurd (gd E) au5,fun E=>?_⟩;refine⟨fun E=>absurd (gd E) au5,fun E=>?_⟩;refine⟨⟨au5,au5⟩,⟨au5,au5⟩,⟨au5,au5⟩,⟨au5,au5⟩,_,_,fun N=>adb (n:=16) (e:=224) (u:=tq) (g:=hE es ((c:Int)/16)) (j:=(c:Int) % 16) rfl Tryz.underlying268 Tryz.underlying224 rfl Ci Fw rfl rfl au5 au5 N,rfl,?_⟩;refine⟨_,_,_,aH,rfl,?_,ac,rfl⟩;show sZ (.c (.agg (gh tq ((hE es ((c:Int)/16)).getD ((c:Int) % 16).toNat cD) 0 3))) _;rw[a6];exact ac
theorem adu (g he:List e7) (aq:g.length=16) (f4:he.length=16):jO (gh fu g 0 48)=jO (gh fu he 0 48)->g=he:=by
 intro h
 have mw: ∀(l:List bC) (j:Nat),(jO l)[j]? =(l[j]?).map zA:=fun l=>by
  induction l with
  |nil=>intro j;simp[jO]
  |cons s l br=>
   intro j
   match j with
   |0=>rfl
   |j+1=>simpa[jO] using br j
 have H: ∀i,i < 16-> ∀q,q < 3->zA (.d (fA tq (g.getD i cD) q))=zA (.d (fA tq (he.getD i cD) q)):=fun i aI q aV=>by
  have E:=congrArg (fun l=>l[i*3+q]?) h;simp only[mw] at E;have aj:=yZ fu g 48 0 (i*3+q) au5;have ap:=yZ fu he 48 0 (i*3+q) au5;rw[aj,ap] at E;simp only[at2,ap4,Nat.zero_add] at E;have cB:fA fu g (i*3+q)=fA tq (g.getD i cD) q:=Kk (u:=tq) (n:=16) g i q aV;have cL:fA fu he (i*3+q)=fA tq (he.getD i cD) q:=Kk (u:=tq) (n:=16) he i q aV;rw[cB,cL] at E;exact E
 refine List.ext_getElem (aq.trans f4.symm) fun i E G=>?_
 have a0:=H i au5 0 au5;have b4:=H i au5 1 au5;have ci:=H i au5 2 au5;have aj:g.getD i cD=g[i]:=by rw[ap9,oj E];rfl
 have ap:he.getD i cD=he[i]:=by rw[ap9,oj G];rfl
 rw[aj,ap] at a0 b4 ci;have ew:Lit.int .i64 (g[i]).1=Lit.int .i64 (he[i]).1:=a0;have b1:Lit.int .i64 (g[i]).2.1=Lit.int .i64 (he[i]).2.1:=b4;have b2:Lit.bool (g[i]).2.2=Lit.bool (he[i]).2.2:=ci;injection ew with _ ew
 injection b1 with _ b1
 injection b2 with b2
 exact Prod.ext ew (Prod.ext b1 b2)
theorem Ra {α lC:Type} {f:α->Option lC} {g:α->lC}: ∀{l:List α},(∀a,a∈l->f a=some (g a))->l.mapM f=some (l.map g)
 | [],_=>rfl
 |a::l,h=>by
  rw[List.mapM_cons,h a (aq1 ..),Ra fun b O=>h b (ap2 _ O)];rfl
theorem Rb (d:Nat) (g:List e7) (h: ∀i,i < 16->tr (g.getD i cD)):Tryz.prog.keyLits (d+3) 268 (oS (gh fu g 0 48))=some (jO (gh fu g 0 48)):=by
 have cB:Tryz.prog.cellsOf 268=48:=by kernel_rfl
 have cL:Tryz.prog.cellsOf 224=3:=by kernel_rfl
 have key: ∀i,i < 16->Tryz.prog.keyLits (d+2) 224 (((oS (gh fu g 0 48)).drop (i*3)).take 3)=some (jO (qf (g.getD i cD))):=by
  intro i aI
  match i,aI with
  |0,_=>exact lE d (h 0 au5)
  |1,_=>exact lE d (h 1 au5)
  |2,_=>exact lE d (h 2 au5)
  |3,_=>exact lE d (h 3 au5)
  |4,_=>exact lE d (h 4 au5)
  |5,_=>exact lE d (h 5 au5)
  |6,_=>exact lE d (h 6 au5)
  |7,_=>exact lE d (h 7 au5)
  |8,_=>exact lE d (h 8 au5)
  |9,_=>exact lE d (h 9 au5)
  |10,_=>exact lE d (h 10 au5)
  |11,_=>exact lE d (h 11 au5)
  |12,_=>exact lE d (h 12 au5)
  |13,_=>exact lE d (h 13 au5)
  |14,_=>exact lE d (h 14 au5)
  |15,_=>exact lE d (h 15 au5)
  |n+16,aI=>exact absurd aI au5
 unfold Program.keyLits;simp only[Tryz.underlying268,cB,cL];have aq:(oS (gh fu g 0 48)).length=48:=rfl;have aF:((List.range 16).map fun i=>jO (qf (g.getD i cD))).flatten=jO (gh fu g 0 48):=rfl;generalize oS (gh fu g 0 48)=ao0 at aq key⊢;rw[if_pos aq,Ra (g:=fun i=>jO (qf (g.getD i cD))) fun i aI=>key i (List.mem_range.1 aI)];exact congrArg some aF
theorem adv:(Tryz.prog.info? 268).map (·.size)=some 48:=by kernel_rfl
theorem j5 {T n:Nat} (h:(Tryz.prog.info? T).map (·.size)=some n): ∃i,Tryz.prog.info? T=some i/\i.size=n:=by
 cases e:Tryz.prog.info? T with
 |none=>rw[e] at h;cases h
 |some i=>rw[e] at h;exact⟨i,rfl,by simpa using h⟩
theorem Rc (i:Nat):qg.getD i cD=cD:=by
 unfold qg;rw[ap9,List.getElem?_replicate]
 split <;>rfl
abbrev nW:List bC:=[.d (.int .i64 0),.d (.int .i64 0),.d (.lit false)]
abbrev Fx:List bC:=nW++(nW++(nW++(nW++(nW++(nW++(nW++(nW++(nW++(nW++(nW++(nW++(nW++(nW++(nW++nW))))))))))))))
theorem adw:Tryz.prog.keyLits 5 268 (oS Fx)=some (jO Fx):=Rb 2 qg fun i _=>by rw[Rc];exact⟨au6,au6⟩
abbrev adx (c:Nat):a1:=[(0,ao 1001),(1,ae (c:Int)),(5,ao 5),(6,ao 6)]
abbrev ady (n:Int) (es:List (Z ak×Z fu)) (s:e7) (g:List e7):ay:=[(6,.val fu g),(5,.cells (qf s)),(1001,.cells [.d (.int .i64 n),.mp 1002]),(1002,.map ak fu es)]
set_option maxHeartbeats 1000000 in
theorem adz {t:List e7} {es:List (Z ak×Z fu)} (fp:nV t es) (n:Int) (c:Nat) (H:c < 100000) (s:e7) (ax:tr s):Fn Tryz.prog 205 [ao 1001,ae (c:Int),.c (py s)] (oT n es) [] gI (oT n (rf es c s)):=by
 obtain⟨adt,Ci,Fw⟩:=j5 Q5;obtain⟨ao1,Rd,Re⟩:=j5 adv;have b6:=fp.len ((c:Int)/16);have c2:((c/16:Nat):Int)=(c:Int)/16:=by omega
 have Cj:((c:Int) % 16).toNat=c % 16:=by omega
 have Rf:(hE es ((c:Int)/16)).set (c % 16) s=qg->rf es c s=gG (aJ:=ak) (aL:=fu) es ((c:Int)/16):=fun h=>by
  unfold rf;rw[c2,if_pos h];rfl
 have Fy: ¬(hE es ((c:Int)/16)).set (c % 16) s=qg->rf es c s=dr (aJ:=ak) (aL:=fu) es ((c:Int)/16) ((hE es ((c:Int)/16)).set (c % 16) s):=fun h=>by
  unfold rf;rw[c2,if_neg h];rfl
 have uC:((hE es ((c:Int)/16)).set (c % 16) s).length=16:=by rw[List.length_set];exact b6
 have Rg: ∀i,i < 16->tr (((hE es ((c:Int)/16)).set (c % 16) s).getD i cD):=fun i _=>by
  rw[ap9,List.getElem?_set]
  split
  .split
   .exact ax
   .exact⟨au6,au6⟩
  .rw[<-ap9];exact fp.ok _ _
 obtain⟨he,ri⟩: ∃he:List e7,he=(hE es ((c:Int)/16)).set (c % 16) s:=⟨_,rfl⟩;rw[<-ri] at Rf Fy Rg uC
 have r0:decide (he=qg)=true↔jO (gh fu he 0 48)=jO Fx:=by
  rw[decide_eq_true_iff];exact⟨fun h=>by rw[h];rfl,adu he qg uC rfl⟩
 refine aW [2] Tryz.func205 rfl rfl rfl rfl ?_;refine⟨rfl,⟨au5,au5⟩,⟨au5,au5⟩,rfl,bz [] ((af.adc 6 (u:=fu) (x:=hE es ((c:Int)/16)) ⟨b6,fun _ _=>⟨trivial,trivial,trivial⟩⟩ rfl).trans (cG (adx c) (ady n es s (hE es ((c:Int)/16))))) ?_⟩;refine⟨⟨au5,au5⟩,⟨au5,au5⟩,_,_,fun N=>ade (s:=3) (j:=(c:Int) % 16) rfl Tryz.underlying268 Ci Fw rfl rfl au5 au5 N,rfl,?_⟩;rw[Cj];refine⟨_,⟨[6],[],[(6,some (.val fu he))]⟩,fun N=>by rw[ri];exact adg (n:=16) (u:=tq) (g:=hE es ((c:Int)/16)) (y:=s) rfl Ci Fw rfl au5 rfl rfl ⟨trivial,trivial,trivial⟩ N,rfl,?_⟩;refine⟨_,_,fun N=>Q2 (u:=fu) (y:=he) rfl Tryz.underlying268 rfl Rd Re rfl rfl N,rfl,?_⟩;refine⟨_,_,fun N=>adh eN rfl rfl Tryz.underlying268 Ci rfl N,rfl,?_⟩;refine⟨_,_,fun N=>Kh (m:=5) (D:=5) (r:=decide (he=qg)) (lx:=gh fu he 0 48) (ly:=Fx) rfl au8 au8 au6 rfl rfl rfl rfl rfl (Rb 2 he Rg) adw (r0) N,rfl,?_⟩;refine⟨fun h=>?_,fun h=>?_⟩
 .have h:=gd h;refine⟨⟨au5,au5⟩,⟨au5,au5⟩,?_⟩;rw[Rf h];exact aT aH rfl trivial ac rfl
 .have h:=mu h;refine⟨⟨au5,au5⟩,⟨au5,au5⟩,_,_,fun N=>Q2 (u:=fu) (y:=he) rfl Tryz.underlying268 rfl Rd Re rfl rfl N,rfl,?_⟩;refine⟨he,⟨⟨uC,fun _ _=>⟨trivial,trivial,trivial⟩⟩,rfl⟩,rfl,?_⟩;rw[Fy h];exact aT aH rfl trivial ac rfl
theorem adA {t:List e7} {es:List (Z ak×Z fu)} (fp:nV t es) (aq:t.length<=256) (c:Nat) (H:c < t.length) (s:e7) (ax:tr s) (aF:rh s=true):
  Fn Tryz.prog 182 [ao 1001,ae (c:Int),.c (py s)] (oT (t.length:Nat) es) [] (.ce [py t[c],dw 0]) (oT (t.length:Nat) (rf es c s)):=by
 refine aW [] Tryz.func182 rfl rfl rfl rfl ?_;refine⟨rfl,rfl,fun E=>absurd (gd E) au5,fun E=>?_⟩;refine⟨fun E=>absurd (gd E) au5,fun E=>?_⟩;refine au (adq s ax) ?_;refine⟨fun E=>absurd E (by rw[aF];decide),fun _=>?_⟩;refine au (Q9 fp aq c H) ?_;refine⟨rfl,au (adz fp (t.length:Nat) c au5 s ax) ?_⟩;exact aT aH rfl ⟨ac,rfl,trivial⟩ ac rfl
def rj (t:List e7):bh where
 R:=fun I F w p=> ∃es,nV t es/\iA 1001 (oT (t.length:Nat) es) I F w p
 cg:=fun I F w I' w' p ⟨es,h,a6⟩ V bj aR=>⟨es,h,(bh.iX 1001 (oT (t.length:Nat) es)).cg I F w I' w' p a6 V bj aR⟩
theorem nV.new (n:Nat):nV (List.replicate n cD) []:=by
 have a6: ∀k i,(hE [] k).getD i cD=cD:=fun k i=>Rc i
 refine⟨.nil,fun p ag=>(by cases ag),fun k i=>?_,fun c H=>?_⟩
 .rw[a6];exact⟨au6,au6⟩
 .rw[a6,List.getElem_replicate]
theorem adB (n:Int) (h: ¬(0<=n/\n<=256)):Fn Tryz.prog 76 [ae n] [] [] (.ce [mF,dw 1]) []:=by
 have O:(decide (0<=n)&&decide (n<=256))=false:=by
  rw[Bool.and_eq_false_iff,decide_eq_false_iff_not,decide_eq_false_iff_not];omega
 refine aW [] Tryz.func76 rfl rfl rfl rfl ?_;refine au (Q8 n) ?_;rw[O];refine⟨fun _=>?_,fun E=>absurd E au6⟩;exact aT aH rfl ac trivial rfl
theorem Km (n:Nat) (h:n<=256):Fn Tryz.prog 76 [ae (n:Int)] [] [1001] (.ce [.one (.ptr 1001 0),dw 0]) [(1001,.aG (rj (List.replicate n cD)))]:=by
 have O:(decide ((0:Int)<=n)&&decide ((n:Int)<=256))=true:=by
  rw[vj,decide_eq_true_iff,decide_eq_true_iff];omega
 have aq:((List.replicate n cD).length:Nat)=n:=as7;refine aW [] Tryz.func76 rfl rfl rfl rfl ?_;refine au (Q8 n) ?_;rw[O];refine⟨fun E=>absurd E au6,fun _=>?_⟩;refine⟨rfl,rfl,_,_,_,(af.aX 10 1001 rfl).trans ((af.aX 8 1002 rfl).trans (af.close 1001 (oT (n:Nat) []) (o:=rj (List.replicate n cD)) ac rfl fun _ _ _ _ h=>⟨[],nV.new n,by rw[aq];exact h⟩)),rfl,ac,ac,rfl⟩
end
section
abbrev pz (l:List Int):ay:=[(1001,.cells [.own 1002]),(1002,.row 3 ak l)]
def rk (l:List Int):bh:=.iX 1001 (pz l)
theorem adC:(Tryz.prog.info? 3).map (fun i=>(i.zero,i.size,i.bytes))=some (some (.int .i64 0),1,8):=by kernel_rfl
theorem Rh (n:Int) (h: ¬(0<=n/\n<=512)):Fn Tryz.prog 77 [ae n] [] [] (.ce [mF,dw 1]) []:=by
 refine aW [] Tryz.func77 rfl rfl rfl rfl ?_;refine⟨fun E=>?_,fun E=>?_⟩
 .exact aT aH rfl ac trivial rfl
 refine⟨fun G=>?_,fun G=>?_⟩
 .exact aT aH rfl ac trivial rfl
 .exfalso;simp at E G;omega
theorem Fz (n:Int) (aw:0<=n) (hn:n<=512):Fn Tryz.prog 77 [ae n] [] [1001] (.ce [.one (.ptr 1001 0),dw 0]) [(1001,.aG (rk (List.replicate n.toNat (0:Int))))]:=by
 obtain⟨c7,oG,oH,uD,zB⟩:=info_parts adC;refine aW [] Tryz.func77 rfl rfl rfl rfl ?_;refine⟨fun E=>?_,fun E=>?_⟩
 .exfalso;simp at E;omega
 refine⟨fun G=>?_,fun G=>?_⟩
 .exfalso;simp at G;omega
 refine⟨_,_,fun N=>adj (d:=11) rfl Tryz.underlying71 oG oH uD zB rfl rfl aw au5 N,rfl,?_⟩;refine⟨rfl,?_⟩;exact⟨_,_,_,(af.aX 13 1001 rfl).trans ((af.aX 11 1002 rfl).trans (af.close 1001 (pz (List.replicate n.toNat (0:Int))) (o:=rk (List.replicate n.toNat (0:Int))) ac rfl fun _ _ _ _ h=>h)),rfl,ac,ac,rfl⟩
theorem adD (l:List Int) (h:Int):Fn Tryz.prog 259 [ao 1001,ae h] (pz l) [] (fI (decide (0<=h)&&decide (h < l.length))) (pz l):=by
 refine aW [] Tryz.func259 rfl rfl rfl rfl ?_;refine⟨fun E=>?_,fun E=>?_⟩
 .refine⟨_,_,_,aH,rfl,?_,ac,rfl⟩;show decide (h < (l.length:Nat))=(decide (0<=h)&&decide (h < (l.length:Nat)));have E:decide (0<=h)=true:=E;rw[E,Bool.true_and]
 .refine⟨_,_,_,aH,rfl,?_,ac,rfl⟩;show false=(decide (0<=h)&&decide (h < (l.length:Nat)));have E:decide (0<=h)=false:=E;rw[E,Bool.false_and]
theorem adE (n:Int) (h:n≠0):Fn Tryz.prog 238 [ae n] [] [] (ae 0) []:=by
 refine aW [] Tryz.func238 rfl rfl rfl rfl ?_;refine⟨fun E=>absurd (gd E) h,fun E=>?_⟩;exact aT aH rfl rfl trivial rfl
theorem adF (l:List Int) (h:Nat) (n:Int) (hn:l[h]? =some n) (E:1<=n) (G:n<=65535):Fn Tryz.prog 237 [ao 1001,ae (h:Int),ae (-1),kH (.cT 238 [])] (pz l) [] (ae 0) (pz (l.set h (n - 1))):=by
 have aq:h < l.length:=(ap5.1 hn).1;refine aW [] Tryz.func237 rfl rfl rfl rfl ?_;refine au (adD l h) ?_;have m1:(0:Int)<=(h:Int):=by omega
 have m2:(h:Int) < (l.length:Nat):=by omega
 refine⟨fun _=>?_,fun hf=>?_⟩
 .refine⟨⟨m1,m2⟩,n,hn,au (adE n au5) ?_⟩;refine eO ?_;refine⟨⟨m1,m2⟩,n,hn,⟨au5,au5⟩,⟨m1,m2⟩,⟨trivial,aq⟩,?_⟩;exact aT aH rfl rfl ac rfl
 .exfalso;have hf:(decide ((0:Int)<=h)&&decide ((h:Int) < l.length))=false:=hf;rw[aq2 au5,aq2 au5] at hf
  cases hf
theorem adG (l:List Int) (h:Nat) (n:Int) (hn:l[h]? =some n) (E:1<=n) (G:n<=65535):Fn Tryz.prog 206 [ao 1001,ae (h:Int)] (pz l) [] (.ce [.one (.d (.int .i64 (n - 1))),dw 0]) (pz (l.set h (n - 1))):=by
 have aq:h < l.length:=(ap5.1 hn).1;refine aW [] Tryz.func206 rfl rfl rfl rfl ?_;refine au (adF l h n hn E G) ?_;refine da ?_;have p3:h < (l.set h (n - 1)).length:=by rw[List.length_set];exact aq
 have m1:(0:Int)<=(h:Int):=by omega
 have m2:(h:Int) < ((l.set h (n - 1)).length:Nat):=by omega
 have m3:(l.set h (n - 1))[h]? =some (n - 1):=by rw[List.getElem?_set_self aq]
 refine⟨⟨m1,m2⟩,n - 1,m3,?_⟩;exact aT aH rfl ac ac rfl
def d3 (l:List Int):Nat:=(l.filter fun x=>decide (x=0)).length
theorem Kn (l:List Int):d3 l<=l.length:=List.length_filter_le _ _
theorem adH {l:List Int} {k:Nat} (h:k < l.length):d3 (l.take (k+1))=d3 (l.take k)+(if l[k]=0 then 1 else 0):=by
 unfold d3;rw[as1 h,List.filter_append,ap1]
 congr 1
 by_cases e:l[k]=0
 .simp[e]
 .simp[e]
abbrev adI (l:List Int) (k:Nat):a1:=[(3,ae (d3 (l.take k):Nat)),(9,eM 1002),(10,ae (l.length:Nat)),(11,ae (k:Nat))]
theorem adJ (l:List Int) (aq:l.length<=1000000):Fn Tryz.prog 180 [ao 1001] (pz l) [] (ae (d3 l:Nat)) (pz l):=by
 refine aW [] Tryz.func180 rfl rfl rfl rfl ?_;refine dX [] (X:=Nat) (adI l) (fun _=>pz l) (fun k=>k<=l.length) (fun k=>l.length - k) 0 (ap7 _) ?_ ?_
 .exact af.sub ac ac
 intro k ab;have aR:=Kn (l.take k);have s9:(l.take k).length<=l.length:=by rw[ap8];omega
 refine⟨fun h=>?_,fun h=>?_⟩
 .have h:decide ((k:Int) < (l.length:Nat))=true:=h;have fd:k < l.length:=by simpa using h
  have ax:=adH fd;have m1:(0:Int)<=(k:Int):=by omega
  have m2:(k:Int) < (l.length:Nat):=by omega
  refine⟨⟨m1,m2⟩,l[k],jv (n:=k) fd,fun aw=>?_,fun aw=>?_⟩
  .have aw:=gd aw;refine⟨au5,au5,k+1,au5,au5,af.sub ⟨?_,rfl,rfl,rfl,trivial⟩ ac⟩;show((d3 (l.take k):Nat):Int)+1=(d3 (l.take (k+1)):Nat);rw[ax,if_pos aw];omega
  .have aw:=mu aw;refine⟨au5,k+1,au5,au5,af.sub ⟨?_,rfl,rfl,rfl,trivial⟩ ac⟩;show((d3 (l.take k):Nat):Int)=(d3 (l.take (k+1)):Nat);rw[ax,if_neg aw];omega
 .have h:decide ((k:Int) < (l.length:Nat))=false:=h;have fd:k=l.length:=by simp at h;omega
  subst fd;refine⟨_,_,_,aH,rfl,?_,ac,rfl⟩;show((d3 (l.take l.length):Nat):Int)=_;rw[aq9]
abbrev adK (l:List Int) (k:Nat):a1:=[(0,ao 1001),(9,ae (l.length:Nat)),(10,ae (k:Nat))]
theorem adL (l:List Int) (aq:l.length<=1000000) (h:Nat) (bl:l[h]? =some 0) (hf: ∀j,j < h->l[j]? ≠some 0):Fn Tryz.prog 181 [ao 1001] (pz l) [] (.ce [.one (.d (.int .i64 (h:Int))),dw 0]) (pz (l.set h 1)):=by
 have bw:h < l.length:=(ap5.1 bl).1;refine aW [] Tryz.func181 rfl rfl rfl rfl ?_;refine dX [] (X:=Nat) (adK l) (fun _=>pz l) (fun k=>k<=h) (fun k=>l.length - k) 0 (ap7 _) ?_ ?_
 .exact af.sub ac ac
 intro k ab;refine⟨fun _=>?_,fun E=>?_⟩
 .have fd:k < l.length:=by omega
  have m1:(0:Int)<=(k:Int):=by omega
  have m2:(k:Int) < (l.length:Nat):=by omega
  refine⟨⟨m1,m2⟩,l[k],jv (n:=k) fd,fun aw=>?_,fun aw=>?_⟩
  .have aw:=gd aw
   have Ri:k=h:=by
    rcases Nat.lt_or_ge k h with al |al
    .exact absurd (by rw[oj fd,aw]) (hf k al)
    .omega
   subst Ri;refine⟨⟨m1,m2⟩,⟨trivial,fd⟩,?_⟩;exact aT aH rfl ac ac rfl
  .have aw:=mu aw
   have Ri:k≠h:=fun e=>by
    subst e;rw[oj fd] at bl;exact aw (by injection bl)
   exact⟨au5,k+1,au5,au5,af.sub ac ac⟩
 .exfalso;have E:decide ((k:Int) < (l.length:Nat))=false:=E;simp at E;omega
end
section
def zC (l:List Nat):ay->Bool
 | []=>true
 |(c,ch)::B=> !l.contains c&&(l.all fun d=> !ch.has d)&&zC l B
theorem FA {l:List Nat}: ∀{B:ay},zC l B=true-> ∀{c ch},ah B c=some ch->c∉l/\ ∀d,d∈l->ch.has d=false
 | [],_,c,ch,H=>by cases H
 |(e,x)::B,h,c,ch,H=>by
  simp only[zC,vj,Bool.not_eq_true'] at h;obtain⟨⟨E,G⟩,al⟩:=h;rw[ca] at H
  split at H
  .rename_i e;injection H with H
   subst e H;refine⟨fun aA=>(by rw[ar6.2 aA] at E;cases E),fun d J=>?_⟩;have:=ar4.1 G d J;simpa using this
  .exact FA al H
theorem Fn.qh {P:Program} {f:FuncId} {args:List aQ} {aK:ay} {bf:List Nat} {res:aQ} {aP:ay} (pA:ay) (h:Fn P f args aK bf res aP) (E:((cl pA).all fun d=> !(cl aK).contains d&& !(cl aP).contains d)=true) (G:zC bf pA=true):
  Fn P f args (aK++pA) bf res (aP++pA):=by
 have cf: ∀{c ch},ah pA c=some ch->ah aK c=none/\ah aP c=none:=fun {c ch} H=>by
  have:=ar4.1 E c (gl.2 ⟨ch,H⟩);simp only[vj,Bool.not_eq_true'] at this;constructor
  .cases e:ah aK c with
   |none=>rfl
   |some x=>rw[ar6.2 (gl.2 ⟨x,e⟩)] at this;cases this.1
  .cases e:ah aP c with
   |none=>rfl
   |some x=>rw[ar6.2 (gl.2 ⟨x,e⟩)] at this;cases this.2
 have v': ∀{c ch},ah aK c=some ch->ah (aK++pA) c=some ch:=fun {c ch} H=>by rw[iC,H]
 have uE: ∀{c ch},ah pA c=some ch->ah (aK++pA) c=some ch:=fun {c ch} H=>by rw[iC,(cf H).1];exact H
 have FB: ∀{c ch},ah (aP++pA) c=some ch->ah aP c=some ch\/ah pA c=some ch:=fun {c ch} H=>by
  rw[iC] at H
  cases e:ah aP c with
  |none=>rw[e] at H;exact .inr H
  |some x=>rw[e] at H;exact .inl H
 refine⟨h.1,fun ρ F I w bW b4 ci a3 a4 a5 gw=>?_⟩;refine(h.2 ρ F I w bW b4 (fun c ch H=>ci c ch (v' H)) (fun c ch H=>a3 c ch (v' H)) (fun c bX ch ch' b H cF=>a4 c bX ch ch' b (v' H) (v' cF)) a5 gw).mono ?_;rintro e w' ⟨x,ρ',F',r1,r2,ga,I',jK,lA,l4,lB,mG,nQ⟩
 let cI:Nat->Nat->Prop:=fun c=>if(ah pA c).isSome=true then F c else F' c
 have h1: ∀{c ch},ah pA c=some ch->cI c=F c:=fun {c ch} H=>if_pos (by rw[H];rfl)
 have jn: ∀{c ch},ah aP c=some ch->cI c=F' c:=fun {c ch} H=>if_neg (fun ax=>by
  cases e:ah pA c with
  |none=>rw[e] at ax;cases ax
  |some x=>rw[(cf e).2] at H;cases H)
 have FC: ∀{c ch} {b:Nat},ah pA c=some ch->F c b-> ¬ ∃d ch',ah aK d=some ch'/\F d b:=fun {c ch b} H O=>by
  rintro⟨d,ch',J,dm⟩;refine a4 c d ch ch' b (uE H) (v' J) (fun e=>?_) O dm;subst e;rw[(cf H).1] at J
  cases J
 refine⟨x,ρ',cI,r1,r2.mono fun b _ ⟨c,ch,H,O⟩=>⟨c,ch,v' H,O⟩,ga,I',jK,fun b O=>⟨(lA b O).1,(lA b O).2.imp id (Or.imp (fun⟨c,ch,H,O⟩=>⟨c,ch,v' H,O⟩) id)⟩,fun c ch H=>?_,fun c ch H b O=>?_,fun c bX ch ch' b H cF ba O dm=>?_,nQ⟩
 .rcases FB H with H |H
  .rw[jn H];exact l4 c ch H
  .rw[h1 H];obtain⟨g1,g2⟩:=FA G H;rw[ga c g1];exact Holds.cg jK (fun b O=>r2.block b (a3 c ch (uE H) b O).1 (FC H O)) r2.size ch (fun d J=>ga d fun aA=>by rw[g2 d aA] at J;cases J) (ci c ch (uE H))
 .rcases FB H with H |H
  .rw[jn H] at O;obtain⟨g1,g2,cX⟩:=lB c ch H b O;exact⟨g1,g2,cX.imp (fun⟨d,ch',J,O⟩=>⟨d,ch',v' J,O⟩) id⟩
  .rw[h1 H] at O;obtain⟨g1,g2⟩:=a3 c ch (uE H) b O;refine⟨Nat.lt_of_lt_of_le g1 r2.size,fun bb=>?_,.inl ⟨c,ch,uE H,O⟩⟩;rcases(lA b bb).2 with h |h |h
   .exact g2 h
   .exact FC H O h
   .omega
 .rcases FB H with H |H <;>rcases FB cF with cF |cF
  .rw[jn H] at O;rw[jn cF] at dm;exact mG c bX ch ch' b H cF ba O dm
  .rw[jn H] at O;rw[h1 cF] at dm;rcases(lB c ch H b O).2.2 with h |h
   .exact FC cF dm h
   .have:=(a3 bX ch' (uE cF) b dm).1;omega
  .rw[h1 H] at O;rw[jn cF] at dm;rcases(lB bX ch' cF b dm).2.2 with h |h
   .exact FC H O h
   .have:=(a3 c ch (uE H) b O).1;omega
  .rw[h1 H] at O;rw[h1 cF] at dm;exact a4 c bX ch ch' b (uE H) (uE cF) ba O dm
theorem Fn.dV {P:Program} {f:FuncId} {args:List aQ} {aK:ay} {bf:List Nat} {d:Nat} {e:TypeId} {u:bx} {xs:List (Z u)} {aP:ay} (h:Fn P f args aK (d::bf) (.c (.one (.own d))) (aP++[(d,.row e u xs)])) (E:(cl aP).contains d=false) (G:zC [d] aP=true):
  Fn P f args aK bf (.c (.one (.d (.ck u xs)))) aP:=by
 have cf:ah aP d=none:=by
  cases e:ah aP d with
  |none=>rfl
  |some x=>rw[ar6.2 (gl.2 ⟨x,e⟩)] at E;cases E
 have rl:ah (aP++[(d,bd.row e u xs)]) d=some (.row e u xs):=by rw[iC,cf];simp[ah]
 have hr: ∀{c ch},ah aP c=some ch->ah (aP++[(d,bd.row e u xs)]) c=some ch:=fun {c ch} H=>by rw[iC,H]
 have ba: ∀{c ch},ah aP c=some ch->c≠d:=fun {c ch} H e=>by rw[e,cf] at H;cases H
 refine⟨h.1,fun ρ F I w bW b4 ci a3 a4 a5 gw=>?_⟩;refine(h.2 ρ F I w bW b4 ci a3 a4 a5 gw).mono ?_;rintro ex w' ⟨x,ρ',F',r1,r2,ga,I',jK,lA,l4,lB,mG,nQ⟩;have fW:=l4 d _ rl;have zc: ∀b,I' b->(fun b=>I' b\/F' d b) b:=fun b O=>.inl O
 have aY:cd I' w' (fun b=>I' b\/F' d b) w':=fun b O=>⟨.inl O,rfl⟩
 have dt:gE (fun b=>I' b\/F' d b) w' (.ck u xs) (ρ' d).er:=Bd fW zc (fun b O=>.inr O);refine⟨x,c5 ρ' d (ρ d),F',r1,r2,fun c H=>?_,fun b=>I' b\/F' d b,fun b O=>⟨.inl (jK b O).1,(jK b O).2⟩,fun b O=>?_,fun c ch H=>?_,fun c ch H b O=>?_,fun c bX ch ch' b H cF=>mG c bX ch ch' b (hr H) (hr cF),?_⟩
 .by_cases e:c=d
  .rw[e,c6]
  .rw[de _ _ e];exact ga c (fun aA=>by rcases ap3.1 aA with h |h;exact e h;exact H h)
 .rcases O with O |O
  .exact lA b O
  .obtain⟨g1,g2,cX⟩:=lB d _ rl b O;exact⟨g1,.inr cX⟩
 .have se:=ba H;obtain⟨_,g2⟩:=FA G H;rw[de _ _ se];exact Holds.cg aY (fun _ _=>rfl) (ap0 _) ch (fun j aa=>de _ _ fun e=>by rw[e,g2 d (aq0.2 rfl)] at aa;cases aa) (l4 c ch (hr H))
 .obtain⟨g1,g2,cX⟩:=lB c ch (hr H) b O;refine⟨g1,fun bb=>?_,cX⟩;rcases bb with bb |bb
  .exact g2 bb
  .exact mG c d ch _ b (hr H) rl (ba H) O bb
 .have hx:x=(ρ' d).er:=nQ;rw[hx];exact dt
theorem Fn.adM {P:Program} {f:FuncId} {args:List aQ} {aK:ay} {bf:List Nat} {d:Nat} {e:TypeId} {u:bx} {xs:List (Z u)} {res:aQ} {aP:ay} (h:Fn P f args aK (d::bf) res (aP++[(d,.row e u xs)])) (E:(cl aP).contains d=false) (G:zC [d] aP=true) (al:(res.dV d (.ck u xs)).has d=false):
  Fn P f args aK bf (res.dV d (.ck u xs)) aP:=by
 have cf:ah aP d=none:=by
  cases e:ah aP d with
  |none=>rfl
  |some x=>rw[ar6.2 (gl.2 ⟨x,e⟩)] at E;cases E
 have rl:ah (aP++[(d,bd.row e u xs)]) d=some (.row e u xs):=by rw[iC,cf];simp[ah]
 have hr: ∀{c ch},ah aP c=some ch->ah (aP++[(d,bd.row e u xs)]) c=some ch:=fun {c ch} H=>by rw[iC,H]
 have ba: ∀{c ch},ah aP c=some ch->c≠d:=fun {c ch} H e=>by rw[e,cf] at H;cases H
 refine⟨h.1,fun ρ F I w bW b4 ci a3 a4 a5 gw=>?_⟩;refine(h.2 ρ F I w bW b4 ci a3 a4 a5 gw).mono ?_;rintro ex w' ⟨x,ρ',F',r1,r2,ga,I',jK,lA,l4,lB,mG,nQ⟩;have fW:=l4 d _ rl;have zc: ∀b,I' b->(fun b=>I' b\/F' d b) b:=fun b O=>.inl O
 have aY:cd I' w' (fun b=>I' b\/F' d b) w':=fun b O=>⟨.inl O,rfl⟩
 have dt:gE (fun b=>I' b\/F' d b) w' (.ck u xs) (ρ' d).er:=Bd fW zc (fun b O=>.inr O);refine⟨x,c5 ρ' d (ρ d),F',r1,r2,fun c H=>?_,fun b=>I' b\/F' d b,fun b O=>⟨.inl (jK b O).1,(jK b O).2⟩,fun b O=>?_,fun c ch H=>?_,fun c ch H b O=>?_,fun c bX ch ch' b H cF=>mG c bX ch ch' b (hr H) (hr cF),?_⟩
 .by_cases e:c=d
  .rw[e,c6]
  .rw[de _ _ e];exact ga c (fun aA=>by rcases ap3.1 aA with h |h;exact e h;exact H h)
 .rcases O with O |O
  .exact lA b O
  .obtain⟨g1,g2,cX⟩:=lB d _ rl b O;exact⟨g1,.inr cX⟩
 .have se:=ba H;obtain⟨_,g2⟩:=FA G H;rw[de _ _ se];exact Holds.cg aY (fun _ _=>rfl) (ap0 _) ch (fun j aa=>de _ _ fun e=>by rw[e,g2 d (aq0.2 rfl)] at aa;cases aa) (l4 c ch (hr H))
 .obtain⟨g1,g2,cX⟩:=lB c ch (hr H) b O;refine⟨g1,fun bb=>?_,cX⟩;rcases bb with bb |bb
  .exact g2 bb
  .exact mG c d ch _ b (hr H) rl (ba H) O bb
 .have az:ct ρ' (fun b=>I' b\/F' d b) w' (res.dV d (.ck u xs)) x:=ct.dV aY dt res x nQ;exact ct.mono (cd.refl _ _) _ _ (fun c H=>de _ _ fun e=>by subst e;rw[al] at H;cases H) az
theorem Fn.own {P:Program} {f:FuncId} {args:List aQ} {aK:ay} {bf:List Nat} {d:Nat} {e:TypeId} {u:bx} {xs:List (Z u)} {res:aQ} {aP:ay} (h:Fn P f (args.map (aQ.dV d (.ck u xs))) aK bf res aP) (E:(cl aK).contains d=false):
  Fn P f args (aK++[(d,.row e u xs)]) bf res aP:=by
 have cf:ah aK d=none:=by
  cases e:ah aK d with
  |none=>rfl
  |some x=>rw[ar6.2 (gl.2 ⟨x,e⟩)] at E;cases E
 have rl:ah (aK++[(d,bd.row e u xs)]) d=some (.row e u xs):=by rw[iC,cf];simp[ah]
 have hr: ∀{c ch},ah aK c=some ch->ah (aK++[(d,bd.row e u xs)]) c=some ch:=fun {c ch} H=>by rw[iC,H]
 have ba: ∀{c ch},ah aK c=some ch->c≠d:=fun {c ch} H e=>by rw[e,cf] at H;cases H
 refine⟨h.1,fun ρ F I w bW b4 ci a3 a4 a5 gw=>?_⟩;have fW:=ci d _ rl;have aY:cd I w (fun b=>I b\/F d b) w:=fun b O=>⟨.inl O,rfl⟩
 have dt:gE (fun b=>I b\/F d b) w (.ck u xs) (ρ d).er:=Bd fW (fun b O=>.inl O) (fun b O=>.inr O)
 refine(h.2 ρ F (fun b=>I b\/F d b) w bW (fun b O=>O.elim (b4 b) fun O=>(a3 d _ rl b O).1) (fun c ch H=>Holds.cg aY (fun _ _=>rfl) (ap0 _) ch (fun _ _=>rfl) (ci c ch (hr H)))
  (fun c ch H b O=>⟨(a3 c ch (hr H) b O).1,fun bb=>bb.elim (a3 c ch (hr H) b O).2 fun J=>a4 c d ch _ b (hr H) rl (ba H) O J⟩) (fun c bX ch ch' b H cF=>a4 c bX ch ch' b (hr H) (hr cF)) (by rw[aq3];exact a5) (fun i v x az hx=>?_)).mono ?_
 .rw[ar0] at az;obtain⟨s,ax,rfl⟩:=as0.1 az;exact ct.dV aY dt s x (gw i s x ax hx)
 .rintro ex w' ⟨x,ρ',F',r1,r2,ga,I',jK,lA,l4,lB,mG,nQ⟩;refine⟨x,ρ',F',r1,r2.mono fun b _ ⟨c,ch,H,O⟩=>⟨c,ch,hr H,O⟩,ga,I',fun b O=>jK b (.inl O),fun b O=>⟨(lA b O).1,?_⟩,l4,fun c ch H b O=>?_,mG,nQ⟩
  .rcases(lA b O).2 with h |⟨c,ch,H,O⟩ |h
   .exact h.elim .inl fun h=>.inr (.inl ⟨d,_,rl,h⟩)
   .exact .inr (.inl ⟨c,ch,hr H,O⟩)
   .exact .inr (.inr h)
  .obtain⟨g1,g2,cX⟩:=lB c ch H b O;exact⟨g1,g2,cX.imp (fun⟨c,ch,H,O⟩=>⟨c,ch,hr H,O⟩) id⟩
end
end Go.Proofs.YthnboghbhgapcaaGreat
