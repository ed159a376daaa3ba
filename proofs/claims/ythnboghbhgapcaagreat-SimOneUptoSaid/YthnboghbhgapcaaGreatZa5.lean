/-
A part of the proof of this claim: lemmas, with no condition beyond what each says.
-/
import Derived.Lib.AppendStr
import Derived.Test.YthnboghbhgapcaaGreatZa4
set_option linter.unusedVariables false
set_option linter.unusedSimpArgs false
set_option maxRecDepth 10000
namespace Go.Proofs.YthnboghbhgapcaaGreat
open Go.RowKit Go.Proofs
section
section
variable {P:Program} {aU:dd} {N:Nat} {ids:List Nat} {o:Oper} {K:a1} {B:ay} {k:aQ->fP->Prop}
theorem YF {w:World} (t e:TypeId) (cr:P.underlying t=some (.slice e)) {i:TypeInfo} (aI:P.info? e=some i) {aB:Value} (aR:i.zero=some aB) (vz:aB.cells= #[.int .u8 0]) (ax:i.size=1) (O:i.bytes=1) (n:Nat) (hn:n<=4294967296):
  (Instr.makeSlice t (.int .i64 (n:Int)) (.int .i64 (n:Int))).run P w= .ok (.slice (some ⟨w.heap.size,0,none⟩) n n) (w.alloc (.cells (List.replicate n (.int .u8 0)).toArray e)):=by
 have h:=run_make (P:=P) w t e i _ cr aI aR .i64 .i64 (n:Int) (n:Int) au5 au5 (by rw[O];omega) au5;rw[h,ax,vz];simp only[Int.toNat_natCast,Nat.mul_one]
 congr 3
 simp[madeCells];apply Array.ext
 .simp
 .intro i E G;simp[Nat.mod_one]
theorem O3 {ti:cb} {T:Nat} {i:TypeInfo} {d:TypeDesc} (bu:l1 P T ti i d) (aR:ti.zero=[.d (.int .u8 0)]): ∃aB,i.zero=some aB/\aB.cells= #[.int .u8 0]:=by
 obtain⟨aB,E,G⟩:=bu.zero;refine⟨aB,E,?_⟩;rw[aR] at G
 have:aB.cells.toList=[.int .u8 0]:=by
  match H:aB.cells.toList,G with
  | [v],G=>
   simp only[s2,Bool.and_true] at G;have:=(OT (ρ:=fun _=>⟨0,none,0,0⟩) (I:=fun _=>False) (w:=default) G).1;rw[show v=_ from this]
  | [],G=>simp[s2] at G
  |_::_::_,G=>simp[s2] at G
 exact Array.toList_inj.1 this
theorem YG (bn:d6 P aU) {T:TypeId} {x y:Operand} (ai:o.op= .makeSlice T x y) (h:match elemOf aU T,a7 K x,a7 K y,o.dst with
  |some (e,te),.c (.one (.d (.int .i64 n))),.c (.one (.d (.int .i64 m))),some d=>match qV aU e with
   |true=>(n=m/\0<=n/\n<=4294967296)/\gW ids K B d=true/\k (.c (.one (.own d))) ⟨[],[d],[(d,some (.row e .u8 (List.replicate n.toNat (0:UInt8))))]⟩
   |false=>False
  |_,_,_,_=>False):cC P N ids o K B k:=by
 have m1:x∈o.op.operands:=by rw[ai];simp[Op.operands]
 have m2:y∈o.op.operands:=by rw[ai];simp[Op.operands]
 split at h
 .rename_i e te n m d V hx aC J;obtain⟨a8,c7,ds,bu⟩:=pm bn V
  split at h
  .rename_i q0;obtain⟨q0,ti,oH,i5,nL,s9,f',hc⟩:=w7 bn q0;obtain⟨aB,aR,vz⟩:=O3 nL s9;obtain⟨⟨rfl,aw,E⟩,cz,h⟩:=h;refine cC.bf h cz <| bB.make (fun d h=>Bf h) fun K' B' g1 g2 C ρ F a w ar av hn=>?_
   have dE:=av.int ((g1 x m1).trans hx);have d4:=av.int ((g1 y m2).trans aC);have dO:=YF (P:=P) (w:=w) T e a8 nL.jF aR vz (nL.size.trans f') (nL.bytes.trans hc) n.toNat au5;rw[show((n.toNat:Nat):Int)=n by omega] at dO;refine⟨.slice (some ⟨w.heap.size,0,none⟩) n.toNat n.toNat,w.alloc (.cells (List.replicate n.toNat (.int .u8 0)).toArray e),⟨w.heap.size,some ⟨w.heap.size,0,none⟩,n.toNat,n.toNat⟩,fun b=>b=w.heap.size,?_,sU w _,fun b O=>by subst O;exact⟨ap0 _,au7⟩,fun I V O=>⟨⟨?_,?_,List.replicate n.toNat (.int .u8 0),?_,?_⟩,?_⟩⟩
   .simp only[execOp,ai,Sem.run_bind,dE,d4,dO,Result.andThen_ok,Sem.run_pure]
   .intro b;simp[bo.er,Value.ownBlock,eq_comm]
   .intro b O;simp[bo.er,Value.ownBlock] at O;exact O.symm
   .have:=Ey w e 1 n.toNat (List.replicate n.toNat (.int .u8 0)) au7 (by simp only[maxLen];omega);have aj:List.length (α:=Z .u8) (List.replicate n.toNat (0:UInt8))=n.toNat:=as7;rw[aj];exact this
   .intro i aB aR;obtain⟨aI,q1⟩:=ap5.1 aR;have s9:aB=(0:UInt8):=by rw[<-q1];exact List.getElem_replicate ..
    have aI:i < n.toNat:=by
     have aj:List.length (α:=Z .u8) (List.replicate n.toNat (0:UInt8))=n.toNat:=as7;rw[aj] at aI;exact aI
    subst s9;show(List.replicate n.toNat (Value.int .u8 0))[i*1+0]? =some (Value.int .u8 ((0:UInt8).toNat:Int));rw[Nat.mul_one,Nat.add_zero,List.getElem?_replicate,if_pos aI];rfl
   .simp only[ct,gy,dS,c6,bo.er]
  .exact h.elim
 .exact h.elim
theorem ED {w:World} {e s n:Nat} {v:Value} {cs:List Value} (h:w.ownsRow 0 e s v n cs): ∃pl:bo,pl.er=v/\ ∀b,v.ownBlock=some b->b=pl.bk:=by
 rcases h.2 with⟨rfl,_⟩ |⟨g,cap,c8,rfl,_⟩
 .exact⟨⟨0,none,0,0⟩,rfl,fun b O=>by cases O⟩
 .exact⟨⟨g,some ⟨g,0,none⟩,n,cap⟩,rfl,fun b O=>by simp[Value.ownBlock] at O;exact O.symm⟩
theorem YH (bn:d6 P aU) {T:TypeId} {x y:Operand} {c:Call} {e:Nat} {te:cb} {u:bx} (ai:o.op= .call c) (dP:c.callee= .builtin .append) (d7:c.args.toList=[x,y]) (lv:c.argTypes.toList=[T,T]) (V:elemOf aU T=some (e,te)) (a8:te.u=some u)
  {a:Act} {w:World} {v:Value} {n m:Nat} {cs eS:List Value} {D:Nat->Prop} (hx:a.eval x=v) (du:w.ownsRow 0 e (aS u) v n cs) (E:eL D w (aS u) (a.eval y) m eS) (al: ∀x∈eS,x.oneCell'=true) (hn:n+m<=4294967296):
  ∃cU w',(execOp a.eval o).run P w= .ok (.value cU) w'/\w'.ownsRow 0 e (aS u) cU (n+m) (cs++eS)/\w.grownBy w' v.ownBlock/\(cU.ownBlock=v.ownBlock\/cU.ownBlock=some w.heap.size):=by
 obtain⟨cc,c7,ds,bu⟩:=pm bn V;obtain⟨aB,aR,mx⟩:=bu.zero;have cQ:aS u=c7.size:=(bu.u u a8).trans bu.size.symm
 have nz:aB.cells.size=c7.size:=by
  have E:=b'.length _ _ (vx (ρ:=fun _=>⟨0,none,0,0⟩) (I:=fun _=>False) (w:=w) _ _ mx).1;simp at E;rw[E,bu.IF,bu.size]
 have nK:0 < c7.size:=by have:=bu.pos;have:=bu.size;omega
 have tQ:(n+m)*c7.bytes<=140737488355328:=by
  have E:c7.bytes<=32768:=by rw[bu.bytes];exact bu.Oz
  exact as9 (Nat.mul_le_mul hn E) au6
 obtain⟨cU,w',dO,g1,g2,cX⟩:=H0 (P:=P) w 0 T o.type e c7 aB (aS u) c7.bytes cc bu.jF aR cQ.symm rfl (by rw[nz,cQ]) (by rw[cQ];exact nK) v n cs du D (a.eval y) m eS E al (by simp only[maxLen];omega) tQ (ap7 _);refine⟨cU,w',?_,g1,g2,cX⟩;have ft:c.args= #[x,y]:=Array.toList_inj.1 d7;have jq:c.argTypes= #[T,T]:=Array.toList_inj.1 lv;obtain⟨r3,args,cq⟩:=c;simp only at dP ft jq;subst dP ft jq;unfold execOp;simp only[ai,resolve,invoke,builtin,Sem.run_bind,Sem.run_pure,Result.andThen_ok,List.map_toArray,aq4,au0,hx,dO]
theorem YI {I:Nat->Prop} {w:World} {u:bx} {xs:List (Z u)} {cs:List Value} (aq:cs.length=xs.length*aS u) (h:gK I w u xs cs): ∀v∈cs,v.oneCell'=true:=fun v az=>by
 obtain⟨k,ab,rfl⟩:=List.getElem_of_mem az;obtain⟨aj,ap,bm⟩:=DU (show k < xs.length*aS u by omega);obtain⟨cU,E,G⟩:=cp.one u _ _ (h (k/aS u) _ (oj aj)) (k % aS u) ap;rw[bm,oj ab] at E;injection E with E
 rw[E];exact G
theorem O4 (bn:d6 P aU) {T:TypeId} {x y:Operand} {c:Call} {e:Nat} {te:cb} {u:bx} (ai:o.op= .call c) (dP:c.callee= .builtin .append) (d7:c.args.toList=[x,y]) (lv:c.argTypes.toList=[T,T]) (V:elemOf aU T=some (e,te)) (a8:te.u=some u)
  {a:Act} {w:World} {v:Value} {n:Nat} {cs:List Value} {I:Nat->Prop} {ys:List (Z u)} (hx:a.eval x=v) (du:w.ownsRow 0 e (aS u) v n cs) (aC:cp I w (.b7 u) ys (fun _=>some (a.eval y))) (bb: ∀b,I b->b < w.heap.size) (hn:n+ys.length<=4294967296):
  ∃cU w' eS,(execOp a.eval o).run P w= .ok (.value cU) w'/\w'.ownsRow 0 e (aS u) cU (n+ys.length) (cs++eS)/\gK I w u ys eS/\w.grownBy w' v.ownBlock/\(cU.ownBlock=v.ownBlock\/cU.ownBlock=some w.heap.size):=by
 obtain⟨cc,c7,ds,bu⟩:=pm bn V;obtain⟨aB,aR,mx⟩:=bu.zero;obtain⟨eS,E,G,al⟩:=OO aC bb;have cQ:aS u=c7.size:=(bu.u u a8).trans bu.size.symm
 have nz:aB.cells.size=c7.size:=by
  have E:=b'.length _ _ (vx (ρ:=fun _=>⟨0,none,0,0⟩) (I:=fun _=>False) (w:=w) _ _ mx).1;simp at E;rw[E,bu.IF,bu.size]
 have nK:0 < c7.size:=by have:=bu.pos;have:=bu.size;omega
 have tQ:(n+ys.length)*c7.bytes<=140737488355328:=by
  have E:c7.bytes<=32768:=by rw[bu.bytes];exact bu.Oz
  exact as9 (Nat.mul_le_mul hn E) au6
 obtain⟨cU,w',dO,g1,g2,cX⟩:=H0 (P:=P) w 0 T o.type e c7 aB (aS u) c7.bytes cc bu.jF aR cQ.symm rfl (by rw[nz,cQ]) (by rw[cQ];exact nK) v n cs du I (a.eval y) ys.length eS E al (by simp only[maxLen];omega) tQ (ap7 _);refine⟨cU,w',eS,?_,g1,G,g2,cX⟩;have ft:c.args= #[x,y]:=Array.toList_inj.1 d7;have jq:c.argTypes= #[T,T]:=Array.toList_inj.1 lv;obtain⟨r3,args,cq⟩:=c;simp only at dP ft jq;subst dP ft jq;unfold execOp;simp only[ai,resolve,invoke,builtin,Sem.run_bind,Sem.run_pure,Result.andThen_ok,List.map_toArray,aq4,au0,hx,dO]
theorem Mem.move {C:e8} {ρ:Nat->bo} {F:Nat->Nat->Prop} {w w':World} (h:Mem ids C B ρ F w) {c d:Nat} {cw ch:bd} (H:ah B c=some cw) (hf:gW ids K B d=true) (cz:cJ (F c) w w') (pl:bo) (b8:Nat->Prop) (kL: ∀b,b8 b->(F c b\/w.heap.size<=b)/\b < w'.heap.size)
  (cV: ∀I,cd (bZ C B F w) w I w'->(∀b,I b->b < w'.heap.size/\ ¬b8 b)->Holds (c5 ρ d pl) I b8 w' pl ch):
  Mem ids C ((d,ch)::gL B c) (c5 ρ d pl) (c5 F d b8) w'/\cd (bZ C B F w) w (bZ C ((d,ch)::gL B c) (c5 F d b8) w') w':=by
 obtain⟨h1,jn,f3,pj⟩:=kK hf;have xa:d≠c:=fun e=>by subst e;rw[jn] at H;cases H
 refine h.step (fun i=>i=d\/i=c) (fun i=>i=d) (cz.mono fun b _ O=>⟨c,cw,H,.inr rfl,O⟩) ?_ (fun i aI=>de _ _ aI) (fun i aI=>de _ _ (fun e=>aI (.inl e))) (fun i aI e=>pj (e▸aI)) (fun _ h=>.inl h) ?_ ?_ ?_ ?_
 .intro i ch' aI ba;rw[ca,if_neg (fun e=>ba (.inl e.symm)),hk] at aI
  split at aI
  .cases aI
  .exact aI
 .rintro i ch' aI _ j V rfl;rw[f3 i ch' aI] at V
  cases V
 .rintro i ch' aI ar V;rw[ca] at aI
  split at aI
  .rename_i e;subst e;injection aI with aI
   subst aI;rw[c6,c6];exact cV _ V fun b dm=>⟨dm.1,fun a6=>dm.2.2 d ch (by rw[ca,if_pos rfl]) (by rw[c6];exact a6)⟩
  .rename_i e;rcases ar with rfl |rfl
   .exact absurd rfl e
   .rw[hk,if_pos rfl] at aI;cases aI
 .rintro i ch' aI ar b a6;rcases ar with rfl |rfl
  .rw[c6] at a6;obtain⟨E,G⟩:=kL b a6;exact⟨G,E.imp (fun h=>⟨c,cw,H,.inr rfl,h⟩) id⟩
  .rw[ca,if_neg xa,hk,if_pos rfl] at aI;cases aI
 .rintro i j iT oC b aI aa YJ YK ba
  have q: ∀i ch',ah ((d,ch)::gL B c) i=some ch'->(i=d\/i=c)->i=d:=fun i ch' aI ar=>by
   rcases ar with rfl |rfl
   .rfl
   .rw[ca,if_neg xa,hk,if_pos rfl] at aI;cases aI
  exact absurd ((q i iT aI YJ).trans (q j oC aa YK).symm) ba
theorem IV {w w':World} {r:Option Nat} {S:Nat->Prop} (h:w.grownBy w' r) (av: ∀b,r=some b->S b):cJ S w w':=N5 h av
theorem YL (bn:d6 P aU) {T:TypeId} {x y:Operand} {c:Call} (ai:o.op= .call c) (dP:c.callee= .builtin .append) (d7:c.args.toList=[x,y]) (lv:c.argTypes.toList=[T,T])
  (h:Iq aU T (a7 K x) (a7 K y) o.dst ids K B k):cC P N ids o K B k:=by
 have mem: ∀aB∈ [x,y],aB∈o.op.operands:=fun aB aR=>by
  rw[ai];simp only[Op.operands,Call.operands,Array.mem_append];exact .inr (Array.mem_toList_iff.1 (by rw[d7];exact aR))
 have m1:=mem x au7;have m2:=mem y au7;unfold Iq at h
 split at h
 .rename_i e te d V J
  split at h
  .rename_i u v ys a8 aC
   split at h
   .rename_i r0 _;subst r0
    split at h
    .rename_i hx;obtain⟨b6,cz,h⟩:=h;refine cC.bf h cz <| bB.make (fun d h=>Bf h) fun K' B' g1 g2 C ρ F a w ar av hn=>?_
     obtain⟨cU,w',eS,dO,cf,cM,eb,eA⟩:=O4 bn ai dP d7 lv V a8 (av.dD ((g1 x m1).trans hx)) (World.ownsRow_nil w 0 e (aS v)) (av.ck ((g1 y m2).trans aC)) (fun b O=>O.1) au5;obtain⟨pl,g',jI⟩:=ED cf;have O:Below w.heap.size w w':=⟨eb.os,eb.tape,eb.output,eb.size,fun b O=>eb.block b O (by simp[Value.ownBlock])⟩
     have YM: ∀b,cU.ownBlock=some b->w.heap.size<=b/\b < w'.heap.size:=fun b dm=>by
      have:=cf.lt b dm;rcases eA with eA |eA
      .rw[eA] at dm;cases dm
      .rw[eA] at dm;injection dm with dm;omega
     refine⟨cU,w',pl,fun b=>cU.ownBlock=some b,dO,O,YM,fun I gO bb=>⟨⟨fun b=>by rw[g'],fun b O=>jI b (by rwa[g'] at O),eS,?_,?_⟩,?_⟩⟩
     .rw[g'];have:=cf;rw[Nat.zero_add,List.nil_append] at this;exact this
     .exact gK.mono gO cM
     .simp only[ct,gy,dS,c6,g']
    .rename_i l2 hx
     split at h
     .rename_i b5 sY xs aq
      split at h
      .rename_i IW r4 _;have r4:=ap6 r4;subst IW r4;obtain⟨b6,cz,h⟩:=h;refine cC.bf h cz ?_;rintro K' B' g1 g2 cX C a w ⟨p5,s6,ρ,F,ar,av⟩ bw fC Q di;have f4:ah B' l2=_:=(g2 l2 au7).trans aq;have hf:=cX d au7;have oI:=kK hf;have bl:=ar.holds l2 _ f4;obtain⟨bj,k3,cs,du,jJ⟩:=bl;obtain⟨cU,w',eS,dO,cf,cM,eb,eA⟩:=O4 bn ai dP d7 lv V a8 (av.own ((g1 x m1).trans hx)) du (av.ck ((g1 y m2).trans aC)) (fun b O=>O.1) (by have:(nD rfl xs).length=xs.length:=rfl;omega);obtain⟨pl,g',jI⟩:=ED cf
       obtain⟨bN,gO⟩:=ar.move (K:=K') (ch:=.row b5 sY (nD rfl xs++nD rfl ys)) f4 hf (IV eb fun b O=>(bj b).2 O) pl (fun b=>cU.ownBlock=some b) (fun b O=>⟨by
         rcases eA with eA |eA
         .exact .inl ((bj b).2 (eA.symm.trans O))
         .rw[eA] at O;injection O with O;exact .inr au5,(cf.lt b O).2⟩)
        (fun I gO bb=>⟨fun b=>by rw[g'],fun b O=>jI b (by rwa[g'] at O),cs++eS,by rw[g'];simpa[nD] using cf,gK.t7 (gK.mono gO jJ) (gK.mono gO cM) du.1⟩)
       unfold Oper.wp;rw[dO,Oper.upon_value];exact di _ _ ⟨ke.trans p5,kf.trans s6,_,_,bN,(av.mono gO fun s i aI=>de _ _ (fun e=>by subst e;rw[oI.1 s] at aI;cases aI)).kg (fun e V=>by rw[p5];exact bw e V) (by simp only[ct,gy,dS,c6,g'])⟩
      .exact h.elim
     .exact h.elim
    .exact h.elim
   .exact h.elim
  .rename_i u cL a8 aC
   split at h
   .rename_i l2 hx
    split at h
    .rename_i b5 sY xs ap v ys aq p3
     split at h
     .rename_i r0 IW ba r4 _ _;have r4:=ap6 r4;subst r0 IW r4;obtain⟨b6,cz,h⟩:=h;refine cC.bf h cz ?_;rintro K' B' g1 g2 cX C a w ⟨p5,s6,ρ,F,ar,av⟩ bw fC Q di;have f4:ah B' l2=_:=(g2 l2 au7).trans aq;have YN:ah B' cL=_:=(g2 cL au7).trans p3;have hf:=cX d au7;have oI:=kK hf;obtain⟨bj,k3,cs,du,jJ⟩:=ar.holds l2 _ f4;obtain⟨iV,aoI,YO,O5,O6⟩:=ar.holds cL _ YN;have ho:=eL.qO O5;rw[<-av.own ((g1 y m2).trans aC)] at ho;obtain⟨cU,w',dO,cf,eb,eA⟩:=YH bn ai dP d7 lv V a8 (av.own ((g1 x m1).trans hx)) du ho (YI O5.1 O6) (by have:(nD rfl xs).length=xs.length:=rfl;have:(nD rfl ys).length=ys.length:=rfl;omega);obtain⟨pl,g',jI⟩:=ED cf
      obtain⟨bN,gO⟩:=ar.move (K:=K') (ch:=.row b5 sY (nD rfl xs++nD rfl ys)) f4 hf (IV eb fun b O=>(bj b).2 O) pl (fun b=>cU.ownBlock=some b) (fun b O=>⟨by
        rcases eA with eA |eA
        .exact .inl ((bj b).2 (eA.symm.trans O))
        .rw[eA] at O;injection O with O;exact .inr au5,(cf.lt b O).2⟩)
       (fun I gO bb=>⟨fun b=>by rw[g'],fun b O=>jI b (by rwa[g'] at O),cs++YO,by rw[g'];simpa[nD] using cf,gK.t7 (gK.mono gO jJ) (gK.mono gO O6) du.1⟩)
      unfold Oper.wp;rw[dO,Oper.upon_value];exact di _ _ ⟨ke.trans p5,kf.trans s6,_,_,bN,(av.mono gO fun s i aI=>de _ _ (fun e=>by subst e;rw[oI.1 s] at aI;cases aI)).kg (fun e V=>by rw[p5];exact bw e V) (by simp only[ct,gy,dS,c6,g'])⟩
     .exact h.elim
    .exact h.elim
   .exact h.elim
  .exact h.elim
 .exact h.elim
theorem O7 (s:List UInt8):Go.Lib.strCells ⟨s.toArray⟩=s.map hY:=by simp[Go.Lib.strCells,hY]
theorem YP {w:World} {T eT ty e:TypeId} {i:TypeInfo} (cc:P.underlying T=some (.slice e)) (a8:P.underlying eT=some .string) (aI:P.info? e=some i) (aR:i.zero=some (.int .u8 0)) (ax:i.size=1) (O:i.bytes=1)
  {v:Value} {n:Nat} {cs:List Value} (du:w.ownsRow 0 e 1 v n cs) (s:List UInt8) (hn:n+s.length<=4294967296):
  ∃cU w',(Builtin.append_ #[T,eT] ty #[v,.string ⟨s.toArray⟩]).run P w= .ok cU w'/\w'.ownsRow 0 e 1 cU (n+s.length) (cs++s.map hY)/\w.grownBy w' v.ownBlock/\ ∀b,cU.ownBlock=some b->v.ownBlock=some b\/w.heap.size<=b:=by
 have cQ:(⟨s.toArray⟩:ByteArray).size=s.length:=w5 s;rcases du.2 with⟨rfl,rfl⟩ |⟨g,cap,c8,rfl,-,a6,DR,y3,gj,mZ⟩
 .have YQ:cs=[]:=List.eq_nil_of_length_eq_zero (by simpa using du.1);subst YQ;obtain⟨cU,w',aF,G,al,_⟩:=Go.Lib.run_append_own_string (P:=P) w w.heap.size T eT ty e i cc a8 aI aR ax O (.slice none 0 0) 0 [] (World.ownsRow_nil w w.heap.size e 1) ⟨s.toArray⟩ (by rw[cQ];simp only[maxLen];omega) (by rw[cQ];omega) (ap0 _);rw[cQ,O7] at G;refine⟨cU,w',aF,⟨G.1,?_⟩,al,fun b O=>.inr ?_⟩
  .rcases G.2 with h |⟨g,cap,c8,az,_,r⟩
   .exact .inl h
   .exact .inr ⟨g,cap,c8,az,ap7 _,r⟩
  .rcases G.2 with⟨h,_⟩ |⟨g,cap,c8,az,vp,r⟩
   .rw[h] at O;cases O
   .rw[az] at O;simp[Value.ownBlock] at O;omega
 .obtain⟨cU,w',aF,G,al,_⟩:=Go.Lib.run_append_own_string (P:=P) w 0 T eT ty e i cc a8 aI aR ax O (.slice (some ⟨g,0,none⟩) n cap) n cs du ⟨s.toArray⟩ (by rw[cQ];simp only[maxLen];omega) (by rw[cQ];omega) (ap7 _);have vA:cs.length=n:=by simpa using du.1
  refine⟨cU,w',aF,by rw[cQ,O7] at G;exact G,al,fun b dm=>?_⟩
  by_cases Bh:n+(⟨s.toArray⟩:ByteArray).size<=cap
  .have r5:=Go.Lib.run_append_room_string (P:=P) w T eT ty e i cc a8 aI ax g n cap c8 a6 ⟨s.toArray⟩ Bh au5;rw[aF] at r5;injection r5 with aj ap
   rw[aj] at dm;exact .inl dm
  .have holds: ∀j u,cs[j]? =some u->w.cell? ((⟨g,0,none⟩:Addr).add j)=some u:=du.cells (g:=g) rfl;have r5:=Go.Lib.run_append_grow_string (P:=P) w T eT ty e i (.int .u8 0) cc a8 aI aR ⟨g,0,none⟩ n cap cs (by rw[ax];simpa using vA) holds ⟨s.toArray⟩ au5 (by rw[cQ];omega) (by rw[O];exact growslice_fits au5 (by rw[cQ];omega));rw[aF] at r5;injection r5 with aj ap
   rw[aj] at dm;simp[Value.ownBlock] at dm;exact .inr au5
theorem YR (I:Nat->Prop) (w:World) (xs:List UInt8):gK I w .u8 xs (xs.map hY):=fun i x hx=>by
 show(xs.map hY)[i*1+0]? =_;rw[Nat.mul_one,Nat.add_zero,ar0,show xs[i]? =some x from hx];rfl
theorem YS (bn:d6 P aU) {T eT:TypeId} {x y:Operand} {c:Call} (ai:o.op= .call c) (dP:c.callee= .builtin .append) (d7:c.args.toList=[x,y]) (lv:c.argTypes.toList=[T,eT])
  (h:Ir aU T eT (a7 K x) (a7 K y) o.dst ids K B k):cC P N ids o K B k:=by
 have mem: ∀aB∈ [x,y],aB∈o.op.operands:=fun aB aR=>by
  rw[ai];simp only[Op.operands,Call.operands,Array.mem_append];exact .inr (Array.mem_toList_iff.1 (by rw[d7];exact aR))
 have m1:=mem x au7;have m2:=mem y au7;unfold Ir at h
 split at h
 .rename_i e te d V YT J
  split at h
  .rename_i l2 s hx aC
   split at h
   .rename_i b5 xs q0 aq
    split at h
    .rename_i r4;have r4:=ap6 r4;subst r4;obtain⟨b6,cz,h⟩:=h;obtain⟨cc,c7,ds,bu⟩:=pm bn V;obtain⟨YU,YV⟩:=w7 bn q0;have eu:=Ex bn YT;refine cC.bf h cz ?_;rintro K' B' g1 g2 cX C a w ⟨p5,s6,ρ,F,ar,av⟩ bw fC Q di;have f4:ah B' l2=_:=(g2 l2 au7).trans aq;have hf:=cX d au7;have oI:=kK hf;have bl:=ar.holds l2 _ f4;obtain⟨bj,k3,cs,du,jJ⟩:=bl;obtain⟨ti,oH,i5,nL,s9,f',hc⟩:=YV;obtain⟨aB,aR,vz⟩:=O3 nL s9
     have q1:aB= .int .u8 0:=by
      have E:=nL.OA aB aR (by have:=nL.nI;rw[YU] at this;injection this with this;rw[<-this]);rw[E] at vz;simpa using vz
     rw[q1] at aR;obtain⟨cU,w',dO,cf,eb,eA⟩:=YP (P:=P) (w:=w) (T:=T) (eT:=eT) (ty:=o.type) cc eu nL.jF aR (nL.size.trans f') (nL.bytes.trans hc) (show w.ownsRow 0 b5 1 (ρ l2).er (List.length (α:=UInt8) xs) cs from du) s b6;obtain⟨pl,g',jI⟩:=ED cf
     obtain⟨bN,gO⟩:=ar.move (K:=K') (ch:=.row b5 .u8 (List.append (α:=UInt8) xs s)) f4 hf (IV eb fun b O=>(bj b).2 O) pl (fun b=>cU.ownBlock=some b) (fun b O=>⟨by
       rcases eA b O with eA |eA
       .exact .inl ((bj b).2 eA)
       .exact .inr eA,(cf.lt b O).2⟩)
      (fun I gO bb=>⟨fun b=>by rw[g'],fun b O=>jI b (by rwa[g'] at O),cs++s.map hY,by
       rw[g'];have:List.length (α:=Z .u8) (List.append (α:=UInt8) xs s)=List.length (α:=UInt8) xs+s.length:=ap1;rw[this];exact cf,gK.t7 (u:=.u8) (gK.mono gO jJ) (YR _ _ s) du.1⟩)
     have ft:c.args= #[x,y]:=Array.toList_inj.1 d7;have jq:c.argTypes= #[T,eT]:=Array.toList_inj.1 lv;obtain⟨r3,args,cq⟩:=c;simp only at dP ft jq;subst dP ft jq;have dE:=av.own ((g1 x m1).trans hx);have d4:=av.str ((g1 y m2).trans aC)
     have ud:(execOp a.eval o).run P w= .ok (.value cU) w':=by
      unfold execOp;simp only[ai,resolve,invoke,builtin,Sem.run_bind,Sem.run_pure,Result.andThen_ok,List.map_toArray,aq4,au0,dE,d4,dO]
     unfold Oper.wp;rw[ud,Oper.upon_value];exact di _ _ ⟨ke.trans p5,kf.trans s6,_,_,bN,(av.mono gO fun s i aI=>de _ _ (fun e=>by subst e;rw[oI.1 s] at aI;cases aI)).kg (fun e V=>by rw[p5];exact bw e V) (by simp only[ct,gy,dS,c6,g'])⟩
    .exact h.elim
   .exact h.elim
  .exact h.elim
 .exact h.elim
end
end
section
section
variable {P:Program} {aU:dd} {N:Nat} {ids:List Nat} {o:Oper} {K:a1} {B:ay} {k:aQ->fP->Prop}
theorem YW {α:Type} (c8 ys:List α) (off N:Nat) (h:off+ys.length<=N) (G:N<=c8.length):(c8.take off++ys++c8.drop (off+ys.length)).take N=(c8.take N).take off++ys++(c8.take N).drop (off+ys.length):=by
 rw[List.take_append,List.take_of_length_le (by simp;omega),List.take_take,Nat.min_eq_left au5,List.drop_take]
 congr 2
 simp;omega
theorem YX {w:World} {dT sT ty e:TypeId} (a8:P.underlying dT=some (.slice e)) (cQ:(P.info? e).map (·.size)=some 1) {v:Value} {M off n dCap m:Nat} {cs ys:List Value} {qX:Option Addr} {hZ:Value} {D:Nat->Prop} {b5:TypeId}
  (du:w.ownsRow 0 b5 1 v M cs) (J:0 < n-> ∀g cap,v= .slice (some ⟨g,0,none⟩) M cap->M<=cap->qX=some ⟨g,off,none⟩) (k1:off+n<=M) (ho:eL D w 1 hZ m ys) (E: ∀v∈ys,v.oneCell'=true):
  ∃x w',(Builtin.copy_ #[dT,sT] ty #[.slice qX n dCap,hZ]).run P w= .ok x w'/\cJ (fun b=>v.ownBlock=some b) w w'/\w'.ownsRow 0 b5 1 v M (cs.take off++ys.take n++cs.drop (off+(ys.take n).length)):=by
 obtain⟨sp,DS,rfl,aq,nK⟩:=Xh ho n;have gY:(ys.take n).length<=n:=by rw[ap8];exact Nat.min_le_left _ _
 by_cases aw:(ys.take n).length=0
 .refine⟨_,w,run_copy_none (P:=P) w dT sT ty e qX sp n dCap m DS a8 cQ (by rw[<-aq];exact aw),cJ.refl _ _,?_⟩;rw[List.eq_nil_of_length_eq_zero aw];simpa using du
 .obtain⟨ad,rfl,YY⟩:=nK au5;obtain⟨b6,du⟩:=du;rcases du with⟨_,ar⟩ |⟨g,cap,c8,az,O,a6,dP,d7,lv,O8⟩
  .omega
  .obtain rfl:=J au5 g cap az dP;have O9:c8.toList.length=cap:=by simpa using lv
   rw[Nat.mul_one] at O8 b6;refine⟨_,_,run_copy_row (P:=P) w dT sT ty e g off n dCap ad m DS c8 b5 (ys.take n) a8 cQ a6 aq YY (by rw[<-Array.length_toList];omega) (fun v az=>E v (List.mem_of_mem_take az)),Ev (by rw[az];rfl),?_⟩;refine⟨by simp only[ap1,ap8,at1,Nat.mul_one] at*;omega,.inr ⟨g,cap,_,az,O,setRow_heap w g _ _ b5 _ a6,dP,d7,by simp only[List.size_toArray,ap1,ap8,at1,Nat.mul_one] at*;omega,?_⟩⟩;rw[Nat.mul_one];show List.take M (c8.toList.take off++ys.take n++c8.toList.drop (off+(ys.take n).length))=_;rw[YW _ _ _ _ au5 au5,O8]
theorem IX (xs ys:List UInt8) {off n:Nat} (h:off+n<=xs.length):(laid xs off n ys).length=xs.length:=by
 simp only[laid,ap1,ap8,at1];omega
theorem YZ (xs ys:List UInt8) (off n:Nat):List.take off (xs.map hY)++List.take n (ys.map hY)++List.drop (off+(List.take n (ys.map hY)).length) (xs.map hY)=(laid xs off n ys).map hY:=by
 simp only[laid,as3,List.map_take,List.map_drop,ap8,aq3]
theorem Y0 {I:Nat->Prop} {w:World} {xs:List UInt8} {cs:List Value} (h:gK I w .u8 xs cs) (aq:cs.length=xs.length):cs=xs.map hY:=by
 refine List.ext_getElem? fun i=>?_
 rw[ar0]
 cases hx:xs[i]? with
 |none=>
  have:=List.getElem?_eq_none_iff.1 hx;rw[List.getElem?_eq_none_iff.2 au5];rfl
 |some x=>
  have G:=h i x hx;simpa[cp,aS,hY] using G
theorem Y1 (I:Nat->Prop) (w:World) (xs:List UInt8):gK I w .u8 xs (xs.map hY):=fun i x hx=>by
 have hx:xs[i]? =some x:=hx;simp[cp,aS,hx];rfl
theorem Y2 {I:Nat->Prop} {w:World} {v:Value} {l:List UInt8} (bb: ∀b,I b->b < w.heap.size) (h:cp I w (.b7 .u8) l (fun _=>some v)):eL I w 1 v l.length (l.map hY):=by
 obtain⟨A,cap,aw,E,G,al⟩:=h;injection aw with aw
 refine⟨au7,A,cap,aw,E,G,fun ag=>?_⟩;obtain⟨b,o,eG,O,hx⟩:=al ag;refine⟨b,o,eG,O,bb b O,fun j u a8=>?_⟩;rw[ar0] at a8;obtain⟨x,Bi,rfl⟩:=as0.1 a8;have:=hx j x Bi;simpa[cp,aS,hY] using this
theorem bB.Y3 {c:Nat} {cw ch:bd} (H:ah B c=some cw)
  (h: ∀(K':a1) (B':ay),(∀x,x∈o.op.operands->a7 K' x=a7 K x)-> ∀(C:e8) (ρ:Nat->bo) (F:Nat->Nat->Prop) (a:Act) (w:World),Mem ids C B' ρ F w->ee K' ρ (bZ C B' F w) a w->ah B' c=some cw-> ∃x w',(execOp a.eval o).run P w= .ok (.value x) w'/\cJ (F c) w w'/\
   (∀I,cd (bZ C B' F w) w I w'->Holds ρ I (F c) w' (ρ c) ch)):
  bB P N ids o K B (.c (.one .any)) ⟨[c],[],[(c,some ch)]⟩:=by
 rintro K' B' E G - C a w ⟨hn,J,ρ,F,ar,av⟩ bw fC Q di;have cF:ah B' c=some cw:=(G c au7).trans H;obtain⟨x,w',hx,cz,cV⟩:=h K' B' E C ρ F a w ar av cF;obtain⟨bN,V⟩:=ar.hN cF cz cV;unfold Oper.wp;rw[hx,Oper.upon_value];exact di _ _ ⟨ke.trans hn,kf.trans J,ρ,F,bN,(av.mono V fun _ _ _=>rfl).kg (fun e V=>by rw[hn];exact bw e V) trivial⟩
theorem O' (bn:d6 P aU) {T eT e:TypeId} {te:cb} {x y:Operand} {c:Call} {d off n:Nat} {ys:List UInt8} (ai:o.op= .call c) (dP:c.callee= .builtin .copy) (d7:c.args.toList=[x,y]) (lv:c.argTypes.toList=[T,eT]) (V:elemOf aU T=some (e,te)) (iS:qV aU e=true) (aC:a7 K y= .c (.one (.d (.ck .u8 ys))))
  (hx: ∀(K':a1) (ρ:Nat->bo) (I:Nat->Prop) (a:Act) (w:World),ee K' ρ I a w->a7 K' x=a7 K x-> ∀(M:Nat),(ρ d).n=M->(∀e xs,ah B d=some (.row e .u8 xs)->List.length xs=M)->off+n<=M-> ∃qX dCap,a.eval x= .slice qX n dCap/\(0 < n-> ∀g cap,(ρ d).er= .slice (some ⟨g,0,none⟩) M cap->M<=cap->qX=some ⟨g,off,none⟩))
  (h:Ef d off n ys B k):cC P N ids o K B k:=by
 have ft:c.args= #[x,y]:=Array.toList_inj.1 d7;have jq:c.argTypes= #[T,eT]:=Array.toList_inj.1 lv;obtain⟨r3,args,cq⟩:=c;simp only at dP ft jq;subst dP ft jq;have m1:x∈o.op.operands:=by rw[ai];simp[Op.operands,Call.operands]
 have m2:y∈o.op.operands:=by rw[ai];simp[Op.operands,Call.operands]
 obtain⟨a8,c7,ds,bu⟩:=pm bn V;obtain⟨_,aoJ,i8,d8,Pa,_,Y4,_⟩:=w7 bn iS;have cQ:(P.info? e).map (·.size)=some 1:=by rw[Pa.jF];simp[Pa.size,Y4]
 unfold Ef at h
 split at h
 .rename_i b5 xs aq;obtain⟨k1,h⟩:=h;refine cC.of h <| bB.Y3 aq fun K' B' E C ρ F a w ar av f4=>?_
  obtain⟨bj,jI,cs,du,jJ⟩:=ar.holds d _ f4;have OS:=du;obtain⟨dJ,A,cap,az,_,_,_⟩:=eL.qO OS;have hn:(ρ d).n=xs.length:=by unfold bo.er at az;injection az
  have gj:cs=xs.map hY:=Y0 jJ (by have:=dJ;simp[aS] at this;exact this);obtain⟨qX,dCap,Y5,r6⟩:=hx K' ρ _ a w av (E x m1) _ hn (fun ap aoK G=>by rw[aq] at G;cases G;rfl) k1;have Y6:=Y2 (fun b O=>O.1) (av.ck ((E y m2).trans aC));obtain⟨r,w',dO,cz,fW⟩:=YX (P:=P) (w:=w) (dT:=T) (sT:=eT) (ty:=o.type) a8 cQ (dCap:=dCap) du r6 k1 Y6 (N3 _);refine⟨r,w',?_,cz.mono fun b _ O=>(bj b).2 O,fun I aY=>⟨bj,jI,List.take off cs++List.take n (List.map hY ys)++List.drop (off+(List.take n (List.map hY ys)).length) cs,?_,?_⟩⟩
  .simp[execOp,ai,resolve,invoke,builtin,Y5,dO]
  .have bm:List.length (α:=Z .u8) (laid xs off n ys)=List.length (α:=Z .u8) xs:=IX xs ys k1;show w'.ownsRow 0 b5 1 (ρ d).er (List.length (α:=Z .u8) (laid xs off n ys)) _;rw[bm];exact fW
  .rw[gj];have aj:=YZ xs ys off n;rw[aj];exact Y1 I w' _
 .exact h.elim
theorem Y7 (bn:d6 P aU) {T eT:TypeId} {x y:Operand} {c:Call} (ai:o.op= .call c) (dP:c.callee= .builtin .copy) (d7:c.args.toList=[x,y]) (lv:c.argTypes.toList=[T,eT]) (h:Iz aU T (a7 K x) (a7 K y) B k):cC P N ids o K B k:=by
 unfold Iz at h
 split at h
 .rename_i e te V
  split at h
  .rename_i ys iS aC
   split at h
   .rename_i d hx
    split at h
    .rename_i b5 xs aq;refine O' bn ai dP d7 lv V iS aC (fun K' ρ I a w av ab M ar r7 k1=>⟨(ρ d).A,(ρ d).cap,?_,fun ag g cap az _=>?_⟩) h
     .have:=av.own (ab.trans hx);rw[this,r7 b5 xs aq,<-ar];rfl
     .unfold bo.er at az;injection az
    .exact h.elim
   .rename_i d s off n hx
    split at h
    .rename_i ax;have:=ap6 ax;subst this;refine O' bn ai dP d7 lv V iS aC (fun K' ρ I a w av ab M ar r7 k1=>⟨_,_,av.os (ab.trans hx),fun ag g cap az aoL=>?_⟩) h;unfold bo.er at az;injection az with aj ap bm
     rw[if_neg au5,aj,at2,pX];simp
    .exact h.elim
   .exact h.elim
  .exact h.elim
 .exact h.elim
end
end
section
section
variable {P:Program} {aU:dd} {N:Nat} {ids:List Nat} {o:Oper} {K:a1} {B:ay} {k:aQ->fP->Prop}
theorem kk: ∀{aK:ay} {B:ay},kI B aK-> ∀{c ch},ah aK c=some ch->ah B c=some ch
 | [],B,h,c,ch,H=>by cases H
 |(d,x)::aK,B,h,c,ch,H=>by
  rw[ca] at H
  split at H
  .rename_i e;subst e;injection H with H
   subst H;exact h.1
  .exact kk h.2 H
theorem gl: ∀{B:ay} {c:Nat},c∈cl B↔ ∃ch,ah B c=some ch
 | [],c=>by simp[cl,ah]
 |(d,x)::B,c=>by
  simp only[cl,ap3,ca]
  by_cases e:d=c
  .subst e;simp
  .rw[if_neg e];constructor
   .rintro(h |h)
    .exact absurd h.symm e
    .exact gl.1 h
   .exact fun h=>.inr (gl.2 h)
theorem IY: ∀{aK:ay} {bf:List Nat} {aP:ay},mv aK bf aP=true-> ∀{c},c∈cl aP->c∈cl aK\/c∈bf
 |aK,bf,[],h,c,H=>by simp[cl] at H
 |aK,bf,(d,x)::aP,h,c,H=>by
  simp only[mv,vj,Bool.or_eq_true,ar6] at h;rcases ap3.1 H with rfl |H
  .exact h.1.1
  .exact IY h.2 H
theorem Pb: ∀(aP:ay) (aK:ay) (bf:List Nat) (B:ay),mv aK bf aP=true-> ∀c,ah (g9 (iy [] aP) B) c=(match ah aP c with |some ch=>some ch |none=>ah B c)
 | [],_,_,B,_,c=>by simp[iy,Ik,g9,ah]
 |(d,x)::aP,aK,bf,B,h,c=>by
  simp only[mv,vj,Bool.not_eq_true'] at h;show ah (g9 (iy [] aP) ((d,x)::B)) c=_;rw[Pb aP aK bf ((d,x)::B) h.2 c,ca,ca]
  by_cases e:d=c
  .subst e
   have hn:ah aP d=none:=by
    cases aq:ah aP d with
    |none=>rfl
    |some ch=>
     have:=gl.2 ⟨ch,aq⟩;have G:=h.1.2;rw[<-Bool.not_eq_true,ar6] at G;exact absurd this G
   rw[hn,if_pos rfl,if_pos rfl]
  .rw[if_neg e,if_neg e]
theorem EE: ∀(aK:ay) (m0:ay) (bf:List Nat) (aP B:ay),mv m0 bf aP=true-> ∀c,ah (g9 (iy aK aP) B) c=(match ah aP c with |some ch=>some ch |none=>if c∈cl aK then none else ah B c)
 | [],m0,bf,aP,B,h,c=>by
  rw[Pb aP m0 bf B h c];simp[cl]
 |(d,x)::aK,m0,bf,aP,B,h,c=>by
  simp only[iy,g9];rw[EE aK m0 bf aP (gL B d) h c,hk]
  cases ah aP c with
  |some ch=>rfl
  |none=>
   simp only[cl,ap3]
   by_cases e:d=c
   .subst e;simp
   .by_cases ap:c∈cl aK
    .simp[ap]
    .simp[e,ap,Ne.symm e]
theorem EF: ∀{bf:List Nat},rU ids K B bf=true-> ∀c,c∈bf->gW ids K B c=true
 | [],_,c,H=>by cases H
 |d::bf,h,c,H=>by
  simp only[rU,vj] at h;rcases ap3.1 H with rfl |H
  .exact h.1.1
  .exact EF h.2 c H
theorem Pc {ev:Operand->Value} {f:FuncId} {c:Call} {xs:List Operand} {w:World} (hf:jl P f=true) (ai:o.op= .call c) (E:c.callee= .value (.func f)) (G:c.args.toList=xs) (ug:ev (.func f)= .func (.func f) #[] #[]):(execOp ev o).run P w= .ok (.enter f (xs.map ev).toArray) w:=by
 have ft:c.args=xs.toArray:=by rw[<-G]
 obtain⟨r3,args,cq⟩:=c;simp only at E ft;subst E ft;unfold jl at hf
 split at hf
 .rename_i fn j0;simp only[Bool.not_eq_true',Bool.or_eq_false_iff,beq_eq_false_iff_ne] at hf;have G: ¬fn.body=none:=fun e=>by rw[e] at hf;simp at hf
  simp[execOp,ai,resolve,invoke,ug,Deferred.ofValue,callFunc,go_sem,j0];rw[if_neg hf.1,if_neg G]
 .cases hf
theorem y4 {xs:List Operand} (mem: ∀aB∈xs,aB∈o.op.operands) {K':a1} {ρ:Nat->bo} {I:Nat->Prop} {a:Act} {w:World} (g1: ∀x,x∈o.op.operands->a7 K' x=a7 K x) (av:ee K' ρ I a w) (i:Nat) (v:aQ) (x:Value) (az:(xs.map (a7 K))[i]? =some v) (hx:(xs.map a.eval)[i]? =some x):ct ρ I w v x:=by
 rw[ar0] at az hx
 cases aI:xs[i]? with
 |none=>rw[aI] at az;cases az
 |some aB=>
  rw[aI] at az hx;simp only[at2,ap4] at az hx;subst az hx;rw[<-g1 aB (mem aB (List.mem_of_getElem? aI))];exact av.get aB
theorem Bj {f:FuncId} {args:List aQ} {xs:List Operand} (mem: ∀aB∈xs,aB∈o.op.operands)
  (ud: ∀(K':a1) (ρ:Nat->bo) (I:Nat->Prop) (a:Act) (w:World),(∀x,x∈o.op.operands->a7 K' x=a7 K x)->ee K' ρ I a w-> ∃bW:List Value,(jl P f=true->(execOp a.eval o).run P w= .ok (.enter f bW.toArray) w)/\bW.length=args.length/\ ∀(i:Nat) (v:aQ) (x:Value),args[i]? =some v->bW[i]? =some x->ct ρ I w v x)
  (h:wX P f args ids K B k):cC P N ids o K B k:=by
 obtain⟨aK,bf,res,aP,⟨fR,j0⟩,hP,bu,h⟩:=h;rw[rT] at h;simp only[vj] at bu;have nM:=bu.2;refine⟨_,_,h,?_,EF bu.1⟩;rintro K' B' g1 g2 cX C a w ⟨hn,J,ρ,F,ar,av⟩ bw fC Q di;have eU: ∀{c ch},ah aK c=some ch->ah B' c=some ch:=fun {c ch} H=>(g2 c (gl.2 ⟨ch,H⟩)).trans (kk hP H)
 have oI: ∀c∈bf,(∀s,(dA K' s).has c=false)/\ah B' c=none/\(∀d ch,ah B' d=some ch->ch.has c=false)/\c∉ids:=fun c H=>kK (cX c H)
 obtain⟨bW,dO,q2,ta⟩:=ud K' ρ _ a w g1 av
 have H:=j0 ρ F (bZ C B' F w) w bW (fun b O=>O.1) (fun c ch H=>ar.holds c ch (eU H)) (fun c ch H b O=>⟨(ar.own c ch (eU H) b O).1,fun bb=>bb.2.2 c ch (eU H) O⟩)
  (fun c bX ch ch' b E G=>ar.e9 c bX ch ch' b (eU E) (eU G)) q2 ta
 unfold Oper.wp;rw[dO fR,Oper.upon_enter];refine H.mono ?_;rintro e w' ⟨x,ρ',F',rfl,cz,dl,I',i6,gA,cV,aE,h2,dt⟩;have Bk: ∀c,ah (g9 (iy aK aP) B') c=(match ah aP c with |some ch=>some ch |none=>if c∈cl aK then none else ah B' c):=EE aK aK bf aP B' nM
 have pn: ∀c ch,ah (g9 (iy aK aP) B') c=some ch->ah aP c=some ch\/(ah aP c=none/\c∉cl aK/\ah B' c=some ch):=fun c ch H=>by
  rw[Bk] at H
  cases O:ah aP c with
  |some ch'=>rw[O] at H;exact .inl H
  |none=>
   rw[O] at H;simp only at H
   split at H
   .cases H
   .rename_i ab;exact .inr ⟨rfl,ab,H⟩
 let cI:Nat->Nat->Prop:=fun c=>if c∈cl aP then F' c else F c
 have iV: ∀c ch,ah aP c=some ch->cI c=F' c:=fun c ch H=>if_pos (gl.2 ⟨ch,H⟩)
 have Bl: ∀c,ah aP c=none->cI c=F c:=fun c H=>if_neg (fun ab=>by
  obtain⟨ch,h⟩:=gl.1 ab;rw[H] at h;cases h)
 have kl: ∀c ch,ah aP c=some ch->c∈cl aK\/c∈bf:=fun c ch H=>IY nM (gl.2 ⟨ch,H⟩)
 have uh: ∀c ch,ah (g9 (iy aK aP) B') c=some ch->(c∈cl aK\/c∈bf)->ah aP c=some ch:=fun c ch H bN=>by
  rcases pn c ch H with h |⟨E,G,al⟩
  .exact h
  .rcases bN with h |h
   .exact absurd h G
   .rw[(oI c h).2.1] at al;cases al
 have r8:cd I' w' (bZ C (g9 (iy aK aP) B') cI w') w':=fun b O=>by
  obtain⟨aj,ap⟩:=gA b O;refine⟨⟨aj,?_,fun c ch H bj=>?_⟩,rfl⟩
  .rcases ap with ap |⟨c,ch,ap,bm⟩ |ap
   .exact ap.2.1
   .exact .inr ((ar.own c ch (eU ap) b bm).2)
   .exact .inr (.inr (ar.fresh ap))
  .rcases pn c ch H with h |⟨E,G,al⟩
   .rw[iV c ch h] at bj;exact(aE c ch h b bj).2.1 O
   .rw[Bl c E] at bj;rcases ap with ap |⟨d,ch',ap,bm⟩ |ap
    .exact ap.2.2 c ch al bj
    .exact ar.e9 d c ch' ch b (eU ap) al (fun e=>G (e▸gl.2 ⟨ch',ap⟩)) bm bj
    .have:=(ar.own c ch al b bj).1;omega
 obtain⟨bN,aY⟩:=ar.step (B':=g9 (iy aK aP) B') (ρ':=ρ') (F':=cI) (w':=w') (fun c=>c∈cl aK\/c∈bf) (fun c=>c∈bf)
  (cz.mono fun b _ ⟨c,ch,E,G⟩=>⟨c,ch,eU E,.inl (gl.2 ⟨ch,E⟩),G⟩)
  (fun c ch H hn=>by
   rcases pn c ch H with h |⟨_,_,al⟩
   .exact absurd (kl c ch h) hn
   .exact al)
  dl
  (fun c hn=>by
   cases O:ah aP c with
   |none=>exact Bl c O
   |some ch=>exact absurd (kl c ch O) hn)
  (fun c H hn=>(oI c hn).2.2.2 H) (fun c h=>.inr h)
  (fun c ch H _ d J hn=>by rw[(oI d hn).2.2.1 c ch H] at J;cases J)
  (fun c ch H bN _=>by
   have O:=uh c ch H bN;rw[iV c ch O];exact Holds.cg r8 (fun _ _=>rfl) (ap0 _) ch (fun _ _=>rfl) (cV c ch O))
  (fun c ch H bN b O=>by
   have xb:=uh c ch H bN;rw[iV c ch xb] at O;obtain⟨aj,_,bm⟩:=aE c ch xb b O;refine⟨aj,bm.imp (fun⟨gV,cw,E,G⟩=>⟨gV,cw,eU E,.inl (gl.2 ⟨cw,E⟩),G⟩) id⟩)
  (fun c bX ch ch' b H cF kl iK ba O dm=>by
   have E:=uh c ch H kl;have G:=uh bX ch' cF iK;rw[iV c ch E] at O;rw[iV bX ch' G] at dm;exact h2 c bX ch ch' b E G ba O dm)
 refine di _ _ ⟨ke.trans hn,kf.trans J,ρ',cI,bN,(av.mono aY fun s d J=>dl d fun hn=>by rw[(oI d hn).1 s] at J;cases J).kg (fun e V=>by rw[hn];exact bw e V) (ct.mono r8 _ _ (fun _ _=>rfl) dt)⟩
theorem Pd {f:FuncId} {c:Call} {xs:List Operand} (ai:o.op= .call c) (E:c.callee= .value (.func f)) (G:c.args.toList=xs) (h:wX P f (xs.map (a7 K)) ids K B k):cC P N ids o K B k:=by
 have mem: ∀aB∈xs,aB∈o.op.operands:=fun aB aR=>by
  rw[ai];simp only[Op.operands,Call.operands,Array.mem_append];exact .inr (Array.mem_toList_iff.1 (by rw[G];exact aR))
 exact Bj mem (fun K' ρ I a w g1 av=>⟨xs.map a.eval,fun fR=>Pc fR ai E G rfl,au7,y4 mem g1 av⟩) h
theorem Pe {ρ:Nat->bo} {I:Nat->Prop} {w:World}: ∀(aD:List aQ) (l:List kF) (us:List Value),wZ aD=some l->us.length=aD.length->(∀(i:Nat) (v:aQ) (x:Value),aD[i]? =some v->us[i]? =some x->ct ρ I w v x)->hM ρ I w l us
 | [],l,us,h,aq,_=>by
  simp only[wZ,ap4] at h;subst h;exact List.eq_nil_of_length_eq_zero aq
 |v::aD,l,[],h,aq,_=>by simp at aq
 |v::aD,l,u::us,h,aq,J=>by
  have br:=fun r aF=>Pe aD r us aF (by simpa using aq) (fun i v x az hx=>J (i+1) v x (by simpa using az) (by simpa using hx))
  have aw:=J 0 v u rfl rfl;unfold wZ at h
  split at h
  .rename_i e;simp at e
  .rename_i c o rW e;injection e with aj ap
   subst aj ap
   split at h
   .rename_i r aF;injection h with h
    subst h;exact⟨u,us,rfl,aw,br r aF⟩
   .cases h
  .rename_i x rW e;injection e with aj ap
   subst aj ap
   split at h
   .rename_i r aF;injection h with h
    subst h;exact⟨u,us,rfl,aw,br r aF⟩
   .cases h
  .cases h
theorem Y8 {f:FuncId} {fs cs:Array Operand} (ai:o.op= .makeFunc (.func f) fs cs) (h:match fs.toList,wZ (cs.toList.map (a7 K)) with
  | [],some l=>k (.c (.one (.cT f l))) bG
  |_,_=>False):cC P N ids o K B k:=by
 split at h
 .rename_i l vB aq
  have mem: ∀aB∈cs.toList,aB∈o.op.operands:=fun aB aR=>by
   rw[ai];simp only[Op.operands,Array.mem_append];exact .inr (Array.mem_toList_iff.1 aR)
  refine cC.of h <| bB.val fun K' B' g1 g2 C ρ F a w ar av=>?_
  have Y9:fs= #[]:=Array.toList_eq_nil_iff.1 vB
  refine⟨.func (.func f) #[] (List.toArray (cs.toList.map a.eval)),(by
   have e:cs.map a.eval=List.toArray (cs.toList.map a.eval):=Array.toList_inj.1 au7;simp[execOp,ai,Instr.makeFunc,Y9,e]),_,rfl,?_⟩
  exact Pe _ l _ aq au7 (y4 mem g1 av)
 .exact h.elim
theorem IZ {ev:Operand->Value} {f:FuncId} {c:Call} {x:Operand} {xs:List Operand} {cs:List Value} {w:World} (hf:jl P f=true) (ai:o.op= .call c) (E:c.callee= .value x) (G:c.args.toList=xs) (ug:ev x= .func (.func f) #[] (List.toArray cs)):(execOp ev o).run P w= .ok (.enter f (xs.map ev++cs).toArray) w:=by
 have ft:c.args=xs.toArray:=by rw[<-G]
 obtain⟨r3,args,cq⟩:=c;simp only at E ft;subst E ft;unfold jl at hf
 split at hf
 .rename_i fn j0;simp only[Bool.not_eq_true',Bool.or_eq_false_iff,beq_eq_false_iff_ne] at hf;have G: ¬fn.body=none:=fun e=>by rw[e] at hf;simp at hf
  simp[execOp,ai,resolve,invoke,ug,Deferred.ofValue,callFunc,go_sem,j0];rw[if_neg hf.1,if_neg G]
 .cases hf
theorem hM.bW {ρ:Nat->bo} {I:Nat->Prop} {w:World}: ∀(l:List kF) (aD:List Value),hM ρ I w l aD->aD.length=(oA l).length/\ ∀(i:Nat) (v:aQ) (x:Value),(oA l)[i]? =some v->aD[i]? =some x->ct ρ I w v x
 | [],aD,h=>by rw[show aD=[] from h];exact⟨rfl,fun i v x az=>by simp[oA] at az⟩
 | .p c o::l,_,⟨v,r,e,E,G⟩=>by
  subst e;obtain⟨g1,g2⟩:=hM.bW l r G;refine⟨by simp[oA,g1],fun i u x a8 hx=>?_⟩
  match i with
  |0=>
   simp only[oA,aq5,ap4] at a8 hx;subst a8 hx;exact E
  |i+1=>exact g2 i u x (by simpa[oA] using a8) (by simpa using hx)
 | .d y::l,_,⟨v,r,e,E,G⟩=>by
  subst e;obtain⟨g1,g2⟩:=hM.bW l r G;refine⟨by simp[oA,g1],fun i u x a8 hx=>?_⟩
  match i with
  |0=>
   simp only[oA,aq5,ap4] at a8 hx;subst a8 hx;exact E
  |i+1=>exact g2 i u x (by simpa[oA] using a8) (by simpa using hx)
theorem Y' {f:FuncId} {c:Call} {t:Nat} {l:List kF} {xs:List Operand} (ai:o.op= .call c) (E:c.callee= .value (.tmp t)) (G:c.args.toList=xs) (aq:dA K t= .c (.one (.cT f l))) (h:wX P f (xs.map (a7 K)++oA l) ids K B k):cC P N ids o K B k:=by
 have mem: ∀aB∈xs,aB∈o.op.operands:=fun aB aR=>by
  rw[ai];simp only[Op.operands,Call.operands,Array.mem_append];exact .inr (Array.mem_toList_iff.1 (by rw[G];exact aR))
 have xc:Operand.tmp t∈o.op.operands:=by
  rw[ai];simp only[Op.operands,Call.operands,Array.mem_append,E];exact .inl au7
 refine Bj mem (fun K' ρ I a w g1 av=>?_) h;have az:=av (t);have ab:dA K' t=dA K t:=g1 (.tmp t) xc;rw[ab,aq] at az;obtain⟨aD,e,H⟩:=az;obtain⟨cx,cA⟩:=hM.bW l aD H;refine⟨xs.map a.eval++aD,fun fR=>IZ fR ai E G e,by simp[cx],fun i v x az hx=>?_⟩
 by_cases aI:i < xs.length
 .rw[ar7 (by simpa using aI)] at az hx;exact y4 mem g1 av i v x az hx
 .rw[ar9 (by simp;omega)] at az hx;simp only[aq3] at az hx;exact cA _ v x az hx
theorem Pf: ∀bs:List Nat,(qQ bs).length=(tY bs).length
 | []=>rfl
 |b::l=>by simp[qQ,tY,Pf l]
theorem Pg {ρ:Nat->bo} {I:Nat->Prop} {w:World}: ∀(bs:List Nat) (i:Nat) (u:aQ) (x:Value),(tY bs)[i]? =some u->(qQ bs)[i]? =some x->ct ρ I w u x
 | [],i,u,x,a8,_=>by simp[tY] at a8
 |b::l,0,u,x,a8,hx=>by
  simp only[tY,qQ,aq5,ap4] at a8 hx;subst a8 hx;exact rfl
 |b::l,i+1,u,x,a8,hx=>by
  simp only[tY,qQ,au2] at a8 hx;exact Pg l i u x a8 hx
theorem Za {c:Call} {t:Nat} {y:Nat×List Nat} {xs:List Operand} (ai:o.op= .call c) (E:c.callee= .value (.tmp t)) (G:c.args.toList=xs) (aq:dA K t= .c (.one (.d (.fn y)))) (h:wX P y.1 (xs.map (a7 K)++tY y.2) ids K B k):cC P N ids o K B k:=by
 have mem: ∀aB∈xs,aB∈o.op.operands:=fun aB aR=>by
  rw[ai];simp only[Op.operands,Call.operands,Array.mem_append];exact .inr (Array.mem_toList_iff.1 (by rw[G];exact aR))
 have xc:Operand.tmp t∈o.op.operands:=by
  rw[ai];simp only[Op.operands,Call.operands,Array.mem_append,E];exact .inl au7
 refine Bj mem (fun K' ρ I a w g1 av=>?_) h;have az:=av (t);have ab:dA K' t=dA K t:=g1 (.tmp t) xc;rw[ab,aq] at az;have e:a.tmps.getD t undef= .func (.func y.1) #[] (List.toArray (qQ y.2)):=az;refine⟨xs.map a.eval++qQ y.2,fun fR=>IZ fR ai E G e,by simp[Pf],fun i v x az hx=>?_⟩
 by_cases aI:i < xs.length
 .rw[ar7 (by simpa using aI)] at az hx;exact y4 mem g1 av i v x az hx
 .rw[ar9 (by simp;omega)] at az hx;simp only[aq3] at az hx;exact Pg _ _ v x az hx
theorem Zb (bn:d6 P aU) {T:TypeId} {x:Operand} {c:Call} (ai:o.op= .call c) (dP:c.callee= .builtin .len) (d7:c.args.toList=[x]) (lv:c.argTypes.toList=[T]) (h:match In aU T B (a7 K x) with
  |some (n,ig)=>k (.c (.one (.d (.int .i64 (n:Int))))) ⟨ig,[],[]⟩
  |none=>False):cC P N ids o K B k:=by
 have ft:c.args= #[x]:=Array.toList_inj.1 d7;have jq:c.argTypes= #[T]:=Array.toList_inj.1 lv;obtain⟨r3,args,cq⟩:=c;simp only at dP ft jq;subst dP ft jq;have m1:x∈o.op.operands:=by rw[ai];simp[Op.operands,Call.operands]
 have run: ∀{ev:Operand->Value} {w:World} {A:Option Addr} {n cap:Nat} {e:Nat},ev x= .slice A n cap->P.underlying T=some (.slice e)->(execOp ev o).run P w= .ok (.value (.int .i64 (n:Int))) w:=fun {ev w A n cap e} E cr=>by
  simp[execOp,ai,E,resolve,invoke,builtin,Builtin.len_,run_underlying cr,goInt]
 split at h
 .rename_i n ig hn;refine cC.of h ?_;unfold In at hn
  split at hn
  .rename_i s hx
   split at hn
   .rename_i cc;injection hn with hn
    injection hn with aj ap
    subst aj ap;refine bB.one hx m1 fun K' ρ I a w av e=>⟨_,?_,rfl⟩
    simp[execOp,ai,av.str e,resolve,invoke,builtin,Builtin.len_,run_underlying (Ex bn cc),goInt,w5]
   .cases hn
  .rename_i u xs hx
   split at hn
   .rename_i p V;obtain⟨a8,_⟩:=pm bn (e:=p.1) (te:=p.2) V;injection hn with hn
    injection hn with aj ap
    subst aj ap;refine bB.one hx m1 fun K' ρ I a w av e=>?_
    obtain⟨A,cap,bm,_⟩:=av.ck e;injection bm with bm
    exact⟨_,run bm a8,rfl⟩
   .cases hn
  .rename_i hx
   split at hn
   .rename_i p V;obtain⟨a8,_⟩:=pm bn (e:=p.1) (te:=p.2) V;injection hn with hn
    injection hn with aj ap
    subst aj ap;exact bB.one hx m1 fun K' ρ I a w av e=>⟨_,run (av.dD e) a8,rfl⟩
   .cases hn
  .rename_i l2 hx
   split at hn
   .rename_i p V;obtain⟨a8,_⟩:=pm bn (e:=p.1) (te:=p.2) V
    split at hn
    .rename_i b5 u xs aq;injection hn with hn
     injection hn with aj ap
     subst aj ap;refine bB.val fun K' B' g1 g2 C ρ F a w ar av=>?_
     obtain⟨bj,jI,cs,du,_⟩:=ar.holds l2 _ ((g2 l2 au7).trans aq);have dE:=av.own ((g1 x m1).trans hx);obtain⟨_,A,cap,az,_⟩:=eL.qO du;exact⟨_,run (dE.trans az) a8,rfl⟩
    .cases hn
   .cases hn
  .rename_i l2 hx
   split at hn
   .rename_i p cc
    split at hn
    .rename_i aJ aL es aq;injection hn with hn
     injection hn with aj ap
     subst aj ap;refine bB.val fun K' B' g1 g2 C ρ F a w ar av=>?_
     obtain⟨bj,bT,bU,O,aA,c'⟩:=ar.holds l2 _ ((g2 l2 au7).trans aq);have dE:=av.mp ((g1 x m1).trans hx);refine⟨.int .i64 (es.length:Int),?_,rfl⟩;rw[<-AZ aA];simp[execOp,ai,dE,resolve,invoke,builtin,Builtin.len_,run_underlying (EA bn (kt:=p.1) (et:=p.2) cc),goInt,MapKept.run_getObj_map O]
    .cases hn
   .cases hn
  .cases hn
 .exact h.elim
theorem Ph {x y:Operand} {c:Call} {bi:Builtin} (Zc:bi= .min\/bi= .max) (ai:o.op= .call c) (dP:c.callee= .builtin bi) (d7:c.args.toList=[x,y]) (h:match a7 K x,a7 K y with
  | .c (.one (.d (.int .i64 a))),.c (.one (.d (.int .i64 b)))=>k (.c (.one (.d (.int .i64 (if bi= .min then min a b else max a b))))) bG
  |_,_=>False):cC P N ids o K B k:=by
 have ft:c.args= #[x,y]:=Array.toList_inj.1 d7;obtain⟨r3,args,cq⟩:=c;simp only at dP ft;subst dP ft;have m1:x∈o.op.operands:=by rw[ai];simp[Op.operands,Call.operands]
 have m2:y∈o.op.operands:=by rw[ai];simp[Op.operands,Call.operands]
 split at h
 .rename_i a b hx aC;refine cC.of h <| bB.two hx aC m1 m2 fun K' ρ I e' w av aj ap=>⟨_,?_,rfl⟩
  rcases Zc with rfl |rfl
  .have e:(if b < a then b else a)=min a b:=by rw[Int.min_def];split <;>split <;>omega
   simp[execOp,ai,av.int aj,av.int ap,resolve,invoke,builtin,run_min_int2,e]
  .have e:(if b >a then b else a)=max a b:=by rw[Int.max_def];split <;>split <;>omega
   simp only[gt_iff_lt] at e;simp[execOp,ai,av.int aj,av.int ap,resolve,invoke,builtin,run_max_int2,e]
 .exact h.elim
theorem l1.bool {P:Program} {T:Nat} {ti:cb} {i:TypeInfo} {d:TypeDesc} (h:l1 P T ti i d) (ab:ti.kd= .bool):P.underlying T=some .bool:=by
 have:=h.kd;rw[ab] at this;rw[h.nI]
 cases d <;>simp[s1] at this⊢
theorem Pi (bn:d6 P aU) {T:Nat} (h:Eb aU T=true):P.underlying T=some .bool:=by
 unfold Eb at h
 split at h
 .rename_i ti gz
  split at h
  .rename_i ab;obtain⟨_,_,bu⟩:=bn.at_ gz;exact bu.bool ab
  .cases h
 .cases h
theorem Pj (bn:d6 P aU) {T:Nat} (h:Il aU T=true): ∃e,P.underlying T=some (.pointer e):=by
 unfold Il at h
 split at h
 .rename_i ti gz
  split at h
  .rename_i e ab;obtain⟨_,_,bu⟩:=bn.at_ gz;exact⟨e,bu.ptr ab⟩
  .cases h
 .cases h
theorem Pk (bn:d6 P aU) {T:Nat} (h:yQ aU T=true): ∃e i,P.underlying T=some (.pointer e)/\P.info? e=some i/\i.size≠0:=by
 unfold yQ at h
 split at h
 .rename_i ti gz
  split at h
  .rename_i e ab
   split at h
   .rename_i te vy;obtain⟨_,_,bu⟩:=bn.at_ gz;obtain⟨i,_,s8⟩:=bn.at_ vy;exact⟨e,i,bu.ptr ab,s8.jF,by rw[s8.size];exact s8.pos⟩
   .cases h
  .cases h
 .cases h
theorem I0 (h:Eg P ids o K B k):cC P N ids o K B k:=by
 obtain⟨v,e,E,G,al⟩:=h;rw[rT] at al;exact⟨v,e,al,E N,EF G⟩
set_option maxHeartbeats 1000000 in
theorem Zd (bn:d6 P aU) (h:IA P aU ids o K B k):cC P N ids o K B k:=by
 unfold IA at h
 split at h
 .exact OL (.inl ‹_›) h
 .exact OL (.inr ‹_›) h
 .exact XL ‹_› h
 .rename_i op T x y fE ai;have q3:(∃v,k v bG/\bB P N ids o K B v bG)->cC P N ids o K B k:=fun⟨v,E,G⟩=>cC.of E G
  split at h
  .rename_i cc;exact q3 (OG ai (fun T=>Pk bn) (Pj bn cc) h)
  .rename_i cc;exact q3 (OG ai (fun T=>Pk bn) (Pj bn cc) h)
  .split at h
   .exact h.elim
   .exact h.elim
   .rename_i hx
    split at h
    .rename_i O;exact q3 (OH ai (Pi bn O) (.inl hx) h)
    .exact h.elim
   .rename_i hx
    split at h
    .rename_i O;exact q3 (OH ai (Pi bn O) (.inr hx) h)
    .exact h.elim
   .rename_i E G _ _;exact q3 (OE ai (.inr fun c d=>⟨E c d,G _⟩) h)
  .exact h.elim
 .exact XM ‹_› h
 .exact XN ‹_› h
 .exact XO ‹_› h
 .exact XP bn ‹_› h
 .exact XR bn ‹_› h
 .exact X2 bn ‹_› h
 .exact X6 bn ‹_› h
 .exact X7 bn ‹_› h
 .exact X' bn ‹_› h
 .rename_i T bE ai
  split at h
  .rename_i lu;exact Yi bn ai h lu
  .exact h.elim
 .rename_i T n bE hn ai;exact Yk bn ai hn h
 .exact Yl bn ‹_› h
 .exact Ym bn ‹_› h
 .rename_i ai
  split at h
  .rename_i hx;exact Ys bn ai hx h
  .rename_i c o hx
   split at h
   .rename_i Ze;have:=ap6 Ze;subst this;exact YB bn ai hx h
   .exact h.elim
  .exact Yo bn ai h
 .exact YA bn ‹_› h
 .exact Yp bn ‹_› h
 .exact Yx bn ‹_› h
 .exact Yy bn ‹_› h
 .exact YE bn ‹_› h
 .exact Y8 ‹_› h
 .exact YG bn ‹_› h
 .rename_i c ai
  split at h
  .rename_i f E;exact Pd ai E rfl h
  .rename_i t E
   split at h
   .rename_i f l aq;exact Y' ai E rfl aq h
   .rename_i x aq;exact Za ai E rfl aq h
   .exact h.elim
  .rename_i x E G
   split at h
   .rename_i T cc;exact Zb bn ai E G cc h
   .exact h.elim
  .rename_i x y E G
   split at h
   .rename_i T eT cc;exact Yz bn ai E G cc h
   .exact h.elim
  .rename_i x y E G;refine Ph (bi:=.min) (.inl rfl) ai E G ?_;simp only[if_pos rfl];exact h
  .rename_i x y E G;refine Ph (bi:=.max) (.inr rfl) ai E G ?_;simp only[reduceCtorEq,if_false];exact h
  .rename_i x y E G
   split at h
   .rename_i T eT cc;exact Y7 bn ai E G cc h
   .exact h.elim
  .rename_i x y E G
   split at h
   .rename_i T eT cc
    split at h
    .rename_i V;have:=ap6 V;subst this;exact YL bn ai E G cc h
    .exact YS bn ai E G cc h
   .exact h.elim
  .exact I0 h
 .exact I0 h
theorem I1 (bn:d6 P aU) (h:Ej P aU ids o K B k):cC P N ids o K B k:=by
 unfold Ej at h
 split at h
 .exact I0 h
 .exact Zd bn h
end
end
end Go.Proofs.YthnboghbhgapcaaGreat
