/-
A part of the proof of this claim: lemmas, with no condition beyond what each says.
-/
import Derived.Lib.AppendStr
import Derived.Test.YthnboghbhgapcaaGreatZb4
set_option linter.unusedVariables false
set_option linter.unusedSimpArgs false
set_option maxRecDepth 10000
set_option maxHeartbeats 4000000
namespace Go.Proofs.YthnboghbhgapcaaGreat
open Go.RowKit Go.Proofs
section
section
variable {P:Program} {aS:dc} {N:Nat} {ids:ay5} {o:Oper} {K:aY} {B:aw} {k:aP->fR->Prop}
theorem YQ {w:World} (t e:TypeId) (cq:P.underlying t=some (.slice e)) {i:TypeInfo} (aH:P.info? e=some i) {aC:Value} (aR:i.zero=some aC) (vH:aC.cells= #[.int .u8 0]) (ax:i.size=1) (O:i.bytes=1) (n:Nat) (hn:n<=4294967296):
  (Instr.makeSlice t (.int .i64 (n:Int)) (.int .i64 (n:Int))).run P w= .ok (.slice (some ⟨w.heap.size,0,none⟩) n n) (w.alloc (.cells (List.replicate n (.int .u8 0)).toArray e)):=by
 have h:=run_make (P:=P) w t e i _ cq aH aR .i64 .i64 (n:Int) (n:Int) au5 au5 (by rw[O];omega) au5;rw[h,ax,vH];simp only[Int.toNat_natCast,Nat.mul_one]
 congr 3
 simp[madeCells];apply Array.ext
 .simp
 .intro i E G;simp[Nat.mod_one]
theorem O9 {ti:cb} {T:Nat} {i:TypeInfo} {d:TypeDesc} (bu:l3 P T ti i d) (aR:ti.zero=[.d (.int .u8 0)]): ∃aC,i.zero=some aC/\aC.cells= #[.int .u8 0]:=by
 obtain⟨aC,E,G⟩:=bu.zero;refine⟨aC,E,?_⟩;rw[aR] at G
 have:aC.cells.toList=[.int .u8 0]:=by
  match H:aC.cells.toList,G with
  | [v],G=>
   simp only[s8,Bool.and_true] at G;have:=(OZ (ρ:=fun _=>⟨0,none,0,0⟩) (I:=fun _=>False) (w:=default) G).1;rw[show v=_ from this]
  | [],G=>simp[s8] at G
  |_::_::_,G=>simp[s8] at G
 exact Array.toList_inj.1 this
theorem YR (bm:d6 P aS) {T:TypeId} {x y:Operand} (ah:o.op= .makeSlice T x y) (h:match elemOf aS T,a6 K x,a6 K y,o.dst with
  |some (e,te),.c (.one (.d (.int .i64 n))),.c (.one (.d (.int .i64 m))),some d=>match qX aS e with
   |true=>(n=m/\0<=n/\n<=4294967296)/\gX ids K B d=true/\k (.c (.one (.own d))) ⟨[],[d],[(d,some (.row e .u8 (List.replicate n.toNat (0:UInt8))))]⟩
   |false=>False
  |_,_,_,_=>False):cB P N ids o K B k:=by
 have m1:x∈o.op.operands:=av2
 have m2:y∈o.op.operands:=av2
 split at h
 .rename_i e te n m d V hx aB J;obtain⟨a7,c7,ds,bu⟩:=pq bm V
  split at h
  .rename_i q2;obtain⟨q2,ti,oJ,iB,nL,tg,f',he⟩:=xe bm q2;obtain⟨aC,aR,vH⟩:=O9 nL tg;obtain⟨⟨rfl,av,E⟩,cz,h⟩:=h;refine cB.bc h cz <| bB.make (fun d h=>Bn h) fun K' B' g1 g2 C ρ F a w aq au hn=>?_
   have dE:=au.int ((g1 x m1).trans hx);have d4:=au.int ((g1 y m2).trans aB);have dO:=YQ (P:=P) (w:=w) T e a7 nL.jE aR vH (nL.size.trans f') (nL.bytes.trans he) n.toNat au5;rw[show((n.toNat:Nat):Int)=n by omega] at dO;refine⟨.slice (some ⟨w.heap.size,0,none⟩) n.toNat n.toNat,w.alloc (.cells (List.replicate n.toNat (.int .u8 0)).toArray e),⟨w.heap.size,some ⟨w.heap.size,0,none⟩,n.toNat,n.toNat⟩,fun b=>b=w.heap.size,?_,s0 w _,fun b O=>by subst O;exact⟨ap0 _,au7⟩,fun I V O=>⟨⟨?_,?_,List.replicate n.toNat (.int .u8 0),?_,?_⟩,?_⟩⟩
   .simp only[execOp,ah,Sem.run_bind,dE,d4,dO,Result.andThen_ok,Sem.run_pure]
   .intro b;simp[bn.ey,Value.ownBlock,eq_comm]
   .intro b O;simp[bn.ey,Value.ownBlock] at O;exact O.symm
   .have:=EH w e 1 n.toNat (List.replicate n.toNat (.int .u8 0)) au7 aw9;have ai:List.length (α:=aa .u8) (List.replicate n.toNat (0:UInt8))=n.toNat:=as4;rw[ai];exact this
   .intro i aC aR;obtain⟨aH,q3⟩:=ap5.1 aR;have tg:aC=(0:UInt8):=by rw[<-q3];exact List.getElem_replicate ..
    have aH:i < n.toNat:=by
     have ai:List.length (α:=aa .u8) (List.replicate n.toNat (0:UInt8))=n.toNat:=as4;rw[ai] at aH;exact aH
    subst tg;show(List.replicate n.toNat (Value.int .u8 0))[i*1+0]? =some (Value.int .u8 ((0:UInt8).toNat:Int));rw[Nat.mul_one,Nat.add_zero,List.getElem?_replicate,if_pos aH];rfl
   .simp only[cr,gA,dU,c6,bn.ey]
  .exact h.elim
 .exact h.elim
theorem EM {w:World} {e s n:Nat} {v:Value} {cs:List Value} (h:w.ownsRow 0 e s v n cs): ∃pl:bn,pl.ey=v/\ ∀b,v.ownBlock=some b->b=pl.bj:=by
 rcases h.2 with⟨rfl,_⟩ |⟨g,cap,c9,rfl,_⟩
 .exact⟨⟨0,none,0,0⟩,rfl,fun b O=>by cases O⟩
 .exact⟨⟨g,some ⟨g,0,none⟩,n,cap⟩,rfl,fun b O=>by simp[Value.ownBlock] at O;exact O.symm⟩
theorem YS (bm:d6 P aS) {T:TypeId} {x y:Operand} {c:Call} {e:Nat} {te:cb} {u:bx} (ah:o.op= .call c) (dP:c.callee= .builtin .append) (d7:c.args.toList=[x,y]) (lz:c.argTypes.toList=[T,T]) (V:elemOf aS T=some (e,te)) (a7:te.u=some u)
  {a:Act} {w:World} {v:Value} {n m:Nat} {cs eR:List Value} {D:Nat->Prop} (hx:a.eval x=v) (du:w.ownsRow 0 e (aQ u) v n cs) (E:eN D w (aQ u) (a.eval y) m eR) (aj: ∀x∈eR,x.oneCell'=true) (hn:n+m<=4294967296):
  ∃cW w',(execOp a.eval o).run P w= .ok (.value cW) w'/\w'.ownsRow 0 e (aQ u) cW (n+m) (cs++eR)/\w.grownBy w' v.ownBlock/\(cW.ownBlock=v.ownBlock\/cW.ownBlock=some w.heap.size):=by
 obtain⟨cd,c7,ds,bu⟩:=pq bm V;obtain⟨aC,aR,my⟩:=bu.zero;have cM:aQ u=c7.size:=(bu.u u a7).trans bu.size.symm
 have nz:aC.cells.size=c7.size:=by
  have E:=b'.length _ _ (vF (ρ:=fun _=>⟨0,none,0,0⟩) (I:=fun _=>False) (w:=w) _ _ my).1;simp at E;rw[E,bu.iOz,bu.size]
 have nK:0 < c7.size:=by have:=bu.pos;have:=bu.size;omega
 have tW:(n+m)*c7.bytes<=140737488355328:=by
  have E:c7.bytes<=32768:=by rw[bu.bytes];exact bu.OF
  exact as9 (Nat.mul_le_mul hn E) au6
 obtain⟨cW,w',dO,g1,g2,cZ⟩:=H9 (P:=P) w 0 T o.type e c7 aC (aQ u) c7.bytes cd bu.jE aR cM.symm rfl (by rw[nz,cM]) (by rw[cM];exact nK) v n cs du D (a.eval y) m eR E aj aw9 tW (ap7 _);refine⟨cW,w',?_,g1,g2,cZ⟩;have fu:c.args= #[x,y]:=Array.toList_inj.1 d7;have jq:c.argTypes= #[T,T]:=Array.toList_inj.1 lz;obtain⟨r7,args,cp⟩:=c;simp only at dP fu jq;subst dP fu jq;unfold execOp;simp only[ah,resolve,invoke,builtin,Sem.run_bind,Sem.run_pure,Result.andThen_ok,List.map_toArray,aq4,au0,hx,dO]
theorem YT {I:Nat->Prop} {w:World} {u:bx} {xs:List (aa u)} {cs:List Value} (al:cs.length=xs.length*aQ u) (h:gL I w u xs cs): ∀v∈cs,v.oneCell'=true:=fun v ay=>by
 obtain⟨k,ab,rfl⟩:=List.getElem_of_mem ay;obtain⟨ai,ao,bl⟩:=D3 (show k < xs.length*aQ u by omega);obtain⟨cW,E,G⟩:=co.one u _ _ (h (k/aQ u) _ (oj ai)) (k % aQ u) ao;rw[bl,oj ab] at E;injection E with E
 rw[E];exact G
theorem O' (bm:d6 P aS) {T:TypeId} {x y:Operand} {c:Call} {e:Nat} {te:cb} {u:bx} (ah:o.op= .call c) (dP:c.callee= .builtin .append) (d7:c.args.toList=[x,y]) (lz:c.argTypes.toList=[T,T]) (V:elemOf aS T=some (e,te)) (a7:te.u=some u)
  {a:Act} {w:World} {v:Value} {n:Nat} {cs:List Value} {I:Nat->Prop} {ys:List (aa u)} (hx:a.eval x=v) (du:w.ownsRow 0 e (aQ u) v n cs) (aB:co I w (.b7 u) ys (fun _=>some (a.eval y))) (ba: ∀b,I b->b < w.heap.size) (hn:n+ys.length<=4294967296):
  ∃cW w' eR,(execOp a.eval o).run P w= .ok (.value cW) w'/\w'.ownsRow 0 e (aQ u) cW (n+ys.length) (cs++eR)/\gL I w u ys eR/\w.grownBy w' v.ownBlock/\(cW.ownBlock=v.ownBlock\/cW.ownBlock=some w.heap.size):=by
 obtain⟨cd,c7,ds,bu⟩:=pq bm V;obtain⟨aC,aR,my⟩:=bu.zero;obtain⟨eR,E,G,aj⟩:=OU aB ba;have cM:aQ u=c7.size:=(bu.u u a7).trans bu.size.symm
 have nz:aC.cells.size=c7.size:=by
  have E:=b'.length _ _ (vF (ρ:=fun _=>⟨0,none,0,0⟩) (I:=fun _=>False) (w:=w) _ _ my).1;simp at E;rw[E,bu.iOz,bu.size]
 have nK:0 < c7.size:=by have:=bu.pos;have:=bu.size;omega
 have tW:(n+ys.length)*c7.bytes<=140737488355328:=by
  have E:c7.bytes<=32768:=by rw[bu.bytes];exact bu.OF
  exact as9 (Nat.mul_le_mul hn E) au6
 obtain⟨cW,w',dO,g1,g2,cZ⟩:=H9 (P:=P) w 0 T o.type e c7 aC (aQ u) c7.bytes cd bu.jE aR cM.symm rfl (by rw[nz,cM]) (by rw[cM];exact nK) v n cs du I (a.eval y) ys.length eR E aj aw9 tW (ap7 _);refine⟨cW,w',eR,?_,g1,G,g2,cZ⟩;have fu:c.args= #[x,y]:=Array.toList_inj.1 d7;have jq:c.argTypes= #[T,T]:=Array.toList_inj.1 lz;obtain⟨r7,args,cp⟩:=c;simp only at dP fu jq;subst dP fu jq;unfold execOp;simp only[ah,resolve,invoke,builtin,Sem.run_bind,Sem.run_pure,Result.andThen_ok,List.map_toArray,aq4,au0,hx,dO]
theorem Mem.move {C:e9} {ρ:Nat->bn} {F:Nat->Nat->Prop} {w w':World} (h:Mem ids C B ρ F w) {c d:Nat} {cw ch:bb} (H:ag B c=some cw) (hf:gX ids K B d=true) (cz:cK (F c) w w') (pl:bn) (b8:Nat->Prop) (kN: ∀b,b8 b->(F c b\/w.heap.size<=b)/\b < w'.heap.size)
  (cX: ∀I,ce (bZ C B F w) w I w'->(∀b,I b->b < w'.heap.size/\ ¬b8 b)->Holds (c5 ρ d pl) I b8 w' pl ch):
  Mem ids C ((d,ch)::gM B c) (c5 ρ d pl) (c5 F d b8) w'/\ce (bZ C B F w) w (bZ C ((d,ch)::gM B c) (c5 F d b8) w') w':=by
 obtain⟨h2,jn,po,f4⟩:=kM hf;have xg:d≠c:=fun e=>by subst e;rw[jn] at H;cases H
 refine h.step (fun i=>i=d\/i=c) (fun i=>i=d) (cz.mono fun b _ O=>⟨c,cw,H,.inr rfl,O⟩) ?_ (fun i aH=>dd _ _ aH) (fun i aH=>dd _ _ (fun e=>aH (.inl e))) (fun i aH e=>f4 (e▸aH)) (fun _ h=>.inl h) ?_ ?_ ?_ ?_
 .intro i ch' aH a2;rw[ca,if_neg (fun e=>a2 (.inl e.symm)),hl] at aH
  split at aH
  .cases aH
  .exact aH
 .rintro i ch' aH _ j V rfl;rw[po i ch' aH] at V
  cases V
 .rintro i ch' aH aq V;rw[ca] at aH
  split at aH
  .rename_i e;subst e;injection aH with aH
   subst aH;rw[c6,c6];exact cX _ V fun b dm=>⟨dm.1,fun a1=>dm.2.2 d ch aw1 (by rw[c6];exact a1)⟩
  .rename_i e;rcases aq with rfl |rfl
   .exact absurd rfl e
   .rw[hl,if_pos rfl] at aH;cases aH
 .rintro i ch' aH aq b a1;rcases aq with rfl |rfl
  .rw[c6] at a1;obtain⟨E,G⟩:=kN b a1;exact⟨G,E.imp (fun h=>⟨c,cw,H,.inr rfl,h⟩) id⟩
  .rw[ca,if_neg xg,hl,if_pos rfl] at aH;cases aH
 .rintro i j iU oE b aH Z YU YV a2
  have q: ∀i ch',ag ((d,ch)::gM B c) i=some ch'->(i=d\/i=c)->i=d:=fun i ch' aH aq=>by
   rcases aq with rfl |rfl
   .rfl
   .rw[ca,if_neg xg,hl,if_pos rfl] at aH;cases aH
  exact absurd ((q i iU aH YU).trans (q j oE Z YV).symm) a2
theorem I4 {w w':World} {r:Option Nat} {S:Nat->Prop} (h:w.grownBy w' r) (au: ∀b,r=some b->S b):cK S w w':=Oa h au
theorem YW (bm:d6 P aS) {T:TypeId} {x y:Operand} {c:Call} (ah:o.op= .call c) (dP:c.callee= .builtin .append) (d7:c.args.toList=[x,y]) (lz:c.argTypes.toList=[T,T])
  (h:Iz aS T (a6 K x) (a6 K y) o.dst ids K B k):cB P N ids o K B k:=by
 have mem: ∀aC∈ [x,y],aC∈o.op.operands:=fun aC aR=>by
  rw[ah];simp only[Op.operands,Call.operands,Array.mem_append];exact .inr (Array.mem_toList_iff.1 (by rw[d7];exact aR))
 have m1:=mem x au7;have m2:=mem y au7;unfold Iz at h
 split at h
 .rename_i e te d V J
  split at h
  .rename_i u v ys a7 aB
   split at h
   .rename_i r6 _;subst r6
    split at h
    .rename_i hx;obtain⟨b6,cz,h⟩:=h;refine cB.bc h cz <| bB.make (fun d h=>Bn h) fun K' B' g1 g2 C ρ F a w aq au hn=>?_
     obtain⟨cW,w',eR,dO,ci,cN,ec,eG⟩:=O' bm ah dP d7 lz V a7 (au.dD ((g1 x m1).trans hx)) (World.ownsRow_nil w 0 e (aQ v)) (au.ck ((g1 y m2).trans aB)) (fun b O=>O.1) au5;obtain⟨pl,hc,jH⟩:=EM ci;have O:Below w.heap.size w w':=⟨ec.os,ec.tape,ec.output,ec.size,fun b O=>ec.block b O (by simp[Value.ownBlock])⟩
     have YX: ∀b,cW.ownBlock=some b->w.heap.size<=b/\b < w'.heap.size:=fun b dm=>by
      have:=ci.lt b dm;rcases eG with eG |eG
      .rw[eG] at dm;cases dm
      .rw[eG] at dm;injection dm with dm;omega
     refine⟨cW,w',pl,fun b=>cW.ownBlock=some b,dO,O,YX,fun I gP ba=>⟨⟨fun b=>by rw[hc],fun b O=>jH b (by rwa[hc] at O),eR,?_,?_⟩,?_⟩⟩
     .rw[hc];have:=ci;rw[Nat.zero_add,List.nil_append] at this;exact this
     .exact gL.mono gP cN
     .simp only[cr,gA,dU,c6,hc]
    .rename_i l4 hx
     split at h
     .rename_i b5 s4 xs al
      split at h
      .rename_i I5 r8 _;have r8:=ap6 r8;subst I5 r8;obtain⟨b6,cz,h⟩:=h;refine cB.bc h cz ?_;rintro K' B' g1 g2 cZ C a w ⟨p7,tc,ρ,F,aq,au⟩ bw fE Q di;have f3:ag B' l4=_:=(g2 l4 au7).trans al;have hf:=cZ d au7;have oL:=kM hf;have bk:=aq.holds l4 _ f3;obtain⟨bh,k4,cs,du,jI⟩:=bk;obtain⟨cW,w',eR,dO,ci,cN,ec,eG⟩:=O' bm ah dP d7 lz V a7 (au.own ((g1 x m1).trans hx)) du (au.ck ((g1 y m2).trans aB)) (fun b O=>O.1) (by have:(nD rfl xs).length=xs.length:=rfl;omega);obtain⟨pl,hc,jH⟩:=EM ci
       obtain⟨bN,gP⟩:=aq.move (K:=K') (ch:=.row b5 s4 (nD rfl xs++nD rfl ys)) f3 hf (I4 ec fun b O=>(bh b).2 O) pl (fun b=>cW.ownBlock=some b) (fun b O=>⟨by
         rcases eG with eG |eG
         .exact .inl ((bh b).2 (eG.symm.trans O))
         .rw[eG] at O;injection O with O;exact .inr au5,(ci.lt b O).2⟩)
        (fun I gP ba=>⟨fun b=>by rw[hc],fun b O=>jH b (by rwa[hc] at O),cs++eR,by rw[hc];simpa[nD] using ci,gL.ud (gL.mono gP jI) (gL.mono gP cN) du.1⟩)
       unfold Oper.wp;rw[dO,Oper.upon_value];exact di _ _ ⟨kf.trans p7,kg.trans tc,_,_,bN,(au.mono gP fun s i aH=>dd _ _ (fun e=>by subst e;rw[oL.1 s] at aH;cases aH)).kh (fun e V=>by rw[p7];exact bw e V) (by simp only[cr,gA,dU,c6,hc])⟩
      .exact h.elim
     .exact h.elim
    .exact h.elim
   .exact h.elim
  .rename_i u cG a7 aB
   split at h
   .rename_i l4 hx
    split at h
    .rename_i b5 s4 xs ao v ys al oK
     split at h
     .rename_i r6 I5 a2 r8 _ _;have r8:=ap6 r8;subst r6 I5 r8;obtain⟨b6,cz,h⟩:=h;refine cB.bc h cz ?_;rintro K' B' g1 g2 cZ C a w ⟨p7,tc,ρ,F,aq,au⟩ bw fE Q di;have f3:ag B' l4=_:=(g2 l4 au7).trans al;have YY:ag B' cG=_:=(g2 cG au7).trans oK;have hf:=cZ d au7;have oL:=kM hf;obtain⟨bh,k4,cs,du,jI⟩:=aq.holds l4 _ f3;obtain⟨jZ,aoO,YZ,Pa,Pb⟩:=aq.holds cG _ YY;have hp:=eN.qQ Pa;rw[<-au.own ((g1 y m2).trans aB)] at hp;obtain⟨cW,w',dO,ci,ec,eG⟩:=YS bm ah dP d7 lz V a7 (au.own ((g1 x m1).trans hx)) du hp (YT Pa.1 Pb) (by have:(nD rfl xs).length=xs.length:=rfl;have:(nD rfl ys).length=ys.length:=rfl;omega);obtain⟨pl,hc,jH⟩:=EM ci
      obtain⟨bN,gP⟩:=aq.move (K:=K') (ch:=.row b5 s4 (nD rfl xs++nD rfl ys)) f3 hf (I4 ec fun b O=>(bh b).2 O) pl (fun b=>cW.ownBlock=some b) (fun b O=>⟨by
        rcases eG with eG |eG
        .exact .inl ((bh b).2 (eG.symm.trans O))
        .rw[eG] at O;injection O with O;exact .inr au5,(ci.lt b O).2⟩)
       (fun I gP ba=>⟨fun b=>by rw[hc],fun b O=>jH b (by rwa[hc] at O),cs++YZ,by rw[hc];simpa[nD] using ci,gL.ud (gL.mono gP jI) (gL.mono gP Pb) du.1⟩)
      unfold Oper.wp;rw[dO,Oper.upon_value];exact di _ _ ⟨kf.trans p7,kg.trans tc,_,_,bN,(au.mono gP fun s i aH=>dd _ _ (fun e=>by subst e;rw[oL.1 s] at aH;cases aH)).kh (fun e V=>by rw[p7];exact bw e V) (by simp only[cr,gA,dU,c6,hc])⟩
     .exact h.elim
    .exact h.elim
   .exact h.elim
  .exact h.elim
 .exact h.elim
theorem Pc (s:ay4):Go.Lib.strCells ⟨s.toArray⟩=s.map hZ:=by simp[Go.Lib.strCells,hZ]
theorem Y0 {w:World} {T eS ty e:TypeId} {i:TypeInfo} (cd:P.underlying T=some (.slice e)) (a7:P.underlying eS=some .string) (aH:P.info? e=some i) (aR:i.zero=some (.int .u8 0)) (ax:i.size=1) (O:i.bytes=1)
  {v:Value} {n:Nat} {cs:List Value} (du:w.ownsRow 0 e 1 v n cs) (s:ay4) (hn:n+s.length<=4294967296):
  ∃cW w',(Builtin.append_ #[T,eS] ty #[v,.string ⟨s.toArray⟩]).run P w= .ok cW w'/\w'.ownsRow 0 e 1 cW (n+s.length) (cs++s.map hZ)/\w.grownBy w' v.ownBlock/\ ∀b,cW.ownBlock=some b->v.ownBlock=some b\/w.heap.size<=b:=by
 have cM:(⟨s.toArray⟩:ByteArray).size=s.length:=xc s;rcases du.2 with⟨rfl,rfl⟩ |⟨g,cap,c9,rfl,-,a1,D0,zb,gk,m5⟩
 .have Y1:cs=[]:=List.eq_nil_of_length_eq_zero (by simpa using du.1);subst Y1;obtain⟨cW,w',aF,G,aj,_⟩:=Go.Lib.run_append_own_string (P:=P) w w.heap.size T eS ty e i cd a7 aH aR ax O (.slice none 0 0) 0 [] (World.ownsRow_nil w w.heap.size e 1) ⟨s.toArray⟩ (by rw[cM];simp only[maxLen];omega) ax0 (ap0 _);rw[cM,Pc] at G;refine⟨cW,w',aF,⟨G.1,?_⟩,aj,fun b O=>.inr ?_⟩
  .rcases G.2 with h |⟨g,cap,c9,ay,_,r⟩
   .exact .inl h
   .exact .inr ⟨g,cap,c9,ay,ap7 _,r⟩
  .rcases G.2 with⟨h,_⟩ |⟨g,cap,c9,ay,vx,r⟩
   .rw[h] at O;cases O
   .rw[ay] at O;simp[Value.ownBlock] at O;omega
 .obtain⟨cW,w',aF,G,aj,_⟩:=Go.Lib.run_append_own_string (P:=P) w 0 T eS ty e i cd a7 aH aR ax O (.slice (some ⟨g,0,none⟩) n cap) n cs du ⟨s.toArray⟩ (by rw[cM];simp only[maxLen];omega) ax0 (ap7 _);have vI:cs.length=n:=by simpa using du.1
  refine⟨cW,w',aF,by rw[cM,Pc] at G;exact G,aj,fun b dm=>?_⟩
  by_cases Bp:n+(⟨s.toArray⟩:ByteArray).size<=cap
  .have r9:=Go.Lib.run_append_room_string (P:=P) w T eS ty e i cd a7 aH ax g n cap c9 a1 ⟨s.toArray⟩ Bp au5;rw[aF] at r9;injection r9 with ai ao
   rw[ai] at dm;exact .inl dm
  .have holds: ∀j u,cs[j]? =some u->w.cell? ((⟨g,0,none⟩:Addr).add j)=some u:=du.cells (g:=g) rfl;have r9:=Go.Lib.run_append_grow_string (P:=P) w T eS ty e i (.int .u8 0) cd a7 aH aR ⟨g,0,none⟩ n cap cs (by rw[ax];simpa using vI) holds ⟨s.toArray⟩ au5 ax0 (by rw[O];exact growslice_fits au5 (by rw[cM];omega));rw[aF] at r9;injection r9 with ai ao
   rw[ai] at dm;simp[Value.ownBlock] at dm;exact .inr au5
theorem Y2 (I:Nat->Prop) (w:World) (xs:ay4):gL I w .u8 xs (xs.map hZ):=fun i x hx=>by
 show(xs.map hZ)[i*1+0]? =_;rw[Nat.mul_one,Nat.add_zero,ar0,show xs[i]? =some x from hx];rfl
theorem Y3 (bm:d6 P aS) {T eS:TypeId} {x y:Operand} {c:Call} (ah:o.op= .call c) (dP:c.callee= .builtin .append) (d7:c.args.toList=[x,y]) (lz:c.argTypes.toList=[T,eS])
  (h:IA aS T eS (a6 K x) (a6 K y) o.dst ids K B k):cB P N ids o K B k:=by
 have mem: ∀aC∈ [x,y],aC∈o.op.operands:=fun aC aR=>by
  rw[ah];simp only[Op.operands,Call.operands,Array.mem_append];exact .inr (Array.mem_toList_iff.1 (by rw[d7];exact aR))
 have m1:=mem x au7;have m2:=mem y au7;unfold IA at h
 split at h
 .rename_i e te d V Y4 J
  split at h
  .rename_i l4 s hx aB
   split at h
   .rename_i b5 xs q2 al
    split at h
    .rename_i r8;have r8:=ap6 r8;subst r8;obtain⟨b6,cz,h⟩:=h;obtain⟨cd,c7,ds,bu⟩:=pq bm V;obtain⟨Y5,Y6⟩:=xe bm q2;have ez:=EG bm Y4;refine cB.bc h cz ?_;rintro K' B' g1 g2 cZ C a w ⟨p7,tc,ρ,F,aq,au⟩ bw fE Q di;have f3:ag B' l4=_:=(g2 l4 au7).trans al;have hf:=cZ d au7;have oL:=kM hf;have bk:=aq.holds l4 _ f3;obtain⟨bh,k4,cs,du,jI⟩:=bk;obtain⟨ti,oJ,iB,nL,tg,f',he⟩:=Y6;obtain⟨aC,aR,vH⟩:=O9 nL tg
     have q3:aC= .int .u8 0:=by
      have E:=nL.OG aC aR (by have:=nL.nI;rw[Y5] at this;injection this with this;rw[<-this]);rw[E] at vH;simpa using vH
     rw[q3] at aR;obtain⟨cW,w',dO,ci,ec,eG⟩:=Y0 (P:=P) (w:=w) (T:=T) (eS:=eS) (ty:=o.type) cd ez nL.jE aR (nL.size.trans f') (nL.bytes.trans he) (show w.ownsRow 0 b5 1 (ρ l4).ey (List.length (α:=UInt8) xs) cs from du) s b6;obtain⟨pl,hc,jH⟩:=EM ci
     obtain⟨bN,gP⟩:=aq.move (K:=K') (ch:=.row b5 .u8 (List.append (α:=UInt8) xs s)) f3 hf (I4 ec fun b O=>(bh b).2 O) pl (fun b=>cW.ownBlock=some b) (fun b O=>⟨by
       rcases eG b O with eG |eG
       .exact .inl ((bh b).2 eG)
       .exact .inr eG,(ci.lt b O).2⟩)
      (fun I gP ba=>⟨fun b=>by rw[hc],fun b O=>jH b (by rwa[hc] at O),cs++s.map hZ,by
       rw[hc];have:List.length (α:=aa .u8) (List.append (α:=UInt8) xs s)=List.length (α:=UInt8) xs+s.length:=ap1;rw[this];exact ci,gL.ud (u:=.u8) (gL.mono gP jI) (Y2 _ _ s) du.1⟩)
     have fu:c.args= #[x,y]:=Array.toList_inj.1 d7;have jq:c.argTypes= #[T,eS]:=Array.toList_inj.1 lz;obtain⟨r7,args,cp⟩:=c;simp only at dP fu jq;subst dP fu jq;have dE:=au.own ((g1 x m1).trans hx);have d4:=au.str ((g1 y m2).trans aB)
     have uj:(execOp a.eval o).run P w= .ok (.value cW) w':=by
      unfold execOp;simp only[ah,resolve,invoke,builtin,Sem.run_bind,Sem.run_pure,Result.andThen_ok,List.map_toArray,aq4,au0,dE,d4,dO]
     unfold Oper.wp;rw[uj,Oper.upon_value];exact di _ _ ⟨kf.trans p7,kg.trans tc,_,_,bN,(au.mono gP fun s i aH=>dd _ _ (fun e=>by subst e;rw[oL.1 s] at aH;cases aH)).kh (fun e V=>by rw[p7];exact bw e V) (by simp only[cr,gA,dU,c6,hc])⟩
    .exact h.elim
   .exact h.elim
  .exact h.elim
 .exact h.elim
end
end
section
section
variable {P:Program} {aS:dc} {N:Nat} {ids:ay5} {o:Oper} {K:aY} {B:aw} {k:aP->fR->Prop}
theorem Y7 {α:Type} (c9 ys:List α) (off N:Nat) (h:off+ys.length<=N) (G:N<=c9.length):(c9.take off++ys++c9.drop (off+ys.length)).take N=(c9.take N).take off++ys++(c9.take N).drop (off+ys.length):=by
 rw[List.take_append,List.take_of_length_le av9,List.take_take,Nat.min_eq_left au5,List.drop_take]
 congr 2
 simp;omega
theorem Y8 {w:World} {dT sT ty e:TypeId} (a7:P.underlying dT=some (.slice e)) (cM:(P.info? e).map (·.size)=some 1) {v:Value} {M off n dCap m:Nat} {cs ys:List Value} {qZ:Option Addr} {h0:Value} {D:Nat->Prop} {b5:TypeId}
  (du:w.ownsRow 0 b5 1 v M cs) (J:0 < n-> ∀g cap,v= .slice (some ⟨g,0,none⟩) M cap->M<=cap->qZ=some ⟨g,off,none⟩) (k2:off+n<=M) (hp:eN D w 1 h0 m ys) (E: ∀v∈ys,v.oneCell'=true):
  ∃x w',(Builtin.copy_ #[dT,sT] ty #[.slice qZ n dCap,h0]).run P w= .ok x w'/\cK (fun b=>v.ownBlock=some b) w w'/\w'.ownsRow 0 b5 1 v M (cs.take off++ys.take n++cs.drop (off+(ys.take n).length)):=by
 obtain⟨sp,D1,rfl,al,nK⟩:=Xs hp n;have gZ:(ys.take n).length<=n:=by rw[ap8];exact Nat.min_le_left _ _
 by_cases av:(ys.take n).length=0
 .refine⟨_,w,run_copy_none (P:=P) w dT sT ty e qZ sp n dCap m D1 a7 cM (by rw[<-al];exact av),cK.refl _ _,?_⟩;rw[List.eq_nil_of_length_eq_zero av];simpa using du
 .obtain⟨ad,rfl,Y9⟩:=nK au5;obtain⟨b6,du⟩:=du;rcases du with⟨_,aq⟩ |⟨g,cap,c9,ay,O,a1,dP,d7,lz,Pd⟩
  .omega
  .obtain rfl:=J au5 g cap ay dP;have Pe:c9.toList.length=cap:=by simpa using lz
   rw[Nat.mul_one] at Pd b6;refine⟨_,_,run_copy_row (P:=P) w dT sT ty e g off n dCap ad m D1 c9 b5 (ys.take n) a7 cM a1 al Y9 (by rw[<-Array.length_toList];omega) (fun v ay=>E v (List.mem_of_mem_take ay)),EE (by rw[ay];rfl),?_⟩;refine⟨by simp only[ap1,ap8,at1,Nat.mul_one] at*;omega,.inr ⟨g,cap,_,ay,O,setRow_heap w g _ _ b5 _ a1,dP,d7,by simp only[List.size_toArray,ap1,ap8,at1,Nat.mul_one] at*;omega,?_⟩⟩;rw[Nat.mul_one];show List.take M (c9.toList.take off++ys.take n++c9.toList.drop (off+(ys.take n).length))=_;rw[Y7 _ _ _ _ au5 au5,Pd]
theorem I6 (xs ys:ay4) {off n:Nat} (h:off+n<=xs.length):(laid xs off n ys).length=xs.length:=by
 simp only[laid,ap1,ap8,at1];omega
theorem Y' (xs ys:ay4) (off n:Nat):List.take off (xs.map hZ)++List.take n (ys.map hZ)++List.drop (off+(List.take n (ys.map hZ)).length) (xs.map hZ)=(laid xs off n ys).map hZ:=by
 simp only[laid,as3,List.map_take,List.map_drop,ap8,aq3]
theorem Za {I:Nat->Prop} {w:World} {xs:ay4} {cs:List Value} (h:gL I w .u8 xs cs) (al:cs.length=xs.length):cs=xs.map hZ:=by
 refine List.ext_getElem? fun i=>?_
 rw[ar0]
 cases hx:xs[i]? with
 |none=>
  have:=List.getElem?_eq_none_iff.1 hx;rw[List.getElem?_eq_none_iff.2 au5];rfl
 |some x=>
  have G:=h i x hx;simpa[co,aQ,hZ] using G
theorem Zb (I:Nat->Prop) (w:World) (xs:ay4):gL I w .u8 xs (xs.map hZ):=fun i x hx=>by
 have hx:xs[i]? =some x:=hx;simp[co,aQ,hx];rfl
theorem Zc {I:Nat->Prop} {w:World} {v:Value} {l:ay4} (ba: ∀b,I b->b < w.heap.size) (h:co I w (.b7 .u8) l (fun _=>some v)):eN I w 1 v l.length (l.map hZ):=by
 obtain⟨A,cap,av,E,G,aj⟩:=h;injection av with av
 refine⟨au7,A,cap,av,E,G,fun af=>?_⟩;obtain⟨b,o,ek,O,hx⟩:=aj af;refine⟨b,o,ek,O,ba b O,fun j u a7=>?_⟩;rw[ar0] at a7;obtain⟨x,Bq,rfl⟩:=as0.1 a7;have:=hx j x Bq;simpa[co,aQ,hZ] using this
theorem bB.Zd {c:Nat} {cw ch:bb} (H:ag B c=some cw)
  (h: ∀(K':aY) (B':aw),(∀x,x∈o.op.operands->a6 K' x=a6 K x)-> ∀(C:e9) (ρ:Nat->bn) (F:Nat->Nat->Prop) (a:Act) (w:World),Mem ids C B' ρ F w->ee K' ρ (bZ C B' F w) a w->ag B' c=some cw-> ∃x w',(execOp a.eval o).run P w= .ok (.value x) w'/\cK (F c) w w'/\
   (∀I,ce (bZ C B' F w) w I w'->Holds ρ I (F c) w' (ρ c) ch)):
  bB P N ids o K B (.c (.one .any)) ⟨[c],[],[(c,some ch)]⟩:=by
 rintro K' B' E G - C a w ⟨hn,J,ρ,F,aq,au⟩ bw fE Q di;have cF:ag B' c=some cw:=(G c au7).trans H;obtain⟨x,w',hx,cz,cX⟩:=h K' B' E C ρ F a w aq au cF;obtain⟨bN,V⟩:=aq.hP cF cz cX;unfold Oper.wp;rw[hx,Oper.upon_value];exact di _ _ ⟨kf.trans hn,kg.trans J,ρ,F,bN,(au.mono V fun _ _ _=>rfl).kh (fun e V=>by rw[hn];exact bw e V) trivial⟩
theorem Pf (bm:d6 P aS) {T eS e:TypeId} {te:cb} {x y:Operand} {c:Call} {d off n:Nat} {ys:ay4} (ah:o.op= .call c) (dP:c.callee= .builtin .copy) (d7:c.args.toList=[x,y]) (lz:c.argTypes.toList=[T,eS]) (V:elemOf aS T=some (e,te)) (iA:qX aS e=true) (aB:a6 K y= .c (.one (.d (.ck .u8 ys))))
  (hx: ∀(K':aY) (ρ:Nat->bn) (I:Nat->Prop) (a:Act) (w:World),ee K' ρ I a w->a6 K' x=a6 K x-> ∀(M:Nat),(ρ d).n=M->(∀e xs,ag B d=some (.row e .u8 xs)->List.length xs=M)->off+n<=M-> ∃qZ dCap,a.eval x= .slice qZ n dCap/\(0 < n-> ∀g cap,(ρ d).ey= .slice (some ⟨g,0,none⟩) M cap->M<=cap->qZ=some ⟨g,off,none⟩))
  (h:Eo d off n ys B k):cB P N ids o K B k:=by
 have fu:c.args= #[x,y]:=Array.toList_inj.1 d7;have jq:c.argTypes= #[T,eS]:=Array.toList_inj.1 lz;obtain⟨r7,args,cp⟩:=c;simp only at dP fu jq;subst dP fu jq;have m1:x∈o.op.operands:=av6
 have m2:y∈o.op.operands:=av6
 obtain⟨a7,c7,ds,bu⟩:=pq bm V;obtain⟨_,aoP,i8,d8,Pg,_,Ze,_⟩:=xe bm iA;have cM:(P.info? e).map (·.size)=some 1:=by rw[Pg.jE];simp[Pg.size,Ze]
 unfold Eo at h
 split at h
 .rename_i b5 xs al;obtain⟨k2,h⟩:=h;refine cB.of h <| bB.Zd al fun K' B' E C ρ F a w aq au f3=>?_
  obtain⟨bh,jH,cs,du,jI⟩:=aq.holds d _ f3;have OY:=du;obtain⟨dJ,A,cap,ay,_,_,_⟩:=eN.qQ OY;have hn:(ρ d).n=xs.length:=by unfold bn.ey at ay;injection ay
  have gk:cs=xs.map hZ:=Za jI (by have:=dJ;simp[aQ] at this;exact this);obtain⟨qZ,dCap,Zf,r'⟩:=hx K' ρ _ a w au (E x m1) _ hn (fun ao aoQ G=>by rw[al] at G;cases G;rfl) k2;have Zg:=Zc (fun b O=>O.1) (au.ck ((E y m2).trans aB));obtain⟨r,w',dO,cz,fX⟩:=Y8 (P:=P) (w:=w) (dT:=T) (sT:=eS) (ty:=o.type) a7 cM (dCap:=dCap) du r' k2 Zg (N9 _);refine⟨r,w',?_,cz.mono fun b _ O=>(bh b).2 O,fun I aW=>⟨bh,jH,List.take off cs++List.take n (List.map hZ ys)++List.drop (off+(List.take n (List.map hZ ys)).length) cs,?_,?_⟩⟩
  .simp[execOp,ah,resolve,invoke,builtin,Zf,dO]
  .have bl:List.length (α:=aa .u8) (laid xs off n ys)=List.length (α:=aa .u8) xs:=I6 xs ys k2;show w'.ownsRow 0 b5 1 (ρ d).ey (List.length (α:=aa .u8) (laid xs off n ys)) _;rw[bl];exact fX
  .rw[gk];have ai:=Y' xs ys off n;rw[ai];exact Zb I w' _
 .exact h.elim
theorem Zh (bm:d6 P aS) {T eS:TypeId} {x y:Operand} {c:Call} (ah:o.op= .call c) (dP:c.callee= .builtin .copy) (d7:c.args.toList=[x,y]) (lz:c.argTypes.toList=[T,eS]) (h:II aS T (a6 K x) (a6 K y) B k):cB P N ids o K B k:=by
 unfold II at h
 split at h
 .rename_i e te V
  split at h
  .rename_i ys iA aB
   split at h
   .rename_i d hx
    split at h
    .rename_i b5 xs al;refine Pf bm ah dP d7 lz V iA aB (fun K' ρ I a w au ab M aq sa k2=>⟨(ρ d).A,(ρ d).cap,?_,fun af g cap ay _=>?_⟩) h
     .have:=au.own (ab.trans hx);rw[this,sa b5 xs al,<-aq];rfl
     .unfold bn.ey at ay;injection ay
    .exact h.elim
   .rename_i d s off n hx
    split at h
    .rename_i ax;have:=ap6 ax;subst this;refine Pf bm ah dP d7 lz V iA aB (fun K' ρ I a w au ab M aq sa k2=>⟨_,_,au.os (ab.trans hx),fun af g cap ay aoR=>?_⟩) h;unfold bn.ey at ay;injection ay with ai ao bl
     rw[if_neg au5,ai,at2,p1];simp
    .exact h.elim
   .exact h.elim
  .exact h.elim
 .exact h.elim
end
end
section
section
variable {P:Program} {aS:dc} {N:Nat} {ids:ay5} {o:Oper} {K:aY} {B:aw} {k:aP->fR->Prop}
theorem kl: ∀{aJ:aw} {B:aw},kK B aJ-> ∀{c ch},ag aJ c=some ch->ag B c=some ch
 | [],B,h,c,ch,H=>by cases H
 |(d,x)::aJ,B,h,c,ch,H=>by
  rw[ca] at H
  split at H
  .rename_i e;subst e;injection H with H
   subst H;exact h.1
  .exact kl h.2 H
theorem gm: ∀{B:aw} {c:Nat},c∈cl B↔ ∃ch,ag B c=some ch
 | [],c=>by simp[cl,ag]
 |(d,x)::B,c=>by
  simp only[cl,ap3,ca]
  by_cases e:d=c
  .subst e;simp
  .rw[if_neg e];constructor
   .rintro(h |h)
    .exact absurd h.symm e
    .exact gm.1 h
   .exact fun h=>.inr (gm.2 h)
theorem I7: ∀{aJ:aw} {bc:ay5} {aO:aw},mw aJ bc aO=true-> ∀{c},c∈cl aO->c∈cl aJ\/c∈bc
 |aJ,bc,[],h,c,H=>by simp[cl] at H
 |aJ,bc,(d,x)::aO,h,c,H=>by
  simp only[mw,vj,Bool.or_eq_true,ar6] at h;rcases ap3.1 H with rfl |H
  .exact h.1.1
  .exact I7 h.2 H
theorem Ph: ∀(aO:aw) (aJ:aw) (bc:ay5) (B:aw),mw aJ bc aO=true-> ∀c,ag (hb (iy [] aO) B) c=(match ag aO c with |some ch=>some ch |none=>ag B c)
 | [],_,_,B,_,c=>by simp[iy,It,hb,ag]
 |(d,x)::aO,aJ,bc,B,h,c=>by
  simp only[mw,vj,Bool.not_eq_true'] at h;show ag (hb (iy [] aO) ((d,x)::B)) c=_;rw[Ph aO aJ bc ((d,x)::B) h.2 c,ca,ca]
  by_cases e:d=c
  .subst e
   have hn:ag aO d=none:=by
    cases al:ag aO d with
    |none=>rfl
    |some ch=>
     have:=gm.2 ⟨ch,al⟩;have G:=h.1.2;rw[<-Bool.not_eq_true,ar6] at G;exact absurd this G
   rw[hn,if_pos rfl,if_pos rfl]
  .rw[if_neg e,if_neg e]
theorem EN: ∀(aJ:aw) (m6:aw) (bc:ay5) (aO B:aw),mw m6 bc aO=true-> ∀c,ag (hb (iy aJ aO) B) c=(match ag aO c with |some ch=>some ch |none=>if c∈cl aJ then none else ag B c)
 | [],m6,bc,aO,B,h,c=>by
  rw[Ph aO m6 bc B h c];simp[cl]
 |(d,x)::aJ,m6,bc,aO,B,h,c=>by
  simp only[iy,hb];rw[EN aJ m6 bc aO (gM B d) h c,hl]
  cases ag aO c with
  |some ch=>rfl
  |none=>
   simp only[cl,ap3]
   by_cases e:d=c
   .subst e;simp
   .by_cases ao:c∈cl aJ
    .simp[ao]
    .simp[e,ao,Ne.symm e]
theorem EO: ∀{bc:ay5},rX ids K B bc=true-> ∀c,c∈bc->gX ids K B c=true
 | [],_,c,H=>by cases H
 |d::bc,h,c,H=>by
  simp only[rX,vj] at h;rcases ap3.1 H with rfl |H
  .exact h.1.1
  .exact EO h.2 c H
theorem Pi {ev:Operand->Value} {f:FuncId} {c:Call} {xs:List Operand} {w:World} (hf:jl P f=true) (ah:o.op= .call c) (E:c.callee= .value (.func f)) (G:c.args.toList=xs) (um:ev (.func f)= .func (.func f) #[] #[]):(execOp ev o).run P w= .ok (.enter f (xs.map ev).toArray) w:=by
 have fu:c.args=xs.toArray:=by rw[<-G]
 obtain⟨r7,args,cp⟩:=c;simp only at E fu;subst E fu;unfold jl at hf
 split at hf
 .rename_i fn j0;simp only[Bool.not_eq_true',Bool.or_eq_false_iff,beq_eq_false_iff_ne] at hf;have G: ¬fn.body=none:=fun e=>by rw[e] at hf;simp at hf
  simp[execOp,ah,resolve,invoke,um,Deferred.ofValue,callFunc,go_sem,j0];rw[if_neg hf.1,if_neg G]
 .cases hf
theorem zc {xs:List Operand} (mem: ∀aC∈xs,aC∈o.op.operands) {K':aY} {ρ:Nat->bn} {I:Nat->Prop} {a:Act} {w:World} (g1: ∀x,x∈o.op.operands->a6 K' x=a6 K x) (au:ee K' ρ I a w) (i:Nat) (v:aP) (x:Value) (ay:(xs.map (a6 K))[i]? =some v) (hx:(xs.map a.eval)[i]? =some x):cr ρ I w v x:=by
 rw[ar0] at ay hx
 cases aH:xs[i]? with
 |none=>rw[aH] at ay;cases ay
 |some aC=>
  rw[aH] at ay hx;simp only[at2,ap4] at ay hx;subst ay hx;rw[<-g1 aC (mem aC (List.mem_of_getElem? aH))];exact au.get aC
theorem Br {f:FuncId} {args:List aP} {xs:List Operand} (mem: ∀aC∈xs,aC∈o.op.operands)
  (uj: ∀(K':aY) (ρ:Nat->bn) (I:Nat->Prop) (a:Act) (w:World),(∀x,x∈o.op.operands->a6 K' x=a6 K x)->ee K' ρ I a w-> ∃bW:List Value,(jl P f=true->(execOp a.eval o).run P w= .ok (.enter f bW.toArray) w)/\bW.length=args.length/\ ∀(i:Nat) (v:aP) (x:Value),args[i]? =some v->bW[i]? =some x->cr ρ I w v x)
  (h:w4 P f args ids K B k):cB P N ids o K B k:=by
 obtain⟨aJ,bc,res,aO,⟨fT,j0⟩,hR,bu,h⟩:=h;rw[rW] at h;simp only[vj] at bu;have nM:=bu.2;refine⟨_,_,h,?_,EO bu.1⟩;rintro K' B' g1 g2 cZ C a w ⟨hn,J,ρ,F,aq,au⟩ bw fE Q di;have eT: ∀{c ch},ag aJ c=some ch->ag B' c=some ch:=fun {c ch} H=>(g2 c (gm.2 ⟨ch,H⟩)).trans (kl hR H)
 have oL: ∀c∈bc,(∀s,(dA K' s).has c=false)/\ag B' c=none/\(∀d ch,ag B' d=some ch->ch.has c=false)/\c∉ids:=fun c H=>kM (cZ c H)
 obtain⟨bW,dO,q4,th⟩:=uj K' ρ _ a w g1 au
 have H:=j0 ρ F (bZ C B' F w) w bW (fun b O=>O.1) (fun c ch H=>aq.holds c ch (eT H)) (fun c ch H b O=>⟨(aq.own c ch (eT H) b O).1,fun ba=>ba.2.2 c ch (eT H) O⟩)
  (fun c bX ch ch' b E G=>aq.e' c bX ch ch' b (eT E) (eT G)) q4 th
 unfold Oper.wp;rw[dO fT,Oper.upon_enter];refine H.mono ?_;rintro e w' ⟨x,ρ',F',rfl,cz,dl,I',i5,gn,cX,aD,h3,dt⟩;have Bs: ∀c,ag (hb (iy aJ aO) B') c=(match ag aO c with |some ch=>some ch |none=>if c∈cl aJ then none else ag B' c):=EN aJ aJ bc aO B' nM
 have pr: ∀c ch,ag (hb (iy aJ aO) B') c=some ch->ag aO c=some ch\/(ag aO c=none/\c∉cl aJ/\ag B' c=some ch):=fun c ch H=>by
  rw[Bs] at H
  cases O:ag aO c with
  |some ch'=>rw[O] at H;exact .inl H
  |none=>
   rw[O] at H;simp only at H
   split at H
   .cases H
   .rename_i ab;exact .inr ⟨rfl,ab,H⟩
 let cJ:Nat->Nat->Prop:=fun c=>if c∈cl aO then F' c else F c
 have jZ: ∀c ch,ag aO c=some ch->cJ c=F' c:=fun c ch H=>if_pos (gm.2 ⟨ch,H⟩)
 have Bt: ∀c,ag aO c=none->cJ c=F c:=fun c H=>if_neg (fun ab=>by
  obtain⟨ch,h⟩:=gm.1 ab;rw[H] at h;cases h)
 have km: ∀c ch,ag aO c=some ch->c∈cl aJ\/c∈bc:=fun c ch H=>I7 nM (gm.2 ⟨ch,H⟩)
 have un: ∀c ch,ag (hb (iy aJ aO) B') c=some ch->(c∈cl aJ\/c∈bc)->ag aO c=some ch:=fun c ch H bN=>by
  rcases pr c ch H with h |⟨E,G,aj⟩
  .exact h
  .rcases bN with h |h
   .exact absurd h G
   .rw[(oL c h).2.1] at aj;cases aj
 have sb:ce I' w' (bZ C (hb (iy aJ aO) B') cJ w') w':=fun b O=>by
  obtain⟨ai,ao⟩:=gn b O;refine⟨⟨ai,?_,fun c ch H bh=>?_⟩,rfl⟩
  .rcases ao with ao |⟨c,ch,ao,bl⟩ |ao
   .exact ao.2.1
   .exact .inr ((aq.own c ch (eT ao) b bl).2)
   .exact .inr (.inr (aq.fresh ao))
  .rcases pr c ch H with h |⟨E,G,aj⟩
   .rw[jZ c ch h] at bh;exact(aD c ch h b bh).2.1 O
   .rw[Bt c E] at bh;rcases ao with ao |⟨d,ch',ao,bl⟩ |ao
    .exact ao.2.2 c ch aj bh
    .exact aq.e' d c ch' ch b (eT ao) aj (fun e=>G (e▸gm.2 ⟨ch',ao⟩)) bl bh
    .have:=(aq.own c ch aj b bh).1;omega
 obtain⟨bN,aW⟩:=aq.step (B':=hb (iy aJ aO) B') (ρ':=ρ') (F':=cJ) (w':=w') (fun c=>c∈cl aJ\/c∈bc) (fun c=>c∈bc)
  (cz.mono fun b _ ⟨c,ch,E,G⟩=>⟨c,ch,eT E,.inl (gm.2 ⟨ch,E⟩),G⟩)
  (fun c ch H hn=>by
   rcases pr c ch H with h |⟨_,_,aj⟩
   .exact absurd (km c ch h) hn
   .exact aj)
  dl
  (fun c hn=>by
   cases O:ag aO c with
   |none=>exact Bt c O
   |some ch=>exact absurd (km c ch O) hn)
  (fun c H hn=>(oL c hn).2.2.2 H) (fun c h=>.inr h)
  (fun c ch H _ d J hn=>by rw[(oL d hn).2.2.1 c ch H] at J;cases J)
  (fun c ch H bN _=>by
   have O:=un c ch H bN;rw[jZ c ch O];exact Holds.cj sb (fun _ _=>rfl) (ap0 _) ch (fun _ _=>rfl) (cX c ch O))
  (fun c ch H bN b O=>by
   have xh:=un c ch H bN;rw[jZ c ch xh] at O;obtain⟨ai,_,bl⟩:=aD c ch xh b O;refine⟨ai,bl.imp (fun⟨gW,cw,E,G⟩=>⟨gW,cw,eT E,.inl (gm.2 ⟨cw,E⟩),G⟩) id⟩)
  (fun c bX ch ch' b H cF km iN a2 O dm=>by
   have E:=un c ch H km;have G:=un bX ch' cF iN;rw[jZ c ch E] at O;rw[jZ bX ch' G] at dm;exact h3 c bX ch ch' b E G a2 O dm)
 refine di _ _ ⟨kf.trans hn,kg.trans J,ρ',cJ,bN,(au.mono aW fun s d J=>dl d fun hn=>by rw[(oL d hn).1 s] at J;cases J).kh (fun e V=>by rw[hn];exact bw e V) (cr.mono sb _ _ (fun _ _=>rfl) dt)⟩
theorem Pj {f:FuncId} {c:Call} {xs:List Operand} (ah:o.op= .call c) (E:c.callee= .value (.func f)) (G:c.args.toList=xs) (h:w4 P f (xs.map (a6 K)) ids K B k):cB P N ids o K B k:=by
 have mem: ∀aC∈xs,aC∈o.op.operands:=fun aC aR=>by
  rw[ah];simp only[Op.operands,Call.operands,Array.mem_append];exact .inr (Array.mem_toList_iff.1 (by rw[G];exact aR))
 exact Br mem (fun K' ρ I a w g1 au=>⟨xs.map a.eval,fun fT=>Pi fT ah E G rfl,au7,zc mem g1 au⟩) h
theorem Pk {ρ:Nat->bn} {I:Nat->Prop} {w:World}: ∀(aE:List aP) (l:List kH) (us:List Value),w6 aE=some l->us.length=aE.length->(∀(i:Nat) (v:aP) (x:Value),aE[i]? =some v->us[i]? =some x->cr ρ I w v x)->hO ρ I w l us
 | [],l,us,h,al,_=>by
  simp only[w6,ap4] at h;subst h;exact List.eq_nil_of_length_eq_zero al
 |v::aE,l,[],h,al,_=>by simp at al
 |v::aE,l,u::us,h,al,J=>by
  have br:=fun r aF=>Pk aE r us aF ay2 (fun i v x ay hx=>J (i+1) v x aw6 ax7)
  have av:=J 0 v u rfl rfl;unfold w6 at h
  split at h
  .rename_i e;simp at e
  .rename_i c o rZ e;injection e with ai ao
   subst ai ao
   split at h
   .rename_i r aF;injection h with h
    subst h;exact⟨u,us,rfl,av,br r aF⟩
   .cases h
  .rename_i x rZ e;injection e with ai ao
   subst ai ao
   split at h
   .rename_i r aF;injection h with h
    subst h;exact⟨u,us,rfl,av,br r aF⟩
   .cases h
  .cases h
theorem Zi {f:FuncId} {fs cs:Array Operand} (ah:o.op= .makeFunc (.func f) fs cs) (h:match fs.toList,w6 (cs.toList.map (a6 K)) with
  | [],some l=>k (.c (.one (.cU f l))) bG
  |_,_=>False):cB P N ids o K B k:=by
 split at h
 .rename_i l vJ al
  have mem: ∀aC∈cs.toList,aC∈o.op.operands:=fun aC aR=>by
   rw[ah];simp only[Op.operands,Array.mem_append];exact .inr (Array.mem_toList_iff.1 aR)
  refine cB.of h <| bB.val fun K' B' g1 g2 C ρ F a w aq au=>?_
  have Zj:fs= #[]:=Array.toList_eq_nil_iff.1 vJ
  refine⟨.func (.func f) #[] (List.toArray (cs.toList.map a.eval)),(by
   have e:cs.map a.eval=List.toArray (cs.toList.map a.eval):=Array.toList_inj.1 au7;simp[execOp,ah,Instr.makeFunc,Zj,e]),_,rfl,?_⟩
  exact Pk _ l _ al au7 (zc mem g1 au)
 .exact h.elim
theorem I8 {ev:Operand->Value} {f:FuncId} {c:Call} {x:Operand} {xs:List Operand} {cs:List Value} {w:World} (hf:jl P f=true) (ah:o.op= .call c) (E:c.callee= .value x) (G:c.args.toList=xs) (um:ev x= .func (.func f) #[] (List.toArray cs)):(execOp ev o).run P w= .ok (.enter f (xs.map ev++cs).toArray) w:=by
 have fu:c.args=xs.toArray:=by rw[<-G]
 obtain⟨r7,args,cp⟩:=c;simp only at E fu;subst E fu;unfold jl at hf
 split at hf
 .rename_i fn j0;simp only[Bool.not_eq_true',Bool.or_eq_false_iff,beq_eq_false_iff_ne] at hf;have G: ¬fn.body=none:=fun e=>by rw[e] at hf;simp at hf
  simp[execOp,ah,resolve,invoke,um,Deferred.ofValue,callFunc,go_sem,j0];rw[if_neg hf.1,if_neg G]
 .cases hf
theorem hO.bW {ρ:Nat->bn} {I:Nat->Prop} {w:World}: ∀(l:List kH) (aE:List Value),hO ρ I w l aE->aE.length=(oC l).length/\ ∀(i:Nat) (v:aP) (x:Value),(oC l)[i]? =some v->aE[i]? =some x->cr ρ I w v x
 | [],aE,h=>by rw[show aE=[] from h];exact⟨rfl,fun i v x ay=>by simp[oC] at ay⟩
 | .p c o::l,_,⟨v,r,e,E,G⟩=>by
  subst e;obtain⟨g1,g2⟩:=hO.bW l r G;refine⟨by simp[oC,g1],fun i u x a7 hx=>?_⟩
  match i with
  |0=>
   simp only[oC,aq5,ap4] at a7 hx;subst a7 hx;exact E
  |i+1=>exact g2 i u x (by simpa[oC] using a7) ax7
 | .d y::l,_,⟨v,r,e,E,G⟩=>by
  subst e;obtain⟨g1,g2⟩:=hO.bW l r G;refine⟨by simp[oC,g1],fun i u x a7 hx=>?_⟩
  match i with
  |0=>
   simp only[oC,aq5,ap4] at a7 hx;subst a7 hx;exact E
  |i+1=>exact g2 i u x (by simpa[oC] using a7) ax7
theorem Zk {f:FuncId} {c:Call} {t:Nat} {l:List kH} {xs:List Operand} (ah:o.op= .call c) (E:c.callee= .value (.tmp t)) (G:c.args.toList=xs) (al:dA K t= .c (.one (.cU f l))) (h:w4 P f (xs.map (a6 K)++oC l) ids K B k):cB P N ids o K B k:=by
 have mem: ∀aC∈xs,aC∈o.op.operands:=fun aC aR=>by
  rw[ah];simp only[Op.operands,Call.operands,Array.mem_append];exact .inr (Array.mem_toList_iff.1 (by rw[G];exact aR))
 have xi:Operand.tmp t∈o.op.operands:=by
  rw[ah];simp only[Op.operands,Call.operands,Array.mem_append,E];exact .inl au7
 refine Br mem (fun K' ρ I a w g1 au=>?_) h;have ay:=au (t);have ab:dA K' t=dA K t:=g1 (.tmp t) xi;rw[ab,al] at ay;obtain⟨aE,e,H⟩:=ay;obtain⟨cx,cA⟩:=hO.bW l aE H;refine⟨xs.map a.eval++aE,fun fT=>I8 fT ah E G e,by simp[cx],fun i v x ay hx=>?_⟩
 by_cases aH:i < xs.length
 .rw[ar7 (by simpa using aH)] at ay hx;exact zc mem g1 au i v x ay hx
 .rw[ar9 av9] at ay hx;simp only[aq3] at ay hx;exact cA _ v x ay hx
theorem Pl: ∀bs:ay5,(qS bs).length=(t8 bs).length
 | []=>rfl
 |b::l=>by simp[qS,t8,Pl l]
theorem Pm {ρ:Nat->bn} {I:Nat->Prop} {w:World}: ∀(bs:ay5) (i:Nat) (u:aP) (x:Value),(t8 bs)[i]? =some u->(qS bs)[i]? =some x->cr ρ I w u x
 | [],i,u,x,a7,_=>by simp[t8] at a7
 |b::l,0,u,x,a7,hx=>by
  simp only[t8,qS,aq5,ap4] at a7 hx;subst a7 hx;exact rfl
 |b::l,i+1,u,x,a7,hx=>by
  simp only[t8,qS,au2] at a7 hx;exact Pm l i u x a7 hx
theorem Zl {c:Call} {t:Nat} {y:Nat×ay5} {xs:List Operand} (ah:o.op= .call c) (E:c.callee= .value (.tmp t)) (G:c.args.toList=xs) (al:dA K t= .c (.one (.d (.fn y)))) (h:w4 P y.1 (xs.map (a6 K)++t8 y.2) ids K B k):cB P N ids o K B k:=by
 have mem: ∀aC∈xs,aC∈o.op.operands:=fun aC aR=>by
  rw[ah];simp only[Op.operands,Call.operands,Array.mem_append];exact .inr (Array.mem_toList_iff.1 (by rw[G];exact aR))
 have xi:Operand.tmp t∈o.op.operands:=by
  rw[ah];simp only[Op.operands,Call.operands,Array.mem_append,E];exact .inl au7
 refine Br mem (fun K' ρ I a w g1 au=>?_) h;have ay:=au (t);have ab:dA K' t=dA K t:=g1 (.tmp t) xi;rw[ab,al] at ay;have e:a.tmps.getD t undef= .func (.func y.1) #[] (List.toArray (qS y.2)):=ay;refine⟨xs.map a.eval++qS y.2,fun fT=>I8 fT ah E G e,by simp[Pl],fun i v x ay hx=>?_⟩
 by_cases aH:i < xs.length
 .rw[ar7 (by simpa using aH)] at ay hx;exact zc mem g1 au i v x ay hx
 .rw[ar9 av9] at ay hx;simp only[aq3] at ay hx;exact Pm _ _ v x ay hx
theorem Zm (bm:d6 P aS) {T:TypeId} {x:Operand} {c:Call} (ah:o.op= .call c) (dP:c.callee= .builtin .len) (d7:c.args.toList=[x]) (lz:c.argTypes.toList=[T]) (h:match Iw aS T B (a6 K x) with
  |some (n,ig)=>k (.c (.one (.d (.int .i64 (n:Int))))) ⟨ig,[],[]⟩
  |none=>False):cB P N ids o K B k:=by
 have fu:c.args= #[x]:=Array.toList_inj.1 d7;have jq:c.argTypes= #[T]:=Array.toList_inj.1 lz;obtain⟨r7,args,cp⟩:=c;simp only at dP fu jq;subst dP fu jq;have m1:x∈o.op.operands:=av6
 have run: ∀{ev:Operand->Value} {w:World} {A:Option Addr} {n cap:Nat} {e:Nat},ev x= .slice A n cap->P.underlying T=some (.slice e)->(execOp ev o).run P w= .ok (.value (.int .i64 (n:Int))) w:=fun {ev w A n cap e} E cq=>by
  simp[execOp,ah,E,resolve,invoke,builtin,Builtin.len_,run_underlying cq,goInt]
 split at h
 .rename_i n ig hn;refine cB.of h ?_;unfold Iw at hn
  split at hn
  .rename_i s hx
   split at hn
   .rename_i cd;injection hn with hn
    injection hn with ai ao
    subst ai ao;refine bB.one hx m1 fun K' ρ I a w au e=>⟨_,?_,rfl⟩
    simp[execOp,ah,au.str e,resolve,invoke,builtin,Builtin.len_,run_underlying (EG bm cd),goInt,xc]
   .cases hn
  .rename_i u xs hx
   split at hn
   .rename_i p V;obtain⟨a7,_⟩:=pq bm (e:=p.1) (te:=p.2) V;injection hn with hn
    injection hn with ai ao
    subst ai ao;refine bB.one hx m1 fun K' ρ I a w au e=>?_
    obtain⟨A,cap,bl,_⟩:=au.ck e;injection bl with bl
    exact⟨_,run bl a7,rfl⟩
   .cases hn
  .rename_i hx
   split at hn
   .rename_i p V;obtain⟨a7,_⟩:=pq bm (e:=p.1) (te:=p.2) V;injection hn with hn
    injection hn with ai ao
    subst ai ao;exact bB.one hx m1 fun K' ρ I a w au e=>⟨_,run (au.dD e) a7,rfl⟩
   .cases hn
  .rename_i l4 hx
   split at hn
   .rename_i p V;obtain⟨a7,_⟩:=pq bm (e:=p.1) (te:=p.2) V
    split at hn
    .rename_i b5 u xs al;injection hn with hn
     injection hn with ai ao
     subst ai ao;refine bB.val fun K' B' g1 g2 C ρ F a w aq au=>?_
     obtain⟨bh,jH,cs,du,_⟩:=aq.holds l4 _ ((g2 l4 au7).trans al);have dE:=au.own ((g1 x m1).trans hx);obtain⟨_,A,cap,ay,_⟩:=eN.qQ du;exact⟨_,run (dE.trans ay) a7,rfl⟩
    .cases hn
   .cases hn
  .rename_i l4 hx
   split at hn
   .rename_i p cd
    split at hn
    .rename_i aI aK es al;injection hn with hn
     injection hn with ai ao
     subst ai ao;refine bB.val fun K' B' g1 g2 C ρ F a w aq au=>?_
     obtain⟨bh,bT,bV,O,az,da⟩:=aq.holds l4 _ ((g2 l4 au7).trans al);have dE:=au.mp ((g1 x m1).trans hx);refine⟨.int .i64 (es.length:Int),?_,rfl⟩;rw[<-A7 az];simp[execOp,ah,dE,resolve,invoke,builtin,Builtin.len_,run_underlying (EJ bm (kt:=p.1) (et:=p.2) cd),goInt,MapKept.run_getObj_map O]
    .cases hn
   .cases hn
  .cases hn
 .exact h.elim
theorem Pn {x y:Operand} {c:Call} {bi:Builtin} (xj:bi= .min\/bi= .max) (ah:o.op= .call c) (dP:c.callee= .builtin bi) (d7:c.args.toList=[x,y]) (h:match a6 K x,a6 K y with
  | .c (.one (.d (.int .i64 a))),.c (.one (.d (.int .i64 b)))=>k (.c (.one (.d (.int .i64 (if bi= .min then min a b else max a b))))) bG
  |_,_=>False):cB P N ids o K B k:=by
 have fu:c.args= #[x,y]:=Array.toList_inj.1 d7;obtain⟨r7,args,cp⟩:=c;simp only at dP fu;subst dP fu;have m1:x∈o.op.operands:=av6
 have m2:y∈o.op.operands:=av6
 split at h
 .rename_i a b hx aB;refine cB.of h <| bB.two hx aB m1 m2 fun K' ρ I fa w au ai ao=>⟨_,?_,rfl⟩
  rcases xj with rfl |rfl
  .have e:(if b < a then b else a)=min a b:=by rw[Int.min_def];split <;>split <;>omega
   simp[execOp,ah,au.int ai,au.int ao,resolve,invoke,builtin,run_min_int2,e]
  .have e:(if b >a then b else a)=max a b:=by rw[Int.max_def];split <;>split <;>omega
   simp only[gt_iff_lt] at e;simp[execOp,ah,au.int ai,au.int ao,resolve,invoke,builtin,run_max_int2,e]
 .exact h.elim
theorem l3.bool {P:Program} {T:Nat} {ti:cb} {i:TypeInfo} {d:TypeDesc} (h:l3 P T ti i d) (ab:ti.kd= .bool):P.underlying T=some .bool:=by
 have:=h.kd;rw[ab] at this;rw[h.nI]
 cases d <;>simp[s7] at this⊢
theorem Po (bm:d6 P aS) {T:Nat} (h:Ek aS T=true):P.underlying T=some .bool:=by
 unfold Ek at h
 split at h
 .rename_i ti gB
  split at h
  .rename_i ab;obtain⟨_,_,bu⟩:=bm.at_ gB;exact bu.bool ab
  .cases h
 .cases h
theorem Pp (bm:d6 P aS) {T:Nat} (h:Iu aS T=true): ∃e,P.underlying T=some (.pointer e):=by
 unfold Iu at h
 split at h
 .rename_i ti gB
  split at h
  .rename_i e ab;obtain⟨_,_,bu⟩:=bm.at_ gB;exact⟨e,bu.ptr ab⟩
  .cases h
 .cases h
theorem Pq (bm:d6 P aS) {T:Nat} (h:yY aS T=true): ∃e i,P.underlying T=some (.pointer e)/\P.info? e=some i/\i.size≠0:=by
 unfold yY at h
 split at h
 .rename_i ti gB
  split at h
  .rename_i e ab
   split at h
   .rename_i te vG;obtain⟨_,_,bu⟩:=bm.at_ gB;obtain⟨i,_,tf⟩:=bm.at_ vG;exact⟨e,i,bu.ptr ab,tf.jE,by rw[tf.size];exact tf.pos⟩
   .cases h
  .cases h
 .cases h
theorem I9 (h:Ep P ids o K B k):cB P N ids o K B k:=by
 obtain⟨v,e,E,G,aj⟩:=h;rw[rW] at aj;exact⟨v,e,aj,E N,EO G⟩
theorem Zn (bm:d6 P aS) (h:IJ P aS ids o K B k):cB P N ids o K B k:=by
 unfold IJ at h
 split at h
 .exact OR (.inl ‹_›) h
 .exact OR (.inr ‹_›) h
 .exact XW ‹_› h
 .rename_i op T x y fG ah;have q5:(∃v,k v bG/\bB P N ids o K B v bG)->cB P N ids o K B k:=fun⟨v,E,G⟩=>cB.of E G
  split at h
  .rename_i cd;exact q5 (OM ah (fun T=>Pq bm) (Pp bm cd) h)
  .rename_i cd;exact q5 (OM ah (fun T=>Pq bm) (Pp bm cd) h)
  .split at h
   .exact h.elim
   .exact h.elim
   .rename_i hx
    split at h
    .rename_i O;exact q5 (ON ah (Po bm O) (.inl hx) h)
    .exact h.elim
   .rename_i hx
    split at h
    .rename_i O;exact q5 (ON ah (Po bm O) (.inr hx) h)
    .exact h.elim
   .rename_i E G _ _;exact q5 (OK ah (.inr fun c d=>⟨E c d,G _⟩) h)
  .exact h.elim
 .exact XX ‹_› h
 .exact XY ‹_› h
 .exact XZ ‹_› h
 .exact X0 bm ‹_› h
 .exact X2 bm ‹_› h
 .exact Yc bm ‹_› h
 .exact Yg bm ‹_› h
 .exact Yh bm ‹_› h
 .exact Yk bm ‹_› h
 .rename_i T bE ah
  split at h
  .rename_i lw;exact Yt bm ah h lw
  .exact h.elim
 .rename_i T n bE hn ah;exact Yv bm ah hn h
 .exact Yw bm ‹_› h
 .exact Yx bm ‹_› h
 .rename_i ah
  split at h
  .rename_i hx;exact YD bm ah hx h
  .rename_i c o hx
   split at h
   .rename_i Zo;have:=ap6 Zo;subst this;exact YM bm ah hx h
   .exact h.elim
  .exact Yz bm ah h
 .exact YL bm ‹_› h
 .exact YA bm ‹_› h
 .exact YI bm ‹_› h
 .exact YJ bm ‹_› h
 .exact YP bm ‹_› h
 .exact Zi ‹_› h
 .exact YR bm ‹_› h
 .rename_i c ah
  split at h
  .rename_i f E;exact Pj ah E rfl h
  .rename_i t E
   split at h
   .rename_i f l al;exact Zk ah E rfl al h
   .rename_i x al;exact Zl ah E rfl al h
   .exact h.elim
  .rename_i x E G
   split at h
   .rename_i T cd;exact Zm bm ah E G cd h
   .exact h.elim
  .rename_i x y E G
   split at h
   .rename_i T eS cd;exact YK bm ah E G cd h
   .exact h.elim
  .rename_i x y E G;refine Pn (bi:=.min) (.inl rfl) ah E G ?_;simp only[if_pos rfl];exact h
  .rename_i x y E G;refine Pn (bi:=.max) (.inr rfl) ah E G ?_;simp only[reduceCtorEq,if_false];exact h
  .rename_i x y E G
   split at h
   .rename_i T eS cd;exact Zh bm ah E G cd h
   .exact h.elim
  .rename_i x y E G
   split at h
   .rename_i T eS cd
    split at h
    .rename_i V;have:=ap6 V;subst this;exact YW bm ah E G cd h
    .exact Y3 bm ah E G cd h
   .exact h.elim
  .exact I9 h
 .exact I9 h
theorem Ja (bm:d6 P aS) (h:Et P aS ids o K B k):cB P N ids o K B k:=by
 unfold Et at h
 split at h
 .exact I9 h
 .exact Zn bm h
end
end
end Go.Proofs.YthnboghbhgapcaaGreat
