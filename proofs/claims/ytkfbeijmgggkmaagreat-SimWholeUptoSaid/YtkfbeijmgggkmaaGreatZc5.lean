/-
A part of the proof of this claim: lemmas, with no condition beyond what each says.
-/
import Derived.Lib.AppendStr
import Derived.Test.YtkfbeijmgggkmaaGreatZc4
set_option linter.unusedVariables false
set_option linter.unusedSimpArgs false
set_option maxRecDepth 10000
set_option maxHeartbeats 4000000
namespace Go.Proofs.YtkfbeijmgggkmaaGreat
open Go.RowKit Go.Proofs
section
section
variable {P:Program} {aU:dl} {N:Nat} {ids:aA1} {o:Oper} {K:aX} {B:ay} {k:aO->fY->Prop}
theorem ZK {w:World} (t e:TypeId) (cn:P.underlying t=some (.slice e)) {i:TypeInfo} (aG:P.info? e=some i) {aB:Value} (aR:i.zero=some aB) (v1:aB.cells= #[.int .u8 0]) (ax:i.size=1) (O:i.bytes=1) (n:Nat) (hn:n<=4294967296):
  (Instr.makeSlice t (.int .i64 (n:Int)) (.int .i64 (n:Int))).run P w= .ok (.slice (some ⟨w.heap.size,0,none⟩) n n) (w.alloc (.cells (List.replicate n (.int .u8 0)).toArray e)):=by
 have h:=run_make (P:=P) w t e i _ cn aG aR .i64 .i64 (n:Int) (n:Int) aw0 aw0 (by rw[O];omega) aw0;rw[h,ax,v1];simp only[Int.toNat_natCast,Nat.mul_one]
 congr 3
 simp[madeCells];apply Array.ext
 .simp
 .intro i E G;simp[Nat.mod_one]
theorem P7 {ti:b8} {T:Nat} {i:TypeInfo} {d:TypeDesc} (bz:ml P T ti i d) (aR:ti.zero=[.d (.int .u8 0)]): ∃aB,i.zero=some aB/\aB.cells= #[.int .u8 0]:=by
 obtain⟨aB,E,G⟩:=bz.zero;refine⟨aB,E,?_⟩;rw[aR] at G
 have:aB.cells.toList=[.int .u8 0]:=by
  match J:aB.cells.toList,G with
  | [v],G=>
   simp only[tA,Bool.and_true] at G;have:=(PX (ρ:=fun _=>⟨0,none,0,0⟩) (I:=fun _=>False) (w:=default) G).1;rw[show v=_ from this]
  | [],G=>simp[tA] at G
  |_::_::_,G=>simp[tA] at G
 exact Array.toList_inj.1 this
theorem ZL (bl:eh P aU) {T:TypeId} {x y:Operand} (ag:o.op= .makeSlice T x y) (h:match elemOf aU T,a7 K x,a7 K y,o.dst with
  |some (e,te),.c (.one (.d (.int .i64 n))),.c (.one (.d (.int .i64 m))),some d=>match rq aU e with
   |true=>(n=m/\0<=n/\n<=4294967296)/\g9 ids K B d=true/\k (.c (.one (.own d))) ⟨[],[d],[(d,some (.row e .u8 (List.replicate n.toNat (0:UInt8))))]⟩
   |false=>False
  |_,_,_,_=>False):cI P N ids o K B k:=by
 have m1:x∈o.op.operands:=aw7
 have m2:y∈o.op.operands:=aw7
 split at h
 .rename_i e te n m d U hx aD H;obtain⟨a8,de,ds,bz⟩:=pO bl U
  split at h
  .rename_i rx;obtain⟨rx,ti,o3,jj,n2,tH,fR,gU⟩:=xD bl rx;obtain⟨aB,aR,v1⟩:=P7 n2 tH;obtain⟨⟨rfl,av,E⟩,cE,h⟩:=h;refine cI.bb h cE <| bB.make (fun d h=>BZ h) fun K' B' g1 g2 C ρ F a w ar au hn=>?_
   have dM:=au.int ((g1 x m1).trans hx);have ed:=au.int ((g1 y m2).trans aD);have dW:=ZK (P:=P) (w:=w) T e a8 n2.jW aR v1 (n2.size.trans fR) (n2.bytes.trans gU) n.toNat aw0;rw[show((n.toNat:Nat):Int)=n by omega] at dW;refine⟨.slice (some ⟨w.heap.size,0,none⟩) n.toNat n.toNat,w.alloc (.cells (List.replicate n.toNat (.int .u8 0)).toArray e),⟨w.heap.size,some ⟨w.heap.size,0,none⟩,n.toNat,n.toNat⟩,fun b=>b=w.heap.size,?_,ts w _,fun b O=>by subst O;exact⟨aq4 _,aw2⟩,fun I U O=>⟨⟨?_,?_,List.replicate n.toNat (.int .u8 0),?_,?_⟩,?_⟩⟩
   .simp only[execOp,ag,Sem.run_bind,dM,ed,dW,Result.andThen_ok,Sem.run_pure]
   .intro b;simp[bo.eK,Value.ownBlock,eq_comm]
   .intro b O;simp[bo.eK,Value.ownBlock] at O;exact O.symm
   .have:=Fl w e 1 n.toNat (List.replicate n.toNat (.int .u8 0)) aw2 ay4;have af:List.length (α:=aa .u8) (List.replicate n.toNat (0:UInt8))=n.toNat:=at1;rw[af];exact this
   .intro i aB aR;obtain⟨aG,pP⟩:=ar1.1 aR;have tH:aB=(0:UInt8):=by rw[<-pP];exact List.getElem_replicate ..
    have aG:i < n.toNat:=by
     have af:List.length (α:=aa .u8) (List.replicate n.toNat (0:UInt8))=n.toNat:=at1;rw[af] at aG;exact aG
    subst tH;show(List.replicate n.toNat (Value.int .u8 0))[i*1+0]? =some (Value.int .u8 ((0:UInt8).toNat:Int));rw[Nat.mul_one,Nat.add_zero,List.getElem?_replicate,if_pos aG];rfl
   .simp only[cx,gI,d1,dd,bo.eK]
  .exact h.elim
 .exact h.elim
theorem Fr {w:World} {e s n:Nat} {v:Value} {cs:List Value} (h:w.ownsRow 0 e s v n cs): ∃pl:bo,pl.eK=v/\ ∀b,v.ownBlock=some b->b=pl.bh:=by
 rcases h.2 with⟨rfl,_⟩ |⟨g,cap,df,rfl,_⟩
 .exact⟨⟨0,none,0,0⟩,rfl,fun b O=>by cases O⟩
 .exact⟨⟨g,some ⟨g,0,none⟩,n,cap⟩,rfl,fun b O=>by simp[Value.ownBlock] at O;exact O.symm⟩
theorem ZM (bl:eh P aU) {T:TypeId} {x y:Operand} {c:Call} {e:Nat} {te:b8} {u:bA} (ag:o.op= .call c) (dX:c.callee= .builtin .append) (ei:c.args.toList=[x,y]) (lN:c.argTypes.toList=[T,T]) (U:elemOf aU T=some (e,te)) (a8:te.u=some u)
  {a:Act} {w:World} {v:Value} {n m:Nat} {cs e2:List Value} {D:Nat->Prop} (hx:a.eval x=v) (dC:w.ownsRow 0 e (aS u) v n cs) (E:fF D w (aS u) (a.eval y) m e2) (al: ∀x∈e2,x.oneCell'=true) (hn:n+m<=4294967296):
  ∃da w',(execOp a.eval o).run P w= .ok (.value da) w'/\w'.ownsRow 0 e (aS u) da (n+m) (cs++e2)/\w.grownBy w' v.ownBlock/\(da.ownBlock=v.ownBlock\/da.ownBlock=some w.heap.size):=by
 obtain⟨ci,de,ds,bz⟩:=pO bl U;obtain⟨aB,aR,mR⟩:=bz.zero;have cu:aS u=de.size:=(bz.u u a8).trans bz.size.symm
 have nT:aB.cells.size=de.size:=by
  have E:=cc.length _ _ (vY (ρ:=fun _=>⟨0,none,0,0⟩) (I:=fun _=>False) (w:=w) _ _ mR).1;simp at E;rw[E,bz.JG,bz.size]
 have mm:0 < de.size:=by have:=bz.pos;have:=bz.size;omega
 have un:(n+m)*de.bytes<=140737488355328:=by
  have E:de.bytes<=32768:=by rw[bz.bytes];exact bz.PD
  exact au4 (Nat.mul_le_mul hn E) aw1
 obtain⟨da,w',dW,g1,g2,c2⟩:=I0 (P:=P) w 0 T o.type e de aB (aS u) de.bytes ci bz.jW aR cu.symm rfl (by rw[nT,cu]) (by rw[cu];exact mm) v n cs dC D (a.eval y) m e2 E al ay4 un (aq9 _);refine⟨da,w',?_,g1,g2,c2⟩;have fG:c.args= #[x,y]:=Array.toList_inj.1 ei;have jE:c.argTypes= #[T,T]:=Array.toList_inj.1 lN;obtain⟨sA,args,cv⟩:=c;simp only at dX fG jE;subst dX fG jE;unfold execOp;simp only[ag,resolve,invoke,builtin,Sem.run_bind,Sem.run_pure,Result.andThen_ok,List.map_toArray,ar8,av4,hx,dW]
theorem ZN {I:Nat->Prop} {w:World} {u:bA} {xs:List (aa u)} {cs:List Value} (ap:cs.length=xs.length*aS u) (h:gX I w u xs cs): ∀v∈cs,v.oneCell'=true:=fun v aA=>by
 obtain⟨k,Z,rfl⟩:=List.getElem_of_mem aA;obtain⟨af,ao,bm⟩:=EI (show k < xs.length*aS u by omega);obtain⟨da,E,G⟩:=cq.one u _ _ (h (k/aS u) _ (oj af)) (k % aS u) ao;rw[bm,oj Z] at E;injection E with E
 rw[E];exact G
theorem P8 (bl:eh P aU) {T:TypeId} {x y:Operand} {c:Call} {e:Nat} {te:b8} {u:bA} (ag:o.op= .call c) (dX:c.callee= .builtin .append) (ei:c.args.toList=[x,y]) (lN:c.argTypes.toList=[T,T]) (U:elemOf aU T=some (e,te)) (a8:te.u=some u)
  {a:Act} {w:World} {v:Value} {n:Nat} {cs:List Value} {I:Nat->Prop} {ys:List (aa u)} (hx:a.eval x=v) (dC:w.ownsRow 0 e (aS u) v n cs) (aD:cq I w (.b4 u) ys (fun _=>some (a.eval y))) (a2: ∀b,I b->b < w.heap.size) (hn:n+ys.length<=4294967296):
  ∃da w' e2,(execOp a.eval o).run P w= .ok (.value da) w'/\w'.ownsRow 0 e (aS u) da (n+ys.length) (cs++e2)/\gX I w u ys e2/\w.grownBy w' v.ownBlock/\(da.ownBlock=v.ownBlock\/da.ownBlock=some w.heap.size):=by
 obtain⟨ci,de,ds,bz⟩:=pO bl U;obtain⟨aB,aR,mR⟩:=bz.zero;obtain⟨e2,E,G,al⟩:=PS aD a2;have cu:aS u=de.size:=(bz.u u a8).trans bz.size.symm
 have nT:aB.cells.size=de.size:=by
  have E:=cc.length _ _ (vY (ρ:=fun _=>⟨0,none,0,0⟩) (I:=fun _=>False) (w:=w) _ _ mR).1;simp at E;rw[E,bz.JG,bz.size]
 have mm:0 < de.size:=by have:=bz.pos;have:=bz.size;omega
 have un:(n+ys.length)*de.bytes<=140737488355328:=by
  have E:de.bytes<=32768:=by rw[bz.bytes];exact bz.PD
  exact au4 (Nat.mul_le_mul hn E) aw1
 obtain⟨da,w',dW,g1,g2,c2⟩:=I0 (P:=P) w 0 T o.type e de aB (aS u) de.bytes ci bz.jW aR cu.symm rfl (by rw[nT,cu]) (by rw[cu];exact mm) v n cs dC I (a.eval y) ys.length e2 E al ay4 un (aq9 _);refine⟨da,w',e2,?_,g1,G,g2,c2⟩;have fG:c.args= #[x,y]:=Array.toList_inj.1 ei;have jE:c.argTypes= #[T,T]:=Array.toList_inj.1 lN;obtain⟨sA,args,cv⟩:=c;simp only at dX fG jE;subst dX fG jE;unfold execOp;simp only[ag,resolve,invoke,builtin,Sem.run_bind,Sem.run_pure,Result.andThen_ok,List.map_toArray,ar8,av4,hx,dW]
theorem Mem.move {C:fi} {ρ:Nat->bo} {F:Nat->Nat->Prop} {w w':World} (h:Mem ids C B ρ F w) {c d:Nat} {cB ch:ba} (J:aj B c=some cB) (hf:g9 ids K B d=true) (cE:cP (F c) w w') (pl:bo) (b9:Nat->Prop) (kW: ∀b,b9 b->(F c b\/w.heap.size<=b)/\b < w'.heap.size)
  (c0: ∀I,cj (b5 C B F w) w I w'->(∀b,I b->b < w'.heap.size/\ ¬b9 b)->Holds (dc ρ d pl) I b9 w' pl ch):
  Mem ids C ((d,ch)::gY B c) (dc ρ d pl) (dc F d b9) w'/\cj (b5 C B F w) w (b5 C ((d,ch)::gY B c) (dc F d b9) w') w':=by
 obtain⟨io,jB,pL,pM⟩:=kV hf;have xG:d≠c:=fun e=>by subst e;rw[jB] at J;cases J
 refine h.step (fun i=>i=d\/i=c) (fun i=>i=d) (cE.mono fun b _ O=>⟨c,cB,J,.inr rfl,O⟩) ?_ (fun i aG=>dm _ _ aG) (fun i aG=>dm _ _ (fun e=>aG (.inl e))) (fun i aG e=>pM (e▸aG)) (fun _ h=>.inl h) ?_ ?_ ?_ ?_
 .intro i ch' aG a6;rw[cd,if_neg (fun e=>a6 (.inl e.symm)),hv] at aG
  split at aG
  .cases aG
  .exact aG
 .rintro i ch' aG _ j U rfl;rw[pL i ch' aG] at U
  cases U
 .rintro i ch' aG ar U;rw[cd] at aG
  split at aG
  .rename_i e;subst e;injection aG with aG
   subst aG;rw[dd,dd];exact c0 _ U fun b dt=>⟨dt.1,fun aY=>dt.2.2 d ch ax6 (by rw[dd];exact aY)⟩
  .rename_i e;rcases ar with rfl |rfl
   .exact absurd rfl e
   .rw[hv,if_pos rfl] at aG;cases aG
 .rintro i ch' aG ar b aY;rcases ar with rfl |rfl
  .rw[dd] at aY;obtain⟨E,G⟩:=kW b aY;exact⟨G,E.imp (fun h=>⟨c,cB,J,.inr rfl,h⟩) id⟩
  .rw[cd,if_neg xG,hv,if_pos rfl] at aG;cases aG
 .rintro i j i3 oY b aG V ZO ZP a6
  have q: ∀i ch',aj ((d,ch)::gY B c) i=some ch'->(i=d\/i=c)->i=d:=fun i ch' aG ar=>by
   rcases ar with rfl |rfl
   .rfl
   .rw[cd,if_neg xG,hv,if_pos rfl] at aG;cases aG
  exact absurd ((q i i3 aG ZO).trans (q j oY V ZP).symm) a6
theorem JX {w w':World} {r:Option Nat} {S:Nat->Prop} (h:w.grownBy w' r) (au: ∀b,r=some b->S b):cP S w w':=Pc h au
theorem ZQ (bl:eh P aU) {T:TypeId} {x y:Operand} {c:Call} (ag:o.op= .call c) (dX:c.callee= .builtin .append) (ei:c.args.toList=[x,y]) (lN:c.argTypes.toList=[T,T])
  (h:Jr aU T (a7 K x) (a7 K y) o.dst ids K B k):cI P N ids o K B k:=by
 have mem: ∀aB∈ [x,y],aB∈o.op.operands:=fun aB aR=>by
  rw[ag];simp only[Op.operands,Call.operands,Array.mem_append];exact .inr (Array.mem_toList_iff.1 (by rw[ei];exact aR))
 have m1:=mem x aw2;have m2:=mem y aw2;unfold Jr at h
 split at h
 .rename_i e te d U H
  split at h
  .rename_i u v ys a8 aD
   split at h
   .rename_i sz _;subst sz
    split at h
    .rename_i hx;obtain⟨bZ,cE,h⟩:=h;refine cI.bb h cE <| bB.make (fun d h=>BZ h) fun K' B' g1 g2 C ρ F a w ar au hn=>?_
     obtain⟨da,w',e2,dW,ce,cR,er,eQ⟩:=P8 bl ag dX ei lN U a8 (au.dH ((g1 x m1).trans hx)) (World.ownsRow_nil w 0 e (aS v)) (au.cf ((g1 y m2).trans aD)) (fun b O=>O.1) aw0;obtain⟨pl,hm,jY⟩:=Fr ce;have O:Below w.heap.size w w':=⟨er.os,er.tape,er.output,er.size,fun b O=>er.block b O (by simp[Value.ownBlock])⟩
     have ZR: ∀b,da.ownBlock=some b->w.heap.size<=b/\b < w'.heap.size:=fun b dt=>by
      have:=ce.lt b dt;rcases eQ with eQ |eQ
      .rw[eQ] at dt;cases dt
      .rw[eQ] at dt;injection dt with dt;omega
     refine⟨da,w',pl,fun b=>da.ownBlock=some b,dW,O,ZR,fun I g0 a2=>⟨⟨fun b=>by rw[hm],fun b O=>jY b (by rwa[hm] at O),e2,?_,?_⟩,?_⟩⟩
     .rw[hm];have:=ce;rw[Nat.zero_add,av8] at this;exact this
     .exact gX.mono g0 cR
     .simp only[cx,gI,d1,dd,hm]
    .rename_i mn hx
     split at h
     .rename_i b6 tv xs ap
      split at h
      .rename_i JY sB _;have sB:=ar0 sB;subst JY sB;obtain⟨bZ,cE,h⟩:=h;refine cI.bb h cE ?_;rintro K' B' g1 g2 c2 C a w ⟨qs,tE,ρ,F,ar,au⟩ bx fO Q dq;have f1:aj B' mn=_:=(g2 mn aw2).trans ap;have hf:=c2 d aw2;have o4:=kV hf;have bj:=ar.holds mn _ f1;obtain⟨bd,li,cs,dC,jZ⟩:=bj;obtain⟨da,w',e2,dW,ce,cR,er,eQ⟩:=P8 bl ag dX ei lN U a8 (au.own ((g1 x m1).trans hx)) dC (au.cf ((g1 y m2).trans aD)) (fun b O=>O.1) (by have:(nV rfl xs).length=xs.length:=rfl;omega);obtain⟨pl,hm,jY⟩:=Fr ce
       obtain⟨bP,g0⟩:=ar.move (K:=K') (ch:=.row b6 tv (nV rfl xs++nV rfl ys)) f1 hf (JX er fun b O=>(bd b).2 O) pl (fun b=>da.ownBlock=some b) (fun b O=>⟨by
         rcases eQ with eQ |eQ
         .exact .inl ((bd b).2 (eQ.symm.trans O))
         .rw[eQ] at O;injection O with O;exact .inr aw0,(ce.lt b O).2⟩)
        (fun I g0 a2=>⟨fun b=>by rw[hm],fun b O=>jY b (by rwa[hm] at O),cs++e2,by rw[hm];simpa[nV] using ce,gX.uA (gX.mono g0 jZ) (gX.mono g0 cR) dC.1⟩)
       unfold Oper.wp;rw[dW,Oper.upon_value];exact dq _ _ ⟨kq.trans qs,kr.trans tE,_,_,bP,(au.mono g0 fun s i aG=>dm _ _ (fun e=>by subst e;rw[o4.1 s] at aG;cases aG)).ku (fun e U=>by rw[qs];exact bx e U) (by simp only[cx,gI,d1,dd,hm])⟩
      .exact h.elim
     .exact h.elim
    .exact h.elim
   .exact h.elim
  .rename_i u cG a8 aD
   split at h
   .rename_i mn hx
    split at h
    .rename_i b6 tv xs ao v ys ap qq
     split at h
     .rename_i sz JY a6 sB _ _;have sB:=ar0 sB;subst sz JY sB;obtain⟨bZ,cE,h⟩:=h;refine cI.bb h cE ?_;rintro K' B' g1 g2 c2 C a w ⟨qs,tE,ρ,F,ar,au⟩ bx fO Q dq;have f1:aj B' mn=_:=(g2 mn aw2).trans ap;have ZS:aj B' cG=_:=(g2 cG aw2).trans qq;have hf:=c2 d aw2;have o4:=kV hf;obtain⟨bd,li,cs,dC,jZ⟩:=ar.holds mn _ f1;obtain⟨i6,ap7,ZT,P9,P'⟩:=ar.holds cG _ ZS;have hB:=fF.sm P9;rw[<-au.own ((g1 y m2).trans aD)] at hB;obtain⟨da,w',dW,ce,er,eQ⟩:=ZM bl ag dX ei lN U a8 (au.own ((g1 x m1).trans hx)) dC hB (ZN P9.1 P') (by have:(nV rfl xs).length=xs.length:=rfl;have:(nV rfl ys).length=ys.length:=rfl;omega);obtain⟨pl,hm,jY⟩:=Fr ce
      obtain⟨bP,g0⟩:=ar.move (K:=K') (ch:=.row b6 tv (nV rfl xs++nV rfl ys)) f1 hf (JX er fun b O=>(bd b).2 O) pl (fun b=>da.ownBlock=some b) (fun b O=>⟨by
        rcases eQ with eQ |eQ
        .exact .inl ((bd b).2 (eQ.symm.trans O))
        .rw[eQ] at O;injection O with O;exact .inr aw0,(ce.lt b O).2⟩)
       (fun I g0 a2=>⟨fun b=>by rw[hm],fun b O=>jY b (by rwa[hm] at O),cs++ZT,by rw[hm];simpa[nV] using ce,gX.uA (gX.mono g0 jZ) (gX.mono g0 P') dC.1⟩)
      unfold Oper.wp;rw[dW,Oper.upon_value];exact dq _ _ ⟨kq.trans qs,kr.trans tE,_,_,bP,(au.mono g0 fun s i aG=>dm _ _ (fun e=>by subst e;rw[o4.1 s] at aG;cases aG)).ku (fun e U=>by rw[qs];exact bx e U) (by simp only[cx,gI,d1,dd,hm])⟩
     .exact h.elim
    .exact h.elim
   .exact h.elim
  .exact h.elim
 .exact h.elim
theorem Qa (s:aA0):Go.Lib.strCells ⟨s.toArray⟩=s.map ij:=by simp[Go.Lib.strCells,ij]
theorem ZU {w:World} {T e3 ty e:TypeId} {i:TypeInfo} (ci:P.underlying T=some (.slice e)) (a8:P.underlying e3=some .string) (aG:P.info? e=some i) (aR:i.zero=some (.int .u8 0)) (ax:i.size=1) (O:i.bytes=1)
  {v:Value} {n:Nat} {cs:List Value} (dC:w.ownsRow 0 e 1 v n cs) (s:aA0) (hn:n+s.length<=4294967296):
  ∃da w',(Builtin.append_ #[T,e3] ty #[v,.string ⟨s.toArray⟩]).run P w= .ok da w'/\w'.ownsRow 0 e 1 da (n+s.length) (cs++s.map ij)/\w.grownBy w' v.ownBlock/\ ∀b,da.ownBlock=some b->v.ownBlock=some b\/w.heap.size<=b:=by
 have cu:(⟨s.toArray⟩:ByteArray).size=s.length:=xB s;rcases dC.2 with⟨rfl,rfl⟩ |⟨g,cap,df,rfl,-,aY,EF,zO,f0,np⟩
 .have ZV:cs=[]:=List.eq_nil_of_length_eq_zero (by simpa using dC.1);subst ZV;obtain⟨da,w',aC,G,al,_⟩:=Go.Lib.run_append_own_string (P:=P) w w.heap.size T e3 ty e i ci a8 aG aR ax O (.slice none 0 0) 0 [] (World.ownsRow_nil w w.heap.size e 1) ⟨s.toArray⟩ (by rw[cu];simp only[maxLen];omega) ay6 (aq4 _);rw[cu,Qa] at G;refine⟨da,w',aC,⟨G.1,?_⟩,al,fun b O=>.inr ?_⟩
  .rcases G.2 with h |⟨g,cap,df,aA,_,r⟩
   .exact .inl h
   .exact .inr ⟨g,cap,df,aA,aq9 _,r⟩
  .rcases G.2 with⟨h,_⟩ |⟨g,cap,df,aA,vQ,r⟩
   .rw[h] at O;cases O
   .rw[aA] at O;simp[Value.ownBlock] at O;omega
 .obtain⟨da,w',aC,G,al,_⟩:=Go.Lib.run_append_own_string (P:=P) w 0 T e3 ty e i ci a8 aG aR ax O (.slice (some ⟨g,0,none⟩) n cap) n cs dC ⟨s.toArray⟩ (by rw[cu];simp only[maxLen];omega) ay6 (aq9 _);have v6:cs.length=n:=by simpa using dC.1
  refine⟨da,w',aC,by rw[cu,Qa] at G;exact G,al,fun b dt=>?_⟩
  by_cases B1:n+(⟨s.toArray⟩:ByteArray).size<=cap
  .have n3:=Go.Lib.run_append_room_string (P:=P) w T e3 ty e i ci a8 aG ax g n cap df aY ⟨s.toArray⟩ B1 aw0;rw[aC] at n3;injection n3 with af ao
   rw[af] at dt;exact .inl dt
  .have holds: ∀j u,cs[j]? =some u->w.cell? ((⟨g,0,none⟩:Addr).add j)=some u:=dC.cells (g:=g) rfl;have n3:=Go.Lib.run_append_grow_string (P:=P) w T e3 ty e i (.int .u8 0) ci a8 aG aR ⟨g,0,none⟩ n cap cs (by rw[ax];simpa using v6) holds ⟨s.toArray⟩ aw0 ay6 (by rw[O];exact growslice_fits aw0 (by rw[cu];omega));rw[aC] at n3;injection n3 with af ao
   rw[af] at dt;simp[Value.ownBlock] at dt;exact .inr aw0
theorem ZW (I:Nat->Prop) (w:World) (xs:aA0):gX I w .u8 xs (xs.map ij):=fun i x hx=>by
 show(xs.map ij)[i*1+0]? =_;rw[Nat.mul_one,Nat.add_zero,as6,show xs[i]? =some x from hx];rfl
theorem ZX (bl:eh P aU) {T e3:TypeId} {x y:Operand} {c:Call} (ag:o.op= .call c) (dX:c.callee= .builtin .append) (ei:c.args.toList=[x,y]) (lN:c.argTypes.toList=[T,e3])
  (h:Js aU T e3 (a7 K x) (a7 K y) o.dst ids K B k):cI P N ids o K B k:=by
 have mem: ∀aB∈ [x,y],aB∈o.op.operands:=fun aB aR=>by
  rw[ag];simp only[Op.operands,Call.operands,Array.mem_append];exact .inr (Array.mem_toList_iff.1 (by rw[ei];exact aR))
 have m1:=mem x aw2;have m2:=mem y aw2;unfold Js at h
 split at h
 .rename_i e te d U ZY H
  split at h
  .rename_i mn s hx aD
   split at h
   .rename_i b6 xs rx ap
    split at h
    .rename_i sB;have sB:=ar0 sB;subst sB;obtain⟨bZ,cE,h⟩:=h;obtain⟨ci,de,ds,bz⟩:=pO bl U;obtain⟨ZZ,Z0⟩:=xD bl rx;have d':=Fk bl ZY;refine cI.bb h cE ?_;rintro K' B' g1 g2 c2 C a w ⟨qs,tE,ρ,F,ar,au⟩ bx fO Q dq;have f1:aj B' mn=_:=(g2 mn aw2).trans ap;have hf:=c2 d aw2;have o4:=kV hf;have bj:=ar.holds mn _ f1;obtain⟨bd,li,cs,dC,jZ⟩:=bj;obtain⟨ti,o3,jj,n2,tH,fR,gU⟩:=Z0;obtain⟨aB,aR,v1⟩:=P7 n2 tH
     have pP:aB= .int .u8 0:=by
      have E:=n2.PE aB aR (by have:=n2.n0;rw[ZZ] at this;injection this with this;rw[<-this]);rw[E] at v1;simpa using v1
     rw[pP] at aR;obtain⟨da,w',dW,ce,er,eQ⟩:=ZU (P:=P) (w:=w) (T:=T) (e3:=e3) (ty:=o.type) ci d' n2.jW aR (n2.size.trans fR) (n2.bytes.trans gU) (show w.ownsRow 0 b6 1 (ρ mn).eK (List.length (α:=UInt8) xs) cs from dC) s bZ;obtain⟨pl,hm,jY⟩:=Fr ce
     obtain⟨bP,g0⟩:=ar.move (K:=K') (ch:=.row b6 .u8 (List.append (α:=UInt8) xs s)) f1 hf (JX er fun b O=>(bd b).2 O) pl (fun b=>da.ownBlock=some b) (fun b O=>⟨by
       rcases eQ b O with eQ |eQ
       .exact .inl ((bd b).2 eQ)
       .exact .inr eQ,(ce.lt b O).2⟩)
      (fun I g0 a2=>⟨fun b=>by rw[hm],fun b O=>jY b (by rwa[hm] at O),cs++s.map ij,by
       rw[hm];have:List.length (α:=aa .u8) (List.append (α:=UInt8) xs s)=List.length (α:=UInt8) xs+s.length:=aq5;rw[this];exact ce,gX.uA (u:=.u8) (gX.mono g0 jZ) (ZW _ _ s) dC.1⟩)
     have fG:c.args= #[x,y]:=Array.toList_inj.1 ei;have jE:c.argTypes= #[T,e3]:=Array.toList_inj.1 lN;obtain⟨sA,args,cv⟩:=c;simp only at dX fG jE;subst dX fG jE;have dM:=au.own ((g1 x m1).trans hx);have ed:=au.str ((g1 y m2).trans aD)
     have uG:(execOp a.eval o).run P w= .ok (.value da) w':=by
      unfold execOp;simp only[ag,resolve,invoke,builtin,Sem.run_bind,Sem.run_pure,Result.andThen_ok,List.map_toArray,ar8,av4,dM,ed,dW]
     unfold Oper.wp;rw[uG,Oper.upon_value];exact dq _ _ ⟨kq.trans qs,kr.trans tE,_,_,bP,(au.mono g0 fun s i aG=>dm _ _ (fun e=>by subst e;rw[o4.1 s] at aG;cases aG)).ku (fun e U=>by rw[qs];exact bx e U) (by simp only[cx,gI,d1,dd,hm])⟩
    .exact h.elim
   .exact h.elim
  .exact h.elim
 .exact h.elim
end
end
section
section
variable {P:Program} {aU:dl} {N:Nat} {ids:aA1} {o:Oper} {K:aX} {B:ay} {k:aO->fY->Prop}
theorem Z1 {α:Type} (df ys:List α) (off N:Nat) (h:off+ys.length<=N) (G:N<=df.length):(df.take off++ys++df.drop (off+ys.length)).take N=(df.take N).take off++ys++(df.take N).drop (off+ys.length):=by
 rw[List.take_append,List.take_of_length_le ax4,List.take_take,Nat.min_eq_left aw0,List.drop_take]
 congr 2
 simp;omega
theorem Z2 {w:World} {dT sT ty e:TypeId} (a8:P.underlying dT=some (.slice e)) (cu:(P.info? e).map (·.size)=some 1) {v:Value} {M off n dCap m:Nat} {cs ys:List Value} {rt:Option Addr} {ik:Value} {D:Nat->Prop} {b6:TypeId}
  (dC:w.ownsRow 0 b6 1 v M cs) (H:0 < n-> ∀g cap,v= .slice (some ⟨g,0,none⟩) M cap->M<=cap->rt=some ⟨g,off,none⟩) (lg:off+n<=M) (hB:fF D w 1 ik m ys) (E: ∀v∈ys,v.oneCell'=true):
  ∃x w',(Builtin.copy_ #[dT,sT] ty #[.slice rt n dCap,ik]).run P w= .ok x w'/\cP (fun b=>v.ownBlock=some b) w w'/\w'.ownsRow 0 b6 1 v M (cs.take off++ys.take n++cs.drop (off+(ys.take n).length)):=by
 obtain⟨sp,EG,rfl,ap,mm⟩:=Yo hB n;have fZ:(ys.take n).length<=n:=by rw[ar3];exact Nat.min_le_left _ _
 by_cases av:(ys.take n).length=0
 .refine⟨_,w,run_copy_none (P:=P) w dT sT ty e rt sp n dCap m EG a8 cu (by rw[<-ap];exact av),cP.refl _ _,?_⟩;rw[List.eq_nil_of_length_eq_zero av];simpa using dC
 .obtain⟨ad,rfl,Z3⟩:=mm aw0;obtain⟨bZ,dC⟩:=dC;rcases dC with⟨_,ar⟩ |⟨g,cap,df,aA,O,aY,dX,ei,lN,Qb⟩
  .omega
  .obtain rfl:=H aw0 g cap aA dX;have Qc:df.toList.length=cap:=by simpa using lN
   rw[Nat.mul_one] at Qb bZ;refine⟨_,_,run_copy_row (P:=P) w dT sT ty e g off n dCap ad m EG df b6 (ys.take n) a8 cu aY ap Z3 (by rw[<-Array.length_toList];omega) (fun v aA=>E v (List.mem_of_mem_take aA)),Fi (by rw[aA];rfl),?_⟩;refine⟨by simp only[aq5,ar3,au3,Nat.mul_one] at*;omega,.inr ⟨g,cap,_,aA,O,setRow_heap w g _ _ b6 _ aY,dX,ei,by simp only[List.size_toArray,aq5,ar3,au3,Nat.mul_one] at*;omega,?_⟩⟩;rw[Nat.mul_one];show List.take M (df.toList.take off++ys.take n++df.toList.drop (off+(ys.take n).length))=_;rw[Z1 _ _ _ _ aw0 aw0,Qb]
theorem JZ (xs ys:aA0) {off n:Nat} (h:off+n<=xs.length):(laid xs off n ys).length=xs.length:=by
 simp only[laid,aq5,ar3,au3];omega
theorem Z4 (xs ys:aA0) (off n:Nat):List.take off (xs.map ij)++List.take n (ys.map ij)++List.drop (off+(List.take n (ys.map ij)).length) (xs.map ij)=(laid xs off n ys).map ij:=by
 simp only[laid,at9,List.map_take,List.map_drop,ar3,ar7]
theorem Z5 {I:Nat->Prop} {w:World} {xs:aA0} {cs:List Value} (h:gX I w .u8 xs cs) (ap:cs.length=xs.length):cs=xs.map ij:=by
 refine List.ext_getElem? fun i=>?_
 rw[as6]
 cases hx:xs[i]? with
 |none=>
  have:=List.getElem?_eq_none_iff.1 hx;rw[List.getElem?_eq_none_iff.2 aw0];rfl
 |some x=>
  have G:=h i x hx;simpa[cq,aS,ij] using G
theorem Z6 (I:Nat->Prop) (w:World) (xs:aA0):gX I w .u8 xs (xs.map ij):=fun i x hx=>by
 have hx:xs[i]? =some x:=hx;simp[cq,aS,hx];rfl
theorem Z7 {I:Nat->Prop} {w:World} {v:Value} {l:aA0} (a2: ∀b,I b->b < w.heap.size) (h:cq I w (.b4 .u8) l (fun _=>some v)):fF I w 1 v l.length (l.map ij):=by
 obtain⟨A,cap,av,E,G,al⟩:=h;injection av with av
 refine⟨aw2,A,cap,av,E,G,fun ae=>?_⟩;obtain⟨b,o,d5,O,hx⟩:=al ae;refine⟨b,o,d5,O,a2 b O,fun j u a8=>?_⟩;rw[as6] at a8;obtain⟨x,B2,rfl⟩:=at6.1 a8;have:=hx j x B2;simpa[cq,aS,ij] using this
theorem bB.Z8 {c:Nat} {cB ch:ba} (J:aj B c=some cB)
  (h: ∀(K':aX) (B':ay),(∀x,x∈o.op.operands->a7 K' x=a7 K x)-> ∀(C:fi) (ρ:Nat->bo) (F:Nat->Nat->Prop) (a:Act) (w:World),Mem ids C B' ρ F w->ey K' ρ (b5 C B' F w) a w->aj B' c=some cB-> ∃x w',(execOp a.eval o).run P w= .ok (.value x) w'/\cP (F c) w w'/\
   (∀I,cj (b5 C B' F w) w I w'->Holds ρ I (F c) w' (ρ c) ch)):
  bB P N ids o K B (.c (.one .any)) ⟨[c],[],[(c,some ch)]⟩:=by
 rintro K' B' E G - C a w ⟨hn,H,ρ,F,ar,au⟩ bx fO Q dq;have cQ:aj B' c=some cB:=(G c aw2).trans J;obtain⟨x,w',hx,cE,c0⟩:=h K' B' E C ρ F a w ar au cQ;obtain⟨bP,U⟩:=ar.h0 cQ cE c0;unfold Oper.wp;rw[hx,Oper.upon_value];exact dq _ _ ⟨kq.trans hn,kr.trans H,ρ,F,bP,(au.mono U fun _ _ _=>rfl).ku (fun e U=>by rw[hn];exact bx e U) trivial⟩
theorem Qd (bl:eh P aU) {T e3 e:TypeId} {te:b8} {x y:Operand} {c:Call} {d off n:Nat} {ys:aA0} (ag:o.op= .call c) (dX:c.callee= .builtin .copy) (ei:c.args.toList=[x,y]) (lN:c.argTypes.toList=[T,e3]) (U:elemOf aU T=some (e,te)) (gJ:rq aU e=true) (aD:a7 K y= .c (.one (.d (.cf .u8 ys))))
  (hx: ∀(K':aX) (ρ:Nat->bo) (I:Nat->Prop) (a:Act) (w:World),ey K' ρ I a w->a7 K' x=a7 K x-> ∀(M:Nat),(ρ d).n=M->(∀e xs,aj B d=some (.row e .u8 xs)->List.length xs=M)->off+n<=M-> ∃rt dCap,a.eval x= .slice rt n dCap/\(0 < n-> ∀g cap,(ρ d).eK= .slice (some ⟨g,0,none⟩) M cap->M<=cap->rt=some ⟨g,off,none⟩))
  (h:E4 d off n ys B k):cI P N ids o K B k:=by
 have fG:c.args= #[x,y]:=Array.toList_inj.1 ei;have jE:c.argTypes= #[T,e3]:=Array.toList_inj.1 lN;obtain⟨sA,args,cv⟩:=c;simp only at dX fG jE;subst dX fG jE;have m1:x∈o.op.operands:=ax1
 have m2:y∈o.op.operands:=ax1
 obtain⟨a8,de,ds,bz⟩:=pO bl U;obtain⟨_,ap8,i8,d8,Qe,_,Z9,_⟩:=xD bl gJ;have cu:(P.info? e).map (·.size)=some 1:=by rw[Qe.jW];simp[Qe.size,Z9]
 unfold E4 at h
 split at h
 .rename_i b6 xs ap;obtain⟨lg,h⟩:=h;refine cI.of h <| bB.Z8 ap fun K' B' E C ρ F a w ar au f1=>?_
  obtain⟨bd,jY,cs,dC,jZ⟩:=ar.holds d _ f1;have PW:=dC;obtain⟨dF,A,cap,aA,_,_,_⟩:=fF.sm PW;have hn:(ρ d).n=xs.length:=by unfold bo.eK at aA;injection aA
  have f0:cs=xs.map ij:=Z5 jZ (by have:=dF;simp[aS] at this;exact this);obtain⟨rt,dCap,Z',sC⟩:=hx K' ρ _ a w au (E x m1) _ hn (fun ao ap9 G=>by rw[ap] at G;cases G;rfl) lg;have aaa:=Z7 (fun b O=>O.1) (au.cf ((E y m2).trans aD));obtain⟨r,w',dW,cE,ga⟩:=Z2 (P:=P) (w:=w) (dT:=T) (sT:=e3) (ty:=o.type) a8 cu (dCap:=dCap) dC sC lg aaa (Pb _);refine⟨r,w',?_,cE.mono fun b _ O=>(bd b).2 O,fun I aZ=>⟨bd,jY,List.take off cs++List.take n (List.map ij ys)++List.drop (off+(List.take n (List.map ij ys)).length) cs,?_,?_⟩⟩
  .simp[execOp,ag,resolve,invoke,builtin,Z',dW]
  .have bm:List.length (α:=aa .u8) (laid xs off n ys)=List.length (α:=aa .u8) xs:=JZ xs ys lg;show w'.ownsRow 0 b6 1 (ρ d).eK (List.length (α:=aa .u8) (laid xs off n ys)) _;rw[bm];exact ga
  .rw[f0];have af:=Z4 xs ys off n;rw[af];exact Z6 I w' _
 .exact h.elim
theorem aab (bl:eh P aU) {T e3:TypeId} {x y:Operand} {c:Call} (ag:o.op= .call c) (dX:c.callee= .builtin .copy) (ei:c.args.toList=[x,y]) (lN:c.argTypes.toList=[T,e3]) (h:JA aU T (a7 K x) (a7 K y) B k):cI P N ids o K B k:=by
 unfold JA at h
 split at h
 .rename_i e te U
  split at h
  .rename_i ys gJ aD
   split at h
   .rename_i d hx
    split at h
    .rename_i b6 xs ap;refine Qd bl ag dX ei lN U gJ aD (fun K' ρ I a w au Z M ar sD lg=>⟨(ρ d).A,(ρ d).cap,?_,fun ae g cap aA _=>?_⟩) h
     .have:=au.own (Z.trans hx);rw[this,sD b6 xs ap,<-ar];rfl
     .unfold bo.eK at aA;injection aA
    .exact h.elim
   .rename_i d s off n hx
    split at h
    .rename_i ax;have:=ar0 ax;subst this;refine Qd bl ag dX ei lN U gJ aD (fun K' ρ I a w au Z M ar sD lg=>⟨_,_,au.os (Z.trans hx),fun ae g cap aA ap'=>?_⟩) h;unfold bo.eK at aA;injection aA with af ao bm
     rw[if_neg aw0,af,au5,qk];simp
    .exact h.elim
   .exact h.elim
  .exact h.elim
 .exact h.elim
end
end
section
section
variable {P:Program} {aU:dl} {N:Nat} {ids:aA1} {o:Oper} {K:aX} {B:ay} {k:aO->fY->Prop}
theorem kz: ∀{aI:ay} {B:ay},kT B aI-> ∀{c ch},aj aI c=some ch->aj B c=some ch
 | [],B,h,c,ch,J=>by cases J
 |(d,x)::aI,B,h,c,ch,J=>by
  rw[cd] at J
  split at J
  .rename_i e;subst e;injection J with J
   subst J;exact h.1
  .exact kz h.2 J
theorem gw: ∀{B:ay} {c:Nat},c∈cm B↔ ∃ch,aj B c=some ch
 | [],c=>by simp[cm,aj]
 |(d,x)::B,c=>by
  simp only[cm,aq7,cd]
  by_cases e:d=c
  .subst e;simp
  .rw[if_neg e];constructor
   .rintro(h |h)
    .exact absurd h.symm e
    .exact gw.1 h
   .exact fun h=>.inr (gw.2 h)
theorem J0: ∀{aI:ay} {bb:aA1} {aN:ay},mQ aI bb aN=true-> ∀{c},c∈cm aN->c∈cm aI\/c∈bb
 |aI,bb,[],h,c,J=>by simp[cm] at J
 |aI,bb,(d,x)::aN,h,c,J=>by
  simp only[mQ,vj,Bool.or_eq_true,at2] at h;rcases aq7.1 J with rfl |J
  .exact h.1.1
  .exact J0 h.2 J
theorem Qf: ∀(aN:ay) (aI:ay) (bb:aA1) (B:ay),mQ aI bb aN=true-> ∀c,aj (hl (iL [] aN) B) c=(match aj aN c with |some ch=>some ch |none=>aj B c)
 | [],_,_,B,_,c=>by simp[iL,Jl,hl,aj]
 |(d,x)::aN,aI,bb,B,h,c=>by
  simp only[mQ,vj,Bool.not_eq_true'] at h;show aj (hl (iL [] aN) ((d,x)::B)) c=_;rw[Qf aN aI bb ((d,x)::B) h.2 c,cd,cd]
  by_cases e:d=c
  .subst e
   have hn:aj aN d=none:=by
    cases ap:aj aN d with
    |none=>rfl
    |some ch=>
     have:=gw.2 ⟨ch,ap⟩;have G:=h.1.2;rw[<-Bool.not_eq_true,at2] at G;exact absurd this G
   rw[hn,if_pos rfl,if_pos rfl]
  .rw[if_neg e,if_neg e]
theorem Fs: ∀(aI:ay) (nq:ay) (bb:aA1) (aN B:ay),mQ nq bb aN=true-> ∀c,aj (hl (iL aI aN) B) c=(match aj aN c with |some ch=>some ch |none=>if c∈cm aI then none else aj B c)
 | [],nq,bb,aN,B,h,c=>by
  rw[Qf aN nq bb B h c];simp[cm]
 |(d,x)::aI,nq,bb,aN,B,h,c=>by
  simp only[iL,hl];rw[Fs aI nq bb aN (gY B d) h c,hv]
  cases aj aN c with
  |some ch=>rfl
  |none=>
   simp only[cm,aq7]
   by_cases e:d=c
   .subst e;simp
   .by_cases ao:c∈cm aI
    .simp[ao]
    .simp[e,ao,Ne.symm e]
theorem Ft: ∀{bb:aA1},sr ids K B bb=true-> ∀c,c∈bb->g9 ids K B c=true
 | [],_,c,J=>by cases J
 |d::bb,h,c,J=>by
  simp only[sr,vj] at h;rcases aq7.1 J with rfl |J
  .exact h.1.1
  .exact Ft h.2 c J
theorem Qg {ev:Operand->Value} {f:FuncId} {c:Call} {xs:List Operand} {w:World} (hf:jz P f=true) (ag:o.op= .call c) (E:c.callee= .value (.func f)) (G:c.args.toList=xs) (uJ:ev (.func f)= .func (.func f) #[] #[]):(execOp ev o).run P w= .ok (.enter f (xs.map ev).toArray) w:=by
 have fG:c.args=xs.toArray:=by rw[<-G]
 obtain⟨sA,args,cv⟩:=c;simp only at E fG;subst E fG;unfold jz at hf
 split at hf
 .rename_i fn jk;simp only[Bool.not_eq_true',Bool.or_eq_false_iff,beq_eq_false_iff_ne] at hf;have G: ¬fn.body=none:=fun e=>by rw[e] at hf;simp at hf
  simp[execOp,ag,resolve,invoke,uJ,Deferred.ofValue,callFunc,go_sem,jk];rw[if_neg hf.1,if_neg G]
 .cases hf
theorem zP {xs:List Operand} (mem: ∀aB∈xs,aB∈o.op.operands) {K':aX} {ρ:Nat->bo} {I:Nat->Prop} {a:Act} {w:World} (g1: ∀x,x∈o.op.operands->a7 K' x=a7 K x) (au:ey K' ρ I a w) (i:Nat) (v:aO) (x:Value) (aA:(xs.map (a7 K))[i]? =some v) (hx:(xs.map a.eval)[i]? =some x):cx ρ I w v x:=by
 rw[as6] at aA hx
 cases aG:xs[i]? with
 |none=>rw[aG] at aA;cases aA
 |some aB=>
  rw[aG] at aA hx;simp only[au5,aq8] at aA hx;subst aA hx;rw[<-g1 aB (mem aB (List.mem_of_getElem? aG))];exact au.get aB
theorem B3 {f:FuncId} {args:List aO} {xs:List Operand} (mem: ∀aB∈xs,aB∈o.op.operands)
  (uG: ∀(K':aX) (ρ:Nat->bo) (I:Nat->Prop) (a:Act) (w:World),(∀x,x∈o.op.operands->a7 K' x=a7 K x)->ey K' ρ I a w-> ∃bW:List Value,(jz P f=true->(execOp a.eval o).run P w= .ok (.enter f bW.toArray) w)/\bW.length=args.length/\ ∀(i:Nat) (v:aO) (x:Value),args[i]? =some v->bW[i]? =some x->cx ρ I w v x)
  (h:xt P f args ids K B k):cI P N ids o K B k:=by
 obtain⟨aI,bb,res,aN,⟨f3,jk⟩,h2,bz,h⟩:=h;rw[sq] at h;simp only[vj] at bz;have n4:=bz.2;refine⟨_,_,h,?_,Ft bz.1⟩;rintro K' B' g1 g2 c2 C a w ⟨hn,H,ρ,F,ar,au⟩ bx fO Q dq;have e4: ∀{c ch},aj aI c=some ch->aj B' c=some ch:=fun {c ch} J=>(g2 c (gw.2 ⟨ch,J⟩)).trans (kz h2 J)
 have o4: ∀c∈bb,(∀s,(dI K' s).has c=false)/\aj B' c=none/\(∀d ch,aj B' d=some ch->ch.has c=false)/\c∉ids:=fun c J=>kV (c2 c J)
 obtain⟨bW,dW,ry,tI⟩:=uG K' ρ _ a w g1 au
 have J:=jk ρ F (b5 C B' F w) w bW (fun b O=>O.1) (fun c ch J=>ar.holds c ch (e4 J)) (fun c ch J b O=>⟨(ar.own c ch (e4 J) b O).1,fun a2=>a2.2.2 c ch (e4 J) O⟩)
  (fun c b7 ch ch' b E G=>ar.fj c b7 ch ch' b (e4 E) (e4 G)) ry tI
 unfold Oper.wp;rw[dW f3,Oper.upon_enter];refine J.mono ?_;rintro e w' ⟨x,ρ',F',rfl,cE,dr,I',jl,gL,c0,aq,ip,dx⟩;have B4: ∀c,aj (hl (iL aI aN) B') c=(match aj aN c with |some ch=>some ch |none=>if c∈cm aI then none else aj B' c):=Fs aI aI bb aN B' n4
 have pQ: ∀c ch,aj (hl (iL aI aN) B') c=some ch->aj aN c=some ch\/(aj aN c=none/\c∉cm aI/\aj B' c=some ch):=fun c ch J=>by
  rw[B4] at J
  cases O:aj aN c with
  |some ch'=>rw[O] at J;exact .inl J
  |none=>
   rw[O] at J;simp only at J
   split at J
   .cases J
   .rename_i Z;exact .inr ⟨rfl,Z,J⟩
 let cN:Nat->Nat->Prop:=fun c=>if c∈cm aN then F' c else F c
 have i6: ∀c ch,aj aN c=some ch->cN c=F' c:=fun c ch J=>if_pos (gw.2 ⟨ch,J⟩)
 have B5: ∀c,aj aN c=none->cN c=F c:=fun c J=>if_neg (fun Z=>by
  obtain⟨ch,h⟩:=gw.1 Z;rw[J] at h;cases h)
 have kA: ∀c ch,aj aN c=some ch->c∈cm aI\/c∈bb:=fun c ch J=>J0 n4 (gw.2 ⟨ch,J⟩)
 have uK: ∀c ch,aj (hl (iL aI aN) B') c=some ch->(c∈cm aI\/c∈bb)->aj aN c=some ch:=fun c ch J bP=>by
  rcases pQ c ch J with h |⟨E,G,al⟩
  .exact h
  .rcases bP with h |h
   .exact absurd h G
   .rw[(o4 c h).2.1] at al;cases al
 have qt:cj I' w' (b5 C (hl (iL aI aN) B') cN w') w':=fun b O=>by
  obtain⟨af,ao⟩:=gL b O;refine⟨⟨af,?_,fun c ch J bd=>?_⟩,rfl⟩
  .rcases ao with ao |⟨c,ch,ao,bm⟩ |ao
   .exact ao.2.1
   .exact .inr ((ar.own c ch (e4 ao) b bm).2)
   .exact .inr (.inr (ar.fresh ao))
  .rcases pQ c ch J with h |⟨E,G,al⟩
   .rw[i6 c ch h] at bd;exact(aq c ch h b bd).2.1 O
   .rw[B5 c E] at bd;rcases ao with ao |⟨d,ch',ao,bm⟩ |ao
    .exact ao.2.2 c ch al bd
    .exact ar.fj d c ch' ch b (e4 ao) al (fun e=>G (e▸gw.2 ⟨ch',ao⟩)) bm bd
    .have:=(ar.own c ch al b bd).1;omega
 obtain⟨bP,aZ⟩:=ar.step (B':=hl (iL aI aN) B') (ρ':=ρ') (F':=cN) (w':=w') (fun c=>c∈cm aI\/c∈bb) (fun c=>c∈bb)
  (cE.mono fun b _ ⟨c,ch,E,G⟩=>⟨c,ch,e4 E,.inl (gw.2 ⟨ch,E⟩),G⟩)
  (fun c ch J hn=>by
   rcases pQ c ch J with h |⟨_,_,al⟩
   .exact absurd (kA c ch h) hn
   .exact al)
  dr
  (fun c hn=>by
   cases O:aj aN c with
   |none=>exact B5 c O
   |some ch=>exact absurd (kA c ch O) hn)
  (fun c J hn=>(o4 c hn).2.2.2 J) (fun c h=>.inr h)
  (fun c ch J _ d H hn=>by rw[(o4 d hn).2.2.1 c ch J] at H;cases H)
  (fun c ch J bP _=>by
   have O:=uK c ch J bP;rw[i6 c ch O];exact Holds.ck qt (fun _ _=>rfl) (aq4 _) ch (fun _ _=>rfl) (c0 c ch O))
  (fun c ch J bP b O=>by
   have xH:=uK c ch J bP;rw[i6 c ch xH] at O;obtain⟨af,_,bm⟩:=aq c ch xH b O;refine⟨af,bm.imp (fun⟨hy,cB,E,G⟩=>⟨hy,cB,e4 E,.inl (gw.2 ⟨cB,E⟩),G⟩) id⟩)
  (fun c b7 ch ch' b J cQ kA iY a6 O dt=>by
   have E:=uK c ch J kA;have G:=uK b7 ch' cQ iY;rw[i6 c ch E] at O;rw[i6 b7 ch' G] at dt;exact ip c b7 ch ch' b E G a6 O dt)
 refine dq _ _ ⟨kq.trans hn,kr.trans H,ρ',cN,bP,(au.mono aZ fun s d H=>dr d fun hn=>by rw[(o4 d hn).1 s] at H;cases H).ku (fun e U=>by rw[hn];exact bx e U) (cx.mono qt _ _ (fun _ _=>rfl) dx)⟩
theorem Qh {f:FuncId} {c:Call} {xs:List Operand} (ag:o.op= .call c) (E:c.callee= .value (.func f)) (G:c.args.toList=xs) (h:xt P f (xs.map (a7 K)) ids K B k):cI P N ids o K B k:=by
 have mem: ∀aB∈xs,aB∈o.op.operands:=fun aB aR=>by
  rw[ag];simp only[Op.operands,Call.operands,Array.mem_append];exact .inr (Array.mem_toList_iff.1 (by rw[G];exact aR))
 exact B3 mem (fun K' ρ I a w g1 au=>⟨xs.map a.eval,fun f3=>Qg f3 ag E G rfl,aw2,zP mem g1 au⟩) h
theorem Qi {ρ:Nat->bo} {I:Nat->Prop} {w:World}: ∀(aE:List aO) (l:List kQ) (us:List Value),xv aE=some l->us.length=aE.length->(∀(i:Nat) (v:aO) (x:Value),aE[i]? =some v->us[i]? =some x->cx ρ I w v x)->hZ ρ I w l us
 | [],l,us,h,ap,_=>by
  simp only[xv,aq8] at h;subst h;exact List.eq_nil_of_length_eq_zero ap
 |v::aE,l,[],h,ap,_=>by simp at ap
 |v::aE,l,u::us,h,ap,H=>by
  have bu:=fun r aC=>Qi aE r us aC az8 (fun i v x aA hx=>H (i+1) v x ay1 az5)
  have av:=H 0 v u rfl rfl;unfold xv at h
  split at h
  .rename_i e;simp at e
  .rename_i c o sv e;injection e with af ao
   subst af ao
   split at h
   .rename_i r aC;injection h with h
    subst h;exact⟨u,us,rfl,av,bu r aC⟩
   .cases h
  .rename_i x sv e;injection e with af ao
   subst af ao
   split at h
   .rename_i r aC;injection h with h
    subst h;exact⟨u,us,rfl,av,bu r aC⟩
   .cases h
  .cases h
theorem aac {f:FuncId} {fs cs:Array Operand} (ag:o.op= .makeFunc (.func f) fs cs) (h:match fs.toList,xv (cs.toList.map (a7 K)) with
  | [],some l=>k (.c (.one (.cY f l))) bJ
  |_,_=>False):cI P N ids o K B k:=by
 split at h
 .rename_i l v7 ap
  have mem: ∀aB∈cs.toList,aB∈o.op.operands:=fun aB aR=>by
   rw[ag];simp only[Op.operands,Array.mem_append];exact .inr (Array.mem_toList_iff.1 aR)
  refine cI.of h <| bB.val fun K' B' g1 g2 C ρ F a w ar au=>?_
  have aad:fs= #[]:=Array.toList_eq_nil_iff.1 v7
  refine⟨.func (.func f) #[] (List.toArray (cs.toList.map a.eval)),(by
   have e:cs.map a.eval=List.toArray (cs.toList.map a.eval):=Array.toList_inj.1 aw2;simp[execOp,ag,Instr.makeFunc,aad,e]),_,rfl,?_⟩
  exact Qi _ l _ ap aw2 (zP mem g1 au)
 .exact h.elim
theorem J1 {ev:Operand->Value} {f:FuncId} {c:Call} {x:Operand} {xs:List Operand} {cs:List Value} {w:World} (hf:jz P f=true) (ag:o.op= .call c) (E:c.callee= .value x) (G:c.args.toList=xs) (uJ:ev x= .func (.func f) #[] (List.toArray cs)):(execOp ev o).run P w= .ok (.enter f (xs.map ev++cs).toArray) w:=by
 have fG:c.args=xs.toArray:=by rw[<-G]
 obtain⟨sA,args,cv⟩:=c;simp only at E fG;subst E fG;unfold jz at hf
 split at hf
 .rename_i fn jk;simp only[Bool.not_eq_true',Bool.or_eq_false_iff,beq_eq_false_iff_ne] at hf;have G: ¬fn.body=none:=fun e=>by rw[e] at hf;simp at hf
  simp[execOp,ag,resolve,invoke,uJ,Deferred.ofValue,callFunc,go_sem,jk];rw[if_neg hf.1,if_neg G]
 .cases hf
theorem hZ.bW {ρ:Nat->bo} {I:Nat->Prop} {w:World}: ∀(l:List kQ) (aE:List Value),hZ ρ I w l aE->aE.length=(oW l).length/\ ∀(i:Nat) (v:aO) (x:Value),(oW l)[i]? =some v->aE[i]? =some x->cx ρ I w v x
 | [],aE,h=>by rw[show aE=[] from h];exact⟨rfl,fun i v x aA=>by simp[oW] at aA⟩
 | .p c o::l,_,⟨v,r,e,E,G⟩=>by
  subst e;obtain⟨g1,g2⟩:=hZ.bW l r G;refine⟨by simp[oW,g1],fun i u x a8 hx=>?_⟩
  match i with
  |0=>
   simp only[oW,ar9,aq8] at a8 hx;subst a8 hx;exact E
  |i+1=>exact g2 i u x (by simpa[oW] using a8) az5
 | .d y::l,_,⟨v,r,e,E,G⟩=>by
  subst e;obtain⟨g1,g2⟩:=hZ.bW l r G;refine⟨by simp[oW,g1],fun i u x a8 hx=>?_⟩
  match i with
  |0=>
   simp only[oW,ar9,aq8] at a8 hx;subst a8 hx;exact E
  |i+1=>exact g2 i u x (by simpa[oW] using a8) az5
theorem aae {f:FuncId} {c:Call} {t:Nat} {l:List kQ} {xs:List Operand} (ag:o.op= .call c) (E:c.callee= .value (.tmp t)) (G:c.args.toList=xs) (ap:dI K t= .c (.one (.cY f l))) (h:xt P f (xs.map (a7 K)++oW l) ids K B k):cI P N ids o K B k:=by
 have mem: ∀aB∈xs,aB∈o.op.operands:=fun aB aR=>by
  rw[ag];simp only[Op.operands,Call.operands,Array.mem_append];exact .inr (Array.mem_toList_iff.1 (by rw[G];exact aR))
 have xI:Operand.tmp t∈o.op.operands:=by
  rw[ag];simp only[Op.operands,Call.operands,Array.mem_append,E];exact .inl aw2
 refine B3 mem (fun K' ρ I a w g1 au=>?_) h;have aA:=au (t);have Z:dI K' t=dI K t:=g1 (.tmp t) xI;rw[Z,ap] at aA;obtain⟨aE,e,J⟩:=aA;obtain⟨cC,cF⟩:=hZ.bW l aE J;refine⟨xs.map a.eval++aE,fun f3=>J1 f3 ag E G e,by simp[cC],fun i v x aA hx=>?_⟩
 by_cases aG:i < xs.length
 .rw[as8 (by simpa using aG)] at aA hx;exact zP mem g1 au i v x aA hx
 .rw[at4 ax4] at aA hx;simp only[ar7] at aA hx;exact cF _ v x aA hx
theorem Qj: ∀bs:aA1,(rk bs).length=(uv bs).length
 | []=>rfl
 |b::l=>by simp[rk,uv,Qj l]
theorem Qk {ρ:Nat->bo} {I:Nat->Prop} {w:World}: ∀(bs:aA1) (i:Nat) (u:aO) (x:Value),(uv bs)[i]? =some u->(rk bs)[i]? =some x->cx ρ I w u x
 | [],i,u,x,a8,_=>by simp[uv] at a8
 |b::l,0,u,x,a8,hx=>by
  simp only[uv,rk,ar9,aq8] at a8 hx;subst a8 hx;exact rfl
 |b::l,i+1,u,x,a8,hx=>by
  simp only[uv,rk,av7] at a8 hx;exact Qk l i u x a8 hx
theorem aaf {c:Call} {t:Nat} {y:Nat×aA1} {xs:List Operand} (ag:o.op= .call c) (E:c.callee= .value (.tmp t)) (G:c.args.toList=xs) (ap:dI K t= .c (.one (.d (.fn y)))) (h:xt P y.1 (xs.map (a7 K)++uv y.2) ids K B k):cI P N ids o K B k:=by
 have mem: ∀aB∈xs,aB∈o.op.operands:=fun aB aR=>by
  rw[ag];simp only[Op.operands,Call.operands,Array.mem_append];exact .inr (Array.mem_toList_iff.1 (by rw[G];exact aR))
 have xI:Operand.tmp t∈o.op.operands:=by
  rw[ag];simp only[Op.operands,Call.operands,Array.mem_append,E];exact .inl aw2
 refine B3 mem (fun K' ρ I a w g1 au=>?_) h;have aA:=au (t);have Z:dI K' t=dI K t:=g1 (.tmp t) xI;rw[Z,ap] at aA;have e:a.tmps.getD t undef= .func (.func y.1) #[] (List.toArray (rk y.2)):=aA;refine⟨xs.map a.eval++rk y.2,fun f3=>J1 f3 ag E G e,by simp[Qj],fun i v x aA hx=>?_⟩
 by_cases aG:i < xs.length
 .rw[as8 (by simpa using aG)] at aA hx;exact zP mem g1 au i v x aA hx
 .rw[at4 ax4] at aA hx;simp only[ar7] at aA hx;exact Qk _ _ v x aA hx
theorem aag (bl:eh P aU) {T:TypeId} {x:Operand} {c:Call} (ag:o.op= .call c) (dX:c.callee= .builtin .len) (ei:c.args.toList=[x]) (lN:c.argTypes.toList=[T]) (h:match Jo aU T B (a7 K x) with
  |some (n,ix)=>k (.c (.one (.d (.int .i64 (n:Int))))) ⟨ix,[],[]⟩
  |none=>False):cI P N ids o K B k:=by
 have fG:c.args= #[x]:=Array.toList_inj.1 ei;have jE:c.argTypes= #[T]:=Array.toList_inj.1 lN;obtain⟨sA,args,cv⟩:=c;simp only at dX fG jE;subst dX fG jE;have m1:x∈o.op.operands:=ax1
 have run: ∀{ev:Operand->Value} {w:World} {A:Option Addr} {n cap:Nat} {e:Nat},ev x= .slice A n cap->P.underlying T=some (.slice e)->(execOp ev o).run P w= .ok (.value (.int .i64 (n:Int))) w:=fun {ev w A n cap e} E cn=>by
  simp[execOp,ag,E,resolve,invoke,builtin,Builtin.len_,run_underlying cn,goInt]
 split at h
 .rename_i n ix hn;refine cI.of h ?_;unfold Jo at hn
  split at hn
  .rename_i s hx
   split at hn
   .rename_i ci;injection hn with hn
    injection hn with af ao
    subst af ao;refine bB.one hx m1 fun K' ρ I a w au e=>⟨_,?_,rfl⟩
    simp[execOp,ag,au.str e,resolve,invoke,builtin,Builtin.len_,run_underlying (Fk bl ci),goInt,xB]
   .cases hn
  .rename_i u xs hx
   split at hn
   .rename_i p U;obtain⟨a8,_⟩:=pO bl (e:=p.1) (te:=p.2) U;injection hn with hn
    injection hn with af ao
    subst af ao;refine bB.one hx m1 fun K' ρ I a w au e=>?_
    obtain⟨A,cap,bm,_⟩:=au.cf e;injection bm with bm
    exact⟨_,run bm a8,rfl⟩
   .cases hn
  .rename_i hx
   split at hn
   .rename_i p U;obtain⟨a8,_⟩:=pO bl (e:=p.1) (te:=p.2) U;injection hn with hn
    injection hn with af ao
    subst af ao;exact bB.one hx m1 fun K' ρ I a w au e=>⟨_,run (au.dH e) a8,rfl⟩
   .cases hn
  .rename_i mn hx
   split at hn
   .rename_i p U;obtain⟨a8,_⟩:=pO bl (e:=p.1) (te:=p.2) U
    split at hn
    .rename_i b6 u xs ap;injection hn with hn
     injection hn with af ao
     subst af ao;refine bB.val fun K' B' g1 g2 C ρ F a w ar au=>?_
     obtain⟨bd,jY,cs,dC,_⟩:=ar.holds mn _ ((g2 mn aw2).trans ap);have dM:=au.own ((g1 x m1).trans hx);obtain⟨_,A,cap,aA,_⟩:=fF.sm dC;exact⟨_,run (dM.trans aA) a8,rfl⟩
    .cases hn
   .cases hn
  .rename_i mn hx
   split at hn
   .rename_i p ci
    split at hn
    .rename_i aH aJ es ap;injection hn with hn
     injection hn with af ao
     subst af ao;refine bB.val fun K' B' g1 g2 C ρ F a w ar au=>?_
     obtain⟨bd,bU,bV,O,aw,dy⟩:=ar.holds mn _ ((g2 mn aw2).trans ap);have dM:=au.mp ((g1 x m1).trans hx);refine⟨.int .i64 (es.length:Int),?_,rfl⟩;rw[<-BJ aw];simp[execOp,ag,dM,resolve,invoke,builtin,Builtin.len_,run_underlying (Fo bl (kt:=p.1) (et:=p.2) ci),goInt,MapKept.run_getObj_map O]
    .cases hn
   .cases hn
  .cases hn
 .exact h.elim
theorem Ql {x y:Operand} {c:Call} {bi:Builtin} (lO:bi= .min\/bi= .max) (ag:o.op= .call c) (dX:c.callee= .builtin bi) (ei:c.args.toList=[x,y]) (h:match a7 K x,a7 K y with
  | .c (.one (.d (.int .i64 a))),.c (.one (.d (.int .i64 b)))=>k (.c (.one (.d (.int .i64 (if bi= .min then min a b else max a b))))) bJ
  |_,_=>False):cI P N ids o K B k:=by
 have fG:c.args= #[x,y]:=Array.toList_inj.1 ei;obtain⟨sA,args,cv⟩:=c;simp only at dX fG;subst dX fG;have m1:x∈o.op.operands:=ax1
 have m2:y∈o.op.operands:=ax1
 split at h
 .rename_i a b hx aD;refine cI.of h <| bB.two hx aD m1 m2 fun K' ρ I fl w au af ao=>⟨_,?_,rfl⟩
  rcases lO with rfl |rfl
  .have e:(if b < a then b else a)=min a b:=by rw[Int.min_def];split <;>split <;>omega
   simp[execOp,ag,au.int af,au.int ao,resolve,invoke,builtin,run_min_int2,e]
  .have e:(if b >a then b else a)=max a b:=by rw[Int.max_def];split <;>split <;>omega
   simp only[gt_iff_lt] at e;simp[execOp,ag,au.int af,au.int ao,resolve,invoke,builtin,run_max_int2,e]
 .exact h.elim
theorem ml.bool {P:Program} {T:Nat} {ti:b8} {i:TypeInfo} {d:TypeDesc} (h:ml P T ti i d) (Z:ti.kd= .bool):P.underlying T=some .bool:=by
 have:=h.kd;rw[Z] at this;rw[h.n0]
 cases d <;>simp[tz] at this⊢
theorem Qm (bl:eh P aU) {T:Nat} (h:E0 aU T=true):P.underlying T=some .bool:=by
 unfold E0 at h
 split at h
 .rename_i ti gK
  split at h
  .rename_i Z;obtain⟨_,_,bz⟩:=bl.at_ gK;exact bz.bool Z
  .cases h
 .cases h
theorem Qn (bl:eh P aU) {T:Nat} (h:Jm aU T=true): ∃e,P.underlying T=some (.pointer e):=by
 unfold Jm at h
 split at h
 .rename_i ti gK
  split at h
  .rename_i e Z;obtain⟨_,_,bz⟩:=bl.at_ gK;exact⟨e,bz.ptr Z⟩
  .cases h
 .cases h
theorem Qo (bl:eh P aU) {T:Nat} (h:zC aU T=true): ∃e i,P.underlying T=some (.pointer e)/\P.info? e=some i/\i.size≠0:=by
 unfold zC at h
 split at h
 .rename_i ti gK
  split at h
  .rename_i e Z
   split at h
   .rename_i te vZ;obtain⟨_,_,bz⟩:=bl.at_ gK;obtain⟨i,_,tG⟩:=bl.at_ vZ;exact⟨e,i,bz.ptr Z,tG.jW,by rw[tG.size];exact tG.pos⟩
   .cases h
  .cases h
 .cases h
theorem J2 (h:E5 P ids o K B k):cI P N ids o K B k:=by
 obtain⟨v,e,E,G,al⟩:=h;rw[sq] at al;exact⟨v,e,al,E N,Ft G⟩
theorem aah (bl:eh P aU) (h:JB P aU ids o K B k):cI P N ids o K B k:=by
 unfold JB at h
 split at h
 .exact PP (.inl ‹_›) h
 .exact PP (.inr ‹_›) h
 .exact YR ‹_› h
 .rename_i op T x y fQ ag;have rz:(∃v,k v bJ/\bB P N ids o K B v bJ)->cI P N ids o K B k:=fun⟨v,E,G⟩=>cI.of E G
  split at h
  .rename_i ci;exact rz (PK ag (fun T=>Qo bl) (Qn bl ci) h)
  .rename_i ci;exact rz (PK ag (fun T=>Qo bl) (Qn bl ci) h)
  .split at h
   .exact h.elim
   .exact h.elim
   .rename_i hx
    split at h
    .rename_i O;exact rz (PL ag (Qm bl O) (.inl hx) h)
    .exact h.elim
   .rename_i hx
    split at h
    .rename_i O;exact rz (PL ag (Qm bl O) (.inr hx) h)
    .exact h.elim
   .rename_i E G _ _;exact rz (PI ag (.inr fun c d=>⟨E c d,G _⟩) h)
  .exact h.elim
 .exact YS ‹_› h
 .exact YT ‹_› h
 .exact YU ‹_› h
 .exact YV bl ‹_› h
 .exact YX bl ‹_› h
 .exact Y7 bl ‹_› h
 .exact Za bl ‹_› h
 .exact Zb bl ‹_› h
 .exact Ze bl ‹_› h
 .rename_i T bE ag
  split at h
  .rename_i lM;exact Zn bl ag h lM
  .exact h.elim
 .rename_i T n bE hn ag;exact Zp bl ag hn h
 .exact Zq bl ‹_› h
 .exact Zr bl ‹_› h
 .rename_i ag
  split at h
  .rename_i hx;exact Zx bl ag hx h
  .rename_i c o hx
   split at h
   .rename_i aai;have:=ar0 aai;subst this;exact ZG bl ag hx h
   .exact h.elim
  .exact Zt bl ag h
 .exact ZF bl ‹_› h
 .exact Zu bl ‹_› h
 .exact ZC bl ‹_› h
 .exact ZD bl ‹_› h
 .exact ZJ bl ‹_› h
 .exact aac ‹_› h
 .exact ZL bl ‹_› h
 .rename_i c ag
  split at h
  .rename_i f E;exact Qh ag E rfl h
  .rename_i t E
   split at h
   .rename_i f l ap;exact aae ag E rfl ap h
   .rename_i x ap;exact aaf ag E rfl ap h
   .exact h.elim
  .rename_i x E G
   split at h
   .rename_i T ci;exact aag bl ag E G ci h
   .exact h.elim
  .rename_i x y E G
   split at h
   .rename_i T e3 ci;exact ZE bl ag E G ci h
   .exact h.elim
  .rename_i x y E G;refine Ql (bi:=.min) (.inl rfl) ag E G ?_;simp only[if_pos rfl];exact h
  .rename_i x y E G;refine Ql (bi:=.max) (.inr rfl) ag E G ?_;simp only[reduceCtorEq,if_false];exact h
  .rename_i x y E G
   split at h
   .rename_i T e3 ci;exact aab bl ag E G ci h
   .exact h.elim
  .rename_i x y E G
   split at h
   .rename_i T e3 ci
    split at h
    .rename_i U;have:=ar0 U;subst this;exact ZQ bl ag E G ci h
    .exact ZX bl ag E G ci h
   .exact h.elim
  .exact J2 h
 .exact J2 h
theorem J3 (bl:eh P aU) (h:E8 P aU ids o K B k):cI P N ids o K B k:=by
 unfold E8 at h
 split at h
 .exact J2 h
 .exact aah bl h
end
end
end Go.Proofs.YtkfbeijmgggkmaaGreat
