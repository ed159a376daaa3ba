/-
A part of the proof of this claim: lemmas, with no condition beyond what each says.
-/
import Derived.Lib.AppendStr
import Derived.Test.YtkfbeijmgggkmaaGreatZd4
set_option linter.unusedVariables false
set_option linter.unusedSimpArgs false
set_option maxRecDepth 10000
set_option maxHeartbeats 4000000
namespace Go.Proofs.YtkfbeijmgggkmaaGreat
open Go.RowKit Go.Proofs
section
section
variable {P:Program} {aS:dg} {N:Nat} {ids:aC4} {o:Oper} {K:aY} {B:az} {k:aP->fP->Prop}
theorem ZD {w:World} (t e:TypeId) (cq:P.underlying t=some (.slice e)) {i:TypeInfo} (aF:P.info? e=some i) {aB:Value} (aN:i.zero=some aB) (vY:aB.cells= #[.int .u8 0]) (aw:i.size=1) (O:i.bytes=1) (n:Nat) (hn:n<=4294967296):
  (Instr.makeSlice t (.int .i64 (n:Int)) (.int .i64 (n:Int))).run P w= .ok (.slice (some ⟨w.heap.size,0,none⟩) n n) (w.alloc (.cells (List.replicate n (.int .u8 0)).toArray e)):=by
 have h:=run_make (P:=P) w t e i _ cq aF aN .i64 .i64 (n:Int) (n:Int) ay4 ay4 (by rw[O];omega) ay4;rw[h,aw,vY];simp only[aw9,Nat.mul_one]
 congr 3
 simp[madeCells];apply Array.ext
 .simp
 .intro i E G;simp[Nat.mod_one]
theorem PZ {ti:ca} {T:Nat} {i:TypeInfo} {d:TypeDesc} (bv:l8 P T ti i d) (aN:ti.zero=[.d (.int .u8 0)]): ∃aB,i.zero=some aB/\aB.cells= #[.int .u8 0]:=by
 obtain⟨aB,E,G⟩:=bv.zero;refine⟨aB,E,?_⟩;rw[aN] at G
 have:aB.cells.toList=[.int .u8 0]:=by
  match J:aB.cells.toList,G with
  | [v],G=>
   simp only[tk,Bool.and_true] at G;have:=(PP (ρ:=fun _=>⟨0,none,0,0⟩) (I:=fun _=>False) (w:=default) G).1;rw[show v=_ from this]
  | [],G=>simp[tk] at G
  |_::_::_,G=>simp[tk] at G
 exact au7.1 this
theorem ZE (bl:ec P aS) {T:TypeId} {x y:Operand} (ah:o.op= .makeSlice T x y) (h:match elemOf aS T,a2 K x,a2 K y,o.dst with
  |some (e,te),.c (.one (.d (.int .i64 n))),.c (.one (.d (.int .i64 m))),some d=>match q7 aS e with
   |true=>(n=m/\0<=n/\n<=4294967296)/\g6 ids K B d=true/\k (.c (.one (.own d))) ⟨[],[d],[(d,some (.row e .u8 (List.replicate n.toNat (0:UInt8))))]⟩
   |false=>False
  |_,_,_,_=>False):cH P N ids o K B k:=by
 have m1:x∈o.op.operands:=az1
 have m2:y∈o.op.operands:=az1
 split at h
 .rename_i e te n m d U hx aD H;obtain⟨a6,c8,ds,bv⟩:=pz bl U
  split at h
  .rename_i ra;obtain⟨ra,ti,oW,jj,nV,ts,fS,hm⟩:=xx bl ra;obtain⟨aB,aN,vY⟩:=PZ nV ts;obtain⟨⟨rfl,au,E⟩,cy,h⟩:=h;refine cH.bb h cy <| bA.make (fun d h=>BS h) fun K' B' g1 g2 C ρ F a w aj ar hn=>?_
   have dO:=ar.int ((g1 x m1).trans hx);have d':=ar.int ((g1 y m2).trans aD);have dN:=ZD (P:=P) (w:=w) T e a6 nV.jY aN vY (nV.size.trans fS) (nV.bytes.trans hm) n.toNat ay4;rw[show((n.toNat:Nat):Int)=n by omega] at dN;refine⟨.slice (some ⟨w.heap.size,0,none⟩) n.toNat n.toNat,w.alloc (.cells (List.replicate n.toNat (.int .u8 0)).toArray e),⟨w.heap.size,some ⟨w.heap.size,0,none⟩,n.toNat,n.toNat⟩,fun b=>b=w.heap.size,?_,tb w _,fun b O=>by subst O;exact⟨aq0 _,ay6⟩,fun I U O=>⟨⟨?_,?_,List.replicate n.toNat (.int .u8 0),?_,?_⟩,?_⟩⟩
   .simp only[execOp,ah,Sem.run_bind,dO,d',dN,Result.andThen_ok,Sem.run_pure]
   .intro b;simp[bn.ef,Value.ownBlock,eq_comm]
   .intro b O;simp[bn.ef,Value.ownBlock] at O;exact O.symm
   .have:=Fa w e 1 n.toNat (List.replicate n.toNat (.int .u8 0)) ay6 aA9;have ae:List.length (α:=Z .u8) (List.replicate n.toNat (0:UInt8))=n.toNat:=ar7;rw[ae];exact this
   .intro i aB aN;obtain⟨aF,rc⟩:=aq7.1 aN;have ts:aB=(0:UInt8):=by rw[<-rc];exact List.getElem_replicate ..
    have aF:i < n.toNat:=by
     have ae:List.length (α:=Z .u8) (List.replicate n.toNat (0:UInt8))=n.toNat:=ar7;rw[ae] at aF;exact aF
    subst ts;show(List.replicate n.toNat (Value.int .u8 0))[i*1+0]? =some (Value.int .u8 ((0:UInt8).toNat:Int));rw[Nat.mul_one,aw3,List.getElem?_replicate,if_pos aF];rfl
   .simp only[cw,gC,dY,c7,bn.ef]
  .exact h.elim
 .exact h.elim
theorem Ff {w:World} {e s n:Nat} {v:Value} {cs:List Value} (h:w.ownsRow 0 e s v n cs): ∃pl:bn,pl.ef=v/\ ∀b,v.ownBlock=some b->b=pl.bk:=by
 rcases h.2 with⟨rfl,_⟩ |⟨g,cap,c9,rfl,_⟩
 .exact⟨⟨0,none,0,0⟩,rfl,fun b O=>by cases O⟩
 .exact⟨⟨g,some ⟨g,0,none⟩,n,cap⟩,rfl,fun b O=>by simp[Value.ownBlock] at O;exact O.symm⟩
theorem ZF (bl:ec P aS) {T:TypeId} {x y:Operand} {c:Call} {e:Nat} {te:ca} {u:bz} (ah:o.op= .call c) (dL:c.callee= .builtin .append) (dS:c.args.toList=[x,y]) (k':c.argTypes.toList=[T,T]) (U:elemOf aS T=some (e,te)) (a6:te.u=some u)
  {a:Act} {w:World} {v:Value} {n m:Nat} {cs e0:List Value} {D:Nat->Prop} (hx:a.eval x=v) (dw:w.ownsRow 0 e (aQ u) v n cs) (E:fC D w (aQ u) (a.eval y) m e0) (af: ∀x∈e0,x.oneCell'=true) (hn:n+m<=4294967296):
  ∃df w',(execOp a.eval o).run P w= .ok (.value df) w'/\w'.ownsRow 0 e (aQ u) df (n+m) (cs++e0)/\w.grownBy w' v.ownBlock/\(df.ownBlock=v.ownBlock\/df.ownBlock=some w.heap.size):=by
 obtain⟨b6,c8,ds,bv⟩:=pz bl U;obtain⟨aB,aN,mH⟩:=bv.zero;have cC:aQ u=c8.size:=(bv.u u a6).trans bv.size.symm
 have nL:aB.cells.size=c8.size:=by
  have E:=cc.length _ _ (vW (ρ:=fun _=>⟨0,none,0,0⟩) (I:=fun _=>False) (w:=w) _ _ mH).1;simp at E;rw[E,bv.Jl,bv.size]
 have k9:0 < c8.size:=by have:=bv.pos;have:=bv.size;omega
 have uf:(n+m)*c8.bytes<=140737488355328:=by
  have E:c8.bytes<=32768:=by rw[bv.bytes];exact bv.Pw
  exact aw2 (av1 hn E) ay5
 obtain⟨df,w',dN,g1,g2,cX⟩:=IE (P:=P) w 0 T o.type e c8 aB (aQ u) c8.bytes b6 bv.jY aN cC.symm rfl (by rw[nL,cC]) (by rw[cC];exact k9) v n cs dw D (a.eval y) m e0 E af aA9 uf (aq8 _);refine⟨df,w',?_,g1,g2,cX⟩;have e9:c.args= #[x,y]:=au7.1 dS;have iV:c.argTypes= #[T,T]:=au7.1 k';obtain⟨rb,args,cv⟩:=c;simp only at dL e9 iV;subst dL e9 iV;unfold execOp;simp only[ah,resolve,invoke,builtin,Sem.run_bind,Sem.run_pure,Result.andThen_ok,List.map_toArray,ar4,ax6,hx,dN]
theorem ZG {I:Nat->Prop} {w:World} {u:bz} {xs:List (Z u)} {cs:List Value} (ak:cs.length=xs.length*aQ u) (h:gR I w u xs cs): ∀v∈cs,v.oneCell'=true:=fun v ay=>by
 obtain⟨k,aa,rfl⟩:=aw0 ay;obtain⟨ae,ao,bm⟩:=Ey (show k < xs.length*aQ u by omega);obtain⟨df,E,G⟩:=cu.one u _ _ (h (k/aQ u) _ (oj ae)) (k % aQ u) ao;rw[bm,oj aa] at E;injection E with E
 rw[E];exact G
theorem P0 (bl:ec P aS) {T:TypeId} {x y:Operand} {c:Call} {e:Nat} {te:ca} {u:bz} (ah:o.op= .call c) (dL:c.callee= .builtin .append) (dS:c.args.toList=[x,y]) (k':c.argTypes.toList=[T,T]) (U:elemOf aS T=some (e,te)) (a6:te.u=some u)
  {a:Act} {w:World} {v:Value} {n:Nat} {cs:List Value} {I:Nat->Prop} {ys:List (Z u)} (hx:a.eval x=v) (dw:w.ownsRow 0 e (aQ u) v n cs) (aD:cu I w (.b' u) ys (fun _=>some (a.eval y))) (a8: ∀b,I b->b < w.heap.size) (hn:n+ys.length<=4294967296):
  ∃df w' e0,(execOp a.eval o).run P w= .ok (.value df) w'/\w'.ownsRow 0 e (aQ u) df (n+ys.length) (cs++e0)/\gR I w u ys e0/\w.grownBy w' v.ownBlock/\(df.ownBlock=v.ownBlock\/df.ownBlock=some w.heap.size):=by
 obtain⟨b6,c8,ds,bv⟩:=pz bl U;obtain⟨aB,aN,mH⟩:=bv.zero;obtain⟨e0,E,G,af⟩:=PL aD a8;have cC:aQ u=c8.size:=(bv.u u a6).trans bv.size.symm
 have nL:aB.cells.size=c8.size:=by
  have E:=cc.length _ _ (vW (ρ:=fun _=>⟨0,none,0,0⟩) (I:=fun _=>False) (w:=w) _ _ mH).1;simp at E;rw[E,bv.Jl,bv.size]
 have k9:0 < c8.size:=by have:=bv.pos;have:=bv.size;omega
 have uf:(n+ys.length)*c8.bytes<=140737488355328:=by
  have E:c8.bytes<=32768:=by rw[bv.bytes];exact bv.Pw
  exact aw2 (av1 hn E) ay5
 obtain⟨df,w',dN,g1,g2,cX⟩:=IE (P:=P) w 0 T o.type e c8 aB (aQ u) c8.bytes b6 bv.jY aN cC.symm rfl (by rw[nL,cC]) (by rw[cC];exact k9) v n cs dw I (a.eval y) ys.length e0 E af aA9 uf (aq8 _);refine⟨df,w',e0,?_,g1,G,g2,cX⟩;have e9:c.args= #[x,y]:=au7.1 dS;have iV:c.argTypes= #[T,T]:=au7.1 k';obtain⟨rb,args,cv⟩:=c;simp only at dL e9 iV;subst dL e9 iV;unfold execOp;simp only[ah,resolve,invoke,builtin,Sem.run_bind,Sem.run_pure,Result.andThen_ok,List.map_toArray,ar4,ax6,hx,dN]
theorem Mem.move {C:fg} {ρ:Nat->bn} {F:Nat->Nat->Prop} {w w':World} (h:Mem ids C B ρ F w) {c d:Nat} {cz ch:ba} (J:ag B c=some cz) (hf:g6 ids K B d=true) (cy:cS (F c) w w') (pl:bn) (ce:Nat->Prop) (k5: ∀b,ce b->(F c b\/w.heap.size<=b)/\b < w'.heap.size)
  (cZ: ∀I,cm (bX C B F w) w I w'->(∀b,I b->b < w'.heap.size/\ ¬ce b)->Holds (da ρ d pl) I ce w' pl ch):
  Mem ids C ((d,ch)::gS B c) (da ρ d pl) (da F d ce) w'/\cm (bX C B F w) w (bX C ((d,ch)::gS B c) (da F d ce) w') w':=by
 obtain⟨ib,jC,f3,px⟩:=k4 hf;have xA:d≠c:=fun e=>by subst e;rw[jC] at J;cases J
 refine h.step (fun i=>i=d\/i=c) (fun i=>i=d) (cy.mono fun b _ O=>⟨c,cz,J,.inr rfl,O⟩) ?_ (fun i aF=>dh _ _ aF) (fun i aF=>dh _ _ (fun e=>aF (.inl e))) (fun i aF e=>px (e▸aF)) (fun _ h=>.inl h) ?_ ?_ ?_ ?_
 .intro i ch' aF a7;rw[cd,if_neg (fun e=>a7 (.inl e.symm)),hA] at aF
  split at aF
  .cases aF
  .exact aF
 .rintro i ch' aF _ j U rfl;rw[f3 i ch' aF] at U
  cases U
 .rintro i ch' aF aj U;rw[cd] at aF
  split at aF
  .rename_i e;subst e;injection aF with aF
   subst aF;rw[c7,c7];exact cZ _ U fun b dp=>⟨dp.1,fun aZ=>dp.2.2 d ch aA1 (by rw[c7];exact aZ)⟩
  .rename_i e;rcases aj with rfl |rfl
   .exact absurd rfl e
   .rw[hA,if_pos rfl] at aF;cases aF
 .rintro i ch' aF aj b aZ;rcases aj with rfl |rfl
  .rw[c7] at aZ;obtain⟨E,G⟩:=k5 b aZ;exact⟨G,E.imp (fun h=>⟨c,cz,J,.inr rfl,h⟩) id⟩
  .rw[cd,if_neg xA,hA,if_pos rfl] at aF;cases aF
 .rintro i j i4 oR b aF V ZH ZI a7
  have q: ∀i ch',ag ((d,ch)::gS B c) i=some ch'->(i=d\/i=c)->i=d:=fun i ch' aF aj=>by
   rcases aj with rfl |rfl
   .rfl
   .rw[cd,if_neg xA,hA,if_pos rfl] at aF;cases aF
  exact absurd ((q i i4 aF ZH).trans (q j oR V ZI).symm) a7
theorem JC {w w':World} {r:Option Nat} {S:Nat->Prop} (h:w.grownBy w' r) (ar: ∀b,r=some b->S b):cS S w w':=O5 h ar
theorem ZJ (bl:ec P aS) {T:TypeId} {x y:Operand} {c:Call} (ah:o.op= .call c) (dL:c.callee= .builtin .append) (dS:c.args.toList=[x,y]) (k':c.argTypes.toList=[T,T])
  (h:I6 aS T (a2 K x) (a2 K y) o.dst ids K B k):cH P N ids o K B k:=by
 have mem: ∀aB∈ [x,y],aB∈o.op.operands:=fun aB aN=>by
  rw[ah];simp only[Op.operands,Call.operands,Array.mem_append];exact .inr (Array.mem_toList_iff.1 (by rw[dS];exact aN))
 have m1:=mem x ay6;have m2:=mem y ay6;unfold I6 at h
 split at h
 .rename_i e te d U H
  split at h
  .rename_i u v ys a6 aD
   split at h
   .rename_i sk _;subst sk
    split at h
    .rename_i hx;obtain⟨bV,cy,h⟩:=h;refine cH.bb h cy <| bA.make (fun d h=>BS h) fun K' B' g1 g2 C ρ F a w aj ar hn=>?_
     obtain⟨df,w',e0,dN,cj,cT,eg,eR⟩:=P0 bl ah dL dS k' U a6 (ar.dK ((g1 x m1).trans hx)) (World.ownsRow_nil w 0 e (aQ v)) (ar.co ((g1 y m2).trans aD)) (fun b O=>O.1) ay4;obtain⟨pl,hl,jh⟩:=Ff cj;have O:Below w.heap.size w w':=⟨eg.os,eg.tape,eg.output,eg.size,fun b O=>eg.block b O (by simp[Value.ownBlock])⟩
     have ZK: ∀b,df.ownBlock=some b->w.heap.size<=b/\b < w'.heap.size:=fun b dp=>by
      have:=cj.lt b dp;rcases eR with eR |eR
      .rw[eR] at dp;cases dp
      .rw[eR] at dp;injection dp with dp;omega
     refine⟨df,w',pl,fun b=>df.ownBlock=some b,dN,O,ZK,fun I gW a8=>⟨⟨fun b=>by rw[hl],fun b O=>jh b (by rwa[hl] at O),e0,?_,?_⟩,?_⟩⟩
     .rw[hl];have:=cj;rw[au1,ay0] at this;exact this
     .exact gR.mono gW cT
     .simp only[cw,gC,dY,c7,hl]
    .rename_i l9 hx
     split at h
     .rename_i b7 tf xs ak
      split at h
      .rename_i JD sl _;have sl:=aq6 sl;subst JD sl;obtain⟨bV,cy,h⟩:=h;refine cH.bb h cy ?_;rintro K' B' g1 g2 cX C a w ⟨re,tp,ρ,F,aj,ar⟩ bt fJ Q cV;have gf:ag B' l9=_:=(g2 l9 ay6).trans ak;have hf:=cX d ay6;have oX:=k4 hf;have bf:=aj.holds l9 _ gf;obtain⟨bh,i6,cs,dw,ji⟩:=bf;obtain⟨df,w',e0,dN,cj,cT,eg,eR⟩:=P0 bl ah dL dS k' U a6 (ar.own ((g1 x m1).trans hx)) dw (ar.co ((g1 y m2).trans aD)) (fun b O=>O.1) (by have:(nO rfl xs).length=xs.length:=rfl;omega);obtain⟨pl,hl,jh⟩:=Ff cj
       obtain⟨bI,gW⟩:=aj.move (K:=K') (ch:=.row b7 tf (nO rfl xs++nO rfl ys)) gf hf (JC eg fun b O=>(bh b).2 O) pl (fun b=>df.ownBlock=some b) (fun b O=>⟨by
         rcases eR with eR |eR
         .exact .inl ((bh b).2 (eR.symm.trans O))
         .rw[eR] at O;injection O with O;exact .inr ay4,(cj.lt b O).2⟩)
        (fun I gW a8=>⟨fun b=>by rw[hl],fun b O=>jh b (by rwa[hl] at O),cs++e0,by rw[hl];simpa[nO] using cj,gR.uq (gR.mono gW ji) (gR.mono gW cT) dw.1⟩)
       unfold Oper.wp;rw[dN,Oper.upon_value];exact cV _ _ ⟨ki.trans re,kj.trans tp,_,_,bI,(ar.mono gW fun s i aF=>dh _ _ (fun e=>by subst e;rw[oX.1 s] at aF;cases aF)).kk (fun e U=>by rw[re];exact bt e U) (by simp only[cw,gC,dY,c7,hl])⟩
      .exact h.elim
     .exact h.elim
    .exact h.elim
   .exact h.elim
  .rename_i u cE a6 aD
   split at h
   .rename_i l9 hx
    split at h
    .rename_i b7 tf xs ao v ys ak qg
     split at h
     .rename_i sk JD a7 sl _ _;have sl:=aq6 sl;subst sk JD sl;obtain⟨bV,cy,h⟩:=h;refine cH.bb h cy ?_;rintro K' B' g1 g2 cX C a w ⟨re,tp,ρ,F,aj,ar⟩ bt fJ Q cV;have gf:ag B' l9=_:=(g2 l9 ay6).trans ak;have ZL:ag B' cE=_:=(g2 cE ay6).trans qg;have hf:=cX d ay6;have oX:=k4 hf;obtain⟨bh,i6,cs,dw,ji⟩:=aj.holds l9 _ gf;obtain⟨j1,ap2,JE,BU,Fg⟩:=aj.holds cE _ ZL;have hB:=fC.ps BU;rw[<-ar.own ((g1 y m2).trans aD)] at hB;obtain⟨df,w',dN,cj,eg,eR⟩:=ZF bl ah dL dS k' U a6 (ar.own ((g1 x m1).trans hx)) dw hB (ZG BU.1 Fg) (by have:(nO rfl xs).length=xs.length:=rfl;have:(nO rfl ys).length=ys.length:=rfl;omega);obtain⟨pl,hl,jh⟩:=Ff cj
      obtain⟨bI,gW⟩:=aj.move (K:=K') (ch:=.row b7 tf (nO rfl xs++nO rfl ys)) gf hf (JC eg fun b O=>(bh b).2 O) pl (fun b=>df.ownBlock=some b) (fun b O=>⟨by
        rcases eR with eR |eR
        .exact .inl ((bh b).2 (eR.symm.trans O))
        .rw[eR] at O;injection O with O;exact .inr ay4,(cj.lt b O).2⟩)
       (fun I gW a8=>⟨fun b=>by rw[hl],fun b O=>jh b (by rwa[hl] at O),cs++JE,by rw[hl];simpa[nO] using cj,gR.uq (gR.mono gW ji) (gR.mono gW Fg) dw.1⟩)
      unfold Oper.wp;rw[dN,Oper.upon_value];exact cV _ _ ⟨ki.trans re,kj.trans tp,_,_,bI,(ar.mono gW fun s i aF=>dh _ _ (fun e=>by subst e;rw[oX.1 s] at aF;cases aF)).kk (fun e U=>by rw[re];exact bt e U) (by simp only[cw,gC,dY,c7,hl])⟩
     .exact h.elim
    .exact h.elim
   .exact h.elim
  .exact h.elim
 .exact h.elim
theorem P1 (s:aC3):Go.Lib.strCells ⟨s.toArray⟩=s.map hj:=by simp[Go.Lib.strCells,hj]
theorem ZM {w:World} {T eJ ty e:TypeId} {i:TypeInfo} (b6:P.underlying T=some (.slice e)) (a6:P.underlying eJ=some .string) (aF:P.info? e=some i) (aN:i.zero=some (.int .u8 0)) (aw:i.size=1) (O:i.bytes=1)
  {v:Value} {n:Nat} {cs:List Value} (dw:w.ownsRow 0 e 1 v n cs) (s:aC3) (hn:n+s.length<=4294967296):
  ∃df w',(Builtin.append_ #[T,eJ] ty #[v,.string ⟨s.toArray⟩]).run P w= .ok df w'/\w'.ownsRow 0 e 1 df (n+s.length) (cs++s.map hj)/\w.grownBy w' v.ownBlock/\ ∀b,df.ownBlock=some b->v.ownBlock=some b\/w.heap.size<=b:=by
 have cC:(⟨s.toArray⟩:ByteArray).size=s.length:=xv s;rcases dw.2 with⟨rfl,rfl⟩ |⟨g,cap,c9,rfl,-,aZ,Ev,zx,e8,nb⟩
 .have ZN:cs=[]:=at9 (by simpa using dw.1);subst ZN;obtain⟨df,w',ax,G,af,_⟩:=Go.Lib.run_append_own_string (P:=P) w w.heap.size T eJ ty e i b6 a6 aF aN aw O (.slice none 0 0) 0 [] (World.ownsRow_nil w w.heap.size e 1) ⟨s.toArray⟩ (by rw[cC];simp only[maxLen];omega) aB0 (aq0 _);rw[cC,P1] at G;refine⟨df,w',ax,⟨G.1,?_⟩,af,fun b O=>.inr ?_⟩
  .rcases G.2 with h |⟨g,cap,c9,ay,_,r⟩
   .exact .inl h
   .exact .inr ⟨g,cap,c9,ay,aq8 _,r⟩
  .rcases G.2 with⟨h,_⟩ |⟨g,cap,c9,ay,vO,r⟩
   .rw[h] at O;cases O
   .rw[ay] at O;simp[Value.ownBlock] at O;omega
 .obtain⟨df,w',ax,G,af,_⟩:=Go.Lib.run_append_own_string (P:=P) w 0 T eJ ty e i b6 a6 aF aN aw O (.slice (some ⟨g,0,none⟩) n cap) n cs dw ⟨s.toArray⟩ (by rw[cC];simp only[maxLen];omega) aB0 (aq8 _);have vZ:cs.length=n:=by simpa using dw.1
  refine⟨df,w',ax,by rw[cC,P1] at G;exact G,af,fun b dp=>?_⟩
  by_cases BV:n+(⟨s.toArray⟩:ByteArray).size<=cap
  .have sm:=Go.Lib.run_append_room_string (P:=P) w T eJ ty e i b6 a6 aF aw g n cap c9 aZ ⟨s.toArray⟩ BV ay4;rw[ax] at sm;injection sm with ae ao
   rw[ae] at dp;exact .inl dp
  .have holds: ∀j u,cs[j]? =some u->w.cell? ((⟨g,0,none⟩:Addr).add j)=some u:=dw.cells (g:=g) rfl;have sm:=Go.Lib.run_append_grow_string (P:=P) w T eJ ty e i (.int .u8 0) b6 a6 aF aN ⟨g,0,none⟩ n cap cs (by rw[aw];simpa using vZ) holds ⟨s.toArray⟩ ay4 aB0 (by rw[O];exact growslice_fits ay4 (by rw[cC];omega));rw[ax] at sm;injection sm with ae ao
   rw[ae] at dp;simp[Value.ownBlock] at dp;exact .inr ay4
theorem ZO (I:Nat->Prop) (w:World) (xs:aC3):gR I w .u8 xs (xs.map hj):=fun i x hx=>by
 show(xs.map hj)[i*1+0]? =_;rw[Nat.mul_one,aw3,as0,show xs[i]? =some x from hx];rfl
theorem ZP (bl:ec P aS) {T eJ:TypeId} {x y:Operand} {c:Call} (ah:o.op= .call c) (dL:c.callee= .builtin .append) (dS:c.args.toList=[x,y]) (k':c.argTypes.toList=[T,eJ])
  (h:I7 aS T eJ (a2 K x) (a2 K y) o.dst ids K B k):cH P N ids o K B k:=by
 have mem: ∀aB∈ [x,y],aB∈o.op.operands:=fun aB aN=>by
  rw[ah];simp only[Op.operands,Call.operands,Array.mem_append];exact .inr (Array.mem_toList_iff.1 (by rw[dS];exact aN))
 have m1:=mem x ay6;have m2:=mem y ay6;unfold I7 at h
 split at h
 .rename_i e te d U ZQ H
  split at h
  .rename_i l9 s hx aD
   split at h
   .rename_i b7 xs ra ak
    split at h
    .rename_i sl;have sl:=aq6 sl;subst sl;obtain⟨bV,cy,h⟩:=h;obtain⟨b6,c8,ds,bv⟩:=pz bl U;obtain⟨ZR,ZS⟩:=xx bl ra;have en:=E' bl ZQ;refine cH.bb h cy ?_;rintro K' B' g1 g2 cX C a w ⟨re,tp,ρ,F,aj,ar⟩ bt fJ Q cV;have gf:ag B' l9=_:=(g2 l9 ay6).trans ak;have hf:=cX d ay6;have oX:=k4 hf;have bf:=aj.holds l9 _ gf;obtain⟨bh,i6,cs,dw,ji⟩:=bf;obtain⟨ti,oW,jj,nV,ts,fS,hm⟩:=ZS;obtain⟨aB,aN,vY⟩:=PZ nV ts
     have rc:aB= .int .u8 0:=by
      have E:=nV.Px aB aN (by have:=nV.nS;rw[ZR] at this;injection this with this;rw[<-this]);rw[E] at vY;simpa using vY
     rw[rc] at aN;obtain⟨df,w',dN,cj,eg,eR⟩:=ZM (P:=P) (w:=w) (T:=T) (eJ:=eJ) (ty:=o.type) b6 en nV.jY aN (nV.size.trans fS) (nV.bytes.trans hm) (show w.ownsRow 0 b7 1 (ρ l9).ef (List.length (α:=UInt8) xs) cs from dw) s bV;obtain⟨pl,hl,jh⟩:=Ff cj
     obtain⟨bI,gW⟩:=aj.move (K:=K') (ch:=.row b7 .u8 (List.append (α:=UInt8) xs s)) gf hf (JC eg fun b O=>(bh b).2 O) pl (fun b=>df.ownBlock=some b) (fun b O=>⟨by
       rcases eR b O with eR |eR
       .exact .inl ((bh b).2 eR)
       .exact .inr eR,(cj.lt b O).2⟩)
      (fun I gW a8=>⟨fun b=>by rw[hl],fun b O=>jh b (by rwa[hl] at O),cs++s.map hj,by
       rw[hl];have:List.length (α:=Z .u8) (List.append (α:=UInt8) xs s)=List.length (α:=UInt8) xs+s.length:=aq1;rw[this];exact cj,gR.uq (u:=.u8) (gR.mono gW ji) (ZO _ _ s) dw.1⟩)
     have e9:c.args= #[x,y]:=au7.1 dS;have iV:c.argTypes= #[T,eJ]:=au7.1 k';obtain⟨rb,args,cv⟩:=c;simp only at dL e9 iV;subst dL e9 iV;have dO:=ar.own ((g1 x m1).trans hx);have d':=ar.str ((g1 y m2).trans aD)
     have ux:(execOp a.eval o).run P w= .ok (.value df) w':=by
      unfold execOp;simp only[ah,resolve,invoke,builtin,Sem.run_bind,Sem.run_pure,Result.andThen_ok,List.map_toArray,ar4,ax6,dO,d',dN]
     unfold Oper.wp;rw[ux,Oper.upon_value];exact cV _ _ ⟨ki.trans re,kj.trans tp,_,_,bI,(ar.mono gW fun s i aF=>dh _ _ (fun e=>by subst e;rw[oX.1 s] at aF;cases aF)).kk (fun e U=>by rw[re];exact bt e U) (by simp only[cw,gC,dY,c7,hl])⟩
    .exact h.elim
   .exact h.elim
  .exact h.elim
 .exact h.elim
end
end
section
section
variable {P:Program} {aS:dg} {N:Nat} {ids:aC4} {o:Oper} {K:aY} {B:az} {k:aP->fP->Prop}
theorem ZT {α:Type} (c9 ys:List α) (off N:Nat) (h:off+ys.length<=N) (G:N<=c9.length):(c9.take off++ys++c9.drop (off+ys.length)).take N=(c9.take N).take off++ys++(c9.take N).drop (off+ys.length):=by
 rw[List.take_append,at2 az8,List.take_take,Nat.min_eq_left ay4,List.drop_take]
 congr 2
 simp;omega
theorem P2 {w:World} {dT sT ty e:TypeId} (a6:P.underlying dT=some (.slice e)) (cC:(P.info? e).map (·.size)=some 1) {v:Value} {M off n dCap m:Nat} {cs ys:List Value} {nT:Option Addr} {h9:Value} {D:Nat->Prop} {b7:TypeId}
  (dw:w.ownsRow 0 b7 1 v M cs) (H:0 < n-> ∀g cap,v= .slice (some ⟨g,0,none⟩) M cap->M<=cap->nT=some ⟨g,off,none⟩) (kl:off+n<=M) (hB:fC D w 1 h9 m ys) (E: ∀v∈ys,v.oneCell'=true):
  ∃x w',(Builtin.copy_ #[dT,sT] ty #[.slice nT n dCap,h9]).run P w= .ok x w'/\cS (fun b=>v.ownBlock=some b) w w'/\w'.ownsRow 0 b7 1 v M (cs.take off++ys.take n++cs.drop (off+(ys.take n).length)):=by
 obtain⟨sp,Ew,rfl,ak,k9⟩:=Yg hB n;have g8:(ys.take n).length<=n:=by rw[aq9];exact Nat.min_le_left _ _
 by_cases au:(ys.take n).length=0
 .refine⟨_,w,run_copy_none (P:=P) w dT sT ty e nT sp n dCap m Ew a6 cC (by rw[<-ak];exact au),cS.refl _ _,?_⟩;rw[at9 au];simpa using dw
 .obtain⟨ad,rfl,ZU⟩:=k9 ay4;obtain⟨bV,dw⟩:=dw;rcases dw with⟨_,aj⟩ |⟨g,cap,c9,ay,O,aZ,dL,dS,k',P3⟩
  .omega
  .obtain rfl:=H ay4 g cap ay dL;have P4:c9.toList.length=cap:=by simpa using k'
   rw[Nat.mul_one] at P3 bV;refine⟨_,_,run_copy_row (P:=P) w dT sT ty e g off n dCap ad m Ew c9 b7 (ys.take n) a6 cC aZ ak ZU (by rw[<-Array.length_toList];omega) (fun v ay=>E v (List.mem_of_mem_take ay)),E7 (by rw[ay];rfl),?_⟩;refine⟨by simp only[aq1,aq9,au9,Nat.mul_one] at*;omega,.inr ⟨g,cap,_,ay,O,setRow_heap w g _ _ b7 _ aZ,dL,dS,by simp only[List.size_toArray,aq1,aq9,au9,Nat.mul_one] at*;omega,?_⟩⟩;rw[Nat.mul_one];show List.take M (c9.toList.take off++ys.take n++c9.toList.drop (off+(ys.take n).length))=_;rw[ZT _ _ _ _ ay4 ay4,P3]
theorem Fh (xs ys:aC3) {off n:Nat} (h:off+n<=xs.length):(laid xs off n ys).length=xs.length:=by
 simp only[laid,aq1,aq9,au9];omega
theorem P5 (xs ys:aC3) (off n:Nat):List.take off (xs.map hj)++List.take n (ys.map hj)++List.drop (off+(List.take n (ys.map hj)).length) (xs.map hj)=(laid xs off n ys).map hj:=by
 simp only[laid,au0,List.map_take,List.map_drop,aq9,ar1]
theorem JF {I:Nat->Prop} {w:World} {xs:aC3} {cs:List Value} (h:gR I w .u8 xs cs) (ak:cs.length=xs.length):cs=xs.map hj:=by
 refine List.ext_getElem? fun i=>?_
 rw[as0]
 cases hx:xs[i]? with
 |none=>
  have:=List.getElem?_eq_none_iff.1 hx;rw[List.getElem?_eq_none_iff.2 ay4];rfl
 |some x=>
  have G:=h i x hx;simpa[cu,aQ,hj] using G
theorem P6 (I:Nat->Prop) (w:World) (xs:aC3):gR I w .u8 xs (xs.map hj):=fun i x hx=>by
 have hx:xs[i]? =some x:=hx;simp[cu,aQ,hx];rfl
theorem ZV {I:Nat->Prop} {w:World} {v:Value} {l:aC3} (a8: ∀b,I b->b < w.heap.size) (h:cu I w (.b' .u8) l (fun _=>some v)):fC I w 1 v l.length (l.map hj):=by
 obtain⟨A,cap,au,E,G,af⟩:=h;injection au with au
 refine⟨ay6,A,cap,au,E,G,fun ai=>?_⟩;obtain⟨b,o,eQ,O,hx⟩:=af ai;refine⟨b,o,eQ,O,a8 b O,fun j u a6=>?_⟩;rw[as0] at a6;obtain⟨x,BW,rfl⟩:=at3.1 a6;have:=hx j x BW;simpa[cu,aQ,hj] using this
theorem bA.ZW {c:Nat} {cz ch:ba} (J:ag B c=some cz)
  (h: ∀(K':aY) (B':az),(∀x,x∈o.op.operands->a2 K' x=a2 K x)-> ∀(C:fg) (ρ:Nat->bn) (F:Nat->Nat->Prop) (a:Act) (w:World),Mem ids C B' ρ F w->eq K' ρ (bX C B' F w) a w->ag B' c=some cz-> ∃x w',(execOp a.eval o).run P w= .ok (.value x) w'/\cS (F c) w w'/\
   (∀I,cm (bX C B' F w) w I w'->Holds ρ I (F c) w' (ρ c) ch)):
  bA P N ids o K B (.c (.one .any)) ⟨[c],[],[(c,some ch)]⟩:=by
 rintro K' B' E G - C a w ⟨hn,H,ρ,F,aj,ar⟩ bt fJ Q cV;have cK:ag B' c=some cz:=(G c ay6).trans J;obtain⟨x,w',hx,cy,cZ⟩:=h K' B' E C ρ F a w aj ar cK;obtain⟨bI,U⟩:=aj.hI cK cy cZ;unfold Oper.wp;rw[hx,Oper.upon_value];exact cV _ _ ⟨ki.trans hn,kj.trans H,ρ,F,bI,(ar.mono U fun _ _ _=>rfl).kk (fun e U=>by rw[hn];exact bt e U) trivial⟩
theorem P7 (bl:ec P aS) {T eJ e:TypeId} {te:ca} {x y:Operand} {c:Call} {d off n:Nat} {ys:aC3} (ah:o.op= .call c) (dL:c.callee= .builtin .copy) (dS:c.args.toList=[x,y]) (k':c.argTypes.toList=[T,eJ]) (U:elemOf aS T=some (e,te)) (iu:q7 aS e=true) (aD:a2 K y= .c (.one (.d (.co .u8 ys))))
  (hx: ∀(K':aY) (ρ:Nat->bn) (I:Nat->Prop) (a:Act) (w:World),eq K' ρ I a w->a2 K' x=a2 K x-> ∀(M:Nat),(ρ d).n=M->(∀e xs,ag B d=some (.row e .u8 xs)->List.length xs=M)->off+n<=M-> ∃nT dCap,a.eval x= .slice nT n dCap/\(0 < n-> ∀g cap,(ρ d).ef= .slice (some ⟨g,0,none⟩) M cap->M<=cap->nT=some ⟨g,off,none⟩))
  (h:ET d off n ys B k):cH P N ids o K B k:=by
 have e9:c.args= #[x,y]:=au7.1 dS;have iV:c.argTypes= #[T,eJ]:=au7.1 k';obtain⟨rb,args,cv⟩:=c;simp only at dL e9 iV;subst dL e9 iV;have m1:x∈o.op.operands:=az5
 have m2:y∈o.op.operands:=az5
 obtain⟨a6,c8,ds,bv⟩:=pz bl U;obtain⟨_,ap3,i8,d8,P8,_,ZX,_⟩:=xx bl iu;have cC:(P.info? e).map (·.size)=some 1:=by rw[P8.jY];simp[P8.size,ZX]
 unfold ET at h
 split at h
 .rename_i b7 xs ak;obtain⟨kl,h⟩:=h;refine cH.of h <| bA.ZW ak fun K' B' E C ρ F a w aj ar gf=>?_
  obtain⟨bh,jh,cs,dw,ji⟩:=aj.holds d _ gf;have E9:=dw;obtain⟨dH,A,cap,ay,_,_,_⟩:=fC.ps E9;have hn:(ρ d).n=xs.length:=by unfold bn.ef at ay;injection ay
  have e8:cs=xs.map hj:=JF ji (by have:=dH;simp[aQ] at this;exact this);obtain⟨nT,dCap,JG,qi⟩:=hx K' ρ _ a w ar (E x m1) _ hn (fun ao ap4 G=>by rw[ak] at G;cases G;rfl) kl;have Fi:=ZV (fun b O=>O.1) (ar.co ((E y m2).trans aD));obtain⟨r,w',dN,cy,fK⟩:=P2 (P:=P) (w:=w) (dT:=T) (sT:=eJ) (ty:=o.type) a6 cC (dCap:=dCap) dw qi kl Fi (IF _);refine⟨r,w',?_,cy.mono fun b _ O=>(bh b).2 O,fun I a1=>⟨bh,jh,List.take off cs++List.take n (List.map hj ys)++List.drop (off+(List.take n (List.map hj ys)).length) cs,?_,?_⟩⟩
  .simp[execOp,ah,resolve,invoke,builtin,JG,dN]
  .have bm:List.length (α:=Z .u8) (laid xs off n ys)=List.length (α:=Z .u8) xs:=Fh xs ys kl;show w'.ownsRow 0 b7 1 (ρ d).ef (List.length (α:=Z .u8) (laid xs off n ys)) _;rw[bm];exact fK
  .rw[e8];have ae:=P5 xs ys off n;rw[ae];exact P6 I w' _
 .exact h.elim
theorem ZY (bl:ec P aS) {T eJ:TypeId} {x y:Operand} {c:Call} (ah:o.op= .call c) (dL:c.callee= .builtin .copy) (dS:c.args.toList=[x,y]) (k':c.argTypes.toList=[T,eJ]) (h:Jf aS T (a2 K x) (a2 K y) B k):cH P N ids o K B k:=by
 unfold Jf at h
 split at h
 .rename_i e te U
  split at h
  .rename_i ys iu aD
   split at h
   .rename_i d hx
    split at h
    .rename_i b7 xs ak;refine P7 bl ah dL dS k' U iu aD (fun K' ρ I a w ar aa M aj sn kl=>⟨(ρ d).A,(ρ d).cap,?_,fun ai g cap ay _=>?_⟩) h
     .have:=ar.own (aa.trans hx);rw[this,sn b7 xs ak,<-aj];rfl
     .unfold bn.ef at ay;injection ay
    .exact h.elim
   .rename_i d s off n hx
    split at h
    .rename_i aw;have:=aq6 aw;subst this;refine P7 bl ah dL dS k' U iu aD (fun K' ρ I a w ar aa M aj sn kl=>⟨_,_,ar.os (aa.trans hx),fun ai g cap ay ZZ=>?_⟩) h;unfold bn.ef at ay;injection ay with ae ao bm
     rw[if_neg ay4,ae,av4,pr];simp
    .exact h.elim
   .exact h.elim
  .exact h.elim
 .exact h.elim
end
end
section
section
variable {P:Program} {aS:dg} {N:Nat} {ids:aC4} {o:Oper} {K:aY} {B:az} {k:aP->fP->Prop}
theorem kI: ∀{aJ:az} {B:az},k2 B aJ-> ∀{c ch},ag aJ c=some ch->ag B c=some ch
 | [],B,h,c,ch,J=>by cases J
 |(d,x)::aJ,B,h,c,ch,J=>by
  rw[cd] at J
  split at J
  .rename_i e;subst e;injection J with J
   subst J;exact h.1
  .exact kI h.2 J
theorem gv: ∀{B:az} {c:Nat},c∈cr B↔ ∃ch,ag B c=some ch
 | [],c=>by simp[cr,ag]
 |(d,x)::B,c=>by
  simp only[cr,aq5,cd]
  by_cases e:d=c
  .subst e;simp
  .rw[if_neg e];constructor
   .rintro(h |h)
    .exact absurd h.symm e
    .exact gv.1 h
   .exact fun h=>.inr (gv.2 h)
theorem JH: ∀{aJ:az} {bb:aC4} {aO:az},mF aJ bb aO=true-> ∀{c},c∈cr aO->c∈cr aJ\/c∈bb
 |aJ,bb,[],h,c,J=>by simp[cr] at J
 |aJ,bb,(d,x)::aO,h,c,J=>by
  simp only[mF,vj,av5,as7] at h;rcases aq5.1 J with rfl |J
  .exact h.1.1
  .exact JH h.2 J
theorem P9: ∀(aO:az) (aJ:az) (bb:aC4) (B:az),mF aJ bb aO=true-> ∀c,ag (hk (iI [] aO) B) c=(match ag aO c with |some ch=>some ch |none=>ag B c)
 | [],_,_,B,_,c=>by simp[iI,I0,hk,ag]
 |(d,x)::aO,aJ,bb,B,h,c=>by
  simp only[mF,vj,Bool.not_eq_true'] at h;show ag (hk (iI [] aO) ((d,x)::B)) c=_;rw[P9 aO aJ bb ((d,x)::B) h.2 c,cd,cd]
  by_cases e:d=c
  .subst e
   have hn:ag aO d=none:=by
    cases ak:ag aO d with
    |none=>rfl
    |some ch=>
     have:=gv.2 ⟨ch,ak⟩;have G:=h.1.2;rw[<-ay3,as7] at G;exact absurd this G
   rw[hn,if_pos rfl,if_pos rfl]
  .rw[if_neg e,if_neg e]
theorem Fj: ∀(aJ:az) (nc:az) (bb:aC4) (aO B:az),mF nc bb aO=true-> ∀c,ag (hk (iI aJ aO) B) c=(match ag aO c with |some ch=>some ch |none=>if c∈cr aJ then none else ag B c)
 | [],nc,bb,aO,B,h,c=>by
  rw[P9 aO nc bb B h c];simp[cr]
 |(d,x)::aJ,nc,bb,aO,B,h,c=>by
  simp only[iI,hk];rw[Fj aJ nc bb aO (gS B d) h c,hA]
  cases ag aO c with
  |some ch=>rfl
  |none=>
   simp only[cr,aq5]
   by_cases e:d=c
   .subst e;simp
   .by_cases ao:c∈cr aJ
    .simp[ao]
    .simp[e,ao,Ne.symm e]
theorem Fk: ∀{bb:aC4},se ids K B bb=true-> ∀c,c∈bb->g6 ids K B c=true
 | [],_,c,J=>by cases J
 |d::bb,h,c,J=>by
  simp only[se,vj] at h;rcases aq5.1 J with rfl |J
  .exact h.1.1
  .exact Fk h.2 c J
theorem P' {ev:Operand->Value} {f:FuncId} {c:Call} {xs:List Operand} {w:World} (hf:jA P f=true) (ah:o.op= .call c) (E:c.callee= .value (.func f)) (G:c.args.toList=xs) (uA:ev (.func f)= .func (.func f) #[] #[]):(execOp ev o).run P w= .ok (.enter f (xs.map ev).toArray) w:=by
 have e9:c.args=xs.toArray:=by rw[<-G]
 obtain⟨rb,args,cv⟩:=c;simp only at E e9;subst E e9;unfold jA at hf
 split at hf
 .rename_i fn ko;simp only[Bool.not_eq_true',au4,beq_eq_false_iff_ne] at hf;have G: ¬fn.body=none:=fun e=>by rw[e] at hf;simp at hf
  simp[execOp,ah,resolve,invoke,uA,Deferred.ofValue,callFunc,go_sem,ko];rw[if_neg hf.1,if_neg G]
 .cases hf
theorem zy {xs:List Operand} (mem: ∀aB∈xs,aB∈o.op.operands) {K':aY} {ρ:Nat->bn} {I:Nat->Prop} {a:Act} {w:World} (g1: ∀x,x∈o.op.operands->a2 K' x=a2 K x) (ar:eq K' ρ I a w) (i:Nat) (v:aP) (x:Value) (ay:(xs.map (a2 K))[i]? =some v) (hx:(xs.map a.eval)[i]? =some x):cw ρ I w v x:=by
 rw[as0] at ay hx
 cases aF:xs[i]? with
 |none=>rw[aF] at ay;cases ay
 |some aB=>
  rw[aF] at ay hx;simp only[av4,aq4] at ay hx;subst ay hx;rw[<-g1 aB (mem aB (au5 aF))];exact ar.get aB
theorem BX {f:FuncId} {args:List aP} {xs:List Operand} (mem: ∀aB∈xs,aB∈o.op.operands)
  (ux: ∀(K':aY) (ρ:Nat->bn) (I:Nat->Prop) (a:Act) (w:World),(∀x,x∈o.op.operands->a2 K' x=a2 K x)->eq K' ρ I a w-> ∃bU:List Value,(jA P f=true->(execOp a.eval o).run P w= .ok (.enter f bU.toArray) w)/\bU.length=args.length/\ ∀(i:Nat) (v:aP) (x:Value),args[i]? =some v->bU[i]? =some x->cw ρ I w v x)
  (h:xm P f args ids K B k):cH P N ids o K B k:=by
 obtain⟨aJ,bb,res,aO,⟨fT,ko⟩,hZ,bv,h⟩:=h;rw[sd] at h;simp only[vj] at bv;have nW:=bv.2;refine⟨_,_,h,?_,Fk bv.1⟩;rintro K' B' g1 g2 cX C a w ⟨hn,H,ρ,F,aj,ar⟩ bt fJ Q cV;have e1: ∀{c ch},ag aJ c=some ch->ag B' c=some ch:=fun {c ch} J=>(g2 c (gv.2 ⟨ch,J⟩)).trans (kI hZ J)
 have oX: ∀c∈bb,(∀s,(dI K' s).has c=false)/\ag B' c=none/\(∀d ch,ag B' d=some ch->ch.has c=false)/\c∉ids:=fun c J=>k4 (cX c J)
 obtain⟨bU,dN,rf,tt⟩:=ux K' ρ _ a w g1 ar
 have J:=ko ρ F (bX C B' F w) w bU (fun b O=>O.1) (fun c ch J=>aj.holds c ch (e1 J)) (fun c ch J b O=>⟨(aj.own c ch (e1 J) b O).1,fun a8=>a8.2.2 c ch (e1 J) O⟩)
  (fun c b9 ch ch' b E G=>aj.fh c b9 ch ch' b (e1 E) (e1 G)) rf tt
 unfold Oper.wp;rw[dN fT,Oper.upon_enter];refine J.mono ?_;rintro e w' ⟨x,ρ',F',rfl,cy,dn,I',jk,gE,cZ,ap,ic,dy⟩;have BY: ∀c,ag (hk (iI aJ aO) B') c=(match ag aO c with |some ch=>some ch |none=>if c∈cr aJ then none else ag B' c):=Fj aJ aJ bb aO B' nW
 have pA: ∀c ch,ag (hk (iI aJ aO) B') c=some ch->ag aO c=some ch\/(ag aO c=none/\c∉cr aJ/\ag B' c=some ch):=fun c ch J=>by
  rw[BY] at J
  cases O:ag aO c with
  |some ch'=>rw[O] at J;exact .inl J
  |none=>
   rw[O] at J;simp only at J
   split at J
   .cases J
   .rename_i aa;exact .inr ⟨rfl,aa,J⟩
 let cN:Nat->Nat->Prop:=fun c=>if c∈cr aO then F' c else F c
 have j1: ∀c ch,ag aO c=some ch->cN c=F' c:=fun c ch J=>if_pos (gv.2 ⟨ch,J⟩)
 have BZ: ∀c,ag aO c=none->cN c=F c:=fun c J=>if_neg (fun aa=>by
  obtain⟨ch,h⟩:=gv.1 aa;rw[J] at h;cases h)
 have kJ: ∀c ch,ag aO c=some ch->c∈cr aJ\/c∈bb:=fun c ch J=>JH nW (gv.2 ⟨ch,J⟩)
 have uB: ∀c ch,ag (hk (iI aJ aO) B') c=some ch->(c∈cr aJ\/c∈bb)->ag aO c=some ch:=fun c ch J bI=>by
  rcases pA c ch J with h |⟨E,G,af⟩
  .exact h
  .rcases bI with h |h
   .exact absurd h G
   .rw[(oX c h).2.1] at af;cases af
 have so:cm I' w' (bX C (hk (iI aJ aO) B') cN w') w':=fun b O=>by
  obtain⟨ae,ao⟩:=gE b O;refine⟨⟨ae,?_,fun c ch J bh=>?_⟩,rfl⟩
  .rcases ao with ao |⟨c,ch,ao,bm⟩ |ao
   .exact ao.2.1
   .exact .inr ((aj.own c ch (e1 ao) b bm).2)
   .exact .inr (.inr (aj.fresh ao))
  .rcases pA c ch J with h |⟨E,G,af⟩
   .rw[j1 c ch h] at bh;exact(ap c ch h b bh).2.1 O
   .rw[BZ c E] at bh;rcases ao with ao |⟨d,ch',ao,bm⟩ |ao
    .exact ao.2.2 c ch af bh
    .exact aj.fh d c ch' ch b (e1 ao) af (fun e=>G (e▸gv.2 ⟨ch',ao⟩)) bm bh
    .have:=(aj.own c ch af b bh).1;omega
 obtain⟨bI,a1⟩:=aj.step (B':=hk (iI aJ aO) B') (ρ':=ρ') (F':=cN) (w':=w') (fun c=>c∈cr aJ\/c∈bb) (fun c=>c∈bb)
  (cy.mono fun b _ ⟨c,ch,E,G⟩=>⟨c,ch,e1 E,.inl (gv.2 ⟨ch,E⟩),G⟩)
  (fun c ch J hn=>by
   rcases pA c ch J with h |⟨_,_,af⟩
   .exact absurd (kJ c ch h) hn
   .exact af)
  dn
  (fun c hn=>by
   cases O:ag aO c with
   |none=>exact BZ c O
   |some ch=>exact absurd (kJ c ch O) hn)
  (fun c J hn=>(oX c hn).2.2.2 J) (fun c h=>.inr h)
  (fun c ch J _ d H hn=>by rw[(oX d hn).2.2.1 c ch J] at H;cases H)
  (fun c ch J bI _=>by
   have O:=uB c ch J bI;rw[j1 c ch O];exact Holds.cp so (fun _ _=>rfl) (aq0 _) ch (fun _ _=>rfl) (cZ c ch O))
  (fun c ch J bI b O=>by
   have xB:=uB c ch J bI;rw[j1 c ch xB] at O;obtain⟨ae,_,bm⟩:=ap c ch xB b O;refine⟨ae,bm.imp (fun⟨gT,cz,E,G⟩=>⟨gT,cz,e1 E,.inl (gv.2 ⟨cz,E⟩),G⟩) id⟩)
  (fun c b9 ch ch' b J cK kJ iW a7 O dp=>by
   have E:=uB c ch J kJ;have G:=uB b9 ch' cK iW;rw[j1 c ch E] at O;rw[j1 b9 ch' G] at dp;exact ic c b9 ch ch' b E G a7 O dp)
 refine cV _ _ ⟨ki.trans hn,kj.trans H,ρ',cN,bI,(ar.mono a1 fun s d H=>dn d fun hn=>by rw[(oX d hn).1 s] at H;cases H).kk (fun e U=>by rw[hn];exact bt e U) (cw.mono so _ _ (fun _ _=>rfl) dy)⟩
theorem Qa {f:FuncId} {c:Call} {xs:List Operand} (ah:o.op= .call c) (E:c.callee= .value (.func f)) (G:c.args.toList=xs) (h:xm P f (xs.map (a2 K)) ids K B k):cH P N ids o K B k:=by
 have mem: ∀aB∈xs,aB∈o.op.operands:=fun aB aN=>by
  rw[ah];simp only[Op.operands,Call.operands,Array.mem_append];exact .inr (Array.mem_toList_iff.1 (by rw[G];exact aN))
 exact BX mem (fun K' ρ I a w g1 ar=>⟨xs.map a.eval,fun fT=>P' fT ah E G rfl,ay6,zy mem g1 ar⟩) h
theorem Qb {ρ:Nat->bn} {I:Nat->Prop} {w:World}: ∀(aE:List aP) (l:List kZ) (us:List Value),xo aE=some l->us.length=aE.length->(∀(i:Nat) (v:aP) (x:Value),aE[i]? =some v->us[i]? =some x->cw ρ I w v x)->hW ρ I w l us
 | [],l,us,h,ak,_=>by
  simp only[xo,aq4] at h;subst h;exact at9 ak
 |v::aE,l,[],h,ak,_=>by simp at ak
 |v::aE,l,u::us,h,ak,H=>by
  have bq:=fun r ax=>Qb aE r us ax aC1 (fun i v x ay hx=>H (i+1) v x aA6 aB9)
  have au:=H 0 v u rfl rfl;unfold xo at h
  split at h
  .rename_i e;simp at e
  .rename_i c o sg e;injection e with ae ao
   subst ae ao
   split at h
   .rename_i r ax;injection h with h
    subst h;exact⟨u,us,rfl,au,bq r ax⟩
   .cases h
  .rename_i x sg e;injection e with ae ao
   subst ae ao
   split at h
   .rename_i r ax;injection h with h
    subst h;exact⟨u,us,rfl,au,bq r ax⟩
   .cases h
  .cases h
theorem Z0 {f:FuncId} {fs cs:Array Operand} (ah:o.op= .makeFunc (.func f) fs cs) (h:match fs.toList,xo (cs.toList.map (a2 K)) with
  | [],some l=>k (.c (.one (.cY f l))) bF
  |_,_=>False):cH P N ids o K B k:=by
 split at h
 .rename_i l v1 ak
  have mem: ∀aB∈cs.toList,aB∈o.op.operands:=fun aB aN=>by
   rw[ah];simp only[Op.operands,Array.mem_append];exact .inr (Array.mem_toList_iff.1 aN)
  refine cH.of h <| bA.val fun K' B' g1 g2 C ρ F a w aj ar=>?_
  have Z1:fs= #[]:=Array.toList_eq_nil_iff.1 v1
  refine⟨.func (.func f) #[] (List.toArray (cs.toList.map a.eval)),(by
   have e:cs.map a.eval=List.toArray (cs.toList.map a.eval):=au7.1 ay6;simp[execOp,ah,Instr.makeFunc,Z1,e]),_,rfl,?_⟩
  exact Qb _ l _ ak ay6 (zy mem g1 ar)
 .exact h.elim
theorem JI {ev:Operand->Value} {f:FuncId} {c:Call} {x:Operand} {xs:List Operand} {cs:List Value} {w:World} (hf:jA P f=true) (ah:o.op= .call c) (E:c.callee= .value x) (G:c.args.toList=xs) (uA:ev x= .func (.func f) #[] (List.toArray cs)):(execOp ev o).run P w= .ok (.enter f (xs.map ev++cs).toArray) w:=by
 have e9:c.args=xs.toArray:=by rw[<-G]
 obtain⟨rb,args,cv⟩:=c;simp only at E e9;subst E e9;unfold jA at hf
 split at hf
 .rename_i fn ko;simp only[Bool.not_eq_true',au4,beq_eq_false_iff_ne] at hf;have G: ¬fn.body=none:=fun e=>by rw[e] at hf;simp at hf
  simp[execOp,ah,resolve,invoke,uA,Deferred.ofValue,callFunc,go_sem,ko];rw[if_neg hf.1,if_neg G]
 .cases hf
theorem hW.bU {ρ:Nat->bn} {I:Nat->Prop} {w:World}: ∀(l:List kZ) (aE:List Value),hW ρ I w l aE->aE.length=(oO l).length/\ ∀(i:Nat) (v:aP) (x:Value),(oO l)[i]? =some v->aE[i]? =some x->cw ρ I w v x
 | [],aE,h=>by rw[show aE=[] from h];exact⟨rfl,fun i v x ay=>by simp[oO] at ay⟩
 | .p c o::l,_,⟨v,r,e,E,G⟩=>by
  subst e;obtain⟨g1,g2⟩:=hW.bU l r G;refine⟨by simp[oO,g1],fun i u x a6 hx=>?_⟩
  match i with
  |0=>
   simp only[oO,ar3,aq4] at a6 hx;subst a6 hx;exact E
  |i+1=>exact g2 i u x (by simpa[oO] using a6) aB9
 | .d y::l,_,⟨v,r,e,E,G⟩=>by
  subst e;obtain⟨g1,g2⟩:=hW.bU l r G;refine⟨by simp[oO,g1],fun i u x a6 hx=>?_⟩
  match i with
  |0=>
   simp only[oO,ar3,aq4] at a6 hx;subst a6 hx;exact E
  |i+1=>exact g2 i u x (by simpa[oO] using a6) aB9
theorem Z2 {f:FuncId} {c:Call} {t:Nat} {l:List kZ} {xs:List Operand} (ah:o.op= .call c) (E:c.callee= .value (.tmp t)) (G:c.args.toList=xs) (ak:dI K t= .c (.one (.cY f l))) (h:xm P f (xs.map (a2 K)++oO l) ids K B k):cH P N ids o K B k:=by
 have mem: ∀aB∈xs,aB∈o.op.operands:=fun aB aN=>by
  rw[ah];simp only[Op.operands,Call.operands,Array.mem_append];exact .inr (Array.mem_toList_iff.1 (by rw[G];exact aN))
 have xC:Operand.tmp t∈o.op.operands:=by
  rw[ah];simp only[Op.operands,Call.operands,Array.mem_append,E];exact .inl ay6
 refine BX mem (fun K' ρ I a w g1 ar=>?_) h;have ay:=ar (t);have aa:dI K' t=dI K t:=g1 (.tmp t) xC;rw[aa,ak] at ay;obtain⟨aE,e,J⟩:=ay;obtain⟨cA,cF⟩:=hW.bU l aE J;refine⟨xs.map a.eval++aE,fun fT=>JI fT ah E G e,by simp[cA],fun i v x ay hx=>?_⟩
 by_cases aF:i < xs.length
 .rw[as6 (by simpa using aF)] at ay hx;exact zy mem g1 ar i v x ay hx
 .rw[at1 az8] at ay hx;simp only[ar1] at ay hx;exact cF _ v x ay hx
theorem Qc: ∀bs:aC4,(q2 bs).length=(ul bs).length
 | []=>rfl
 |b::l=>by simp[q2,ul,Qc l]
theorem Qd {ρ:Nat->bn} {I:Nat->Prop} {w:World}: ∀(bs:aC4) (i:Nat) (u:aP) (x:Value),(ul bs)[i]? =some u->(q2 bs)[i]? =some x->cw ρ I w u x
 | [],i,u,x,a6,_=>by simp[ul] at a6
 |b::l,0,u,x,a6,hx=>by
  simp only[ul,q2,ar3,aq4] at a6 hx;subst a6 hx;exact rfl
 |b::l,i+1,u,x,a6,hx=>by
  simp only[ul,q2,ax9] at a6 hx;exact Qd l i u x a6 hx
theorem Z3 {c:Call} {t:Nat} {y:Nat×aC4} {xs:List Operand} (ah:o.op= .call c) (E:c.callee= .value (.tmp t)) (G:c.args.toList=xs) (ak:dI K t= .c (.one (.d (.fn y)))) (h:xm P y.1 (xs.map (a2 K)++ul y.2) ids K B k):cH P N ids o K B k:=by
 have mem: ∀aB∈xs,aB∈o.op.operands:=fun aB aN=>by
  rw[ah];simp only[Op.operands,Call.operands,Array.mem_append];exact .inr (Array.mem_toList_iff.1 (by rw[G];exact aN))
 have xC:Operand.tmp t∈o.op.operands:=by
  rw[ah];simp only[Op.operands,Call.operands,Array.mem_append,E];exact .inl ay6
 refine BX mem (fun K' ρ I a w g1 ar=>?_) h;have ay:=ar (t);have aa:dI K' t=dI K t:=g1 (.tmp t) xC;rw[aa,ak] at ay;have e:a.tmps.getD t undef= .func (.func y.1) #[] (List.toArray (q2 y.2)):=ay;refine⟨xs.map a.eval++q2 y.2,fun fT=>JI fT ah E G e,by simp[Qc],fun i v x ay hx=>?_⟩
 by_cases aF:i < xs.length
 .rw[as6 (by simpa using aF)] at ay hx;exact zy mem g1 ar i v x ay hx
 .rw[at1 az8] at ay hx;simp only[ar1] at ay hx;exact Qd _ _ v x ay hx
theorem Z4 (bl:ec P aS) {T:TypeId} {x:Operand} {c:Call} (ah:o.op= .call c) (dL:c.callee= .builtin .len) (dS:c.args.toList=[x]) (k':c.argTypes.toList=[T]) (h:match I3 aS T B (a2 K x) with
  |some (n,jg)=>k (.c (.one (.d (.int .i64 (n:Int))))) ⟨jg,[],[]⟩
  |none=>False):cH P N ids o K B k:=by
 have e9:c.args= #[x]:=au7.1 dS;have iV:c.argTypes= #[T]:=au7.1 k';obtain⟨rb,args,cv⟩:=c;simp only at dL e9 iV;subst dL e9 iV;have m1:x∈o.op.operands:=az5
 have run: ∀{ev:Operand->Value} {w:World} {A:Option Addr} {n cap:Nat} {e:Nat},ev x= .slice A n cap->P.underlying T=some (.slice e)->(execOp ev o).run P w= .ok (.value (.int .i64 (n:Int))) w:=fun {ev w A n cap e} E cq=>by
  simp[execOp,ah,E,resolve,invoke,builtin,Builtin.len_,run_underlying cq,goInt]
 split at h
 .rename_i n jg hn;refine cH.of h ?_;unfold I3 at hn
  split at hn
  .rename_i s hx
   split at hn
   .rename_i b6;injection hn with hn
    injection hn with ae ao
    subst ae ao;refine bA.one hx m1 fun K' ρ I a w ar e=>⟨_,?_,rfl⟩
    simp[execOp,ah,ar.str e,resolve,invoke,builtin,Builtin.len_,run_underlying (E' bl b6),goInt,xv]
   .cases hn
  .rename_i u xs hx
   split at hn
   .rename_i p U;obtain⟨a6,_⟩:=pz bl (e:=p.1) (te:=p.2) U;injection hn with hn
    injection hn with ae ao
    subst ae ao;refine bA.one hx m1 fun K' ρ I a w ar e=>?_
    obtain⟨A,cap,bm,_⟩:=ar.co e;injection bm with bm
    exact⟨_,run bm a6,rfl⟩
   .cases hn
  .rename_i hx
   split at hn
   .rename_i p U;obtain⟨a6,_⟩:=pz bl (e:=p.1) (te:=p.2) U;injection hn with hn
    injection hn with ae ao
    subst ae ao;exact bA.one hx m1 fun K' ρ I a w ar e=>⟨_,run (ar.dK e) a6,rfl⟩
   .cases hn
  .rename_i l9 hx
   split at hn
   .rename_i p U;obtain⟨a6,_⟩:=pz bl (e:=p.1) (te:=p.2) U
    split at hn
    .rename_i b7 u xs ak;injection hn with hn
     injection hn with ae ao
     subst ae ao;refine bA.val fun K' B' g1 g2 C ρ F a w aj ar=>?_
     obtain⟨bh,jh,cs,dw,_⟩:=aj.holds l9 _ ((g2 l9 ay6).trans ak);have dO:=ar.own ((g1 x m1).trans hx);obtain⟨_,A,cap,ay,_⟩:=fC.ps dw;exact⟨_,run (dO.trans ay) a6,rfl⟩
    .cases hn
   .cases hn
  .rename_i l9 hx
   split at hn
   .rename_i p b6
    split at hn
    .rename_i aI aK es ak;injection hn with hn
     injection hn with ae ao
     subst ae ao;refine bA.val fun K' B' g1 g2 C ρ F a w aj ar=>?_
     obtain⟨bh,bR,bS,O,aA,c5⟩:=aj.holds l9 _ ((g2 l9 ay6).trans ak);have dO:=ar.mp ((g1 x m1).trans hx);refine⟨.int .i64 (es.length:Int),?_,rfl⟩;rw[<-BB aA];simp[execOp,ah,dO,resolve,invoke,builtin,Builtin.len_,run_underlying (Fc bl (kt:=p.1) (et:=p.2) b6),goInt,MapKept.run_getObj_map O]
    .cases hn
   .cases hn
  .cases hn
 .exact h.elim
theorem Qe {x y:Operand} {c:Call} {bi:Builtin} (v6:bi= .min\/bi= .max) (ah:o.op= .call c) (dL:c.callee= .builtin bi) (dS:c.args.toList=[x,y]) (h:match a2 K x,a2 K y with
  | .c (.one (.d (.int .i64 a))),.c (.one (.d (.int .i64 b)))=>k (.c (.one (.d (.int .i64 (if bi= .min then min a b else max a b))))) bF
  |_,_=>False):cH P N ids o K B k:=by
 have e9:c.args= #[x,y]:=au7.1 dS;obtain⟨rb,args,cv⟩:=c;simp only at dL e9;subst dL e9;have m1:x∈o.op.operands:=az5
 have m2:y∈o.op.operands:=az5
 split at h
 .rename_i a b hx aD;refine cH.of h <| bA.two hx aD m1 m2 fun K' ρ I fi w ar ae ao=>⟨_,?_,rfl⟩
  rcases v6 with rfl |rfl
  .have e:(if b < a then b else a)=min a b:=by rw[Int.min_def];split <;>split <;>omega
   simp[execOp,ah,ar.int ae,ar.int ao,resolve,invoke,builtin,run_min_int2,e]
  .have e:(if b >a then b else a)=max a b:=by rw[Int.max_def];split <;>split <;>omega
   simp only[gt_iff_lt] at e;simp[execOp,ah,ar.int ae,ar.int ao,resolve,invoke,builtin,run_max_int2,e]
 .exact h.elim
theorem l8.bool {P:Program} {T:Nat} {ti:ca} {i:TypeInfo} {d:TypeDesc} (h:l8 P T ti i d) (aa:ti.kd= .bool):P.underlying T=some .bool:=by
 have:=h.kd;rw[aa] at this;rw[h.nS]
 cases d <;>simp[tj] at this⊢
theorem Qf (bl:ec P aS) {T:Nat} (h:EP aS T=true):P.underlying T=some .bool:=by
 unfold EP at h
 split at h
 .rename_i ti gD
  split at h
  .rename_i aa;obtain⟨_,_,bv⟩:=bl.at_ gD;exact bv.bool aa
  .cases h
 .cases h
theorem Qg (bl:ec P aS) {T:Nat} (h:I1 aS T=true): ∃e,P.underlying T=some (.pointer e):=by
 unfold I1 at h
 split at h
 .rename_i ti gD
  split at h
  .rename_i e aa;obtain⟨_,_,bv⟩:=bl.at_ gD;exact⟨e,bv.ptr aa⟩
  .cases h
 .cases h
theorem Qh (bl:ec P aS) {T:Nat} (h:zk aS T=true): ∃e i,P.underlying T=some (.pointer e)/\P.info? e=some i/\i.size≠0:=by
 unfold zk at h
 split at h
 .rename_i ti gD
  split at h
  .rename_i e aa
   split at h
   .rename_i te vX;obtain⟨_,_,bv⟩:=bl.at_ gD;obtain⟨i,_,tr⟩:=bl.at_ vX;exact⟨e,i,bv.ptr aa,tr.jY,by rw[tr.size];exact tr.pos⟩
   .cases h
  .cases h
 .cases h
theorem Fl (h:BG P ids o K B k):cH P N ids o K B k:=by
 obtain⟨v,e,E,G,af⟩:=h;rw[sd] at af;exact⟨v,e,af,E N,Fk G⟩
theorem Z5 (bl:ec P aS) (h:Jg P aS ids o K B k):cH P N ids o K B k:=by
 unfold Jg at h
 split at h
 .exact PI (.inl ‹_›) h
 .exact PI (.inr ‹_›) h
 .exact YK ‹_› h
 .rename_i op T x y fG ah;have rh:(∃v,k v bF/\bA P N ids o K B v bF)->cH P N ids o K B k:=fun⟨v,E,G⟩=>cH.of E G
  split at h
  .rename_i b6;exact rh (PD ah (fun T=>Qh bl) (Qg bl b6) h)
  .rename_i b6;exact rh (PD ah (fun T=>Qh bl) (Qg bl b6) h)
  .split at h
   .exact h.elim
   .exact h.elim
   .rename_i hx
    split at h
    .rename_i O;exact rh (PE ah (Qf bl O) (.inl hx) h)
    .exact h.elim
   .rename_i hx
    split at h
    .rename_i O;exact rh (PE ah (Qf bl O) (.inr hx) h)
    .exact h.elim
   .rename_i E G _ _;exact rh (PB ah (.inr fun c d=>⟨E c d,G _⟩) h)
  .exact h.elim
 .exact YL ‹_› h
 .exact YM ‹_› h
 .exact YN ‹_› h
 .exact YO bl ‹_› h
 .exact YQ bl ‹_› h
 .exact Y0 bl ‹_› h
 .exact Y4 bl ‹_› h
 .exact Y5 bl ‹_› h
 .exact Y8 bl ‹_› h
 .rename_i T bD ah
  split at h
  .rename_i lI;exact Zg bl ah h lI
  .exact h.elim
 .rename_i T n bD hn ah;exact Zi bl ah hn h
 .exact Zj bl ‹_› h
 .exact Zk bl ‹_› h
 .rename_i ah
  split at h
  .rename_i hx;exact Zq bl ah hx h
  .rename_i c o hx
   split at h
   .rename_i Z6;have:=aq6 Z6;subst this;exact Zz bl ah hx h
   .exact h.elim
  .exact Zm bl ah h
 .exact Zy bl ‹_› h
 .exact Zn bl ‹_› h
 .exact Zv bl ‹_› h
 .exact Zw bl ‹_› h
 .exact ZC bl ‹_› h
 .exact Z0 ‹_› h
 .exact ZE bl ‹_› h
 .rename_i c ah
  split at h
  .rename_i f E;exact Qa ah E rfl h
  .rename_i t E
   split at h
   .rename_i f l ak;exact Z2 ah E rfl ak h
   .rename_i x ak;exact Z3 ah E rfl ak h
   .exact h.elim
  .rename_i x E G
   split at h
   .rename_i T b6;exact Z4 bl ah E G b6 h
   .exact h.elim
  .rename_i x y E G
   split at h
   .rename_i T eJ b6;exact Zx bl ah E G b6 h
   .exact h.elim
  .rename_i x y E G;refine Qe (bi:=.min) (.inl rfl) ah E G ?_;simp only[if_pos rfl];exact h
  .rename_i x y E G;refine Qe (bi:=.max) (.inr rfl) ah E G ?_;simp only[reduceCtorEq,if_false];exact h
  .rename_i x y E G
   split at h
   .rename_i T eJ b6
    split at h
    .exact Fl h
    .exact ZY bl ah E G b6 h
   .exact h.elim
  .rename_i x y E G
   split at h
   .rename_i T eJ b6
    split at h
    .rename_i U;have:=aq6 U;subst this;exact ZJ bl ah E G b6 h
    .exact ZP bl ah E G b6 h
   .exact h.elim
  .exact Fl h
 .exact Fl h
theorem JJ (bl:ec P aS) (h:EW P aS ids o K B k):cH P N ids o K B k:=by
 unfold EW at h
 split at h
 .exact Fl h
 .exact Z5 bl h
end
end
end Go.Proofs.YtkfbeijmgggkmaaGreat
