/-
Part 5 of the proof that stands in YteoamepgonpdlaaGreatPbRow, with what it needs from the parts ahead; the parts of this text: SndT.
-/
import Derived.Lib.AppendStr
import Derived.Test.YteoamepgonpdlaaGreatPb4
namespace Go.Proofs.YteoamepgonpdlaaGreat
set_option linter.unusedVariables false
set_option linter.unusedSimpArgs false
open Go.RowKit
section
variable {P:Program} {tt:c4} {N:Nat} {ids:List Nat} {o:Oper} {K:aQ} {B:aG} {k:aN→fk→Prop}
theorem RF {w:World} (t e:TypeId) (cl:P.underlying t=some (.slice e)) {i:TypeInfo} (ay:P.info? e=some i) {z:Value} (aS:i.zero=some z) (yC:z.cells= #[.int .u8 0]) (hs:i.size=1) (ag:i.bytes=1) (n:Nat) (hn:n≤4294967296):
  (Instr.makeSlice t (.int .i64 (n:Int)) (.int .i64 (n:Int))).run P w= .ok (.slice (some ⟨w.heap.size,0,none⟩) n n) (w.alloc (.cells (List.replicate n (.int .u8 0)).toArray e)):=by
 have h:=run_make (P:=P) w t e i _ cl ay aS .i64 .i64 (n:Int) (n:Int) (by omega) (by omega) (by rw[ag];omega) (by omega)
 rw[h,hs,yC]
 simp only[Int.toNat_natCast,Nat.mul_one]
 congr 3
 simp[madeCells]
 apply Array.ext
 ·simp
 ·intro i aa af
  simp[Nat.mod_one]
theorem KH {ti:cD} {T:Nat} {i:TypeInfo} {d:TypeDesc} (bD:lD P T ti i d) (aS:ti.zero=[.d (.int .u8 0)]): ∃z,i.zero=some z∧z.cells= #[.int .u8 0]:=by
 obtain⟨z,aa,af⟩:=bD.zero
 refine⟨z,aa,?_⟩
 rw[aS] at af
 have:z.cells.toList=[.int .u8 0]:=by
  match hc:z.cells.toList,af with
  | [v],af=>
   simp only[sw,Bool.and_true] at af
   have:=(Kw (ρ:=fun _=>⟨0,none,0,0⟩) (I:=fun _=>False) (w:=default) af).1
   rw[show v=_ from this]
  | [],af=>simp[sw] at af
  |_::_::_,af=>simp[sw] at af
 exact Array.toList_inj.1 this
theorem RG (aX:dP P tt) {T:TypeId} {x y:Operand} (av:o.op= .makeSlice T x y) (h:match elemOf tt T,aU K x,aU K y,o.dst with
  |some (e,te),.c (.one (.d (.int .i64 n))),.c (.one (.d (.int .i64 m))),some d=>match qv tt e with
   |true=>(n=m∧0≤n∧n≤4294967296)∧gu ids K B d=true∧k (.c (.one (.own d))) ⟨[],[d],[(d,some (.row e .u8 (List.replicate n.toNat (0:UInt8))))]⟩
   |false=>False
  |_,_,_,_=>False):cw P N ids o K B k:=by
 have bw:x∈o.op.operands:=by rw[av];simp[Op.operands]
 have bX:y∈o.op.operands:=by rw[av];simp[Op.operands]
 split at h
 ·rename_i e te n m d he hx aF hd
  obtain⟨hu,inf,ds,bD⟩:=oL aX he
  split at h
  ·rename_i qy
   obtain⟨qy,ti,i2,d2,ru,qz,e6,sC⟩:=wK aX qy
   obtain⟨z,aS,yC⟩:=KH ru qz
   obtain⟨⟨rfl,aC,aa⟩,cv,h⟩:=h
   refine cw.bu h cv <| bI.make (fun d h=>yA h) fun K' B' g1 g2 C ρ F a w az hS hn=>?_
   have eB:=hS.int ((g1 x bw).trans hx)
   have eL:=hS.int ((g1 y bX).trans aF)
   have ef:=RF (P:=P) (w:=w) T e hu ru.info aS yC (ru.size.trans e6) (ru.bytes.trans sC) n.toNat (by omega)
   rw[show((n.toNat:Nat):Int)=n by omega] at ef
   refine⟨.slice (some ⟨w.heap.size,0,none⟩) n.toNat n.toNat,w.alloc (.cells (List.replicate n.toNat (.int .u8 0)).toArray e),⟨w.heap.size,some ⟨w.heap.size,0,none⟩,n.toNat,n.toNat⟩,fun b=>b=w.heap.size,?_,tE w _,fun b ag=>by subst ag;exact⟨Nat.le_refl _,by simp⟩,fun I he ag=>⟨⟨?_,?_,List.replicate n.toNat (.int .u8 0),?_,?_⟩,?_⟩⟩
   ·simp only[execOp,av,Sem.run_bind,eB,eL,ef,Result.andThen_ok,Sem.run_pure]
   ·intro b
    simp[bn.hdr,Value.ownBlock,eq_comm]
   ·intro b ag
    simp[bn.hdr,Value.ownBlock] at ag
    exact ag.symm
   ·have:=Ar w e 1 n.toNat (List.replicate n.toNat (.int .u8 0)) (by simp) (by simp only[maxLen];omega)
    have ai:List.length (α:=aJ .u8) (List.replicate n.toNat (0:UInt8))=n.toNat:=List.length_replicate
    rw[ai]
    exact this
   ·intro i z aS
    obtain⟨ay,lH⟩:=List.getElem?_eq_some_iff.1 aS
    have qz:z=(0:UInt8):=by rw[←lH];exact List.getElem_replicate ..
    have ay:i < n.toNat:=by
     have ai:List.length (α:=aJ .u8) (List.replicate n.toNat (0:UInt8))=n.toNat:=List.length_replicate
     rw[ai] at ay
     exact ay
    subst qz
    show(List.replicate n.toNat (Value.int .u8 0))[i*1+0]? =some (Value.int .u8 ((0:UInt8).toNat:Int))
    rw[Nat.mul_one,Nat.add_zero,List.getElem?_replicate,if_pos ay]
    rfl
   ·simp only[cj,fS,dI,dN,bn.hdr]
  ·exact h.elim
 ·exact h.elim
theorem CQ {w:World} {e s n:Nat} {v:Value} {cs:List Value} (h:w.ownsRow 0 e s v n cs): ∃pl:bn,pl.hdr=v∧ ∀b,v.ownBlock=some b→b=pl.bO:=by
 rcases h.2 with⟨rfl,_⟩ |⟨g,cap,cur,rfl,_⟩
 ·exact⟨⟨0,none,0,0⟩,rfl,fun b ag=>by cases ag⟩
 ·exact⟨⟨g,some ⟨g,0,none⟩,n,cap⟩,rfl,fun b ag=>by simp[Value.ownBlock] at ag;exact ag.symm⟩
theorem RH (aX:dP P tt) {T:TypeId} {x y:Operand} {c:Call} {e:Nat} {te:cD} {u:U} (av:o.op= .call c) (fF:c.callee= .builtin .append) (dz:c.args.toList=[x,y]) (jX:c.argTypes.toList=[T,T]) (he:elemOf tt T=some (e,te)) (hu:te.u=some u)
  {a:Act} {w:World} {v:Value} {n m:Nat} {cs news:List Value} {D:Nat→Prop} (hx:a.eval x=v) (dF:w.ownsRow 0 e (aM u) v n cs) (aa:fR D w (aM u) (a.eval y) m news) (aA: ∀x∈news,x.oneCell'=true) (hn:n+m≤4294967296):
  ∃v' w',(execOp a.eval o).run P w= .ok (.value v') w'∧w'.ownsRow 0 e (aM u) v' (n+m) (cs++news)∧w.grownBy w' v.ownBlock∧(v'.ownBlock=v.ownBlock∨v'.ownBlock=some w.heap.size):=by
 obtain⟨cu,inf,ds,bD⟩:=oL aX he
 obtain⟨z,aS,pP⟩:=bD.zero
 have ek:aM u=inf.size:=(bD.u u hu).trans bD.size.symm
 have uO:z.cells.size=inf.size:=by
  have aa:=bZ.length _ _ (uV (ρ:=fun _=>⟨0,none,0,0⟩) (I:=fun _=>False) (w:=w) _ _ pP).1
  simp at aa
  rw[aa,bD.FI,bD.size]
 have oM:0 < inf.size:=by have:=bD.pos;have:=bD.size;omega
 have z6:(n+m)*inf.bytes≤140737488355328:=by
  have aa:inf.bytes≤32768:=by rw[bD.bytes];exact bD.small
  exact Nat.le_trans (Nat.mul_le_mul hn aa) (by decide)
 obtain⟨v',w',ef,g1,g2,bL⟩:=JQ (P:=P) w 0 T o.type e inf z (aM u) inf.bytes cu bD.info aS ek.symm rfl (by rw[uO,ek]) (by rw[ek];exact oM) v n cs dF D (a.eval y) m news aa aA (by simp only[maxLen];omega) z6 (Nat.zero_le _)
 refine⟨v',w',?_,g1,g2,bL⟩
 have fL:c.args= #[x,y]:=Array.toList_inj.1 dz
 have iG:c.argTypes= #[T,T]:=Array.toList_inj.1 jX
 obtain⟨sB,args,ts⟩:=c
 simp only at fF fL iG
 subst fF fL iG
 unfold execOp
 simp only[av,resolve,invoke,builtin,Sem.run_bind,Sem.run_pure,Result.andThen_ok,List.map_toArray,List.map_cons,List.map_nil,hx,ef]
theorem RI {I:Nat→Prop} {w:World} {u:U} {xs:List (aJ u)} {cs:List Value} (aB:cs.length=xs.length*aM u) (h:gA I w u xs cs): ∀v∈cs,v.oneCell'=true:=fun v hv=>by
 obtain⟨k,au,rfl⟩:=List.getElem_of_mem hv
 obtain⟨ai,aq,bk⟩:=EW (show k < xs.length*aM u by omega)
 obtain⟨v',aa,af⟩:=cg.one u _ _ (h (k/aM u) _ (List.getElem?_eq_getElem ai)) (k % aM u) aq
 rw[bk,List.getElem?_eq_getElem au] at aa
 injection aa with aa
 rw[aa];exact af
theorem KI (aX:dP P tt) {T:TypeId} {x y:Operand} {c:Call} {e:Nat} {te:cD} {u:U} (av:o.op= .call c) (fF:c.callee= .builtin .append) (dz:c.args.toList=[x,y]) (jX:c.argTypes.toList=[T,T]) (he:elemOf tt T=some (e,te)) (hu:te.u=some u)
  {a:Act} {w:World} {v:Value} {n:Nat} {cs:List Value} {I:Nat→Prop} {ys:List (aJ u)} (hx:a.eval x=v) (dF:w.ownsRow 0 e (aM u) v n cs) (aF:cg I w (.sl u) ys (fun _=>some (a.eval y))) (bC: ∀b,I b→b < w.heap.size) (hn:n+ys.length≤4294967296):
  ∃v' w' news,(execOp a.eval o).run P w= .ok (.value v') w'∧w'.ownsRow 0 e (aM u) v' (n+ys.length) (cs++news)∧gA I w u ys news∧w.grownBy w' v.ownBlock∧(v'.ownBlock=v.ownBlock∨v'.ownBlock=some w.heap.size):=by
 obtain⟨cu,inf,ds,bD⟩:=oL aX he
 obtain⟨z,aS,pP⟩:=bD.zero
 obtain⟨news,aa,af,aA⟩:=Ks aF bC
 have ek:aM u=inf.size:=(bD.u u hu).trans bD.size.symm
 have uO:z.cells.size=inf.size:=by
  have aa:=bZ.length _ _ (uV (ρ:=fun _=>⟨0,none,0,0⟩) (I:=fun _=>False) (w:=w) _ _ pP).1
  simp at aa
  rw[aa,bD.FI,bD.size]
 have oM:0 < inf.size:=by have:=bD.pos;have:=bD.size;omega
 have z6:(n+ys.length)*inf.bytes≤140737488355328:=by
  have aa:inf.bytes≤32768:=by rw[bD.bytes];exact bD.small
  exact Nat.le_trans (Nat.mul_le_mul hn aa) (by decide)
 obtain⟨v',w',ef,g1,g2,bL⟩:=JQ (P:=P) w 0 T o.type e inf z (aM u) inf.bytes cu bD.info aS ek.symm rfl (by rw[uO,ek]) (by rw[ek];exact oM) v n cs dF I (a.eval y) ys.length news aa aA (by simp only[maxLen];omega) z6 (Nat.zero_le _)
 refine⟨v',w',news,?_,g1,af,g2,bL⟩
 have fL:c.args= #[x,y]:=Array.toList_inj.1 dz
 have iG:c.argTypes= #[T,T]:=Array.toList_inj.1 jX
 obtain⟨sB,args,ts⟩:=c
 simp only at fF fL iG
 subst fF fL iG
 unfold execOp
 simp only[av,resolve,invoke,builtin,Sem.run_bind,Sem.run_pure,Result.andThen_ok,List.map_toArray,List.map_cons,List.map_nil,hx,ef]
theorem Mem.move {C:Ctx} {ρ:Nat→bn} {F:Nat→Nat→Prop} {w w':World} (h:Mem ids C B ρ F w) {c d:Nat} {cr ch:bF} (hc:ax B c=some cr) (hf:gu ids K B d=true) (cv:Fr (F c) w w') (pl:bn) (G:Nat→Prop) (oo: ∀b,G b→(F c b∨w.heap.size≤b)∧b < w'.heap.size)
  (eo: ∀I,Ext (bS C B F w) w I w'→(∀b,I b→b < w'.heap.size∧ ¬G b)→Holds (dx ρ d pl) I G w' pl ch):
  Mem ids C ((d,ch)::g8 B c) (dx ρ d pl) (dx F d G) w'∧Ext (bS C B F w) w (bS C ((d,ch)::g8 B c) (dx F d G) w') w':=by
 obtain⟨f1,f2,f3,f4⟩:=kT hf
 have CR:d≠c:=fun e=>by subst e;rw[f2] at hc;cases hc
 refine h.step (fun i=>i=d∨i=c) (fun i=>i=d) (cv.mono fun b _ ag=>⟨c,cr,hc,.inr rfl,ag⟩) ?_ (fun i ay=>dL _ _ ay) (fun i ay=>dL _ _ (fun e=>ay (.inl e))) (fun i ay e=>f4 (e▸ay)) (fun _ h=>.inl h) ?_ ?_ ?_ ?_
 ·intro i bg ay bf
  rw[cC,if_neg (fun e=>bf (.inl e.symm)),jR] at ay
  split at ay
  ·cases ay
  ·exact ay
 ·rintro i bg ay _ j he rfl
  rw[f3 i bg ay] at he
  cases he
 ·rintro i bg ay az he
  rw[cC] at ay
  split at ay
  ·rename_i e
   subst e
   injection ay with ay
   subst ay
   rw[dN,dN]
   exact eo _ he fun b dm=>⟨dm.1,fun bl=>dm.2.2 d ch (by rw[cC,if_pos rfl]) (by rw[dN];exact bl)⟩
  ·rename_i e
   rcases az with rfl |rfl
   ·exact absurd rfl e
   ·rw[jR,if_pos rfl] at ay;cases ay
 ·rintro i bg ay az b bl
  rcases az with rfl |rfl
  ·rw[dN] at bl
   obtain⟨aa,af⟩:=oo b bl
   exact⟨af,aa.imp (fun h=>⟨c,cr,hc,.inr rfl,h⟩) id⟩
  ·rw[cC,if_neg CR,jR,if_pos rfl] at ay;cases ay
 ·rintro i j ko pO b ay ak RJ RK bf
  have q: ∀i bg,ax ((d,ch)::g8 B c) i=some bg→(i=d∨i=c)→i=d:=fun i bg ay az=>by
   rcases az with rfl |rfl
   ·rfl
   ·rw[cC,if_neg CR,jR,if_pos rfl] at ay;cases ay
  exact absurd ((q i ko ay RJ).trans (q j pO ak RK).symm) bf
theorem FW {w w':World} {r:Option Nat} {S:Nat→Prop} (h:w.grownBy w' r) (hS: ∀b,r=some b→S b):Fr S w w':=P5 h hS
theorem RL (aX:dP P tt) {T:TypeId} {x y:Operand} {c:Call} (av:o.op= .call c) (fF:c.callee= .builtin .append) (dz:c.args.toList=[x,y]) (jX:c.argTypes.toList=[T,T])
  (h:Fs tt T (aU K x) (aU K y) o.dst ids K B k):cw P N ids o K B k:=by
 have mem: ∀z∈ [x,y],z∈o.op.operands:=fun z aS=>by
  rw[av]
  simp only[Op.operands,Call.operands,Array.mem_append]
  exact .inr (Array.mem_toList_iff.1 (by rw[dz];exact aS))
 have bw:=mem x (by simp)
 have bX:=mem y (by simp)
 unfold Fs at h
 split at h
 ·rename_i e te d he hd
  split at h
  ·rename_i u v ys hu aF
   split at h
   ·rename_i heq _
    subst heq
    split at h
    ·rename_i hx
     obtain⟨hlen,cv,h⟩:=h
     refine cw.bu h cv <| bI.make (fun d h=>yA h) fun K' B' g1 g2 C ρ F a w az hS hn=>?_
     obtain⟨v',w',news,ef,cE,ey,fo,fY⟩:=KI aX av fF dz jX he hu (hS.ee ((g1 x bw).trans hx)) (World.ownsRow_nil w 0 e (aM v)) (hS.cW ((g1 y bX).trans aF)) (fun b ag=>ag.1) (by omega)
     obtain⟨pl,gh,jb⟩:=CQ cE
     have ag:Below w.heap.size w w':=⟨fo.os,fo.tape,fo.output,fo.size,fun b ag=>fo.block b ag (by simp[Value.ownBlock])⟩
     have FX: ∀b,v'.ownBlock=some b→w.heap.size≤b∧b < w'.heap.size:=fun b dm=>by
      have:=cE.lt b dm
      rcases fY with fY |fY
      ·rw[fY] at dm;cases dm
      ·rw[fY] at dm;injection dm with dm;omega
     refine⟨v',w',pl,fun b=>v'.ownBlock=some b,ef,ag,FX,fun I ot bC=>⟨⟨fun b=>by rw[gh],fun b ag=>jb b (by rwa[gh] at ag),news,?_,?_⟩,?_⟩⟩
     ·rw[gh]
      have:=cE
      rw[Nat.zero_add,List.nil_append] at this
      exact this
     ·exact gA.mono ot ey
     ·simp only[cj,fS,dI,dN,gh]
    ·rename_i lG hx
     split at h
     ·rename_i e' sk xs aB
      split at h
      ·rename_i FY ry _
       have ry:=Nat.eq_of_beq_eq_true ry
       subst FY ry
       obtain⟨hlen,cv,h⟩:=h
       refine cw.bu h cv ?_
       rintro K' B' g1 g2 bL C a w ⟨pR,hdd,ρ,F,az,hS⟩ bH fl Q hK
       have gC:ax B' lG=_:=(g2 lG (by simp)).trans aB
       have hf:=bL d (by simp)
       have ou:=kT hf
       have bM:=az.holds lG _ gC
       obtain⟨hF,tQ,cs,dF,kU⟩:=bM
       obtain⟨v',w',news,ef,cE,ey,fo,fY⟩:=KI aX av fF dz jX he hu (hS.own ((g1 x bw).trans hx)) dF (hS.cW ((g1 y bX).trans aF)) (fun b ag=>ag.1) (by have:(nx rfl xs).length=xs.length:=rfl;omega)
       obtain⟨pl,gh,jb⟩:=CQ cE
       obtain⟨bT,ot⟩:=az.move (K:=K') (ch:=.row e' sk (nx rfl xs++nx rfl ys)) gC hf (FW fo fun b ag=>(hF b).2 ag) pl (fun b=>v'.ownBlock=some b) (fun b ag=>⟨by
         rcases fY with fY |fY
         ·exact .inl ((hF b).2 (fY.symm.trans ag))
         ·rw[fY] at ag;injection ag with ag;exact .inr (by omega),(cE.lt b ag).2⟩)
        (fun I ot bC=>⟨fun b=>by rw[gh],fun b ag=>jb b (by rwa[gh] at ag),cs++news,by rw[gh];simpa[nx] using cE,gA.app (gA.mono ot kU) (gA.mono ot ey) dF.1⟩)
       unfold Oper.wp
       rw[ef,Oper.upon_value]
       exact hK _ _ ⟨lz.trans pR,put_defers.trans hdd,_,_,bT,(hS.mono ot fun s i ay=>dL _ _ (fun e=>by subst e;rw[ou.1 s] at ay;cases ay)).lB (fun e he=>by rw[pR];exact bH e he) (by simp only[cj,fS,dI,dN,gh])⟩
      ·exact h.elim
     ·exact h.elim
    ·exact h.elim
   ·exact h.elim
  ·rename_i u bq hu aF
   split at h
   ·rename_i lG hx
    split at h
    ·rename_i e' sk xs aq v ys aB rq
     split at h
     ·rename_i heq FY bf ry _ _
      have ry:=Nat.eq_of_beq_eq_true ry
      subst heq FY ry
      obtain⟨hlen,cv,h⟩:=h
      refine cw.bu h cv ?_
      rintro K' B' g1 g2 bL C a w ⟨pR,hdd,ρ,F,az,hS⟩ bH fl Q hK
      have gC:ax B' lG=_:=(g2 lG (by simp)).trans aB
      have RM:ax B' bq=_:=(g2 bq (by simp)).trans rq
      have hf:=bL d (by simp)
      have ou:=kT hf
      obtain⟨hF,tQ,cs,dF,kU⟩:=az.holds lG _ gC
      obtain⟨kV,aa6,RN,KJ,KK⟩:=az.holds bq _ RM
      have pS:=fR.wk KJ
      rw[←hS.own ((g1 y bX).trans aF)] at pS
      obtain⟨v',w',ef,cE,fo,fY⟩:=RH aX av fF dz jX he hu (hS.own ((g1 x bw).trans hx)) dF pS (RI KJ.1 KK) (by have:(nx rfl xs).length=xs.length:=rfl;have:(nx rfl ys).length=ys.length:=rfl;omega)
      obtain⟨pl,gh,jb⟩:=CQ cE
      obtain⟨bT,ot⟩:=az.move (K:=K') (ch:=.row e' sk (nx rfl xs++nx rfl ys)) gC hf (FW fo fun b ag=>(hF b).2 ag) pl (fun b=>v'.ownBlock=some b) (fun b ag=>⟨by
        rcases fY with fY |fY
        ·exact .inl ((hF b).2 (fY.symm.trans ag))
        ·rw[fY] at ag;injection ag with ag;exact .inr (by omega),(cE.lt b ag).2⟩)
       (fun I ot bC=>⟨fun b=>by rw[gh],fun b ag=>jb b (by rwa[gh] at ag),cs++RN,by rw[gh];simpa[nx] using cE,gA.app (gA.mono ot kU) (gA.mono ot KK) dF.1⟩)
      unfold Oper.wp
      rw[ef,Oper.upon_value]
      exact hK _ _ ⟨lz.trans pR,put_defers.trans hdd,_,_,bT,(hS.mono ot fun s i ay=>dL _ _ (fun e=>by subst e;rw[ou.1 s] at ay;cases ay)).lB (fun e he=>by rw[pR];exact bH e he) (by simp only[cj,fS,dI,dN,gh])⟩
     ·exact h.elim
    ·exact h.elim
   ·exact h.elim
  ·exact h.elim
 ·exact h.elim
theorem KL (s:List UInt8):Go.Lib.strCells ⟨s.toArray⟩=s.map iC:=by simp[Go.Lib.strCells,iC]
theorem RO {w:World} {T eG ty e:TypeId} {i:TypeInfo} (cu:P.underlying T=some (.slice e)) (hu:P.underlying eG=some .string) (ay:P.info? e=some i) (aS:i.zero=some (.int .u8 0)) (hs:i.size=1) (ag:i.bytes=1)
  {v:Value} {n:Nat} {cs:List Value} (dF:w.ownsRow 0 e 1 v n cs) (s:List UInt8) (hn:n+s.length≤4294967296):
  ∃v' w',(Builtin.append_ #[T,eG] ty #[v,.string ⟨s.toArray⟩]).run P w= .ok v' w'∧w'.ownsRow 0 e 1 v' (n+s.length) (cs++s.map iC)∧w.grownBy w' v.ownBlock∧ ∀b,v'.ownBlock=some b→v.ownBlock=some b∨w.heap.size≤b:=by
 have ek:(⟨s.toArray⟩:ByteArray).size=s.length:=wH s
 rcases dF.2 with⟨rfl,rfl⟩ |⟨g,cap,cur,rfl,-,bl,z2,aa7,oK,wM⟩
 ·have RP:cs=[]:=List.eq_nil_of_length_eq_zero (by simpa using dF.1)
  subst RP
  obtain⟨v',w',hr,af,aA,_⟩:=Go.Lib.run_append_own_string (P:=P) w w.heap.size T eG ty e i cu hu ay aS hs ag (.slice none 0 0) 0 [] (World.ownsRow_nil w w.heap.size e 1) ⟨s.toArray⟩ (by rw[ek];simp only[maxLen];omega) (by rw[ek];omega) (Nat.le_refl _)
  rw[ek,KL] at af
  refine⟨v',w',hr,⟨af.1,?_⟩,aA,fun b ag=>.inr ?_⟩
  ·rcases af.2 with h |⟨g,cap,cur,hv,_,r⟩
   ·exact .inl h
   ·exact .inr ⟨g,cap,cur,hv,Nat.zero_le _,r⟩
  ·rcases af.2 with⟨h,_⟩ |⟨g,cap,cur,hv,uN,r⟩
   ·rw[h] at ag;cases ag
   ·rw[hv] at ag;simp[Value.ownBlock] at ag;omega
 ·obtain⟨v',w',hr,af,aA,_⟩:=Go.Lib.run_append_own_string (P:=P) w 0 T eG ty e i cu hu ay aS hs ag (.slice (some ⟨g,0,none⟩) n cap) n cs dF ⟨s.toArray⟩ (by rw[ek];simp only[maxLen];omega) (by rw[ek];omega) (Nat.zero_le _)
  have uY:cs.length=n:=by simpa using dF.1
  refine⟨v',w',hr,by rw[ek,KL] at af;exact af,aA,fun b dm=>?_⟩
  by_cases RQ:n+(⟨s.toArray⟩:ByteArray).size≤cap
  ·have tR:=Go.Lib.run_append_room_string (P:=P) w T eG ty e i cu hu ay hs g n cap cur bl ⟨s.toArray⟩ RQ (by omega)
   rw[hr] at tR
   injection tR with ai aq
   rw[ai] at dm
   exact .inl dm
  ·have holds: ∀j u,cs[j]? =some u→w.cell? ((⟨g,0,none⟩:Addr).add j)=some u:=dF.cells (g:=g) rfl
   have tR:=Go.Lib.run_append_grow_string (P:=P) w T eG ty e i (.int .u8 0) cu hu ay aS ⟨g,0,none⟩ n cap cs (by rw[hs];simpa using uY) holds ⟨s.toArray⟩ (by omega) (by rw[ek];omega) (by rw[ag];exact growslice_fits (by omega) (by rw[ek];omega))
   rw[hr] at tR
   injection tR with ai aq
   rw[ai] at dm
   simp[Value.ownBlock] at dm
   exact .inr (by omega)
theorem RR (I:Nat→Prop) (w:World) (xs:List UInt8):gA I w .u8 xs (xs.map iC):=fun i x hx=>by
 show(xs.map iC)[i*1+0]? =_
 rw[Nat.mul_one,Nat.add_zero,List.getElem?_map,show xs[i]? =some x from hx]
 rfl
theorem RS (aX:dP P tt) {T eG:TypeId} {x y:Operand} {c:Call} (av:o.op= .call c) (fF:c.callee= .builtin .append) (dz:c.args.toList=[x,y]) (jX:c.argTypes.toList=[T,eG])
  (h:Ft tt T eG (aU K x) (aU K y) o.dst ids K B k):cw P N ids o K B k:=by
 have mem: ∀z∈ [x,y],z∈o.op.operands:=fun z aS=>by
  rw[av]
  simp only[Op.operands,Call.operands,Array.mem_append]
  exact .inr (Array.mem_toList_iff.1 (by rw[dz];exact aS))
 have bw:=mem x (by simp)
 have bX:=mem y (by simp)
 unfold Ft at h
 split at h
 ·rename_i e te d he RT hd
  split at h
  ·rename_i lG s hx aF
   split at h
   ·rename_i e' xs qy aB
    split at h
    ·rename_i ry
     have ry:=Nat.eq_of_beq_eq_true ry
     subst ry
     obtain⟨hlen,cv,h⟩:=h
     obtain⟨cu,inf,ds,bD⟩:=oL aX he
     obtain⟨RU,RV⟩:=wK aX qy
     have iq:=CL aX RT
     refine cw.bu h cv ?_
     rintro K' B' g1 g2 bL C a w ⟨pR,hdd,ρ,F,az,hS⟩ bH fl Q hK
     have gC:ax B' lG=_:=(g2 lG (by simp)).trans aB
     have hf:=bL d (by simp)
     have ou:=kT hf
     have bM:=az.holds lG _ gC
     obtain⟨hF,tQ,cs,dF,kU⟩:=bM
     obtain⟨ti,i2,d2,ru,qz,e6,sC⟩:=RV
     obtain⟨z,aS,yC⟩:=KH ru qz
     have lH:z= .int .u8 0:=by
      have aa:=ru.Ke z aS (by have:=ru.und;rw[RU] at this;injection this with this;rw[←this])
      rw[aa] at yC
      simpa using yC
     rw[lH] at aS
     obtain⟨v',w',ef,cE,fo,fY⟩:=RO (P:=P) (w:=w) (T:=T) (eG:=eG) (ty:=o.type) cu iq ru.info aS (ru.size.trans e6) (ru.bytes.trans sC) (show w.ownsRow 0 e' 1 (ρ lG).hdr (List.length (α:=UInt8) xs) cs from dF) s hlen
     obtain⟨pl,gh,jb⟩:=CQ cE
     obtain⟨bT,ot⟩:=az.move (K:=K') (ch:=.row e' .u8 (List.append (α:=UInt8) xs s)) gC hf (FW fo fun b ag=>(hF b).2 ag) pl (fun b=>v'.ownBlock=some b) (fun b ag=>⟨by
       rcases fY b ag with fY |fY
       ·exact .inl ((hF b).2 fY)
       ·exact .inr fY,(cE.lt b ag).2⟩)
      (fun I ot bC=>⟨fun b=>by rw[gh],fun b ag=>jb b (by rwa[gh] at ag),cs++s.map iC,by
       rw[gh]
       have:List.length (α:=aJ .u8) (List.append (α:=UInt8) xs s)=List.length (α:=UInt8) xs+s.length:=List.length_append
       rw[this]
       exact cE,gA.app (u:=.u8) (gA.mono ot kU) (RR _ _ s) dF.1⟩)
     have fL:c.args= #[x,y]:=Array.toList_inj.1 dz
     have iG:c.argTypes= #[T,eG]:=Array.toList_inj.1 jX
     obtain⟨sB,args,ts⟩:=c
     simp only at fF fL iG
     subst fF fL iG
     have eB:=hS.own ((g1 x bw).trans hx)
     have eL:=hS.str ((g1 y bX).trans aF)
     have hex:(execOp a.eval o).run P w= .ok (.value v') w':=by
      unfold execOp
      simp only[av,resolve,invoke,builtin,Sem.run_bind,Sem.run_pure,Result.andThen_ok,List.map_toArray,List.map_cons,List.map_nil,eB,eL,ef]
     unfold Oper.wp
     rw[hex,Oper.upon_value]
     exact hK _ _ ⟨lz.trans pR,put_defers.trans hdd,_,_,bT,(hS.mono ot fun s i ay=>dL _ _ (fun e=>by subst e;rw[ou.1 s] at ay;cases ay)).lB (fun e he=>by rw[pR];exact bH e he) (by simp only[cj,fS,dI,dN,gh])⟩
    ·exact h.elim
   ·exact h.elim
  ·exact h.elim
 ·exact h.elim
end
end Go.Proofs.YteoamepgonpdlaaGreat
set_option linter.unusedVariables false
set_option linter.unusedSimpArgs false
namespace Go.Proofs.YteoamepgonpdlaaGreat
open Go.RowKit
section
variable {P:Program} {tt:c4} {N:Nat} {ids:List Nat} {o:Oper} {K:aQ} {B:aG} {k:aN→fk→Prop}
theorem RW {α:Type} (cur ys:List α) (off N:Nat) (h:off+ys.length≤N) (af:N≤cur.length):(cur.take off++ys++cur.drop (off+ys.length)).take N=(cur.take N).take off++ys++(cur.take N).drop (off+ys.length):=by
 rw[List.take_append,List.take_of_length_le (by simp;omega),List.take_take,Nat.min_eq_left (by omega),List.drop_take]
 congr 2
 simp
 omega
theorem RX {w:World} {dT sT ty e:TypeId} (hu:P.underlying dT=some (.slice e)) (ek:(P.info? e).map (·.size)=some 1) {v:Value} {M off n dCap m:Nat} {cs ys:List Value} {l7:Option Addr} {src:Value} {D:Nat→Prop} {e':TypeId}
  (dF:w.ownsRow 0 e' 1 v M cs) (hd:0 < n→ ∀g cap,v= .slice (some ⟨g,0,none⟩) M cap→M≤cap→l7=some ⟨g,off,none⟩) (nE:off+n≤M) (pS:fR D w 1 src m ys) (aa: ∀v∈ys,v.oneCell'=true):
  ∃x w',(Builtin.copy_ #[dT,sT] ty #[.slice l7 n dCap,src]).run P w= .ok x w'∧Fr (fun b=>v.ownBlock=some b) w w'∧w'.ownsRow 0 e' 1 v M (cs.take off++ys.take n++cs.drop (off+(ys.take n).length)):=by
 obtain⟨sp,Ce,rfl,aB,oM⟩:=P6 pS n
 have hle:(ys.take n).length≤n:=by rw[List.length_take];exact Nat.min_le_left _ _
 by_cases aC:(ys.take n).length=0
 ·refine⟨_,w,run_copy_none (P:=P) w dT sT ty e l7 sp n dCap m Ce hu ek (by rw[←aB];exact aC),Fr.refl _ _,?_⟩
  rw[List.eq_nil_of_length_eq_zero aC]
  simpa using dF
 ·obtain⟨ad,rfl,RY⟩:=oM (by omega)
  obtain⟨hlen,dF⟩:=dF
  rcases dF with⟨_,az⟩ |⟨g,cap,cur,hv,ag,bl,fF,dz,jX,KM⟩
  ·omega
  ·obtain rfl:=hd (by omega) g cap hv fF
   have aa8:cur.toList.length=cap:=by simpa using jX
   rw[Nat.mul_one] at KM hlen
   refine⟨_,_,run_copy_row (P:=P) w dT sT ty e g off n dCap ad m Ce cur e' (ys.take n) hu ek bl aB RY (by rw[←Array.length_toList];omega) (fun v hv=>aa v (List.mem_of_mem_take hv)),Am (by rw[hv];rfl),?_⟩
   refine⟨by simp only[List.length_append,List.length_take,List.length_drop,Nat.mul_one] at*;omega,.inr ⟨g,cap,_,hv,ag,setRow_heap w g _ _ e' _ bl,fF,dz,by simp only[List.size_toArray,List.length_append,List.length_take,List.length_drop,Nat.mul_one] at*;omega,?_⟩⟩
   rw[Nat.mul_one]
   show List.take M (cur.toList.take off++ys.take n++cur.toList.drop (off+(ys.take n).length))=_
   rw[RW _ _ _ _ (by omega) (by omega),KM]
theorem RZ (xs ys:List UInt8) {off n:Nat} (h:off+n≤xs.length):(laid xs off n ys).length=xs.length:=by
 simp only[laid,List.length_append,List.length_take,List.length_drop]
 omega
theorem R1 (xs ys:List UInt8) (off n:Nat):List.take off (xs.map iC)++List.take n (ys.map iC)++List.drop (off+(List.take n (ys.map iC)).length) (xs.map iC)=(laid xs off n ys).map iC:=by
 simp only[laid,List.map_append,List.map_take,List.map_drop,List.length_take,List.length_map]
theorem R2 {I:Nat→Prop} {w:World} {xs:List UInt8} {cs:List Value} (h:gA I w .u8 xs cs) (aB:cs.length=xs.length):cs=xs.map iC:=by
 refine List.ext_getElem? fun i=>?_
 rw[List.getElem?_map]
 cases hx:xs[i]? with
 |none=>
  have:=List.getElem?_eq_none_iff.1 hx
  rw[List.getElem?_eq_none_iff.2 (by omega)];rfl
 |some x=>
  have af:=h i x hx
  simpa[cg,aM,iC] using af
theorem R3 (I:Nat→Prop) (w:World) (xs:List UInt8):gA I w .u8 xs (xs.map iC):=fun i x hx=>by
 have hx:xs[i]? =some x:=hx
 simp[cg,aM,hx]
 rfl
theorem R4 {I:Nat→Prop} {w:World} {v:Value} {l:List UInt8} (bC: ∀b,I b→b < w.heap.size) (h:cg I w (.sl .u8) l (fun _=>some v)):fR I w 1 v l.length (l.map iC):=by
 obtain⟨A,cap,aC,aa,af,aA⟩:=h
 injection aC with aC
 refine⟨by simp,A,cap,aC,aa,af,fun hp=>?_⟩
 obtain⟨b,o,hA,ag,hx⟩:=aA hp
 refine⟨b,o,hA,ag,bC b ag,fun j u hu=>?_⟩
 rw[List.getElem?_map] at hu
 obtain⟨x,yD,rfl⟩:=Option.map_eq_some_iff.1 hu
 have:=hx j x yD
 simpa[cg,aM,iC] using this
theorem bI.R5 {c:Nat} {cr ch:bF} (hc:ax B c=some cr)
  (h: ∀(K':aQ) (B':aG),(∀x,x∈o.op.operands→aU K' x=aU K x)→ ∀(C:Ctx) (ρ:Nat→bn) (F:Nat→Nat→Prop) (a:Act) (w:World),Mem ids C B' ρ F w→ei K' ρ (bS C B' F w) a w→ax B' c=some cr→ ∃x w',(execOp a.eval o).run P w= .ok (.value x) w'∧Fr (F c) w w'∧
   (∀I,Ext (bS C B' F w) w I w'→Holds ρ I (F c) w' (ρ c) ch)):
  bI P N ids o K B (.c (.one .any)) ⟨[c],[],[(c,some ch)]⟩:=by
 rintro K' B' aa af - C a w ⟨hn,hd,ρ,F,az,hS⟩ bH fl Q hK
 have dw:ax B' c=some cr:=(af c (by simp)).trans hc
 obtain⟨x,w',hx,cv,eo⟩:=h K' B' aa C ρ F a w az hS dw
 obtain⟨bT,he⟩:=az.jV dw cv eo
 unfold Oper.wp
 rw[hx,Oper.upon_value]
 exact hK _ _ ⟨lz.trans hn,put_defers.trans hd,ρ,F,bT,(hS.mono he fun _ _ _=>rfl).lB (fun e he=>by rw[hn];exact bH e he) trivial⟩
theorem KN (aX:dP P tt) {T eG e:TypeId} {te:cD} {x y:Operand} {c:Call} {d off n:Nat} {ys:List UInt8} (av:o.op= .call c) (fF:c.callee= .builtin .copy) (dz:c.args.toList=[x,y]) (jX:c.argTypes.toList=[T,eG]) (he:elemOf tt T=some (e,te)) (j6:qv tt e=true) (aF:aU K y= .c (.one (.d (.cW .u8 ys))))
  (hx: ∀(K':aQ) (ρ:Nat→bn) (I:Nat→Prop) (a:Act) (w:World),ei K' ρ I a w→aU K' x=aU K x→ ∀(M:Nat),(ρ d).n=M→(∀e xs,ax B d=some (.row e .u8 xs)→List.length xs=M)→off+n≤M→ ∃l7 dCap,a.eval x= .slice l7 n dCap∧(0 < n→ ∀g cap,(ρ d).hdr= .slice (some ⟨g,0,none⟩) M cap→M≤cap→l7=some ⟨g,off,none⟩))
  (h:CA d off n ys B k):cw P N ids o K B k:=by
 have fL:c.args= #[x,y]:=Array.toList_inj.1 dz
 have iG:c.argTypes= #[T,eG]:=Array.toList_inj.1 jX
 obtain⟨sB,args,ts⟩:=c
 simp only at fF fL iG
 subst fF fL iG
 have bw:x∈o.op.operands:=by rw[av];simp[Op.operands,Call.operands]
 have bX:y∈o.op.operands:=by rw[av];simp[Op.operands,Call.operands]
 obtain⟨hu,inf,ds,bD⟩:=oL aX he
 obtain⟨_,aa9,i8,d8,KO,_,R6,_⟩:=wK aX j6
 have ek:(P.info? e).map (·.size)=some 1:=by rw[KO.info];simp[KO.size,R6]
 unfold CA at h
 split at h
 ·rename_i e' xs aB
  obtain⟨nE,h⟩:=h
  refine cw.of h <| bI.R5 aB fun K' B' aa C ρ F a w az hS gC=>?_
  obtain⟨hF,jb,cs,dF,kU⟩:=az.holds d _ gC
  have Kv:=dF
  obtain⟨cQ,A,cap,hv,_,_,_⟩:=fR.wk Kv
  have hn:(ρ d).n=xs.length:=by unfold bn.hdr at hv;injection hv
  have oK:cs=xs.map iC:=R2 kU (by have:=cQ;simp[aM] at this;exact this)
  obtain⟨l7,dCap,R7,rz⟩:=hx K' ρ _ a w hS (aa x bw) _ hn (fun aq aa' af=>by rw[aB] at af;cases af;rfl) nE
  have R8:=R4 (fun b ag=>ag.1) (hS.cW ((aa y bX).trans aF))
  obtain⟨r,w',ef,cv,jz⟩:=RX (P:=P) (w:=w) (dT:=T) (sT:=eG) (ty:=o.type) hu ek (dCap:=dCap) dF rz nE R8 (PZ _)
  refine⟨r,w',?_,cv.mono fun b _ ag=>(hF b).2 ag,fun I bA=>⟨hF,jb,List.take off cs++List.take n (List.map iC ys)++List.drop (off+(List.take n (List.map iC ys)).length) cs,?_,?_⟩⟩
  ·simp[execOp,av,resolve,invoke,builtin,R7,ef]
  ·have bk:List.length (α:=aJ .u8) (laid xs off n ys)=List.length (α:=aJ .u8) xs:=RZ xs ys nE
   show w'.ownsRow 0 e' 1 (ρ d).hdr (List.length (α:=aJ .u8) (laid xs off n ys)) _
   rw[bk]
   exact jz
  ·rw[oK]
   have ai:=R1 xs ys off n
   rw[ai]
   exact R3 I w' _
 ·exact h.elim
theorem R9 (aX:dP P tt) {T eG:TypeId} {x y:Operand} {c:Call} (av:o.op= .call c) (fF:c.callee= .builtin .copy) (dz:c.args.toList=[x,y]) (jX:c.argTypes.toList=[T,eG]) (h:FC tt T (aU K x) (aU K y) B k):cw P N ids o K B k:=by
 unfold FC at h
 split at h
 ·rename_i e te he
  split at h
  ·rename_i ys j6 aF
   split at h
   ·rename_i d hx
    split at h
    ·rename_i e' xs aB
     refine KN aX av fF dz jX he j6 aF (fun K' ρ I a w hS au M az CS nE=>⟨(ρ d).A,(ρ d).cap,?_,fun hp g cap hv _=>?_⟩) h
     ·have:=hS.own (au.trans hx)
      rw[this,CS e' xs aB,←az]
      rfl
     ·unfold bn.hdr at hv
      injection hv
    ·exact h.elim
   ·rename_i d s off n hx
    split at h
    ·rename_i hs
     have:=Nat.eq_of_beq_eq_true hs
     subst this
     refine KN aX av fF dz jX he j6 aF (fun K' ρ I a w hS au M az CS nE=>⟨_,_,hS.os (au.trans hx),fun hp g cap hv aba=>?_⟩) h
     unfold bn.hdr at hv
     injection hv with ai aq bk
     rw[if_neg (by omega),ai,Option.map_some,ql]
     simp
    ·exact h.elim
   ·exact h.elim
  ·exact h.elim
 ·exact h.elim
end
end Go.Proofs.YteoamepgonpdlaaGreat
set_option linter.unusedVariables false
set_option linter.unusedSimpArgs false
namespace Go.Proofs.YteoamepgonpdlaaGreat
open Go.RowKit
section
variable {P:Program} {tt:c4} {N:Nat} {ids:List Nat} {o:Oper} {K:aQ} {B:aG} {k:aN→fk→Prop}
theorem kq: ∀{aP:aG} {B:aG},nA B aP→ ∀{c ch},ax aP c=some ch→ax B c=some ch
 | [],B,h,c,ch,hc=>by cases hc
 |(d,x)::aP,B,h,c,ch,hc=>by
  rw[cC] at hc
  split at hc
  ·rename_i e
   subst e
   injection hc with hc
   subst hc
   exact h.1
  ·exact kq h.2 hc
theorem gi: ∀{B:aG} {c:Nat},c∈cS B↔ ∃ch,ax B c=some ch
 | [],c=>by simp[cS,ax]
 |(d,x)::B,c=>by
  simp only[cS,List.mem_cons,cC]
  by_cases e:d=c
  ·subst e;simp
  ·rw[if_neg e]
   constructor
   ·rintro(h |h)
    ·exact absurd h.symm e
    ·exact gi.1 h
   ·exact fun h=>.inr (gi.2 h)
theorem FZ: ∀{aP:aG} {bu:List Nat} {aZ:aG},oI aP bu aZ=true→ ∀{c},c∈cS aZ→c∈cS aP∨c∈bu
 |aP,bu,[],h,c,hc=>by simp[cS] at hc
 |aP,bu,(d,x)::aZ,h,c,hc=>by
  simp only[oI,Bool.and_eq_true,Bool.or_eq_true,List.contains_iff_mem] at h
  rcases List.mem_cons.1 hc with rfl |hc
  ·exact h.1.1
  ·exact FZ h.2 hc
theorem KP: ∀(aZ:aG) (aP:aG) (bu:List Nat) (B:aG),oI aP bu aZ=true→ ∀c,ax (e5 (jy [] aZ) B) c=(match ax aZ c with |some ch=>some ch |none=>ax B c)
 | [],_,_,B,_,c=>by simp[jy,Fk,e5,ax]
 |(d,x)::aZ,aP,bu,B,h,c=>by
  simp only[oI,Bool.and_eq_true,Bool.not_eq_true'] at h
  show ax (e5 (jy [] aZ) ((d,x)::B)) c=_
  rw[KP aZ aP bu ((d,x)::B) h.2 c,cC,cC]
  by_cases e:d=c
  ·subst e
   have hn:ax aZ d=none:=by
    cases aB:ax aZ d with
    |none=>rfl
    |some ch=>
     have:=gi.2 ⟨ch,aB⟩
     have af:=h.1.2
     rw[←Bool.not_eq_true,List.contains_iff_mem] at af
     exact absurd this af
   rw[hn,if_pos rfl,if_pos rfl]
  ·rw[if_neg e,if_neg e]
theorem CT: ∀(aP:aG) (qA:aG) (bu:List Nat) (aZ B:aG),oI qA bu aZ=true→ ∀c,ax (e5 (jy aP aZ) B) c=(match ax aZ c with |some ch=>some ch |none=>if c∈cS aP then none else ax B c)
 | [],qA,bu,aZ,B,h,c=>by
  rw[KP aZ qA bu B h c]
  simp[cS]
 |(d,x)::aP,qA,bu,aZ,B,h,c=>by
  simp only[jy,e5]
  rw[CT aP qA bu aZ (g8 B d) h c,jR]
  cases ax aZ c with
  |some ch=>rfl
  |none=>
   simp only[cS,List.mem_cons]
   by_cases e:d=c
   ·subst e;simp
   ·by_cases aq:c∈cS aP
    ·simp[aq]
    ·simp[e,aq,Ne.symm e]
theorem CU: ∀{bu:List Nat},q5 ids K B bu=true→ ∀c,c∈bu→gu ids K B c=true
 | [],_,c,hc=>by cases hc
 |d::bu,h,c,hc=>by
  simp only[q5,Bool.and_eq_true] at h
  rcases List.mem_cons.1 hc with rfl |hc
  ·exact h.1.1
  ·exact CU h.2 c hc
theorem KQ {ev:Operand→Value} {f:FuncId} {c:Call} {xs:List Operand} {w:World} (hf:l6 P f=true) (av:o.op= .call c) (aa:c.callee= .value (.func f)) (af:c.args.toList=xs) (Av:ev (.func f)= .func (.func f) #[] #[]):(execOp ev o).run P w= .ok (.enter f (xs.map ev).toArray) w:=by
 have fL:c.args=xs.toArray:=by rw[←af]
 obtain⟨sB,args,ts⟩:=c
 simp only at aa fL
 subst aa fL
 unfold l6 at hf
 split at hf
 ·rename_i fn nJ
  simp only[Bool.not_eq_true',Bool.or_eq_false_iff,beq_eq_false_iff_ne] at hf
  have af: ¬fn.body=none:=fun e=>by rw[e] at hf;simp at hf
  simp[execOp,av,resolve,invoke,Av,Deferred.ofValue,callFunc,go_sem,nJ]
  rw[if_neg hf.1,if_neg af]
 ·cases hf
theorem CV {xs:List Operand} (mem: ∀z∈xs,z∈o.op.operands) {K':aQ} {ρ:Nat→bn} {I:Nat→Prop} {a:Act} {w:World} (g1: ∀x,x∈o.op.operands→aU K' x=aU K x) (hS:ei K' ρ I a w) (i:Nat) (v:aN) (x:Value) (hv:(xs.map (aU K))[i]? =some v) (hx:(xs.map a.eval)[i]? =some x):cj ρ I w v x:=by
 rw[List.getElem?_map] at hv hx
 cases ay:xs[i]? with
 |none=>rw[ay] at hv;cases hv
 |some z=>
  rw[ay] at hv hx
  simp only[Option.map_some,Option.some.injEq] at hv hx
  subst hv hx
  rw[←g1 z (mem z (List.mem_of_getElem? ay))]
  exact hS.get z
theorem F0 {f:FuncId} {args:List aN} {xs:List Operand} (mem: ∀z∈xs,z∈o.op.operands)
  (hex: ∀(K':aQ) (ρ:Nat→bn) (I:Nat→Prop) (a:Act) (w:World),(∀x,x∈o.op.operands→aU K' x=aU K x)→ei K' ρ I a w→ ∃b6:List Value,(l6 P f=true→(execOp a.eval o).run P w= .ok (.enter f b6.toArray) w)∧b6.length=args.length∧ ∀(i:Nat) (v:aN) (x:Value),args[i]? =some v→b6[i]? =some x→cj ρ I w v x)
  (h:wA P f args ids K B k):cw P N ids o K B k:=by
 obtain⟨aP,bu,res,aZ,⟨iH,nJ⟩,iN,bD,h⟩:=h
 rw[tH] at h
 simp only[Bool.and_eq_true] at bD
 have nK:=bD.2
 refine⟨_,_,h,?_,CU bD.1⟩
 rintro K' B' g1 g2 bL C a w ⟨hn,hd,ρ,F,az,hS⟩ bH fl Q hK
 have eN: ∀{c ch},ax aP c=some ch→ax B' c=some ch:=fun {c ch} hc=>(g2 c (gi.2 ⟨ch,hc⟩)).trans (kq iN hc)
 have ou: ∀c∈bu,(∀s,(look K' s).has c=false)∧ax B' c=none∧(∀d ch,ax B' d=some ch→ch.has c=false)∧c∉ids:=fun c hc=>kT (bL c hc)
 obtain⟨b6,ef,qB,sD⟩:=hex K' ρ _ a w g1 hS
 have hc:=nJ ρ F (bS C B' F w) w b6 (fun b ag=>ag.1) (fun c ch hc=>az.holds c ch (eN hc)) (fun c ch hc b ag=>⟨(az.own c ch (eN hc) b ag).1,fun bC=>bC.2.2 c ch (eN hc) ag⟩)
  (fun c bY ch bg b aa af=>az.e4 c bY ch bg b (eN aa) (eN af)) qB sD
 unfold Oper.wp
 rw[ef iH,Oper.upon_enter]
 refine hc.mono ?_
 rintro e w' ⟨x,ρ',F',rfl,cv,di,I',kG,iu,eo,aT,jA,ep⟩
 have Aw: ∀c,ax (e5 (jy aP aZ) B') c=(match ax aZ c with |some ch=>some ch |none=>if c∈cS aP then none else ax B' c):=CT aP aP bu aZ B' nK
 have oP: ∀c ch,ax (e5 (jy aP aZ) B') c=some ch→ax aZ c=some ch∨(ax aZ c=none∧c∉cS aP∧ax B' c=some ch):=fun c ch hc=>by
  rw[Aw] at hc
  cases ag:ax aZ c with
  |some bg=>rw[ag] at hc;exact .inl hc
  |none=>
   rw[ag] at hc
   simp only at hc
   split at hc
   ·cases hc
   ·rename_i au;exact .inr ⟨rfl,au,hc⟩
 let cY:Nat→Nat→Prop:=fun c=>if c∈cS aZ then F' c else F c
 have kV: ∀c ch,ax aZ c=some ch→cY c=F' c:=fun c ch hc=>if_pos (gi.2 ⟨ch,hc⟩)
 have Ax: ∀c,ax aZ c=none→cY c=F c:=fun c hc=>if_neg (fun au=>by
  obtain⟨ch,h⟩:=gi.1 au
  rw[hc] at h;cases h)
 have j8: ∀c ch,ax aZ c=some ch→c∈cS aP∨c∈bu:=fun c ch hc=>FZ nK (gi.2 ⟨ch,hc⟩)
 have tS: ∀c ch,ax (e5 (jy aP aZ) B') c=some ch→(c∈cS aP∨c∈bu)→ax aZ c=some ch:=fun c ch hc bT=>by
  rcases oP c ch hc with h |⟨aa,af,aA⟩
  ·exact h
  ·rcases bT with h |h
   ·exact absurd h af
   ·rw[(ou c h).2.1] at aA;cases aA
 have ov:Ext I' w' (bS C (e5 (jy aP aZ) B') cY w') w':=fun b ag=>by
  obtain⟨ai,aq⟩:=iu b ag
  refine⟨⟨ai,?_,fun c ch hc hF=>?_⟩,rfl⟩
  ·rcases aq with aq |⟨c,ch,aq,bk⟩ |aq
   ·exact aq.2.1
   ·exact .inr ((az.own c ch (eN aq) b bk).2)
   ·exact .inr (.inr (az.fresh aq))
  ·rcases oP c ch hc with h |⟨aa,af,aA⟩
   ·rw[kV c ch h] at hF
    exact(aT c ch h b hF).2.1 ag
   ·rw[Ax c aa] at hF
    rcases aq with aq |⟨d,bg,aq,bk⟩ |aq
    ·exact aq.2.2 c ch aA hF
    ·exact az.e4 d c bg ch b (eN aq) aA (fun e=>af (e▸gi.2 ⟨bg,aq⟩)) bk hF
    ·have:=(az.own c ch aA b hF).1;omega
 obtain⟨bT,bA⟩:=az.step (B':=e5 (jy aP aZ) B') (ρ':=ρ') (F':=cY) (w':=w') (fun c=>c∈cS aP∨c∈bu) (fun c=>c∈bu)
  (cv.mono fun b _ ⟨c,ch,aa,af⟩=>⟨c,ch,eN aa,.inl (gi.2 ⟨ch,aa⟩),af⟩)
  (fun c ch hc hn=>by
   rcases oP c ch hc with h |⟨_,_,aA⟩
   ·exact absurd (j8 c ch h) hn
   ·exact aA)
  di
  (fun c hn=>by
   cases ag:ax aZ c with
   |none=>exact Ax c ag
   |some ch=>exact absurd (j8 c ch ag) hn)
  (fun c hc hn=>(ou c hn).2.2.2 hc) (fun c h=>.inr h)
  (fun c ch hc _ d hd hn=>by rw[(ou d hn).2.2.1 c ch hc] at hd;cases hd)
  (fun c ch hc bT _=>by
   have ag:=tS c ch hc bT
   rw[kV c ch ag]
   exact Holds.cA ov (fun _ _=>rfl) (Nat.le_refl _) ch (fun _ _=>rfl) (eo c ch ag))
  (fun c ch hc bT b ag=>by
   have wN:=tS c ch hc bT
   rw[kV c ch wN] at ag
   obtain⟨ai,_,bk⟩:=aT c ch wN b ag
   refine⟨ai,bk.imp (fun⟨cy,cr,aa,af⟩=>⟨cy,cr,eN aa,.inl (gi.2 ⟨cr,aa⟩),af⟩) id⟩)
  (fun c bY ch bg b hc dw j8 jB bf ag dm=>by
   have aa:=tS c ch hc j8
   have af:=tS bY bg dw jB
   rw[kV c ch aa] at ag
   rw[kV bY bg af] at dm
   exact jA c bY ch bg b aa af bf ag dm)
 refine hK _ _ ⟨lz.trans hn,put_defers.trans hd,ρ',cY,bT,(hS.mono bA fun s d hd=>di d fun hn=>by rw[(ou d hn).1 s] at hd;cases hd).lB (fun e he=>by rw[hn];exact bH e he) (cj.mono ov _ _ (fun _ _=>rfl) ep)⟩
theorem KR {f:FuncId} {c:Call} {xs:List Operand} (av:o.op= .call c) (aa:c.callee= .value (.func f)) (af:c.args.toList=xs) (h:wA P f (xs.map (aU K)) ids K B k):cw P N ids o K B k:=by
 have mem: ∀z∈xs,z∈o.op.operands:=fun z aS=>by
  rw[av]
  simp only[Op.operands,Call.operands,Array.mem_append]
  exact .inr (Array.mem_toList_iff.1 (by rw[af];exact aS))
 exact F0 mem (fun K' ρ I a w g1 hS=>⟨xs.map a.eval,fun iH=>KQ iH av aa af rfl,by simp,CV mem g1 hS⟩) h
theorem KS {ρ:Nat→bn} {I:Nat→Prop} {w:World}: ∀(vs:List aN) (l:List ki) (us:List Value),wC vs=some l→us.length=vs.length→(∀(i:Nat) (v:aN) (x:Value),vs[i]? =some v→us[i]? =some x→cj ρ I w v x)→gS ρ I w l us
 | [],l,us,h,aB,_=>by
  simp only[wC,Option.some.injEq] at h
  subst h
  exact List.eq_nil_of_length_eq_zero aB
 |v::vs,l,[],h,aB,_=>by simp at aB
 |v::vs,l,u::us,h,aB,hd=>by
  have aY:=fun r hr=>KS vs r us hr (by simpa using aB) (fun i v x hv hx=>hd (i+1) v x (by simpa using hv) (by simpa using hx))
  have aC:=hd 0 v u rfl rfl
  unfold wC at h
  split at h
  ·rename_i e;simp at e
  ·rename_i c o q9 e
   injection e with ai aq
   subst ai aq
   split at h
   ·rename_i r hr
    injection h with h
    subst h
    exact⟨u,us,rfl,aC,aY r hr⟩
   ·cases h
  ·rename_i x q9 e
   injection e with ai aq
   subst ai aq
   split at h
   ·rename_i r hr
    injection h with h
    subst h
    exact⟨u,us,rfl,aC,aY r hr⟩
   ·cases h
  ·cases h
theorem Sa {f:FuncId} {fs cs:Array Operand} (av:o.op= .makeFunc (.func f) fs cs) (h:match fs.toList,wC (cs.toList.map (aU K)) with
  | [],some l=>k (.c (.one (.eH f l))) bt
  |_,_=>False):cw P N ids o K B k:=by
 split at h
 ·rename_i l uZ aB
  have mem: ∀z∈cs.toList,z∈o.op.operands:=fun z aS=>by
   rw[av]
   simp only[Op.operands,Array.mem_append]
   exact .inr (Array.mem_toList_iff.1 aS)
  refine cw.of h <| bI.val fun K' B' g1 g2 C ρ F a w az hS=>?_
  have Sb:fs= #[]:=Array.toList_eq_nil_iff.1 uZ
  refine⟨.func (.func f) #[] (List.toArray (cs.toList.map a.eval)),(by
   have e:cs.map a.eval=List.toArray (cs.toList.map a.eval):=Array.toList_inj.1 (by simp)
   simp[execOp,av,Instr.makeFunc,Sb,e]),_,rfl,?_⟩
  exact KS _ l _ aB (by simp) (CV mem g1 hS)
 ·exact h.elim
theorem F1 {ev:Operand→Value} {f:FuncId} {c:Call} {x:Operand} {xs:List Operand} {cs:List Value} {w:World} (hf:l6 P f=true) (av:o.op= .call c) (aa:c.callee= .value x) (af:c.args.toList=xs) (Av:ev x= .func (.func f) #[] (List.toArray cs)):(execOp ev o).run P w= .ok (.enter f (xs.map ev++cs).toArray) w:=by
 have fL:c.args=xs.toArray:=by rw[←af]
 obtain⟨sB,args,ts⟩:=c
 simp only at aa fL
 subst aa fL
 unfold l6 at hf
 split at hf
 ·rename_i fn nJ
  simp only[Bool.not_eq_true',Bool.or_eq_false_iff,beq_eq_false_iff_ne] at hf
  have af: ¬fn.body=none:=fun e=>by rw[e] at hf;simp at hf
  simp[execOp,av,resolve,invoke,Av,Deferred.ofValue,callFunc,go_sem,nJ]
  rw[if_neg hf.1,if_neg af]
 ·cases hf
theorem gS.b6 {ρ:Nat→bn} {I:Nat→Prop} {w:World}: ∀(l:List ki) (vs:List Value),gS ρ I w l vs→vs.length=(oh l).length∧ ∀(i:Nat) (v:aN) (x:Value),(oh l)[i]? =some v→vs[i]? =some x→cj ρ I w v x
 | [],vs,h=>by rw[show vs=[] from h];exact⟨rfl,fun i v x hv=>by simp[oh] at hv⟩
 | .p c o::l,_,⟨v,r,e,aa,af⟩=>by
  subst e
  obtain⟨g1,g2⟩:=gS.b6 l r af
  refine⟨by simp[oh,g1],fun i u x hu hx=>?_⟩
  match i with
  |0=>
   simp only[oh,List.getElem?_cons_zero,Option.some.injEq] at hu hx
   subst hu hx
   exact aa
  |i+1=>exact g2 i u x (by simpa[oh] using hu) (by simpa using hx)
 | .d y::l,_,⟨v,r,e,aa,af⟩=>by
  subst e
  obtain⟨g1,g2⟩:=gS.b6 l r af
  refine⟨by simp[oh,g1],fun i u x hu hx=>?_⟩
  match i with
  |0=>
   simp only[oh,List.getElem?_cons_zero,Option.some.injEq] at hu hx
   subst hu hx
   exact aa
  |i+1=>exact g2 i u x (by simpa[oh] using hu) (by simpa using hx)
theorem Sc {f:FuncId} {c:Call} {t:Nat} {l:List ki} {xs:List Operand} (av:o.op= .call c) (aa:c.callee= .value (.tmp t)) (af:c.args.toList=xs) (aB:look K t= .c (.one (.eH f l))) (h:wA P f (xs.map (aU K)++oh l) ids K B k):cw P N ids o K B k:=by
 have mem: ∀z∈xs,z∈o.op.operands:=fun z aS=>by
  rw[av]
  simp only[Op.operands,Call.operands,Array.mem_append]
  exact .inr (Array.mem_toList_iff.1 (by rw[af];exact aS))
 have mt:Operand.tmp t∈o.op.operands:=by
  rw[av]
  simp only[Op.operands,Call.operands,Array.mem_append,aa]
  exact .inl (by simp)
 refine F0 mem (fun K' ρ I a w g1 hS=>?_) h
 have hv:=hS (t)
 have au:look K' t=look K t:=g1 (.tmp t) mt
 rw[au,aB] at hv
 obtain⟨vs,e,hc⟩:=hv
 obtain⟨cK,c5⟩:=gS.b6 l vs hc
 refine⟨xs.map a.eval++vs,fun iH=>F1 iH av aa af e,by simp[cK],fun i v x hv hx=>?_⟩
 by_cases ay:i < xs.length
 ·rw[List.getElem?_append_left (by simpa using ay)] at hv hx
  exact CV mem g1 hS i v x hv hx
 ·rw[List.getElem?_append_right (by simp;omega)] at hv hx
  simp only[List.length_map] at hv hx
  exact c5 _ v x hv hx
theorem KT: ∀bs:List Nat,(qo bs).length=(tK bs).length
 | []=>rfl
 |b::l=>by simp[qo,tK,KT l]
theorem KU {ρ:Nat→bn} {I:Nat→Prop} {w:World}: ∀(bs:List Nat) (i:Nat) (u:aN) (x:Value),(tK bs)[i]? =some u→(qo bs)[i]? =some x→cj ρ I w u x
 | [],i,u,x,hu,_=>by simp[tK] at hu
 |b::l,0,u,x,hu,hx=>by
  simp only[tK,qo,List.getElem?_cons_zero,Option.some.injEq] at hu hx
  subst hu hx
  exact rfl
 |b::l,i+1,u,x,hu,hx=>by
  simp only[tK,qo,List.getElem?_cons_succ] at hu hx
  exact KU l i u x hu hx
theorem Sd {c:Call} {t:Nat} {y:Nat×List Nat} {xs:List Operand} (av:o.op= .call c) (aa:c.callee= .value (.tmp t)) (af:c.args.toList=xs) (aB:look K t= .c (.one (.d (.fn y)))) (h:wA P y.1 (xs.map (aU K)++tK y.2) ids K B k):cw P N ids o K B k:=by
 have mem: ∀z∈xs,z∈o.op.operands:=fun z aS=>by
  rw[av]
  simp only[Op.operands,Call.operands,Array.mem_append]
  exact .inr (Array.mem_toList_iff.1 (by rw[af];exact aS))
 have mt:Operand.tmp t∈o.op.operands:=by
  rw[av]
  simp only[Op.operands,Call.operands,Array.mem_append,aa]
  exact .inl (by simp)
 refine F0 mem (fun K' ρ I a w g1 hS=>?_) h
 have hv:=hS (t)
 have au:look K' t=look K t:=g1 (.tmp t) mt
 rw[au,aB] at hv
 have e:a.tmps.getD t undef= .func (.func y.1) #[] (List.toArray (qo y.2)):=hv
 refine⟨xs.map a.eval++qo y.2,fun iH=>F1 iH av aa af e,by simp[KT],fun i v x hv hx=>?_⟩
 by_cases ay:i < xs.length
 ·rw[List.getElem?_append_left (by simpa using ay)] at hv hx
  exact CV mem g1 hS i v x hv hx
 ·rw[List.getElem?_append_right (by simp;omega)] at hv hx
  simp only[List.length_map] at hv hx
  exact KU _ _ v x hv hx
theorem Se (aX:dP P tt) {T:TypeId} {x:Operand} {c:Call} (av:o.op= .call c) (fF:c.callee= .builtin .len) (dz:c.args.toList=[x]) (jX:c.argTypes.toList=[T]) (h:match Fo tt T B (aU K x) with
  |some (n,rc)=>k (.c (.one (.d (.int .i64 (n:Int))))) ⟨rc,[],[]⟩
  |none=>False):cw P N ids o K B k:=by
 have fL:c.args= #[x]:=Array.toList_inj.1 dz
 have iG:c.argTypes= #[T]:=Array.toList_inj.1 jX
 obtain⟨sB,args,ts⟩:=c
 simp only at fF fL iG
 subst fF fL iG
 have bw:x∈o.op.operands:=by rw[av];simp[Op.operands,Call.operands]
 have run: ∀{ev:Operand→Value} {w:World} {A:Option Addr} {n cap:Nat} {e:Nat},ev x= .slice A n cap→P.underlying T=some (.slice e)→(execOp ev o).run P w= .ok (.value (.int .i64 (n:Int))) w:=fun {ev w A n cap e} aa cl=>by
  simp[execOp,av,aa,resolve,invoke,builtin,Builtin.len_,run_underlying cl,goInt]
 split at h
 ·rename_i n rc hn
  refine cw.of h ?_
  unfold Fo at hn
  split at hn
  ·rename_i s hx
   split at hn
   ·rename_i cu
    injection hn with hn
    injection hn with ai aq
    subst ai aq
    refine bI.one hx bw fun K' ρ I a w hS e=>⟨_,?_,rfl⟩
    simp[execOp,av,hS.str e,resolve,invoke,builtin,Builtin.len_,run_underlying (CL aX cu),goInt,wH]
   ·cases hn
  ·rename_i u xs hx
   split at hn
   ·rename_i p he
    obtain⟨hu,_⟩:=oL aX (e:=p.1) (te:=p.2) he
    injection hn with hn
    injection hn with ai aq
    subst ai aq
    refine bI.one hx bw fun K' ρ I a w hS e=>?_
    obtain⟨A,cap,bk,_⟩:=hS.cW e
    injection bk with bk
    exact⟨_,run bk hu,rfl⟩
   ·cases hn
  ·rename_i hx
   split at hn
   ·rename_i p he
    obtain⟨hu,_⟩:=oL aX (e:=p.1) (te:=p.2) he
    injection hn with hn
    injection hn with ai aq
    subst ai aq
    exact bI.one hx bw fun K' ρ I a w hS e=>⟨_,run (hS.ee e) hu,rfl⟩
   ·cases hn
  ·rename_i lG hx
   split at hn
   ·rename_i p he
    obtain⟨hu,_⟩:=oL aX (e:=p.1) (te:=p.2) he
    split at hn
    ·rename_i e' u xs aB
     injection hn with hn
     injection hn with ai aq
     subst ai aq
     refine bI.val fun K' B' g1 g2 C ρ F a w az hS=>?_
     obtain⟨hF,jb,cs,dF,_⟩:=az.holds lG _ ((g2 lG (by simp)).trans aB)
     have eB:=hS.own ((g1 x bw).trans hx)
     obtain⟨_,A,cap,hv,_⟩:=fR.wk dF
     exact⟨_,run (eB.trans hv) hu,rfl⟩
    ·cases hn
   ·cases hn
  ·rename_i lG hx
   split at hn
   ·rename_i p cu
    split at hn
    ·rename_i aO aV es aB
     injection hn with hn
     injection hn with ai aq
     subst ai aq
     refine bI.val fun K' B' g1 g2 C ρ F a w az hS=>?_
     obtain⟨hF,dM,clock,ag,hm,eA⟩:=az.holds lG _ ((g2 lG (by simp)).trans aB)
     have eB:=hS.mp ((g1 x bw).trans hx)
     refine⟨.int .i64 (es.length:Int),?_,rfl⟩
     rw[←E0 hm]
     simp[execOp,av,eB,resolve,invoke,builtin,Builtin.len_,run_underlying (CN aX (kt:=p.1) (et:=p.2) cu),goInt,MapKept.run_getObj_map ag]
    ·cases hn
   ·cases hn
  ·cases hn
 ·exact h.elim
theorem KV {x y:Operand} {c:Call} {bi:Builtin} (KW:bi= .min∨bi= .max) (av:o.op= .call c) (fF:c.callee= .builtin bi) (dz:c.args.toList=[x,y]) (h:match aU K x,aU K y with
  | .c (.one (.d (.int .i64 a))),.c (.one (.d (.int .i64 b)))=>k (.c (.one (.d (.int .i64 (if bi= .min then min a b else max a b))))) bt
  |_,_=>False):cw P N ids o K B k:=by
 have fL:c.args= #[x,y]:=Array.toList_inj.1 dz
 obtain⟨sB,args,ts⟩:=c
 simp only at fF fL
 subst fF fL
 have bw:x∈o.op.operands:=by rw[av];simp[Op.operands,Call.operands]
 have bX:y∈o.op.operands:=by rw[av];simp[Op.operands,Call.operands]
 split at h
 ·rename_i a b hx aF
  refine cw.of h <| bI.two hx aF bw bX fun K' ρ I ac w hS ai aq=>⟨_,?_,rfl⟩
  rcases KW with rfl |rfl
  ·have e:(if b < a then b else a)=min a b:=by rw[Int.min_def];split <;>split <;>omega
   simp[execOp,av,hS.int ai,hS.int aq,resolve,invoke,builtin,run_min_int2,e]
  ·have e:(if b >a then b else a)=max a b:=by rw[Int.max_def];split <;>split <;>omega
   simp only[gt_iff_lt] at e
   simp[execOp,av,hS.int ai,hS.int aq,resolve,invoke,builtin,run_max_int2,e]
 ·exact h.elim
theorem lD.bool {P:Program} {T:Nat} {ti:cD} {i:TypeInfo} {d:TypeDesc} (h:lD P T ti i d) (au:ti.eu= .bool):P.underlying T=some .bool:=by
 have:=h.eu
 rw[au] at this
 rw[h.und]
 cases d <;>simp[su] at this⊢
theorem KX (aX:dP P tt) {T:Nat} (h:isBool tt T=true):P.underlying T=some .bool:=by
 unfold isBool at h
 split at h
 ·rename_i ti gK
  split at h
  ·rename_i au
   obtain⟨_,_,bD⟩:=aX.at_ gK
   exact bD.bool au
  ·cases h
 ·cases h
theorem KY (aX:dP P tt) {T:Nat} (h:Fl tt T=true): ∃e,P.underlying T=some (.pointer e):=by
 unfold Fl at h
 split at h
 ·rename_i ti gK
  split at h
  ·rename_i e au
   obtain⟨_,_,bD⟩:=aX.at_ gK
   exact⟨e,bD.ptr au⟩
  ·cases h
 ·cases h
theorem KZ (aX:dP P tt) {T:Nat} (h:ye tt T=true): ∃e i,P.underlying T=some (.pointer e)∧P.info? e=some i∧i.size≠0:=by
 unfold ye at h
 split at h
 ·rename_i ti gK
  split at h
  ·rename_i e au
   split at h
   ·rename_i te uW
    obtain⟨_,_,bD⟩:=aX.at_ gK
    obtain⟨i,_,sA⟩:=aX.at_ uW
    exact⟨e,i,bD.ptr au,sA.info,by rw[sA.size];exact sA.pos⟩
   ·cases h
  ·cases h
 ·cases h
theorem CW (h:Ad P ids o K B k):cw P N ids o K B k:=by
 obtain⟨v,e,aa,af,aA⟩:=h
 rw[tH] at aA
 exact⟨v,e,aA,aa N,CU af⟩
set_option maxHeartbeats 1000000 in
theorem Sf (aX:dP P tt) (h:FD P tt ids o K B k):cw P N ids o K B k:=by
 unfold FD at h
 split at h
 ·exact Kp (.inl ‹_›) h
 ·exact Kp (.inr ‹_›) h
 ·exact QC ‹_› h
 ·rename_i op T x y gB av
  have fin:(∃v,k v bt∧bI P N ids o K B v bt)→cw P N ids o K B k:=fun⟨v,aa,af⟩=>cw.of aa af
  split at h
  ·rename_i cu;exact fin (Kk av (fun T=>KZ aX) (KY aX cu) h)
  ·rename_i cu;exact fin (Kk av (fun T=>KZ aX) (KY aX cu) h)
  ·split at h
   ·exact h.elim
   ·exact h.elim
   ·rename_i hx
    split at h
    ·rename_i ag;exact fin (Kl av (KX aX ag) (.inl hx) h)
    ·exact h.elim
   ·rename_i hx
    split at h
    ·rename_i ag;exact fin (Kl av (KX aX ag) (.inr hx) h)
    ·exact h.elim
   ·rename_i aa af _ _
    exact fin (Kj av (.inr fun c d=>⟨aa c d,af _⟩) h)
  ·exact h.elim
 ·exact QD ‹_› h
 ·exact QE ‹_› h
 ·exact QF ‹_› h
 ·exact QG aX ‹_› h
 ·exact QI aX ‹_› h
 ·exact QV aX ‹_› h
 ·exact Q0 aX ‹_› h
 ·exact Q1 aX ‹_› h
 ·exact Q3 aX ‹_› h
 ·rename_i T ps av
  split at h
  ·rename_i nH
   exact Rc aX av h nH
  ·exact h.elim
 ·rename_i T n ps hn av
  exact Rf aX av hn h
 ·exact Rh aX ‹_› h
 ·exact Ri aX ‹_› h
 ·rename_i av
  split at h
  ·rename_i hx
   exact Rq aX av hx h
  ·rename_i c o hx
   split at h
   ·rename_i Sg
    have:=Nat.eq_of_beq_eq_true Sg
    subst this
    exact RB aX av hx h
   ·exact h.elim
  ·exact Rm aX av h
 ·exact RA aX ‹_› h
 ·exact Rn aX ‹_› h
 ·exact Rv aX ‹_› h
 ·exact Rx aX ‹_› h
 ·exact RE aX ‹_› h
 ·exact Sa ‹_› h
 ·exact RG aX ‹_› h
 ·rename_i c av
  split at h
  ·rename_i f aa
   exact KR av aa rfl h
  ·rename_i t aa
   split at h
   ·rename_i f l aB
    exact Sc av aa rfl aB h
   ·rename_i x aB
    exact Sd av aa rfl aB h
   ·exact h.elim
  ·rename_i x aa af
   split at h
   ·rename_i T cu
    exact Se aX av aa af cu h
   ·exact h.elim
  ·rename_i x y aa af
   split at h
   ·rename_i T eG cu
    exact Rz aX av aa af cu h
   ·exact h.elim
  ·rename_i x y aa af
   refine KV (bi:=.min) (.inl rfl) av aa af ?_
   simp only[if_pos rfl]
   exact h
  ·rename_i x y aa af
   refine KV (bi:=.max) (.inr rfl) av aa af ?_
   simp only[reduceCtorEq,if_false]
   exact h
  ·rename_i x y aa af
   split at h
   ·rename_i T eG cu
    exact R9 aX av aa af cu h
   ·exact h.elim
  ·rename_i x y aa af
   split at h
   ·rename_i T eG cu
    split at h
    ·rename_i he
     have:=Nat.eq_of_beq_eq_true he
     subst this
     exact RL aX av aa af cu h
    ·exact RS aX av aa af cu h
   ·exact h.elim
  ·exact CW h
 ·exact CW h
theorem Ay (aX:dP P tt) (h:yh P tt ids o K B k):cw P N ids o K B k:=by
 unfold yh at h
 split at h
 ·exact CW h
 ·exact Sf aX h
end
end Go.Proofs.YteoamepgonpdlaaGreat
