/-
Part 5 of the proof that stands in YteoamepgonpdlaaGreatPcRow, with what it needs from the parts ahead; the parts of this text: SndT.
-/
import Derived.Lib.AppendStr
import Derived.Test.YteoamepgonpdlaaGreatPc4
set_option linter.unusedVariables false
set_option linter.unusedSimpArgs false
set_option maxRecDepth 10000
namespace Go.Proofs.YteoamepgonpdlaaGreat
open Go.RowKit
section
variable {P:Program} {tt:cY} {N:Nat} {ids:List Nat} {o:Oper} {K:aQ} {B:aG} {k:aO→fA→Prop}
theorem SF {w:World} (t e:TypeId) (cc:P.underlying t=some (.slice e)) {i:TypeInfo} (aD:P.info? e=some i) {z:Value} (aS:i.zero=some z) (y9:z.cells= #[.int .u8 0]) (hs:i.size=1) (ag:i.bytes=1) (n:Nat) (hn:n≤4294967296):
  (Instr.makeSlice t (.int .i64 (n:Int)) (.int .i64 (n:Int))).run P w= .ok (.slice (some ⟨w.heap.size,0,none⟩) n n) (w.alloc (.cells (List.replicate n (.int .u8 0)).toArray e)):=by
 have h:=run_make (P:=P) w t e i _ cc aD aS .i64 .i64 (n:Int) (n:Int) (by omega) (by omega) (by rw[ag];omega) (by omega)
 rw[h,hs,y9]
 simp only[Int.toNat_natCast,Nat.mul_one]
 congr 3
 simp[madeCells]
 apply Array.ext
 ·simp
 ·intro i aa af
  simp[Nat.mod_one]
theorem Lz {ti:cB} {T:Nat} {i:TypeInfo} {d:TypeDesc} (bB:mg P T ti i d) (aS:ti.zero=[.d (.int .u8 0)]): ∃z,i.zero=some z∧z.cells= #[.int .u8 0]:=by
 obtain⟨z,aa,af⟩:=bB.zero
 refine⟨z,aa,?_⟩
 rw[aS] at af
 have:z.cells.toList=[.int .u8 0]:=by
  match hc:z.cells.toList,af with
  | [v],af=>
   simp only[s6,Bool.and_true] at af
   have:=(Ln (ρ:=fun _=>⟨0,none,0,0⟩) (I:=fun _=>False) (w:=default) af).1
   rw[show v=_ from this]
  | [],af=>simp[s6] at af
  |_::_::_,af=>simp[s6] at af
 exact Array.toList_inj.1 this
theorem SG (bh:dQ P tt) {T:TypeId} {x y:Operand} (az:o.op= .makeSlice T x y) (h:match elemOf tt T,aU K x,aU K y,o.dst with
  |some (e,te),.c (.one (.d (.int .i64 n))),.c (.one (.d (.int .i64 m))),some d=>match q4 tt e with
   |true=>(n=m∧0≤n∧n≤4294967296)∧gz ids K B d=true∧k (.c (.one (.own d))) ⟨[],[d],[(d,some (.row e .u8 (List.replicate n.toNat (0:UInt8))))]⟩
   |false=>False
  |_,_,_,_=>False):cv P N ids o K B k:=by
 have m1:x∈o.op.operands:=by rw[az];simp[Op.operands]
 have m2:y∈o.op.operands:=by rw[az];simp[Op.operands]
 split at h
 ·rename_i e te n m d he hx aF hd
  obtain⟨hu,inf,ds,bB⟩:=pK bh he
  split at h
  ·rename_i q7
   obtain⟨q7,ti,i2,d2,r8,q8,eR,pO⟩:=xo bh q7
   obtain⟨z,aS,y9⟩:=Lz r8 q8
   obtain⟨⟨rfl,aE,aa⟩,cr,h⟩:=h
   refine cv.bA h cr <| bH.make (fun d h=>y7 h) fun K' B' g1 g2 C ρ F a w aA hS hn=>?_
   have eF:=hS.int ((g1 x m1).trans hx)
   have eP:=hS.int ((g1 y m2).trans aF)
   have ep:=SF (P:=P) (w:=w) T e hu r8.info aS y9 (r8.size.trans eR) (r8.bytes.trans pO) n.toNat (by omega)
   rw[show((n.toNat:Nat):Int)=n by omega] at ep
   refine⟨.slice (some ⟨w.heap.size,0,none⟩) n.toNat n.toNat,w.alloc (.cells (List.replicate n.toNat (.int .u8 0)).toArray e),⟨w.heap.size,some ⟨w.heap.size,0,none⟩,n.toNat,n.toNat⟩,fun b=>b=w.heap.size,?_,uq w _,fun b ag=>by subst ag;exact⟨Nat.le_refl _,by simp⟩,fun I he ag=>⟨⟨?_,?_,List.replicate n.toNat (.int .u8 0),?_,?_⟩,?_⟩⟩
   ·simp only[execOp,az,Sem.run_bind,eF,eP,ep,Result.andThen_ok,Sem.run_pure]
   ·intro b
    simp[bq.hdr,Value.ownBlock,eq_comm]
   ·intro b ag
    simp[bq.hdr,Value.ownBlock] at ag
    exact ag.symm
   ·have:=AY w e 1 n.toNat (List.replicate n.toNat (.int .u8 0)) (by simp) (by simp only[maxLen];omega)
    have aj:List.length (α:=aI .u8) (List.replicate n.toNat (0:UInt8))=n.toNat:=List.length_replicate
    rw[aj]
    exact this
   ·intro i z aS
    obtain⟨aD,mm⟩:=List.getElem?_eq_some_iff.1 aS
    have q8:z=(0:UInt8):=by rw[←mm];exact List.getElem_replicate ..
    have aD:i < n.toNat:=by
     have aj:List.length (α:=aI .u8) (List.replicate n.toNat (0:UInt8))=n.toNat:=List.length_replicate
     rw[aj] at aD
     exact aD
    subst q8
    show(List.replicate n.toNat (Value.int .u8 0))[i*1+0]? =some (Value.int .u8 ((0:UInt8).toNat:Int))
    rw[Nat.mul_one,Nat.add_zero,List.getElem?_replicate,if_pos aD]
    rfl
   ·simp only[b8,fZ,dN,dR,bq.hdr]
  ·exact h.elim
 ·exact h.elim
theorem Dl {w:World} {e s n:Nat} {v:Value} {cs:List Value} (h:w.ownsRow 0 e s v n cs): ∃pl:bq,pl.hdr=v∧ ∀b,v.ownBlock=some b→b=pl.bI:=by
 rcases h.2 with⟨rfl,_⟩ |⟨g,cap,cur,rfl,_⟩
 ·exact⟨⟨0,none,0,0⟩,rfl,fun b ag=>by cases ag⟩
 ·exact⟨⟨g,some ⟨g,0,none⟩,n,cap⟩,rfl,fun b ag=>by simp[Value.ownBlock] at ag;exact ag.symm⟩
theorem SH (bh:dQ P tt) {T:TypeId} {x y:Operand} {c:Call} {e:Nat} {te:cB} {u:U} (az:o.op= .call c) (fC:c.callee= .builtin .append) (dc:c.args.toList=[x,y]) (ke:c.argTypes.toList=[T,T]) (he:elemOf tt T=some (e,te)) (hu:te.u=some u)
  {a:Act} {w:World} {v:Value} {n m:Nat} {cs news:List Value} {D:Nat→Prop} (hx:a.eval x=v) (dD:w.ownsRow 0 e (aM u) v n cs) (aa:fF D w (aM u) (a.eval y) m news) (ay: ∀x∈news,x.oneCell'=true) (hn:n+m≤4294967296):
  ∃v' w',(execOp a.eval o).run P w= .ok (.value v') w'∧w'.ownsRow 0 e (aM u) v' (n+m) (cs++news)∧w.grownBy w' v.ownBlock∧(v'.ownBlock=v.ownBlock∨v'.ownBlock=some w.heap.size):=by
 obtain⟨cn,inf,ds,bB⟩:=pK bh he
 obtain⟨z,aS,pJ⟩:=bB.zero
 have dH:aM u=inf.size:=(bB.u u hu).trans bB.size.symm
 have vI:z.cells.size=inf.size:=by
  have aa:=bV.length _ _ (vP (ρ:=fun _=>⟨0,none,0,0⟩) (I:=fun _=>False) (w:=w) _ _ pJ).1
  simp at aa
  rw[aa,bB.Gn,bB.size]
 have pL:0 < inf.size:=by have:=bB.pos;have:=bB.size;omega
 have AF:(n+m)*inf.bytes≤140737488355328:=by
  have aa:inf.bytes≤32768:=by rw[bB.bytes];exact bB.small
  exact Nat.le_trans (Nat.mul_le_mul hn aa) (by decide)
 obtain⟨v',w',ep,g1,g2,bL⟩:=KH (P:=P) w 0 T o.type e inf z (aM u) inf.bytes cn bB.info aS dH.symm rfl (by rw[vI,dH]) (by rw[dH];exact pL) v n cs dD D (a.eval y) m news aa ay (by simp only[maxLen];omega) AF (Nat.zero_le _)
 refine⟨v',w',?_,g1,g2,bL⟩
 have fT:c.args= #[x,y]:=Array.toList_inj.1 dc
 have iP:c.argTypes= #[T,T]:=Array.toList_inj.1 ke
 obtain⟨tj,args,ts⟩:=c
 simp only at fC fT iP
 subst fC fT iP
 unfold execOp
 simp only[az,resolve,invoke,builtin,Sem.run_bind,Sem.run_pure,Result.andThen_ok,List.map_toArray,List.map_cons,List.map_nil,hx,ep]
theorem SI {I:Nat→Prop} {w:World} {u:U} {xs:List (aI u)} {cs:List Value} (aB:cs.length=xs.length*aM u) (h:gF I w u xs cs): ∀v∈cs,v.oneCell'=true:=fun v hv=>by
 obtain⟨k,aq,rfl⟩:=List.getElem_of_mem hv
 obtain⟨aj,ak,bf⟩:=FG (show k < xs.length*aM u by omega)
 obtain⟨v',aa,af⟩:=b7.one u _ _ (h (k/aM u) _ (List.getElem?_eq_getElem aj)) (k % aM u) ak
 rw[bf,List.getElem?_eq_getElem aq] at aa
 injection aa with aa
 rw[aa];exact af
theorem LA (bh:dQ P tt) {T:TypeId} {x y:Operand} {c:Call} {e:Nat} {te:cB} {u:U} (az:o.op= .call c) (fC:c.callee= .builtin .append) (dc:c.args.toList=[x,y]) (ke:c.argTypes.toList=[T,T]) (he:elemOf tt T=some (e,te)) (hu:te.u=some u)
  {a:Act} {w:World} {v:Value} {n:Nat} {cs:List Value} {I:Nat→Prop} {ys:List (aI u)} (hx:a.eval x=v) (dD:w.ownsRow 0 e (aM u) v n cs) (aF:b7 I w (.sl u) ys (fun _=>some (a.eval y))) (bC: ∀b,I b→b < w.heap.size) (hn:n+ys.length≤4294967296):
  ∃v' w' news,(execOp a.eval o).run P w= .ok (.value v') w'∧w'.ownsRow 0 e (aM u) v' (n+ys.length) (cs++news)∧gF I w u ys news∧w.grownBy w' v.ownBlock∧(v'.ownBlock=v.ownBlock∨v'.ownBlock=some w.heap.size):=by
 obtain⟨cn,inf,ds,bB⟩:=pK bh he
 obtain⟨z,aS,pJ⟩:=bB.zero
 obtain⟨news,aa,af,ay⟩:=Lj aF bC
 have dH:aM u=inf.size:=(bB.u u hu).trans bB.size.symm
 have vI:z.cells.size=inf.size:=by
  have aa:=bV.length _ _ (vP (ρ:=fun _=>⟨0,none,0,0⟩) (I:=fun _=>False) (w:=w) _ _ pJ).1
  simp at aa
  rw[aa,bB.Gn,bB.size]
 have pL:0 < inf.size:=by have:=bB.pos;have:=bB.size;omega
 have AF:(n+ys.length)*inf.bytes≤140737488355328:=by
  have aa:inf.bytes≤32768:=by rw[bB.bytes];exact bB.small
  exact Nat.le_trans (Nat.mul_le_mul hn aa) (by decide)
 obtain⟨v',w',ep,g1,g2,bL⟩:=KH (P:=P) w 0 T o.type e inf z (aM u) inf.bytes cn bB.info aS dH.symm rfl (by rw[vI,dH]) (by rw[dH];exact pL) v n cs dD I (a.eval y) ys.length news aa ay (by simp only[maxLen];omega) AF (Nat.zero_le _)
 refine⟨v',w',news,?_,g1,af,g2,bL⟩
 have fT:c.args= #[x,y]:=Array.toList_inj.1 dc
 have iP:c.argTypes= #[T,T]:=Array.toList_inj.1 ke
 obtain⟨tj,args,ts⟩:=c
 simp only at fC fT iP
 subst fC fT iP
 unfold execOp
 simp only[az,resolve,invoke,builtin,Sem.run_bind,Sem.run_pure,Result.andThen_ok,List.map_toArray,List.map_cons,List.map_nil,hx,ep]
theorem Mem.move {C:Ctx} {ρ:Nat→bq} {F:Nat→Nat→Prop} {w w':World} (h:Mem ids C B ρ F w) {c d:Nat} {cm ch:bw} (hc:ax B c=some cm) (hf:gz ids K B d=true) (cr:Fr (F c) w w') (pl:bq) (G:Nat→Prop) (oR: ∀b,G b→(F c b∨w.heap.size≤b)∧b < w'.heap.size)
  (dW: ∀I,Ext (bO C B F w) w I w'→(∀b,I b→b < w'.heap.size∧ ¬G b)→Holds (dA ρ d pl) I G w' pl ch):
  Mem ids C ((d,ch)::ia B c) (dA ρ d pl) (dA F d G) w'∧Ext (bO C B F w) w (bO C ((d,ch)::ia B c) (dA F d G) w') w':=by
 obtain⟨f1,f2,f3,f4⟩:=lG hf
 have Dm:d≠c:=fun e=>by subst e;rw[f2] at hc;cases hc
 refine h.step (fun i=>i=d∨i=c) (fun i=>i=d) (cr.mono fun b _ ag=>⟨c,cm,hc,.inr rfl,ag⟩) ?_ (fun i aD=>dP _ _ aD) (fun i aD=>dP _ _ (fun e=>aD (.inl e))) (fun i aD e=>f4 (e▸aD)) (fun _ h=>.inl h) ?_ ?_ ?_ ?_
 ·intro i ch' aD bg
  rw[cD,if_neg (fun e=>bg (.inl e.symm)),j7] at aD
  split at aD
  ·cases aD
  ·exact aD
 ·rintro i ch' aD _ j he rfl
  rw[f3 i ch' aD] at he
  cases he
 ·rintro i ch' aD aA he
  rw[cD] at aD
  split at aD
  ·rename_i e
   subst e
   injection aD with aD
   subst aD
   rw[dR,dR]
   exact dW _ he fun b dw=>⟨dw.1,fun bk=>dw.2.2 d ch (by rw[cD,if_pos rfl]) (by rw[dR];exact bk)⟩
  ·rename_i e
   rcases aA with rfl |rfl
   ·exact absurd rfl e
   ·rw[j7,if_pos rfl] at aD;cases aD
 ·rintro i ch' aD aA b bk
  rcases aA with rfl |rfl
  ·rw[dR] at bk
   obtain⟨aa,af⟩:=oR b bk
   exact⟨af,aa.imp (fun h=>⟨c,cm,hc,.inr rfl,h⟩) id⟩
  ·rw[cD,if_neg Dm,j7,if_pos rfl] at aD;cases aD
 ·rintro i j kM qo b aD au SJ SK bg
  have q: ∀i ch',ax ((d,ch)::ia B c) i=some ch'→(i=d∨i=c)→i=d:=fun i ch' aD aA=>by
   rcases aA with rfl |rfl
   ·rfl
   ·rw[cD,if_neg Dm,j7,if_pos rfl] at aD;cases aD
  exact absurd ((q i kM aD SJ).trans (q j qo au SK).symm) bg
theorem GA {w w':World} {r:Option Nat} {S:Nat→Prop} (h:w.grownBy w' r) (hS: ∀b,r=some b→S b):Fr S w w':=Q8 h hS
theorem SL (bh:dQ P tt) {T:TypeId} {x y:Operand} {c:Call} (az:o.op= .call c) (fC:c.callee= .builtin .append) (dc:c.args.toList=[x,y]) (ke:c.argTypes.toList=[T,T])
  (h:F7 tt T (aU K x) (aU K y) o.dst ids K B k):cv P N ids o K B k:=by
 have mem: ∀z∈ [x,y],z∈o.op.operands:=fun z aS=>by
  rw[az]
  simp only[Op.operands,Call.operands,Array.mem_append]
  exact .inr (Array.mem_toList_iff.1 (by rw[dc];exact aS))
 have m1:=mem x (by simp)
 have m2:=mem y (by simp)
 unfold F7 at h
 split at h
 ·rename_i e te d he hd
  split at h
  ·rename_i u v ys hu aF
   split at h
   ·rename_i heq _
    subst heq
    split at h
    ·rename_i hx
     obtain⟨hlen,cr,h⟩:=h
     refine cv.bA h cr <| bH.make (fun d h=>y7 h) fun K' B' g1 g2 C ρ F a w aA hS hn=>?_
     obtain⟨v',w',news,ep,cz,er,eX,gi⟩:=LA bh az fC dc ke he hu (hS.ec ((g1 x m1).trans hx)) (World.ownsRow_nil w 0 e (aM v)) (hS.cT ((g1 y m2).trans aF)) (fun b ag=>ag.1) (by omega)
     obtain⟨pl,gq,jq⟩:=Dl cz
     have ag:Below w.heap.size w w':=⟨eX.os,eX.tape,eX.output,eX.size,fun b ag=>eX.block b ag (by simp[Value.ownBlock])⟩
     have GB: ∀b,v'.ownBlock=some b→w.heap.size≤b∧b < w'.heap.size:=fun b dw=>by
      have:=cz.lt b dw
      rcases gi with gi |gi
      ·rw[gi] at dw;cases dw
      ·rw[gi] at dw;injection dw with dw;omega
     refine⟨v',w',pl,fun b=>v'.ownBlock=some b,ep,ag,GB,fun I oT bC=>⟨⟨fun b=>by rw[gq],fun b ag=>jq b (by rwa[gq] at ag),news,?_,?_⟩,?_⟩⟩
     ·rw[gq]
      have:=cz
      rw[Nat.zero_add,List.nil_append] at this
      exact this
     ·exact gF.mono oT er
     ·simp only[b8,fZ,dN,dR,gq]
    ·rename_i mj hx
     split at h
     ·rename_i e' sZ xs aB
      split at h
      ·rename_i GC r9 _
       have r9:=Nat.eq_of_beq_eq_true r9
       subst GC r9
       obtain⟨hlen,cr,h⟩:=h
       refine cv.bA h cr ?_
       rintro K' B' g1 g2 bL C a w ⟨qq,hdd,ρ,F,aA,hS⟩ bF fl Q hK
       have gj:ax B' mj=_:=(g2 mj (by simp)).trans aB
       have hf:=bL d (by simp)
       have oU:=lG hf
       have bZ:=aA.holds mj _ gj
       obtain⟨hF,pP,cs,dD,lH⟩:=bZ
       obtain⟨v',w',news,ep,cz,er,eX,gi⟩:=LA bh az fC dc ke he hu (hS.own ((g1 x m1).trans hx)) dD (hS.cT ((g1 y m2).trans aF)) (fun b ag=>ag.1) (by have:(nR rfl xs).length=xs.length:=rfl;omega)
       obtain⟨pl,gq,jq⟩:=Dl cz
       obtain⟨bR,oT⟩:=aA.move (K:=K') (ch:=.row e' sZ (nR rfl xs++nR rfl ys)) gj hf (GA eX fun b ag=>(hF b).2 ag) pl (fun b=>v'.ownBlock=some b) (fun b ag=>⟨by
         rcases gi with gi |gi
         ·exact .inl ((hF b).2 (gi.symm.trans ag))
         ·rw[gi] at ag;injection ag with ag;exact .inr (by omega),(cz.lt b ag).2⟩)
        (fun I oT bC=>⟨fun b=>by rw[gq],fun b ag=>jq b (by rwa[gq] at ag),cs++news,by rw[gq];simpa[nR] using cz,gF.app (gF.mono oT lH) (gF.mono oT er) dD.1⟩)
       unfold Oper.wp
       rw[ep,Oper.upon_value]
       exact hK _ _ ⟨lC.trans qq,put_defers.trans hdd,_,_,bR,(hS.mono oT fun s i aD=>dP _ _ (fun e=>by subst e;rw[oU.1 s] at aD;cases aD)).lD (fun e he=>by rw[qq];exact bF e he) (by simp only[b8,fZ,dN,dR,gq])⟩
      ·exact h.elim
     ·exact h.elim
    ·exact h.elim
   ·exact h.elim
  ·rename_i u aX hu aF
   split at h
   ·rename_i mj hx
    split at h
    ·rename_i e' sZ xs ak v ys aB r6
     split at h
     ·rename_i heq GC bg r9 _ _
      have r9:=Nat.eq_of_beq_eq_true r9
      subst heq GC r9
      obtain⟨hlen,cr,h⟩:=h
      refine cv.bA h cr ?_
      rintro K' B' g1 g2 bL C a w ⟨qq,hdd,ρ,F,aA,hS⟩ bF fl Q hK
      have gj:ax B' mj=_:=(g2 mj (by simp)).trans aB
      have SM:ax B' aX=_:=(g2 aX (by simp)).trans r6
      have hf:=bL d (by simp)
      have oU:=lG hf
      obtain⟨hF,pP,cs,dD,lH⟩:=aA.holds mj _ gj
      obtain⟨lI,acU,SN,LB,LC⟩:=aA.holds aX _ SM
      have nv:=fF.vJ LB
      rw[←hS.own ((g1 y m2).trans aF)] at nv
      obtain⟨v',w',ep,cz,eX,gi⟩:=SH bh az fC dc ke he hu (hS.own ((g1 x m1).trans hx)) dD nv (SI LB.1 LC) (by have:(nR rfl xs).length=xs.length:=rfl;have:(nR rfl ys).length=ys.length:=rfl;omega)
      obtain⟨pl,gq,jq⟩:=Dl cz
      obtain⟨bR,oT⟩:=aA.move (K:=K') (ch:=.row e' sZ (nR rfl xs++nR rfl ys)) gj hf (GA eX fun b ag=>(hF b).2 ag) pl (fun b=>v'.ownBlock=some b) (fun b ag=>⟨by
        rcases gi with gi |gi
        ·exact .inl ((hF b).2 (gi.symm.trans ag))
        ·rw[gi] at ag;injection ag with ag;exact .inr (by omega),(cz.lt b ag).2⟩)
       (fun I oT bC=>⟨fun b=>by rw[gq],fun b ag=>jq b (by rwa[gq] at ag),cs++SN,by rw[gq];simpa[nR] using cz,gF.app (gF.mono oT lH) (gF.mono oT LC) dD.1⟩)
      unfold Oper.wp
      rw[ep,Oper.upon_value]
      exact hK _ _ ⟨lC.trans qq,put_defers.trans hdd,_,_,bR,(hS.mono oT fun s i aD=>dP _ _ (fun e=>by subst e;rw[oU.1 s] at aD;cases aD)).lD (fun e he=>by rw[qq];exact bF e he) (by simp only[b8,fZ,dN,dR,gq])⟩
     ·exact h.elim
    ·exact h.elim
   ·exact h.elim
  ·exact h.elim
 ·exact h.elim
theorem LD (s:List UInt8):Go.Lib.strCells ⟨s.toArray⟩=s.map iM:=by simp[Go.Lib.strCells,iM]
theorem SP {w:World} {T eN ty e:TypeId} {i:TypeInfo} (cn:P.underlying T=some (.slice e)) (hu:P.underlying eN=some .string) (aD:P.info? e=some i) (aS:i.zero=some (.int .u8 0)) (hs:i.size=1) (ag:i.bytes=1)
  {v:Value} {n:Nat} {cs:List Value} (dD:w.ownsRow 0 e 1 v n cs) (s:List UInt8) (hn:n+s.length≤4294967296):
  ∃v' w',(Builtin.append_ #[T,eN] ty #[v,.string ⟨s.toArray⟩]).run P w= .ok v' w'∧w'.ownsRow 0 e 1 v' (n+s.length) (cs++s.map iM)∧w.grownBy w' v.ownBlock∧ ∀b,v'.ownBlock=some b→v.ownBlock=some b∨w.heap.size≤b:=by
 have dH:(⟨s.toArray⟩:ByteArray).size=s.length:=xl s
 rcases dD.2 with⟨rfl,rfl⟩ |⟨g,cap,cur,rfl,-,bk,AE,acV,nZ,xw⟩
 ·have SQ:cs=[]:=List.eq_nil_of_length_eq_zero (by simpa using dD.1)
  subst SQ
  obtain⟨v',w',hr,af,ay,_⟩:=Go.Lib.run_append_own_string (P:=P) w w.heap.size T eN ty e i cn hu aD aS hs ag (.slice none 0 0) 0 [] (World.ownsRow_nil w w.heap.size e 1) ⟨s.toArray⟩ (by rw[dH];simp only[maxLen];omega) (by rw[dH];omega) (Nat.le_refl _)
  rw[dH,LD] at af
  refine⟨v',w',hr,⟨af.1,?_⟩,ay,fun b ag=>.inr ?_⟩
  ·rcases af.2 with h |⟨g,cap,cur,hv,_,r⟩
   ·exact .inl h
   ·exact .inr ⟨g,cap,cur,hv,Nat.zero_le _,r⟩
  ·rcases af.2 with⟨h,_⟩ |⟨g,cap,cur,hv,qi,r⟩
   ·rw[h] at ag;cases ag
   ·rw[hv] at ag;simp[Value.ownBlock] at ag;omega
 ·obtain⟨v',w',hr,af,ay,_⟩:=Go.Lib.run_append_own_string (P:=P) w 0 T eN ty e i cn hu aD aS hs ag (.slice (some ⟨g,0,none⟩) n cap) n cs dD ⟨s.toArray⟩ (by rw[dH];simp only[maxLen];omega) (by rw[dH];omega) (Nat.zero_le _)
  have uE:cs.length=n:=by simpa using dD.1
  refine⟨v',w',hr,by rw[dH,LD] at af;exact af,ay,fun b dw=>?_⟩
  by_cases SR:n+(⟨s.toArray⟩:ByteArray).size≤cap
  ·have uF:=Go.Lib.run_append_room_string (P:=P) w T eN ty e i cn hu aD hs g n cap cur bk ⟨s.toArray⟩ SR (by omega)
   rw[hr] at uF
   injection uF with aj ak
   rw[aj] at dw
   exact .inl dw
  ·have holds: ∀j u,cs[j]? =some u→w.cell? ((⟨g,0,none⟩:Addr).add j)=some u:=dD.cells (g:=g) rfl
   have uF:=Go.Lib.run_append_grow_string (P:=P) w T eN ty e i (.int .u8 0) cn hu aD aS ⟨g,0,none⟩ n cap cs (by rw[hs];simpa using uE) holds ⟨s.toArray⟩ (by omega) (by rw[dH];omega) (by rw[ag];exact growslice_fits (by omega) (by rw[dH];omega))
   rw[hr] at uF
   injection uF with aj ak
   rw[aj] at dw
   simp[Value.ownBlock] at dw
   exact .inr (by omega)
theorem SS (I:Nat→Prop) (w:World) (xs:List UInt8):gF I w .u8 xs (xs.map iM):=fun i x hx=>by
 show(xs.map iM)[i*1+0]? =_
 rw[Nat.mul_one,Nat.add_zero,List.getElem?_map,show xs[i]? =some x from hx]
 rfl
theorem SU (bh:dQ P tt) {T eN:TypeId} {x y:Operand} {c:Call} (az:o.op= .call c) (fC:c.callee= .builtin .append) (dc:c.args.toList=[x,y]) (ke:c.argTypes.toList=[T,eN])
  (h:F8 tt T eN (aU K x) (aU K y) o.dst ids K B k):cv P N ids o K B k:=by
 have mem: ∀z∈ [x,y],z∈o.op.operands:=fun z aS=>by
  rw[az]
  simp only[Op.operands,Call.operands,Array.mem_append]
  exact .inr (Array.mem_toList_iff.1 (by rw[dc];exact aS))
 have m1:=mem x (by simp)
 have m2:=mem y (by simp)
 unfold F8 at h
 split at h
 ·rename_i e te d he SV hd
  split at h
  ·rename_i mj s hx aF
   split at h
   ·rename_i e' xs q7 aB
    split at h
    ·rename_i r9
     have r9:=Nat.eq_of_beq_eq_true r9
     subst r9
     obtain⟨hlen,cr,h⟩:=h
     obtain⟨cn,inf,ds,bB⟩:=pK bh he
     obtain⟨SW,SX⟩:=xo bh q7
     have gO:=Dg bh SV
     refine cv.bA h cr ?_
     rintro K' B' g1 g2 bL C a w ⟨qq,hdd,ρ,F,aA,hS⟩ bF fl Q hK
     have gj:ax B' mj=_:=(g2 mj (by simp)).trans aB
     have hf:=bL d (by simp)
     have oU:=lG hf
     have bZ:=aA.holds mj _ gj
     obtain⟨hF,pP,cs,dD,lH⟩:=bZ
     obtain⟨ti,i2,d2,r8,q8,eR,pO⟩:=SX
     obtain⟨z,aS,y9⟩:=Lz r8 q8
     have mm:z= .int .u8 0:=by
      have aa:=r8.K5 z aS (by have:=r8.und;rw[SW] at this;injection this with this;rw[←this])
      rw[aa] at y9
      simpa using y9
     rw[mm] at aS
     obtain⟨v',w',ep,cz,eX,gi⟩:=SP (P:=P) (w:=w) (T:=T) (eN:=eN) (ty:=o.type) cn gO r8.info aS (r8.size.trans eR) (r8.bytes.trans pO) (show w.ownsRow 0 e' 1 (ρ mj).hdr (List.length (α:=UInt8) xs) cs from dD) s hlen
     obtain⟨pl,gq,jq⟩:=Dl cz
     obtain⟨bR,oT⟩:=aA.move (K:=K') (ch:=.row e' .u8 (List.append (α:=UInt8) xs s)) gj hf (GA eX fun b ag=>(hF b).2 ag) pl (fun b=>v'.ownBlock=some b) (fun b ag=>⟨by
       rcases gi b ag with gi |gi
       ·exact .inl ((hF b).2 gi)
       ·exact .inr gi,(cz.lt b ag).2⟩)
      (fun I oT bC=>⟨fun b=>by rw[gq],fun b ag=>jq b (by rwa[gq] at ag),cs++s.map iM,by
       rw[gq]
       have:List.length (α:=aI .u8) (List.append (α:=UInt8) xs s)=List.length (α:=UInt8) xs+s.length:=List.length_append
       rw[this]
       exact cz,gF.app (u:=.u8) (gF.mono oT lH) (SS _ _ s) dD.1⟩)
     have fT:c.args= #[x,y]:=Array.toList_inj.1 dc
     have iP:c.argTypes= #[T,eN]:=Array.toList_inj.1 ke
     obtain⟨tj,args,ts⟩:=c
     simp only at fC fT iP
     subst fC fT iP
     have eF:=hS.own ((g1 x m1).trans hx)
     have eP:=hS.str ((g1 y m2).trans aF)
     have hex:(execOp a.eval o).run P w= .ok (.value v') w':=by
      unfold execOp
      simp only[az,resolve,invoke,builtin,Sem.run_bind,Sem.run_pure,Result.andThen_ok,List.map_toArray,List.map_cons,List.map_nil,eF,eP,ep]
     unfold Oper.wp
     rw[hex,Oper.upon_value]
     exact hK _ _ ⟨lC.trans qq,put_defers.trans hdd,_,_,bR,(hS.mono oT fun s i aD=>dP _ _ (fun e=>by subst e;rw[oU.1 s] at aD;cases aD)).lD (fun e he=>by rw[qq];exact bF e he) (by simp only[b8,fZ,dN,dR,gq])⟩
    ·exact h.elim
   ·exact h.elim
  ·exact h.elim
 ·exact h.elim
end
end Go.Proofs.YteoamepgonpdlaaGreat
namespace Go.Proofs.YteoamepgonpdlaaGreat
open Go.RowKit
section
variable {P:Program} {tt:cY} {N:Nat} {ids:List Nat} {o:Oper} {K:aQ} {B:aG} {k:aO→fA→Prop}
theorem SY {α:Type} (cur ys:List α) (off N:Nat) (h:off+ys.length≤N) (af:N≤cur.length):(cur.take off++ys++cur.drop (off+ys.length)).take N=(cur.take N).take off++ys++(cur.take N).drop (off+ys.length):=by
 rw[List.take_append,List.take_of_length_le (by simp;omega),List.take_take,Nat.min_eq_left (by omega),List.drop_take]
 congr 2
 simp
 omega
theorem SZ {w:World} {dT sT ty e:TypeId} (hu:P.underlying dT=some (.slice e)) (dH:(P.info? e).map (·.size)=some 1) {v:Value} {M off n dCap m:Nat} {cs ys:List Value} {nr:Option Addr} {src:Value} {D:Nat→Prop} {e':TypeId}
  (dD:w.ownsRow 0 e' 1 v M cs) (hd:0 < n→ ∀g cap,v= .slice (some ⟨g,0,none⟩) M cap→M≤cap→nr=some ⟨g,off,none⟩) (nX:off+n≤M) (nv:fF D w 1 src m ys) (aa: ∀v∈ys,v.oneCell'=true):
  ∃x w',(Builtin.copy_ #[dT,sT] ty #[.slice nr n dCap,src]).run P w= .ok x w'∧Fr (fun b=>v.ownBlock=some b) w w'∧w'.ownsRow 0 e' 1 v M (cs.take off++ys.take n++cs.drop (off+(ys.take n).length)):=by
 obtain⟨sp,CK,rfl,aB,pL⟩:=Q9 nv n
 have hle:(ys.take n).length≤n:=by rw[List.length_take];exact Nat.min_le_left _ _
 by_cases aE:(ys.take n).length=0
 ·refine⟨_,w,run_copy_none (P:=P) w dT sT ty e nr sp n dCap m CK hu dH (by rw[←aB];exact aE),Fr.refl _ _,?_⟩
  rw[List.eq_nil_of_length_eq_zero aE]
  simpa using dD
 ·obtain⟨ad,rfl,S0⟩:=pL (by omega)
  obtain⟨hlen,dD⟩:=dD
  rcases dD with⟨_,aA⟩ |⟨g,cap,cur,hv,ag,bk,fC,dc,ke,LF⟩
  ·omega
  ·obtain rfl:=hd (by omega) g cap hv fC
   have acW:cur.toList.length=cap:=by simpa using ke
   rw[Nat.mul_one] at LF hlen
   refine⟨_,_,run_copy_row (P:=P) w dT sT ty e g off n dCap ad m CK cur e' (ys.take n) hu dH bk aB S0 (by rw[←Array.length_toList];omega) (fun v hv=>aa v (List.mem_of_mem_take hv)),AU (by rw[hv];rfl),?_⟩
   refine⟨by simp only[List.length_append,List.length_take,List.length_drop,Nat.mul_one] at*;omega,.inr ⟨g,cap,_,hv,ag,setRow_heap w g _ _ e' _ bk,fC,dc,by simp only[List.size_toArray,List.length_append,List.length_take,List.length_drop,Nat.mul_one] at*;omega,?_⟩⟩
   rw[Nat.mul_one]
   show List.take M (cur.toList.take off++ys.take n++cur.toList.drop (off+(ys.take n).length))=_
   rw[SY _ _ _ _ (by omega) (by omega),LF]
theorem S1 (xs ys:List UInt8) {off n:Nat} (h:off+n≤xs.length):(laid xs off n ys).length=xs.length:=by
 simp only[laid,List.length_append,List.length_take,List.length_drop]
 omega
theorem S2 (xs ys:List UInt8) (off n:Nat):List.take off (xs.map iM)++List.take n (ys.map iM)++List.drop (off+(List.take n (ys.map iM)).length) (xs.map iM)=(laid xs off n ys).map iM:=by
 simp only[laid,List.map_append,List.map_take,List.map_drop,List.length_take,List.length_map]
theorem S3 {I:Nat→Prop} {w:World} {xs:List UInt8} {cs:List Value} (h:gF I w .u8 xs cs) (aB:cs.length=xs.length):cs=xs.map iM:=by
 refine List.ext_getElem? fun i=>?_
 rw[List.getElem?_map]
 cases hx:xs[i]? with
 |none=>
  have:=List.getElem?_eq_none_iff.1 hx
  rw[List.getElem?_eq_none_iff.2 (by omega)];rfl
 |some x=>
  have af:=h i x hx
  simpa[b7,aM,iM] using af
theorem S4 (I:Nat→Prop) (w:World) (xs:List UInt8):gF I w .u8 xs (xs.map iM):=fun i x hx=>by
 have hx:xs[i]? =some x:=hx
 simp[b7,aM,hx]
 rfl
theorem S5 {I:Nat→Prop} {w:World} {v:Value} {l:List UInt8} (bC: ∀b,I b→b < w.heap.size) (h:b7 I w (.sl .u8) l (fun _=>some v)):fF I w 1 v l.length (l.map iM):=by
 obtain⟨A,cap,aE,aa,af,ay⟩:=h
 injection aE with aE
 refine⟨by simp,A,cap,aE,aa,af,fun hp=>?_⟩
 obtain⟨b,o,hA,ag,hx⟩:=ay hp
 refine⟨b,o,hA,ag,bC b ag,fun j u hu=>?_⟩
 rw[List.getElem?_map] at hu
 obtain⟨x,za,rfl⟩:=Option.map_eq_some_iff.1 hu
 have:=hx j x za
 simpa[b7,aM,iM] using this
theorem bH.S6 {c:Nat} {cm ch:bw} (hc:ax B c=some cm)
  (h: ∀(K':aQ) (B':aG),(∀x,x∈o.op.operands→aU K' x=aU K x)→ ∀(C:Ctx) (ρ:Nat→bq) (F:Nat→Nat→Prop) (a:Act) (w:World),Mem ids C B' ρ F w→ek K' ρ (bO C B' F w) a w→ax B' c=some cm→ ∃x w',(execOp a.eval o).run P w= .ok (.value x) w'∧Fr (F c) w w'∧
   (∀I,Ext (bO C B' F w) w I w'→Holds ρ I (F c) w' (ρ c) ch)):
  bH P N ids o K B (.c (.one .any)) ⟨[c],[],[(c,some ch)]⟩:=by
 rintro K' B' aa af - C a w ⟨hn,hd,ρ,F,aA,hS⟩ bF fl Q hK
 have dm:ax B' c=some cm:=(af c (by simp)).trans hc
 obtain⟨x,w',hx,cr,dW⟩:=h K' B' aa C ρ F a w aA hS dm
 obtain⟨bR,he⟩:=aA.jP dm cr dW
 unfold Oper.wp
 rw[hx,Oper.upon_value]
 exact hK _ _ ⟨lC.trans hn,put_defers.trans hd,ρ,F,bR,(hS.mono he fun _ _ _=>rfl).lD (fun e he=>by rw[hn];exact bF e he) trivial⟩
theorem LG (bh:dQ P tt) {T eN e:TypeId} {te:cB} {x y:Operand} {c:Call} {d off n:Nat} {ys:List UInt8} (az:o.op= .call c) (fC:c.callee= .builtin .copy) (dc:c.args.toList=[x,y]) (ke:c.argTypes.toList=[T,eN]) (he:elemOf tt T=some (e,te)) (kL:q4 tt e=true) (aF:aU K y= .c (.one (.d (.cT .u8 ys))))
  (hx: ∀(K':aQ) (ρ:Nat→bq) (I:Nat→Prop) (a:Act) (w:World),ek K' ρ I a w→aU K' x=aU K x→ ∀(M:Nat),(ρ d).n=M→(∀e xs,ax B d=some (.row e .u8 xs)→List.length xs=M)→off+n≤M→ ∃nr dCap,a.eval x= .slice nr n dCap∧(0 < n→ ∀g cap,(ρ d).hdr= .slice (some ⟨g,0,none⟩) M cap→M≤cap→nr=some ⟨g,off,none⟩))
  (h:C6 d off n ys B k):cv P N ids o K B k:=by
 have fT:c.args= #[x,y]:=Array.toList_inj.1 dc
 have iP:c.argTypes= #[T,eN]:=Array.toList_inj.1 ke
 obtain⟨tj,args,ts⟩:=c
 simp only at fC fT iP
 subst fC fT iP
 have m1:x∈o.op.operands:=by rw[az];simp[Op.operands,Call.operands]
 have m2:y∈o.op.operands:=by rw[az];simp[Op.operands,Call.operands]
 obtain⟨hu,inf,ds,bB⟩:=pK bh he
 obtain⟨_,acX,i8,d8,LH,_,S7,_⟩:=xo bh kL
 have dH:(P.info? e).map (·.size)=some 1:=by rw[LH.info];simp[LH.size,S7]
 unfold C6 at h
 split at h
 ·rename_i e' xs aB
  obtain⟨nX,h⟩:=h
  refine cv.of h <| bH.S6 aB fun K' B' aa C ρ F a w aA hS gj=>?_
  obtain⟨hF,jq,cs,dD,lH⟩:=aA.holds d _ gj
  have Lm:=dD
  obtain⟨cP,A,cap,hv,_,_,_⟩:=fF.vJ Lm
  have hn:(ρ d).n=xs.length:=by unfold bq.hdr at hv;injection hv
  have nZ:cs=xs.map iM:=S3 lH (by have:=cP;simp[aM] at this;exact this)
  obtain⟨nr,dCap,S8,sg⟩:=hx K' ρ _ a w hS (aa x m1) _ hn (fun ak acY af=>by rw[aB] at af;cases af;rfl) nX
  have S9:=S5 (fun b ag=>ag.1) (hS.cT ((aa y m2).trans aF))
  obtain⟨r,w',ep,cr,iZ⟩:=SZ (P:=P) (w:=w) (dT:=T) (sT:=eN) (ty:=o.type) hu dH (dCap:=dCap) dD sg nX S9 (Q4 _)
  refine⟨r,w',?_,cr.mono fun b _ ag=>(hF b).2 ag,fun I bz=>⟨hF,jq,List.take off cs++List.take n (List.map iM ys)++List.drop (off+(List.take n (List.map iM ys)).length) cs,?_,?_⟩⟩
  ·simp[execOp,az,resolve,invoke,builtin,S8,ep]
  ·have bf:List.length (α:=aI .u8) (laid xs off n ys)=List.length (α:=aI .u8) xs:=S1 xs ys nX
   show w'.ownsRow 0 e' 1 (ρ d).hdr (List.length (α:=aI .u8) (laid xs off n ys)) _
   rw[bf]
   exact iZ
  ·rw[nZ]
   have aj:=S2 xs ys off n
   rw[aj]
   exact S4 I w' _
 ·exact h.elim
theorem Ta (bh:dQ P tt) {T eN:TypeId} {x y:Operand} {c:Call} (az:o.op= .call c) (fC:c.callee= .builtin .copy) (dc:c.args.toList=[x,y]) (ke:c.argTypes.toList=[T,eN]) (h:Gh tt T (aU K x) (aU K y) B k):cv P N ids o K B k:=by
 unfold Gh at h
 split at h
 ·rename_i e te he
  split at h
  ·rename_i ys kL aF
   split at h
   ·rename_i d hx
    split at h
    ·rename_i e' xs aB
     refine LG bh az fC dc ke he kL aF (fun K' ρ I a w hS aq M aA Dn nX=>⟨(ρ d).A,(ρ d).cap,?_,fun hp g cap hv _=>?_⟩) h
     ·have:=hS.own (aq.trans hx)
      rw[this,Dn e' xs aB,←aA]
      rfl
     ·unfold bq.hdr at hv
      injection hv
    ·exact h.elim
   ·rename_i d s off n hx
    split at h
    ·rename_i hs
     have:=Nat.eq_of_beq_eq_true hs
     subst this
     refine LG bh az fC dc ke he kL aF (fun K' ρ I a w hS aq M aA Dn nX=>⟨_,_,hS.os (aq.trans hx),fun hp g cap hv acZ=>?_⟩) h
     unfold bq.hdr at hv
     injection hv with aj ak bf
     rw[if_neg (by omega),aj,Option.map_some,qV]
     simp
    ·exact h.elim
   ·exact h.elim
  ·exact h.elim
 ·exact h.elim
end
end Go.Proofs.YteoamepgonpdlaaGreat
namespace Go.Proofs.YteoamepgonpdlaaGreat
open Go.RowKit
section
variable {P:Program} {tt:cY} {N:Nat} {ids:List Nat} {o:Oper} {K:aQ} {B:aG} {k:aO→fA→Prop}
theorem kO: ∀{aR:aG} {B:aG},nT B aR→ ∀{c ch},ax aR c=some ch→ax B c=some ch
 | [],B,h,c,ch,hc=>by cases hc
 |(d,x)::aR,B,h,c,ch,hc=>by
  rw[cD] at hc
  split at hc
  ·rename_i e
   subst e
   injection hc with hc
   subst hc
   exact h.1
  ·exact kO h.2 hc
theorem gu: ∀{B:aG} {c:Nat},c∈cQ B↔ ∃ch,ax B c=some ch
 | [],c=>by simp[cQ,ax]
 |(d,x)::B,c=>by
  simp only[cQ,List.mem_cons,cD]
  by_cases e:d=c
  ·subst e;simp
  ·rw[if_neg e]
   constructor
   ·rintro(h |h)
    ·exact absurd h.symm e
    ·exact gu.1 h
   ·exact fun h=>.inr (gu.2 h)
theorem GD: ∀{aR:aG} {bA:List Nat} {bl:aG},pH aR bA bl=true→ ∀{c},c∈cQ bl→c∈cQ aR∨c∈bA
 |aR,bA,[],h,c,hc=>by simp[cQ] at hc
 |aR,bA,(d,x)::bl,h,c,hc=>by
  simp only[pH,Bool.and_eq_true,Bool.or_eq_true,List.contains_iff_mem] at h
  rcases List.mem_cons.1 hc with rfl |hc
  ·exact h.1.1
  ·exact GD h.2 hc
theorem LI: ∀(bl:aG) (aR:aG) (bA:List Nat) (B:aG),pH aR bA bl=true→ ∀c,ax (fe (jO [] bl) B) c=(match ax bl c with |some ch=>some ch |none=>ax B c)
 | [],_,_,B,_,c=>by simp[jO,F1,fe,ax]
 |(d,x)::bl,aR,bA,B,h,c=>by
  simp only[pH,Bool.and_eq_true,Bool.not_eq_true'] at h
  show ax (fe (jO [] bl) ((d,x)::B)) c=_
  rw[LI bl aR bA ((d,x)::B) h.2 c,cD,cD]
  by_cases e:d=c
  ·subst e
   have hn:ax bl d=none:=by
    cases aB:ax bl d with
    |none=>rfl
    |some ch=>
     have:=gu.2 ⟨ch,aB⟩
     have af:=h.1.2
     rw[←Bool.not_eq_true,List.contains_iff_mem] at af
     exact absurd this af
   rw[hn,if_pos rfl,if_pos rfl]
  ·rw[if_neg e,if_neg e]
theorem Dp: ∀(aR:aG) (q9:aG) (bA:List Nat) (bl B:aG),pH q9 bA bl=true→ ∀c,ax (fe (jO aR bl) B) c=(match ax bl c with |some ch=>some ch |none=>if c∈cQ aR then none else ax B c)
 | [],q9,bA,bl,B,h,c=>by
  rw[LI bl q9 bA B h c]
  simp[cQ]
 |(d,x)::aR,q9,bA,bl,B,h,c=>by
  simp only[jO,fe]
  rw[Dp aR q9 bA bl (ia B d) h c,j7]
  cases ax bl c with
  |some ch=>rfl
  |none=>
   simp only[cQ,List.mem_cons]
   by_cases e:d=c
   ·subst e;simp
   ·by_cases ak:c∈cQ aR
    ·simp[ak]
    ·simp[e,ak,Ne.symm e]
theorem Dq: ∀{bA:List Nat},rW ids K B bA=true→ ∀c,c∈bA→gz ids K B c=true
 | [],_,c,hc=>by cases hc
 |d::bA,h,c,hc=>by
  simp only[rW,Bool.and_eq_true] at h
  rcases List.mem_cons.1 hc with rfl |hc
  ·exact h.1.1
  ·exact Dq h.2 c hc
theorem LJ {ev:Operand→Value} {f:FuncId} {c:Call} {xs:List Operand} {w:World} (hf:mN P f=true) (az:o.op= .call c) (aa:c.callee= .value (.func f)) (af:c.args.toList=xs) (AZ:ev (.func f)= .func (.func f) #[] #[]):(execOp ev o).run P w= .ok (.enter f (xs.map ev).toArray) w:=by
 have fT:c.args=xs.toArray:=by rw[←af]
 obtain⟨tj,args,ts⟩:=c
 simp only at aa fT
 subst aa fT
 unfold mN at hf
 split at hf
 ·rename_i fn kW
  simp only[Bool.not_eq_true',Bool.or_eq_false_iff,beq_eq_false_iff_ne] at hf
  have af: ¬fn.body=none:=fun e=>by rw[e] at hf;simp at hf
  simp[execOp,az,resolve,invoke,AZ,Deferred.ofValue,callFunc,go_sem,kW]
  rw[if_neg hf.1,if_neg af]
 ·cases hf
theorem Dr {xs:List Operand} (mem: ∀z∈xs,z∈o.op.operands) {K':aQ} {ρ:Nat→bq} {I:Nat→Prop} {a:Act} {w:World} (g1: ∀x,x∈o.op.operands→aU K' x=aU K x) (hS:ek K' ρ I a w) (i:Nat) (v:aO) (x:Value) (hv:(xs.map (aU K))[i]? =some v) (hx:(xs.map a.eval)[i]? =some x):b8 ρ I w v x:=by
 rw[List.getElem?_map] at hv hx
 cases aD:xs[i]? with
 |none=>rw[aD] at hv;cases hv
 |some z=>
  rw[aD] at hv hx
  simp only[Option.map_some,Option.some.injEq] at hv hx
  subst hv hx
  rw[←g1 z (mem z (List.mem_of_getElem? aD))]
  exact hS.get z
theorem GF {f:FuncId} {args:List aO} {xs:List Operand} (mem: ∀z∈xs,z∈o.op.operands)
  (hex: ∀(K':aQ) (ρ:Nat→bq) (I:Nat→Prop) (a:Act) (w:World),(∀x,x∈o.op.operands→aU K' x=aU K x)→ek K' ρ I a w→ ∃bW:List Value,(mN P f=true→(execOp a.eval o).run P w= .ok (.enter f bW.toArray) w)∧bW.length=args.length∧ ∀(i:Nat) (v:aO) (x:Value),args[i]? =some v→bW[i]? =some x→b8 ρ I w v x)
  (h:xb P f args ids K B k):cv P N ids o K B k:=by
 obtain⟨aR,bA,res,bl,⟨iQ,kW⟩,ja,bB,h⟩:=h
 rw[uu] at h
 simp only[Bool.and_eq_true] at bB
 have oc:=bB.2
 refine⟨_,_,h,?_,Dq bB.1⟩
 rintro K' B' g1 g2 bL C a w ⟨hn,hd,ρ,F,aA,hS⟩ bF fl Q hK
 have eU: ∀{c ch},ax aR c=some ch→ax B' c=some ch:=fun {c ch} hc=>(g2 c (gu.2 ⟨ch,hc⟩)).trans (kO ja hc)
 have oU: ∀c∈bA,(∀s,(look K' s).has c=false)∧ax B' c=none∧(∀d ch,ax B' d=some ch→ch.has c=false)∧c∉ids:=fun c hc=>lG (bL c hc)
 obtain⟨bW,ep,ri,tr⟩:=hex K' ρ _ a w g1 hS
 have hc:=kW ρ F (bO C B' F w) w bW (fun b ag=>ag.1) (fun c ch hc=>aA.holds c ch (eU hc)) (fun c ch hc b ag=>⟨(aA.own c ch (eU hc) b ag).1,fun bC=>bC.2.2 c ch (eU hc) ag⟩)
  (fun c bS ch ch' b aa af=>aA.e8 c bS ch ch' b (eU aa) (eU af)) ri tr
 unfold Oper.wp
 rw[ep iQ,Oper.upon_enter]
 refine hc.mono ?_
 rintro e w' ⟨x,ρ',F',rfl,cr,dn,I',kX,iI,dW,aV,jQ,eu⟩
 have A0: ∀c,ax (fe (jO aR bl) B') c=(match ax bl c with |some ch=>some ch |none=>if c∈cQ aR then none else ax B' c):=Dp aR aR bA bl B' oc
 have pQ: ∀c ch,ax (fe (jO aR bl) B') c=some ch→ax bl c=some ch∨(ax bl c=none∧c∉cQ aR∧ax B' c=some ch):=fun c ch hc=>by
  rw[A0] at hc
  cases ag:ax bl c with
  |some ch'=>rw[ag] at hc;exact .inl hc
  |none=>
   rw[ag] at hc
   simp only at hc
   split at hc
   ·cases hc
   ·rename_i aq;exact .inr ⟨rfl,aq,hc⟩
 let cU:Nat→Nat→Prop:=fun c=>if c∈cQ bl then F' c else F c
 have lI: ∀c ch,ax bl c=some ch→cU c=F' c:=fun c ch hc=>if_pos (gu.2 ⟨ch,hc⟩)
 have A1: ∀c,ax bl c=none→cU c=F c:=fun c hc=>if_neg (fun aq=>by
  obtain⟨ch,h⟩:=gu.1 aq
  rw[hc] at h;cases h)
 have kA: ∀c ch,ax bl c=some ch→c∈cQ aR∨c∈bA:=fun c ch hc=>GD oc (gu.2 ⟨ch,hc⟩)
 have uG: ∀c ch,ax (fe (jO aR bl) B') c=some ch→(c∈cQ aR∨c∈bA)→ax bl c=some ch:=fun c ch hc bR=>by
  rcases pQ c ch hc with h |⟨aa,af,ay⟩
  ·exact h
  ·rcases bR with h |h
   ·exact absurd h af
   ·rw[(oU c h).2.1] at ay;cases ay
 have oV:Ext I' w' (bO C (fe (jO aR bl) B') cU w') w':=fun b ag=>by
  obtain⟨aj,ak⟩:=iI b ag
  refine⟨⟨aj,?_,fun c ch hc hF=>?_⟩,rfl⟩
  ·rcases ak with ak |⟨c,ch,ak,bf⟩ |ak
   ·exact ak.2.1
   ·exact .inr ((aA.own c ch (eU ak) b bf).2)
   ·exact .inr (.inr (aA.fresh ak))
  ·rcases pQ c ch hc with h |⟨aa,af,ay⟩
   ·rw[lI c ch h] at hF
    exact(aV c ch h b hF).2.1 ag
   ·rw[A1 c aa] at hF
    rcases ak with ak |⟨d,ch',ak,bf⟩ |ak
    ·exact ak.2.2 c ch ay hF
    ·exact aA.e8 d c ch' ch b (eU ak) ay (fun e=>af (e▸gu.2 ⟨ch',ak⟩)) bf hF
    ·have:=(aA.own c ch ay b hF).1;omega
 obtain⟨bR,bz⟩:=aA.step (B':=fe (jO aR bl) B') (ρ':=ρ') (F':=cU) (w':=w') (fun c=>c∈cQ aR∨c∈bA) (fun c=>c∈bA)
  (cr.mono fun b _ ⟨c,ch,aa,af⟩=>⟨c,ch,eU aa,.inl (gu.2 ⟨ch,aa⟩),af⟩)
  (fun c ch hc hn=>by
   rcases pQ c ch hc with h |⟨_,_,ay⟩
   ·exact absurd (kA c ch h) hn
   ·exact ay)
  dn
  (fun c hn=>by
   cases ag:ax bl c with
   |none=>exact A1 c ag
   |some ch=>exact absurd (kA c ch ag) hn)
  (fun c hc hn=>(oU c hn).2.2.2 hc) (fun c h=>.inr h)
  (fun c ch hc _ d hd hn=>by rw[(oU d hn).2.2.1 c ch hc] at hd;cases hd)
  (fun c ch hc bR _=>by
   have ag:=uG c ch hc bR
   rw[lI c ch ag]
   exact Holds.cy oV (fun _ _=>rfl) (Nat.le_refl _) ch (fun _ _=>rfl) (dW c ch ag))
  (fun c ch hc bR b ag=>by
   have xx:=uG c ch hc bR
   rw[lI c ch xx] at ag
   obtain⟨aj,_,bf⟩:=aV c ch xx b ag
   refine⟨aj,bf.imp (fun⟨cx,cm,aa,af⟩=>⟨cx,cm,eU aa,.inl (gu.2 ⟨cm,aa⟩),af⟩) id⟩)
  (fun c bS ch ch' b hc dm kA jR bg ag dw=>by
   have aa:=uG c ch hc kA
   have af:=uG bS ch' dm jR
   rw[lI c ch aa] at ag
   rw[lI bS ch' af] at dw
   exact jQ c bS ch ch' b aa af bg ag dw)
 refine hK _ _ ⟨lC.trans hn,put_defers.trans hd,ρ',cU,bR,(hS.mono bz fun s d hd=>dn d fun hn=>by rw[(oU d hn).1 s] at hd;cases hd).lD (fun e he=>by rw[hn];exact bF e he) (b8.mono oV _ _ (fun _ _=>rfl) eu)⟩
theorem LK {f:FuncId} {c:Call} {xs:List Operand} (az:o.op= .call c) (aa:c.callee= .value (.func f)) (af:c.args.toList=xs) (h:xb P f (xs.map (aU K)) ids K B k):cv P N ids o K B k:=by
 have mem: ∀z∈xs,z∈o.op.operands:=fun z aS=>by
  rw[az]
  simp only[Op.operands,Call.operands,Array.mem_append]
  exact .inr (Array.mem_toList_iff.1 (by rw[af];exact aS))
 exact GF mem (fun K' ρ I a w g1 hS=>⟨xs.map a.eval,fun iQ=>LJ iQ az aa af rfl,by simp,Dr mem g1 hS⟩) h
theorem LL {ρ:Nat→bq} {I:Nat→Prop} {w:World}: ∀(vs:List aO) (l:List kH) (us:List Value),xe vs=some l→us.length=vs.length→(∀(i:Nat) (v:aO) (x:Value),vs[i]? =some v→us[i]? =some x→b8 ρ I w v x)→gZ ρ I w l us
 | [],l,us,h,aB,_=>by
  simp only[xe,Option.some.injEq] at h
  subst h
  exact List.eq_nil_of_length_eq_zero aB
 |v::vs,l,[],h,aB,_=>by simp at aB
 |v::vs,l,u::us,h,aB,hd=>by
  have aZ:=fun r hr=>LL vs r us hr (by simpa using aB) (fun i v x hv hx=>hd (i+1) v x (by simpa using hv) (by simpa using hx))
  have aE:=hd 0 v u rfl rfl
  unfold xe at h
  split at h
  ·rename_i e;simp at e
  ·rename_i c o r0 e
   injection e with aj ak
   subst aj ak
   split at h
   ·rename_i r hr
    injection h with h
    subst h
    exact⟨u,us,rfl,aE,aZ r hr⟩
   ·cases h
  ·rename_i x r0 e
   injection e with aj ak
   subst aj ak
   split at h
   ·rename_i r hr
    injection h with h
    subst h
    exact⟨u,us,rfl,aE,aZ r hr⟩
   ·cases h
  ·cases h
theorem Tb {f:FuncId} {fs cs:Array Operand} (az:o.op= .makeFunc (.func f) fs cs) (h:match fs.toList,xe (cs.toList.map (aU K)) with
  | [],some l=>k (.c (.one (.eM f l))) bx
  |_,_=>False):cv P N ids o K B k:=by
 split at h
 ·rename_i l vR aB
  have mem: ∀z∈cs.toList,z∈o.op.operands:=fun z aS=>by
   rw[az]
   simp only[Op.operands,Array.mem_append]
   exact .inr (Array.mem_toList_iff.1 aS)
  refine cv.of h <| bH.val fun K' B' g1 g2 C ρ F a w aA hS=>?_
  have Tc:fs= #[]:=Array.toList_eq_nil_iff.1 vR
  refine⟨.func (.func f) #[] (List.toArray (cs.toList.map a.eval)),(by
   have e:cs.map a.eval=List.toArray (cs.toList.map a.eval):=Array.toList_inj.1 (by simp)
   simp[execOp,az,Instr.makeFunc,Tc,e]),_,rfl,?_⟩
  exact LL _ l _ aB (by simp) (Dr mem g1 hS)
 ·exact h.elim
theorem GG {ev:Operand→Value} {f:FuncId} {c:Call} {x:Operand} {xs:List Operand} {cs:List Value} {w:World} (hf:mN P f=true) (az:o.op= .call c) (aa:c.callee= .value x) (af:c.args.toList=xs) (AZ:ev x= .func (.func f) #[] (List.toArray cs)):(execOp ev o).run P w= .ok (.enter f (xs.map ev++cs).toArray) w:=by
 have fT:c.args=xs.toArray:=by rw[←af]
 obtain⟨tj,args,ts⟩:=c
 simp only at aa fT
 subst aa fT
 unfold mN at hf
 split at hf
 ·rename_i fn kW
  simp only[Bool.not_eq_true',Bool.or_eq_false_iff,beq_eq_false_iff_ne] at hf
  have af: ¬fn.body=none:=fun e=>by rw[e] at hf;simp at hf
  simp[execOp,az,resolve,invoke,AZ,Deferred.ofValue,callFunc,go_sem,kW]
  rw[if_neg hf.1,if_neg af]
 ·cases hf
theorem gZ.bW {ρ:Nat→bq} {I:Nat→Prop} {w:World}: ∀(l:List kH) (vs:List Value),gZ ρ I w l vs→vs.length=(oP l).length∧ ∀(i:Nat) (v:aO) (x:Value),(oP l)[i]? =some v→vs[i]? =some x→b8 ρ I w v x
 | [],vs,h=>by rw[show vs=[] from h];exact⟨rfl,fun i v x hv=>by simp[oP] at hv⟩
 | .p c o::l,_,⟨v,r,e,aa,af⟩=>by
  subst e
  obtain⟨g1,g2⟩:=gZ.bW l r af
  refine⟨by simp[oP,g1],fun i u x hu hx=>?_⟩
  match i with
  |0=>
   simp only[oP,List.getElem?_cons_zero,Option.some.injEq] at hu hx
   subst hu hx
   exact aa
  |i+1=>exact g2 i u x (by simpa[oP] using hu) (by simpa using hx)
 | .d y::l,_,⟨v,r,e,aa,af⟩=>by
  subst e
  obtain⟨g1,g2⟩:=gZ.bW l r af
  refine⟨by simp[oP,g1],fun i u x hu hx=>?_⟩
  match i with
  |0=>
   simp only[oP,List.getElem?_cons_zero,Option.some.injEq] at hu hx
   subst hu hx
   exact aa
  |i+1=>exact g2 i u x (by simpa[oP] using hu) (by simpa using hx)
theorem Td {f:FuncId} {c:Call} {t:Nat} {l:List kH} {xs:List Operand} (az:o.op= .call c) (aa:c.callee= .value (.tmp t)) (af:c.args.toList=xs) (aB:look K t= .c (.one (.eM f l))) (h:xb P f (xs.map (aU K)++oP l) ids K B k):cv P N ids o K B k:=by
 have mem: ∀z∈xs,z∈o.op.operands:=fun z aS=>by
  rw[az]
  simp only[Op.operands,Call.operands,Array.mem_append]
  exact .inr (Array.mem_toList_iff.1 (by rw[af];exact aS))
 have mt:Operand.tmp t∈o.op.operands:=by
  rw[az]
  simp only[Op.operands,Call.operands,Array.mem_append,aa]
  exact .inl (by simp)
 refine GF mem (fun K' ρ I a w g1 hS=>?_) h
 have hv:=hS (t)
 have aq:look K' t=look K t:=g1 (.tmp t) mt
 rw[aq,aB] at hv
 obtain⟨vs,e,hc⟩:=hv
 obtain⟨cC,cR⟩:=gZ.bW l vs hc
 refine⟨xs.map a.eval++vs,fun iQ=>GG iQ az aa af e,by simp[cC],fun i v x hv hx=>?_⟩
 by_cases aD:i < xs.length
 ·rw[List.getElem?_append_left (by simpa using aD)] at hv hx
  exact Dr mem g1 hS i v x hv hx
 ·rw[List.getElem?_append_right (by simp;omega)] at hv hx
  simp only[List.length_map] at hv hx
  exact cR _ v x hv hx
theorem LM: ∀bs:List Nat,(qX bs).length=(ux bs).length
 | []=>rfl
 |b::l=>by simp[qX,ux,LM l]
theorem LN {ρ:Nat→bq} {I:Nat→Prop} {w:World}: ∀(bs:List Nat) (i:Nat) (u:aO) (x:Value),(ux bs)[i]? =some u→(qX bs)[i]? =some x→b8 ρ I w u x
 | [],i,u,x,hu,_=>by simp[ux] at hu
 |b::l,0,u,x,hu,hx=>by
  simp only[ux,qX,List.getElem?_cons_zero,Option.some.injEq] at hu hx
  subst hu hx
  exact rfl
 |b::l,i+1,u,x,hu,hx=>by
  simp only[ux,qX,List.getElem?_cons_succ] at hu hx
  exact LN l i u x hu hx
theorem Te {c:Call} {t:Nat} {y:Nat×List Nat} {xs:List Operand} (az:o.op= .call c) (aa:c.callee= .value (.tmp t)) (af:c.args.toList=xs) (aB:look K t= .c (.one (.d (.fn y)))) (h:xb P y.1 (xs.map (aU K)++ux y.2) ids K B k):cv P N ids o K B k:=by
 have mem: ∀z∈xs,z∈o.op.operands:=fun z aS=>by
  rw[az]
  simp only[Op.operands,Call.operands,Array.mem_append]
  exact .inr (Array.mem_toList_iff.1 (by rw[af];exact aS))
 have mt:Operand.tmp t∈o.op.operands:=by
  rw[az]
  simp only[Op.operands,Call.operands,Array.mem_append,aa]
  exact .inl (by simp)
 refine GF mem (fun K' ρ I a w g1 hS=>?_) h
 have hv:=hS (t)
 have aq:look K' t=look K t:=g1 (.tmp t) mt
 rw[aq,aB] at hv
 have e:a.tmps.getD t undef= .func (.func y.1) #[] (List.toArray (qX y.2)):=hv
 refine⟨xs.map a.eval++qX y.2,fun iQ=>GG iQ az aa af e,by simp[LM],fun i v x hv hx=>?_⟩
 by_cases aD:i < xs.length
 ·rw[List.getElem?_append_left (by simpa using aD)] at hv hx
  exact Dr mem g1 hS i v x hv hx
 ·rw[List.getElem?_append_right (by simp;omega)] at hv hx
  simp only[List.length_map] at hv hx
  exact LN _ _ v x hv hx
theorem Tf (bh:dQ P tt) {T:TypeId} {x:Operand} {c:Call} (az:o.op= .call c) (fC:c.callee= .builtin .len) (dc:c.args.toList=[x]) (ke:c.argTypes.toList=[T]) (h:match F4 tt T B (aU K x) with
  |some (n,rc)=>k (.c (.one (.d (.int .i64 (n:Int))))) ⟨rc,[],[]⟩
  |none=>False):cv P N ids o K B k:=by
 have fT:c.args= #[x]:=Array.toList_inj.1 dc
 have iP:c.argTypes= #[T]:=Array.toList_inj.1 ke
 obtain⟨tj,args,ts⟩:=c
 simp only at fC fT iP
 subst fC fT iP
 have m1:x∈o.op.operands:=by rw[az];simp[Op.operands,Call.operands]
 have run: ∀{ev:Operand→Value} {w:World} {A:Option Addr} {n cap:Nat} {e:Nat},ev x= .slice A n cap→P.underlying T=some (.slice e)→(execOp ev o).run P w= .ok (.value (.int .i64 (n:Int))) w:=fun {ev w A n cap e} aa cc=>by
  simp[execOp,az,aa,resolve,invoke,builtin,Builtin.len_,run_underlying cc,goInt]
 split at h
 ·rename_i n rc hn
  refine cv.of h ?_
  unfold F4 at hn
  split at hn
  ·rename_i s hx
   split at hn
   ·rename_i cn
    injection hn with hn
    injection hn with aj ak
    subst aj ak
    refine bH.one hx m1 fun K' ρ I a w hS e=>⟨_,?_,rfl⟩
    simp[execOp,az,hS.str e,resolve,invoke,builtin,Builtin.len_,run_underlying (Dg bh cn),goInt,xl]
   ·cases hn
  ·rename_i u xs hx
   split at hn
   ·rename_i p he
    obtain⟨hu,_⟩:=pK bh (e:=p.1) (te:=p.2) he
    injection hn with hn
    injection hn with aj ak
    subst aj ak
    refine bH.one hx m1 fun K' ρ I a w hS e=>?_
    obtain⟨A,cap,bf,_⟩:=hS.cT e
    injection bf with bf
    exact⟨_,run bf hu,rfl⟩
   ·cases hn
  ·rename_i hx
   split at hn
   ·rename_i p he
    obtain⟨hu,_⟩:=pK bh (e:=p.1) (te:=p.2) he
    injection hn with hn
    injection hn with aj ak
    subst aj ak
    exact bH.one hx m1 fun K' ρ I a w hS e=>⟨_,run (hS.ec e) hu,rfl⟩
   ·cases hn
  ·rename_i mj hx
   split at hn
   ·rename_i p he
    obtain⟨hu,_⟩:=pK bh (e:=p.1) (te:=p.2) he
    split at hn
    ·rename_i e' u xs aB
     injection hn with hn
     injection hn with aj ak
     subst aj ak
     refine bH.val fun K' B' g1 g2 C ρ F a w aA hS=>?_
     obtain⟨hF,jq,cs,dD,_⟩:=aA.holds mj _ ((g2 mj (by simp)).trans aB)
     have eF:=hS.own ((g1 x m1).trans hx)
     obtain⟨_,A,cap,hv,_⟩:=fF.vJ dD
     exact⟨_,run (eF.trans hv) hu,rfl⟩
    ·cases hn
   ·cases hn
  ·rename_i mj hx
   split at hn
   ·rename_i p cn
    split at hn
    ·rename_i aN aP es aB
     injection hn with hn
     injection hn with aj ak
     subst aj ak
     refine bH.val fun K' B' g1 g2 C ρ F a w aA hS=>?_
     obtain⟨hF,cX,clock,ag,hm,dy⟩:=aA.holds mj _ ((g2 mj (by simp)).trans aB)
     have eF:=hS.mp ((g1 x m1).trans hx)
     refine⟨.int .i64 (es.length:Int),?_,rfl⟩
     rw[←CR hm]
     simp[execOp,az,eF,resolve,invoke,builtin,Builtin.len_,run_underlying (Di bh (kt:=p.1) (et:=p.2) cn),goInt,MapKept.run_getObj_map ag]
    ·cases hn
   ·cases hn
  ·cases hn
 ·exact h.elim
theorem LO {x y:Operand} {c:Call} {bi:Builtin} (Tg:bi= .min∨bi= .max) (az:o.op= .call c) (fC:c.callee= .builtin bi) (dc:c.args.toList=[x,y]) (h:match aU K x,aU K y with
  | .c (.one (.d (.int .i64 a))),.c (.one (.d (.int .i64 b)))=>k (.c (.one (.d (.int .i64 (if bi= .min then min a b else max a b))))) bx
  |_,_=>False):cv P N ids o K B k:=by
 have fT:c.args= #[x,y]:=Array.toList_inj.1 dc
 obtain⟨tj,args,ts⟩:=c
 simp only at fC fT
 subst fC fT
 have m1:x∈o.op.operands:=by rw[az];simp[Op.operands,Call.operands]
 have m2:y∈o.op.operands:=by rw[az];simp[Op.operands,Call.operands]
 split at h
 ·rename_i a b hx aF
  refine cv.of h <| bH.two hx aF m1 m2 fun K' ρ I ac w hS aj ak=>⟨_,?_,rfl⟩
  rcases Tg with rfl |rfl
  ·have e:(if b < a then b else a)=min a b:=by rw[Int.min_def];split <;>split <;>omega
   simp[execOp,az,hS.int aj,hS.int ak,resolve,invoke,builtin,run_min_int2,e]
  ·have e:(if b >a then b else a)=max a b:=by rw[Int.max_def];split <;>split <;>omega
   simp only[gt_iff_lt] at e
   simp[execOp,az,hS.int aj,hS.int ak,resolve,invoke,builtin,run_max_int2,e]
 ·exact h.elim
theorem mg.bool {P:Program} {T:Nat} {ti:cB} {i:TypeInfo} {d:TypeDesc} (h:mg P T ti i d) (aq:ti.cL= .bool):P.underlying T=some .bool:=by
 have:=h.cL
 rw[aq] at this
 rw[h.und]
 cases d <;>simp[s5] at this⊢
theorem LP (bh:dQ P tt) {T:Nat} (h:isBool tt T=true):P.underlying T=some .bool:=by
 unfold isBool at h
 split at h
 ·rename_i ti gA
  split at h
  ·rename_i aq
   obtain⟨_,_,bB⟩:=bh.at_ gA
   exact bB.bool aq
  ·cases h
 ·cases h
theorem LQ (bh:dQ P tt) {T:Nat} (h:F2 tt T=true): ∃e,P.underlying T=some (.pointer e):=by
 unfold F2 at h
 split at h
 ·rename_i ti gA
  split at h
  ·rename_i e aq
   obtain⟨_,_,bB⟩:=bh.at_ gA
   exact⟨e,bB.ptr aq⟩
  ·cases h
 ·cases h
theorem LR (bh:dQ P tt) {T:Nat} (h:yP tt T=true): ∃e i,P.underlying T=some (.pointer e)∧P.info? e=some i∧i.size≠0:=by
 unfold yP at h
 split at h
 ·rename_i ti gA
  split at h
  ·rename_i e aq
   split at h
   ·rename_i te vQ
    obtain⟨_,_,bB⟩:=bh.at_ gA
    obtain⟨i,_,th⟩:=bh.at_ vQ
    exact⟨e,i,bB.ptr aq,th.info,by rw[th.size];exact th.pos⟩
   ·cases h
  ·cases h
 ·cases h
theorem Ds (h:AL P ids o K B k):cv P N ids o K B k:=by
 obtain⟨v,e,aa,af,ay⟩:=h
 rw[uu] at ay
 exact⟨v,e,ay,aa N,Dq af⟩
set_option maxHeartbeats 1000000 in
theorem Th (bh:dQ P tt) (h:Gi P tt ids o K B k):cv P N ids o K B k:=by
 unfold Gi at h
 split at h
 ·exact Lg (.inl ‹_›) h
 ·exact Lg (.inr ‹_›) h
 ·exact RF ‹_› h
 ·rename_i op T x y gG az
  have fin:(∃v,k v bx∧bH P N ids o K B v bx)→cv P N ids o K B k:=fun⟨v,aa,af⟩=>cv.of aa af
  split at h
  ·rename_i cn;exact fin (Lb az (fun T=>LR bh) (LQ bh cn) h)
  ·rename_i cn;exact fin (Lb az (fun T=>LR bh) (LQ bh cn) h)
  ·split at h
   ·exact h.elim
   ·exact h.elim
   ·rename_i hx
    split at h
    ·rename_i ag;exact fin (Lc az (LP bh ag) (.inl hx) h)
    ·exact h.elim
   ·rename_i hx
    split at h
    ·rename_i ag;exact fin (Lc az (LP bh ag) (.inr hx) h)
    ·exact h.elim
   ·rename_i aa af _ _
    exact fin (La az (.inr fun c d=>⟨aa c d,af _⟩) h)
  ·exact h.elim
 ·exact RG ‹_› h
 ·exact RH ‹_› h
 ·exact RI ‹_› h
 ·exact RJ bh ‹_› h
 ·exact RL bh ‹_› h
 ·exact RV bh ‹_› h
 ·exact R1 bh ‹_› h
 ·exact R2 bh ‹_› h
 ·exact R4 bh ‹_› h
 ·rename_i T ps az
  split at h
  ·rename_i oa
   exact Sd bh az h oa
  ·exact h.elim
 ·rename_i T n ps hn az
  exact Sf bh az hn h
 ·exact Sh bh ‹_› h
 ·exact Si bh ‹_› h
 ·rename_i az
  split at h
  ·rename_i hx
   exact Sr bh az hx h
  ·rename_i c o hx
   split at h
   ·rename_i Ti
    have:=Nat.eq_of_beq_eq_true Ti
    subst this
    exact SB bh az hx h
   ·exact h.elim
  ·exact Sm bh az h
 ·exact SA bh ‹_› h
 ·exact Sn bh ‹_› h
 ·exact Sw bh ‹_› h
 ·exact Sy bh ‹_› h
 ·exact SE bh ‹_› h
 ·exact Tb ‹_› h
 ·exact SG bh ‹_› h
 ·rename_i c az
  split at h
  ·rename_i f aa
   exact LK az aa rfl h
  ·rename_i t aa
   split at h
   ·rename_i f l aB
    exact Td az aa rfl aB h
   ·rename_i x aB
    exact Te az aa rfl aB h
   ·exact h.elim
  ·rename_i x aa af
   split at h
   ·rename_i T cn
    exact Tf bh az aa af cn h
   ·exact h.elim
  ·rename_i x y aa af
   split at h
   ·rename_i T eN cn
    exact Sz bh az aa af cn h
   ·exact h.elim
  ·rename_i x y aa af
   refine LO (bi:=.min) (.inl rfl) az aa af ?_
   simp only[if_pos rfl]
   exact h
  ·rename_i x y aa af
   refine LO (bi:=.max) (.inr rfl) az aa af ?_
   simp only[reduceCtorEq,if_false]
   exact h
  ·rename_i x y aa af
   split at h
   ·rename_i T eN cn
    exact Ta bh az aa af cn h
   ·exact h.elim
  ·rename_i x y aa af
   split at h
   ·rename_i T eN cn
    split at h
    ·rename_i he
     have:=Nat.eq_of_beq_eq_true he
     subst this
     exact SL bh az aa af cn h
    ·exact SU bh az aa af cn h
   ·exact h.elim
  ·exact Ds h
 ·exact Ds h
theorem A2 (bh:dQ P tt) (h:yT P tt ids o K B k):cv P N ids o K B k:=by
 unfold yT at h
 split at h
 ·exact Ds h
 ·exact Th bh h
end
end Go.Proofs.YteoamepgonpdlaaGreat
