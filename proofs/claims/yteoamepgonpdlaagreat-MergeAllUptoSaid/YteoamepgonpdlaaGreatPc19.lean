/-
Part 19 of the proof that stands in YteoamepgonpdlaaGreatPcRow, with what it needs from the parts ahead; the parts of this text: Qo, Qy.
-/
import Derived.Laws.StructEq
import Derived.Test.YteoamepgonpdlaaGreatPc18
set_option linter.unusedVariables false
set_option linter.unusedSimpArgs false
set_option maxRecDepth 10000
namespace Go.Proofs.YteoamepgonpdlaaGreat
open Go.RowKit Go.Proofs
theorem ab8 {P:Program} {ids:List Nat} {K:aQ} {B:aG} {o:Oper} {T gG:TypeId} {x y:Operand} {lx ly:List bD} {m D:Nat} (az:o.op= .binOp .neq T x y gG) (bk:P.eqGuardType P.depth T=false) (aq:P.keyTypeAt m T=true) (hm:m≤10000)
  (hx:aU K x= .c (.agg lx)) (aF:aU K y= .c (.agg ly)) (gq:(xZ lx&&xZ ly)=true) (HK:(Value.agg (List.toArray (kD lx))).formed P T=true) (HL:(Value.agg (List.toArray (kD ly))).formed P T=true)
  (HM:P.keyLits D T (kD lx)=some (g9 lx)) (HN:P.keyLits D T (kD ly)=some (g9 ly)) {r:Bool} (hr:r=true↔g9 lx=g9 ly) (N:Nat):bH P N ids o K B (.c (.one (.d (.bool (!r))))) ⟨[],[],[]⟩:=by
 have m1:x∈o.op.operands:=by rw[az];simp[Op.operands]
 have m2:y∈o.op.operands:=by rw[az];simp[Op.operands]
 simp only[Bool.and_eq_true] at gq
 refine bH.val fun K' B' g1 g2 C ρ F a w aA hS=>?_
 obtain⟨vs,aj,aa⟩:=hS.ev ((g1 x m1).trans hx)
 obtain⟨us,ak,af⟩:=hS.ev ((g1 y m2).trans aF)
 have aa:=BE gq.1 aa
 have af:=BE gq.2 af
 subst aa af
 obtain⟨q,bp,q2⟩:=run_equalIn_deep (P:=P) (10000 - m) m T aq w D D (.agg (List.toArray (kD lx))) (.agg (List.toArray (kD ly))) (g9 lx) (g9 ly) HK HL (by simpa[Value.cells] using HM) (by simpa[Value.cells] using HN)
 rw[show 10000 - m+m=10000 by omega] at bp
 have HO:q=r:=by
  cases q <;>cases r
  ·rfl
  ·exact absurd (q2.2 (hr.1 rfl)) (by simp)
  ·exact absurd (hr.2 (q2.1 rfl)) (by simp)
  ·rfl
 subst HO
 refine⟨.bool (!q),?_,rfl⟩
 simp only[execOp,az,aj,ak,Sem.run_bind,run_eqGuard_agg w .neq T x y _ _ bk,Result.andThen_ok,run_neq_struct,bp,Sem.run_pure]
@[reducible] def qh (n:Int):Prop:= -9223372036854775808≤n∧n≤9223372036854775807
theorem Kz (d:Nat) {n:Int} (h:qh n):Tryz.prog.keyLits (d+1) 3 [.int .i64 n]=some [.int .i64 n]:=by
 unfold Program.keyLits
 simp only[Tryz.underlying3]
 have hw:(Lit.int .i64 n).wf=true:=by
  simp only[Lit.wf,Bool.and_eq_true,decide_eq_true_eq]
  have aa:IntKind.min .i64= -9223372036854775808:=by decide
  have af:IntKind.max .i64=9223372036854775807:=by decide
  rw[aa,af]
  exact h
 simp[hw]
theorem ab9 (d:Nat) {x:gX} (aa:qh x.1) (af:qh x.2.1) (ay:qh x.2.2):Tryz.prog.keyLits (d+2) 114 (kD [.d (.int .i64 x.1),.d (.int .i64 x.2.1),.d (.int .i64 x.2.2)])=some (g9 [.d (.int .i64 x.1),.d (.int .i64 x.2.1),.d (.int .i64 x.2.2)]):=by
 have aW:Tryz.prog.cellsOf 114=3:=by kernel_rfl
 have aX:Tryz.prog.cellsOf 3=1:=by kernel_rfl
 have cz:=Kz d aa
 have er:=Kz d af
 have eX:=Kz d ay
 unfold Program.keyLits
 simp only[Tryz.underlying114,aW]
 simp[kD,DV,aX,cz,er,eX,g9,xY]
theorem ab' (l:List gX) (aB:l.length≤100000) (dz: ∀x,x∈l→qh x.1∧qh x.2.1∧qh x.2.2):Fn Tryz.prog 30 [cI jm l,cI jm l] [] [] (iw true) []:=by
 refine Fn.of ai [] _ _ _ _ _ Tryz.func30 rfl rfl (by kernel_rfl) (by kernel_rfl) rfl (aJ ai) rfl ?_
 refine⟨fun h=>absurd (show(!decide (((l.length:Nat):Int)=((l.length:Nat):Int)))=true from h) (by simp),fun _=>?_⟩
 show av _ _ _ _ _ _ _
 refine av.loop ai (aJ ai) [] (by kernel_rfl) (X:=Nat) (fun i=>[(0,cI jm l),(1,cI jm l),(5,aC (i:Nat))]) (fun _=>[]) (fun i=>i≤l.length) (fun i=>l.length - i) 0 (Nat.zero_le _) ?_ ?_
 ·exact ah.sub ⟨rfl,rfl,rfl,trivial⟩ trivial
 intro i aD
 have aD:i≤l.length:=aD
 refine⟨fun h=>?_,fun h=>?_⟩
 ·have mS:i < l.length:=by
   have h:decide (((i:Nat):Int) < ((l.length:Nat):Int))=true:=h
   have:=of_decide_eq_true h
   omega
  have bk:eT l i=some l[i]:=List.getElem?_eq_getElem mS
  have hm:=dz _ (List.getElem_mem mS)
  generalize l[i]=x at*
  have aq:=ab9 3 hm.1 hm.2.1 hm.2.2
  have m1:(0:Int)≤((i:Nat):Int):=by omega
  have m2: -9223372036854775808≤((i:Nat):Int)+1∧((i:Nat):Int)+1≤9223372036854775807:=by omega
  refine⟨m1,x,bk,m1,x,bk,?_⟩
  refine⟨_,_,fun N=>ab8 (m:=5) (D:=5) (r:=true) (lx:=[.d (.int .i64 x.1),.d (.int .i64 x.2.1),.d (.int .i64 x.2.2)]) (ly:=[.d (.int .i64 x.1),.d (.int .i64 x.2.1),.d (.int .i64 x.2.2)]) rfl (by kernel_rfl) (by kernel_rfl) (by decide) rfl rfl rfl (by rfl) (by rfl) aq aq ⟨fun _=>rfl,fun _=>rfl⟩ N,rfl,?_⟩
  refine⟨rfl,?_⟩
  refine⟨fun h=>absurd h (by decide),fun _=>?_⟩
  exact⟨m2,i+1,mS,by show l.length - (i+1) < l.length - i;omega,ah.sub ⟨rfl,rfl,rfl,trivial⟩ trivial⟩
 ·exact⟨_,_,_,ah.refl _ _,rfl,rfl,trivial,rfl⟩
theorem acd {ks:List Int} (aq:ks.length≤1000) (ag: ∀k,k∈ks→qh k): ∀x,x∈iC ks→qh x.1∧qh x.2.1∧qh x.2.2:=fun x hx=>by
 obtain⟨aa,af,ay,bu⟩:=(JL ks).each x hx
 have dI:=bu x.1.toNat (by omega) (by omega)
 have kr:=ag _ (List.mem_of_getElem? dI)
 refine⟨?_,?_,kr⟩
 ·unfold qh;omega
 ·unfold qh;omega
section
variable {n bits room:Nat} {L:List aK} {l:List bK}
end
end Go.Proofs.YteoamepgonpdlaaGreat
namespace Go.Proofs.YteoamepgonpdlaaGreat
open Go.RowKit Go.Proofs
theorem cZ.nil (bits room:Nat):cZ (2 ^bits) bits room [] [] where
 eO:=rfl
 nm:=(List.length_eq_zero_iff.1 (by rw[Ex];rfl)).symm
 nK:=fun x=>rfl
 rR:=fun x d e h _=>by cases h
theorem cZ.all {n bits room:Nat} {L:List aK} {l:List bK} (h:cZ n bits room L l) (bJ:bX bits room L) {x:List UInt8} {d:aK} (hd:dk L x=some d):Fg bits L x=rP n l x d.im.t.length:=by
 unfold Fg
 rw[hd]
 show fS bits L x (c7 L x) 0 (d.im.t.length*2 ^bits)=_
 rw[Nat.mul_comm,←h.eO]
 exact h.al bJ ⟨d,hd⟩ d.im.t.length
theorem ace {bits room:Nat} {L:List aK} (h:bX bits room L) {top:List UInt8} {o:gm} (he:(iq bits L top o).e=0):0≤nh o:=by
 unfold iq at he
 unfold nh
 by_cases aW:dg (cV o)=1
 ·rw[if_pos aW]
  omega
 ·rw[if_neg aW] at he⊢
  by_cases aX:dg (cV o)=2
  ·rw[if_pos aX] at he
   obtain⟨d,hd,_,aB,_⟩:=PO he
   omega
  ·rw[if_neg aX] at he
   exact absurd he (show¬(1:Int)=0 by decide)
theorem acf {bits room:Nat} {L:List aK} (h:bX bits room L) {top:List UInt8} {o:gm} (he:(iq bits L top o).e≠0):(iq bits L top o).L=L:=by
 unfold iq at he⊢
 by_cases aW:dg (cV o)=1
 ·rw[if_pos aW] at he⊢
  exact aaG h he
 ·rw[if_neg aW] at he⊢
  by_cases aX:dg (cV o)=2
  ·rw[if_pos aX] at he⊢
   exact aaH h he
  ·rw[if_neg aX]
structure kq (L:List aK) (R:List bK) (top base:List UInt8) (l:List Nat) (b:List Bool) (over:Bool) (N:Nat):Prop where
 jw:jL 1 40 L top l
 uj:(dk L base).isSome=true
 rc:cZ (2 ^1) 1 40 L R
 dl:um R N
 CI:Fv (eo L top) l b over
section
variable {L:List aK} {R:List bK} {top base:List UInt8} {l:List Nat} {b:List Bool} {over:Bool} {N:Nat}
theorem kq.mono (h:kq L R top base l b over N) {M:Nat} (aA:N≤M):kq L R top base l b over M:=⟨h.jw,h.uj,h.rc,fun e he=>Nat.le_trans (h.dl e he) aA,h.CI⟩
theorem kq.ef (h:kq L R top base l b over N):b.length≤256:=by
 have aa:=h.jw.len
 have af:=h.CI
 cases over with
 |true=>
  obtain⟨_,af⟩:=af
  rw[af]
  exact Nat.zero_le _
 |false=>
  have:=lz.len af
  omega
theorem kq.names (h:kq L R top base l b over N):top.length≤15∧base.length≤15:=by
 obtain⟨d,hd⟩:=Option.isSome_iff_exists.1 h.jw.jD
 obtain⟨e,he⟩:=Option.isSome_iff_exists.1 h.uj
 have aa:=(EK (h.jw.cs.yu d (cA hd).1)).2
 have af:=(EK (h.jw.cs.yu e (cA he).1)).2
 rw[(cA hd).2] at aa
 rw[(cA he).2] at af
 exact⟨aa,af⟩
theorem kq.step (h:kq L R top base l b over N) (c4:N+256≤100000): ∃r:Co,Fn Tryz.prog 37 [kT 1 40 R,vC top base b over] [] [] (J0 1 40 top base r) []∧r.is=(eS 1 L top base l over).done∧r.e=(eS 1 L top base l over).e∧r.over=(eS 1 L top base l over).over∧
  kq (eS 1 L top base l over).L r.l top base (eS 1 L top base l over).l r.b (eS 1 L top base l over).over (N+256):=by
 obtain⟨d,hd⟩:=Option.isSome_iff_exists.1 h.jw.jD
 obtain⟨e,bk,-,-⟩:=h.rc.get hd
 have bB:=h.rc.yD h.jw.cs
 have tB: ∃t,oH L t (eS 1 L top base l over).L:=by
  unfold eS
  split
  ·exact⟨top,.inl rfl⟩
  ·split
   ·exact⟨top,E5 h.jw.cs _ _ _⟩
   ·exact⟨base,Kq h.jw.cs top base _⟩
 obtain⟨t,tB⟩:=tB
 have uL:=h.jw.step base over
 have EC:(dk (eS 1 L top base l over).L base).isSome=true:=by rw[(tB.aM base).2];exact h.uj
 have dH:=(tB.aM top).1
 have au:=h.CI
 cases over with
 |true=>
  refine⟨⟨R,b,true,false,150⟩,Z2 1 40 R top base b (by have:=bB.len;omega),rfl,rfl,rfl,uL,EC,h.rc,fun e he=>Nat.le_trans (h.dl e he) (Nat.le_add_right _ _),?_⟩
  exact au
 |false=>
  have au:lz (eo L top) l b:=au
  obtain⟨g1,g2,bL,gH,uR,acg⟩:=h.rc.ms h.jw au bk base h.dl c4 rfl
  have hn:=h.names
  have kW:=Z3 bB 1 40 top base b bk (by rw[au.len];exact h.rc.aM hd bk) (fun e he=>by have:=h.dl e he;omega) (by omega) (by omega)
  exact⟨_,kW,g1,g2,bL,uL,EC,gH,uR,by rw[dH];exact acg⟩
theorem kq.write (h:kq L R top base l b over N) (c4:N+256≤100000) (o:gm) (he:(iq 1 L top o).e=0):
  (jv (2 ^1) 1 40 R (3,0,top,[],cV o)).e=0∧kq (iq 1 L top o).L (jv (2 ^1) 1 40 R (3,0,top,[],cV o)).l top base (uk 1 L top l over o) (if over=true then b else oI (cJ (cV o)) (nh o) 2 b b.length) over (N+256):=by
 have tB:=QF h.jw.cs top o
 have mR:kF 1 40 L (3,0,top,[],cV o) (0,0)=iq 1 L top o:=by
  show yF 1 L top (cV o)=_
  unfold yF iq
  by_cases aW:dg (cV o)=1
  ·rw[if_pos aW,if_pos aW]
  ·rw[if_neg aW,if_neg aW]
   by_cases aX:dg (cV o)=2
   ·rw[if_pos aX,if_pos aX]
   ·exfalso
    rw[Ku aW aX] at he
    cases he
 have bp:dg (cV o)≠0:=fun w=>by
  rw[Ku (by omega) (by omega)] at he
  cases he
 obtain⟨g1,g2,bL⟩:=h.rc.go h.jw.cs (3,0,top,[],cV o) (0,0) (by rw[mR];exact(h.jw.lm tB).cs) h.dl c4
 rw[mR] at g1 g2
 have g1:=g1 fun _=>bp
 have cG:uk 1 L top l over o=qR 1 (iq 1 L top o).L top l over (cJ (cV o)) (nh o):=if_pos he
 have dH:=(tB.aM top).1
 refine⟨g1.trans he,?_,by rw[(tB.aM base).2];exact h.uj,g2,bL,?_⟩
 ·rw[cG]
  exact(h.jw.lm tB).wr over _ _
 ·rw[cG]
  have au:=h.CI
  cases over with
  |true=>
   rw[if_pos rfl]
   exact⟨au.1,au.2⟩
  |false=>
   rw[if_neg (fun w=>by cases w)]
   have au:lz (eo L top) l b:=au
   rw[←dH] at au
   exact lz.wr (bits:=1) au _ _
theorem kq.tail (h:kq L R top base l b over N): ∃(c:Int) (x:List gX) (y z:List UInt8),
  Fn Tryz.prog 43 [aH 2001] (fM 1 40 L top base l over) [] (aC c) (fM 1 40 L top base l over)∧
  Fn Tryz.prog 44 [vC top base b over] [] [] (aC c) []∧
  Fn Tryz.prog 14 [aH 1001,bG top] (bM 1 40 L) [] (.c6 [.one (.d (.cT jm x)),fh 0]) (bM 1 40 L)∧
  Fn Tryz.prog 31 [kT 1 40 R,bG top] [] [] (cI jm x) []∧
  Fn Tryz.prog 46 [aH 1001,bG top] (bM 1 40 L) [] (bG y) (bM 1 40 L)∧
  Fn Tryz.prog 29 [kT 1 40 R,bG top] [] [] (bG y) []∧
  Fn Tryz.prog 46 [aH 1001,bG base] (bM 1 40 L) [] (bG z) (bM 1 40 L)∧
  Fn Tryz.prog 29 [kT 1 40 R,bG base] [] [] (bG z) []∧
  Fn Tryz.prog 45 [aH 2001] (fM 1 40 L top base l over) [] (iw over) (fM 1 40 L top base l over)∧
  Fn Tryz.prog 30 [cI jm x,cI jm x] [] [] (iw true) []:=by
 have bJ:=h.jw.cs
 have hR:=h.rc
 obtain⟨d3,zW⟩:=Option.isSome_iff_exists.1 h.jw.jD
 obtain⟨d4,QT⟩:=Option.isSome_iff_exists.1 h.uj
 obtain⟨bf,g1,g2,bL⟩:=hR.get zW
 obtain⟨cF,f1,f2,f3⟩:=hR.get QT
 have Fx:=hR.yD bJ
 have Hz:=Fx.len
 have Fy:=Zh bJ top
 rw[show Ch 1 L top=(iC (m7 1 L top d3.im.t.length),0) by unfold Ch;rw[zW]] at Fy
 have tP:=Qz bJ top
 rw[hR.all bJ zW] at tP
 have cP:=JQ Fx 1 40 top g1
 rw[bL.len] at cP
 have Fz:=Qz bJ base
 rw[hR.all bJ QT] at Fz
 have FA:=JQ Fx 1 40 base f1
 rw[f3.len] at FA
 have yH:=Zr Fx 1 40 top g1
 rw[hR.cL bJ ⟨d3,zW⟩,bL.len] at yH
 have Cn:=JI 1 L top d3.im.t.length
 have lT:=bL.im.tl
 have dz:=acd (ks:=m7 1 L top d3.im.t.length) (by rw[Cn];omega) fun k aq=>by
  unfold m7 at aq
  obtain⟨c,_,rfl⟩:=List.mem_map.1 aq
  have:=ZN bJ zW (c:=c)
  have:=(bJ.dep top).2
  unfold qh
  omega
 have Bi:=(JL (m7 1 L top d3.im.t.length)).len
 have KA:=ab' (iC (m7 1 L top d3.im.t.length)) (by omega) dz
 have sS:=ZT top base b over (by have:=h.ef;omega)
 rw[h.CI.cnt h.jw.lt h.jw.lQ] at sS
 exact⟨_,_,_,_,Qn 1 40 L top base l over,sS,Fy,yH,tP,cP,Fz,FA,abh 1 40 L top base l over,KA⟩
end
theorem kq.AA {L:List aK} {R:List bK} {top:List UInt8} {N:Nat} (bJ:bX 1 40 L) (hR:cZ (2 ^1) 1 40 L R) (cq:um R N) (he:ng L top=0): ∃b,Fn Tryz.prog 36 [kT 1 40 R,bG top] [] [] (.c6 [.agg (qO top (fu L top).1 b false),fh 0]) []∧kq L R top (fu L top).1 (vE L top) b false N:=by
 obtain⟨aj,ak,bf,cF⟩:=Kj he
 obtain⟨d,hd,ag,iA⟩:=Fj bJ aj
 obtain⟨e,j4⟩:=iA (by rw[←ag];exact ak)
 obtain⟨x,g1,g2,bL⟩:=hR.get hd
 obtain⟨y,f1,f2,f3⟩:=hR.get j4
 have bB:=hR.yD bJ
 rw[ag] at ak bf cF⊢
 rw[←g2] at f1
 have kW:=ZW 1 40 R top (by have:=bB.len;omega) g1 (by rw[g2];exact ak) f1 (by rw[g2,hR.us bJ];omega) (by rw[←hR.aM hd g1,←hR.aM (by rw[g2];exact j4) f1,g2];omega) (bB.ok x (tX g1)).jF
 rw[g2] at kW
 exact⟨_,kW,jL.AA bJ he,by rw[j4];rfl,hR,cq,lz.AA hR hd g1⟩
@[reducible] def ach (l:List fy) (top:List UInt8) (m:List gm) (k:Nat):aQ:=[(1,bG top),(2,cI kU m),(7,aH 1001),(9,aH 9),(67,cI pg l),(68,aC (l.length:Nat)),(69,aC (k:Nat))]
@[reducible] def aci (L:List aK) (R:List bK):aG:=bM 1 40 L++[(9,.cells (jJ 1 40 R))]
@[reducible] def AB (top:List UInt8) (m:List gm) (j:Nat):aQ:=[(1,bG top),(7,aH 1001),(9,aH 9),(16,aH 2001),(18,aH 18),(116,cI kU m),(117,aC (m.length:Nat)),(118,aC (j:Nat))]
@[reducible] def acj (top:List UInt8) (m:List gm) (j:Nat) (k:Int):aQ:=[(1,bG top),(7,aH 1001),(9,aH 9),(16,aH 2001),(18,aH 18),(116,cI kU m),(117,aC (m.length:Nat)),(118,aC (j:Nat)),(21,aH 21),(123,aC k)]
@[reducible] def ack (top:List UInt8) (m:List gm) (j:Nat) (b:Bool) (e:Int):aQ:=[(1,bG top),(7,aH 1001),(9,aH 9),(16,aH 2001),(18,aH 18),(116,cI kU m),(117,aC (m.length:Nat)),(118,aC (j:Nat)),(24,iw b),(25,aC e)]
@[reducible] def acm (top:List UInt8) (m:List gm) (j:Nat):aQ:=[(1,bG top),(7,aH 1001),(9,aH 9),(16,aH 2001),(18,aH 18),(116,cI kU m),(117,aC (m.length:Nat)),(118,aC (j:Nat)),(21,aH 21)]
@[reducible] def acn (top:List UInt8) (m:List gm) (j:Nat) (e g:Int):aQ:=[(1,bG top),(7,aH 1001),(9,aH 9),(16,aH 2001),(18,aH 18),(116,cI kU m),(117,aC (m.length:Nat)),(118,aC (j:Nat)),(21,aH 21),(28,aH 28),(30,aC e),(31,aC g)]
@[reducible] def aco (top:List UInt8) (m:List gm) (j:Nat) (x:List gX):aQ:=[(1,bG top),(7,aH 1001),(9,aH 9),(16,aH 2001),(18,aH 18),(116,cI kU m),(117,aC (m.length:Nat)),(118,aC (j:Nat)),(32,cI jm x)]
@[reducible] def vH (L:List aK) (top base:List UInt8) (l:List Nat) (over:Bool) (R:List bK) (b:List Bool) (CJ:Bool):aG:=fM 1 40 L top base l over++[(9,.cells (jJ 1 40 R)),(18,.cells (qO top base b CJ))]
@[reducible] def QU (L:List aK) (top base:List UInt8) (l:List Nat) (over:Bool) (R:List bK) (b:List Bool) (CJ:Bool) (o:gm):aG:=fM 1 40 L top base l over++[(9,.cells (jJ 1 40 R)),(18,.cells (qO top base b CJ)),(21,.cells (Fh o))]
@[reducible] def acp (L:List aK) (top base:List UInt8) (l:List Nat) (over:Bool) (R qT:List bK) (b:List Bool) (CJ:Bool) (o:gm):aG:=fM 1 40 L top base l over++[(9,.cells (jJ 1 40 R)),(18,.cells (qO top base b CJ)),(21,.cells (Fh o)),(28,.cells (jJ 1 40 qT))]
set_option maxHeartbeats 1000000 in
theorem acq (l:List fy) (top:List UInt8) (m:List gm) (aB:l.length≤1073741824) (cc:(l.map mH).sum≤1073741824) (r6:m.length≤1073741824) (J4:(m.map nL).sum≤1073741824):Fn Tryz.prog 5 [cI pg l,bG top,cI kU m] [] [] (iw true) []:=by
 refine Fn.of ai [10,14,22,25,29,34,40,41] _ _ _ _ _ Tryz.func5 rfl rfl (by kernel_rfl) (by kernel_rfl) rfl (aJ ai) rfl ?_
 refine⟨_,_,_,_,N4 1 40 (by decide) (by decide),trivial,rfl,?_⟩
 refine⟨_,_,_,_,ZF 1 40,trivial,rfl,?_⟩
 rw[show jf 1 0 40=true from rfl]
 refine⟨rfl,?_⟩
 refine⟨fun h=>absurd h (by decide),fun _=>?_⟩
 refine⟨fun h=>absurd h (by decide),fun _=>?_⟩
 refine⟨_,_,_,_,abE l m aB cc r6 J4,trivial,rfl,?_⟩
 refine⟨fun _=>?_,fun hf=>?_⟩
 ·refine⟨fun _=>?_,fun h=>absurd h (by decide)⟩
  refine⟨_,_,_,_,Kr,trivial,rfl,?_⟩
  exact⟨_,_,_,ah.refl _ _,rfl,rfl,trivial,rfl⟩
 have acr:sU l m=true:=by
  have hf:(!sU l m)=false:=hf
  simpa using hf
 obtain⟨qx,GB,acs⟩:=aaU acr
 show av _ _ _ _ _ _ _
 refine av.loop ai (aJ ai) [10,14,22,25,29,34,40,41] (by kernel_rfl) (X:=Nat×List aK×List bK) (fun x=>ach l top m x.1) (fun x=>aci x.2.1 x.2.2) (fun x=>x.1≤l.length∧bX 1 40 x.2.1∧cZ (2 ^1) 1 40 x.2.1 x.2.2∧um x.2.2 (256*x.1)) (fun x=>l.length - x.1) (0,[],[]) ⟨Nat.zero_le _,bX.nil (by decide) (by decide),cZ.nil 1 40,fun e he=>by cases he⟩ ?_ ?_
 ·exact ah.sub ⟨rfl,rfl,rfl,rfl,rfl,rfl,rfl,trivial⟩ ⟨rfl,rfl,rfl,rfl,rfl,trivial⟩
 rintro⟨k,L,R⟩ ⟨aq,bJ,hR,cq⟩
 have aq:k≤l.length:=aq
 have bJ:bX 1 40 L:=bJ
 have hR:cZ (2 ^1) 1 40 L R:=hR
 have cq:um R (256*k):=cq
 refine⟨fun hc=>?_,fun hc=>?_⟩
 ·have hc:decide ((k:Int) < ((l.length:Nat):Int))=true:=hc
  have bP:k < l.length:=by have:=of_decide_eq_true hc;omega
  have aV:=(GB _ (List.getElem_mem bP)).1
  have eB:=eA (n:=k) bP
  generalize l[k]=o at*
  have Fp:mH o=(dX (cK o)).length+(cg o).length+(eL o).length:=rfl
  have KB:=E4 (hR.yD bJ) (1:Int) (40:Int) o (by omega) (by omega) fun e he=>by have:=cq e he;omega
  have gQ:=abG bJ o (by omega)
  have Cq:=fun p dB=>hR.go bJ o p dB cq (by omega)
  refine⟨by omega,o,eB,?_⟩
  refine⟨rfl,?_⟩
  refine⟨_,_,_,_,KB,trivial,rfl,?_⟩
  refine⟨rfl,?_⟩
  show av _ _ _ _ _ _ _
  refine av.uP ai (by kernel_rfl) ?_
  refine⟨_,_,_,fun g=>_,fun g=>_,gQ,⟨rfl,rfl,rfl,rfl,trivial⟩,rfl,fun _=>rfl,fun g=>?_⟩
  obtain⟨-,g2,bL⟩:=Cq g.1 g.2
  exact⟨by omega,(k+1,(kF 1 40 L o g.1).L,(jv (2 ^1) 1 40 R o).l),⟨bP,g.2,g2,fun e he=>by have:=bL e he;show _≤256*(k+1);omega⟩,by show l.length - (k+1) < l.length - k;omega,ah.sub ⟨rfl,rfl,rfl,rfl,rfl,rfl,rfl,trivial⟩ ⟨rfl,rfl,rfl,rfl,rfl,trivial⟩⟩
 have acu:=hR.yD bJ
 have Fo:=hR.ab4 bJ top
 by_cases he:ng L top=0
 case neg=>
  have Fa:=abj bJ top he
  have FB:=ZU 1 40 R top (by have:=acu.len;omega) (fun d hd ag=>by
   rcases hR.both top with⟨aj,ak⟩ |⟨d2,e,aj,ak,bf,cF⟩
   ·rw[hd] at ak;cases ak
   ·rw[hd] at ak
    injection ak with ak
    subst ak
    rw[bf] at ag⊢
    obtain⟨f,hf⟩:=bJ.jD d2 (cA aj).1 ag
    obtain⟨x,hx,_⟩:=hR.get hf
    exact⟨x,hx⟩) (by rw[Fo];exact he)
  rw[Fo] at FB
  generalize ng L top=pe at*
  refine⟨_,_,_,_,Fa,⟨rfl,rfl,rfl,rfl,trivial⟩,rfl,?_⟩
  refine⟨_,_,_,_,FB,trivial,rfl,?_⟩
  refine⟨rfl,?_⟩
  show av _ _ _ _ _ _ _
  refine av.go ai (aJ ai) [] (by kernel_rfl) (ah.sub (K':=[(16,.c zz),(17,aC pe),(19,aC pe)]) (B':=[]) ⟨rfl,rfl,rfl,trivial⟩ trivial) ?_
  refine⟨fun h=>absurd (show(!decide (pe=pe))=true from h) (by rw[decide_eq_true rfl];decide),fun _=>?_⟩
  refine⟨fun _=>?_,fun h=>?_⟩
  ·refine⟨_,_,_,_,Kr,trivial,rfl,?_⟩
   refine⟨fun _=>?_,fun h=>absurd h (by decide)⟩
   refine⟨fun _=>?_,fun h=>absurd (show decide (pe=pe)=false from h) (by rw[decide_eq_true rfl];decide)⟩
   exact⟨_,_,_,ah.refl _ _,rfl,rfl,trivial,rfl⟩
  ·exfalso
   have h:(!decide (pe=0))=false:=h
   rw[decide_eq_false he] at h
   cases h
 obtain⟨kY,FB,acv⟩:=kq.AA bJ hR cq he
 have Fa:=Qq bJ top he
 generalize(fu L top).1=base at*
 generalize vE L top=QV at*
 refine⟨_,_,_,_,Fa,⟨rfl,rfl,rfl,rfl,trivial⟩,rfl,?_⟩
 refine⟨_,_,_,_,FB,trivial,rfl,?_⟩
 refine⟨rfl,?_⟩
 show av _ _ _ _ _ _ _
 refine av.go ai (aJ ai) [22,25,29,34,40,41] (by kernel_rfl) (ah.sub (K':=[(1,bG top),(2,cI kU m),(7,aH 1001),(9,aH 9),(16,aH 2001),(17,aC 0),(18,aH 18),(19,aC 0)]) (B':=vH L top base QV false R kY false) ⟨rfl,rfl,rfl,rfl,rfl,rfl,rfl,rfl,trivial⟩ ⟨rfl,rfl,rfl,rfl,rfl,rfl,rfl,rfl,trivial⟩) ?_
 refine⟨fun h=>absurd h (by decide),fun _=>?_⟩
 refine⟨fun h=>absurd h (by decide),fun _=>?_⟩
 have jB:k≤60:=by omega
 show av _ _ _ _ _ _ _
 refine av.loop ai (aJ ai) [22,25,29,34,40,41] (by kernel_rfl) (X:=Nat×List aK×List bK×List Nat×List Bool×Bool) (fun x=>AB top m x.1) (fun x=>vH x.2.1 top base x.2.2.2.1 x.2.2.2.2.2 x.2.2.1 x.2.2.2.2.1 x.2.2.2.2.2) (fun x=>x.1≤m.length∧kq x.2.1 x.2.2.1 top base x.2.2.2.1 x.2.2.2.2.1 x.2.2.2.2.2 (256*(60+x.1))) (fun x=>m.length - x.1) (0,L,R,QV,kY,false) ⟨Nat.zero_le _,acv.mono (by show 256*k≤256*(60+0);omega)⟩ ?_ ?_
 ·exact ah.sub ⟨rfl,rfl,rfl,rfl,rfl,rfl,rfl,rfl,trivial⟩ ⟨rfl,rfl,rfl,rfl,rfl,rfl,rfl,rfl,trivial⟩
 rintro⟨j,kG,qT,kN,b2,over⟩ ⟨au,hA⟩
 have au:j≤m.length:=au
 have hA:kq kG qT top base kN b2 over (256*(60+j)):=hA
 refine⟨fun hc=>?_,fun hc=>?_⟩
 ·have hc:decide ((j:Int) < ((m.length:Nat):Int))=true:=hc
  have iD:j < m.length:=by have:=of_decide_eq_true hc;omega
  have aV:=acs _ (List.getElem_mem iD)
  have eB:=eA (n:=j) iD
  generalize m[j]=o at*
  have Qy:nL o=(dX (cV o)).length:=rfl
  have yI:kq kG qT top base kN b2 over (256*(60+(j+1))):=hA.mono (by omega)
  have wH:=hA.names
  have e6:=hA.ef
  have gO:=hA.jw.Fq base over
  obtain⟨r,zT,s1,s2,uB,s8⟩:=hA.step (by omega)
  obtain⟨KC,bs,ro,rR,acw⟩:=r
  have s1:rR=_:=s1
  have s2:acw=_:=s2
  have uB:ro=_:=uB
  subst s1 s2 uB
  have s8:kq (eS 1 kG top base kN over).L KC top base (eS 1 kG top base kN over).l bs (eS 1 kG top base kN over).over (256*(60+(j+1))):=s8.mono (by omega)
  generalize eS 1 kG top base kN over=ps at*
  obtain⟨KD,KE,acy,acz,KF⟩:=ps
  have QW:=abW hA.jw base over o (by omega)
  have KB:=E4 (hA.rc.yD hA.jw.cs) (1:Int) (40:Int) (3,0,top,[],cV o) (by show top.length≤4294967296;omega) (by show(dX (cV o)).length≤1000000;omega) fun e he=>by have:=hA.dl e he;omega
  have wU:=fun he=>hA.write (by omega) o he
  have KG:=fun he=>QG hA.jw.cs (top:=top) (o:=o) (by omega) he
  refine⟨by omega,o,eB,?_⟩
  refine⟨rfl,?_⟩
  show av _ _ _ _ _ _ _
  refine av.go ai (aJ ai) [25,29,34,40,41] (by kernel_rfl) (ah.sub (K':=acj top m j (Qc o)) (B':=QU kG top base kN over qT b2 over o) ⟨rfl,rfl,rfl,rfl,rfl,rfl,rfl,rfl,rfl,rfl,trivial⟩ ⟨rfl,rfl,rfl,rfl,rfl,rfl,rfl,rfl,rfl,trivial⟩) ?_
  refine⟨fun cx=>?rQ,fun cx=>?sR⟩
  case' rQ=>
   refine⟨_,_,_,_,zT,trivial,rfl,?_⟩
   refine⟨rfl,?_⟩
   refine⟨rfl,?_⟩
   refine⟨rfl,?_⟩
   show av _ _ _ _ _ _ _
   refine av.go ai (aJ ai) [40,41] (by kernel_rfl) (ah.sub (K':=ack top m j KD KE) (B':=vH kG top base kN over KC bs KF) ⟨rfl,rfl,rfl,rfl,rfl,rfl,rfl,rfl,rfl,rfl,trivial⟩ ⟨rfl,rfl,rfl,rfl,rfl,rfl,rfl,rfl,trivial⟩) ?_
   refine⟨_,_,_,_,gO,⟨rfl,rfl,rfl,rfl,rfl,rfl,trivial⟩,rfl,?_⟩
   refine⟨fun h=>absurd (show(!(KD == KD))=true from h) (by simp),fun _=>?_⟩
   refine⟨fun h=>absurd (show(!decide (KE=KE))=true from h) (by simp),fun _=>?_⟩
   have cn:=s8.tail
   have wV:=s8
   show av _ _ _ _ _ _ _
   refine av.le (ah.sub (K':=AB top m j) (B':=vH acy top base acz KF KC bs KF) ⟨rfl,rfl,rfl,rfl,rfl,rfl,rfl,rfl,trivial⟩ ⟨rfl,rfl,rfl,rfl,rfl,rfl,rfl,rfl,trivial⟩) ?_
  case' sR=>
   refine⟨fun aW=>?acA,fun aW=>?acB⟩
  case' acA=>
   show av _ _ _ _ _ _ _
   refine av.go ai (aJ ai) [34,40,41] (by kernel_rfl) (ah.sub (K':=acm top m j) (B':=QU kG top base kN over qT b2 over o) ⟨rfl,rfl,rfl,rfl,rfl,rfl,rfl,rfl,rfl,trivial⟩ ⟨rfl,rfl,rfl,rfl,rfl,rfl,rfl,rfl,rfl,trivial⟩) ?_
   refine⟨_,_,_,_,QW,⟨rfl,rfl,rfl,rfl,rfl,rfl,trivial⟩,rfl,?_⟩
   refine⟨fun he=>?acC,fun he=>?acD⟩
  case' acC=>
   have he:(iq 1 kG top o).e=0:=of_decide_eq_true he
   obtain⟨b9,ck⟩:=wU he
   have KG:=KG he
   have adu:=ace hA.jw.cs he
   have acE:=ZZ top base b2 over 2 (cJ (cV o)) (nh o) (by omega) (by decide) (by omega)
   have ck:=ck.mono (M:=256*(60+(j+1))) (by omega)
   have tq:dg (cV o)=1→(((dX (cV o)).length:Nat):Int)/16=nh o:=fun e=>by rw[show nh o=(((dX (cV o)).length/16:Nat):Int) from if_pos e];omega
   have iR: ¬dg (cV o)=1→dx (cV o)=nh o:=fun e=>(show nh o=dx (cV o) from if_neg e).symm
   have Kv:(-9223372036854775808:Int)≤(((dX (cV o)).length:Nat):Int)/16∧(((dX (cV o)).length:Nat):Int)/16≤9223372036854775807:=by omega
   clear wU gO zT s8
   generalize jv (2 ^1) 1 40 qT (3,0,top,[],cV o)=sP at*
   generalize uk 1 kG top kN over o=wl at*
   generalize iq 1 kG top o=wc at*
   generalize nh o=wn at*
   refine⟨_,_,_,_,KB,trivial,rfl,?_⟩
   refine⟨rfl,?_⟩
   refine⟨fun aX=>?QX,fun aX=>?QY⟩
  case' QX=>
   have hn:=tq (of_decide_eq_true aX)
   refine⟨⟨by omega,by omega⟩,Kv,?_⟩
  case' QY=>
   have hn:=iR (of_decide_eq_false aX)
  case' QX |QY=>
   show av _ _ _ _ _ _ _
   refine av.go ai (aJ ai) [] (by kernel_rfl) (ah.sub (K':=acn top m j sP.e wn) (B':=acp wc.L top base wl over qT sP.l b2 over o) ⟨rfl,rfl,rfl,rfl,rfl,rfl,rfl,rfl,rfl,rfl,rfl,hn,trivial⟩ ⟨rfl,rfl,rfl,rfl,rfl,rfl,rfl,rfl,rfl,rfl,trivial⟩) ?_
   refine⟨_,_,_,_,acE,trivial,rfl,?_⟩
   refine⟨rfl,?_⟩
   refine⟨fun h=>absurd (show(!decide (sP.e=0))=true from h) (by rw[decide_eq_true b9];decide),fun _=>?_⟩
   have cn:=ck.tail
   have wV:=ck
   show av _ _ _ _ _ _ _
   refine av.le (ah.sub (K':=AB top m j) (B':=vH wc.L top base wl over sP.l (if over=true then b2 else oI (cJ (cV o)) wn 2 b2 b2.length) over) ⟨rfl,rfl,rfl,rfl,rfl,rfl,rfl,rfl,trivial⟩ ⟨rfl,rfl,rfl,rfl,rfl,rfl,rfl,rfl,trivial⟩) ?_
  case' acD=>
   have he: ¬(iq 1 kG top o).e=0:=of_decide_eq_false he
   have wV:kq (iq 1 kG top o).L qT top base (uk 1 kG top kN over o) b2 over (256*(60+(j+1))):=by
    rw[acf hA.jw.cs he,show uk 1 kG top kN over o=kN from if_neg he]
    exact yI
   have cn:=wV.tail
   clear wU gO zT s8 QW KG
   show av _ _ _ _ _ _ _
   refine av.le (ah.sub (K':=AB top m j) (B':=vH (iq 1 kG top o).L top base (uk 1 kG top kN over o) over qT b2 over) ⟨rfl,rfl,rfl,rfl,rfl,rfl,rfl,rfl,trivial⟩ ⟨rfl,rfl,rfl,rfl,rfl,rfl,rfl,rfl,trivial⟩) ?_
  case' acB=>
   refine⟨fun aX=>?acF,fun aX=>?acG⟩
  case' acF=>
   refine⟨_,_,_,_,abi 1 40 kG top base kN over,⟨rfl,rfl,rfl,rfl,rfl,rfl,trivial⟩,rfl,?_⟩
   refine⟨_,_,_,_,PK top base b2 over,trivial,rfl,?_⟩
   have wV:kq kG qT top base [] [] true (256*(60+(j+1))):=⟨⟨yI.jw.cs,yI.jw.jD,fun k aq=>(by cases aq),List.nodup_nil⟩,yI.uj,yI.rc,yI.dl,⟨rfl,rfl⟩⟩
   have cn:=wV.tail
   show av _ _ _ _ _ _ _
   refine av.le (ah.sub (K':=AB top m j) (B':=vH kG top base [] true qT [] true) ⟨rfl,rfl,rfl,rfl,rfl,rfl,rfl,rfl,trivial⟩ ⟨rfl,rfl,rfl,rfl,rfl,rfl,rfl,rfl,trivial⟩) ?_
  case' acG=>
   have wV:=yI
   have cn:=wV.tail
   show av _ _ _ _ _ _ _
   refine av.le (ah.sub (K':=AB top m j) (B':=vH kG top base kN over qT b2 over) ⟨rfl,rfl,rfl,rfl,rfl,rfl,rfl,rfl,trivial⟩ ⟨rfl,rfl,rfl,rfl,rfl,rfl,rfl,rfl,trivial⟩) ?_
  all_goals
   obtain⟨c,x,y,z,Ks,sS,Fy,yH,tP,cP,Fz,FA,acH,KA⟩:=cn
   refine av.go ai (aJ ai) [] (by kernel_rfl) (ah.refl _ _) ?_
   refine⟨_,_,_,_,Fy,⟨rfl,rfl,rfl,rfl,trivial⟩,rfl,?_⟩
   show av _ _ _ _ _ _ _
   refine av.le (ah.sub (K':=aco top m j x) (B':=vH _ top base _ _ _ _ _) ⟨rfl,rfl,rfl,rfl,rfl,rfl,rfl,rfl,rfl,trivial⟩ ⟨rfl,rfl,rfl,rfl,rfl,rfl,rfl,rfl,trivial⟩) ?_
   refine av.ro 43 (by decide) ?_
   refine av.ro 45 (by decide) ?_
   refine av.ro 46 (by decide) ?_
   refine av.go ai (aJ ai) [] (by kernel_rfl) (ah.refl _ _) ?_
   refine⟨_,_,fun N=>xX rfl rfl rfl Ks (by exact⟨rfl,rfl,rfl,rfl,rfl,rfl,trivial⟩) rfl (fun _=>rfl) N,rfl,?_⟩
   refine⟨_,_,_,_,sS,trivial,rfl,?_⟩
   refine⟨fun h=>absurd (show(!decide (c=c))=true from h) (by simp),fun _=>?_⟩
   refine⟨_,_,fun N=>xX rfl rfl rfl acH (by exact⟨rfl,rfl,rfl,rfl,rfl,rfl,trivial⟩) rfl (fun _=>rfl) N,rfl,?_⟩
   refine⟨fun h=>absurd (show(!(_ == _))=true from h) (by simp),fun _=>?_⟩
   refine⟨_,_,fun N=>xX rfl rfl rfl tP (by exact⟨rfl,rfl,rfl,rfl,trivial⟩) rfl (fun _=>rfl) N,rfl,?_⟩
   refine⟨_,_,_,_,cP,trivial,rfl,?_⟩
   refine⟨fun h=>absurd (show(!decide (y=y))=true from h) (by simp),fun _=>?_⟩
   refine⟨_,_,fun N=>xX rfl rfl rfl Fz (by exact⟨rfl,rfl,rfl,rfl,trivial⟩) rfl (fun _=>rfl) N,rfl,?_⟩
   refine⟨_,_,_,_,FA,trivial,rfl,?_⟩
   refine⟨fun h=>absurd (show(!decide (z=z))=true from h) (by simp),fun _=>?_⟩
   refine⟨_,_,_,_,yH,trivial,rfl,?_⟩
   refine⟨_,_,_,_,KA,trivial,rfl,?_⟩
   refine⟨ab7 (by kernel_rfl),fun hx=>absurd hx (by decide),fun _=>?_⟩
   exact⟨by omega,(j+1,_,_,_,_,_),⟨iD,wV⟩,by show m.length - (j+1) < m.length - j;omega,ah.sub ⟨rfl,rfl,rfl,rfl,rfl,rfl,rfl,rfl,trivial⟩ ⟨rfl,rfl,rfl,rfl,rfl,rfl,rfl,rfl,trivial⟩⟩
 ·refine⟨_,_,_,_,Kr,trivial,rfl,?_⟩
  exact⟨_,_,_,ah.refl _ _,rfl,rfl,trivial,rfl⟩
end Go.Proofs.YteoamepgonpdlaaGreat
