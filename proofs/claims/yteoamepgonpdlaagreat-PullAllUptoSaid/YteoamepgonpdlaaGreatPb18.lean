/-
Part 18 of the proof that stands in YteoamepgonpdlaaGreatPbRow, with what it needs from the parts ahead; the parts of this text: Qt.
-/
import Derived.Test.YteoamepgonpdlaaGreatPb17
namespace Go.Proofs.YteoamepgonpdlaaGreat
set_option linter.unusedVariables false
set_option linter.unusedSimpArgs false
set_option maxRecDepth 10000
open Go.RowKit Go.Proofs
@[reducible] def PM:U:=.pr .str .str
@[reducible] def EM (top base:List UInt8):List bx:=[.d (.str top),.d (.str base)]
@[reducible] def aaC (top base:List UInt8):aN:=.c (.agg (EM top base))
theorem cV.nil (bits room:Nat):cV (2 ^bits) bits room [] [] where
 gj:=rfl
 nm:=(List.length_eq_zero_iff.1 (by rw[D5];rfl)).symm
 tv:=fun x=>rfl
 mO:=fun x d e h _=>by cases h
theorem aaD {bits room:Nat} {L:List aH} {top base:List UInt8} {over:Bool} (h:bV bits room L) {d:aH} (hd:dk L top=some d):bV bits room (jO bits L top base over).L∧ ∃d',dk (jO bits L top base over).L top=some d':=by
 cases over with
 |true=>exact⟨h,d,hd⟩
 |false=>
  cases hn:lW L top base with
  |some k=>
   rw[PI (room:=room) hd hn]
   refine⟨zA h _ _ _,Option.isSome_iff_exists.1 ?_⟩
   show(dk (iV bits L top _ _).L top).isSome=true
   rw[((OS h top _ _).aM top).2,hd]
   rfl
  |none=>
   rw[PJ (room:=room) hd hn]
   refine⟨BI h _ _,Option.isSome_iff_exists.1 ?_⟩
   show(dk (gx L top base).L top).isSome=true
   unfold gx
   split
   ·rw[hd];rfl
   ·split
    ·rw[hd];rfl
    ·split
     ·show(dk (dS L top base) top).isSome=true
      rw[nV,hd]
      rfl
     ·rw[hd];rfl
theorem cV.all {n bits room:Nat} {L:List aH} {l:List bJ} (h:cV n bits room L l) (bG:bV bits room L) {x:List UInt8} {d:aH} (hd:dk L x=some d):EF bits L x=qU n l x d.im.t.length:=by
 unfold EF
 rw[hd]
 show fK bits L x (cm L x) 0 (d.im.t.length*2 ^bits)=_
 rw[Nat.mul_comm,←h.gj]
 exact h.al bG ⟨d,hd⟩ d.im.t.length
@[reducible] def aaE (l:List fC) (m:List jP) (k:Nat):aQ:=[(2,cJ kQ m),(4,aI 4),(7,aI 1001),(9,aI 9),(70,cJ oF l),(71,aD (l.length:Nat)),(72,aD (k:Nat))]
@[reducible] def aaF (L:List aH) (top base:List UInt8) (R:List bJ):aG:=bP 1 40 L++[(4,.cells (EM top base)),(9,.cells (kA 1 40 R))]
@[reducible] def Cb (m:List jP) (j:Nat):aQ:=[(4,aI 4),(7,aI 1001),(9,aI 9),(16,aI 2001),(18,aI 18),(125,cJ kQ m),(126,aD (m.length:Nat)),(127,aD (j:Nat))]
@[reducible] def aaG (m:List jP) (j:Nat) (k:Int):aQ:=[(4,aI 4),(7,aI 1001),(9,aI 9),(16,aI 2001),(18,aI 18),(125,cJ kQ m),(126,aD (m.length:Nat)),(127,aD (j:Nat)),(21,aI 21),(132,aD k)]
@[reducible] def aaH (m:List jP) (j:Nat) (b:Bool) (e:Int):aQ:=[(4,aI 4),(7,aI 1001),(9,aI 9),(16,aI 2001),(18,aI 18),(125,cJ kQ m),(126,aD (m.length:Nat)),(127,aD (j:Nat)),(24,g9 b),(25,aD e)]
@[reducible] def aaI (m:List jP) (j:Nat) (e:Int):aQ:=[(4,aI 4),(7,aI 1001),(9,aI 9),(16,aI 2001),(18,aI 18),(125,cJ kQ m),(126,aD (m.length:Nat)),(127,aD (j:Nat)),(21,aI 21),(30,aD e)]
@[reducible] def aaJ (m:List jP) (j:Nat) (k:Int) (is:Bool) (x:List gQ):aQ:=[(4,aI 4),(7,aI 1001),(9,aI 9),(16,aI 2001),(18,aI 18),(125,cJ kQ m),(126,aD (m.length:Nat)),(127,aD (j:Nat)),(31,aD k),(32,g9 is),(33,aD k),(34,g9 is),(35,cJ iY x)]
@[reducible] def wh (L:List aH) (top base:List UInt8) (over:Bool) (R:List bJ) (JK:Bool):aG:=kD 1 40 L top base over++[(4,.cells (EM top base)),(9,.cells (kA 1 40 R)),(18,.cells (v7 top base JK))]
@[reducible] def PN (L:List aH) (top base:List UInt8) (over:Bool) (R:List bJ) (JK:Bool) (o:jP):aG:=kD 1 40 L top base over++[(4,.cells (EM top base)),(9,.cells (kA 1 40 R)),(18,.cells (v7 top base JK)),(21,.cells (Z5 o))]
theorem EN {L:List aH} {R:List bJ} {top:List UInt8} (bG:bV 1 40 L) (hR:cV (2 ^1) 1 40 L R) (au: ∃d,dk L top=some d) (base:List UInt8) (tB:Bool): ∃(r8:Int×Bool) (x:List gQ) (y:List UInt8),
  Fn Tryz.prog 25 [aI 2001] (kD 1 40 L top base tB) [] (.c8 [.one (.d (.int .i64 r8.1)),.one (.d (.bool r8.2))]) (kD 1 40 L top base tB)∧
  Fn Tryz.prog 26 [k8 1 40 R,Je top base tB] [] [] (.c8 [.one (.d (.int .i64 r8.1)),.one (.d (.bool r8.2))]) []∧
  Fn Tryz.prog 14 [aI 1001,bN top] (bP 1 40 L) [] (.c8 [.one (.d (.cW iY x)),fO 0]) (bP 1 40 L)∧
  Fn Tryz.prog 31 [k8 1 40 R,bN top] [] [] (cJ iY x) []∧
  Fn Tryz.prog 28 [aI 1001,bN top] (bP 1 40 L) [] (bN y) (bP 1 40 L)∧
  Fn Tryz.prog 29 [k8 1 40 R,bN top] [] [] (bN y) []∧
  Fn Tryz.prog 27 [aI 2001] (kD 1 40 L top base tB) [] (g9 tB) (kD 1 40 L top base tB)∧
  Fn Tryz.prog 30 [cJ iY x,cJ iY x] [] [] (g9 true) []:=by
 obtain⟨d3,vE⟩:=au
 obtain⟨bk,g1,g2,bL⟩:=hR.get vE
 have Cc:=hR.zX bG
 have GP:=Cc.len
 have aaK:=(Cc.ok bk (tj g1)).jr
 have rF:=ON 1 40 _ top base tB (by omega) (Cc.vX top) g1 aaK
 rw[hR.aac bG vE base tB] at rF
 have EO:=Yl bG top
 rw[show BN 1 L top=(ig (mK 1 L top d3.im.t.length),0) by unfold BN;rw[vE]] at EO
 have s4:=aao bG top
 rw[hR.all bG vE] at s4
 have cQ:=Oy Cc 1 40 top g1
 rw[bL.len] at cQ
 have x7:=Yv Cc 1 40 top g1
 rw[hR.eu bG ⟨d3,vE⟩,bL.len] at x7
 have EC:=I1 1 L top d3.im.t.length
 have o3:=bL.im.tl
 have dU:=aaj (ks:=mK 1 L top d3.im.t.length) (by rw[EC];omega) fun k au=>by
  unfold mK at au
  obtain⟨c,_,rfl⟩:=List.mem_map.1 au
  have:=YZ bG vE (c:=c)
  have:=(bG.dep top).2
  unfold pJ
  omega
 have Dg:=(I3 (mK 1 L top d3.im.t.length)).len
 have JL:=aai (ig (mK 1 L top d3.im.t.length)) (by omega) dU
 exact⟨_,_,_,Jy bG base tB vE,rF,EO,x7,s4,cQ,Po 1 40 L top base tB,JL⟩
set_option maxHeartbeats 1000000 in
theorem aaL (l:List fC) (top base:List UInt8) (m:List jP) (aB:l.length≤1073741824) (cl:(l.map lT).sum≤1073741824) (rq:m.length≤1073741824) (Jl:(m.map nj).sum≤1073741824):Fn Tryz.prog 4 [cJ oF l,aaC top base,cJ kQ m] [] [] (g9 true) []:=by
 refine Fn.of aj [10,14,22,25,32,37,40] _ _ _ _ _ Tryz.func4 rfl rfl (by kernel_rfl) (by kernel_rfl) rfl (aK aj) rfl ?_
 refine⟨rfl,?_⟩
 refine⟨_,_,_,_,Nd 1 40 (by decide) (by decide),trivial,rfl,?_⟩
 refine⟨_,_,_,_,YJ 1 40,trivial,rfl,?_⟩
 rw[show iR 1 0 40=true from rfl]
 refine⟨rfl,?_⟩
 refine⟨fun h=>absurd h (by decide),fun _=>?_⟩
 refine⟨fun h=>absurd h (by decide),fun _=>?_⟩
 refine⟨_,_,_,_,aam l m aB cl rq Jl,trivial,rfl,?_⟩
 refine⟨fun _=>?_,fun hf=>?_⟩
 ·refine⟨fun _=>?_,fun h=>absurd h (by decide)⟩
  refine⟨_,_,_,_,JH,trivial,rfl,?_⟩
  exact⟨_,_,_,ah.refl _ _,rfl,rfl,trivial,rfl⟩
 have aaM:r7 l m=true:=by
  have hf:(!r7 l m)=false:=hf
  simpa using hf
 obtain⟨qF,FX,aaN⟩:=Z9 aaM
 show aE _ _ _ _ _ _ _
 refine aE.loop aj (aK aj) [10,14,22,25,32,37,40] (by kernel_rfl) (X:=Nat×List aH×List bJ) (fun x=>aaE l m x.1) (fun x=>aaF x.2.1 top base x.2.2) (fun x=>x.1≤l.length∧bV 1 40 x.2.1∧cV (2 ^1) 1 40 x.2.1 x.2.2∧qY x.2.2 (256*x.1)) (fun x=>l.length - x.1) (0,[],[]) ⟨Nat.zero_le _,bV.nil (by decide) (by decide),cV.nil 1 40,fun e he=>by cases he⟩ ?_ ?_
 ·exact ah.sub ⟨rfl,rfl,rfl,rfl,rfl,rfl,rfl,trivial⟩ ⟨rfl,rfl,rfl,rfl,rfl,rfl,trivial⟩
 rintro⟨k,L,R⟩ ⟨au,bG,hR,bW⟩
 have au:k≤l.length:=au
 have bG:bV 1 40 L:=bG
 have hR:cV (2 ^1) 1 40 L R:=hR
 have bW:qY R (256*k):=bW
 refine⟨fun hc=>?_,fun hc=>?_⟩
 ·have hc:decide ((k:Int) < ((l.length:Nat):Int))=true:=hc
  have bU:k < l.length:=by have:=of_decide_eq_true hc;omega
  have aT:=(FX _ (List.getElem_mem bU)).1
  have eP:=eY (n:=k) bU
  generalize l[k]=o at*
  have EK:lT o=(fe (cN o)).length+(ck o).length+(eF o).length:=rfl
  have x3:=Ez (hR.zX bG) (1:Int) (40:Int) o (by omega) (by omega) fun e he=>by have:=bW e he;omega
  have gV:=PG bG o (by omega)
  have EP:=fun p dr=>hR.go bG o p dr bW (by omega)
  refine⟨by omega,o,eP,?_⟩
  refine⟨rfl,?_⟩
  refine⟨_,_,_,_,x3,trivial,rfl,?_⟩
  refine⟨rfl,?_⟩
  show aE _ _ _ _ _ _ _
  refine aE.sJ aj (by kernel_rfl) ?_
  refine⟨_,_,_,fun g=>_,fun g=>_,gV,⟨rfl,rfl,rfl,rfl,trivial⟩,rfl,fun _=>rfl,fun g=>?_⟩
  obtain⟨-,g2,bL⟩:=EP g.1 g.2
  exact⟨by omega,(k+1,(jw 1 40 L o g.1).L,(ji (2 ^1) 1 40 R o).l),⟨bU,g.2,g2,fun e he=>by have:=bL e he;show _≤256*(k+1);omega⟩,by show l.length - (k+1) < l.length - k;omega,ah.sub ⟨rfl,rfl,rfl,rfl,rfl,rfl,rfl,trivial⟩ ⟨rfl,rfl,rfl,rfl,rfl,rfl,trivial⟩⟩
 have PO:=hR.zX bG
 have Cd:=YS 1 40 R top base (by have:=PO.len;omega) (PO.vX top)
 rw[hR.aad bG] at Cd
 by_cases he:r6 L top base=0
 case neg=>
  have Jt:=ZR bG top base he
  generalize r6 L top base=pe at*
  rw[if_neg he,if_neg he] at Cd
  refine⟨_,_,_,_,Jt,⟨rfl,rfl,rfl,rfl,trivial⟩,rfl,?_⟩
  refine⟨_,_,_,_,Cd,trivial,rfl,?_⟩
  refine⟨rfl,?_⟩
  show aE _ _ _ _ _ _ _
  refine aE.go aj (aK aj) [] (by kernel_rfl) (ah.sub (K':=[(16,.c yX),(17,aD pe),(19,aD pe)]) (B':=[]) ⟨rfl,rfl,rfl,trivial⟩ trivial) ?_
  refine⟨fun h=>absurd (show(!decide (pe=pe))=true from h) (by rw[decide_eq_true rfl];decide),fun _=>?_⟩
  refine⟨fun _=>?_,fun h=>?_⟩
  ·refine⟨_,_,_,_,JH,trivial,rfl,?_⟩
   refine⟨fun _=>?_,fun h=>absurd h (by decide)⟩
   refine⟨fun _=>?_,fun h=>absurd (show decide (pe=pe)=false from h) (by rw[decide_eq_true rfl];decide)⟩
   exact⟨_,_,_,ah.refl _ _,rfl,rfl,trivial,rfl⟩
  ·exfalso
   have h:(!decide (pe=0))=false:=h
   rw[decide_eq_false he] at h
   cases h
 obtain⟨⟨d,hd⟩,KW,eC⟩:=Pm he
 rw[he,if_pos rfl,if_pos rfl] at Cd
 refine⟨_,_,_,_,Pn bG top base he,⟨rfl,rfl,rfl,rfl,trivial⟩,rfl,?_⟩
 refine⟨_,_,_,_,Cd,trivial,rfl,?_⟩
 refine⟨rfl,?_⟩
 show aE _ _ _ _ _ _ _
 refine aE.go aj (aK aj) [22,25,32,37,40] (by kernel_rfl) (ah.sub (K':=[(2,cJ kQ m),(4,aI 4),(7,aI 1001),(9,aI 9),(16,aI 2001),(17,aD 0),(18,aI 18),(19,aD 0)]) (B':=wh L top base false R false) ⟨rfl,rfl,rfl,rfl,rfl,rfl,rfl,rfl,trivial⟩ ⟨rfl,rfl,rfl,rfl,rfl,rfl,rfl,rfl,trivial⟩) ?_
 refine⟨fun h=>absurd h (by decide),fun _=>?_⟩
 refine⟨fun h=>absurd h (by decide),fun _=>?_⟩
 have xH:k≤60:=by omega
 show aE _ _ _ _ _ _ _
 refine aE.loop aj (aK aj) [22,25,32,37,40] (by kernel_rfl) (X:=Nat×List aH×List bJ×Bool) (fun x=>Cb m x.1) (fun x=>wh x.2.1 top base x.2.2.2 x.2.2.1 x.2.2.2) (fun x=>x.1≤m.length∧bV 1 40 x.2.1∧(∃d,dk x.2.1 top=some d)∧cV (2 ^1) 1 40 x.2.1 x.2.2.1∧qY x.2.2.1 (256*(60+x.1))) (fun x=>m.length - x.1) (0,L,R,false) ⟨Nat.zero_le _,bG,⟨d,hd⟩,hR,fun e he=>by have:=bW e he;show _≤256*(60+0);omega⟩ ?_ ?_
 ·exact ah.sub ⟨rfl,rfl,rfl,rfl,rfl,rfl,rfl,rfl,trivial⟩ ⟨rfl,rfl,rfl,rfl,rfl,rfl,rfl,rfl,trivial⟩
 rintro⟨j,lX,nk,over⟩ ⟨ak,lV,e8,r9,x8⟩
 have ak:j≤m.length:=ak
 have lV:bV 1 40 lX:=lV
 have e8: ∃d,dk lX top=some d:=e8
 have r9:cV (2 ^1) 1 40 lX nk:=r9
 have x8:qY nk (256*(60+j)):=x8
 refine⟨fun hc=>?_,fun hc=>?_⟩
 ·have hc:decide ((j:Int) < ((m.length:Nat):Int))=true:=hc
  have ju:j < m.length:=by have:=of_decide_eq_true hc;omega
  have aT:=aaN _ (List.getElem_mem ju)
  have eP:=eY (n:=j) ju
  generalize m[j]=o at*
  have PF:nj o=(fe (gR o)).length:=rfl
  have o3:top.length≤15:=by
   obtain⟨d2,jk⟩:=e8
   rw[←(cT jk).2]
   exact(IC (lV.zz d2 (cT jk).1)).2
  have iq:=EH lV base over e8.choose_spec
  have PR:=aaD (base:=base) (over:=over) lV e8.choose_spec
  obtain⟨s1,s2,uU,yz,PS⟩:=r9.ps lV e8.choose_spec base over x8 (by omega)
  have Bl:=YX (r9.zX lV) 1 40 top base over (r9.get e8.choose_spec).choose_spec.1 (fun e he=>by have:=x8 e he;omega) (by omega)
  rw[show((1:Nat):Int)=1 from rfl,show((40:Nat):Int)=40 from rfl] at s1 s2 uU yz PS
  rw[s1,s2,uU] at Bl
  generalize jO 1 lX top base over=ps at*
  generalize(qX (2 ^1) 1 40 nk top base over).l=JM at*
  obtain⟨JN,JO,ER,ES⟩:=ps
  have x6: ∀R:List bJ,qY R (256*(60+j)+256)→qY R (256*(60+(j+1))):=fun R h e he=>by have:=h e he;omega
  have vP:qY nk (256*(60+(j+1))):=x6 _ fun e he=>Nat.le_trans (x8 e he) (Nat.le_add_right _ _)
  have x3:=Ez (r9.zX lV) (1:Int) (40:Int) (3,0,top,[],gR o) (by show top.length≤4294967296;omega) (by show(fe (gR o)).length≤1000000;omega) fun e he=>by have:=x8 e he;omega
  have gV:=PG lV (3,0,top,[],gR o) (by show(fe (gR o)).length+top.length+0≤1000000;omega)
  have EP:=fun p dr=>r9.go lV (3,0,top,[],gR o) p dr x8 (by omega)
  have lJ: ∃d,dk (we 1 lX top (gR o)).L top=some d:=Option.isSome_iff_exists.1 (by rw[((Z3 lV top (gR o)).aM top).2];exact Option.isSome_iff_exists.2 e8)
  refine⟨by omega,o,eP,?_⟩
  refine⟨rfl,?_⟩
  show aE _ _ _ _ _ _ _
  refine aE.go aj (aK aj) [25,32,37,40] (by kernel_rfl) (ah.sub (K':=aaG m j (Pr o)) (B':=PN lX top base over nk over o) ⟨rfl,rfl,rfl,rfl,rfl,rfl,rfl,rfl,rfl,rfl,trivial⟩ ⟨rfl,rfl,rfl,rfl,rfl,rfl,rfl,rfl,rfl,trivial⟩) ?_
  refine⟨fun cy=>?tA,fun cy=>?uK⟩
  case' tA=>
   refine⟨_,_,_,_,Bl,trivial,rfl,?_⟩
   refine⟨rfl,?_⟩
   refine⟨rfl,?_⟩
   refine⟨rfl,?_⟩
   show aE _ _ _ _ _ _ _
   refine aE.go aj (aK aj) [32,37,40] (by kernel_rfl) (ah.sub (K':=aaH m j JN JO) (B':=wh lX top base over JM ES) ⟨rfl,rfl,rfl,rfl,rfl,rfl,rfl,rfl,rfl,rfl,trivial⟩ ⟨rfl,rfl,rfl,rfl,rfl,rfl,rfl,rfl,trivial⟩) ?_
   refine⟨_,_,_,_,iq,⟨rfl,rfl,rfl,rfl,rfl,trivial⟩,rfl,?_⟩
   refine⟨fun h=>absurd (show(!(JN == JN))=true from h) (by simp),fun _=>?_⟩
   refine⟨fun h=>absurd (show(!decide (JO=JO))=true from h) (by simp),fun _=>?_⟩
   have qW:bV 1 40 ER:=PR.1
   have lJ: ∃d,dk ER top=some d:=PR.2
   have tC:cV (2 ^1) 1 40 ER JM:=yz
   have zZ:=x6 _ PS
   have cu:=EN qW tC lJ base ES
   show aE _ _ _ _ _ _ _
   refine aE.le (ah.sub (K':=Cb m j) (B':=wh ER top base ES JM ES) ⟨rfl,rfl,rfl,rfl,rfl,rfl,rfl,rfl,trivial⟩ ⟨rfl,rfl,rfl,rfl,rfl,rfl,rfl,rfl,trivial⟩) ?_
  case' uK=>
   refine⟨fun bp=>?aaO,fun bp=>?aaP⟩
  case' aaO=>
   refine⟨fun bq=>?_,fun bq=>?_⟩
   ·exact⟨by omega,(j+1,lX,nk,over),⟨ju,lV,e8,r9,vP⟩,by show m.length - (j+1) < m.length - j;omega,ah.sub ⟨rfl,rfl,rfl,rfl,rfl,rfl,rfl,rfl,trivial⟩ ⟨rfl,rfl,rfl,rfl,rfl,rfl,rfl,rfl,trivial⟩⟩
   refine⟨fun b8=>?_,fun b8=>?_⟩
   ·exact⟨by omega,(j+1,lX,nk,over),⟨ju,lV,e8,r9,vP⟩,by show m.length - (j+1) < m.length - j;omega,ah.sub ⟨rfl,rfl,rfl,rfl,rfl,rfl,rfl,rfl,trivial⟩ ⟨rfl,rfl,rfl,rfl,rfl,rfl,rfl,rfl,trivial⟩⟩
   have bq: ¬ew (gR o) < 1:=of_decide_eq_false bq
   refine⟨_,_,_,_,x3,trivial,rfl,?_⟩
   refine⟨rfl,?_⟩
   show aE _ _ _ _ _ _ _
   refine aE.le (ah.sub (K':=aaI m j (ji (2 ^1) 1 40 nk (3,0,top,[],gR o)).e) (B':=PN lX top base over (ji (2 ^1) 1 40 nk (3,0,top,[],gR o)).l over o) ⟨rfl,rfl,rfl,rfl,rfl,rfl,rfl,rfl,rfl,rfl,trivial⟩ ⟨rfl,rfl,rfl,rfl,rfl,rfl,rfl,rfl,rfl,trivial⟩) ?_
   refine aE.sJ aj (by kernel_rfl) ?_
   refine⟨_,_,_,fun g=>_,fun g=>_,gV,⟨rfl,rfl,rfl,rfl,trivial⟩,rfl,fun _=>rfl,fun g=>?_⟩
   obtain⟨cx,tC,w3⟩:=EP g.1 g.2
   have cx:=cx fun _ w=>by have w:ew (gR o)=0:=w;omega
   have qW:=g.2
   have zZ:=x6 _ w3
   have cx:(ji (2 ^1) 1 40 nk (3,0,top,[],gR o)).e=(jw 1 40 lX (3,0,top,[],gR o) g.1).e:=cx
   refine⟨fun h=>absurd (show(!decide ((jw 1 40 lX (3,0,top,[],gR o) g.1).e=(ji (2 ^1) 1 40 nk (3,0,top,[],gR o)).e))=true from h) (by rw[cx,decide_eq_true rfl];decide),fun _=>?_⟩
   have lJ: ∃d,dk (jw 1 40 lX (3,0,top,[],gR o) g.1).L top=some d:=lJ
   show aE _ _ _ _ _ _ _
   refine aE.le (ah.sub (K':=Cb m j) (B':=wh (jw 1 40 lX (3,0,top,[],gR o) g.1).L top base over (ji (2 ^1) 1 40 nk (3,0,top,[],gR o)).l over) ⟨rfl,rfl,rfl,rfl,rfl,rfl,rfl,rfl,trivial⟩ ⟨rfl,rfl,rfl,rfl,rfl,rfl,rfl,rfl,trivial⟩) ?_
   have tC:cV (2 ^1) 1 40 (jw 1 40 lX (3,0,top,[],gR o) g.1).L (ji (2 ^1) 1 40 nk (3,0,top,[],gR o)).l:=tC
   have zZ:qY (ji (2 ^1) 1 40 nk (3,0,top,[],gR o)).l (256*(60+(j+1))):=zZ
   clear cx w3 EP
   generalize(jw 1 40 lX (3,0,top,[],gR o) g.1).L=aaz at*
   generalize(ji (2 ^1) 1 40 nk (3,0,top,[],gR o)).l=abF at*
   have cu:=EN qW tC lJ base over
  case' aaP=>
   refine⟨fun bq=>?aaQ,fun bq=>?aaR⟩
  case' aaQ=>
   refine⟨_,_,_,_,ZS 1 40 lX top base over,⟨rfl,rfl,rfl,rfl,rfl,trivial⟩,rfl,?_⟩
   have qW:=lV
   have lJ:=e8
   have tC:=r9
   have zZ:=vP
   show aE _ _ _ _ _ _ _
   obtain⟨JP,PT⟩: ∃x:Bool,x=true:=⟨_,rfl⟩
   refine aE.le (ah.Jv 18 (l':=v7 top base true) rfl ⟨rfl,rfl,rfl,trivial⟩) ?_
   refine aE.le (ah.sub (K':=Cb m j) (B':=wh lX top base JP nk JP) ⟨rfl,rfl,rfl,rfl,rfl,rfl,rfl,rfl,trivial⟩ ⟨rfl,rfl,rfl,rfl,by rw[PT];rfl,rfl,rfl,by rw[PT];rfl,trivial⟩) ?_
   have cu:=EN qW tC lJ base JP
  case' aaR=>
   have qW:=lV
   have lJ:=e8
   have tC:=r9
   have zZ:=vP
   show aE _ _ _ _ _ _ _
   refine aE.le (ah.sub (K':=Cb m j) (B':=wh lX top base over nk over) ⟨rfl,rfl,rfl,rfl,rfl,rfl,rfl,rfl,trivial⟩ ⟨rfl,rfl,rfl,rfl,rfl,rfl,rfl,rfl,trivial⟩) ?_
   have cu:=EN qW tC lJ base over
  all_goals
   obtain⟨r8,x,y,aaS,rF,EO,x7,s4,cQ,aaT,JL⟩:=cu
   refine aE.go aj (aK aj) [40] (by kernel_rfl) (ah.refl _ _) ?_
   refine⟨_,_,_,_,aaS,⟨rfl,rfl,rfl,rfl,rfl,trivial⟩,rfl,?_⟩
   refine⟨_,_,_,_,rF,trivial,rfl,?_⟩
   refine⟨_,_,_,_,EO,⟨rfl,rfl,rfl,rfl,trivial⟩,rfl,?_⟩
   show aE _ _ _ _ _ _ _
   refine aE.le (ah.sub (K':=aaJ m j r8.1 r8.2 x) (B':=wh _ top base _ _ _) ⟨rfl,rfl,rfl,rfl,rfl,rfl,rfl,rfl,rfl,rfl,rfl,rfl,rfl,trivial⟩ ⟨rfl,rfl,rfl,rfl,rfl,rfl,rfl,rfl,trivial⟩) ?_
   refine aE.ro 27 (by decide) ?_
   refine aE.ro 28 (by decide) ?_
   refine aE.go aj (aK aj) [] (by kernel_rfl) (ah.refl _ _) ?_
   refine⟨fun h=>absurd (show(!decide (r8.1=r8.1))=true from h) (by simp),fun _=>?_⟩
   refine⟨fun h=>absurd (show(!(r8.2 == r8.2))=true from h) (by simp),fun _=>?_⟩
   refine⟨_,_,fun N=>A8 rfl rfl rfl aaT (by exact⟨rfl,rfl,rfl,rfl,rfl,trivial⟩) rfl (fun _=>rfl) N,rfl,?_⟩
   refine⟨fun h=>absurd (show(!(_ == _))=true from h) (by simp),fun _=>?_⟩
   refine⟨_,_,fun N=>A8 rfl rfl rfl s4 (by exact⟨rfl,rfl,rfl,rfl,trivial⟩) rfl (fun _=>rfl) N,rfl,?_⟩
   refine⟨_,_,_,_,cQ,trivial,rfl,?_⟩
   refine⟨fun h=>absurd (show(!decide (y=y))=true from h) (by simp),fun _=>?_⟩
   refine⟨_,_,_,_,x7,trivial,rfl,?_⟩
   refine⟨_,_,_,_,JL,trivial,rfl,?_⟩
   refine⟨aaf (by kernel_rfl),fun hx=>absurd hx (by decide),fun _=>?_⟩
   exact⟨by omega,(j+1,_,_,_),⟨ju,qW,lJ,tC,zZ⟩,by show m.length - (j+1) < m.length - j;omega,ah.sub ⟨rfl,rfl,rfl,rfl,rfl,rfl,rfl,rfl,trivial⟩ ⟨rfl,rfl,rfl,rfl,rfl,rfl,rfl,rfl,trivial⟩⟩
 ·refine⟨_,_,_,_,JH,trivial,rfl,?_⟩
  exact⟨_,_,_,ah.refl _ _,rfl,rfl,trivial,rfl⟩
end Go.Proofs.YteoamepgonpdlaaGreat
