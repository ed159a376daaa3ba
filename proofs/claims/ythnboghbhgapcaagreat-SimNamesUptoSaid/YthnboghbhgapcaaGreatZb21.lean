/-
A part of the proof of this claim: lemmas, with no condition beyond what each says.
-/
import Derived.Test.YthnboghbhgapcaaGreatZb20
set_option linter.unusedVariables false
set_option linter.unusedSimpArgs false
set_option maxRecDepth 10000
set_option maxHeartbeats 4000000
namespace Go.Proofs.YthnboghbhgapcaaGreat
open Go.RowKit Go.Proofs
section
theorem anJ (w:cc) (s:dB) (Z:w.bR= .no):Fn Tryz.prog 35 [ap 1401,ic s] (cP w) [] (ac 1) (cP w):=by
 have cd:qL w.b w.bR= .nilIface:=by rw[Z];rfl
 refine aU [] Tryz.func35 ?_;refine⟨rfl,_,_,fun N=>QL rfl Tryz.underlying60 (by exact congrArg (fun v=>aP.c (.one (.bJ v))) cd) N,rfl,?_⟩;exact bg
theorem anK (w:cc) (s:dB) (Z:ot w.bR=false):Fn Tryz.prog 35 [ap 1401,ic s] (cP w) [] (ac 0) (cP {w with bR:=.no}):=by
 obtain⟨z,U,L,a8,db,ds,es,M,lb,Q,b,bR,bI⟩:=w
 cases bR with
 |no=>cases Z
 |c8 top base l over=>
  refine aU [5] Tryz.func35 ?_;refine⟨rfl,_,_,fun N=>pz rfl Tryz.underlying60 rfl N,rfl,?_⟩;refine⟨_,_,fun N=>jT rfl rfl rfl rfl au8 Tryz.underlying61 (amQ (z:=z) (U:=U) (L:=L) (top:=top) (base:=base) (l:=l) (over:=over) (b:=b)) av8 rfl N,rfl,?_⟩;exact ar (tR (z:=z) (U:=U) (L:=L) (a8:=a8) (db:=db) (lb:=lb) (m:=bI) (es:=es) (M:=M)) <| bz [] (ae.qK 1501 1001 rfl) bg
 |pl top base over=>
  refine aU [5] Tryz.func35 ?_;refine⟨rfl,_,_,fun N=>pz rfl Tryz.underlying60 rfl N,rfl,?_⟩;refine⟨_,_,fun N=>jT rfl rfl rfl rfl au8 Tryz.underlying121 (amT (z:=z) (U:=U) (L:=L) (top:=top) (base:=base) (over:=over) (b:=b)) av8 rfl N,rfl,?_⟩;exact ar (tR (z:=z) (U:=U) (L:=L) (a8:=a8) (db:=db) (lb:=lb) (m:=bI) (es:=es) (M:=M)) <| bz [] (ae.qK 1501 1001 rfl) bg
 |pu nm n rm l g over done=>
  refine aU [5] Tryz.func35 ?_;refine⟨rfl,_,_,fun N=>pz rfl Tryz.underlying60 rfl N,rfl,?_⟩;refine⟨_,_,fun N=>jT rfl rfl rfl rfl au8 Tryz.underlying62 (amV (z:=z) (U:=U) (L:=L) (nm:=nm) (n:=n) (rm:=rm) (l:=l) (g:=g) (over:=over) (done:=done) (b:=b)) av8 rfl N,rfl,?_⟩;exact ar (tR (z:=z) (U:=U) (L:=L) (a8:=a8) (db:=db) (lb:=lb) (m:=bI) (es:=es) (M:=M)) <| bz [] (ae.qK 1501 1001 rfl) bg
theorem anL (w:cc) {top base:ay4} {l:ay5} {over:Bool} (Z:w.bR= .c8 top base l over) (ba:kS w.z w.U w.L top l) (s:dB):Fn Tryz.prog 34 [ap 1401,ic s] (cP w) [] (ac (fz w.z w.L top base l over).e) (cP {w with L:=(fz w.z w.L top base l over).L,bR:=if(fz w.z w.L top base l over).over=true then .no else .c8 top base (fz w.z w.L top base l over).l (fz w.z w.L top base l over).over}):=by
 obtain⟨z,U,L,a8,db,ds,es,M,lb,Q,b,bR,bI⟩:=w;simp only at Z;subst Z;have ax:=amP (b:=b) (base:=base) (over:=over) ba;simp only at ax⊢;generalize fz z L top base l over=r at ax⊢;have go: ∀fh,Fn Tryz.prog 67 [ap 1401] (k0 z U r.L es M a8 db lb 1 fh (some b) none bI) [] gJ (k0 z U r.L es M a8 db lb 0 .nilIface none none bI):=fun fh=>tR
 cases r with
 |mk rv e L' gN AV=>
 simp only at ax⊢
 cases AV with
 |true=>
  by_cases V:e=0
  .refine aU [8] Tryz.func34 ?_;refine⟨rfl,_,_,fun N=>pz rfl Tryz.underlying60 rfl N,rfl,?_⟩;refine⟨_,_,fun N=>jT rfl rfl rfl rfl au8 Tryz.underlying61 ax av8 rfl N,rfl,?_⟩;refine⟨fun _=>⟨fun _ h=>av5,fun _=>⟨_,_,fun N=>jT rfl rfl rfl rfl au8 Tryz.underlying61 (HM (z:=z) (U:=U) (L:=L') (top:=top) (base:=base) (l:=gN) (over:=true) (b:=b)) av8 rfl N,rfl,?_⟩⟩,fun h=>absurd h ay0⟩;exact⟨fun _=>ar (go _) <| bz [] (ae.qK 1501 1001 rfl) bg,fun h=>av5⟩
  .refine aU [8] Tryz.func34 ?_;refine⟨rfl,_,_,fun N=>pz rfl Tryz.underlying60 rfl N,rfl,?_⟩;refine⟨_,_,fun N=>jT rfl rfl rfl rfl au8 Tryz.underlying61 ax av8 rfl N,rfl,?_⟩;refine⟨fun h=>absurd (gd h) V,fun _=>⟨_,_,fun N=>jT rfl rfl rfl rfl au8 Tryz.underlying61 (HM (z:=z) (U:=U) (L:=L') (top:=top) (base:=base) (l:=gN) (over:=true) (b:=b)) av8 rfl N,rfl,?_⟩⟩;exact⟨fun _=>ar (go _) <| bz [] (ae.qK 1501 1001 rfl) bg,fun h=>av5⟩
 |false=>
  by_cases V:e=0
  .refine aU [] Tryz.func34 ?_;refine⟨rfl,_,_,fun N=>pz rfl Tryz.underlying60 rfl N,rfl,?_⟩;refine⟨_,_,fun N=>jT rfl rfl rfl rfl au8 Tryz.underlying61 ax av8 rfl N,rfl,?_⟩;refine⟨fun _=>⟨fun _ h=>av5,fun _=>⟨_,_,fun N=>jT rfl rfl rfl rfl au8 Tryz.underlying61 (HM (z:=z) (U:=U) (L:=L') (top:=top) (base:=base) (l:=gN) (over:=false) (b:=b)) av8 rfl N,rfl,?_⟩⟩,fun h=>absurd h ay0⟩;exact⟨fun h=>av5,fun _=>bg⟩
  .refine aU [] Tryz.func34 ?_;refine⟨rfl,_,_,fun N=>pz rfl Tryz.underlying60 rfl N,rfl,?_⟩;refine⟨_,_,fun N=>jT rfl rfl rfl rfl au8 Tryz.underlying61 ax av8 rfl N,rfl,?_⟩;refine⟨fun h=>absurd (gd h) V,fun _=>⟨_,_,fun N=>jT rfl rfl rfl rfl au8 Tryz.underlying61 (HM (z:=z) (U:=U) (L:=L') (top:=top) (base:=base) (l:=gN) (over:=false) (b:=b)) av8 rfl N,rfl,?_⟩⟩;exact⟨fun h=>av5,fun _=>bg⟩
theorem anM (w:cc) {top base:ay4} {over:Bool} (Z:w.bR= .pl top base over) (ba:cE w.z w.U w.L) {d:aN} (J:dk w.L top=some d) (s:dB):Fn Tryz.prog 34 [ap 1401,ic s] (cP w) [] (ac (iH w.z w.L top base over).e) (cP {w with L:=(iH w.z w.L top base over).L,bR:=if(iH w.z w.L top base over).over=true then .no else .pl top base (iH w.z w.L top base over).over}):=by
 obtain⟨z,U,L,a8,db,ds,es,M,lb,Q,b,bR,bI⟩:=w;simp only at Z;subst Z;have ax:=amS (b:=b) (base:=base) (over:=over) ba J;simp only at ax⊢;generalize iH z L top base over=r at ax⊢;have go: ∀fh,Fn Tryz.prog 67 [ap 1401] (k0 z U r.L es M a8 db lb 2 fh none none bI) [] gJ (k0 z U r.L es M a8 db lb 0 .nilIface none none bI):=fun fh=>tR
 cases r with
 |mk rv e L' AV=>
 simp only at ax⊢
 cases AV with
 |true=>
  by_cases V:e=0
  .refine aU [8] Tryz.func34 ?_;refine⟨rfl,_,_,fun N=>pz rfl Tryz.underlying60 rfl N,rfl,?_⟩;refine⟨_,_,fun N=>jT rfl rfl rfl rfl au8 Tryz.underlying121 ax av8 rfl N,rfl,?_⟩;refine⟨fun _=>⟨fun _ h=>av5,fun _=>⟨_,_,fun N=>jT rfl rfl rfl rfl au8 Tryz.underlying121 (HN (z:=z) (U:=U) (L:=L') (top:=top) (base:=base) (over:=true) (b:=b)) av8 rfl N,rfl,?_⟩⟩,fun h=>absurd h ay0⟩;exact⟨fun _=>ar (go _) <| bz [] (ae.qK 1501 1001 rfl) bg,fun h=>av5⟩
  .refine aU [8] Tryz.func34 ?_;refine⟨rfl,_,_,fun N=>pz rfl Tryz.underlying60 rfl N,rfl,?_⟩;refine⟨_,_,fun N=>jT rfl rfl rfl rfl au8 Tryz.underlying121 ax av8 rfl N,rfl,?_⟩;refine⟨fun h=>absurd (gd h) V,fun _=>⟨_,_,fun N=>jT rfl rfl rfl rfl au8 Tryz.underlying121 (HN (z:=z) (U:=U) (L:=L') (top:=top) (base:=base) (over:=true) (b:=b)) av8 rfl N,rfl,?_⟩⟩;exact⟨fun _=>ar (go _) <| bz [] (ae.qK 1501 1001 rfl) bg,fun h=>av5⟩
 |false=>
  by_cases V:e=0
  .refine aU [] Tryz.func34 ?_;refine⟨rfl,_,_,fun N=>pz rfl Tryz.underlying60 rfl N,rfl,?_⟩;refine⟨_,_,fun N=>jT rfl rfl rfl rfl au8 Tryz.underlying121 ax av8 rfl N,rfl,?_⟩;refine⟨fun _=>⟨fun _ h=>av5,fun _=>⟨_,_,fun N=>jT rfl rfl rfl rfl au8 Tryz.underlying121 (HN (z:=z) (U:=U) (L:=L') (top:=top) (base:=base) (over:=false) (b:=b)) av8 rfl N,rfl,?_⟩⟩,fun h=>absurd h ay0⟩;exact⟨fun h=>av5,fun _=>bg⟩
  .refine aU [] Tryz.func34 ?_;refine⟨rfl,_,_,fun N=>pz rfl Tryz.underlying60 rfl N,rfl,?_⟩;refine⟨_,_,fun N=>jT rfl rfl rfl rfl au8 Tryz.underlying121 ax av8 rfl N,rfl,?_⟩;refine⟨fun h=>absurd (gd h) V,fun _=>⟨_,_,fun N=>jT rfl rfl rfl rfl au8 Tryz.underlying121 (HN (z:=z) (U:=U) (L:=L') (top:=top) (base:=base) (over:=false) (b:=b)) av8 rfl N,rfl,?_⟩⟩;exact⟨fun h=>av5,fun _=>bg⟩
def HW (w:cc) (nm:ay4) (n rm:Int) (l:ay5) (g:List (Nat×ay4)) (e:Int) (w':cc):Prop:=
 (l=[]/\ ∃t:HU,vu {w with bR:=.pu nm n rm [] g true true} g e (AU {w with bR:=.pu nm n rm [] g true true} g t)/\w'={AU w g t with bR:=.no})\/
 (l≠[]/\e=(ei w.z w.L nm rm l g (eP l)).e/\w'={w with bR:=if(ei w.z w.L nm rm l g (eP l)).over=true then .no else .pu nm n rm (ei w.z w.L nm rm l g (eP l)).l (ei w.z w.L nm rm l g (eP l)).g false false})
theorem anN (w:cc) (aD:lq w) {nm:ay4} {n rm:Int} {l:ay5} {g:List (Nat×ay4)} (Z:w.bR= .pu nm n rm l g false false) (af:fm w.z w.U w.L nm l g) (qe:gr (dH w.bI.f0)=true) (s:dB):
  cu Tryz.prog 34 [ap 1401,ic s] (cP w) [] (X:=mY (HW w nm n rm l g)) (fun p=>ac p.1.1) (fun p=>cP p.1.2):=by
 have ax:=amU (b:=w.b) (n:=n) (rm:=rm) (over:=false) (done:=false) af
 by_cases al:l=[]
 .have V:i1 w.z w.L nm rm l g false false=⟨true,0,[],g,true,true⟩:=by unfold i1;rw[if_neg au6,if_pos al]
  rw[V] at ax;simp only at ax;have Du:=anD {w with bR:=.pu nm n rm [] g true true} ⟨aD.cs,aD.kd,aD.ds,aD.d5,aD.q,aD.ny,aD.ed⟩ rfl af.nil qe;obtain⟨z,U,L,a8,db,ds,es,M,lb,Q,b,bR,bI⟩:=w;simp only at Z;subst Z;refine hG [5,6,8] Tryz.func34 ?_;refine⟨rfl,_,_,fun N=>pz rfl Tryz.underlying60 rfl N,rfl,?_⟩;refine⟨_,_,fun N=>jT rfl rfl rfl rfl au8 Tryz.underlying62 ax av8 rfl N,rfl,?_⟩;refine e5 ⟨fun _ _=>ar (Wt (z:=z) (U:=U) (L:=L) (nm:=nm) (n:=n) (rm:=rm) (l:=[]) (g:=g) (over:=true) (done:=true) (b:=b)) ⟨fun _=>bt.iC eX au8 ⟨_,_,_,fun g=>_,fun g=>_,Du,aA,rfl,fun _=>rfl,fun x=>?_⟩,fun h=>av5⟩,fun h=>av5⟩;obtain⟨⟨ai,t⟩,hx⟩:=x;refine bz [8] (bp) ⟨_,_,fun N=>jT rfl rfl rfl rfl au8 Tryz.underlying62 (NC (z:=z) (U:=U) (L:=L) (nm:=nm) (n:=n) (rm:=rm) (l:=[]) (g:=g) (over:=true) (done:=true) (b:=b)) av8 rfl N,rfl,?_⟩;exact⟨fun _=>ar (tR (z:=z) (U:=U) (L:=L) (a8:=a8) (db:=db) (lb:=t.2.2.2.1) (m:=pZ bI g) (es:=t.2.1) (M:=t.2.2.1)) <| bz [] (ae.qK 1501 1001 rfl) ⟨⟨(ai,⟨z,U,L,a8,db,t.1,t.2.1,t.2.2.1,t.2.2.2.1,t.2.2.2.2,b,.no,pZ bI g⟩),.inl ⟨al,t,hx,Eq.refl _⟩⟩,_,_,_,bp,rfl,rfl,aA,rfl⟩,fun h=>av5⟩
 .have V:i1 w.z w.L nm rm l g false false=⟨false,(ei w.z w.L nm rm l g (eP l)).e,(ei w.z w.L nm rm l g (eP l)).l,(ei w.z w.L nm rm l g (eP l)).g,(ei w.z w.L nm rm l g (eP l)).over,false⟩:=by unfold i1;rw[if_neg au6,if_neg al]
  rw[V] at ax
  have DY:(ei w.z w.L nm rm l g (eP l)).over=decide ((ei w.z w.L nm rm l g (eP l)).e≠0):=by
   unfold ei
   split <;>rfl
  have fq: ∀W:cc,W={w with bR:=if(ei w.z w.L nm rm l g (eP l)).over=true then .no else .pu nm n rm (ei w.z w.L nm rm l g (eP l)).l (ei w.z w.L nm rm l g (eP l)).g false false}->HW w nm n rm l g (ei w.z w.L nm rm l g (eP l)).e W:=fun W h=>.inr ⟨al,Eq.refl _,h⟩
  obtain⟨z,U,L,a8,db,ds,es,M,lb,Q,b,bR,bI⟩:=w;simp only at Z ax DY fq;subst Z;generalize ei z L nm rm l g (eP l)=r at ax DY fq;obtain⟨e,gN,g2,AV⟩:=r;simp only at ax DY fq
  by_cases HX:e=0
  .obtain rfl:AV=false:=by rw[DY];simp[HX]
   refine hG [] Tryz.func34 ?_;refine⟨rfl,_,_,fun N=>pz rfl Tryz.underlying60 rfl N,rfl,?_⟩;refine⟨_,_,fun N=>jT rfl rfl rfl rfl au8 Tryz.underlying62 ax av8 rfl N,rfl,?_⟩;refine⟨fun _=>⟨fun _ _=>ar (Wt (z:=z) (U:=U) (L:=L) (nm:=nm) (n:=n) (rm:=rm) (l:=gN) (g:=g2) (over:=false) (done:=false) (b:=b)) ⟨fun h=>av5,fun _=>⟨_,_,fun N=>jT rfl rfl rfl rfl au8 Tryz.underlying62 (NC (z:=z) (U:=U) (L:=L) (nm:=nm) (n:=n) (rm:=rm) (l:=gN) (g:=g2) (over:=false) (done:=false) (b:=b)) av8 rfl N,rfl,?_⟩⟩,fun h=>av5⟩,fun h=>absurd HX (mu h)⟩;exact⟨fun h=>av5,fun _=>⟨⟨(e,⟨z,U,L,a8,db,ds,es,M,lb,Q,b,.pu nm n rm gN g2 false false,bI⟩),fq _ (Eq.refl _)⟩,_,_,_,bp,rfl,rfl,aA,rfl⟩⟩
  .obtain rfl:AV=true:=by rw[DY];simp[HX]
   refine hG [8] Tryz.func34 ?_;refine⟨rfl,_,_,fun N=>pz rfl Tryz.underlying60 rfl N,rfl,?_⟩;refine⟨_,_,fun N=>jT rfl rfl rfl rfl au8 Tryz.underlying62 ax av8 rfl N,rfl,?_⟩;refine⟨fun h=>absurd (gd h) HX,fun _=>⟨_,_,fun N=>jT rfl rfl rfl rfl au8 Tryz.underlying62 (NC (z:=z) (U:=U) (L:=L) (nm:=nm) (n:=n) (rm:=rm) (l:=gN) (g:=g2) (over:=true) (done:=false) (b:=b)) av8 rfl N,rfl,?_⟩⟩;exact⟨fun _=>ar (tR (z:=z) (U:=U) (L:=L) (a8:=a8) (db:=db) (lb:=lb) (m:=bI) (es:=es) (M:=M)) <| bz [] (ae.qK 1501 1001 rfl) ⟨⟨(e,⟨z,U,L,a8,db,ds,es,M,lb,Q,b,.no,bI⟩),fq _ (Eq.refl _)⟩,_,_,_,bp,rfl,rfl,aA,rfl⟩,fun h=>av5⟩
end
section
theorem anO (w:cc) (s:dB) (Z:w.bR= .no):Fn Tryz.prog 34 [ap 1401,ic s] (cP w) [] (ac 1) (cP w):=by
 have cd:qL w.b w.bR= .nilIface:=by rw[Z];rfl
 refine aU [] Tryz.func34 ?_;refine⟨rfl,_,_,fun N=>QL rfl Tryz.underlying60 (by exact congrArg (fun v=>aP.c (.one (.bJ v))) cd) N,rfl,?_⟩;exact bg
theorem anP {es:e3} {M:dN} {Q:List bL} (hf:mn es M Q) (aT:nx Q):
  Fn Tryz.prog 71 [ap 1201] [pY es M] [3001,3002] (.cf [.one (.ptr 3001 0),dw 0]) (pY es M::lp 3001 3002 Q)\/(Q=[]/\Fn Tryz.prog 71 [ap 1201] [pY es M] [] (.cf [mG,dw 181]) [pY es M]):=by
 rcases hf.ck with⟨E,G⟩ |⟨a,m,E,G,aj,aX⟩
 .exact .inr ⟨G,Fn.close (c:=1201) (bo:=nt 1201 1202 1203 4096 es M) (dv:=nt 1201 1202 1203 4096 es M) (aJ:=[]) (aO:=[]) [1202,1203] (Fn.aV [(1001,1201),(1002,1202),(1003,1203)] (amw 4096 es (L:=M) E)) (fun _ _ _ _ h=>h) (fun _ _ _ _ h=>h) rfl rfl⟩
 .refine .inl ?_;have Z:=amg aj aX (by have:=NI aT.tolm;have:dq 512=255:=rfl;omega);have al:=Fn.aV [(1001,1201),(1002,1202),(1003,1203),(2001,3001),(2002,3002)] (amt 4096 es (L:=M) E G aj.ok (by rw[aj.n];decide) Z (NI aT.tolm) aT.AR (fun b O=>Ds aT.tolm O) aT.len);rw[Nm] at al;exact Fn.close (c:=1201) (bo:=nt 1201 1202 1203 4096 es M) (dv:=nt 1201 1202 1203 4096 es M) (aJ:=[]) (aO:=lp 3001 3002 Q) [1202,1203] al (fun _ _ _ _ h=>h) (fun _ _ _ _ h=>h) rfl rfl
theorem anQ {es:e3} {M:dN} {Q:List bL} (hf:mn es M Q) (ks:List lT) (ab:ks.length<=1073741824) (hi: ∀k∈ks,(mj k).length<=1073741824):
  Fn Tryz.prog 68 [ap 1201,bS lS ks] [pY es M] [] gJ [pY es M]:=by
 have h:=Fn.aV [(1001,1201),(1002,1202),(1003,1203)] (alJ 4096 es M 0 ks hf.bA au6 ab hi);rw[hf.ln ks] at h;exact Fn.close (c:=1201) (bo:=nt 1201 1202 1203 4096 es M) (dv:=nt 1201 1202 1203 4096 es M) (aJ:=[]) (aO:=[]) [1202,1203] h (fun _ _ _ _ h=>h) (fun _ _ _ _ h=>h) rfl rfl
abbrev HY (ds:List bd):=Nat×Nat×{l:List bd//dS l/\l.map pd=(hL ds).map qB}
abbrev HZ (w:cc) (t:HY w.ds):cc:={w with db:=t.1,lb:=t.2.1,ds:=t.2.2.1,bR:=.no}
theorem anR (w:cc) (aD:fJ w) (s:dB) (ab:s.ks.length<=1073741824) (hi: ∀k∈s.ks,(mj k).length<=1073741824):
  cu Tryz.prog 36 [ap 1401,ic s] (cP w) [] (X:=HY w.ds) (fun _=>ac 0) (fun t=>cP (HZ w t)):=by
 have NR:=anQ aD.ny s.ks ab hi;have o8:Fn Tryz.prog 70 [dn w.db,.c (.one (.d (.lit false)))] [Nw w] [] (bS .u8 (qA false w.ds)) [Nw w]:=Fn.arg (Fn.m' (b:=w.db) [1002,1003,1004] 1101 (U6 aD.ds false)) aA;have yg:=cu.aV [(1001,4001),(1002,4002),(1003,4003),(1004,4004)] (akY aD.ds fun e V=>(aD.d5 e V).1);have AW:=anP aD.ny aD.q;obtain⟨z,U,L,a8,db,ds,es,M,lb,Q,eA,bR,bI⟩:=w;simp only at NR o8 yg AW;rcases AW with AW |⟨BH,AW⟩
 .refine hG [3,4,8] Tryz.func36 ?_;refine⟨rfl,ar (tR (z:=z) (U:=U) (L:=L) (a8:=a8) (db:=db) (lb:=lb) (m:=bI) (es:=es) (M:=M)) <| ar NR ⟨eB au8,bt.iC eX au8 <| lF o8.x fun _=>⟨_,_,_,fun g=>_,fun g=>_,yg,trivial,rfl,fun _=>rfl,fun x=>?_⟩⟩⟩;obtain⟨l',ox,oK⟩:=x;refine bt.eY (de.mark 4001 4009 rfl au6) fun b=>?_
  exact bt.le (ae.vr 1401 3 4001 4009 b rfl rfl rfl) <| bt.le (ae.close 4001 (j1 (eo (k6 [(1001,4001),(1002,4002),(1003,4003),(1004,4004)] [])) (ej l')) (o:=rM l') aA rfl fun I F x p h=>iD.aV [(4001,1001),(4002,1002),(4003,1003),(4004,1004)] h) <| bt.le (ae.trans (ae.vs 4001 4009 b rfl rfl) (ae.put 1101 4001 au6 rfl rfl)) <| bz [8] (ae.DL 1101 rfl) <| ar AW <| df <| bt.eY (de.mark 3001 3009 rfl au6) fun b2=>bt.le (ae.vr 1401 5 3001 3009 b2 rfl rfl rfl) <| bt.le (ae.close 3001 (lp 3001 3002 Q) (o:=rN Q) aA rfl fun I F x p h=>iD.aV [(3001,1001),(3002,1002)] h) <| bt.le (ae.trans (ae.vs 3001 3009 b2 rfl rfl) (ae.put 1301 3001 au6 rfl rfl)) <| bz [] (ae.trans (ae.DL 1301 rfl) (ae.qK 1501 1001 rfl)) ⟨(b,b2,⟨l',ox,oK⟩),_,_,_,bp,rfl,rfl,aA,rfl⟩
 .subst BH;refine hG [3,4,8] Tryz.func36 ?_;refine⟨rfl,ar (tR (z:=z) (U:=U) (L:=L) (a8:=a8) (db:=db) (lb:=lb) (m:=bI) (es:=es) (M:=M)) <| ar NR ⟨eB au8,bt.iC eX au8 <| lF o8.x fun _=>⟨_,_,_,fun g=>_,fun g=>_,yg,trivial,rfl,fun _=>rfl,fun x=>?_⟩⟩⟩;obtain⟨l',ox,oK⟩:=x;refine bt.eY (de.mark 4001 4009 rfl au6) fun b=>?_
  exact bt.le (ae.vr 1401 3 4001 4009 b rfl rfl rfl) <| bt.le (ae.close 4001 (j1 (eo (k6 [(1001,4001),(1002,4002),(1003,4003),(1004,4004)] [])) (ej l')) (o:=rM l') aA rfl fun I F x p h=>iD.aV [(4001,1001),(4002,1002),(4003,1003),(4004,1004)] h) <| bt.le (ae.trans (ae.vs 4001 4009 b rfl rfl) (ae.put 1101 4001 au6 rfl rfl)) <| bz [8] (ae.DL 1101 rfl) <| ar AW <| e5 <| ar (Fn.aV [(1001,3001),(1002,3002)] Mg) <| bt.eY (de.mark 3001 3009 rfl au6) fun b2=>bt.le (ae.vr 1401 5 3001 3009 b2 rfl rfl rfl) <| bt.le (ae.close 3001 (lp 3001 3002 []) (o:=rN []) aA rfl fun I F x p h=>iD.aV [(3001,1001),(3002,1002)] h) <| bt.le (ae.trans (ae.vs 3001 3009 b2 rfl rfl) (ae.put 1301 3001 au6 rfl rfl)) <| bz [] (ae.trans (ae.DL 1301 rfl) (ae.qK 1501 1001 rfl)) ⟨(b,b2,⟨l',ox,oK⟩),_,_,_,bp,rfl,rfl,aA,rfl⟩
end
section
abbrev jj:ay5:=[26,27,28,29,30,31,32,33,34,35,36,37]
theorem anS (w:cc) (s:dB) (ab:s.kd < 0\/12<=s.kd):Fn Tryz.prog 8 [ap 1401,ic s] (cP w) [] (ac 1) (cP w):=by
 refine aU [1] Tryz.func8 ?_;refine⟨rfl,bt.eY (de.mark 1401 1409 rfl au6) fun b=>bz [] (bp) ⟨rfl,_,_,fun N=>jy (m:=1409) (b:=b) rfl rfl rfl N,rfl,?_⟩⟩;refine⟨_,_,fun N=>ka (fs:=jj.take 0) rfl Tryz.underlying78 Tryz.underlying3 rfl rfl rfl rfl (.inl ⟨rfl,rfl⟩) N,rfl,?_⟩;refine⟨_,_,fun N=>jy (m:=1409) (b:=b) rfl rfl rfl N,rfl,?_⟩;refine⟨_,_,fun N=>ka (fs:=jj.take 1) rfl Tryz.underlying78 Tryz.underlying3 rfl rfl rfl rfl (.inr rfl) N,rfl,?_⟩;refine⟨_,_,fun N=>jy (m:=1409) (b:=b) rfl rfl rfl N,rfl,?_⟩;refine⟨_,_,fun N=>ka (fs:=jj.take 2) rfl Tryz.underlying78 Tryz.underlying3 rfl rfl rfl rfl (.inr rfl) N,rfl,?_⟩;refine⟨_,_,fun N=>jy (m:=1409) (b:=b) rfl rfl rfl N,rfl,?_⟩;refine⟨_,_,fun N=>ka (fs:=jj.take 3) rfl Tryz.underlying78 Tryz.underlying3 rfl rfl rfl rfl (.inr rfl) N,rfl,?_⟩;refine⟨_,_,fun N=>jy (m:=1409) (b:=b) rfl rfl rfl N,rfl,?_⟩;refine⟨_,_,fun N=>ka (fs:=jj.take 4) rfl Tryz.underlying78 Tryz.underlying3 rfl rfl rfl rfl (.inr rfl) N,rfl,?_⟩;refine⟨_,_,fun N=>jy (m:=1409) (b:=b) rfl rfl rfl N,rfl,?_⟩;refine⟨_,_,fun N=>ka (fs:=jj.take 5) rfl Tryz.underlying78 Tryz.underlying3 rfl rfl rfl rfl (.inr rfl) N,rfl,?_⟩;refine⟨_,_,fun N=>jy (m:=1409) (b:=b) rfl rfl rfl N,rfl,?_⟩;refine⟨_,_,fun N=>ka (fs:=jj.take 6) rfl Tryz.underlying78 Tryz.underlying3 rfl rfl rfl rfl (.inr rfl) N,rfl,?_⟩;refine⟨_,_,fun N=>jy (m:=1409) (b:=b) rfl rfl rfl N,rfl,?_⟩;refine⟨_,_,fun N=>ka (fs:=jj.take 7) rfl Tryz.underlying78 Tryz.underlying3 rfl rfl rfl rfl (.inr rfl) N,rfl,?_⟩;refine⟨_,_,fun N=>jy (m:=1409) (b:=b) rfl rfl rfl N,rfl,?_⟩;refine⟨_,_,fun N=>ka (fs:=jj.take 8) rfl Tryz.underlying78 Tryz.underlying3 rfl rfl rfl rfl (.inr rfl) N,rfl,?_⟩;refine⟨_,_,fun N=>jy (m:=1409) (b:=b) rfl rfl rfl N,rfl,?_⟩;refine⟨_,_,fun N=>ka (fs:=jj.take 9) rfl Tryz.underlying78 Tryz.underlying3 rfl rfl rfl rfl (.inr rfl) N,rfl,?_⟩;refine⟨_,_,fun N=>jy (m:=1409) (b:=b) rfl rfl rfl N,rfl,?_⟩;refine⟨_,_,fun N=>ka (fs:=jj.take 10) rfl Tryz.underlying78 Tryz.underlying3 rfl rfl rfl rfl (.inr rfl) N,rfl,?_⟩;refine⟨_,_,fun N=>jy (m:=1409) (b:=b) rfl rfl rfl N,rfl,?_⟩;refine⟨_,_,fun N=>ka (fs:=jj.take 11) rfl Tryz.underlying78 Tryz.underlying3 rfl rfl rfl rfl (.inr rfl) N,rfl,?_⟩;refine⟨_,_,fun N=>anH eX (fs:=jj) rfl Tryz.underlying78 Tryz.underlying3 rfl rfl rfl rfl ab N,rfl,?_⟩;exact bg
theorem rR (w:cc) (s:dB) {R:Int->cc->Prop} {k f:Nat} (ab:s.kd=(k:Int)) (hf:jj[k]? =some f) (H:cu Tryz.prog f [ap 1401,ic s] (cP w) [] (X:=mY R) (fun p=>ac p.1.1) (fun p=>cP p.1.2)):
  cu Tryz.prog 8 [ap 1401,ic s] (cP w) [] (X:=mY R) (fun p=>ac p.1.1) (fun p=>cP p.1.2):=by
 refine hG [1,5] Tryz.func8 ?_;refine⟨rfl,bt.eY (de.mark 1401 1409 rfl au6) fun b=>bz [5] (bp) ⟨rfl,_,_,fun N=>jy (m:=1409) (b:=b) rfl rfl rfl N,rfl,?_⟩⟩;refine⟨_,_,fun N=>ka (fs:=jj.take 0) rfl Tryz.underlying78 Tryz.underlying3 rfl rfl rfl rfl (.inl ⟨rfl,rfl⟩) N,rfl,?_⟩;refine⟨_,_,fun N=>jy (m:=1409) (b:=b) rfl rfl rfl N,rfl,?_⟩;refine⟨_,_,fun N=>ka (fs:=jj.take 1) rfl Tryz.underlying78 Tryz.underlying3 rfl rfl rfl rfl (.inr rfl) N,rfl,?_⟩;refine⟨_,_,fun N=>jy (m:=1409) (b:=b) rfl rfl rfl N,rfl,?_⟩;refine⟨_,_,fun N=>ka (fs:=jj.take 2) rfl Tryz.underlying78 Tryz.underlying3 rfl rfl rfl rfl (.inr rfl) N,rfl,?_⟩;refine⟨_,_,fun N=>jy (m:=1409) (b:=b) rfl rfl rfl N,rfl,?_⟩;refine⟨_,_,fun N=>ka (fs:=jj.take 3) rfl Tryz.underlying78 Tryz.underlying3 rfl rfl rfl rfl (.inr rfl) N,rfl,?_⟩;refine⟨_,_,fun N=>jy (m:=1409) (b:=b) rfl rfl rfl N,rfl,?_⟩;refine⟨_,_,fun N=>ka (fs:=jj.take 4) rfl Tryz.underlying78 Tryz.underlying3 rfl rfl rfl rfl (.inr rfl) N,rfl,?_⟩;refine⟨_,_,fun N=>jy (m:=1409) (b:=b) rfl rfl rfl N,rfl,?_⟩;refine⟨_,_,fun N=>ka (fs:=jj.take 5) rfl Tryz.underlying78 Tryz.underlying3 rfl rfl rfl rfl (.inr rfl) N,rfl,?_⟩;refine⟨_,_,fun N=>jy (m:=1409) (b:=b) rfl rfl rfl N,rfl,?_⟩;refine⟨_,_,fun N=>ka (fs:=jj.take 6) rfl Tryz.underlying78 Tryz.underlying3 rfl rfl rfl rfl (.inr rfl) N,rfl,?_⟩;refine⟨_,_,fun N=>jy (m:=1409) (b:=b) rfl rfl rfl N,rfl,?_⟩;refine⟨_,_,fun N=>ka (fs:=jj.take 7) rfl Tryz.underlying78 Tryz.underlying3 rfl rfl rfl rfl (.inr rfl) N,rfl,?_⟩;refine⟨_,_,fun N=>jy (m:=1409) (b:=b) rfl rfl rfl N,rfl,?_⟩;refine⟨_,_,fun N=>ka (fs:=jj.take 8) rfl Tryz.underlying78 Tryz.underlying3 rfl rfl rfl rfl (.inr rfl) N,rfl,?_⟩;refine⟨_,_,fun N=>jy (m:=1409) (b:=b) rfl rfl rfl N,rfl,?_⟩;refine⟨_,_,fun N=>ka (fs:=jj.take 9) rfl Tryz.underlying78 Tryz.underlying3 rfl rfl rfl rfl (.inr rfl) N,rfl,?_⟩;refine⟨_,_,fun N=>jy (m:=1409) (b:=b) rfl rfl rfl N,rfl,?_⟩;refine⟨_,_,fun N=>ka (fs:=jj.take 10) rfl Tryz.underlying78 Tryz.underlying3 rfl rfl rfl rfl (.inr rfl) N,rfl,?_⟩;refine⟨_,_,fun N=>jy (m:=1409) (b:=b) rfl rfl rfl N,rfl,?_⟩;refine⟨_,_,fun N=>ka (fs:=jj.take 11) rfl Tryz.underlying78 Tryz.underlying3 rfl rfl rfl rfl (.inr rfl) N,rfl,?_⟩;refine⟨_,_,fun N=>anG eX (fs:=jj) rfl Tryz.underlying78 Tryz.underlying3 rfl rfl rfl rfl hf ab N,rfl,?_⟩;refine bt.iC eX au8 ?_;exact⟨_,_,_,fun g=>_,fun g=>_,cu.mk (m:=1409) (b:=b) H rfl (fun _=>rfl),aA,rfl,fun _=>rfl,fun x=>⟨x,_,_,_,bp,rfl,rfl,aA,rfl⟩⟩
end
section
theorem cu.HK {P:Program} {f:FuncId} {args:List aP} {aJ:aw} {bc:ay5} {X:Type} {res:X->aP} {aO nR:X->aw} (h:cu P f args aJ bc res aO) (G: ∀g c,ag (nR g) c=ag (aO g) c):cu P f args aJ bc res nR:=by
 unfold cu at h⊢;simpa only[G] using h
structure tS (s:dB):Prop where
 b:s.b.length<=1000000
 nm:s.nm.length<=1000000
 l:s.l<=9223372036854775807
 ks:s.ks.length<=1073741824
 anT: ∀k∈s.ks,(mj k).length<=1073741824
inductive gV (w:cc) (s:dB):Int->cc->Prop where
 |Mm (h:s.kd < 0\/12<=s.kd):gV w s 1 w
 |write (h:s.kd=0):gV w s (hI w.z w.L w.a8 s.a s.b).e (ix w s.a ((s.b.length:Int)/16) (hI w.z w.L w.a8 s.a s.b))
 |zero (h:s.kd=1):gV w s (mc w.z w.L w.a8 s.a s.l).e (ix w s.a s.l (mc w.z w.L w.a8 s.a s.l))
 |WO (h:s.kd=2) (az:wS w.bR=true):gV w s 143 w
 |NS (h:s.kd=2) (az:wS w.bR=false):gV w s (mQ w.L w.a8 s.a s.l).e (ix w s.a s.l (mQ w.L w.a8 s.a s.l))
 |busy (h:s.kd=3\/(5<=s.kd/\s.kd<=7)) (Z:ot w.bR=false):gV w s 143 w
 |over (h:s.kd=3) (Z:w.bR= .no) {e:Int} {w':cc} (aF:WB w s e w'):gV w s e w'
 |eM (h:s.kd=4) (l':List bd) (aF:(n3 ((ew w*2 ^w.z:Nat):Int) s.a=true/\DU w.ds s.nm true true ((ew w*2 ^w.z:Nat):Int) s.a [] l')\/(n3 ((ew w*2 ^w.z:Nat):Int) s.a=false/\l'=w.ds)):gV w s (HR w s) {w with ds:=l'}
 |merge (h:s.kd=5) (Z:w.bR= .no) {e:Int} {w':cc} (aF:WC w e w'):gV w s e w'
 |pull (h:s.kd=6) (Z:w.bR= .no) {e:Int} {w':cc} (aF:WD w s e w'):gV w s e w'
 |push (h:s.kd=7) (Z:w.bR= .no) {e:Int} {w':cc} (aF:NO w s e w'):gV w s e w'
 |Aj (h:s.kd=8) (Z:w.bR= .no):gV w s 1 w
 |H0 (h:s.kd=8) {top base:ay4} {l:ay5} (Z:w.bR= .c8 top base l false):gV w s (fz w.z w.L top base l false).e {w with L:=(fz w.z w.L top base l false).L,bR:=if(fz w.z w.L top base l false).over=true then .no else .c8 top base (fz w.z w.L top base l false).l (fz w.z w.L top base l false).over}
 |H1 (h:s.kd=8) {top base:ay4} (Z:w.bR= .pl top base false):gV w s (iH w.z w.L top base false).e {w with L:=(iH w.z w.L top base false).L,bR:=if(iH w.z w.L top base false).over=true then .no else .pl top base (iH w.z w.L top base false).over}
 |H2 (h:s.kd=8) {nm:ay4} {n rm:Int} {l:ay5} {g:List (Nat×ay4)} (Z:w.bR= .pu nm n rm l g false false) {e:Int} {w':cc} (aF:HW w nm n rm l g e w'):gV w s e w'
 |WP (h:s.kd=9) (Z:w.bR= .no):gV w s 1 w
 |WQ (h:s.kd=9) (Z:ot w.bR=false):gV w s 0 {w with bR:=.no}
 |ln (h:s.kd=10) (t:HY w.ds):gV w s 0 (HZ w t)
 |drop (h:s.kd=11) {e:Int} {w':cc} (aF:WH w s e w'):gV w s e w'
theorem cu.lr {P:Program} {f:FuncId} {args:List aP} {aJ:aw} {bc:ay5} {R R':Int->cc->Prop} (h:cu P f args aJ bc (X:=mY R) (fun p=>ac p.1.1) (fun p=>cP p.1.2)) (fq: ∀e w',R e w'->R' e w'):cu P f args aJ bc (X:=mY R') (fun p=>ac p.1.1) (fun p=>cP p.1.2):=
 h.to (fun p=>⟨p.1,fq _ _ p.2⟩) (fun _=>rfl) (fun _=>rfl)
theorem Fn.lr {P:Program} {f:FuncId} {args:List aP} {aJ:aw} {bc:ay5} {R':Int->cc->Prop} {e:Int} {w':cc} (h:Fn P f args aJ bc (ac e) (cP w')) (fq:R' e w'):cu P f args aJ bc (X:=mY R') (fun p=>ac p.1.1) (fun p=>cP p.1.2):=
 h.x.to (fun _=>⟨(e,w'),fq⟩) (fun _=>rfl) (fun _=>rfl)
theorem tT {j:kD} (h:ot j=true):j= .no:=by
 cases j with
 |no=>rfl
 |_=>cases h
theorem NT (w:cc) (aD:fJ w) (s:dB) (ax:tS s):cu Tryz.prog 8 [ap 1401,ic s] (cP w) [] (X:=mY (gV w s)) (fun p=>ac p.1.1) (fun p=>cP p.1.2):=by
 by_cases O:s.kd < 0\/12<=s.kd
 .exact(anS w s O).lr (.Mm O)
 have H:s.kd=0\/s.kd=1\/s.kd=2\/s.kd=3\/s.kd=4\/s.kd=5\/s.kd=6\/s.kd=7\/s.kd=8\/s.kd=9\/s.kd=10\/s.kd=11:=av3
 rcases H with h |h |h |h |h |h |h |h |h |h |h |h
 .exact rR w s (k:=0) h rfl ((am5 w aD s ax.b).lr (.write h))
 .exact rR w s (k:=1) h rfl ((am6 w aD s ax.l).lr (.zero h))
 .refine rR w s (k:=2) h rfl ?_
  cases az:wS w.bR with
  |true=>exact(Wz w aD s ax.l ⟨143,w.L⟩ (by rw[az];rfl) w (by rw[az];rfl)).lr (.WO h az)
  |false=>exact(Wz w aD s ax.l (mQ w.L w.a8 s.a s.l) (by rw[az];rfl) _ (by rw[az];rfl)).lr (.NS h az)
 .refine rR w s (k:=3) h rfl ?_
  cases Z:ot w.bR with
  |false=>exact(am8 w s Z).lr (.busy (.inl h) Z)
  |true=>exact(am9 w aD s (tT Z) ax.nm).lr fun e w' aF=>.over h (tT Z) aF
 .refine rR w s (k:=4) h rfl ?_
  exact((ang w aD s ax.nm).amH.HK (nR:=fun g=>cP {w with ds:=g.1}) fun g c=>by
   simp only[ca]
   by_cases E:1001=c
   .subst E;rfl
   .rw[if_neg E,if_neg E]).to (fun g=>⟨(_,_),.eM h g.1 g.2⟩) (fun _=>rfl) (fun _=>rfl)
 .refine rR w s (k:=5) h rfl ?_
  cases Z:ot w.bR with
  |false=>exact(am' w s Z).lr (.busy (.inr au5) Z)
  |true=>exact(anc w aD s (tT Z)).lr fun e w' aF=>.merge h (tT Z) aF
 .refine rR w s (k:=6) h rfl ?_
  cases Z:ot w.bR with
  |false=>exact(ana w s Z).lr (.busy (.inr au5) Z)
  |true=>exact(ane w aD s (tT Z)).lr fun e w' aF=>.pull h (tT Z) aF
 .refine rR w s (k:=7) h rfl ?_
  cases Z:ot w.bR with
  |false=>exact(anb w s Z).lr (.busy (.inr au5) Z)
  |true=>exact(anr w aD s (tT Z) ax.nm).lr fun e w' aF=>.push h (tT Z) aF
 .refine rR w s (k:=8) h rfl ?_;have lc:=aD.bR
  cases Z:w.bR with
  |no=>exact(anO w s Z).lr (.Aj h Z)
  |c8 top base l over=>
   rw[Z] at lc;obtain⟨rfl,rfl,ba⟩:=lc;exact(anL w Z ba s).lr (.H0 h Z)
  |pl top base over=>
   rw[Z] at lc;obtain⟨rfl,rfl⟩:=lc;obtain⟨d,J⟩:=as7.1 aD.kd;exact(anM w Z aD.cs J s).lr (.H1 h Z)
  |pu nm n rm l g over done=>
   rw[Z] at lc;obtain⟨rfl,rfl,rfl,_,af⟩:=lc;exact(anN w aD.tolq Z af (aD.rB (by rw[Z];rfl)) s).lr fun e w' aF=>.H2 h Z aF
 .refine rR w s (k:=9) h rfl ?_
  cases Z:ot w.bR with
  |false=>exact(anK w s Z).lr (.WQ h Z)
  |true=>exact(anJ w s (tT Z)).lr (.WP h (tT Z))
 .exact rR w s (k:=10) h rfl ((anR w aD s ax.ks ax.anT).to (fun t=>⟨(0,HZ w t),.ln h t⟩) (fun _=>rfl) (fun _=>rfl))
 .exact rR w s (k:=11) h rfl ((anj w aD s).lr fun e w' aF=>.drop h aF)
end
section
theorem WR (es:List (aa ak×aa ak)) (f k:Int): ∀n:Nat,iI (sB es f n) k=if f<=k/\k < f+(n:Int) then true else iI es k
 |0=>by
  rw[if_neg au5];rfl
 |n+1=>by
  have br:=WR es f k n;have h:=zz (aI:=ak) (aK:=ak) rb (f+(n:Int)) (1:Int) (sB es f n);show C1 ((b0 (aI:=ak) (aK:=ak) (dr (aI:=ak) (aK:=ak) (sB es f n) (f+(n:Int)) (1:Int)) k).getD (cL ak))=_
  by_cases e:k=f+(n:Int)
  .rw[e,h.1,if_pos au5];rfl
  .rw[h.2 k e];refine br.trans ?_
   by_cases G:f<=k/\k < f+n
   .rw[if_pos G,if_pos au5]
   .rw[if_neg G,if_neg au5]
theorem WS {es:List (aa ak×aa ak)} (V:eZ es) (f k:Int): ∀n:Nat,iI (u0 es f n) k=if f<=k/\k < f+(n:Int) then false else iI es k
 |0=>by
  rw[if_neg au5];rfl
 |n+1=>by
  have br:=WS V f k n;have h:=B5 (aI:=ak) (aK:=ak) rb (f+(n:Int)) (u0 es f n) (GJ V f n);show C1 ((b0 (aI:=ak) (aK:=ak) (gH (aI:=ak) (aK:=ak) (u0 es f n) (f+(n:Int))) k).getD (cL ak))=_
  by_cases e:k=f+(n:Int)
  .rw[e,h.1,if_pos au5];rfl
  .rw[h.2 k e];refine br.trans ?_
   by_cases G:f<=k/\k < f+n
   .rw[if_pos G,if_pos au5]
   .rw[if_neg G,if_neg au5]
theorem j'.set {s g:Int} {es:List (aa ak×aa ak)} (h:j' s g es) (ax:0<=s/\s<=4096) (a1:1<=g/\g<=64) (fr bK:Int):j' s g (nk s g es fr bK):=fun aC aR=>by
 by_cases ay:x8 s fr bK
 .have e:nk s g es fr bK=sB es (fr/g) ((if bK=0 then 0 else(fr+bK+g - 1)/g) - fr/g).toNat:=if_pos ay;obtain⟨kJ,v2,v3,v4⟩:=ay;have dY:0<=fr/g:=au4 v2 au5
  have gZ:(if bK=0 then 0 else(fr+bK+g - 1)/g)<=mf s g:=by
   split
   .exact(ye ax a1).1
   .exact Int.ediv_le_ediv au5 au5
  have av:=(ye ax a1).1;rw[e,WR] at aR;generalize(if bK=0 then 0 else(fr+bK+g - 1)/g)=q at aR gZ
  split at aR
  .omega
  .exact h aC aR
 .have e:nk s g es fr bK=es:=if_neg ay;rw[e] at aR;exact h aC aR
theorem j'.WT {s g:Int} {es:List (aa ak×aa ak)} (h:j' s g es) (V:eZ es):j' s g (Dc s g es):=fun aC aR=>by
 unfold Dc at aR;rw[WS V] at aR
 split at aR
 .cases aR
 .exact h aC aR
theorem j'.nn {s g:Int} {es:List (aa ak×aa ak)} (h:j' s g es) (ax:0<=s/\s<=4096) (a1:1<=g/\g<=64) (l:List dM):j' s g (l.foldl (ww s g) es):=by
 induction l generalizing es with
 |nil=>exact h
 |cons x l br=>
  refine br ?_;unfold ww
  split
  .exact h.set ax a1 _ _
  .exact h
theorem j'.c8 {s g:Int} {es:List (aa ak×aa ak)} (h:j' s g es) (ax:0<=s/\s<=4096) (a1:1<=g/\g<=64) (row:List dM):j' s g (wx s g es row):=j'.nn h ax a1 _
theorem j'.nil (s g:Int):j' s g []:=fun aC aR=>by cases aR
theorem va.of {e b5:bd} (h:va e) (E:b5.s=e.s) (G:b5.g=e.g) (aj:b5.nm=e.nm) (aX:j' e.s e.g b5.es):va b5:=⟨by rw[E,G];exact h.ok,by rw[E,G];exact aX,by rw[aj];exact h.nm⟩
theorem va.wr {e:bd} (h:va e) (ax:0<=e.s/\e.s<=4096) (a1:1<=e.g/\e.g<=64) (a aZ:Int):va (kZ a aZ e):=h.of rfl rfl rfl (by
 show j' e.s e.g (if e.on=true then nk e.s e.g e.es a aZ else e.es)
 split
 .exact h.fU.set ax a1 a aZ
 .exact h.fU)
theorem NU {z:Nat} {L:List aN} {nm:ay4} {rm a aZ:Int}: ∀(ks l:ay5) (g:List (Nat×ay4)),(ll z L nm rm a aZ ks l g).e=0->(ll z L nm rm a aZ ks l g).over=false
 | [],l,g=>fun _=>rfl
 |k::ks,l,g=>by
  unfold ll
  split
  .exact NU ks l g
  .split
   .exact NU ks _ _
   .rename_i h;exact fun G=>absurd G h
theorem anU {z:Nat} {L:List aN} {nm:ay4} {rm a aZ:Int} {l:ay5} {g:List (Nat×ay4)} (h:(jz z L nm rm a aZ l g false).e=0):(jz z L nm rm a aZ l g false).over=false:=by
 unfold jz at h⊢;rw[if_neg au6] at h⊢
 split at h
 .rename_i H;rw[if_pos H]
 .rename_i H;rw[if_neg H];exact NU _ _ _ h
theorem anV {z U:Nat} {L:List aN} {a8:ay4} {j:kD} (h:wR z U L a8 j) (a aZ:Int):wR z U L a8 (qN z L a aZ j):=by
 cases j with
 |pu nm n rm l g over done=>
  obtain⟨rfl,rfl,rfl,E,G⟩:=h;unfold qN;simp only
  split
  .rename_i V;exact⟨rfl,anU V,rfl,E,G.ahq rm a aZ false⟩
  .trivial
 |_=>exact h
theorem wR.pM {z U:Nat} {L L':List aN} {a8 t:ay4} {j:kD} (h:wR z U L a8 j) (al:kR L t L'):wR z U L' a8 j:=by
 cases j with
 |no=>trivial
 |c8 top base l over=>exact⟨h.1,h.2.1,h.2.2.pM al⟩
 |pl top base over=>exact h
 |pu nm n rm l g over done=>exact⟨h.1,h.2.1,h.2.2.1,by rw[(al.aQ a8).1];exact h.2.2.2.1,h.2.2.2.2.pM al⟩
theorem anW {z U:Nat} {L:List aN} {a8:ay4} {j:kD} (h:wR z U L a8 j) (a aZ:Int):wR z U L a8 (DR z L a aZ j):=by
 cases j with
 |c8 top base l over=>exact⟨h.1,h.2.1,h.2.2.wr over a aZ⟩
 |_=>exact h
theorem fJ.yM {w:cc} (aD:fJ w) (a aZ:Int) (r:o2) (al:kR w.L w.a8 r.L):fJ (ix w a aZ r):=by
 have aR:=al.aQ w.a8;have Z:=(anV aD.bR a aZ).pM al;have ab:=aD.kd;have af: ∀j,DT (DR w.z r.L a aZ j)=DT j:=fun j=>by cases j <;>rfl
 have aT: ∀j,DT (qN w.z w.L a aZ j)=true->DT j=true:=fun j h=>by
  cases j with
  |pu=>rfl
  |_=>exact h
 unfold ix
 split
 .refine⟨⟨al.cs aD.cs,by rw[<-aR.2] at ab;exact ab,(Wf a aZ).map aD.ds,fun e V=>?_,aD.q,aD.ny,fun p af=>?_⟩,anW Z a aZ,fun h=>aD.rB (aT _ ((af _).symm.trans h))⟩
  .obtain⟨bG,av,rfl⟩:=ar2.1 V;obtain⟨fi,g3,_⟩:=aD.ds.ok bG av;obtain⟨cI,dF⟩:=aD.d5 bG av;exact⟨cI.wr fi g3 a aZ,by show bG.s=((cO r.L w.a8*2 ^w.z:Nat):Int);rw[aR.1];exact dF⟩
  .have af:DS a aZ (qN w.z w.L a aZ w.bR) w.bI.ed=some p:=af;show p.2.1=((cO r.L w.a8*2 ^w.z:Nat):Int)/\_;rw[aR.1];unfold DS at af
   split at af
   .exact aD.ed p af
   .obtain⟨q,aT,rfl⟩:=as0.1 af;obtain⟨kO,bD,uh⟩:=aD.ed q aT;exact⟨kO,bD,L6 uh _ _⟩
 .refine⟨⟨al.cs aD.cs,by rw[<-aR.2] at ab;exact ab,aD.ds,fun e V=>?_,aD.q,aD.ny,fun p af=>?_⟩,Z,fun h=>aD.rB (aT _ h)⟩
  .show _/\e.s=((cO r.L w.a8*2 ^w.z:Nat):Int);rw[aR.1];exact aD.d5 e V
  .show p.2.1=((cO r.L w.a8*2 ^w.z:Nat):Int)/\_;rw[aR.1];exact aD.ed p af
end
section
theorem vv {w:cc} (h:lq w) {L':List aN} {t:ay4} (H:cE w.z w.U L') (ab:(dk L' t).isSome=true) (aR:cO L' t=cO w.L w.a8) (b:Nat) (j:kD):lq {w with L:=L',a8:=t,b:=b,bR:=j}:=
 ⟨H,ab,h.ds,fun e V=>⟨(h.d5 e V).1,by rw[aR];exact(h.d5 e V).2⟩,h.q,h.ny,fun p af=>by
  obtain⟨kO,bD⟩:=h.ed p af;exact⟨by rw[aR];exact kO,bD⟩⟩
theorem WU {z U:Nat} {L:List aN} (h:cE z U L) (top base:ay4) (over:Bool):cE z U (iH z L top base over).L/\ ∀n,cO (iH z L top base over).L n=cO L n/\(dk (iH z L top base over).L n).isSome=(dk L n).isSome:=by
 unfold iH
 split
 .exact⟨h,fun _=>⟨rfl,rfl⟩⟩
 .cases sz L top base with
  |some k=>exact⟨(Ag h _ _ _).cs h,fun n=>(Ag h _ _ _).aQ n⟩
  |none=>
   refine⟨agd h top base,fun n=>?_⟩;show cO (kv L top base).L n=_/\_;unfold kv
   split
   .exact⟨rfl,rfl⟩
   .split
    .exact⟨rfl,rfl⟩
    .split
     .unfold cO;rw[sv]
      cases dk L n with
      |none=>exact⟨rfl,rfl⟩
      |some d=>
       show(gu top base d).im.t.length=d.im.t.length/\_;unfold gu
       split <;>exact⟨rfl,rfl⟩
     .exact⟨rfl,rfl⟩
theorem WV {z U:Nat} {L:List aN} (h:cE z U L) (top base:ay4) (l:ay5) (over:Bool): ∃t,kR L t (fz z L top base l over).L:=by
 unfold fz
 split
 .exact⟨top,.inl rfl⟩
 .split
  .exact⟨top,x6 h _ _ _⟩
  .exact⟨base,LE h _ _ _⟩
theorem mn.wV {es:e3} {M:dN} {Q Q':List bL} (h:mn es M Q) {b:Nat} (O:b∉M.map (·.1)):mn (ou es Q' b) ((b,ov Q' b)::M) (if pj Q'=0 then Q' else Q):=h.am3 O
theorem lq.wV {w w':cc} (h:lq w) {Q:List bL} (aT:nx Q) {e:Int} (H:vq w Q e w'):lq w':=by
 obtain⟨_,b,O,⟨V,lb,rfl⟩ |⟨V,rfl⟩⟩:=H
 .have:=h.ny.wV (Q':=Q) O;rw[if_pos V] at this;generalize ou w.es Q b=F at this⊢;generalize ov Q b=S at this⊢;exact⟨h.cs,h.kd,h.ds,h.d5,aT,this,h.ed⟩
 .have:=h.ny.wV (Q':=Q) O;rw[if_neg V] at this;generalize ou w.es Q b=F at this⊢;generalize ov Q b=S at this⊢;exact⟨h.cs,h.kd,h.ds,h.d5,h.q,this,h.ed⟩
theorem nx.anX {Q:List bL} (h:nx Q) (nm:ay4):nx (o7 Q nm):=⟨Mx h.tolm nm,h.AR.drop nm⟩
theorem nx.WW {Q:List bL} (h:nx Q) (b:bL):nx (gv Q b):=⟨h.tolm.add b,h.AR.add b⟩
theorem anY {l l':List bd} (h:l'.map pd=(hL l).map qB) {e:bd} (V:e∈l'): ∃bG,bG∈l/\pd e=qB bG:=by
 have:pd e∈l'.map pd:=aq6 V;rw[h] at this;obtain⟨bG,av,E⟩:=ar2.1 this;exact⟨bG,Hj av,E.symm⟩
theorem lq.ln {w:cc} (h:lq w) (t:HY w.ds):lq (HZ w t):=by
 obtain⟨db,lb,l',J,af⟩:=t;refine⟨h.cs,h.kd,J,fun e V=>?_,h.q,h.ny,h.ed⟩;obtain⟨bG,av,E⟩:=anY af V;obtain⟨cI,dF⟩:=h.d5 bG av;obtain⟨fi,g3,_⟩:=h.ds.ok bG av;unfold pd qB at E;simp only[at3] at E;obtain⟨cx,_,_,cA,dy,fb⟩:=E;refine⟨cI.of cA dy cx fun aC aR=>?_,by rw[cA];exact dF⟩;rw[fb,U8 fi g3 cI.fU] at aR;exact cI.fU aC aR
theorem fJ.no {w:cc} (h:lq w) (Z:w.bR= .no):fJ w:=⟨h,by rw[Z];trivial,fun af=>by rw[Z] at af;cases af⟩
theorem anZ {l:List bd} {nm:ay4} {e:bd} (h:e∈kT l nm):e∈l:=(Av l nm).subset h
theorem lq.f1 {w w':cc} (h:lq w) {g:List (Nat×ay4)} {e:Int} (aF:vu w g e w'):lq w':=by
 have az:lq {w with bI:=pZ w.bI g}:=⟨h.cs,h.kd,h.ds,h.d5,h.q,h.ny,h.ed⟩;rcases aF with⟨_,_,rfl⟩ |⟨_,e0,G,⟨_,rfl⟩ |⟨_,kE,bD,g2,ea,x,a,b,ax,ab,J,rfl⟩⟩
 .exact az
 .exact az.wV (h.q.WW _) G
 .have aj:=DX G;have hw:=az.wV (h.q.WW _) G;rw[aj] at hw⊢;refine⟨hw.cs,hw.kd,J,fun e V=>?_,hw.q,hw.ny,hw.ed⟩;obtain⟨hx,_⟩:=jR ab;obtain⟨AQ,DQ⟩:=h.d5 x hx;obtain⟨fi,g3,pF,_⟩:=h.ds.ok x hx;unfold HT mb at V;obtain⟨bG,av,rfl⟩:=ar2.1 V
  have E:va bG/\bG.s=((cO w.L w.a8*2 ^w.z:Nat):Int):=by
   rcases aq8.1 av with av |av
   .obtain⟨ai,E,rfl⟩:=ar2.1 (anZ av);obtain⟨ux,vS⟩:=h.d5 ai E;obtain⟨kk,q1,z3,_⟩:=h.ds.ok ai E
    split
    .exact⟨ux.of rfl rfl rfl (ux.fU.WT z3),vS⟩
    .exact⟨ux,vS⟩
   .obtain rfl:=aq2.1 av;refine⟨AQ.of rfl rfl (jR ab).2.symm ((AQ.fU.WT pF).c8 fi g3 _),DQ⟩
  split
  .exact⟨E.1.of rfl rfl rfl E.1.fU,E.2⟩
  .exact E
theorem H3 {z U:Nat} {L:List aN} {nm:ay4} {size:Int} {back:ay4} {p:Nat×Nat}:((hY z U L nm size back p).e=0->dk L nm=none/\gr nm=true/\(hY z U L nm size back p).L=nh L nm back p.1 p.2 (hv z size.toNat U))/\((hY z U L nm size back p).e≠0->(hY z U L nm size back p).L=L):=by
 unfold hY
 split
 .exact⟨fun h=>absurd h (show¬(1:Int)=0 by decide),fun _=>rfl⟩
 .rename_i av
  split
  .exact⟨fun h=>absurd h (show¬(143:Int)=0 by decide),fun _=>rfl⟩
  .rename_i E
   split
   .exact⟨fun h=>absurd h (show¬(140:Int)=0 by decide),fun _=>rfl⟩
   .split
    .exact⟨fun h=>absurd h (show¬(142:Int)=0 by decide),fun _=>rfl⟩
    .refine⟨fun _=>⟨?_,?_,rfl⟩,fun h=>absurd rfl h⟩
     .cases J:dk L nm with
      |none=>rfl
      |some d=>exact absurd (.inl (by rw[J];rfl)) E
     .cases hn:gr nm with
      |true=>rfl
      |false=>exact absurd (by rw[hn];rfl) av
theorem an0:eZ ([]:List (aa ak×aa ak)):=by first |exact trivial |exact List.Pairwise.nil |exact at0
theorem WX {w:cc} {s:dB} (h:rP w s=false):gr s.nm=true:=by
 unfold rP at h
 cases hn:gr s.nm with
 |true=>rfl
 |false=>rw[hn] at h;cases h
theorem fm.WY {z U:Nat} {L:List aN} {nm:ay4} (h:cE z U L) (ab:(dk L nm).isSome=true) (f:Nat->Bool):fm z U L nm (h8 f z (cO L nm*2 ^z)) []:=
 ⟨h,ab,LQ f z _ _ (ap0 _),LP f z _,fun p af=>(by cases af),at0,fun k _ h=>av5⟩
theorem fJ.step {w w':cc} (aD:fJ w) {s:dB} {e:Int} (aF:gV w s e w'):fJ w':=by
 cases aF with
 |Mm h=>exact aD
 |write h=>exact aD.yM _ _ _ (Ag aD.cs _ _ _)
 |zero h=>exact aD.yM _ _ _ (Gm aD.cs _ _ _)
 |WO h az=>exact aD
 |NS h az=>exact aD.yM _ _ _ (x6 aD.cs _ _ _)
 |busy h Z=>exact aD
 |over h Z aF=>
  obtain⟨p,eE,V,⟨av,rfl⟩ |⟨av,rfl⟩⟩:=aF
  .obtain⟨b4,_,cg⟩:=H3.1 (V.symm.trans av);rw[cg] at eE⊢;have J:=CP (L:=w.L) (nm:=s.nm) (back:=w.a8) (ad:=p.1) (am:=p.2) (im:=hv w.z ((ew w:Nat):Int).toNat w.U) s.nm;rw[b4,if_pos rfl] at J;refine fJ.no (vv aD.tolq eE (by rw[J];rfl) ?_ w.b w.bR) Z;unfold cO;rw[J];exact as4
  .rw[H3.2 (fun h=>av (V.trans h))];exact aD
 |eM h l' aF=>
  rcases aF with⟨O,J,⟨_,hn,_,_,a,b,rfl⟩ |⟨_,rfl⟩⟩ |⟨_,rfl⟩
  .refine⟨⟨aD.cs,aD.kd,J,fun e V=>?_,aD.q,aD.ny,aD.ed⟩,aD.bR,aD.rB⟩;rcases aq8.1 V with V |V
   .exact aD.d5 e V
   .obtain rfl:=aq2.1 V;exact⟨⟨O,j'.nil _ _,hn⟩,rfl⟩
  .exact aD
  .exact aD
 |merge h Z aF=>
  obtain⟨V,⟨av,b,rfl⟩ |⟨_,rfl⟩⟩:=aF
  .exact⟨vv aD.tolq aD.cs aD.kd rfl _ _,⟨rfl,rfl,kS.agU aD.cs (by rw[<-V];exact av)⟩,fun af=>by cases af⟩
  .exact aD
 |pull h Z aF=>
  obtain⟨V,⟨av,b,rfl⟩ |⟨_,rfl⟩⟩:=aF
  .exact⟨vv aD.tolq aD.cs aD.kd rfl _ _,⟨rfl,rfl⟩,fun af=>by cases af⟩
  .exact aD
 |push h Z aF=>
  rcases aF with⟨_,_,rfl⟩ |⟨hn,⟨_,⟨_,_,rfl⟩ |⟨_,_,b,rfl⟩⟩ |⟨_,_,_,rfl⟩ |⟨_,x,hx,⟨_,_,rfl⟩ |⟨_,⟨_,_,rfl⟩ |⟨_,_,b,kE,rfl⟩⟩⟩⟩
  .exact aD
  .exact aD
  .exact⟨⟨aD.cs,aD.kd,aD.ds,aD.d5,aD.q,aD.ny,fun p af=>by cases af⟩,⟨rfl,rfl,rfl,rfl,fm.WY aD.cs aD.kd _⟩,fun _=>WX hn⟩
  .exact aD
  .exact aD
  .exact aD
  .exact⟨⟨aD.cs,aD.kd,aD.ds,aD.d5,aD.q,aD.ny,fun p af=>by cases af;exact⟨rfl,rfl,an0⟩⟩,⟨rfl,rfl,rfl,rfl,fm.WY aD.cs aD.kd _⟩,fun _=>WX hn⟩
 |Aj h Z=>exact aD
 | @H0 h top base l Z=>
  have lc:=aD.bR;rw[Z] at lc;obtain⟨rfl,_,ba⟩:=lc;obtain⟨t,al⟩:=WV aD.cs w.a8 base l false;have aq:=ba.step base false;have d2:=fun j=>vv aD.tolq aq.cs aq.h7 (al.aQ w.a8).1 w.b j
  split
  .exact fJ.no (d2 _) rfl
  .rename_i ah;exact⟨d2 _,⟨rfl,at4.2 ah,aq⟩,fun af=>by cases af⟩
 | @H1 h top base Z=>
  have lc:=aD.bR;rw[Z] at lc;obtain⟨rfl,_⟩:=lc;obtain⟨H,aR⟩:=WU aD.cs w.a8 base false;have d2:=fun j=>vv aD.tolq H (by rw[(aR w.a8).2];exact aD.kd) (aR w.a8).1 w.b j
  split
  .exact fJ.no (d2 _) rfl
  .rename_i ah;exact⟨d2 _,⟨rfl,at4.2 ah⟩,fun af=>by cases af⟩
 | @H2 h nm n rm l g Z e w' aF=>
  have lc:=aD.bR;rw[Z] at lc;obtain⟨rfl,_,_,hn,bm⟩:=lc;rcases aF with⟨rfl,t,aF,rfl⟩ |⟨al,rfl,rfl⟩
  .have av:lq {w with bR:=.pu w.a8 n rm [] g true true}:=vv aD.tolq aD.cs aD.kd rfl w.b _;have E:=av.f1 aF;exact fJ.no ⟨E.cs,E.kd,E.ds,E.d5,E.q,E.ny,E.ed⟩ rfl
  .have af:=bm.LS rm (Gp al).2.1
   split
   .exact fJ.no (vv aD.tolq aD.cs aD.kd rfl w.b _) rfl
   .exact⟨vv aD.tolq aD.cs aD.kd rfl w.b _,⟨rfl,rfl,rfl,hn,af⟩,fun _=>aD.rB (by rw[Z];rfl)⟩
 |WP h Z=>exact aD
 |WQ h Z=>exact fJ.no (vv aD.tolq aD.cs aD.kd rfl _ _) rfl
 |ln h t=>exact fJ.no (aD.tolq.ln t) rfl
 |drop h aF=>
  rcases aF with⟨_,_,rfl⟩ |⟨_,H⟩
  .exact aD
  .have aj:=DX H;have hw:=aD.tolq.wV (aD.q.anX _) H;rw[aj] at hw⊢;exact⟨hw,aD.bR,aD.rB⟩
end
section
abbrev e8:ay4:=[100,105,115,107]
abbrev WZ:Made:=⟨(([]:ay4),([]:ay4),(0:Int),(0:Int),([]:List j8)),[],none⟩
abbrev sW (z U:Nat) (size:Int) (p:Nat×Nat):List aN:=(hY z U [] e8 size [] p).L
abbrev an1 (z U:Nat) (L:List aN):aw:=
 [(1401,.cells [.d (.int .i64 z),.d (.str e8),.ptr 1001 0,.ptr 4001 0,.ptr 1201 0,.ptr 3001 0,.d (.int .i64 0),.bJ .nilIface,.bJ (.pointer none),.bJ (.pointer none),.d (.str []),.d (.str []),.d (.int .i64 0),.d (.int .i64 0),.d (.ck oc []),.d (.str []),.bJ (.pointer none)]),
  oq z U L,pY [] [],(4001,.aG (rM [])),(3001,.aG (rN []))]
theorem W0 (z U:Nat) (size:Int) (E:j6 z 0 U=true) (G:j6 z size U=true):
  cu Tryz.prog 5 [ac (z:Int),ac size,ac (U:Int)] [] [1001,1201,1401,3001,4001] (X:={p:Nat×Nat//cE z U (sW z U size p)}) (fun _=>.cf [.one (.ptr 1401 0),dw 0]) (fun p=>an1 z U (sW z U size p.1)):=by
 have az:=G;simp only[j6,vj,ar5] at az;have eE:cE z U []:=cE.nil au5 au5
 have V:(hY z U [] e8 size [] (0,0)).e=0:=by
  unfold hY;rw[if_neg (by rw[G];decide),if_neg au6,if_neg au6,if_neg au6]
 have hn:=R0 z U au5 au5;have ha:=NF eE e8 size [] au6;rw[V] at ha;have hf:=alb 4096 au6;refine hG [2,4,5] Tryz.func5 ?_;refine ar hn <| bz [4,5] (ae.close 1001 (bP z U []) (o:=DP z U []) aA rfl fun I F x p h=>h) <| df <| ar ha <| df <| bt.eY (de.i4 1001 rfl) fun p=>bz [5] (bp) <| ar (Fn.aV [(1001,1201),(1002,1202)] hf) <| bz [] (ae.trans (ae.q' 1203 rfl) (ae.close 1201 (nt 1201 1202 1203 4096 [] []) (o:=yH [] []) aA rfl fun I F x p h=>h)) <| ar (Fn.aV [(1001,4001),(1002,4002),(1003,4003),(1004,4004)] TL) <| ar (Fn.aV [(1001,3001),(1002,3002)] Mg) ⟨rfl,?_⟩
 exact⟨p,_,_,_,ae.trans (ae.close 4001 (j1 (eo (k6 [(1001,4001),(1002,4002),(1003,4003),(1004,4004)] [])) (ej [])) (o:=rM []) aA rfl fun I F x p h=>iD.aV [(4001,1001),(4002,1002),(4003,1003),(4004,1004)] h)
  (ae.trans (ae.close 3001 (lp 3001 3002 []) (o:=rN []) aA rfl fun I F x p h=>iD.aV [(3001,1001),(3002,1002)] h) (ae.trans (ae.aV 36 1401 rfl) (ae.sA 1401 (l':=[.d (.int .i64 z),.d (.str e8),.ptr 1001 0,.ptr 4001 0,.ptr 1201 0,.ptr 3001 0,.d (.int .i64 0),.bJ .nilIface,.bJ (.pointer none),.bJ (.pointer none),.d (.str []),.d (.str []),.d (.int .i64 0),.d (.int .i64 0),.d (.ck oc []),.d (.str []),.bJ (.pointer none)]) rfl aA))),rfl,aA,aA,rfl⟩
end
section
def lV (k:lT):Nat:=(mj k).length+(ph k).length
theorem NV {α:Type} (f:α->Nat): ∀(l:List α) (k:Nat),((l.take k).map f).sum<=(l.map f).sum
 | [],k=>by simp
 |a::l,0=>by simp
 |a::l,k+1=>by
  simp only[List.take_succ_cons,aq4,List.sum_cons];have:=NV f l k;omega
theorem NW {α:Type} (f:α->Nat) {l:List α} {k:Nat} (h:k < l.length):((l.take (k+1)).map f).sum=((l.take k).map f).sum+f l[k]:=by
 rw[as1 h,as3,List.sum_append];simp
end
section
theorem W1: ∀b:ay4,fM (.b7 .u8) b=1+b.length
 | []=>rfl
 |x::b=>by
  have h:=W1 b;show 1+(1+(List.map (fM .u8) b).sum)=_;have h:1+(List.map (fM .u8) b).sum=1+b.length:=h;rw[h,as5];omega
theorem W2: ∀b:List Int,fM (.b7 ak) b=1+b.length
 | []=>rfl
 |x::b=>by
  have h:=W2 b;show 1+(1+(List.map (fM ak) b).sum)=_;have h:1+(List.map (fM ak) b).sum=1+b.length:=h;rw[h,as5];omega
theorem an2 (k:lT):fM lS k=2+lV k:=by
 have h:=W2 (mj k);show(1+(ph k).length)+fM (.b7 ak) (mj k)=_;rw[h];unfold lV;omega
theorem W3: ∀l:List lT,fM (.b7 lS) l=1+2*l.length+(l.map lV).sum
 | []=>rfl
 |k::l=>by
  have h:=W3 l;show 1+(fM lS k+(List.map (fM lS) l).sum)=_;have h:1+(List.map (fM lS) l).sum=1+2*l.length+(l.map lV).sum:=h;rw[an2,as5,aq4,List.sum_cons];omega
theorem NX {α:Type} {f:α->Nat} {k:α}: ∀{l:List α},k∈l->f k<=(l.map f).sum
 | [],h=>by cases h
 |a::l,h=>by
  rw[aq4,List.sum_cons];rcases ap3.1 h with rfl |h
  .omega
  .have:=NX (f:=f) h;omega
def ls (n:Int):ay4:=UInt8.ofNat n.toNat::List.replicate 15 (0:UInt8)
theorem W4 (n:Int) (av:0<=n) (E:n < 256):Fn Tryz.prog 22 [kJ (.d (.int .u8 n))] [] [] (bS .u8 (ls n)) []:=by
 refine aU [] Tryz.func22 ?_;exact⟨⟨rfl,au6,au6⟩,rfl,⟨au6,au6⟩,⟨⟨av,E⟩,au6⟩,_,_,_,ae.dW 4 rfl,rfl,rfl,trivial,rfl⟩
abbrev iL:bx:=.bQ ak (.bQ ak (.bQ ak (.bQ (.b7 .u8) (.bQ .str (.bQ .str (.b7 lS))))))
abbrev kb:=aa iL
abbrev cv (x:kb):dB:=⟨x.1,x.2.1,x.2.2.1,x.2.2.2.1,x.2.2.2.2.1,x.2.2.2.2.2.1,x.2.2.2.2.2.2⟩
abbrev NY (s:dB) (v:bC):List bC:=[.d (.int .i64 s.kd),.d (.int .i64 s.a),.d (.int .i64 s.l),.d (.ck .u8 s.b),.d (.str s.nm),.d (.str s.fp),v]
abbrev W5:List bC:=[.d (.int .i64 0),.d (.int .i64 0),.d (.int .i64 0),.dD,.d (.str []),.d (.str []),.dD]
abbrev NZ (s:dB) (k:Nat):aY:=[(2,.c (.one (.ptr 2 0))),(3,.c (.one (.ptr 3 0))),(20,bS lS s.ks),(21,ac (s.ks.length:Nat)),(22,ac (k:Nat))]
abbrev W6 (s:dB) (k:Nat) (r:Nat):aw:=[(2,.cells W5),(3,.cells (NY s (.own r))),(r,.row 80 lS (s.ks.take k))]
theorem an3 (s:dB) (ab:s.ks.length<=1073741824):Fn Tryz.prog 9 [ic s] [] [] (ic s) []:=by
 refine aU [7] Tryz.func9 ?_;refine⟨rfl,rfl,rfl,dQ [7] (X:=Nat) (fun k=>NZ s k) (fun k=>W6 s k 2003) (fun k=>k<=s.ks.length) (fun k=>s.ks.length - k) 0 (ap7 _) ?_ ?_⟩
 .exact ae.trans (ae.vO 3 6 2003 80 lS rfl rfl rfl) (ae.sub aA aA)
 intro k cm;refine⟨fun H=>?_,fun H=>?_⟩
 .have H:decide ((k:Int) < (s.ks.length:Nat))=true:=H;have fe:k < s.ks.length:=by simpa using H
  refine⟨au5,s.ks[k],jv (n:=k) fe,rfl,?_⟩;have O:(s.ks.take k).length+1<=4294967296:=aw5
  refine⟨O,rfl,au5,k+1,au5,au5,ae.trans (ae.sub (K':=NZ s (k+1)) (B':=W6 s (k+1) 30) aA ⟨rfl,rfl,?_,trivial⟩) (ae.aV 30 2003 rfl)⟩;rw[as1 fe];rfl
 .have H:decide ((k:Int) < (s.ks.length:Nat))=false:=H;have fe:k=s.ks.length:=by simp at H;omega
  subst fe;exact bz [] (ae.trans (ae.sub (K':=NZ s s.ks.length) (B':=[(2,.cells W5),(3,.cells (NY s (.own 2003))),(2003,.row 80 lS s.ks)]) aA ⟨rfl,rfl,congrArg (fun l=>some (bb.row 80 lS l)) aq9,trivial⟩) (ae.dW 2003 rfl)) bg
abbrev H4 (x y aC:Int):List bC:=[.d (.int .i64 x),.d (.int .i64 y),.d (.int .i64 aC)]
abbrev N0 (x y aC:Int):aP:=.c (.agg (H4 x y aC))
def vw (s:dB):Nat:=s.b.length+s.nm.length+s.fp.length
def lW (s:dB):Nat:=vw s+(s.ks.map lV).sum
def ow (l:List kb) (k:Nat):Nat:=((l.take k).map fun x=>lW (cv x)).sum
theorem W7 (l:List kb) {k:Nat} (h:k < l.length):ow l (k+1)=ow l k+lW (cv l[k]):=NW (fun x=>lW (cv x)) h
def sX (y:Int) (l:List kb):Bool:=(decide (l.length<=60)&&decide ((l.map fun x=>lW (cv x)).sum<=4000))&&(decide (y<=8)||decide (256 < y))
abbrev an4 (y:Int) (l:List kb) (k n:Nat):aY:=[(1,bS iL l),(2,ap 2),(5,ac (n:Nat)),(10,bS iL l),(11,ac (l.length:Nat)),(12,ac (k:Nat))]
abbrev an5 (y:Int) (l:List kb) (k n:Nat) (s:dB) (j:Nat):aY:=[(1,bS iL l),(2,ap 2),(5,ac (n:Nat)),(10,bS iL l),(11,ac (l.length:Nat)),(12,ac (k:Nat)),(7,ap 7),(30,bS lS s.ks),(31,ac (s.ks.length:Nat)),(32,ac (j:Nat))]
theorem an6 (x y aC:Int) (l:List kb) (al:l.length<=1073741824) (cq:(l.map fun x=>lW (cv x)).sum<=1073741824) (hi: ∀o,o∈l->(cv o).ks.length<=1073741824):Fn Tryz.prog 6 [N0 x y aC,bS iL l] [] [] (fK (sX y l)) []:=by
 refine aU [] Tryz.func6 ?_;refine⟨rfl,dQ [] (X:=Nat) (fun k=>an4 y l k (ow l k)) (fun _=>[(2,.cells (H4 x y aC))]) (fun k=>k<=l.length) (fun k=>l.length - k) 0 (ap7 _) ?_ ?_⟩
 .exact ae.sub aA aA
 intro k ab;refine⟨fun h=>?_,fun h=>?_⟩
 .have cm:k < l.length:=by
   have h:decide ((k:Int) < (l.length:Int))=true:=h;simpa using h
  have H5:=NV (fun x=>lW (cv x)) l (k+1);have H5:ow l (k+1)<=(l.map fun x=>lW (cv x)).sum:=H5;rw[W7 l cm] at H5;refine⟨au5,l[k],jv (n:=k) cm,?_⟩;have an7:=hi _ (ar3 cm);have jY:=W7 l cm;generalize l[k]=o at H5 an7 jY;have apD:lW (cv o)=vw (cv o)+((cv o).ks.map lV).sum:=rfl;have apE:vw (cv o)=(cv o).b.length+(cv o).nm.length+(cv o).fp.length:=rfl;refine⟨rfl,?_⟩;have cx: -9223372036854775808<=((cv o).b.length:Int)+(cv o).nm.length/\((cv o).b.length:Int)+(cv o).nm.length<=9223372036854775807:=av3
  have cA: -9223372036854775808<=((cv o).b.length:Int)+(cv o).nm.length+(cv o).fp.length/\((cv o).b.length:Int)+(cv o).nm.length+(cv o).fp.length<=9223372036854775807:=av3
  have dy: -9223372036854775808<=(ow l k:Int)+(((cv o).b.length:Int)+(cv o).nm.length+(cv o).fp.length)/\(ow l k:Int)+(((cv o).b.length:Int)+(cv o).nm.length+(cv o).fp.length)<=9223372036854775807:=av3
  refine⟨cx,cA,dy,dQ [] (X:=Nat) (fun j=>an5 y l k (ow l k+vw (cv o)+(((cv o).ks.take j).map lV).sum) (cv o) j) (fun _=>[(2,.cells (H4 x y aC)),(7,.cells (NB (cv o)))]) (fun j=>j<=(cv o).ks.length) (fun j=>(cv o).ks.length - j) 0 (ap7 _) ?_ ?_⟩
  .have e:(ow l k:Int)+(((cv o).b.length:Int)+(cv o).nm.length+(cv o).fp.length)=((ow l k+vw (cv o)+(((cv o).ks.take 0).map lV).sum:Nat):Int):=by
    rw[List.take_zero,au0,List.sum_nil];omega
   exact ae.sub ⟨rfl,rfl,e,rfl,rfl,rfl,rfl,rfl,rfl,rfl,trivial⟩ aA
  intro j Z;refine⟨fun G=>?_,fun G=>?_⟩
  .have eI:j < (cv o).ks.length:=by
    have G:decide ((j:Int) < ((cv o).ks.length:Int))=true:=G;simpa using G
   have f':=NV lV (cv o).ks (j+1);rw[NW lV eI] at f';have apF:j < List.length o.2.2.2.2.2.2:=eI;refine⟨au5,(cv o).ks[j],jv (n:=j) eI,?_⟩;have ao:lV (cv o).ks[j]=(mj (cv o).ks[j]).length+(ph (cv o).ks[j]).length:=rfl;refine⟨rfl,?_⟩;have r1: -9223372036854775808<=((mj (cv o).ks[j]).length:Int)+(ph (cv o).ks[j]).length/\((mj (cv o).ks[j]).length:Int)+(ph (cv o).ks[j]).length<=9223372036854775807:=av3
   have r2: -9223372036854775808<=((ow l k+vw (cv o)+(((cv o).ks.take j).map lV).sum:Nat):Int)+(((mj (cv o).ks[j]).length:Int)+(ph (cv o).ks[j]).length)/\((ow l k+vw (cv o)+(((cv o).ks.take j).map lV).sum:Nat):Int)+(((mj (cv o).ks[j]).length:Int)+(ph (cv o).ks[j]).length)<=9223372036854775807:=av3
   refine⟨r1,r2,au5,j+1,au5,au5,ae.sub ⟨rfl,rfl,?_,rfl,rfl,rfl,rfl,rfl,rfl,rfl,trivial⟩ aA⟩;show((ow l k+vw (cv o)+(((cv o).ks.take j).map lV).sum:Nat):Int)+(((mj (cv o).ks[j]).length:Int)+(ph (cv o).ks[j]).length)=_;rw[NW lV eI];omega
  .have eI:j=(cv o).ks.length:=by
    have G:decide ((j:Int) < ((cv o).ks.length:Int))=false:=G;have aj:=mu G;have an8:j<=(cv o).ks.length:=Z;exact Nat.le_antisymm an8 au5
   subst eI;rw[aq9];have hn:ow l k+vw (cv o)+((cv o).ks.map lV).sum=ow l (k+1):=av3
   rw[hn];refine⟨au5,k+1,au5,au5,ae.sub aA aA⟩
 .have cm:k=l.length:=by
   have h:decide ((k:Int) < (l.length:Int))=false:=h;simp at h;omega
  subst cm;have cd:ow l l.length=(l.map fun x=>lW (cv x)).sum:=by unfold ow;rw[aq9]
  rw[cd];have bh:sX y l=((decide (l.length<=60)&&decide ((l.map fun x=>lW (cv x)).sum<=4000))&&(decide (y<=8)||decide (256 < y))):=rfl;generalize(l.map fun x=>lW (cv x)).sum=n at*;refine⟨fun cC=>?_,fun cC=>?_⟩
  .have cC:decide (l.length<=60)=true:=aq1 (by have:=gd cC;omega);refine⟨fun cG=>?_,fun cG=>?_⟩
   .have cG:decide (n<=4000)=true:=aq1 (by have:=gd cG;omega);refine⟨fun hF=>?_,fun hF=>?_⟩
    .have hF:decide (y<=8)=true:=hF;refine⟨_,_,_,bp,rfl,(show true=sX y l from ?_),trivial,rfl⟩;rw[bh,cC,cG,hF];rfl
    .have hF:decide (y<=8)=false:=hF;refine⟨_,_,_,bp,rfl,(show decide (256 < y)=sX y l from ?_),trivial,rfl⟩;rw[bh,cC,cG,hF];rfl
   .have cG:decide (n<=4000)=false:=ar8 (by have:=mu cG;omega);refine⟨_,_,_,bp,rfl,(show false=sX y l from ?_),trivial,rfl⟩;rw[bh,cC,cG];rfl
  .have cC:decide (l.length<=60)=false:=ar8 (by have:=mu cC;omega);refine⟨_,_,_,bp,rfl,(show false=sX y l from ?_),trivial,rfl⟩;rw[bh,cC];rfl
theorem an9 {y:Int} {l:List kb} (h:sX y l=true) {x:kb} (hx:x∈l):(cv x).b.length<=4000/\(cv x).nm.length<=4000/\ ∀k∈(cv x).ks,(mj k).length<=4000:=by
 unfold sX at h;simp only[vj,ar5] at h;have E:lW (cv x)<=(l.map fun x=>lW (cv x)).sum:=NX (f:=fun x=>lW (cv x)) hx;have G:lW (cv x)=(cv x).b.length+(cv x).nm.length+(cv x).fp.length+((cv x).ks.map lV).sum:=rfl;refine⟨au5,au5,fun k ab=>?_⟩;have aj:=NX (f:=lV) ab;have aX:lV k=(mj k).length+(ph k).length:=rfl;omega
end
section
theorem gV.FR {w w':cc} {s:dB} {e:Int} (ab:s.kd=0) (h:gV w s e w'):e=(hI w.z w.L w.a8 s.a s.b).e/\w'=ix w s.a ((s.b.length:Int)/16) (hI w.z w.L w.a8 s.a s.b):=by
 cases h with
 |write h=>exact⟨rfl,rfl⟩
 |_=>omega
theorem gV.an' {w w':cc} {s:dB} {e:Int} (ab:s.kd=7) (h:gV w s e w'):(ot w.bR=false/\e=143/\w'=w)\/(w.bR= .no/\NO w s e w'):=by
 cases h with
 |busy h Z=>exact .inl ⟨Z,rfl,rfl⟩
 |push h Z aF=>exact .inr ⟨Z,aF⟩
 |_=>omega
theorem gV.N1 {w w':cc} {s:dB} {e:Int} (ab:s.kd=8) (h:gV w s e w'):(w.bR= .no/\e=1/\w'=w)\/(∃top base l,w.bR= .c8 top base l false/\e=(fz w.z w.L top base l false).e/\w'={w with L:=(fz w.z w.L top base l false).L,bR:=if(fz w.z w.L top base l false).over=true then .no else .c8 top base (fz w.z w.L top base l false).l (fz w.z w.L top base l false).over})\/
  (∃top base,w.bR= .pl top base false/\e=(iH w.z w.L top base false).e/\w'={w with L:=(iH w.z w.L top base false).L,bR:=if(iH w.z w.L top base false).over=true then .no else .pl top base (iH w.z w.L top base false).over})\/
  ∃nm n rm l g,w.bR= .pu nm n rm l g false false/\HW w nm n rm l g e w':=by
 cases h with
 |Aj h Z=>exact .inl ⟨Z,rfl,rfl⟩
 |H0 h Z=>exact .inr (.inl ⟨_,_,_,Z,rfl,rfl⟩)
 |H1 h Z=>exact .inr (.inr (.inl ⟨_,_,Z,rfl,rfl⟩))
 |H2 h Z aF=>exact .inr (.inr (.inr ⟨_,_,_,_,_,Z,aF⟩))
 |_=>omega
def lX (p:Nat×Nat):List aN:=(hI 0 (sW 0 9 2 p) e8 0 (ls 97)).L
def wW (p:Nat×Nat):List aN:=(hI 0 (lX p) e8 0 (ls 98)).L
theorem W8 (p:Nat×Nat):(hI 0 (sW 0 9 2 p) e8 0 (ls 97)).e=0:=by kernel_rfl
theorem W9 (p:Nat×Nat):(hI 0 (lX p) e8 0 (ls 98)).e=0:=by kernel_rfl
theorem aoa (p:Nat×Nat):cO (lX p) e8=2:=by kernel_rfl
theorem aob:h8 (fun _=>true) 0 (2*2 ^0)=[0,1]:=by kernel_rfl
theorem aoc (p:Nat×Nat):ll 0 (lX p) e8 9 0 1 [0,1] [0,1] []=⟨0,[1],[(0,ls 97)],false⟩:=by kernel_rfl
theorem aod (p:Nat×Nat):jz 0 (lX p) e8 9 0 1 [0,1] [] false=⟨0,[1],[(0,ls 97)],false⟩:=by
 show ll 0 (lX p) e8 9 0 1 (o5 [0,1]) [0,1] []=_;rw[ahv,aoc]
theorem aoe (p:Nat×Nat):ei 0 (wW p) e8 9 [1] [(0,ls 97)] 1=⟨0,[],[(0,ls 97),(1,List.replicate 16 0)],false⟩:=by kernel_rfl
theorem aof (p:Nat×Nat):Ae 0 (wW p) e8 0 1=(ls 98,0):=by kernel_rfl
def W':List j8:=[((0:Int),ls 97),((1:Int),List.replicate 16 (0:UInt8))]
theorem aog:n4 [(0,ls 97),(1,List.replicate 16 0)]=W':=by
 unfold n4;rw[show gR (j7 [(0,ls 97),(1,List.replicate 16 0)])=[0,1] from rfl,Tk (m:=[0,1]) (List.Perm.refl _) au6];rfl
def rS:bL:=([120],[],(0:Int),(2:Int),W')
theorem Xa:gz [] rS=0:=by kernel_rfl
theorem aoh:pj [rS]=0:=by kernel_rfl
theorem aoi:u5 [rS] [120]=0:=by kernel_rfl
theorem aoj:(GX [rS] [120]).length=32/\fD (GX [rS] [120]) 0=some 97:=⟨au8,au8⟩
abbrev gh (z U:Nat) (size:Int) (p:Nat×Nat) (db lb:Nat):cc:=⟨z,U,sW z U size p,e8,db,[],[],[],lb,[],0,.no,WZ⟩
theorem Xb {z U:Nat} {size:Int} (G:j6 z size U=true) (p:Nat×Nat):dk (sW z U size p) e8=some ⟨e8,[],p.1,p.2,hv z size.toNat U,none⟩:=by
 have e:sW z U size p=nh [] e8 [] p.1 p.2 (hv z size.toNat U):=by
  show(hY z U [] e8 size [] p).L=_;unfold hY;rw[if_neg (by rw[G];decide),if_neg au6,if_neg au6,if_neg au6]
 rw[e,CP];rfl
theorem aok {z U:Nat} {size:Int} (G:j6 z size U=true) (p:Nat×Nat):cO (sW z U size p) e8=size.toNat:=by
 unfold cO;rw[Xb G];exact as4
theorem mn.nil:mn [] [] []:=⟨List.Pairwise.nil,fun p h=>av5,⟨fun p h=>av5,at0,at0,fun p h=>av5,fun p h=>av5⟩,fun p h=>av5,.inl ⟨rfl,rfl⟩⟩
theorem nx.nil:nx []:=⟨⟨au6,fun b h=>av5,fun k b h=>av5⟩,qH.nil⟩
theorem Xc {z U:Nat} {size:Int} (G:j6 z size U=true) {p:Nat×Nat} (eE:cE z U (sW z U size p)) (db lb:Nat):fJ (gh z U size p db lb):=
 fJ.no ⟨eE,by show(dk (sW z U size p) e8).isSome=true;rw[Xb G];rfl,dS.nil,fun e V=>(by cases V),nx.nil,mn.nil,fun p af=>(by cases af)⟩ rfl
abbrev Xd:dB:=⟨0,0,0,ls 97,[],[],[]⟩
abbrev N2:dB:=⟨7,0,9,[],[120],[],[]⟩
abbrev sY:dB:=⟨0,0,0,ls 98,[],[],[]⟩
abbrev Xe:dB:=⟨8,0,0,[],[],[],[]⟩
theorem tS.of {s:dB} (E:s.b.length<=1000000) (G:s.nm.length<=1000000) (aj:s.l<=9223372036854775807) (aX:s.ks=[]):tS s:=⟨E,G,aj,by rw[aX];decide,by rw[aX];exact fun k h=>av5⟩
abbrev tU:Made:=vt [120] [] 0 2 [] none
def aol:Nat->cc->Prop
 |0,w=>w.bR= .pu e8 2 9 [1] [(0,ls 97)] false false/\w.bI=tU/\w.Q=[]
 |1,w=>w.bR= .pu e8 2 9 [] [(0,ls 97),(1,List.replicate 16 0)] false false/\w.bI=tU/\w.Q=[]
 |_,w=>w.bR= .no/\w.Q=[rS]
structure yN (p:Nat×Nat) (k:Nat) (w:cc):Prop where
 ok:fJ w
 bi:w.z=0
 L:w.L=wW p
 apG:w.a8=e8
 apH:aol k w
theorem aom {p:Nat×Nat} {db lb:Nat} {e:Int} {w':cc} (h:gV (gh 0 9 2 p db lb) Xd e w'):e=0/\w'={gh 0 9 2 p db lb with L:=lX p}:=by
 obtain⟨rfl,rfl⟩:=h.FR rfl;refine⟨W8 p,?_⟩;unfold ix;rw[if_pos (W8 p)];rfl
theorem aon {p:Nat×Nat} {db lb:Nat} {e:Int} {w':cc} (h:gV {gh 0 9 2 p db lb with L:=lX p} N2 e w'):e=0/\ ∃b,w'={gh 0 9 2 p db lb with L:=lX p,b:=b,bR:=.pu e8 2 9 [0,1] [] false false,bI:=tU}:=by
 have hn: ∀w:cc,w.Q=[]->rP w N2=false:=fun w h=>by
  unfold rP;rw[h];rfl
 rcases h.an' rfl with⟨h,_⟩ |⟨_,h⟩
 .cases h
 .rcases h with⟨h,_⟩ |⟨_,⟨_,⟨h,_⟩ |⟨_,rfl,b,rfl⟩⟩ |⟨h,_⟩ |⟨h,_⟩⟩
  .exact absurd (h.symm.trans (hn _ rfl)) au6
  .exact absurd h au6
  .refine⟨rfl,b,?_⟩;have aR:ew {gh 0 9 2 p db lb with L:=lX p}=2:=aoa p;rw[aR,aob];rfl
  .exact absurd rfl h
  .exact absurd rfl h
theorem aoo {p:Nat×Nat} {db lb b:Nat} {e:Int} {w':cc} (aD:fJ {gh 0 9 2 p db lb with L:=lX p,b:=b,bR:=.pu e8 2 9 [0,1] [] false false,bI:=tU}) (h:gV {gh 0 9 2 p db lb with L:=lX p,b:=b,bR:=.pu e8 2 9 [0,1] [] false false,bI:=tU} sY e w'):e=0/\yN p 0 w':=by
 have d2:=aD.step h;obtain⟨rfl,rfl⟩:=h.FR rfl;have al:(((sY.b.length:Nat):Int)/16)=1:=by decide
 have Z:qN 0 (lX p) 0 1 (.pu e8 2 9 [0,1] [] false false)= .pu e8 2 9 [1] [(0,ls 97)] false false:=by
  unfold qN;simp only[aod];rfl
 have e:ix {gh 0 9 2 p db lb with L:=lX p,b:=b,bR:=.pu e8 2 9 [0,1] [] false false,bI:=tU} sY.a (((sY.b.length:Nat):Int)/16) (hI 0 (lX p) e8 sY.a sY.b)=⟨0,9,wW p,e8,db,[],[],[],lb,[],b,.pu e8 2 9 [1] [(0,ls 97)] false false,tU⟩:=by
  unfold ix;rw[if_pos (W9 p),al];simp only[Z];rfl
 have ao:=e▸d2;refine⟨W9 p,?_⟩;show yN p 0 (ix {gh 0 9 2 p db lb with L:=lX p,b:=b,bR:=.pu e8 2 9 [0,1] [] false false,bI:=tU} sY.a (((sY.b.length:Nat):Int)/16) (hI 0 (lX p) e8 sY.a sY.b));rw[e];exact⟨ao,rfl,rfl,rfl,rfl,rfl,rfl⟩
theorem aop {w:cc} {g:List (Nat×ay4)} {e:Int} {t:HU} (h:vu w g e (AU w g t)) (ek:gz w.Q (gK w.bI g)=0) (aW:pj (gv w.Q (gK w.bI g))=0):t.2.2.2.2=gv w.Q (gK w.bI g)/\e=0:=by
 have key: ∀e0,vq {w with bI:=pZ w.bI g} (gv w.Q (gK w.bI g)) e e0->e0.Q=gv w.Q (gK w.bI g)/\e=0:=fun e0 G=>by
  obtain⟨V,b,_,⟨_,lb,rfl⟩ |⟨h,_⟩⟩:=G
  .exact⟨Eq.refl _,V.trans aW⟩
  .exact absurd aW h
 rcases h with⟨h,_⟩ |⟨_,e0,G,⟨_,aj⟩ |⟨_,kE,bD,g2,ea,x,a,b,_,_,_,aj⟩⟩
 .exact absurd ek h
 .have:=key e0 G;exact⟨(congrArg cc.Q aj).trans this.1,this.2⟩
 .have:=key e0 G;exact⟨(congrArg cc.Q aj).trans this.1,this.2⟩
theorem aoq {p:Nat×Nat} {k:Nat} {w w':cc} {e:Int} (ba:yN p k w) (h:gV w Xe e w'):yN p (k+1) w':=by
 have d2:=ba.ok.step h;obtain⟨aD,E,G,aj,aX⟩:=ba
 match k,aX with
 |0,aX=>
  obtain⟨kU,qw,wG⟩:=aX;rcases h.N1 rfl with⟨j,_⟩ |⟨_,_,_,j,_⟩ |⟨_,_,j,_⟩ |⟨nm,n,rm,l,g,j,aF⟩
  .rw[kU] at j;cases j
  .rw[kU] at j;cases j
  .rw[kU] at j;cases j
  .rw[kU] at j
   cases j
   rcases aF with⟨al,_⟩ |⟨_,_,rfl⟩
   .cases al
   .have az:eP [1]=1:=rfl;rw[E,G,az,aoe] at d2⊢;exact⟨d2,rfl,rfl,aj,rfl,qw,wG⟩
 |1,aX=>
  obtain⟨kU,qw,wG⟩:=aX;rcases h.N1 rfl with⟨j,_⟩ |⟨_,_,_,j,_⟩ |⟨_,_,j,_⟩ |⟨nm,n,rm,l,g,j,aF⟩
  .rw[kU] at j;cases j
  .rw[kU] at j;cases j
  .rw[kU] at j;cases j
  .rw[kU] at j
   cases j
   rcases aF with⟨_,t,aF,rfl⟩ |⟨al,_⟩
   .have O:gK w.bI [(0,ls 97),(1,List.replicate 16 0)]=rS:=by
     rw[qw];show([120],[],(0:Int),(2:Int),n4 [(0,ls 97),(1,List.replicate 16 0)])=rS;rw[aog];rfl
    have al:gv [] rS=[rS]:=by
     unfold gv;rw[Xa];rfl
    have:=aop aF (by show gz w.Q (gK w.bI _)=0;rw[O,wG];exact Xa) (by show pj (gv w.Q (gK w.bI _))=0;rw[O,wG,al];exact aoh);refine⟨d2,E,G,aj,rfl,this.1.trans ?_⟩;show gv w.Q (gK w.bI _)=_;rw[O,wG,al]
   .exact absurd rfl al
 |k+2,aX=>
  obtain⟨kU,qw⟩:=aX;rcases h.N1 rfl with⟨_,_,rfl⟩ |⟨_,_,_,j,_⟩ |⟨_,_,j,_⟩ |⟨nm,n,rm,l,g,j,aF⟩
  .exact⟨aD,E,G,aj,kU,qw⟩
  .rw[kU] at j;cases j
  .rw[kU] at j;cases j
  .rw[kU] at j;cases j
end
section
abbrev aor (s:dB):List aP:=[ap 1401,.c (.agg (NY s .dD))]
theorem Xf (w:cc) (aD:fJ w) (s:dB) (ax:tS s) (av:s.ks=[]):cu Tryz.prog 8 (aor s) (cP w) [] (X:=mY (gV w s)) (fun p=>ac p.1.1) (fun p=>cP p.1.2):=
 cu.arg (NT w aD s ax) ⟨rfl,⟨rfl,rfl,rfl,rfl,rfl,rfl,by rw[av];rfl,trivial⟩,trivial⟩
abbrev aos (s:dB):List aP:=[ap 1401,.c (.agg [.d (.int .i64 s.kd),.d (.int .i64 s.a),.d (.int .i64 s.l),.dD,.d (.str s.nm),.d (.str s.fp),.dD])]
theorem Xg (w:cc) (aD:fJ w) (s:dB) (ax:tS s) (av:s.ks=[]) (E:s.b=[]):cu Tryz.prog 8 (aos s) (cP w) [] (X:=mY (gV w s)) (fun p=>ac p.1.1) (fun p=>cP p.1.2):=
 cu.arg (NT w aD s ax) ⟨rfl,⟨rfl,rfl,rfl,by rw[E];rfl,rfl,rfl,by rw[av];rfl,trivial⟩,trivial⟩
abbrev Xh (p:Nat×Nat) (db lb:Nat):cc:=⟨0,9,lX p,e8,db,[],[],[],lb,[],0,.no,WZ⟩
abbrev Xi (p:Nat×Nat) (db lb b:Nat):cc:=⟨0,9,lX p,e8,db,[],[],[],lb,[],b,.pu e8 2 9 [0,1] [] false false,tU⟩
theorem aot:Fn Tryz.prog 7 [] [] [] (fK true) []:=by
 have hn:=W0 0 9 2 au6 au6;refine aU [1,2,4,5,6,7,8,10,12] Tryz.func7 ?_;refine bt.iC eX au8 ?_;refine⟨_,_,_,fun g=>_,fun g=>_,hn,trivial,rfl,fun _=>rfl,fun x=>?_⟩;obtain⟨p,eE⟩:=x;refine bt.eY (de.mark 4001 4009 rfl au6) fun db=>?_
 refine bt.le (ae.trans (ae.vr 1401 3 4001 4009 db rfl rfl rfl) (ae.trans (ae.vs 4001 4009 db rfl rfl) (ae.trans (ae.q' 1101 rfl) (ae.put 1101 4001 au6 rfl rfl)))) <| bt.eY (de.mark 3001 3009 rfl au6) fun lb=>bt.le (ae.trans (ae.vr 1401 5 3001 3009 lb rfl rfl rfl) (ae.trans (ae.vs 3001 3009 lb rfl rfl) (ae.trans (ae.q' 1301 rfl) (ae.put 1301 3001 au6 rfl rfl)))) <| bt.le (ae.trans (ae.vo 1401 8 rfl rfl) (ae.trans (ae.vo 1401 9 rfl rfl) (ae.trans (ae.vo 1401 16 rfl rfl) (ae.trans (ae.q' 1601 rfl) (ae.Wh 1501 1001 rfl au6))))) ?_
 have av:=Xc au6 eE db lb;have E:=Xf _ av Xd (tS.of au6 au6 au6 rfl) rfl;refine bz [4,5,6,7,8,10,12] (cH [(1,ap 1401),(2,ac 0)] (cP (gh 0 9 2 p db lb))) <| df <| bt.iC eX au8 <| lF ((W4 97 au6 au6).x) fun _=>⟨_,_,_,fun g=>_,fun g=>_,E,aA,rfl,fun _=>rfl,fun x=>?_⟩
 obtain⟨⟨e,dz⟩,aF⟩:=x;have DZ:=av.step aF;obtain⟨V,hw⟩:=aom aF;have V:e=0:=V;have hw:dz=_:=hw;subst V hw;have DZ:fJ (Xh p db lb):=DZ;have G:=Xg _ DZ N2 (tS.of au6 au6 au6 rfl) rfl rfl;refine bt.le (cH [(1,ap 1401),(3,ac 0)] (cP (Xh p db lb))) <| bt.iC eX au8 ⟨_,_,_,fun g=>_,fun g=>_,G,aA,rfl,fun _=>rfl,fun x=>?_⟩;obtain⟨⟨e,e0⟩,r9⟩:=x;have xR:=DZ.step r9;obtain⟨V,b,hw⟩:=aon r9;have V:e=0:=V;have hw:e0=_:=hw;subst V hw;have xR:fJ (Xi p db lb b):=xR;have aj:=Xf _ xR sY (tS.of au6 au6 au6 rfl) rfl;refine bz [7,8,10,12] (cH [(1,ap 1401),(3,ac 0),(4,ac 0)] (cP (Xi p db lb b))) <| ar (Wr (z:=0) (U:=9) (L:=lX p) (a8:=e8) (db:=db) (lb:=lb) (es:=[]) (M:=[]) (kd:=3) (fh:=qL b (.pu e8 2 9 [0,1] [] false false)) (c8:=none) (pu:=some b) (m:=tU)) <| bt.iC eX au8 <| lF ((W4 98 au6 au6).x) fun _=>⟨_,_,_,fun g=>_,fun g=>_,aj,aA,rfl,fun _=>rfl,fun x=>?_⟩
 obtain⟨⟨e,ij⟩,Xj⟩:=x;obtain⟨V,ba⟩:=aoo xR Xj;have V:e=0:=V;have ba:yN p 0 ij:=ba;subst V;refine bz [10,12] (cH [(1,ap 1401),(3,ac 0),(4,ac 0),(5,ac 3),(6,ac 0)] (cP ij)) ?_;clear Xj aj xR G DZ E av r9 aF;refine dQ [10,12] (X:=Nat×cc) (fun x=>[(1,ap 1401),(3,ac 0),(4,ac 0),(5,ac 3),(6,ac 0),(36,ac (x.1:Nat))]) (fun x=>cP x.2) (fun x=>x.1<=3/\yN p x.1 x.2) (fun x=>3 - x.1) (0,ij) ⟨au5,ba⟩ ?_ ?_
 .exact ae.sub aA aA
 rintro⟨k,w⟩ ⟨ab,ba⟩;have ab:k<=3:=ab;have ba:yN p k w:=ba;refine⟨fun h=>?_,fun h=>?_⟩
 .have h:decide ((k:Int) < 3)=true:=h;have fe:k < 3:=by have:=gd h;omega
  have iA:=Xg w ba.ok Xe (tS.of au6 au6 au6 rfl) rfl rfl;refine bt.iC eX au8 ?_;refine⟨_,_,_,fun g=>_,fun g=>_,iA,aA,rfl,fun _=>rfl,fun x=>?_⟩;obtain⟨⟨e,w'⟩,aF⟩:=x;refine⟨au5,(k+1,w'),⟨by show k+1<=3;omega,aoq ba aF⟩,by show 3 - (k+1) < 3 - k;omega,ae.sub aA aA⟩
 .have h:decide ((k:Int) < 3)=false:=h;have fe:k=3:=by have:=mu h;omega
  subst fe;obtain⟨aD,ai,ao,bl,c2,fS⟩:=ba;have aT:=aD.q.tolm;have gk:=aD.cs;obtain⟨z,U,L,a8,db,ds,es,M,lb,Q,b,bR,bI⟩:=w;simp only at ai ao bl c2 fS aT gk;subst ai ao bl c2 fS;have fq:=Fn.m' (b:=lb) [1002] 1301 (ajt aT [120]);rw[aoi] at fq;have b9:=amL (a8:=e8) (db:=db) (lb:=lb) (es:=es) (M:=M) (kd:=0) (fh:=.nilIface) (c8:=none) (pu:=none) (m:=bI) gk 0 1;rw[aof] at b9;obtain⟨r1,r2⟩:=aoj;generalize GX [rS] [120]=R at*;refine bz [] (cH [(1,ap 1401),(3,ac 0),(4,ac 0),(5,ac 3),(6,ac 0)] (cP ⟨0,U,wW p,e8,db,ds,es,M,lb,[rS],b,.no,bI⟩)) <| ar (amK (z:=0) (U:=U) (L:=wW p) (a8:=e8) (db:=db) (lb:=lb) (es:=es) (M:=M) (kd:=0) (fh:=.nilIface) (c8:=none) (pu:=none) (m:=bI)) <| ar (Wq (z:=0) (U:=U) (L:=wW p) (a8:=e8) (db:=db) (lb:=lb) (es:=es) (M:=M) (kd:=0) (fh:=.nilIface) (c8:=none) (pu:=none) (m:=bI)) ⟨fun _ _=>ar fq <| ar b9 <| e5 <| e5 <| e5 <| e5 <| ar (Wr (z:=0) (U:=U) (L:=wW p) (a8:=e8) (db:=db) (lb:=lb) (es:=es) (M:=M) (kd:=0) (fh:=.nilIface) (c8:=none) (pu:=none) (m:=bI)) <| e5 <| e5 ?_,fun h=>av5⟩;have Tp:decide ((R.length:Int)=32)=true:=by rw[r1];rfl
  exact⟨fun _=>⟨au6,(97:UInt8),r2,e5 <| e5 ⟨au6,(98:UInt8),rfl,e5 <| eq bp rfl (show decide (e8=e8)=true by decide)⟩⟩,fun h=>Bool.noConfusion (Tp.symm.trans h)⟩
end
section
theorem aou (z U:Int) (h:j6 z 0 U=false):Fn Tryz.prog 17 [ac z,ac U] [] [] (.cf [mG,dw 1]) []:=by
 refine aU [] Tryz.func17 ?_;exact ar (RU z 0 U h) <| e5 bg
theorem aov (b s r:Int) (h:j6 b s r=false):Fn Tryz.prog 5 [ac b,ac s,ac r] [] [] (.cf [mG,dw 1]) []:=by
 by_cases E:j6 b 0 r=true
 .have az:=E;simp only[j6,vj,ar5] at az;obtain⟨⟨_,N3,r9⟩,gQ,he⟩:=az;obtain⟨z,rfl⟩:=Int.eq_ofNat_of_zero_le gQ;obtain⟨U,rfl⟩:=Int.eq_ofNat_of_zero_le N3;have eE:cE z U []:=cE.nil au5 au5
  have V:(hY z U [] e8 s [] (0,0)).e=1:=by
   unfold hY;rw[if_pos (by rw[h];rfl)]
  have hn:=R0 z U au5 au5;have ha:=NF eE e8 s [] au6;rw[V] at ha;refine aU [2] Tryz.func5 ?_;exact ar hn <| bz [] (ae.close 1001 (bP z U []) (o:=DP z U []) aA rfl fun I F x p h=>h) <| df <| ar ha <| e5 bg
 .have hn:=aou b r (at4.2 E);refine aU [] Tryz.func5 ?_;exact ar hn <| e5 bg
theorem N4 (x:kb):lW (cv x)+(cv x).ks.length+1<=fM iL x:=by
 have E:=W1 (cv x).b;have G:=W3 (cv x).ks;have e:fM iL x=1+(1+(1+(fM (.b7 .u8) (cv x).b+((1+(cv x).nm.length)+((1+(cv x).fp.length)+fM (.b7 lS) (cv x).ks))))):=rfl;have ao:lW (cv x)=(cv x).b.length+(cv x).nm.length+(cv x).fp.length+((cv x).ks.map lV).sum:=rfl;rw[e,E,G,ao];omega
theorem Xk: ∀l:List kb,l.length+(l.map fun x=>lW (cv x)).sum<=fM (.b7 iL) l/\ ∀x∈l,fM iL x<=fM (.b7 iL) l
 | []=>⟨ap7 _,fun x h=>av5⟩
 |o::l=>by
  obtain⟨E,G⟩:=Xk l;have e:fM (.b7 iL) (o::l)=1+(fM iL o+(List.map (fM iL) l).sum):=rfl;have ao:fM (.b7 iL) l=1+(List.map (fM iL) l).sum:=rfl;have bl:=N4 o;refine⟨?_,fun x hx=>?_⟩
  .rw[e,as5,aq4,List.sum_cons];omega
  .rcases ap3.1 hx with rfl |hx
   .rw[e];omega
   .have:=G x hx;rw[e];omega
structure rT (l:List kb):Prop where
 len:l.length<=1048576
 sum:(l.map fun x=>lW (cv x)).sum<=1048576
 ks: ∀o,o∈l->(cv o).ks.length<=1048576
 l: ∀o,o∈l->(cv o).l<=9223372036854775807
theorem rT.of {l:List kb} (h:fM (.b7 iL) l<=1048576) (al: ∀o,o∈l->(cv o).l<=9223372036854775807):rT l:=by
 obtain⟨E,G⟩:=Xk l;refine⟨au5,au5,fun o ah=>?_,al⟩;have:=G o ah;have:=N4 o;omega
theorem rT.one {x:kb} (h:fM iL x<=1048576) (al:(cv x).l<=9223372036854775807):rT [x]:=by
 have:=N4 x;refine⟨by show 1<=1048576;decide,?_,fun o ah=>?_,fun o ah=>?_⟩
 .show lW (cv x)+0<=_;omega
 .obtain rfl:=aq2.1 ah;omega
 .obtain rfl:=aq2.1 ah;exact al
theorem rT.sP {l:List kb} (h:rT l) (x y aC:Int):Fn Tryz.prog 6 [N0 x y aC,bS iL l] [] [] (fK (sX y l)) []:=
 an6 x y aC l (by have:=h.len;omega) (by have:=h.sum;omega) fun o ah=>by have:=h.ks o ah;omega
theorem rT.aow {l:List kb} (h:rT l) {y:Int} (hf:sX y l=true) {x:kb} (hx:x∈l):tS (cv x):=by
 obtain⟨E,G,aj⟩:=an9 hf hx;exact⟨au5,au5,h.l x hx,by have:=h.ks x hx;omega,fun k ab=>by have:=aj k ab;omega⟩
theorem rT.step {l:List kb} (h:rT l) {x:kb} (hx:x∈l):Fn Tryz.prog 9 [ic (cv x)] [] [] (ic (cv x)) []:=an3 (cv x) (by have:=h.ks x hx;omega)
theorem gV.Gu {w w':cc} {s:dB} {e:Int} (ab:s.kd=3\/(5<=s.kd/\s.kd<=7)) (Z:ot w.bR=false) (h:gV w s e w'):e=143/\w'=w:=by
 have H6:w.bR≠ .no:=fun h=>by rw[h] at Z;cases Z
 cases h with
 |busy h Z=>exact⟨rfl,rfl⟩
 |over h Z aF=>exact absurd Z H6
 |merge h Z aF=>exact absurd Z H6
 |pull h Z aF=>exact absurd Z H6
 |push h Z aF=>exact absurd Z H6
 |_=>omega
abbrev H7 (w:cc):aw:=k0 w.z w.U w.L w.es w.M w.a8 w.db w.lb (DN w.bR) (qL w.b w.bR) (wO w.b w.bR) (wP w.b w.bR) w.bI
theorem Xl (w:cc):Fn Tryz.prog 11 [ap 1401] (H7 w) [] (bU w.a8) (H7 w):=Wq
theorem Xm (w:cc):Fn Tryz.prog 12 [ap 1401] (H7 w) [] (ap 1001) (H7 w):=amJ
theorem aox {o:kb} (h:q8 iL o):(cv o).l<=9223372036854775807:=by
 have G:(Lit.int .i64 (cv o).l).wf=true:=h.2.2.1;have aj:(decide (IntKind.i64.min<=(cv o).l)&&decide ((cv o).l<=IntKind.i64.max))=true:=G;simp only[vj] at aj;exact gd aj.2
theorem aoy {l:List kb} (h:q8 (.b7 iL) l): ∀o,o∈l->(cv o).l<=9223372036854775807:=fun o ah=>aox (h o ah)
end
section
structure p0 (w w':cc):Prop where
 bi:w'.z=w.z
 mI:w'.U=w.U
 aQ:cO w'.L w'.a8=cO w.L w.a8
theorem p0.refl (w:cc):p0 w w:=⟨rfl,rfl,rfl⟩
theorem p0.yM (w:cc) (a aZ:Int) (r:o2) (al:kR w.L w.a8 r.L):p0 w (ix w a aZ r):=by
 unfold ix
 split
 .exact⟨rfl,rfl,(al.aQ w.a8).1⟩
 .exact⟨rfl,rfl,(al.aQ w.a8).1⟩
theorem p0.wV {w w':cc} {Q:List bL} {e:Int} (h:vq w Q e w'):p0 w w':=by
 rw[DX h];exact⟨rfl,rfl,rfl⟩
theorem gV.d' {w w':cc} (aD:fJ w) {s:dB} {e:Int} (aF:gV w s e w'):p0 w w':=by
 cases aF with
 |write h=>exact p0.yM w _ _ _ (Ag aD.cs _ _ _)
 |zero h=>exact p0.yM w _ _ _ (Gm aD.cs _ _ _)
 |NS h az=>exact p0.yM w _ _ _ (x6 aD.cs _ _ _)
 |over h Z aF=>
  obtain⟨p,eE,V,⟨av,rfl⟩ |⟨av,rfl⟩⟩:=aF
  .obtain⟨b4,_,cg⟩:=H3.1 (V.symm.trans av);refine⟨rfl,rfl,?_⟩;show cO (hY w.z w.U w.L s.nm ((ew w:Nat):Int) w.a8 p).L s.nm=_;rw[cg];have J:=CP (L:=w.L) (nm:=s.nm) (back:=w.a8) (ad:=p.1) (am:=p.2) (im:=hv w.z ((ew w:Nat):Int).toNat w.U) s.nm;rw[b4,if_pos rfl] at J;unfold cO;rw[J];exact as4
  .rw[H3.2 (fun h=>av (V.trans h))];exact p0.refl w
 |merge h Z aF=>obtain⟨_,⟨_,b,rfl⟩ |⟨_,rfl⟩⟩:=aF <;>exact⟨rfl,rfl,rfl⟩
 |pull h Z aF=>obtain⟨_,⟨_,b,rfl⟩ |⟨_,rfl⟩⟩:=aF <;>exact⟨rfl,rfl,rfl⟩
 |push h Z aF=>
  rcases aF with⟨_,_,rfl⟩ |⟨hn,⟨_,⟨_,_,rfl⟩ |⟨_,_,b,rfl⟩⟩ |⟨_,_,_,rfl⟩ |⟨_,x,hx,⟨_,_,rfl⟩ |⟨_,⟨_,_,rfl⟩ |⟨_,_,b,kE,rfl⟩⟩⟩⟩ <;>exact⟨rfl,rfl,rfl⟩
 | @H0 h top base l Z=>
  obtain⟨t,al⟩:=WV aD.cs top base l false;exact⟨rfl,rfl,(al.aQ w.a8).1⟩
 | @H1 h top base Z=>exact⟨rfl,rfl,((WU aD.cs top base false).2 w.a8).1⟩
 | @H2 h nm n rm l g Z e w' aF=>
  rcases aF with⟨rfl,t,aF,rfl⟩ |⟨al,rfl,rfl⟩ <;>exact⟨rfl,rfl,rfl⟩
 |drop h aF=>
  rcases aF with⟨_,_,rfl⟩ |⟨_,H⟩
  .exact p0.refl _
  .exact p0.wV H
 |_=>exact⟨rfl,rfl,rfl⟩
end
section
abbrev N5 (l:List kb) (k:Nat):aY:=[(1,bS iL l),(2,ap 2),(5,ap 1401),(37,bS iL l),(38,ac (l.length:Nat)),(39,ac (k:Nat))]
abbrev aoz (l:List kb) (k:Nat) (a:ay4) (j:Nat):aY:=[(1,bS iL l),(2,ap 2),(5,ap 1401),(37,bS iL l),(38,ac (l.length:Nat)),(39,ac (k:Nat)),(10,bU a),(11,ac (j:Nat))]
abbrev AX (x y aC:Int) (w:cc):aw:=cP w++[(2,.cells (H4 x y aC))]
theorem aoA (x y aC:Int) (l:List kb) (al:rT l):Fn Tryz.prog 4 [N0 x y aC,bS iL l] [] [] (fK true) []:=by
 have ha:=aot;have hf:=al.sP x y aC;have mK:=al.len
 cases az:j6 x y aC with
 |false=>
  have hn:=aov x y aC az;refine aU [] Tryz.func4 ?_;exact⟨rfl,ar hn <| e5 <| ar ha bg⟩
 |true=>
  have wb:=az;simp only[j6,vj,ar5] at wb;obtain⟨⟨⟨Qj,Qk⟩,N3,r9⟩,gQ,he⟩:=wb;obtain⟨z,rfl⟩:=Int.eq_ofNat_of_zero_le gQ;obtain⟨U,rfl⟩:=Int.eq_ofNat_of_zero_le N3;have hn:=W0 z U y (by simp only[j6,vj,ar5];omega) az;refine aU [1,2,7,8,11] Tryz.func4 ?_;refine⟨rfl,bt.iC eX au8 <| lF hn fun q=>?_⟩;obtain⟨p,eE⟩:=q;refine bt.eY (de.mark 4001 4009 rfl au6) fun db=>?_
  refine bt.le (ae.trans (ae.vr 1401 3 4001 4009 db rfl rfl rfl) (ae.trans (ae.vs 4001 4009 db rfl rfl) (ae.trans (ae.q' 1101 rfl) (ae.put 1101 4001 au6 rfl rfl)))) <| bt.eY (de.mark 3001 3009 rfl au6) fun lb=>bt.le (ae.trans (ae.vr 1401 5 3001 3009 lb rfl rfl rfl) (ae.trans (ae.vs 3001 3009 lb rfl rfl) (ae.trans (ae.q' 1301 rfl) (ae.put 1301 3001 au6 rfl rfl)))) <| bt.le (ae.trans (ae.vo 1401 8 rfl rfl) (ae.trans (ae.vo 1401 9 rfl rfl) (ae.trans (ae.vo 1401 16 rfl rfl) (ae.trans (ae.q' 1601 rfl) (ae.Wh 1501 1001 rfl au6))))) ?_
  have av:=Xc az eE db lb;have aoB:=aok az p
  cases bh:sX y l with
  |false=>
   rw[bh] at hf;exact bz [] (cH [(1,bS iL l),(2,ap 2),(5,ap 1401),(6,ac 0)] (AX z y U (gh z U y p db lb))) <| df <| ar hf <| e5 <| ar ha bg
  |true=>
   rw[bh] at hf;refine bz [7,8,11] (cH [(1,bS iL l),(2,ap 2),(5,ap 1401),(6,ac 0)] (AX z y U (gh z U y p db lb))) <| df <| ar hf <| df ?_;refine dQ [7,8,11] (X:=Nat×cc) (fun g=>N5 l g.1) (fun g=>AX z y U g.2) (fun g=>g.1<=l.length/\fJ g.2/\g.2.z=z/\((cO g.2.L g.2.a8:Nat):Int)=y) (fun g=>l.length - g.1) (0,gh z U y p db lb) ⟨ap7 _,av,rfl,by show((cO (sW z U y p) e8:Nat):Int)=y;rw[aoB];omega⟩ ?_ ?_
   .exact ae.sub aA aA
   rintro⟨k,w⟩ ⟨ab,aD,xj,cM⟩;have ab:k<=l.length:=ab;have aD:fJ w:=aD;have xj:w.z=z:=xj;have cM:((cO w.L w.a8:Nat):Int)=y:=cM;refine⟨fun h=>?_,fun h=>?_⟩
   .have cm:k < l.length:=by
     have h:decide ((k:Int) < (l.length:Int))=true:=h;simpa using h
    refine⟨au5,l[k],jv (n:=k) cm,?_⟩;have k5:=ar3 cm;generalize l[k]=o at k5;have ez:=al.step k5;have aoC:=NT w aD (cv o) (al.aow bh k5);refine⟨rfl,bt.iC eX au8 <| lF ez.x fun _=>lF aoC fun g=>?_⟩;obtain⟨⟨e,w'⟩,aF⟩:=g;have tV:fJ w':=aD.step aF;have AY:p0 w w':=gV.d' aD aF;obtain⟨d,J⟩:=as7.1 tV.kd;have aq:=tV.cs.tohW.M (cV J).1;refine bz [11] (cH (N5 l k) (AX z y U w')) <| ar (Xm w') <| ar (Xl w') <| ar ((jd _ _ w'.L tV.cs.tohW w'.a8 d J).ch) ?_;have ox:d.im.t.length=cO w'.L w'.a8:=ax8
    have oK:((d.im.t.length:Nat):Int)=y:=by rw[ox,AY.aQ];exact cM
    have uV:d.im.z=z:=((tV.cs.g4 d (cV J).1).2.1).trans (AY.bi.trans xj);refine⟨fun _ _=>ar (Nz (hy (mL d.im) aq rfl rfl rfl rfl)) ?_,fun h=>av5⟩;refine⟨fun h=>absurd h (by rw[oK];simp),fun _=>ar (Nz (hy (uT d.im) aq rfl rfl rfl rfl)) ⟨eB au8,?_⟩⟩;refine⟨fun h=>absurd h (by rw[uV];simp),fun _=>bz [] (cH (N5 l k) (AX z y U w')) <| ar (Xl w') ?_⟩;show bt _ _ _ _ _ _ _;obtain⟨aoD,apI,HS⟩:=tV.cs.rv d (cV J).1;rw[(cV J).2] at HS;refine dQ [] (X:=Nat×ay4) (fun g=>aoz l k g.2 g.1) (fun _=>AX z y U w') (fun g=>g.1<=9/\(g.2=[]\/ ∃j,g.1+j<=8/\eC w'.L g.2 j/\(dk w'.L g.2).isSome=true)) (fun g=>9 - g.1) (0,w'.a8) ⟨ap7 _,.inr ⟨aoD,au5,HS,tV.kd⟩⟩ ?_ ?_
    .exact ae.sub aA aA
    rintro⟨i,a⟩ ⟨aH,ek⟩;have aH:i<=9:=aH;have ek:a=[]\/ ∃j,i+j<=8/\eC w'.L a j/\(dk w'.L a).isSome=true:=ek
    have key:a≠[]-> ∃d,dk w'.L a=some d/\i<=8/\(d.back=[]\/ ∃j,i+1+j<=8/\eC w'.L d.back j/\(dk w'.L d.back).isSome=true):=fun a2=>by
     rcases ek with h |⟨j,E,G,aj⟩
     .exact absurd h a2
     .obtain⟨e,V⟩:=as7.1 aj;refine⟨e,V,au5,?_⟩
      cases G with
      |gone h=>rw[h] at V;cases V
      |base h O=>rw[h] at V;injection V with V;exact .inl (V▸O)
      |step h O ax=>
       rw[h] at V;injection V with V
       subst V;obtain⟨ao,gn⟩:=tV.cs.h7 _ (cV h).1 O;exact .inr ⟨_,au5,ax,by rw[gn];rfl⟩
    refine⟨fun cC=>?_,fun cC=>?_⟩
    .have cC:i<=8:=by have:=gd cC;omega
     refine⟨fun cG=>?_,fun cG=>?_⟩
     .have a2:a≠[]:=by
       have cG:(!decide (a=[]))=true:=cG;simpa using cG
      obtain⟨iB,jW,_,sD⟩:=key a2;refine ar (Xm w') <| ar ((RV _ _ w'.L tV.cs.tohW a iB jW).ch) <| df ?_;refine⟨au5,(i+1,iB.back),⟨by show i+1<=9;omega,sD⟩,by show 9 - (i+1) < 9 - i;omega,ae.sub aA aA⟩
     .have r3:a=[]:=by
       have cG:(!decide (a=[]))=false:=cG;simpa using cG
      refine⟨fun h=>absurd (show(!decide (a=[]))=true from h) (by simp[r3]),fun _=>?_⟩;refine⟨au5,(k+1,w'),⟨by show k+1<=l.length;omega,tV,AY.bi.trans xj,by show((cO w'.L w'.a8:Nat):Int)=y;rw[AY.aQ];exact cM⟩,by show l.length - (k+1) < l.length - k;omega,ae.sub aA aA⟩
    .have cC: ¬i<=8:=by have:=mu cC;omega
     have r3:a=[]:=by
      by_cases a2:a=[]
      .exact a2
      .obtain⟨_,_,iA,_⟩:=key a2;exact absurd iA cC
     refine⟨fun h=>absurd (show(!decide (a=[]))=true from h) (by simp[r3]),fun _=>?_⟩;refine⟨au5,(k+1,w'),⟨by show k+1<=l.length;omega,tV,AY.bi.trans xj,by show((cO w'.L w'.a8:Nat):Int)=y;rw[AY.aQ];exact cM⟩,by show l.length - (k+1) < l.length - k;omega,ae.sub aA aA⟩
   .exact ar ha bg
end
end Go.Proofs.YthnboghbhgapcaaGreat
