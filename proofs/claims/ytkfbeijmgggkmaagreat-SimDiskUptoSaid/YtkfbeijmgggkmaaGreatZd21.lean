/-
A part of the proof of this claim: lemmas, with no condition beyond what each says.
-/
import Derived.Test.YtkfbeijmgggkmaaGreatZd20
set_option linter.unusedVariables false
set_option linter.unusedSimpArgs false
set_option maxRecDepth 10000
set_option maxHeartbeats 4000000
namespace Go.Proofs.YtkfbeijmgggkmaaGreat
open Go.RowKit Go.Proofs
section
theorem aoG (w:b0) (s:dE) (V:w.bM= .no):Fn Tryz.prog 42 [aq 1401,iq s] (cQ w) [] (ab 1) (cQ w):=by
 have b6:qW w.b w.bM= .nilIface:=by rw[V];rfl
 refine aU [] Tryz.func42 ?_;refine⟨rfl,_,_,fun N=>RB rfl Tryz.underlying73 (by exact congrArg (fun v=>aP.c (.one (.bJ v))) b6) N,rfl,?_⟩;exact bg
theorem aoH (w:b0) (s:dE) (V:po w.bM=false):Fn Tryz.prog 42 [aq 1401,iq s] (cQ w) [] (ab 0) (cQ {w with bM:=.no}):=by
 obtain⟨z,R,L,aR,db,ds,es,M,lb,Q,b,bM,bH⟩:=w
 cases bM with
 |no=>cases V
 |de top base l over=>
  refine aU [5] Tryz.func42 ?_;refine⟨rfl,_,_,fun N=>pG rfl Tryz.underlying73 rfl N,rfl,?_⟩;refine⟨_,_,fun N=>kg rfl rfl rfl rfl ay7 Tryz.underlying74 (anP (z:=z) (R:=R) (L:=L) (top:=top) (base:=base) (l:=l) (over:=over) (b:=b)) az7 rfl N,rfl,?_⟩;exact av (ua (z:=z) (R:=R) (L:=L) (aR:=aR) (db:=db) (lb:=lb) (m:=bH) (es:=es) (M:=M)) <| bu [] (ac.qV 1501 1001 rfl) bg
 |pl top base over=>
  refine aU [5] Tryz.func42 ?_;refine⟨rfl,_,_,fun N=>pG rfl Tryz.underlying73 rfl N,rfl,?_⟩;refine⟨_,_,fun N=>kg rfl rfl rfl rfl ay7 Tryz.underlying136 (anS (z:=z) (R:=R) (L:=L) (top:=top) (base:=base) (over:=over) (b:=b)) az7 rfl N,rfl,?_⟩;exact av (ua (z:=z) (R:=R) (L:=L) (aR:=aR) (db:=db) (lb:=lb) (m:=bH) (es:=es) (M:=M)) <| bu [] (ac.qV 1501 1001 rfl) bg
 |pu nm n rm l g over done=>
  refine aU [5] Tryz.func42 ?_;refine⟨rfl,_,_,fun N=>pG rfl Tryz.underlying73 rfl N,rfl,?_⟩;refine⟨_,_,fun N=>kg rfl rfl rfl rfl ay7 Tryz.underlying75 (anU (z:=z) (R:=R) (L:=L) (nm:=nm) (n:=n) (rm:=rm) (l:=l) (g:=g) (over:=over) (done:=done) (b:=b)) az7 rfl N,rfl,?_⟩;exact av (ua (z:=z) (R:=R) (L:=L) (aR:=aR) (db:=db) (lb:=lb) (m:=bH) (es:=es) (M:=M)) <| bu [] (ac.qV 1501 1001 rfl) bg
theorem aoI (w:b0) {top base:aC3} {l:aC4} {over:Bool} (V:w.bM= .de top base l over) (a8:lz w.z w.R w.L top l) (s:dE):Fn Tryz.prog 41 [aq 1401,iq s] (cQ w) [] (ab (ff w.z w.L top base l over).e) (cQ {w with L:=(ff w.z w.L top base l over).L,bM:=if(ff w.z w.L top base l over).over=true then .no else .de top base (ff w.z w.L top base l over).l (ff w.z w.L top base l over).over}):=by
 obtain⟨z,R,L,aR,db,ds,es,M,lb,Q,b,bM,bH⟩:=w;simp only at V;subst V;have aw:=anO (b:=b) (base:=base) (over:=over) a8;simp only at aw⊢;generalize ff z L top base l over=r at aw⊢;have go: ∀fB,Fn Tryz.prog 80 [aq 1401] (l0 z R r.L es M aR db lb 1 fB (some b) none bH) [] gO (l0 z R r.L es M aR db lb 0 .nilIface none none bH):=fun fB=>ua
 cases r with
 |mk tQ e L' gU Bl=>
 simp only at aw⊢
 cases Bl with
 |true=>
  by_cases U:e=0
  .refine aU [8] Tryz.func41 ?_;refine⟨rfl,_,_,fun N=>pG rfl Tryz.underlying73 rfl N,rfl,?_⟩;refine⟨_,_,fun N=>kg rfl rfl rfl rfl ay7 Tryz.underlying74 aw az7 rfl N,rfl,?_⟩;refine⟨fun _=>⟨fun _ h=>az4,fun _=>⟨_,_,fun N=>kg rfl rfl rfl rfl ay7 Tryz.underlying74 (Io (z:=z) (R:=R) (L:=L') (top:=top) (base:=base) (l:=gU) (over:=true) (b:=b)) az7 rfl N,rfl,?_⟩⟩,fun h=>absurd h aB8⟩;exact⟨fun _=>av (go _) <| bu [] (ac.qV 1501 1001 rfl) bg,fun h=>az4⟩
  .refine aU [8] Tryz.func41 ?_;refine⟨rfl,_,_,fun N=>pG rfl Tryz.underlying73 rfl N,rfl,?_⟩;refine⟨_,_,fun N=>kg rfl rfl rfl rfl ay7 Tryz.underlying74 aw az7 rfl N,rfl,?_⟩;refine⟨fun h=>absurd (gd h) U,fun _=>⟨_,_,fun N=>kg rfl rfl rfl rfl ay7 Tryz.underlying74 (Io (z:=z) (R:=R) (L:=L') (top:=top) (base:=base) (l:=gU) (over:=true) (b:=b)) az7 rfl N,rfl,?_⟩⟩;exact⟨fun _=>av (go _) <| bu [] (ac.qV 1501 1001 rfl) bg,fun h=>az4⟩
 |false=>
  by_cases U:e=0
  .refine aU [] Tryz.func41 ?_;refine⟨rfl,_,_,fun N=>pG rfl Tryz.underlying73 rfl N,rfl,?_⟩;refine⟨_,_,fun N=>kg rfl rfl rfl rfl ay7 Tryz.underlying74 aw az7 rfl N,rfl,?_⟩;refine⟨fun _=>⟨fun _ h=>az4,fun _=>⟨_,_,fun N=>kg rfl rfl rfl rfl ay7 Tryz.underlying74 (Io (z:=z) (R:=R) (L:=L') (top:=top) (base:=base) (l:=gU) (over:=false) (b:=b)) az7 rfl N,rfl,?_⟩⟩,fun h=>absurd h aB8⟩;exact⟨fun h=>az4,fun _=>bg⟩
  .refine aU [] Tryz.func41 ?_;refine⟨rfl,_,_,fun N=>pG rfl Tryz.underlying73 rfl N,rfl,?_⟩;refine⟨_,_,fun N=>kg rfl rfl rfl rfl ay7 Tryz.underlying74 aw az7 rfl N,rfl,?_⟩;refine⟨fun h=>absurd (gd h) U,fun _=>⟨_,_,fun N=>kg rfl rfl rfl rfl ay7 Tryz.underlying74 (Io (z:=z) (R:=R) (L:=L') (top:=top) (base:=base) (l:=gU) (over:=false) (b:=b)) az7 rfl N,rfl,?_⟩⟩;exact⟨fun h=>az4,fun _=>bg⟩
theorem aoJ (w:b0) {top base:aC3} {over:Bool} (V:w.bM= .pl top base over) (a8:cb w.z w.R w.L) {d:aL} (H:dk w.L top=some d) (s:dE):Fn Tryz.prog 41 [aq 1401,iq s] (cQ w) [] (ab (hS w.z w.L top base over).e) (cQ {w with L:=(hS w.z w.L top base over).L,bM:=if(hS w.z w.L top base over).over=true then .no else .pl top base (hS w.z w.L top base over).over}):=by
 obtain⟨z,R,L,aR,db,ds,es,M,lb,Q,b,bM,bH⟩:=w;simp only at V;subst V;have aw:=anR (b:=b) (base:=base) (over:=over) a8 H;simp only at aw⊢;generalize hS z L top base over=r at aw⊢;have go: ∀fB,Fn Tryz.prog 80 [aq 1401] (l0 z R r.L es M aR db lb 2 fB none none bH) [] gO (l0 z R r.L es M aR db lb 0 .nilIface none none bH):=fun fB=>ua
 cases r with
 |mk tQ e L' Bl=>
 simp only at aw⊢
 cases Bl with
 |true=>
  by_cases U:e=0
  .refine aU [8] Tryz.func41 ?_;refine⟨rfl,_,_,fun N=>pG rfl Tryz.underlying73 rfl N,rfl,?_⟩;refine⟨_,_,fun N=>kg rfl rfl rfl rfl ay7 Tryz.underlying136 aw az7 rfl N,rfl,?_⟩;refine⟨fun _=>⟨fun _ h=>az4,fun _=>⟨_,_,fun N=>kg rfl rfl rfl rfl ay7 Tryz.underlying136 (Ip (z:=z) (R:=R) (L:=L') (top:=top) (base:=base) (over:=true) (b:=b)) az7 rfl N,rfl,?_⟩⟩,fun h=>absurd h aB8⟩;exact⟨fun _=>av (go _) <| bu [] (ac.qV 1501 1001 rfl) bg,fun h=>az4⟩
  .refine aU [8] Tryz.func41 ?_;refine⟨rfl,_,_,fun N=>pG rfl Tryz.underlying73 rfl N,rfl,?_⟩;refine⟨_,_,fun N=>kg rfl rfl rfl rfl ay7 Tryz.underlying136 aw az7 rfl N,rfl,?_⟩;refine⟨fun h=>absurd (gd h) U,fun _=>⟨_,_,fun N=>kg rfl rfl rfl rfl ay7 Tryz.underlying136 (Ip (z:=z) (R:=R) (L:=L') (top:=top) (base:=base) (over:=true) (b:=b)) az7 rfl N,rfl,?_⟩⟩;exact⟨fun _=>av (go _) <| bu [] (ac.qV 1501 1001 rfl) bg,fun h=>az4⟩
 |false=>
  by_cases U:e=0
  .refine aU [] Tryz.func41 ?_;refine⟨rfl,_,_,fun N=>pG rfl Tryz.underlying73 rfl N,rfl,?_⟩;refine⟨_,_,fun N=>kg rfl rfl rfl rfl ay7 Tryz.underlying136 aw az7 rfl N,rfl,?_⟩;refine⟨fun _=>⟨fun _ h=>az4,fun _=>⟨_,_,fun N=>kg rfl rfl rfl rfl ay7 Tryz.underlying136 (Ip (z:=z) (R:=R) (L:=L') (top:=top) (base:=base) (over:=false) (b:=b)) az7 rfl N,rfl,?_⟩⟩,fun h=>absurd h aB8⟩;exact⟨fun h=>az4,fun _=>bg⟩
  .refine aU [] Tryz.func41 ?_;refine⟨rfl,_,_,fun N=>pG rfl Tryz.underlying73 rfl N,rfl,?_⟩;refine⟨_,_,fun N=>kg rfl rfl rfl rfl ay7 Tryz.underlying136 aw az7 rfl N,rfl,?_⟩;refine⟨fun h=>absurd (gd h) U,fun _=>⟨_,_,fun N=>kg rfl rfl rfl rfl ay7 Tryz.underlying136 (Ip (z:=z) (R:=R) (L:=L') (top:=top) (base:=base) (over:=false) (b:=b)) az7 rfl N,rfl,?_⟩⟩;exact⟨fun h=>az4,fun _=>bg⟩
def Iy (w:b0) (nm:aC3) (n rm:Int) (l:aC4) (g:List (Nat×aC3)) (e:Int) (w':b0):Prop:=
 (l=[]/\ ∃t:Iw,vK {w with bM:=.pu nm n rm [] g true true} g e (Bk {w with bM:=.pu nm n rm [] g true true} g t)/\w'={Bk w g t with bM:=.no})\/
 (l≠[]/\e=(ez w.z w.L nm rm l g (eN l)).e/\w'={w with bM:=if(ez w.z w.L nm rm l g (eN l)).over=true then .no else .pu nm n rm (ez w.z w.L nm rm l g (eN l)).l (ez w.z w.L nm rm l g (eN l)).g false false})
theorem aoK (w:b0) (ap:lE w) {nm:aC3} {n rm:Int} {l:aC4} {g:List (Nat×aC3)} (V:w.bM= .pu nm n rm l g false false) (ai:ga w.z w.R w.L nm l g) (qq:gY (ep w.bH.f4)=true) (s:dE):
  cx Tryz.prog 41 [aq 1401,iq s] (cQ w) [] (X:=m8 (Iy w nm n rm l g)) (fun p=>ab p.1.1) (fun p=>cQ p.1.2):=by
 have aw:=anT (b:=w.b) (n:=n) (rm:=rm) (over:=false) (done:=false) ai
 by_cases ak:l=[]
 .have U:ka w.z w.L nm rm l g false false=⟨true,0,[],g,true,true⟩:=by unfold ka;rw[if_neg ay5,if_pos ak]
  rw[U] at aw;simp only at aw;have DY:=aoA {w with bM:=.pu nm n rm [] g true true} ⟨ap.cs,ap.kd,ap.ds,ap.ea,ap.q,ap.nJ,ap.eo⟩ rfl ai.nil qq;obtain⟨z,R,L,aR,db,ds,es,M,lb,Q,b,bM,bH⟩:=w;simp only at V;subst V;refine hO [5,6,8] Tryz.func41 ?_;refine⟨rfl,_,_,fun N=>pG rfl Tryz.underlying73 rfl N,rfl,?_⟩;refine⟨_,_,fun N=>kg rfl rfl rfl rfl ay7 Tryz.underlying75 aw az7 rfl N,rfl,?_⟩;refine fb ⟨fun _ _=>av (Xc (z:=z) (R:=R) (L:=L) (nm:=nm) (n:=n) (rm:=rm) (l:=[]) (g:=g) (over:=true) (done:=true) (b:=b)) ⟨fun _=>bw.iL e3 ay7 ⟨_,_,_,fun g=>_,fun g=>_,DY,aC,rfl,fun _=>rfl,fun x=>?_⟩,fun h=>az4⟩,fun h=>az4⟩;obtain⟨⟨ae,t⟩,hx⟩:=x;refine bu [8] (br) ⟨_,_,fun N=>kg rfl rfl rfl rfl ay7 Tryz.underlying75 (Ov (z:=z) (R:=R) (L:=L) (nm:=nm) (n:=n) (rm:=rm) (l:=[]) (g:=g) (over:=true) (done:=true) (b:=b)) az7 rfl N,rfl,?_⟩;exact⟨fun _=>av (ua (z:=z) (R:=R) (L:=L) (aR:=aR) (db:=db) (lb:=t.2.2.2.1) (m:=p9 bH g) (es:=t.2.1) (M:=t.2.2.1)) <| bu [] (ac.qV 1501 1001 rfl) ⟨⟨(ae,⟨z,R,L,aR,db,t.1,t.2.1,t.2.2.1,t.2.2.2.1,t.2.2.2.2,b,.no,p9 bH g⟩),.inl ⟨ak,t,hx,Eq.refl _⟩⟩,_,_,_,br,rfl,rfl,aC,rfl⟩,fun h=>az4⟩
 .have U:ka w.z w.L nm rm l g false false=⟨false,(ez w.z w.L nm rm l g (eN l)).e,(ez w.z w.L nm rm l g (eN l)).l,(ez w.z w.L nm rm l g (eN l)).g,(ez w.z w.L nm rm l g (eN l)).over,false⟩:=by unfold ka;rw[if_neg ay5,if_neg ak]
  rw[U] at aw
  have Em:(ez w.z w.L nm rm l g (eN l)).over=decide ((ez w.z w.L nm rm l g (eN l)).e≠0):=by
   unfold ez
   split <;>rfl
  have g': ∀W:b0,W={w with bM:=if(ez w.z w.L nm rm l g (eN l)).over=true then .no else .pu nm n rm (ez w.z w.L nm rm l g (eN l)).l (ez w.z w.L nm rm l g (eN l)).g false false}->Iy w nm n rm l g (ez w.z w.L nm rm l g (eN l)).e W:=fun W h=>.inr ⟨ak,Eq.refl _,h⟩
  obtain⟨z,R,L,aR,db,ds,es,M,lb,Q,b,bM,bH⟩:=w;simp only at V aw Em g';subst V;generalize ez z L nm rm l g (eN l)=r at aw Em g';obtain⟨e,gU,g2,Bl⟩:=r;simp only at aw Em g'
  by_cases Iz:e=0
  .obtain rfl:Bl=false:=by rw[Em];simp[Iz]
   refine hO [] Tryz.func41 ?_;refine⟨rfl,_,_,fun N=>pG rfl Tryz.underlying73 rfl N,rfl,?_⟩;refine⟨_,_,fun N=>kg rfl rfl rfl rfl ay7 Tryz.underlying75 aw az7 rfl N,rfl,?_⟩;refine⟨fun _=>⟨fun _ _=>av (Xc (z:=z) (R:=R) (L:=L) (nm:=nm) (n:=n) (rm:=rm) (l:=gU) (g:=g2) (over:=false) (done:=false) (b:=b)) ⟨fun h=>az4,fun _=>⟨_,_,fun N=>kg rfl rfl rfl rfl ay7 Tryz.underlying75 (Ov (z:=z) (R:=R) (L:=L) (nm:=nm) (n:=n) (rm:=rm) (l:=gU) (g:=g2) (over:=false) (done:=false) (b:=b)) az7 rfl N,rfl,?_⟩⟩,fun h=>az4⟩,fun h=>absurd Iz (mu h)⟩;exact⟨fun h=>az4,fun _=>⟨⟨(e,⟨z,R,L,aR,db,ds,es,M,lb,Q,b,.pu nm n rm gU g2 false false,bH⟩),g' _ (Eq.refl _)⟩,_,_,_,br,rfl,rfl,aC,rfl⟩⟩
  .obtain rfl:Bl=true:=by rw[Em];simp[Iz]
   refine hO [8] Tryz.func41 ?_;refine⟨rfl,_,_,fun N=>pG rfl Tryz.underlying73 rfl N,rfl,?_⟩;refine⟨_,_,fun N=>kg rfl rfl rfl rfl ay7 Tryz.underlying75 aw az7 rfl N,rfl,?_⟩;refine⟨fun h=>absurd (gd h) Iz,fun _=>⟨_,_,fun N=>kg rfl rfl rfl rfl ay7 Tryz.underlying75 (Ov (z:=z) (R:=R) (L:=L) (nm:=nm) (n:=n) (rm:=rm) (l:=gU) (g:=g2) (over:=true) (done:=false) (b:=b)) az7 rfl N,rfl,?_⟩⟩;exact⟨fun _=>av (ua (z:=z) (R:=R) (L:=L) (aR:=aR) (db:=db) (lb:=lb) (m:=bH) (es:=es) (M:=M)) <| bu [] (ac.qV 1501 1001 rfl) ⟨⟨(e,⟨z,R,L,aR,db,ds,es,M,lb,Q,b,.no,bH⟩),g' _ (Eq.refl _)⟩,_,_,_,br,rfl,rfl,aC,rfl⟩,fun h=>az4⟩
end
section
theorem aoL (w:b0) (s:dE) (V:w.bM= .no):Fn Tryz.prog 41 [aq 1401,iq s] (cQ w) [] (ab 1) (cQ w):=by
 have b6:qW w.b w.bM= .nilIface:=by rw[V];rfl
 refine aU [] Tryz.func41 ?_;refine⟨rfl,_,_,fun N=>RB rfl Tryz.underlying73 (by exact congrArg (fun v=>aP.c (.one (.bJ v))) b6) N,rfl,?_⟩;exact bg
theorem aoM {es:gb} {M:ee} {Q:List bW} (hf:my es M Q) (aT:qY Q):
  Fn Tryz.prog 83 [aq 1201] [p7 es M] [3001,3002] (.ci [.one (.ptr 3001 0),dz 0]) (p7 es M::lD 3001 3002 Q)\/(Q=[]/\Fn Tryz.prog 83 [aq 1201] [p7 es M] [] (.ci [mP,dz 181]) [p7 es M]):=by
 rcases hf.co with⟨E,G⟩ |⟨a,m,E,G,af,aW⟩
 .exact .inr ⟨G,Fn.close (c:=1201) (bp:=nF 1201 1202 1203 4096 es M) (dG:=nF 1201 1202 1203 4096 es M) (aJ:=[]) (aO:=[]) [1202,1203] (Fn.aV [(1001,1201),(1002,1202),(1003,1203)] (anu 4096 es (L:=M) E)) (fun _ _ _ _ h=>h) (fun _ _ _ _ h=>h) rfl rfl⟩
 .refine .inl ?_;have V:=anf af aW (by have:=OC aT.tonA;have:dv 512=255:=rfl;omega);have ak:=Fn.aV [(1001,1201),(1002,1202),(1003,1203),(2001,3001),(2002,3002)] (anr 4096 es (L:=M) E G af.ok (by rw[af.n];decide) V (OC aT.tonA) aT.Ir (fun b O=>DW aT.tonA O) aT.len);rw[Oe] at ak;exact Fn.close (c:=1201) (bp:=nF 1201 1202 1203 4096 es M) (dG:=nF 1201 1202 1203 4096 es M) (aJ:=[]) (aO:=lD 3001 3002 Q) [1202,1203] ak (fun _ _ _ _ h=>h) (fun _ _ _ _ h=>h) rfl rfl
theorem aoN {es:gb} {M:ee} {Q:List bW} (hf:my es M Q) (ks:List lZ) (aa:ks.length<=1073741824) (hr: ∀k∈ks,(ms k).length<=1073741824):
  Fn Tryz.prog 81 [aq 1201,bQ lY ks] [p7 es M] [] gO [p7 es M]:=by
 have h:=Fn.aV [(1001,1201),(1002,1202),(1003,1203)] (amG 4096 es M 0 ks hf.bx ay5 aa hr);rw[hf.oE ks] at h;exact Fn.close (c:=1201) (bp:=nF 1201 1202 1203 4096 es M) (dG:=nF 1201 1202 1203 4096 es M) (aJ:=[]) (aO:=[]) [1202,1203] h (fun _ _ _ _ h=>h) (fun _ _ _ _ h=>h) rfl rfl
abbrev IA (ds:List bd):=Nat×Nat×{l:List bd//d9 l/\l.map pk=(hU ds).map qN}
abbrev IB (w:b0) (t:IA w.ds):b0:={w with db:=t.1,lb:=t.2.1,ds:=t.2.2.1,bM:=.no}
theorem aoO (w:b0) (ap:eX w) (s:dE) (aa:s.ks.length<=1073741824) (hr: ∀k∈s.ks,(ms k).length<=1073741824):
  cx Tryz.prog 43 [aq 1401,iq s] (cQ w) [] (X:=IA w.ds) (fun _=>ab 0) (fun t=>cQ (IB w t)):=by
 have OL:=aoN ap.nJ s.ks aa hr;have pg:Fn Tryz.prog 25 [dr w.db,.c (.one (.d (.lit false)))] [Oo w] [] (bQ .u8 (qM false w.ds)) [Oo w]:=Fn.arg (Fn.nj (b:=w.db) [1002,1003,1004] 1101 (VU ap.ds false)) aC;have yD:=cx.aV [(1001,4001),(1002,4002),(1003,4003),(1004,4004)] (alY ap.ds fun e U=>(ap.ea e U).1);have Bm:=aoM ap.nJ ap.q;obtain⟨z,R,L,aR,db,ds,es,M,lb,Q,eK,bM,bH⟩:=w;simp only at OL pg yD Bm;rcases Bm with Bm |⟨Cc,Bm⟩
 .refine hO [3,4,8] Tryz.func43 ?_;refine⟨rfl,av (ua (z:=z) (R:=R) (L:=L) (aR:=aR) (db:=db) (lb:=lb) (m:=bH) (es:=es) (M:=M)) <| av OL ⟨eF ay7,bw.iL e3 ay7 <| lP pg.x fun _=>⟨_,_,_,fun g=>_,fun g=>_,yD,trivial,rfl,fun _=>rfl,fun x=>?_⟩⟩⟩;obtain⟨l',qc,qg⟩:=x;refine bw.e4 (di.mark 4001 4009 rfl ay5) fun b=>?_
  exact bw.le (ac.vH 1401 3 4001 4009 b rfl rfl rfl) <| bw.le (ac.close 4001 (kp (eC (ln [(1001,4001),(1002,4002),(1003,4003),(1004,4004)] [])) (eA l')) (o:=r4 l') aC rfl fun I F x p h=>jn.aV [(4001,1001),(4002,1002),(4003,1003),(4004,1004)] h) <| bw.le (ac.trans (ac.vI 4001 4009 b rfl rfl) (ac.put 1101 4001 ay5 rfl rfl)) <| bu [8] (ac.Ea 1101 rfl) <| av Bm <| dt <| bw.e4 (di.mark 3001 3009 rfl ay5) fun b2=>bw.le (ac.vH 1401 5 3001 3009 b2 rfl rfl rfl) <| bw.le (ac.close 3001 (lD 3001 3002 Q) (o:=r5 Q) aC rfl fun I F x p h=>jn.aV [(3001,1001),(3002,1002)] h) <| bw.le (ac.trans (ac.vI 3001 3009 b2 rfl rfl) (ac.put 1301 3001 ay5 rfl rfl)) <| bu [] (ac.trans (ac.Ea 1301 rfl) (ac.qV 1501 1001 rfl)) ⟨(b,b2,⟨l',qc,qg⟩),_,_,_,br,rfl,rfl,aC,rfl⟩
 .subst Cc;refine hO [3,4,8] Tryz.func43 ?_;refine⟨rfl,av (ua (z:=z) (R:=R) (L:=L) (aR:=aR) (db:=db) (lb:=lb) (m:=bH) (es:=es) (M:=M)) <| av OL ⟨eF ay7,bw.iL e3 ay7 <| lP pg.x fun _=>⟨_,_,_,fun g=>_,fun g=>_,yD,trivial,rfl,fun _=>rfl,fun x=>?_⟩⟩⟩;obtain⟨l',qc,qg⟩:=x;refine bw.e4 (di.mark 4001 4009 rfl ay5) fun b=>?_
  exact bw.le (ac.vH 1401 3 4001 4009 b rfl rfl rfl) <| bw.le (ac.close 4001 (kp (eC (ln [(1001,4001),(1002,4002),(1003,4003),(1004,4004)] [])) (eA l')) (o:=r4 l') aC rfl fun I F x p h=>jn.aV [(4001,1001),(4002,1002),(4003,1003),(4004,1004)] h) <| bw.le (ac.trans (ac.vI 4001 4009 b rfl rfl) (ac.put 1101 4001 ay5 rfl rfl)) <| bu [8] (ac.Ea 1101 rfl) <| av Bm <| fb <| av (Fn.aV [(1001,3001),(1002,3002)] M9) <| bw.e4 (di.mark 3001 3009 rfl ay5) fun b2=>bw.le (ac.vH 1401 5 3001 3009 b2 rfl rfl rfl) <| bw.le (ac.close 3001 (lD 3001 3002 []) (o:=r5 []) aC rfl fun I F x p h=>jn.aV [(3001,1001),(3002,1002)] h) <| bw.le (ac.trans (ac.vI 3001 3009 b2 rfl rfl) (ac.put 1301 3001 ay5 rfl rfl)) <| bu [] (ac.trans (ac.Ea 1301 rfl) (ac.qV 1501 1001 rfl)) ⟨(b,b2,⟨l',qc,qg⟩),_,_,_,br,rfl,rfl,aC,rfl⟩
end
section
abbrev jy:aC4:=[33,34,35,36,37,38,39,40,41,42,43,44]
theorem aoP (w:b0) (s:dE) (aa:s.kd < 0\/12<=s.kd):Fn Tryz.prog 12 [aq 1401,iq s] (cQ w) [] (ab 1) (cQ w):=by
 refine aU [1] Tryz.func12 ?_;refine⟨rfl,bw.e4 (di.mark 1401 1409 rfl ay5) fun b=>bu [] (br) ⟨rfl,_,_,fun N=>jQ (m:=1409) (b:=b) rfl rfl rfl N,rfl,?_⟩⟩;refine⟨_,_,fun N=>kC (fs:=jy.take 0) rfl Tryz.underlying87 Tryz.underlying3 rfl rfl rfl rfl (.inl ⟨rfl,rfl⟩) N,rfl,?_⟩;refine⟨_,_,fun N=>jQ (m:=1409) (b:=b) rfl rfl rfl N,rfl,?_⟩;refine⟨_,_,fun N=>kC (fs:=jy.take 1) rfl Tryz.underlying87 Tryz.underlying3 rfl rfl rfl rfl (.inr rfl) N,rfl,?_⟩;refine⟨_,_,fun N=>jQ (m:=1409) (b:=b) rfl rfl rfl N,rfl,?_⟩;refine⟨_,_,fun N=>kC (fs:=jy.take 2) rfl Tryz.underlying87 Tryz.underlying3 rfl rfl rfl rfl (.inr rfl) N,rfl,?_⟩;refine⟨_,_,fun N=>jQ (m:=1409) (b:=b) rfl rfl rfl N,rfl,?_⟩;refine⟨_,_,fun N=>kC (fs:=jy.take 3) rfl Tryz.underlying87 Tryz.underlying3 rfl rfl rfl rfl (.inr rfl) N,rfl,?_⟩;refine⟨_,_,fun N=>jQ (m:=1409) (b:=b) rfl rfl rfl N,rfl,?_⟩;refine⟨_,_,fun N=>kC (fs:=jy.take 4) rfl Tryz.underlying87 Tryz.underlying3 rfl rfl rfl rfl (.inr rfl) N,rfl,?_⟩;refine⟨_,_,fun N=>jQ (m:=1409) (b:=b) rfl rfl rfl N,rfl,?_⟩;refine⟨_,_,fun N=>kC (fs:=jy.take 5) rfl Tryz.underlying87 Tryz.underlying3 rfl rfl rfl rfl (.inr rfl) N,rfl,?_⟩;refine⟨_,_,fun N=>jQ (m:=1409) (b:=b) rfl rfl rfl N,rfl,?_⟩;refine⟨_,_,fun N=>kC (fs:=jy.take 6) rfl Tryz.underlying87 Tryz.underlying3 rfl rfl rfl rfl (.inr rfl) N,rfl,?_⟩;refine⟨_,_,fun N=>jQ (m:=1409) (b:=b) rfl rfl rfl N,rfl,?_⟩;refine⟨_,_,fun N=>kC (fs:=jy.take 7) rfl Tryz.underlying87 Tryz.underlying3 rfl rfl rfl rfl (.inr rfl) N,rfl,?_⟩;refine⟨_,_,fun N=>jQ (m:=1409) (b:=b) rfl rfl rfl N,rfl,?_⟩;refine⟨_,_,fun N=>kC (fs:=jy.take 8) rfl Tryz.underlying87 Tryz.underlying3 rfl rfl rfl rfl (.inr rfl) N,rfl,?_⟩;refine⟨_,_,fun N=>jQ (m:=1409) (b:=b) rfl rfl rfl N,rfl,?_⟩;refine⟨_,_,fun N=>kC (fs:=jy.take 9) rfl Tryz.underlying87 Tryz.underlying3 rfl rfl rfl rfl (.inr rfl) N,rfl,?_⟩;refine⟨_,_,fun N=>jQ (m:=1409) (b:=b) rfl rfl rfl N,rfl,?_⟩;refine⟨_,_,fun N=>kC (fs:=jy.take 10) rfl Tryz.underlying87 Tryz.underlying3 rfl rfl rfl rfl (.inr rfl) N,rfl,?_⟩;refine⟨_,_,fun N=>jQ (m:=1409) (b:=b) rfl rfl rfl N,rfl,?_⟩;refine⟨_,_,fun N=>kC (fs:=jy.take 11) rfl Tryz.underlying87 Tryz.underlying3 rfl rfl rfl rfl (.inr rfl) N,rfl,?_⟩;refine⟨_,_,fun N=>aoE e3 (fs:=jy) rfl Tryz.underlying87 Tryz.underlying3 rfl rfl rfl rfl aa N,rfl,?_⟩;exact bg
theorem r9 (w:b0) (s:dE) {bo:Int->b0->Prop} {k f:Nat} (aa:s.kd=(k:Int)) (hf:jy[k]? =some f) (J:cx Tryz.prog f [aq 1401,iq s] (cQ w) [] (X:=m8 bo) (fun p=>ab p.1.1) (fun p=>cQ p.1.2)):
  cx Tryz.prog 12 [aq 1401,iq s] (cQ w) [] (X:=m8 bo) (fun p=>ab p.1.1) (fun p=>cQ p.1.2):=by
 refine hO [1,5] Tryz.func12 ?_;refine⟨rfl,bw.e4 (di.mark 1401 1409 rfl ay5) fun b=>bu [5] (br) ⟨rfl,_,_,fun N=>jQ (m:=1409) (b:=b) rfl rfl rfl N,rfl,?_⟩⟩;refine⟨_,_,fun N=>kC (fs:=jy.take 0) rfl Tryz.underlying87 Tryz.underlying3 rfl rfl rfl rfl (.inl ⟨rfl,rfl⟩) N,rfl,?_⟩;refine⟨_,_,fun N=>jQ (m:=1409) (b:=b) rfl rfl rfl N,rfl,?_⟩;refine⟨_,_,fun N=>kC (fs:=jy.take 1) rfl Tryz.underlying87 Tryz.underlying3 rfl rfl rfl rfl (.inr rfl) N,rfl,?_⟩;refine⟨_,_,fun N=>jQ (m:=1409) (b:=b) rfl rfl rfl N,rfl,?_⟩;refine⟨_,_,fun N=>kC (fs:=jy.take 2) rfl Tryz.underlying87 Tryz.underlying3 rfl rfl rfl rfl (.inr rfl) N,rfl,?_⟩;refine⟨_,_,fun N=>jQ (m:=1409) (b:=b) rfl rfl rfl N,rfl,?_⟩;refine⟨_,_,fun N=>kC (fs:=jy.take 3) rfl Tryz.underlying87 Tryz.underlying3 rfl rfl rfl rfl (.inr rfl) N,rfl,?_⟩;refine⟨_,_,fun N=>jQ (m:=1409) (b:=b) rfl rfl rfl N,rfl,?_⟩;refine⟨_,_,fun N=>kC (fs:=jy.take 4) rfl Tryz.underlying87 Tryz.underlying3 rfl rfl rfl rfl (.inr rfl) N,rfl,?_⟩;refine⟨_,_,fun N=>jQ (m:=1409) (b:=b) rfl rfl rfl N,rfl,?_⟩;refine⟨_,_,fun N=>kC (fs:=jy.take 5) rfl Tryz.underlying87 Tryz.underlying3 rfl rfl rfl rfl (.inr rfl) N,rfl,?_⟩;refine⟨_,_,fun N=>jQ (m:=1409) (b:=b) rfl rfl rfl N,rfl,?_⟩;refine⟨_,_,fun N=>kC (fs:=jy.take 6) rfl Tryz.underlying87 Tryz.underlying3 rfl rfl rfl rfl (.inr rfl) N,rfl,?_⟩;refine⟨_,_,fun N=>jQ (m:=1409) (b:=b) rfl rfl rfl N,rfl,?_⟩;refine⟨_,_,fun N=>kC (fs:=jy.take 7) rfl Tryz.underlying87 Tryz.underlying3 rfl rfl rfl rfl (.inr rfl) N,rfl,?_⟩;refine⟨_,_,fun N=>jQ (m:=1409) (b:=b) rfl rfl rfl N,rfl,?_⟩;refine⟨_,_,fun N=>kC (fs:=jy.take 8) rfl Tryz.underlying87 Tryz.underlying3 rfl rfl rfl rfl (.inr rfl) N,rfl,?_⟩;refine⟨_,_,fun N=>jQ (m:=1409) (b:=b) rfl rfl rfl N,rfl,?_⟩;refine⟨_,_,fun N=>kC (fs:=jy.take 9) rfl Tryz.underlying87 Tryz.underlying3 rfl rfl rfl rfl (.inr rfl) N,rfl,?_⟩;refine⟨_,_,fun N=>jQ (m:=1409) (b:=b) rfl rfl rfl N,rfl,?_⟩;refine⟨_,_,fun N=>kC (fs:=jy.take 10) rfl Tryz.underlying87 Tryz.underlying3 rfl rfl rfl rfl (.inr rfl) N,rfl,?_⟩;refine⟨_,_,fun N=>jQ (m:=1409) (b:=b) rfl rfl rfl N,rfl,?_⟩;refine⟨_,_,fun N=>kC (fs:=jy.take 11) rfl Tryz.underlying87 Tryz.underlying3 rfl rfl rfl rfl (.inr rfl) N,rfl,?_⟩;refine⟨_,_,fun N=>aoD e3 (fs:=jy) rfl Tryz.underlying87 Tryz.underlying3 rfl rfl rfl rfl hf aa N,rfl,?_⟩;refine bw.iL e3 ay7 ?_;exact⟨_,_,_,fun g=>_,fun g=>_,cx.mk (m:=1409) (b:=b) J rfl (fun _=>rfl),aC,rfl,fun _=>rfl,fun x=>⟨x,_,_,_,br,rfl,rfl,aC,rfl⟩⟩
end
section
theorem cx.Il {P:Program} {f:FuncId} {args:List aP} {aJ:az} {bb:aC4} {X:Type} {res:X->aP} {aO n2:X->az} (h:cx P f args aJ bb res aO) (G: ∀g c,ag (n2 g) c=ag (aO g) c):cx P f args aJ bb res n2:=by
 unfold cx at h⊢;simpa only[G] using h
structure ub (s:dE):Prop where
 b:s.b.length<=1000000
 nm:s.nm.length<=1000000
 l:s.l<=9223372036854775807
 ks:s.ks.length<=1073741824
 aoQ: ∀k∈s.ks,(ms k).length<=1073741824
inductive gJ (w:b0) (s:dE):Int->b0->Prop where
 |Nf (h:s.kd < 0\/12<=s.kd):gJ w s 1 w
 |write (h:s.kd=0):gJ w s (fe w.z w.L w.aR s.a s.b).e (gI w s.a ((s.b.length:Int)/16) (fe w.z w.L w.aR s.a s.b))
 |zero (h:s.kd=1):gJ w s (h7 w.z w.L w.aR s.a s.l).e (gI w s.a s.l (h7 w.z w.L w.aR s.a s.l))
 |Xx (h:s.kd=2) (aA:vF w.bM=true):gJ w s 143 w
 |En (h:s.kd=2) (aA:vF w.bM=false):gJ w s (iQ w.L w.aR s.a s.l).e (gI w s.a s.l (iQ w.L w.aR s.a s.l))
 |busy (h:s.kd=3\/(5<=s.kd/\s.kd<=7)) (V:po w.bM=false):gJ w s 143 w
 |over (h:s.kd=3) (V:w.bM= .no) {e:Int} {w':b0} (ax:Xk w s e w'):gJ w s e w'
 |eW (h:s.kd=4) (l':List bd) (ax:(ot ((ek w*2 ^w.z:Nat):Int) s.a=true/\Ej w.ds s.nm true true ((ek w*2 ^w.z:Nat):Int) s.a [] l')\/(ot ((ek w*2 ^w.z:Nat):Int) s.a=false/\l'=w.ds)):gJ w s (Iu w s) {w with ds:=l'}
 |merge (h:s.kd=5) (V:w.bM= .no) {e:Int} {w':b0} (ax:Xl w e w'):gJ w s e w'
 |pull (h:s.kd=6) (V:w.bM= .no) {e:Int} {w':b0} (ax:Xm w s e w'):gJ w s e w'
 |push (h:s.kd=7) (V:w.bM= .no) {e:Int} {w':b0} (ax:OI w s e w'):gJ w s e w'
 |AL (h:s.kd=8) (V:w.bM= .no):gJ w s 1 w
 |Bn (h:s.kd=8) {top base:aC3} {l:aC4} (V:w.bM= .de top base l false):gJ w s (ff w.z w.L top base l false).e {w with L:=(ff w.z w.L top base l false).L,bM:=if(ff w.z w.L top base l false).over=true then .no else .de top base (ff w.z w.L top base l false).l (ff w.z w.L top base l false).over}
 |Bo (h:s.kd=8) {top base:aC3} (V:w.bM= .pl top base false):gJ w s (hS w.z w.L top base false).e {w with L:=(hS w.z w.L top base false).L,bM:=if(hS w.z w.L top base false).over=true then .no else .pl top base (hS w.z w.L top base false).over}
 |Bp (h:s.kd=8) {nm:aC3} {n rm:Int} {l:aC4} {g:List (Nat×aC3)} (V:w.bM= .pu nm n rm l g false false) {e:Int} {w':b0} (ax:Iy w nm n rm l g e w'):gJ w s e w'
 |Xy (h:s.kd=9) (V:w.bM= .no):gJ w s 1 w
 |OM (h:s.kd=9) (V:po w.bM=false):gJ w s 0 {w with bM:=.no}
 |oE (h:s.kd=10) (t:IA w.ds):gJ w s 0 (IB w t)
 |drop (h:s.kd=11) {e:Int} {w':b0} (ax:Xq w s e w'):gJ w s e w'
theorem cx.lF {P:Program} {f:FuncId} {args:List aP} {aJ:az} {bb:aC4} {bo Eo:Int->b0->Prop} (h:cx P f args aJ bb (X:=m8 bo) (fun p=>ab p.1.1) (fun p=>cQ p.1.2)) (g': ∀e w',bo e w'->Eo e w'):cx P f args aJ bb (X:=m8 Eo) (fun p=>ab p.1.1) (fun p=>cQ p.1.2):=
 h.to (fun p=>⟨p.1,g' _ _ p.2⟩) (fun _=>rfl) (fun _=>rfl)
theorem Fn.lF {P:Program} {f:FuncId} {args:List aP} {aJ:az} {bb:aC4} {Eo:Int->b0->Prop} {e:Int} {w':b0} (h:Fn P f args aJ bb (ab e) (cQ w')) (g':Eo e w'):cx P f args aJ bb (X:=m8 Eo) (fun p=>ab p.1.1) (fun p=>cQ p.1.2):=
 h.x.to (fun _=>⟨(e,w'),g'⟩) (fun _=>rfl) (fun _=>rfl)
theorem uc {j:kX} (h:po j=true):j= .no:=by
 cases j with
 |no=>rfl
 |_=>cases h
theorem ON (w:b0) (ap:eX w) (s:dE) (aw:ub s):cx Tryz.prog 12 [aq 1401,iq s] (cQ w) [] (X:=m8 (gJ w s)) (fun p=>ab p.1.1) (fun p=>cQ p.1.2):=by
 by_cases O:s.kd < 0\/12<=s.kd
 .exact(aoP w s O).lF (.Nf O)
 have J:s.kd=0\/s.kd=1\/s.kd=2\/s.kd=3\/s.kd=4\/s.kd=5\/s.kd=6\/s.kd=7\/s.kd=8\/s.kd=9\/s.kd=10\/s.kd=11:=az2
 rcases J with h |h |h |h |h |h |h |h |h |h |h |h
 .exact r9 w s (k:=0) h rfl ((an4 w ap s aw.b).lF (.write h))
 .exact r9 w s (k:=1) h rfl ((an5 w ap s aw.l).lF (.zero h))
 .refine r9 w s (k:=2) h rfl ?_
  cases aA:vF w.bM with
  |true=>exact(Xi w ap s aw.l ⟨143,w.L⟩ (by rw[aA];rfl) w (by rw[aA];rfl)).lF (.Xx h aA)
  |false=>exact(Xi w ap s aw.l (iQ w.L w.aR s.a s.l) (by rw[aA];rfl) _ (by rw[aA];rfl)).lF (.En h aA)
 .refine r9 w s (k:=3) h rfl ?_
  cases V:po w.bM with
  |false=>exact(an7 w s V).lF (.busy (.inl h) V)
  |true=>exact(an8 w ap s (uc V) aw.nm).lF fun e w' ax=>.over h (uc V) ax
 .refine r9 w s (k:=4) h rfl ?_
  exact((aoe w ap s aw.nm).anG.Il (n2:=fun g=>cQ {w with ds:=g.1}) fun g c=>by
   simp only[cd]
   by_cases E:1001=c
   .subst E;rfl
   .rw[if_neg E,if_neg E]).to (fun g=>⟨(_,_),.eW h g.1 g.2⟩) (fun _=>rfl) (fun _=>rfl)
 .refine r9 w s (k:=5) h rfl ?_
  cases V:po w.bM with
  |false=>exact(an9 w s V).lF (.busy (.inr ay4) V)
  |true=>exact(aob w ap s (uc V)).lF fun e w' ax=>.merge h (uc V) ax
 .refine r9 w s (k:=6) h rfl ?_
  cases V:po w.bM with
  |false=>exact(an' w s V).lF (.busy (.inr ay4) V)
  |true=>exact(aoc w ap s (uc V)).lF fun e w' ax=>.pull h (uc V) ax
 .refine r9 w s (k:=7) h rfl ?_
  cases V:po w.bM with
  |false=>exact(aoa w s V).lF (.busy (.inr ay4) V)
  |true=>exact(aop w ap s (uc V) aw.nm).lF fun e w' ax=>.push h (uc V) ax
 .refine r9 w s (k:=8) h rfl ?_;have hP:=ap.bM
  cases V:w.bM with
  |no=>exact(aoL w s V).lF (.AL h V)
  |de top base l over=>
   rw[V] at hP;obtain⟨rfl,rfl,a8⟩:=hP;exact(aoI w V a8 s).lF (.Bn h V)
  |pl top base over=>
   rw[V] at hP;obtain⟨rfl,rfl⟩:=hP;obtain⟨d,H⟩:=at4.1 ap.kd;exact(aoJ w V ap.cs H s).lF (.Bo h V)
  |pu nm n rm l g over done=>
   rw[V] at hP;obtain⟨rfl,rfl,rfl,_,ai⟩:=hP;exact(aoK w ap.tolE V ai (ap.rQ (by rw[V];rfl)) s).lF fun e w' ax=>.Bp h V ax
 .refine r9 w s (k:=9) h rfl ?_
  cases V:po w.bM with
  |false=>exact(aoH w s V).lF (.OM h V)
  |true=>exact(aoG w s (uc V)).lF (.Xy h (uc V))
 .exact r9 w s (k:=10) h rfl ((aoO w ap s aw.ks aw.aoQ).to (fun t=>⟨(0,IB w t),.oE h t⟩) (fun _=>rfl) (fun _=>rfl))
 .exact r9 w s (k:=11) h rfl ((aoh w ap s).lF fun e w' ax=>.drop h ax)
end
section
theorem Xz (es:List (Z al×Z al)) (f k:Int): ∀n:Nat,iR (sK es f n) k=if f<=k/\k < f+(n:Int) then true else iR es k
 |0=>by
  rw[if_neg ay4];rfl
 |n+1=>by
  have bq:=Xz es f k n;have h:=zV (aI:=al) (aK:=al) rq (f+(n:Int)) (1:Int) (sK es f n);show Dx ((bY (aI:=al) (aK:=al) (dx (aI:=al) (aK:=al) (sK es f n) (f+(n:Int)) (1:Int)) k).getD (cO al))=_
  by_cases e:k=f+(n:Int)
  .rw[e,h.1,if_pos ay4];rfl
  .rw[h.2 k e];refine bq.trans ?_
   by_cases G:f<=k/\k < f+n
   .rw[if_pos G,if_pos ay4]
   .rw[if_neg G,if_neg ay4]
theorem XA {es:List (Z al×Z al)} (U:e5 es) (f k:Int): ∀n:Nat,iR (vk es f n) k=if f<=k/\k < f+(n:Int) then false else iR es k
 |0=>by
  rw[if_neg ay4];rfl
 |n+1=>by
  have bq:=XA U f k n;have h:=CC (aI:=al) (aK:=al) rq (f+(n:Int)) (vk es f n) (Hn U f n);show Dx ((bY (aI:=al) (aK:=al) (gM (aI:=al) (aK:=al) (vk es f n) (f+(n:Int))) k).getD (cO al))=_
  by_cases e:k=f+(n:Int)
  .rw[e,h.1,if_pos ay4];rfl
  .rw[h.2 k e];refine bq.trans ?_
   by_cases G:f<=k/\k < f+n
   .rw[if_pos G,if_pos ay4]
   .rw[if_neg G,if_neg ay4]
theorem kB.set {s g:Int} {es:List (Z al×Z al)} (h:kB s g es) (aw:0<=s/\s<=4096) (aZ:1<=g/\g<=64) (fr bL:Int):kB s g (nw s g es fr bL):=fun aB aN=>by
 by_cases ay:yu s fr bL
 .have e:nw s g es fr bL=sK es (fr/g) ((if bL=0 then 0 else(fr+bL+g - 1)/g) - fr/g).toNat:=if_pos ay;obtain⟨k1,v2,v3,v4⟩:=ay;have dQ:0<=fr/g:=ay1 v2 ay4
  have g8:(if bL=0 then 0 else(fr+bL+g - 1)/g)<=mn s g:=by
   split
   .exact(yB aw aZ).1
   .exact Int.ediv_le_ediv ay4 ay4
  have au:=(yB aw aZ).1;rw[e,Xz] at aN;generalize(if bL=0 then 0 else(fr+bL+g - 1)/g)=q at aN g8
  split at aN
  .omega
  .exact h aB aN
 .have e:nw s g es fr bL=es:=if_neg ay;rw[e] at aN;exact h aB aN
theorem kB.XB {s g:Int} {es:List (Z al×Z al)} (h:kB s g es) (U:e5 es):kB s g (DJ s g es):=fun aB aN=>by
 unfold DJ at aN;rw[XA U] at aN
 split at aN
 .cases aN
 .exact h aB aN
theorem kB.ny {s g:Int} {es:List (Z al×Z al)} (h:kB s g es) (aw:0<=s/\s<=4096) (aZ:1<=g/\g<=64) (l:List dR):kB s g (l.foldl (wR s g) es):=by
 induction l generalizing es with
 |nil=>exact h
 |cons x l bq=>
  refine bq ?_;unfold wR
  split
  .exact h.set aw aZ _ _
  .exact h
theorem kB.de {s g:Int} {es:List (Z al×Z al)} (h:kB s g es) (aw:0<=s/\s<=4096) (aZ:1<=g/\g<=64) (row:List dR):kB s g (AT s g es row):=kB.ny h aw aZ _
theorem kB.nil (s g:Int):kB s g []:=fun aB aN=>by cases aN
theorem vs.of {e b7:bd} (h:vs e) (E:b7.s=e.s) (G:b7.g=e.g) (af:b7.nm=e.nm) (aW:kB e.s e.g b7.es):vs b7:=⟨by rw[E,G];exact h.ok,by rw[E,G];exact aW,by rw[af];exact h.nm⟩
theorem vs.wr {e:bd} (h:vs e) (aw:0<=e.s/\e.s<=4096) (aZ:1<=e.g/\e.g<=64) (a aX:Int):vs (lk a aX e):=h.of rfl rfl rfl (by
 show kB e.s e.g (if e.on=true then nw e.s e.g e.es a aX else e.es)
 split
 .exact h.fW.set aw aZ a aX
 .exact h.fW)
theorem OO {z:Nat} {L:List aL} {nm:aC3} {rm a aX:Int}: ∀(ks l:aC4) (g:List (Nat×aC3)),(lA z L nm rm a aX ks l g).e=0->(lA z L nm rm a aX ks l g).over=false
 | [],l,g=>fun _=>rfl
 |k::ks,l,g=>by
  unfold lA
  split
  .exact OO ks l g
  .split
   .exact OO ks _ _
   .rename_i h;exact fun G=>absurd G h
theorem aoR {z:Nat} {L:List aL} {nm:aC3} {rm a aX:Int} {l:aC4} {g:List (Nat×aC3)} (h:(jR z L nm rm a aX l g false).e=0):(jR z L nm rm a aX l g false).over=false:=by
 unfold jR at h⊢;rw[if_neg ay5] at h⊢
 split at h
 .rename_i J;rw[if_pos J]
 .rename_i J;rw[if_neg J];exact OO _ _ _ h
theorem aoS {z R:Nat} {L:List aL} {aR:aC3} {j:kX} (h:xc z R L aR j) (a aX:Int):xc z R L aR (p8 z L a aX j):=by
 cases j with
 |pu nm n rm l g over done=>
  obtain⟨rfl,rfl,rfl,E,G⟩:=h;unfold p8;simp only
  split
  .rename_i U;exact⟨rfl,aoR U,rfl,E,G.air rm a aX false⟩
  .trivial
 |_=>exact h
theorem xc.rR {z R:Nat} {L L':List aL} {aR t:aC3} {j:kX} (h:xc z R L aR j) (ak:i0 L t L'):xc z R L' aR j:=by
 cases j with
 |no=>trivial
 |de top base l over=>exact⟨h.1,h.2.1,h.2.2.rR ak⟩
 |pl top base over=>exact h
 |pu nm n rm l g over done=>exact⟨h.1,h.2.1,h.2.2.1,by rw[(ak.aQ aR).1];exact h.2.2.2.1,h.2.2.2.2.rR ak⟩
theorem aoT {z R:Nat} {L:List aL} {aR:aC3} {j:kX} (h:xc z R L aR j) (a aX:Int):xc z R L aR (Eg z L a aX j):=by
 cases j with
 |de top base l over=>exact⟨h.1,h.2.1,h.2.2.wr over a aX⟩
 |_=>exact h
theorem eX.s7 {w:b0} (ap:eX w) (a aX:Int) (r:mY) (ak:i0 w.L w.aR r.L):eX (gI w a aX r):=by
 have aN:=ak.aQ w.aR;have V:=(aoS ap.bM a aX).rR ak;have aa:=ap.kd;have ai: ∀j,Ei (Eg w.z r.L a aX j)=Ei j:=fun j=>by cases j <;>rfl
 have aT: ∀j,Ei (p8 w.z w.L a aX j)=true->Ei j=true:=fun j h=>by
  cases j with
  |pu=>rfl
  |_=>exact h
 unfold gI
 split
 .refine⟨⟨ak.cs ap.cs,by rw[<-aN.2] at aa;exact aa,(W1 a aX).map ap.ds,fun e U=>?_,ap.q,ap.nJ,fun p ai=>?_⟩,aoT V a aX,fun h=>ap.rQ (aT _ ((ai _).symm.trans h))⟩
  .obtain⟨bF,au,rfl⟩:=as9.1 U;obtain⟨fq,gP,_⟩:=ap.ds.ok bF au;obtain⟨cU,dU⟩:=ap.ea bF au;exact⟨cU.wr fq gP a aX,by show bF.s=((b4 r.L w.aR*2 ^w.z:Nat):Int);rw[aN.1];exact dU⟩
  .have ai:Eh a aX (p8 w.z w.L a aX w.bM) w.bH.eo=some p:=ai;show p.2.1=((b4 r.L w.aR*2 ^w.z:Nat):Int)/\_;rw[aN.1];unfold Eh at ai
   split at ai
   .exact ap.eo p ai
   .obtain⟨q,aT,rfl⟩:=at3.1 ai;obtain⟨k7,bC,uv⟩:=ap.eo q aT;exact⟨k7,bC,MZ uv _ _⟩
 .refine⟨⟨ak.cs ap.cs,by rw[<-aN.2] at aa;exact aa,ap.ds,fun e U=>?_,ap.q,ap.nJ,fun p ai=>?_⟩,V,fun h=>ap.rQ (aT _ h)⟩
  .show _/\e.s=((b4 r.L w.aR*2 ^w.z:Nat):Int);rw[aN.1];exact ap.ea e U
  .show p.2.1=((b4 r.L w.aR*2 ^w.z:Nat):Int)/\_;rw[aN.1];exact ap.eo p ai
end
section
theorem vL {w:b0} (h:lE w) {L':List aL} {t:aC3} (J:cb w.z w.R L') (aa:(dk L' t).isSome=true) (aN:b4 L' t=b4 w.L w.aR) (b:Nat) (j:kX):lE {w with L:=L',aR:=t,b:=b,bM:=j}:=
 ⟨J,aa,h.ds,fun e U=>⟨(h.ea e U).1,by rw[aN];exact(h.ea e U).2⟩,h.q,h.nJ,fun p ai=>by
  obtain⟨k7,bC⟩:=h.eo p ai;exact⟨by rw[aN];exact k7,bC⟩⟩
theorem XC {z R:Nat} {L:List aL} (h:cb z R L) (top base:aC3) (over:Bool):cb z R (hS z L top base over).L/\ ∀n,b4 (hS z L top base over).L n=b4 L n/\(dk (hS z L top base over).L n).isSome=(dk L n).isSome:=by
 unfold hS
 split
 .exact⟨h,fun _=>⟨rfl,rfl⟩⟩
 .cases om L top base with
  |some k=>exact⟨(wL h _ _ _).cs h,fun n=>(wL h _ _ _).aQ n⟩
  |none=>
   refine⟨L0 h top base,fun n=>?_⟩;show b4 (h8 L top base).L n=_/\_;unfold h8
   split
   .exact⟨rfl,rfl⟩
   .split
    .exact⟨rfl,rfl⟩
    .split
     .unfold b4;rw[mi]
      cases dk L n with
      |none=>exact⟨rfl,rfl⟩
      |some d=>
       show(eU top base d).im.t.length=d.im.t.length/\_;unfold eU
       split <;>exact⟨rfl,rfl⟩
     .exact⟨rfl,rfl⟩
theorem XD {z R:Nat} {L:List aL} (h:cb z R L) (top base:aC3) (l:aC4) (over:Bool): ∃t,i0 L t (ff z L top base l over).L:=by
 unfold ff
 split
 .exact⟨top,.inl rfl⟩
 .split
  .exact⟨top,tV h _ _ _⟩
  .exact⟨base,Dv h _ _ _⟩
theorem my.xe {es:gb} {M:ee} {Q Q':List bW} (h:my es M Q) {b:Nat} (O:b∉M.map (·.1)):my (oH es Q' b) ((b,oI Q' b)::M) (if pp Q'=0 then Q' else Q):=h.an2 O
theorem lE.xe {w w':b0} (h:lE w) {Q:List bW} (aT:qY Q) {e:Int} (J:vG w Q e w'):lE w':=by
 obtain⟨_,b,O,⟨U,lb,rfl⟩ |⟨U,rfl⟩⟩:=J
 .have:=h.nJ.xe (Q':=Q) O;rw[if_pos U] at this;generalize oH w.es Q b=F at this⊢;generalize oI Q b=S at this⊢;exact⟨h.cs,h.kd,h.ds,h.ea,aT,this,h.eo⟩
 .have:=h.nJ.xe (Q':=Q) O;rw[if_neg U] at this;generalize oH w.es Q b=F at this⊢;generalize oI Q b=S at this⊢;exact⟨h.cs,h.kd,h.ds,h.ea,h.q,this,h.eo⟩
theorem qY.aoU {Q:List bW} (h:qY Q) (nm:aC3):qY (qI Q nm):=⟨Vj h.tonA nm,h.Ir.drop nm⟩
theorem qY.XE {Q:List bW} (h:qY Q) (b:bW):qY (g4 Q b):=⟨h.tonA.add b,h.Ir.add b⟩
theorem aoV {l l':List bd} (h:l'.map pk=(hU l).map qN) {e:bd} (U:e∈l'): ∃bF,bF∈l/\pk e=qN bF:=by
 have:pk e∈l'.map pk:=ar8 U;rw[h] at this;obtain⟨bF,au,E⟩:=as9.1 this;exact⟨bF,HY au,E.symm⟩
theorem lE.oE {w:b0} (h:lE w) (t:IA w.ds):lE (IB w t):=by
 obtain⟨db,lb,l',H,ai⟩:=t;refine⟨h.cs,h.kd,H,fun e U=>?_,h.q,h.nJ,h.eo⟩;obtain⟨bF,au,E⟩:=aoV ai U;obtain⟨cU,dU⟩:=h.ea bF au;obtain⟨fq,gP,_⟩:=h.ds.ok bF au;unfold pk qN at E;simp only[av7] at E;obtain⟨cA,_,_,cF,dF,fj⟩:=E;refine⟨cU.of cF dF cA fun aB aN=>?_,by rw[cF];exact dU⟩;rw[fj,VW fq gP cU.fW] at aN;exact cU.fW aB aN
theorem eX.no {w:b0} (h:lE w) (V:w.bM= .no):eX w:=⟨h,by rw[V];trivial,fun ai=>by rw[V] at ai;cases ai⟩
theorem aoW {l:List bd} {nm:aC3} {e:bd} (h:e∈ld l nm):e∈l:=(AZ l nm).subset h
theorem lE.f' {w w':b0} (h:lE w) {g:List (Nat×aC3)} {e:Int} (ax:vK w g e w'):lE w':=by
 have aA:lE {w with bH:=p9 w.bH g}:=⟨h.cs,h.kd,h.ds,h.ea,h.q,h.nJ,h.eo⟩;rcases ax with⟨_,_,rfl⟩ |⟨_,e6,G,⟨_,rfl⟩ |⟨_,ke,bC,g2,ei,x,a,b,aw,aa,H,rfl⟩⟩
 .exact aA
 .exact aA.xe (h.q.XE _) G
 .have af:=y5 G;have hw:=aA.xe (h.q.XE _) G;rw[af] at hw⊢;refine⟨hw.cs,hw.kd,H,fun e U=>?_,hw.q,hw.nJ,hw.eo⟩;obtain⟨hx,_⟩:=kx aa;obtain⟨Bh,Ef⟩:=h.ea x hx;obtain⟨fq,gP,mW,_⟩:=h.ds.ok x hx;unfold Iv mj at U;obtain⟨bF,au,rfl⟩:=as9.1 U
  have E:vs bF/\bF.s=((b4 w.L w.aR*2 ^w.z:Nat):Int):=by
   rcases as1.1 au with au |au
   .obtain⟨ae,E,rfl⟩:=as9.1 (aoW au);obtain⟨uJ,wg⟩:=h.ea ae E;obtain⟨kH,q',z3,_⟩:=h.ds.ok ae E
    split
    .exact⟨uJ.of rfl rfl rfl (uJ.fW.XB z3),wg⟩
    .exact⟨uJ,wg⟩
   .obtain rfl:=ar5.1 au;refine⟨Bh.of rfl rfl (kx aa).2.symm ((Bh.fW.XB mW).de fq gP _),Ef⟩
  split
  .exact⟨E.1.of rfl rfl rfl E.1.fW,E.2⟩
  .exact E
theorem Bq {z R:Nat} {L:List aL} {nm:aC3} {size:Int} {back:aC3} {p:Nat×Nat}:((hR z R L nm size back p).e=0->dk L nm=none/\gY nm=true/\(hR z R L nm size back p).L=kP L nm back p.1 p.2 (gi z size.toNat R))/\((hR z R L nm size back p).e≠0->(hR z R L nm size back p).L=L):=by
 unfold hR
 split
 .exact⟨fun h=>absurd h (show¬(1:Int)=0 by decide),fun _=>rfl⟩
 .rename_i au
  split
  .exact⟨fun h=>absurd h (show¬(143:Int)=0 by decide),fun _=>rfl⟩
  .rename_i E
   split
   .exact⟨fun h=>absurd h (show¬(140:Int)=0 by decide),fun _=>rfl⟩
   .split
    .exact⟨fun h=>absurd h (show¬(142:Int)=0 by decide),fun _=>rfl⟩
    .refine⟨fun _=>⟨?_,?_,rfl⟩,fun h=>absurd rfl h⟩
     .cases H:dk L nm with
      |none=>rfl
      |some d=>exact absurd (.inl (by rw[H];rfl)) E
     .cases hn:gY nm with
      |true=>rfl
      |false=>exact absurd (by rw[hn];rfl) au
theorem aoX:e5 ([]:List (Z al×Z al)):=by first |exact trivial |exact List.Pairwise.nil |exact av8
theorem XF {w:b0} {s:dE} (h:r7 w s=false):gY s.nm=true:=by
 unfold r7 at h
 cases hn:gY s.nm with
 |true=>rfl
 |false=>rw[hn] at h;cases h
theorem ga.XG {z R:Nat} {L:List aL} {nm:aC3} (h:cb z R L) (aa:(dk L nm).isSome=true) (f:Nat->Bool):ga z R L nm (ih f z (b4 L nm*2 ^z)) []:=
 ⟨h,aa,MK f z _ _ (aq0 _),MJ f z _,fun p ai=>(by cases ai),av8,fun k _ h=>az4⟩
theorem eX.step {w w':b0} (ap:eX w) {s:dE} {e:Int} (ax:gJ w s e w'):eX w':=by
 cases ax with
 |Nf h=>exact ap
 |write h=>exact ap.s7 _ _ _ (wL ap.cs _ _ _)
 |zero h=>exact ap.s7 _ _ _ (Di ap.cs _ _ _)
 |Xx h aA=>exact ap
 |En h aA=>exact ap.s7 _ _ _ (tV ap.cs _ _ _)
 |busy h V=>exact ap
 |over h V ax=>
  obtain⟨p,d7,U,⟨au,rfl⟩ |⟨au,rfl⟩⟩:=ax
  .obtain⟨bZ,_,cg⟩:=Bq.1 (U.symm.trans au);rw[cg] at d7⊢;have H:=yo (L:=w.L) (nm:=s.nm) (back:=w.aR) (ad:=p.1) (am:=p.2) (im:=gi w.z ((ek w:Nat):Int).toNat w.R) s.nm;rw[bZ,if_pos rfl] at H;refine eX.no (vL ap.tolE d7 (by rw[H];rfl) ?_ w.b w.bM) V;unfold b4;rw[H];exact ar7
  .rw[Bq.2 (fun h=>au (U.trans h))];exact ap
 |eW h l' ax=>
  rcases ax with⟨O,H,⟨_,hn,_,_,a,b,rfl⟩ |⟨_,rfl⟩⟩ |⟨_,rfl⟩
  .refine⟨⟨ap.cs,ap.kd,H,fun e U=>?_,ap.q,ap.nJ,ap.eo⟩,ap.bM,ap.rQ⟩;rcases as1.1 U with U |U
   .exact ap.ea e U
   .obtain rfl:=ar5.1 U;exact⟨⟨O,kB.nil _ _,hn⟩,rfl⟩
  .exact ap
  .exact ap
 |merge h V ax=>
  obtain⟨U,⟨au,b,rfl⟩ |⟨_,rfl⟩⟩:=ax
  .exact⟨vL ap.tolE ap.cs ap.kd rfl _ _,⟨rfl,rfl,lz.G8 ap.cs (by rw[<-U];exact au)⟩,fun ai=>by cases ai⟩
  .exact ap
 |pull h V ax=>
  obtain⟨U,⟨au,b,rfl⟩ |⟨_,rfl⟩⟩:=ax
  .exact⟨vL ap.tolE ap.cs ap.kd rfl _ _,⟨rfl,rfl⟩,fun ai=>by cases ai⟩
  .exact ap
 |push h V ax=>
  rcases ax with⟨_,_,rfl⟩ |⟨hn,⟨_,⟨_,_,rfl⟩ |⟨_,_,b,rfl⟩⟩ |⟨_,_,_,rfl⟩ |⟨_,x,hx,⟨_,_,rfl⟩ |⟨_,⟨_,_,rfl⟩ |⟨_,_,b,ke,rfl⟩⟩⟩⟩
  .exact ap
  .exact ap
  .exact⟨⟨ap.cs,ap.kd,ap.ds,ap.ea,ap.q,ap.nJ,fun p ai=>by cases ai⟩,⟨rfl,rfl,rfl,rfl,ga.XG ap.cs ap.kd _⟩,fun _=>XF hn⟩
  .exact ap
  .exact ap
  .exact ap
  .exact⟨⟨ap.cs,ap.kd,ap.ds,ap.ea,ap.q,ap.nJ,fun p ai=>by cases ai;exact⟨rfl,rfl,aoX⟩⟩,⟨rfl,rfl,rfl,rfl,ga.XG ap.cs ap.kd _⟩,fun _=>XF hn⟩
 |AL h V=>exact ap
 | @Bn h top base l V=>
  have hP:=ap.bM;rw[V] at hP;obtain⟨rfl,_,a8⟩:=hP;obtain⟨t,ak⟩:=XD ap.cs w.aR base l false;have aj:=a8.step base false;have dc:=fun j=>vL ap.tolE aj.cs aj.iy (ak.aQ w.aR).1 w.b j
  split
  .exact eX.no (dc _) rfl
  .rename_i ah;exact⟨dc _,⟨rfl,aw7.2 ah,aj⟩,fun ai=>by cases ai⟩
 | @Bo h top base V=>
  have hP:=ap.bM;rw[V] at hP;obtain⟨rfl,_⟩:=hP;obtain⟨J,aN⟩:=XC ap.cs w.aR base false;have dc:=fun j=>vL ap.tolE J (by rw[(aN w.aR).2];exact ap.kd) (aN w.aR).1 w.b j
  split
  .exact eX.no (dc _) rfl
  .rename_i ah;exact⟨dc _,⟨rfl,aw7.2 ah⟩,fun ai=>by cases ai⟩
 | @Bp h nm n rm l g V e w' ax=>
  have hP:=ap.bM;rw[V] at hP;obtain⟨rfl,_,_,hn,bl⟩:=hP;rcases ax with⟨rfl,t,ax,rfl⟩ |⟨ak,rfl,rfl⟩
  .have au:lE {w with bM:=.pu w.aR n rm [] g true true}:=vL ap.tolE ap.cs ap.kd rfl w.b _;have E:=au.f' ax;exact eX.no ⟨E.cs,E.kd,E.ds,E.ea,E.q,E.nJ,E.eo⟩ rfl
  .have ai:=bl.Ub rm (G1 ak).2.1
   split
   .exact eX.no (vL ap.tolE ap.cs ap.kd rfl w.b _) rfl
   .exact⟨vL ap.tolE ap.cs ap.kd rfl w.b _,⟨rfl,rfl,rfl,hn,ai⟩,fun _=>ap.rQ (by rw[V];rfl)⟩
 |Xy h V=>exact ap
 |OM h V=>exact eX.no (vL ap.tolE ap.cs ap.kd rfl _ _) rfl
 |oE h t=>exact eX.no (ap.tolE.oE t) rfl
 |drop h ax=>
  rcases ax with⟨_,_,rfl⟩ |⟨_,J⟩
  .exact ap
  .have af:=y5 J;have hw:=ap.tolE.xe (ap.q.aoU _) J;rw[af] at hw⊢;exact⟨hw,ap.bM,ap.rQ⟩
end
section
abbrev eP:aC3:=[100,105,115,107]
abbrev XH:Made:=⟨(([]:aC3),([]:aC3),(0:Int),(0:Int),([]:List ky)),[],none⟩
abbrev nK (z R:Nat) (size:Int) (p:Nat×Nat):List aL:=(hR z R [] eP size [] p).L
abbrev aoY (z R:Nat) (L:List aL):az:=
 [(1401,.cells [.d (.int .i64 z),.d (.str eP),.ptr 1001 0,.ptr 4001 0,.ptr 1201 0,.ptr 3001 0,.d (.int .i64 0),.bJ .nilIface,.bJ (.pointer none),.bJ (.pointer none),.d (.str []),.d (.str []),.d (.int .i64 0),.d (.int .i64 0),.d (.co oy []),.d (.str []),.bJ (.pointer none)]),
  oG z R L,p7 [] [],(4001,.aG (r4 [])),(3001,.aG (r5 []))]
theorem XI (z R:Nat) (size:Int) (E:j7 z 0 R=true) (G:j7 z size R=true):
  cx Tryz.prog 9 [ab (z:Int),ab size,ab (R:Int)] [] [1001,1201,1401,3001,4001] (X:={p:Nat×Nat//cb z R (nK z R size p)}) (fun _=>.ci [.one (.ptr 1401 0),dz 0]) (fun p=>aoY z R (nK z R size p.1)):=by
 have aA:=G;simp only[j7,vj,as5] at aA;have d7:cb z R []:=cb.nil ay4 ay4
 have U:(hR z R [] eP size [] (0,0)).e=0:=by
  unfold hR;rw[if_neg (by rw[G];decide),if_neg ay5,if_neg ay5,if_neg ay5]
 have hn:=SI z R ay4 ay4;have ha:=Oz d7 eP size [] ay5;rw[U] at ha;have hf:=amb 4096 ay5;refine hO [2,4,5] Tryz.func9 ?_;refine av hn <| bu [4,5] (ac.close 1001 (bO z R []) (o:=Ee z R []) aC rfl fun I F x p h=>h) <| dt <| av ha <| dt <| bw.e4 (di.jf 1001 rfl) fun p=>bu [5] (br) <| av (Fn.aV [(1001,1201),(1002,1202)] hf) <| bu [] (ac.trans (ac.ro 1203 rfl) (ac.close 1201 (nF 1201 1202 1203 4096 [] []) (o:=y1 [] []) aC rfl fun I F x p h=>h)) <| av (Fn.aV [(1001,4001),(1002,4002),(1003,4003),(1004,4004)] UC) <| av (Fn.aV [(1001,3001),(1002,3002)] M9) ⟨rfl,?_⟩
 exact⟨p,_,_,_,ac.trans (ac.close 4001 (kp (eC (ln [(1001,4001),(1002,4002),(1003,4003),(1004,4004)] [])) (eA [])) (o:=r4 []) aC rfl fun I F x p h=>jn.aV [(4001,1001),(4002,1002),(4003,1003),(4004,1004)] h)
  (ac.trans (ac.close 3001 (lD 3001 3002 []) (o:=r5 []) aC rfl fun I F x p h=>jn.aV [(3001,1001),(3002,1002)] h) (ac.trans (ac.aV 36 1401 rfl) (ac.sJ 1401 (l':=[.d (.int .i64 z),.d (.str eP),.ptr 1001 0,.ptr 4001 0,.ptr 1201 0,.ptr 3001 0,.d (.int .i64 0),.bJ .nilIface,.bJ (.pointer none),.bJ (.pointer none),.d (.str []),.d (.str []),.d (.int .i64 0),.d (.int .i64 0),.d (.co oy []),.d (.str []),.bJ (.pointer none)]) rfl aC))),rfl,aC,aC,rfl⟩
end
section
def l1 (k:lZ):Nat:=(ms k).length+(pn k).length
theorem OP {α:Type} (f:α->Nat): ∀(l:List α) (k:Nat),((l.take k).map f).sum<=(l.map f).sum
 | [],k=>by simp
 |a::l,0=>by simp
 |a::l,k+1=>by
  simp only[List.take_succ_cons,ar4,List.sum_cons];have:=OP f l k;omega
theorem OQ {α:Type} (f:α->Nat) {l:List α} {k:Nat} (h:k < l.length):((l.take (k+1)).map f).sum=((l.take k).map f).sum+f l[k]:=by
 rw[at5 h,au0,List.sum_append];simp
end
section
theorem XJ: ∀b:aC3,fV (.b' .u8) b=1+b.length
 | []=>rfl
 |x::b=>by
  have h:=XJ b;show 1+(1+(List.map (fV .u8) b).sum)=_;have h:1+(List.map (fV .u8) b).sum=1+b.length:=h;rw[h,at8];omega
theorem XK: ∀b:List Int,fV (.b' al) b=1+b.length
 | []=>rfl
 |x::b=>by
  have h:=XK b;show 1+(1+(List.map (fV al) b).sum)=_;have h:1+(List.map (fV al) b).sum=1+b.length:=h;rw[h,at8];omega
theorem aoZ (k:lZ):fV lY k=2+l1 k:=by
 have h:=XK (ms k);show(1+(pn k).length)+fV (.b' al) (ms k)=_;rw[h];unfold l1;omega
theorem XL: ∀l:List lZ,fV (.b' lY) l=1+2*l.length+(l.map l1).sum
 | []=>rfl
 |k::l=>by
  have h:=XL l;show 1+(fV lY k+(List.map (fV lY) l).sum)=_;have h:1+(List.map (fV lY) l).sum=1+2*l.length+(l.map l1).sum:=h;rw[aoZ,at8,ar4,List.sum_cons];omega
theorem OR {α:Type} {f:α->Nat} {k:α}: ∀{l:List α},k∈l->f k<=(l.map f).sum
 | [],h=>by cases h
 |a::l,h=>by
  rw[ar4,List.sum_cons];rcases aq5.1 h with rfl |h
  .omega
  .have:=OR (f:=f) h;omega
def lG (n:Int):aC3:=UInt8.ofNat n.toNat::List.replicate 15 (0:UInt8)
theorem XM (n:Int) (au:0<=n) (E:n < 256):Fn Tryz.prog 31 [k1 (.d (.int .u8 n))] [] [] (bQ .u8 (lG n)) []:=by
 refine aU [] Tryz.func31 ?_;exact⟨⟨rfl,ay5,ay5⟩,rfl,⟨ay5,ay5⟩,⟨⟨au,E⟩,ay5⟩,_,_,_,ac.d0 4 rfl,rfl,rfl,trivial,rfl⟩
abbrev i3:bz:=.bP al (.bP al (.bP al (.bP (.b' .u8) (.bP .str (.bP .str (.b' lY))))))
abbrev kY:=Z i3
abbrev b8 (x:kY):dE:=⟨x.1,x.2.1,x.2.2.1,x.2.2.2.1,x.2.2.2.2.1,x.2.2.2.2.2.1,x.2.2.2.2.2.2⟩
abbrev OS (s:dE) (v:bB):List bB:=[.d (.int .i64 s.kd),.d (.int .i64 s.a),.d (.int .i64 s.l),.d (.co .u8 s.b),.d (.str s.nm),.d (.str s.fp),v]
abbrev XN:List bB:=[.d (.int .i64 0),.d (.int .i64 0),.d (.int .i64 0),.dK,.d (.str []),.d (.str []),.dK]
abbrev OT (s:dE) (k:Nat):aY:=[(2,.c (.one (.ptr 2 0))),(3,.c (.one (.ptr 3 0))),(20,bQ lY s.ks),(21,ab (s.ks.length:Nat)),(22,ab (k:Nat))]
abbrev XO (s:dE) (k:Nat) (r:Nat):az:=[(2,.cells XN),(3,.cells (OS s (.own r))),(r,.row 89 lY (s.ks.take k))]
theorem ao0 (s:dE) (aa:s.ks.length<=1073741824):Fn Tryz.prog 13 [iq s] [] [] (iq s) []:=by
 refine aU [7] Tryz.func13 ?_;refine⟨rfl,rfl,rfl,d2 [7] (X:=Nat) (fun k=>OT s k) (fun k=>XO s k 2003) (fun k=>k<=s.ks.length) (fun k=>s.ks.length - k) 0 (aq8 _) ?_ ?_⟩
 .exact ac.trans (ac.wb 3 6 2003 89 lY rfl rfl rfl) (ac.sub aC aC)
 intro k ct;refine⟨fun J=>?_,fun J=>?_⟩
 .have J:decide ((k:Int) < (s.ks.length:Nat))=true:=J;have eD:k < s.ks.length:=by simpa using J
  refine⟨ay4,s.ks[k],jJ (n:=k) eD,rfl,?_⟩;have O:(s.ks.take k).length+1<=4294967296:=aA2
  refine⟨O,rfl,ay4,k+1,ay4,ay4,ac.trans (ac.sub (K':=OT s (k+1)) (B':=XO s (k+1) 30) aC ⟨rfl,rfl,?_,trivial⟩) (ac.aV 30 2003 rfl)⟩;rw[at5 eD];rfl
 .have J:decide ((k:Int) < (s.ks.length:Nat))=false:=J;have eD:k=s.ks.length:=by simp at J;omega
  subst eD;exact bu [] (ac.trans (ac.sub (K':=OT s s.ks.length) (B':=[(2,.cells XN),(3,.cells (OS s (.own 2003))),(2003,.row 89 lY s.ks)]) aC ⟨rfl,rfl,congrArg (fun l=>some (ba.row 89 lY l)) ar9,trivial⟩) (ac.d0 2003 rfl)) bg
abbrev Br (x y aB:Int):List bB:=[.d (.int .i64 x),.d (.int .i64 y),.d (.int .i64 aB)]
abbrev OU (x y aB:Int):aP:=.c (.agg (Br x y aB))
def vM (s:dE):Nat:=s.b.length+s.nm.length+s.fp.length
def mz (s:dE):Nat:=vM s+(s.ks.map l1).sum
def oJ (l:List kY) (k:Nat):Nat:=((l.take k).map fun x=>mz (b8 x)).sum
theorem XP (l:List kY) {k:Nat} (h:k < l.length):oJ l (k+1)=oJ l k+mz (b8 l[k]):=OQ (fun x=>mz (b8 x)) h
def s8 (y:Int) (l:List kY):Bool:=(decide (l.length<=60)&&decide ((l.map fun x=>mz (b8 x)).sum<=4000))&&(decide (y<=8)||decide (256 < y))
abbrev ao1 (y:Int) (l:List kY) (k n:Nat):aY:=[(1,bQ i3 l),(2,aq 2),(5,ab (n:Nat)),(10,bQ i3 l),(11,ab (l.length:Nat)),(12,ab (k:Nat))]
abbrev ao2 (y:Int) (l:List kY) (k n:Nat) (s:dE) (j:Nat):aY:=[(1,bQ i3 l),(2,aq 2),(5,ab (n:Nat)),(10,bQ i3 l),(11,ab (l.length:Nat)),(12,ab (k:Nat)),(7,aq 7),(30,bQ lY s.ks),(31,ab (s.ks.length:Nat)),(32,ab (j:Nat))]
theorem ao3 (x y aB:Int) (l:List kY) (ak:l.length<=1073741824) (cq:(l.map fun x=>mz (b8 x)).sum<=1073741824) (hr: ∀o,o∈l->(b8 o).ks.length<=1073741824):Fn Tryz.prog 10 [OU x y aB,bQ i3 l] [] [] (fI (s8 y l)) []:=by
 refine aU [] Tryz.func10 ?_;refine⟨rfl,d2 [] (X:=Nat) (fun k=>ao1 y l k (oJ l k)) (fun _=>[(2,.cells (Br x y aB))]) (fun k=>k<=l.length) (fun k=>l.length - k) 0 (aq8 _) ?_ ?_⟩
 .exact ac.sub aC aC
 intro k aa;refine⟨fun h=>?_,fun h=>?_⟩
 .have ct:k < l.length:=by
   have h:decide ((k:Int) < (l.length:Int))=true:=h;simpa using h
  have IC:=OP (fun x=>mz (b8 x)) l (k+1);have IC:oJ l (k+1)<=(l.map fun x=>mz (b8 x)).sum:=IC;rw[XP l ct] at IC;refine⟨ay4,l[k],jJ (n:=k) ct,?_⟩;have ao4:=hr _ (as3 ct);have kn:=XP l ct;generalize l[k]=o at IC ao4 kn;have aqS:mz (b8 o)=vM (b8 o)+((b8 o).ks.map l1).sum:=rfl;have aqT:vM (b8 o)=(b8 o).b.length+(b8 o).nm.length+(b8 o).fp.length:=rfl;refine⟨rfl,?_⟩;have cA: -9223372036854775808<=((b8 o).b.length:Int)+(b8 o).nm.length/\((b8 o).b.length:Int)+(b8 o).nm.length<=9223372036854775807:=az2
  have cF: -9223372036854775808<=((b8 o).b.length:Int)+(b8 o).nm.length+(b8 o).fp.length/\((b8 o).b.length:Int)+(b8 o).nm.length+(b8 o).fp.length<=9223372036854775807:=az2
  have dF: -9223372036854775808<=(oJ l k:Int)+(((b8 o).b.length:Int)+(b8 o).nm.length+(b8 o).fp.length)/\(oJ l k:Int)+(((b8 o).b.length:Int)+(b8 o).nm.length+(b8 o).fp.length)<=9223372036854775807:=az2
  refine⟨cA,cF,dF,d2 [] (X:=Nat) (fun j=>ao2 y l k (oJ l k+vM (b8 o)+(((b8 o).ks.take j).map l1).sum) (b8 o) j) (fun _=>[(2,.cells (Br x y aB)),(7,.cells (In (b8 o)))]) (fun j=>j<=(b8 o).ks.length) (fun j=>(b8 o).ks.length - j) 0 (aq8 _) ?_ ?_⟩
  .have e:(oJ l k:Int)+(((b8 o).b.length:Int)+(b8 o).nm.length+(b8 o).fp.length)=((oJ l k+vM (b8 o)+(((b8 o).ks.take 0).map l1).sum:Nat):Int):=by
    rw[List.take_zero,ax6,List.sum_nil];omega
   exact ac.sub ⟨rfl,rfl,e,rfl,rfl,rfl,rfl,rfl,rfl,rfl,trivial⟩ aC
  intro j V;refine⟨fun G=>?_,fun G=>?_⟩
  .have eO:j < (b8 o).ks.length:=by
    have G:decide ((j:Int) < ((b8 o).ks.length:Int))=true:=G;simpa using G
   have fS:=OP l1 (b8 o).ks (j+1);rw[OQ l1 eO] at fS;have aqU:j < List.length o.2.2.2.2.2.2:=eO;refine⟨ay4,(b8 o).ks[j],jJ (n:=j) eO,?_⟩;have ao:l1 (b8 o).ks[j]=(ms (b8 o).ks[j]).length+(pn (b8 o).ks[j]).length:=rfl;refine⟨rfl,?_⟩;have r1: -9223372036854775808<=((ms (b8 o).ks[j]).length:Int)+(pn (b8 o).ks[j]).length/\((ms (b8 o).ks[j]).length:Int)+(pn (b8 o).ks[j]).length<=9223372036854775807:=az2
   have r2: -9223372036854775808<=((oJ l k+vM (b8 o)+(((b8 o).ks.take j).map l1).sum:Nat):Int)+(((ms (b8 o).ks[j]).length:Int)+(pn (b8 o).ks[j]).length)/\((oJ l k+vM (b8 o)+(((b8 o).ks.take j).map l1).sum:Nat):Int)+(((ms (b8 o).ks[j]).length:Int)+(pn (b8 o).ks[j]).length)<=9223372036854775807:=az2
   refine⟨r1,r2,ay4,j+1,ay4,ay4,ac.sub ⟨rfl,rfl,?_,rfl,rfl,rfl,rfl,rfl,rfl,rfl,trivial⟩ aC⟩;show((oJ l k+vM (b8 o)+(((b8 o).ks.take j).map l1).sum:Nat):Int)+(((ms (b8 o).ks[j]).length:Int)+(pn (b8 o).ks[j]).length)=_;rw[OQ l1 eO];omega
  .have eO:j=(b8 o).ks.length:=by
    have G:decide ((j:Int) < ((b8 o).ks.length:Int))=false:=G;have af:=mu G;have ao5:j<=(b8 o).ks.length:=V;exact Nat.le_antisymm ao5 ay4
   subst eO;rw[ar9];have hn:oJ l k+vM (b8 o)+((b8 o).ks.map l1).sum=oJ l (k+1):=az2
   rw[hn];refine⟨ay4,k+1,ay4,ay4,ac.sub aC aC⟩
 .have ct:k=l.length:=by
   have h:decide ((k:Int) < (l.length:Int))=false:=h;simp at h;omega
  subst ct;have b6:oJ l l.length=(l.map fun x=>mz (b8 x)).sum:=by unfold oJ;rw[ar9]
  rw[b6];have bh:s8 y l=((decide (l.length<=60)&&decide ((l.map fun x=>mz (b8 x)).sum<=4000))&&(decide (y<=8)||decide (256 < y))):=rfl;generalize(l.map fun x=>mz (b8 x)).sum=n at*;refine⟨fun cI=>?_,fun cI=>?_⟩
  .have cI:decide (l.length<=60)=true:=ar0 (by have:=gd cI;omega);refine⟨fun cE=>?_,fun cE=>?_⟩
   .have cE:decide (n<=4000)=true:=ar0 (by have:=gd cE;omega);refine⟨fun hN=>?_,fun hN=>?_⟩
    .have hN:decide (y<=8)=true:=hN;refine⟨_,_,_,br,rfl,(show true=s8 y l from ?_),trivial,rfl⟩;rw[bh,cI,cE,hN];rfl
    .have hN:decide (y<=8)=false:=hN;refine⟨_,_,_,br,rfl,(show decide (256 < y)=s8 y l from ?_),trivial,rfl⟩;rw[bh,cI,cE,hN];rfl
   .have cE:decide (n<=4000)=false:=at0 (by have:=mu cE;omega);refine⟨_,_,_,br,rfl,(show false=s8 y l from ?_),trivial,rfl⟩;rw[bh,cI,cE];rfl
  .have cI:decide (l.length<=60)=false:=at0 (by have:=mu cI;omega);refine⟨_,_,_,br,rfl,(show false=s8 y l from ?_),trivial,rfl⟩;rw[bh,cI];rfl
theorem ao6 {y:Int} {l:List kY} (h:s8 y l=true) {x:kY} (hx:x∈l):(b8 x).b.length<=4000/\(b8 x).nm.length<=4000/\ ∀k∈(b8 x).ks,(ms k).length<=4000:=by
 unfold s8 at h;simp only[vj,as5] at h;have E:mz (b8 x)<=(l.map fun x=>mz (b8 x)).sum:=OR (f:=fun x=>mz (b8 x)) hx;have G:mz (b8 x)=(b8 x).b.length+(b8 x).nm.length+(b8 x).fp.length+((b8 x).ks.map l1).sum:=rfl;refine⟨ay4,ay4,fun k aa=>?_⟩;have af:=OR (f:=l1) aa;have aW:l1 k=(ms k).length+(pn k).length:=rfl;omega
end
section
theorem gJ.CX {w w':b0} {s:dE} {e:Int} (aa:s.kd=0) (h:gJ w s e w'):e=(fe w.z w.L w.aR s.a s.b).e/\w'=gI w s.a ((s.b.length:Int)/16) (fe w.z w.L w.aR s.a s.b):=by
 cases h with
 |write h=>exact⟨rfl,rfl⟩
 |_=>omega
theorem gJ.ao7 {w w':b0} {s:dE} {e:Int} (aa:s.kd=7) (h:gJ w s e w'):(po w.bM=false/\e=143/\w'=w)\/(w.bM= .no/\OI w s e w'):=by
 cases h with
 |busy h V=>exact .inl ⟨V,rfl,rfl⟩
 |push h V ax=>exact .inr ⟨V,ax⟩
 |_=>omega
theorem gJ.OV {w w':b0} {s:dE} {e:Int} (aa:s.kd=8) (h:gJ w s e w'):(w.bM= .no/\e=1/\w'=w)\/(∃top base l,w.bM= .de top base l false/\e=(ff w.z w.L top base l false).e/\w'={w with L:=(ff w.z w.L top base l false).L,bM:=if(ff w.z w.L top base l false).over=true then .no else .de top base (ff w.z w.L top base l false).l (ff w.z w.L top base l false).over})\/
  (∃top base,w.bM= .pl top base false/\e=(hS w.z w.L top base false).e/\w'={w with L:=(hS w.z w.L top base false).L,bM:=if(hS w.z w.L top base false).over=true then .no else .pl top base (hS w.z w.L top base false).over})\/
  ∃nm n rm l g,w.bM= .pu nm n rm l g false false/\Iy w nm n rm l g e w':=by
 cases h with
 |AL h V=>exact .inl ⟨V,rfl,rfl⟩
 |Bn h V=>exact .inr (.inl ⟨_,_,_,V,rfl,rfl⟩)
 |Bo h V=>exact .inr (.inr (.inl ⟨_,_,V,rfl,rfl⟩))
 |Bp h V ax=>exact .inr (.inr (.inr ⟨_,_,_,_,_,V,ax⟩))
 |_=>omega
def l2 (p:Nat×Nat):List aL:=(fe 0 (nK 0 9 2 p) eP 0 (lG 97)).L
def xf (p:Nat×Nat):List aL:=(fe 0 (l2 p) eP 0 (lG 98)).L
theorem XQ (p:Nat×Nat):(fe 0 (nK 0 9 2 p) eP 0 (lG 97)).e=0:=by kernel_rfl
theorem XR (p:Nat×Nat):(fe 0 (l2 p) eP 0 (lG 98)).e=0:=by kernel_rfl
theorem ao8 (p:Nat×Nat):b4 (l2 p) eP=2:=by kernel_rfl
theorem ao9:ih (fun _=>true) 0 (2*2 ^0)=[0,1]:=by kernel_rfl
theorem ao' (p:Nat×Nat):lA 0 (l2 p) eP 9 0 1 [0,1] [0,1] []=⟨0,[1],[(0,lG 97)],false⟩:=by kernel_rfl
theorem apa (p:Nat×Nat):jR 0 (l2 p) eP 9 0 1 [0,1] [] false=⟨0,[1],[(0,lG 97)],false⟩:=by
 show lA 0 (l2 p) eP 9 0 1 (pf [0,1]) [0,1] []=_;rw[aiw,ao']
theorem apb (p:Nat×Nat):ez 0 (xf p) eP 9 [1] [(0,lG 97)] 1=⟨0,[],[(0,lG 97),(1,List.replicate 16 0)],false⟩:=by kernel_rfl
theorem apc (p:Nat×Nat):rM 0 (xf p) eP 0 1=(lG 98,0):=by kernel_rfl
def XS:List ky:=[((0:Int),lG 97),((1:Int),List.replicate 16 (0:UInt8))]
theorem apd:ou [(0,lG 97),(1,List.replicate 16 0)]=XS:=by
 unfold ou;rw[show gZ (kw [(0,lG 97),(1,List.replicate 16 0)])=[0,1] from rfl,Uc (m:=[0,1]) (List.Perm.refl _) ay5];rfl
def r':bW:=([120],[],(0:Int),(2:Int),XS)
theorem XT:gG [] r'=0:=by kernel_rfl
theorem ape:pp [r']=0:=by kernel_rfl
theorem apf:vn [r'] [120]=0:=by kernel_rfl
theorem apg:(HB [r'] [120]).length=32/\fE (HB [r'] [120]) 0=some 97:=⟨ay7,ay7⟩
abbrev fZ (z R:Nat) (size:Int) (p:Nat×Nat) (db lb:Nat):b0:=⟨z,R,nK z R size p,eP,db,[],[],[],lb,[],0,.no,XH⟩
theorem OW {z R:Nat} {size:Int} (G:j7 z size R=true) (p:Nat×Nat):dk (nK z R size p) eP=some ⟨eP,[],p.1,p.2,gi z size.toNat R,none⟩:=by
 have e:nK z R size p=kP [] eP [] p.1 p.2 (gi z size.toNat R):=by
  show(hR z R [] eP size [] p).L=_;unfold hR;rw[if_neg (by rw[G];decide),if_neg ay5,if_neg ay5,if_neg ay5]
 rw[e,yo];rfl
theorem XU {z R:Nat} {size:Int} (G:j7 z size R=true) (p:Nat×Nat):b4 (nK z R size p) eP=size.toNat:=by
 unfold b4;rw[OW G];exact ar7
theorem my.nil:my [] [] []:=⟨List.Pairwise.nil,fun p h=>az4,⟨fun p h=>az4,av8,av8,fun p h=>az4,fun p h=>az4⟩,fun p h=>az4,.inl ⟨rfl,rfl⟩⟩
theorem qY.nil:qY []:=⟨⟨ay5,fun b h=>az4,fun k b h=>az4⟩,qS.nil⟩
theorem OX {z R:Nat} {size:Int} (G:j7 z size R=true) {p:Nat×Nat} (d7:cb z R (nK z R size p)) (db lb:Nat):eX (fZ z R size p db lb):=
 eX.no ⟨d7,by show(dk (nK z R size p) eP).isSome=true;rw[OW G];rfl,d9.nil,fun e U=>(by cases U),qY.nil,my.nil,fun p ai=>(by cases ai)⟩ rfl
abbrev XV:dE:=⟨0,0,0,lG 97,[],[],[]⟩
abbrev OY:dE:=⟨7,0,9,[],[120],[],[]⟩
abbrev s9:dE:=⟨0,0,0,lG 98,[],[],[]⟩
abbrev XW:dE:=⟨8,0,0,[],[],[],[]⟩
theorem ub.of {s:dE} (E:s.b.length<=1000000) (G:s.nm.length<=1000000) (af:s.l<=9223372036854775807) (aW:s.ks=[]):ub s:=⟨E,G,af,by rw[aW];decide,by rw[aW];exact fun k h=>az4⟩
abbrev ud:Made:=vJ [120] [] 0 2 [] none
def aph:Nat->b0->Prop
 |0,w=>w.bM= .pu eP 2 9 [1] [(0,lG 97)] false false/\w.bH=ud/\w.Q=[]
 |1,w=>w.bM= .pu eP 2 9 [] [(0,lG 97),(1,List.replicate 16 0)] false false/\w.bH=ud/\w.Q=[]
 |_,w=>w.bM= .no/\w.Q=[r']
structure y7 (p:Nat×Nat) (k:Nat) (w:b0):Prop where
 ok:eX w
 bi:w.z=0
 L:w.L=xf p
 aqV:w.aR=eP
 aqW:aph k w
theorem api {p:Nat×Nat} {db lb:Nat} {e:Int} {w':b0} (h:gJ (fZ 0 9 2 p db lb) XV e w'):e=0/\w'={fZ 0 9 2 p db lb with L:=l2 p}:=by
 obtain⟨rfl,rfl⟩:=h.CX rfl;refine⟨XQ p,?_⟩;unfold gI;rw[if_pos (XQ p)];rfl
theorem apj {p:Nat×Nat} {db lb:Nat} {e:Int} {w':b0} (h:gJ {fZ 0 9 2 p db lb with L:=l2 p} OY e w'):e=0/\ ∃b,w'={fZ 0 9 2 p db lb with L:=l2 p,b:=b,bM:=.pu eP 2 9 [0,1] [] false false,bH:=ud}:=by
 have hn: ∀w:b0,w.Q=[]->r7 w OY=false:=fun w h=>by
  unfold r7;rw[h];rfl
 rcases h.ao7 rfl with⟨h,_⟩ |⟨_,h⟩
 .cases h
 .rcases h with⟨h,_⟩ |⟨_,⟨_,⟨h,_⟩ |⟨_,rfl,b,rfl⟩⟩ |⟨h,_⟩ |⟨h,_⟩⟩
  .exact absurd (h.symm.trans (hn _ rfl)) ay5
  .exact absurd h ay5
  .refine⟨rfl,b,?_⟩;have aN:ek {fZ 0 9 2 p db lb with L:=l2 p}=2:=ao8 p;rw[aN,ao9];rfl
  .exact absurd rfl h
  .exact absurd rfl h
theorem apk {p:Nat×Nat} {db lb b:Nat} {e:Int} {w':b0} (ap:eX {fZ 0 9 2 p db lb with L:=l2 p,b:=b,bM:=.pu eP 2 9 [0,1] [] false false,bH:=ud}) (h:gJ {fZ 0 9 2 p db lb with L:=l2 p,b:=b,bM:=.pu eP 2 9 [0,1] [] false false,bH:=ud} s9 e w'):e=0/\y7 p 0 w':=by
 have dc:=ap.step h;obtain⟨rfl,rfl⟩:=h.CX rfl;have ak:(((s9.b.length:Nat):Int)/16)=1:=by decide
 have V:p8 0 (l2 p) 0 1 (.pu eP 2 9 [0,1] [] false false)= .pu eP 2 9 [1] [(0,lG 97)] false false:=by
  unfold p8;simp only[apa];rfl
 have e:gI {fZ 0 9 2 p db lb with L:=l2 p,b:=b,bM:=.pu eP 2 9 [0,1] [] false false,bH:=ud} s9.a (((s9.b.length:Nat):Int)/16) (fe 0 (l2 p) eP s9.a s9.b)=⟨0,9,xf p,eP,db,[],[],[],lb,[],b,.pu eP 2 9 [1] [(0,lG 97)] false false,ud⟩:=by
  unfold gI;rw[if_pos (XR p),ak];simp only[V];rfl
 have ao:=e▸dc;refine⟨XR p,?_⟩;show y7 p 0 (gI {fZ 0 9 2 p db lb with L:=l2 p,b:=b,bM:=.pu eP 2 9 [0,1] [] false false,bH:=ud} s9.a (((s9.b.length:Nat):Int)/16) (fe 0 (l2 p) eP s9.a s9.b));rw[e];exact⟨ao,rfl,rfl,rfl,rfl,rfl,rfl⟩
theorem apl {w:b0} {g:List (Nat×aC3)} {e:Int} {t:Iw} (h:vK w g e (Bk w g t)) (eQ:gG w.Q (gQ w.bH g)=0) (a1:pp (g4 w.Q (gQ w.bH g))=0):t.2.2.2.2=g4 w.Q (gQ w.bH g)/\e=0:=by
 have key: ∀e6,vG {w with bH:=p9 w.bH g} (g4 w.Q (gQ w.bH g)) e e6->e6.Q=g4 w.Q (gQ w.bH g)/\e=0:=fun e6 G=>by
  obtain⟨U,b,_,⟨_,lb,rfl⟩ |⟨h,_⟩⟩:=G
  .exact⟨Eq.refl _,U.trans a1⟩
  .exact absurd a1 h
 rcases h with⟨h,_⟩ |⟨_,e6,G,⟨_,af⟩ |⟨_,ke,bC,g2,ei,x,a,b,_,_,_,af⟩⟩
 .exact absurd eQ h
 .have:=key e6 G;exact⟨(congrArg b0.Q af).trans this.1,this.2⟩
 .have:=key e6 G;exact⟨(congrArg b0.Q af).trans this.1,this.2⟩
theorem apm {p:Nat×Nat} {k:Nat} {w w':b0} {e:Int} (a8:y7 p k w) (h:gJ w XW e w'):y7 p (k+1) w':=by
 have dc:=a8.ok.step h;obtain⟨ap,E,G,af,aW⟩:=a8
 match k,aW with
 |0,aW=>
  obtain⟨lf,qH,w2⟩:=aW;rcases h.OV rfl with⟨j,_⟩ |⟨_,_,_,j,_⟩ |⟨_,_,j,_⟩ |⟨nm,n,rm,l,g,j,ax⟩
  .rw[lf] at j;cases j
  .rw[lf] at j;cases j
  .rw[lf] at j;cases j
  .rw[lf] at j
   cases j
   rcases ax with⟨ak,_⟩ |⟨_,_,rfl⟩
   .cases ak
   .have aA:eN [1]=1:=rfl;rw[E,G,aA,apb] at dc⊢;exact⟨dc,rfl,rfl,af,rfl,qH,w2⟩
 |1,aW=>
  obtain⟨lf,qH,w2⟩:=aW;rcases h.OV rfl with⟨j,_⟩ |⟨_,_,_,j,_⟩ |⟨_,_,j,_⟩ |⟨nm,n,rm,l,g,j,ax⟩
  .rw[lf] at j;cases j
  .rw[lf] at j;cases j
  .rw[lf] at j;cases j
  .rw[lf] at j
   cases j
   rcases ax with⟨_,t,ax,rfl⟩ |⟨ak,_⟩
   .have O:gQ w.bH [(0,lG 97),(1,List.replicate 16 0)]=r':=by
     rw[qH];show([120],[],(0:Int),(2:Int),ou [(0,lG 97),(1,List.replicate 16 0)])=r';rw[apd];rfl
    have ak:g4 [] r'=[r']:=by
     unfold g4;rw[XT];rfl
    have:=apl ax (by show gG w.Q (gQ w.bH _)=0;rw[O,w2];exact XT) (by show pp (g4 w.Q (gQ w.bH _))=0;rw[O,w2,ak];exact ape);refine⟨dc,E,G,af,rfl,this.1.trans ?_⟩;show g4 w.Q (gQ w.bH _)=_;rw[O,w2,ak]
   .exact absurd rfl ak
 |k+2,aW=>
  obtain⟨lf,qH⟩:=aW;rcases h.OV rfl with⟨_,_,rfl⟩ |⟨_,_,_,j,_⟩ |⟨_,_,j,_⟩ |⟨nm,n,rm,l,g,j,ax⟩
  .exact⟨ap,E,G,af,lf,qH⟩
  .rw[lf] at j;cases j
  .rw[lf] at j;cases j
  .rw[lf] at j;cases j
end
section
abbrev apn (s:dE):List aP:=[aq 1401,.c (.agg (OS s .dK))]
theorem XX (w:b0) (ap:eX w) (s:dE) (aw:ub s) (au:s.ks=[]):cx Tryz.prog 12 (apn s) (cQ w) [] (X:=m8 (gJ w s)) (fun p=>ab p.1.1) (fun p=>cQ p.1.2):=
 cx.arg (ON w ap s aw) ⟨rfl,⟨rfl,rfl,rfl,rfl,rfl,rfl,by rw[au];rfl,trivial⟩,trivial⟩
abbrev apo (s:dE):List aP:=[aq 1401,.c (.agg [.d (.int .i64 s.kd),.d (.int .i64 s.a),.d (.int .i64 s.l),.dK,.d (.str s.nm),.d (.str s.fp),.dK])]
theorem XY (w:b0) (ap:eX w) (s:dE) (aw:ub s) (au:s.ks=[]) (E:s.b=[]):cx Tryz.prog 12 (apo s) (cQ w) [] (X:=m8 (gJ w s)) (fun p=>ab p.1.1) (fun p=>cQ p.1.2):=
 cx.arg (ON w ap s aw) ⟨rfl,⟨rfl,rfl,rfl,by rw[E];rfl,rfl,rfl,by rw[au];rfl,trivial⟩,trivial⟩
abbrev XZ (p:Nat×Nat) (db lb:Nat):b0:=⟨0,9,l2 p,eP,db,[],[],[],lb,[],0,.no,XH⟩
abbrev X0 (p:Nat×Nat) (db lb b:Nat):b0:=⟨0,9,l2 p,eP,db,[],[],[],lb,[],b,.pu eP 2 9 [0,1] [] false false,ud⟩
theorem app:Fn Tryz.prog 11 [] [] [] (fI true) []:=by
 have hn:=XI 0 9 2 ay5 ay5;refine aU [1,2,4,5,6,7,8,10,12] Tryz.func11 ?_;refine bw.iL e3 ay7 ?_;refine⟨_,_,_,fun g=>_,fun g=>_,hn,trivial,rfl,fun _=>rfl,fun x=>?_⟩;obtain⟨p,d7⟩:=x;refine bw.e4 (di.mark 4001 4009 rfl ay5) fun db=>?_
 refine bw.le (ac.trans (ac.vH 1401 3 4001 4009 db rfl rfl rfl) (ac.trans (ac.vI 4001 4009 db rfl rfl) (ac.trans (ac.ro 1101 rfl) (ac.put 1101 4001 ay5 rfl rfl)))) <| bw.e4 (di.mark 3001 3009 rfl ay5) fun lb=>bw.le (ac.trans (ac.vH 1401 5 3001 3009 lb rfl rfl rfl) (ac.trans (ac.vI 3001 3009 lb rfl rfl) (ac.trans (ac.ro 1301 rfl) (ac.put 1301 3001 ay5 rfl rfl)))) <| bw.le (ac.trans (ac.vD 1401 8 rfl rfl) (ac.trans (ac.vD 1401 9 rfl rfl) (ac.trans (ac.vD 1401 16 rfl rfl) (ac.trans (ac.ro 1601 rfl) (ac.W3 1501 1001 rfl ay5))))) ?_
 have au:=OX ay5 d7 db lb;have E:=XX _ au XV (ub.of ay5 ay5 ay5 rfl) rfl;refine bu [4,5,6,7,8,10,12] (cM [(1,aq 1401),(2,ab 0)] (cQ (fZ 0 9 2 p db lb))) <| dt <| bw.iL e3 ay7 <| lP ((XM 97 ay5 ay5).x) fun _=>⟨_,_,_,fun g=>_,fun g=>_,E,aC,rfl,fun _=>rfl,fun x=>?_⟩
 obtain⟨⟨e,dX⟩,ax⟩:=x;have Ep:=au.step ax;obtain⟨U,hw⟩:=api ax;have U:e=0:=U;have hw:dX=_:=hw;subst U hw;have Ep:eX (XZ p db lb):=Ep;have G:=XY _ Ep OY (ub.of ay5 ay5 ay5 rfl) rfl rfl;refine bw.le (cM [(1,aq 1401),(3,ab 0)] (cQ (XZ p db lb))) <| bw.iL e3 ay7 ⟨_,_,_,fun g=>_,fun g=>_,G,aC,rfl,fun _=>rfl,fun x=>?_⟩;obtain⟨⟨e,e6⟩,sm⟩:=x;have x7:=Ep.step sm;obtain⟨U,b,hw⟩:=apj sm;have U:e=0:=U;have hw:e6=_:=hw;subst U hw;have x7:eX (X0 p db lb b):=x7;have af:=XX _ x7 s9 (ub.of ay5 ay5 ay5 rfl) rfl;refine bu [7,8,10,12] (cM [(1,aq 1401),(3,ab 0),(4,ab 0)] (cQ (X0 p db lb b))) <| av (W' (z:=0) (R:=9) (L:=l2 p) (aR:=eP) (db:=db) (lb:=lb) (es:=[]) (M:=[]) (kd:=3) (fB:=qW b (.pu eP 2 9 [0,1] [] false false)) (de:=none) (pu:=some b) (m:=ud)) <| bw.iL e3 ay7 <| lP ((XM 98 ay5 ay5).x) fun _=>⟨_,_,_,fun g=>_,fun g=>_,af,aC,rfl,fun _=>rfl,fun x=>?_⟩
 obtain⟨⟨e,iw⟩,X1⟩:=x;obtain⟨U,a8⟩:=apk x7 X1;have U:e=0:=U;have a8:y7 p 0 iw:=a8;subst U;refine bu [10,12] (cM [(1,aq 1401),(3,ab 0),(4,ab 0),(5,ab 3),(6,ab 0)] (cQ iw)) ?_;clear X1 af x7 G Ep E au sm ax;refine d2 [10,12] (X:=Nat×b0) (fun x=>[(1,aq 1401),(3,ab 0),(4,ab 0),(5,ab 3),(6,ab 0),(36,ab (x.1:Nat))]) (fun x=>cQ x.2) (fun x=>x.1<=3/\y7 p x.1 x.2) (fun x=>3 - x.1) (0,iw) ⟨ay4,a8⟩ ?_ ?_
 .exact ac.sub aC aC
 rintro⟨k,w⟩ ⟨aa,a8⟩;have aa:k<=3:=aa;have a8:y7 p k w:=a8;refine⟨fun h=>?_,fun h=>?_⟩
 .have h:decide ((k:Int) < 3)=true:=h;have eD:k < 3:=by have:=gd h;omega
  have iu:=XY w a8.ok XW (ub.of ay5 ay5 ay5 rfl) rfl rfl;refine bw.iL e3 ay7 ?_;refine⟨_,_,_,fun g=>_,fun g=>_,iu,aC,rfl,fun _=>rfl,fun x=>?_⟩;obtain⟨⟨e,w'⟩,ax⟩:=x;refine⟨ay4,(k+1,w'),⟨by show k+1<=3;omega,apm a8 ax⟩,by show 3 - (k+1) < 3 - k;omega,ac.sub aC aC⟩
 .have h:decide ((k:Int) < 3)=false:=h;have eD:k=3:=by have:=mu h;omega
  subst eD;obtain⟨ap,ae,ao,bm,c0,fQ⟩:=a8;have aT:=ap.q.tonA;have e8:=ap.cs;obtain⟨z,R,L,aR,db,ds,es,M,lb,Q,b,bM,bH⟩:=w;simp only at ae ao bm c0 fQ aT e8;subst ae ao bm c0 fQ;have g':=Fn.nj (b:=lb) [1002] 1301 (aku aT [120]);rw[apf] at g';have cf:=Xa (aR:=eP) (db:=db) (lb:=lb) (es:=es) (M:=M) (kd:=0) (fB:=.nilIface) (de:=none) (pu:=none) (m:=bH) e8 0 1;rw[apc] at cf;obtain⟨r1,r2⟩:=apg;generalize HB [r'] [120]=bo at*;refine bu [] (cM [(1,aq 1401),(3,ab 0),(4,ab 0),(5,ab 3),(6,ab 0)] (cQ ⟨0,R,xf p,eP,db,ds,es,M,lb,[r'],b,.no,bH⟩)) <| av (anJ (z:=0) (R:=R) (L:=xf p) (aR:=eP) (db:=db) (lb:=lb) (es:=es) (M:=M) (kd:=0) (fB:=.nilIface) (de:=none) (pu:=none) (m:=bH)) <| av (anI (z:=0) (R:=R) (L:=xf p) (aR:=eP) (db:=db) (lb:=lb) (es:=es) (M:=M) (kd:=0) (fB:=.nilIface) (de:=none) (pu:=none) (m:=bH)) ⟨fun _ _=>av g' <| av cf <| fb <| fb <| fb <| fb <| av (W' (z:=0) (R:=R) (L:=xf p) (aR:=eP) (db:=db) (lb:=lb) (es:=es) (M:=M) (kd:=0) (fB:=.nilIface) (de:=none) (pu:=none) (m:=bH)) <| fb <| fb ?_,fun h=>az4⟩;have Uh:decide ((bo.length:Int)=32)=true:=by rw[r1];rfl
  exact⟨fun _=>⟨ay5,(97:UInt8),r2,fb <| fb ⟨ay5,(98:UInt8),rfl,fb <| eG br rfl (show decide (eP=eP)=true by decide)⟩⟩,fun h=>Bool.noConfusion (Uh.symm.trans h)⟩
end
section
theorem apq (z R:Int) (h:j7 z 0 R=false):Fn Tryz.prog 26 [ab z,ab R] [] [] (.ci [mP,dz 1]) []:=by
 refine aU [] Tryz.func26 ?_;exact av (SD z 0 R h) <| fb bg
theorem apr (b s r:Int) (h:j7 b s r=false):Fn Tryz.prog 9 [ab b,ab s,ab r] [] [] (.ci [mP,dz 1]) []:=by
 by_cases E:j7 b 0 r=true
 .have aA:=E;simp only[j7,vj,as5] at aA;obtain⟨⟨_,OZ,sm⟩,gX,hm⟩:=aA;obtain⟨z,rfl⟩:=Int.eq_ofNat_of_zero_le gX;obtain⟨R,rfl⟩:=Int.eq_ofNat_of_zero_le OZ;have d7:cb z R []:=cb.nil ay4 ay4
  have U:(hR z R [] eP s [] (0,0)).e=1:=by
   unfold hR;rw[if_pos (by rw[h];rfl)]
  have hn:=SI z R ay4 ay4;have ha:=Oz d7 eP s [] ay5;rw[U] at ha;refine aU [2] Tryz.func9 ?_;exact av hn <| bu [] (ac.close 1001 (bO z R []) (o:=Ee z R []) aC rfl fun I F x p h=>h) <| dt <| av ha <| fb bg
 .have hn:=apq b r (aw7.2 E);refine aU [] Tryz.func9 ?_;exact av hn <| fb bg
theorem X2 (x:kY):mz (b8 x)+(b8 x).ks.length+1<=fV i3 x:=by
 have E:=XJ (b8 x).b;have G:=XL (b8 x).ks;have e:fV i3 x=1+(1+(1+(fV (.b' .u8) (b8 x).b+((1+(b8 x).nm.length)+((1+(b8 x).fp.length)+fV (.b' lY) (b8 x).ks))))):=rfl;have ao:mz (b8 x)=(b8 x).b.length+(b8 x).nm.length+(b8 x).fp.length+((b8 x).ks.map l1).sum:=rfl;rw[e,E,G,ao];omega
theorem X3: ∀l:List kY,l.length+(l.map fun x=>mz (b8 x)).sum<=fV (.b' i3) l/\ ∀x∈l,fV i3 x<=fV (.b' i3) l
 | []=>⟨aq8 _,fun x h=>az4⟩
 |o::l=>by
  obtain⟨E,G⟩:=X3 l;have e:fV (.b' i3) (o::l)=1+(fV i3 o+(List.map (fV i3) l).sum):=rfl;have ao:fV (.b' i3) l=1+(List.map (fV i3) l).sum:=rfl;have bm:=X2 o;refine⟨?_,fun x hx=>?_⟩
  .rw[e,at8,ar4,List.sum_cons];omega
  .rcases aq5.1 hx with rfl |hx
   .rw[e];omega
   .have:=G x hx;rw[e];omega
structure ue (l:List kY):Prop where
 len:l.length<=1048576
 sum:(l.map fun x=>mz (b8 x)).sum<=1048576
 ks: ∀o,o∈l->(b8 o).ks.length<=1048576
 l: ∀o,o∈l->(b8 o).l<=9223372036854775807
theorem ue.of {l:List kY} (h:fV (.b' i3) l<=1048576) (ak: ∀o,o∈l->(b8 o).l<=9223372036854775807):ue l:=by
 obtain⟨E,G⟩:=X3 l;refine⟨ay4,ay4,fun o ah=>?_,ak⟩;have:=G o ah;have:=X2 o;omega
theorem ue.Ba {l:List kY} (h:ue l) (x y aB:Int):Fn Tryz.prog 10 [OU x y aB,bQ i3 l] [] [] (fI (s8 y l)) []:=
 ao3 x y aB l (by have:=h.len;omega) (by have:=h.sum;omega) fun o ah=>by have:=h.ks o ah;omega
theorem ue.aps {l:List kY} (h:ue l) {y:Int} (hf:s8 y l=true) {x:kY} (hx:x∈l):ub (b8 x):=by
 obtain⟨E,G,af⟩:=ao6 hf hx;exact⟨ay4,ay4,h.l x hx,by have:=h.ks x hx;omega,fun k aa=>by have:=af k aa;omega⟩
theorem ue.step {l:List kY} (h:ue l) {x:kY} (hx:x∈l):Fn Tryz.prog 13 [iq (b8 x)] [] [] (iq (b8 x)) []:=ao0 (b8 x) (by have:=h.ks x hx;omega)
abbrev X4 (w:b0):az:=l0 w.z w.R w.L w.es w.M w.aR w.db w.lb (Ec w.bM) (qW w.b w.bM) (w9 w.b w.bM) (xa w.b w.bM) w.bH
theorem apt (w:b0) (h:cb w.z w.R w.L) (a l:Int):Fn Tryz.prog 14 [aq 1401,ab a,ab l] (X4 w) [] (.ci [.one (.d (.co .u8 (rM w.z w.L w.aR a l).1)),dz (rM w.z w.L w.aR a l).2]) (X4 w):=Xa h a l
theorem apu {o:kY} (h:rk i3 o):(b8 o).l<=9223372036854775807:=by
 have G:(Lit.int .i64 (b8 o).l).wf=true:=h.2.2.1;have af:(decide (IntKind.i64.min<=(b8 o).l)&&decide ((b8 o).l<=IntKind.i64.max))=true:=G;simp only[vj] at af;exact gd af.2
theorem apv {l:List kY} (h:rk (.b' i3) l): ∀o,o∈l->(b8 o).l<=9223372036854775807:=fun o ah=>apu (h o ah)
end
section
structure p' (w w':b0):Prop where
 bi:w'.z=w.z
 mR:w'.R=w.R
 aQ:b4 w'.L w'.aR=b4 w.L w.aR
theorem p'.refl (w:b0):p' w w:=⟨rfl,rfl,rfl⟩
theorem p'.s7 (w:b0) (a aX:Int) (r:mY) (ak:i0 w.L w.aR r.L):p' w (gI w a aX r):=by
 unfold gI
 split
 .exact⟨rfl,rfl,(ak.aQ w.aR).1⟩
 .exact⟨rfl,rfl,(ak.aQ w.aR).1⟩
theorem p'.xe {w w':b0} {Q:List bW} {e:Int} (h:vG w Q e w'):p' w w':=by
 rw[y5 h];exact⟨rfl,rfl,rfl⟩
theorem gJ.eI {w w':b0} (ap:eX w) {s:dE} {e:Int} (ax:gJ w s e w'):p' w w':=by
 cases ax with
 |write h=>exact p'.s7 w _ _ _ (wL ap.cs _ _ _)
 |zero h=>exact p'.s7 w _ _ _ (Di ap.cs _ _ _)
 |En h aA=>exact p'.s7 w _ _ _ (tV ap.cs _ _ _)
 |over h V ax=>
  obtain⟨p,d7,U,⟨au,rfl⟩ |⟨au,rfl⟩⟩:=ax
  .obtain⟨bZ,_,cg⟩:=Bq.1 (U.symm.trans au);refine⟨rfl,rfl,?_⟩;show b4 (hR w.z w.R w.L s.nm ((ek w:Nat):Int) w.aR p).L s.nm=_;rw[cg];have H:=yo (L:=w.L) (nm:=s.nm) (back:=w.aR) (ad:=p.1) (am:=p.2) (im:=gi w.z ((ek w:Nat):Int).toNat w.R) s.nm;rw[bZ,if_pos rfl] at H;unfold b4;rw[H];exact ar7
  .rw[Bq.2 (fun h=>au (U.trans h))];exact p'.refl w
 |merge h V ax=>obtain⟨_,⟨_,b,rfl⟩ |⟨_,rfl⟩⟩:=ax <;>exact⟨rfl,rfl,rfl⟩
 |pull h V ax=>obtain⟨_,⟨_,b,rfl⟩ |⟨_,rfl⟩⟩:=ax <;>exact⟨rfl,rfl,rfl⟩
 |push h V ax=>
  rcases ax with⟨_,_,rfl⟩ |⟨hn,⟨_,⟨_,_,rfl⟩ |⟨_,_,b,rfl⟩⟩ |⟨_,_,_,rfl⟩ |⟨_,x,hx,⟨_,_,rfl⟩ |⟨_,⟨_,_,rfl⟩ |⟨_,_,b,ke,rfl⟩⟩⟩⟩ <;>exact⟨rfl,rfl,rfl⟩
 | @Bn h top base l V=>
  obtain⟨t,ak⟩:=XD ap.cs top base l false;exact⟨rfl,rfl,(ak.aQ w.aR).1⟩
 | @Bo h top base V=>exact⟨rfl,rfl,((XC ap.cs top base false).2 w.aR).1⟩
 | @Bp h nm n rm l g V e w' ax=>
  rcases ax with⟨rfl,t,ax,rfl⟩ |⟨ak,rfl,rfl⟩ <;>exact⟨rfl,rfl,rfl⟩
 |drop h ax=>
  rcases ax with⟨_,_,rfl⟩ |⟨_,J⟩
  .exact p'.refl _
  .exact p'.xe J
 |_=>exact⟨rfl,rfl,rfl⟩
end
section
theorem apw {z R:Nat} {L:List aL} (d7:cb z R L) {nm:aC3} {bN:aL} (au:dk L nm=some bN) (a n j:Nat) (V:j < n):kR (jO z L nm (cl L nm) a n) j=jt z L nm (cl L nm) (a+j):=by
 have bV:=fun m=>C5 d7.tont au (d7.b5 nm).1 a m
 induction n with
 |zero=>omega
 |succ n bq=>
  have e:jO z L nm (cl L nm) a (n+1)=jO z L nm (cl L nm) a n++jt z L nm (cl L nm) (a+n):=rfl;rw[e];unfold kR
  by_cases apx:j < n
  .rw[List.take_append_of_le_length (by rw[bV];omega)];exact bq apx
  .have:j=n:=az2
   subst this;have E:=bV (j+1);rw[e,aq1,bV] at E;rw[at2 (by rw[aq1,bV];omega),show j*16=(jO z L nm (cl L nm) a j).length by rw[bV];omega,List.drop_left]
theorem O0 {x y:aC3} {n:Nat} (hx:x.length=16*n) (aD:y.length=16*n) (h: ∀j,j < n->kR x j=kR y j):x=y:=by
 apply List.ext_getElem?;intro i
 by_cases aF:i < 16*n
 .have E:=congrArg (fun aB:aC3=>aB[i % 16]?) (h (i/16) ay4);simp only[sI] at E;rw[if_pos (Nat.mod_lt _ ay5),if_pos (Nat.mod_lt _ ay5),show i/16*16+i % 16=i by omega] at E;exact E
 .rw[ax1 ay4,ax1 ay4]
theorem X5 (X:aC3) (off n:Nat) {ys:aC3} (h:ys.length<=n):laid X off n ys=laid X off ys.length ys:=by
 unfold laid;rw[at2 h,ar9]
theorem X6 {X ys:aC3} {off:Nat} (h:off+ys.length<=X.length):(laid X off ys.length ys).length=X.length:=by
 unfold laid;rw[ar9,aq1,aq1,aq9,au9];omega
theorem X7 {X ys:aC3} {f m:Nat} (j9:16*f+16*m<=X.length) (aD:ys.length=16*m) (j:Nat):kR (laid X (16*f) ys.length ys) j=if f<=j/\j < f+m then kR ys (j - f) else kR X j:=by
 apply List.ext_getElem?;intro i;rw[sI];have ak:=fun aB=>Ma (X:=X) (off:=16*f) (n:=ys.length) (ys:=ys) ay4 rfl aB
 by_cases aF:i < 16
 .rw[if_pos aF,ak]
  by_cases eb:f<=j/\j < f+m
  .rw[if_pos eb,if_neg ay4,if_pos ay4,sI,if_pos aF]
   congr 1
   omega
  .rw[if_neg eb,sI,if_pos aF]
   by_cases E:j*16+i < 16*f
   .rw[if_pos E]
   .rw[if_neg E,if_neg ay4]
 .rw[if_neg aF]
  split
  .rw[sI,if_neg aF]
  .rw[sI,if_neg aF]
end
end Go.Proofs.YtkfbeijmgggkmaaGreat
