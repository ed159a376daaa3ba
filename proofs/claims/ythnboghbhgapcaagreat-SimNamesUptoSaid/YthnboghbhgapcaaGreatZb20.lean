/-
A part of the proof of this claim: lemmas, with no condition beyond what each says.
-/
import Derived.Test.YthnboghbhgapcaaGreatZb19
set_option linter.unusedVariables false
set_option linter.unusedSimpArgs false
set_option maxRecDepth 10000
set_option maxHeartbeats 4000000
namespace Go.Proofs.YthnboghbhgapcaaGreat
open Go.RowKit Go.Proofs
section
theorem Fn.amI {P:Program} {f:FuncId} {args:List aP} {c b:Nat} {aJ:aw} {bc:ay5} {res:aP} {aO:aw} {o o':bf} (h:Fn P f args ((c,.aG o)::aJ) bc res ((c,.aG o')::aO)) (H:bc.contains c=false):Fn P f args ((c,.aG (o.at b))::aJ) bc res ((c,.aG (o'.at b))::aO):=by
 have lv:c∉bc:=vW H
 have key: ∀{X:aw} {aC z':bf} {d:Nat} {ch:bb},ag ((c,bb.aG aC)::X) d=some ch->(d=c/\ch= .aG aC)\/(d≠c/\ag X d=some ch):=fun {X aC z' d ch} J=>by
  rw[ca] at J
  split at J
  .rename_i e;injection J with J;exact .inl ⟨e.symm,J.symm⟩
  .rename_i e;exact .inr ⟨fun ao=>e ao.symm,J⟩
 have to: ∀{X:aw} {aC z':bf} {d:Nat} {ch:bb},ag ((c,bb.aG aC)::X) d=some ch-> ∃ch',ag ((c,bb.aG z')::X) d=some ch':=fun {X aC z' d ch} J=>by
  rcases key (z':=aC) J with⟨rfl,_⟩ |⟨e,J⟩
  .exact⟨_,by rw[ca,if_pos rfl]⟩
  .exact⟨ch,by rw[ca,if_neg (Ne.symm e)];exact J⟩
 refine⟨h.1,fun ρ F I w bW b4 cg a3 a4 a5 gy=>?_⟩;have al:ag ((c,bb.aG (o.at b))::aJ) c=some (.aG (o.at b)):=aw1
 have aD:(ρ c).bj=b/\o.R I (F c) w (ρ c):=cg c _ al;refine(h.2 ρ F I w bW b4 (fun d ch J=>?_) (fun d ch J x hx=>?_) (fun d c1 ch ch' x E G=>?_) a5 gy).mono ?_
 .rcases key (z':=o) J with⟨rfl,rfl⟩ |⟨e,J⟩
  .exact aD.2
  .exact cg d ch (by rw[ca,if_neg (Ne.symm e)];exact J)
 .obtain⟨ch',h'⟩:=to (z':=o.at b) J;exact a3 d ch' h' x hx
 .obtain⟨cC,g1⟩:=to (z':=o.at b) E;obtain⟨cG,g2⟩:=to (z':=o.at b) G;exact a4 d c1 cC cG x g1 g2
 .rintro e w' ⟨x,ρ',F',r1,r2,ga,I',jJ,lC,l6,lD,mH,nQ⟩
  have bh: ∀y,(∃d ch,ag ((c,bb.aG o)::aJ) d=some ch/\F d y)-> ∃d ch,ag ((c,bb.aG (o.at b))::aJ) d=some ch/\F d y:=fun y ⟨d,ch,g1,g2⟩=>by
   obtain⟨ch',cZ⟩:=to (z':=o.at b) g1;exact⟨d,ch',cZ,g2⟩
  refine⟨x,ρ',F',r1,r2.mono fun y _ aB=>bh y aB,ga,I',jJ,fun y aB=>⟨(lC y aB).1,(lC y aB).2.imp id (Or.imp (bh y) id)⟩,fun d ch J=>?_,fun d ch J y aB=>?_,fun d c1 ch ch' y g1 g2 a2 aB=>?_,nQ⟩
  .rcases key (z':=o') J with⟨rfl,rfl⟩ |⟨e,J⟩
   .have:=l6 d _ aw1;exact⟨by rw[ga d lv];exact aD.1,this⟩
   .exact l6 d ch (by rw[ca,if_neg (Ne.symm e)];exact J)
  .obtain⟨ch',cZ⟩:=to (z':=o') J;obtain⟨cx,cA,dy⟩:=lD d ch' cZ y aB;exact⟨cx,cA,dy.imp (bh y) id⟩
  .obtain⟨cC,cx⟩:=to (z':=o') g1;obtain⟨cG,cA⟩:=to (z':=o') g2;exact mH d c1 cC cG y cx cA a2 aB
theorem Fn.HK {P:Program} {f:FuncId} {args:List aP} {aJ m6:aw} {bc:ay5} {res:aP} {aO nR:aw} (h:Fn P f args aJ bc res aO) (E: ∀c,ag m6 c=ag aJ c) (G: ∀c,ag nR c=ag aO c):Fn P f args m6 bc res nR:=by
 unfold Fn at h⊢;simpa only[E,G] using h
def Wo (us:Bool) (es:List (aa ak×aa ak)) (x:bd):bd:={x with us:=us,es:=es}
def Wp (l:List bd) (to fr:ay4):List bd×Int:=match c3 l to,c3 l fr with
 |some a,some b=>if b.s=a.s then(mT l a.ad (Wo (a.us&&b.us) (wx a.s a.g a.es (qt b.s b.g b.es))),0) else(l,1)
 |_,_=>(l,112)
theorem dS.c8 {l:List bd} (h:dS l) (to fr:ay4):dS (Wp l to fr).1:=by
 unfold Wp
 split
 .rename_i a b ha O
  split
  .exact h.c5 (u:=Wo (a.us&&b.us) (wx a.s a.g a.es (qt b.s b.g b.es))) (fun _=>⟨rfl,rfl,rfl⟩) fun e V ao=>by
    have:=u2 h.lh V (jR ha).1 ao;subst this;obtain⟨ci,cN,ec,eG⟩:=h.ok e V;exact⟨ci,cN,TH ec _ _⟩
  .exact h
 .exact h
end
section
section
variable {z U:Nat} {L:List aN} {a8:ay4} {db lb:Nat} {kd:Int} {fh:Value} {c8 pu:Option Nat} {m:Made} {es:e3} {M:dN}
abbrev k0 (z U:Nat) (L:List aN) (es:e3) (M:dN) (a8:ay4) (db lb:Nat) (kd:Int) (fh:Value) (c8 pu:Option Nat) (m:Made):aw:=[oq z U L,pY es M,(1401,.cells (HJ z a8 db lb kd fh c8 pu m))]
theorem tR:Fn Tryz.prog 67 [ap 1401] (k0 z U L es M a8 db lb kd fh c8 pu m) [] gJ (k0 z U L es M a8 db lb 0 .nilIface none none m):=by
 refine aU [] Tryz.func67 ?_;exact⟨_,_,_,ae.trans (ae.vo 1401 8 rfl rfl) (ae.vo 1401 9 rfl rfl),rfl,trivial,aA,rfl⟩
theorem HL (k:Int) (T:Nat) (p:Value):Fn Tryz.prog 57 [ap 1401,ac k,.c (.one (.bJ (.iface T p)))] (k0 z U L es M a8 db lb kd fh c8 pu m) [] (ac 0) (k0 z U L es M a8 db lb k (.iface T p) c8 pu m):=by
 refine aU [] Tryz.func57 ?_;exact bg
theorem Wq:Fn Tryz.prog 11 [ap 1401] (k0 z U L es M a8 db lb kd fh c8 pu m) [] (bU a8) (k0 z U L es M a8 db lb kd fh c8 pu m):=by
 refine aU [] Tryz.func11 ?_;exact bg
theorem Wr:Fn Tryz.prog 10 [ap 1401] (k0 z U L es M a8 db lb kd fh c8 pu m) [] (ac kd) (k0 z U L es M a8 db lb kd fh c8 pu m):=by
 refine aU [] Tryz.func10 ?_;exact bg
theorem amJ:Fn Tryz.prog 12 [ap 1401] (k0 z U L es M a8 db lb kd fh c8 pu m) [] (ap 1001) (k0 z U L es M a8 db lb kd fh c8 pu m):=by
 refine aU [] Tryz.func12 ?_;exact bg
theorem amK:Fn Tryz.prog 23 [ap 1401] (k0 z U L es M a8 db lb kd fh c8 pu m) [] (dn lb) (k0 z U L es M a8 db lb kd fh c8 pu m):=by
 refine aU [] Tryz.func23 ?_;exact bg
theorem amL (h:cE z U L) (a l:Int):Fn Tryz.prog 25 [ap 1401,ac a,ac l] (k0 z U L es M a8 db lb kd fh c8 pu m) [] (.cf [.one (.d (.ck .u8 (Ae z L a8 a l).1)),dw (Ae z L a8 a l).2]) (k0 z U L es M a8 db lb kd fh c8 pu m):=by
 refine aU [] Tryz.func25 ?_;exact ar ((af5 h a8 a l).ch) ⟨eB au8,bg⟩
theorem Ws (q:Nat) (ch:bb) (B:aw) (h:ag B q=none) (c:Nat):ag (B++[(q,ch)]) c=ag ((q,ch)::B) c:=by
 simp only[iF,ca]
 by_cases e:q=c
 .subst e;simp[h]
 .simp only[if_neg e]
  cases ag B c <;>rfl
theorem Nz {f:FuncId} {args:List aP} {res:aP} (h:Fn Tryz.prog f args [(1004,.aG (.bA (h6 L)))] [] res [(1004,.aG (.bA (h6 L)))]) (E:nO 1001 [1002,1003,1004] args (bP z U L) [] [] []=true:=by first |rfl |decide)
  (G:nP 1001 (mF [1002,1003,1004] [] []) res (bP z U L) []=true:=by first |rfl |decide):Fn Tryz.prog f args [oq z U L] [] res [oq z U L]:=
 Fn.ch (Fn.HK (Fn.qj [(1001,.cells (KQ z U)),(1002,.map .str .aL (c4 L)),(1003,.aG (.bA (l8 L)))] h rfl rfl) (fun c=>Ws 1004 _ [_,_,_] rfl c) (fun c=>Ws 1004 _ [_,_,_] rfl c)) E G
theorem NA (h:cE z U L) {d:aN} (J:dk L a8=some d):Fn Tryz.prog 53 [ap 1401] (k0 z U L es M a8 db lb kd fh c8 pu m) [] (ac (d.im.t.length:Nat)) (k0 z U L es M a8 db lb kd fh c8 pu m):=by
 have aq:=h.tohW.M (cV J).1;refine aU [] Tryz.func53 ?_;exact ar ((jd _ _ L h.tohW a8 d J).ch) <| ar (Nz (hy (mL d.im) aq rfl rfl rfl rfl)) ⟨eB au8,bg⟩
structure dB where
 kd:Int
 a:Int
 l:Int
 b:ay4
 nm:ay4
 fp:ay4
 ks:List lT
abbrev NB (s:dB):List bC:=[.d (.int .i64 s.kd),.d (.int .i64 s.a),.d (.int .i64 s.l),.d (.ck .u8 s.b),.d (.str s.nm),.d (.str s.fp),.d (.ck lS s.ks)]
abbrev ic (s:dB):aP:=.c (.agg (NB s))
abbrev rO (s:dB):aw:=[(2,.cells [.ptr 1401 0]),(3,.cells (NB s))]
abbrev wQ (z U:Nat) (L:List aN) (es:e3) (M:dN) (a8:ay4) (db lb:Nat) (kd:Int) (fh:Value) (c8 pu:Option Nat) (m:Made) (s:dB):aw:=k0 z U L es M a8 db lb kd fh c8 pu m++rO s
theorem amM (h:cE z U L) (s:dB) (O:s.b.length<=1000000000):Fn Tryz.prog 47 [ap 2,ap 3] (wQ z U L es M a8 db lb kd fh c8 pu m s) [] (ac (hI z L a8 s.a s.b).e) (wQ z U (hI z L a8 s.a s.b).L es M a8 db lb kd fh c8 pu m s):=by
 refine aU [] Tryz.func47 ?_;exact ar ((Lk h a8 s.a s.b O).ch) ⟨eB au8,bg⟩
theorem amN (h:cE z U L) (s:dB):Fn Tryz.prog 49 [ap 2,ap 3] (wQ z U L es M a8 db lb kd fh c8 pu m s) [] (ac (mc z L a8 s.a s.l).e) (wQ z U (mc z L a8 s.a s.l).L es M a8 db lb kd fh c8 pu m s):=by
 refine aU [] Tryz.func49 ?_;exact ar ((SI h a8 s.a s.l).ch) ⟨eB au8,bg⟩
theorem amO (h:cE z U L) (s:dB):Fn Tryz.prog 51 [ap 2,ap 3] (wQ z U L es M a8 db lb kd fh c8 pu m s) [] (ac (mQ L a8 s.a s.l).e) (wQ z U (mQ L a8 s.a s.l).L es M a8 db lb kd fh c8 pu m s):=by
 refine aU [] Tryz.func51 ?_;exact ar ((SJ h a8 s.a s.l).ch) ⟨eB au8,bg⟩
end
end
section
abbrev jC (z U:Nat) (L:List aN) (b:Nat) (j:kD):aw:=[oq z U L,(1501,.cn 1001 (Wi z b j))]
theorem Fn.qM {f:FuncId} {args:List aP} {z U:Nat} {L L':List aN} {res:aP} {b:Nat} {bo dv:aw} (h:Fn Tryz.prog f (.c (.one (.ptr 2001 0))::args) (bP z U L++bo) [] res (bP z U L'++dv)) (ab:J9 2001 1001 1501 args (bP z U L) bo res (bP z U L') dv=true)
  (E:nO 1001 [1002,1003,1004] (.c (.one (.d (.aL (some b))))::args) (bP z U L) [(1501,.cn 1001 (nT b 2001 1001 bo))] [] []=true) (G:nP 1001 (mF [1002,1003,1004] [] []) res (bP z U L') [(1501,.cn 1001 (nT b 2001 1001 dv))]=true):
  Fn Tryz.prog f (.c (.one (.d (.aL (some b))))::args) [oq z U L,(1501,.cn 1001 (nT b 2001 1001 bo))] [] res [oq z U L',(1501,.cn 1001 (nT b 2001 1001 dv))]:=
 Fn.yI (h.acD ab) E G
section
variable {z U:Nat} {L:List aN} {top base nm:ay4} {l:ay5} {over done:Bool} {b:Nat} {n rm:Int} {g:List (Nat×ay4)}
theorem amP (h:kS z U L top l):Fn Tryz.prog 285 [dn b] (jC z U L b (.c8 top base l over)) [] (.cf [.one (.d (.bool (fz z L top base l over).done)),dw (fz z L top base l over).e]) (jC z U (fz z L top base l over).L b (.c8 top base (fz z L top base l over).l (fz z L top base l over).over)):=
 Fn.qM (bo:=sS ..) (dv:=sS ..) (h.LF base over) rfl rfl rfl
theorem HM:Fn Tryz.prog 284 [dn b] (jC z U L b (.c8 top base l over)) [] (fK over) (jC z U L b (.c8 top base l over)):=
 Fn.qM (bo:=sS ..) (dv:=sS ..) (agy z U L top base l over) rfl rfl rfl
theorem amQ:Fn Tryz.prog 283 [dn b] (jC z U L b (.c8 top base l over)) [] gJ (jC z U L b (.c8 top base [] true)):=
 Fn.qM (bo:=sS ..) (dv:=sS ..) (agz z U L top base l over) rfl rfl rfl
theorem amR (h:cE z U L) (a aZ:Int) (uU:aZ<=9223372036854775807) {d:aN} (J:dk L top=some d):Fn Tryz.prog 84 [dn b,ac a,ac aZ] (jC z U L b (.c8 top base l over)) [] gJ (jC z U L b (.c8 top base (ry z L top l over a aZ) over)):=
 Fn.qM (bo:=sS ..) (dv:=sS ..) (agI h base l over a aZ uU J) rfl rfl rfl
theorem amS (h:cE z U L) {d:aN} (J:dk L top=some d):Fn Tryz.prog 297 [dn b] (jC z U L b (.pl top base over)) [] (.cf [.one (.d (.bool (iH z L top base over).done)),dw (iH z L top base over).e]) (jC z U (iH z L top base over).L b (.pl top base (iH z L top base over).over)):=
 Fn.qM (bo:=vp ..) (dv:=vp ..) (ahQ h base over J) rfl rfl rfl
theorem HN:Fn Tryz.prog 296 [dn b] (jC z U L b (.pl top base over)) [] (fK over) (jC z U L b (.pl top base over)):=
 Fn.qM (bo:=vp ..) (dv:=vp ..) (ahE z U L top base over) rfl rfl rfl
theorem amT:Fn Tryz.prog 295 [dn b] (jC z U L b (.pl top base over)) [] gJ (jC z U L b (.pl top base true)):=
 Fn.qM (bo:=vp ..) (dv:=vp ..) (ahF z U L top base over) rfl rfl rfl
theorem amU (h:fm z U L nm l g):Fn Tryz.prog 292 [dn b] (jC z U L b (.pu nm n rm l g over done)) [] (.cf [.one (.d (.bool (i1 z L nm rm l g over done).rv)),dw (i1 z L nm rm l g over done).e])
  (jC z U L b (.pu nm n rm (i1 z L nm rm l g over done).l (i1 z L nm rm l g over done).g (i1 z L nm rm l g over done).over (i1 z L nm rm l g over done).done)):=
 Fn.qM (bo:=nw ..) (dv:=nw ..) (h.LF n rm over done) rfl rfl rfl
theorem NC:Fn Tryz.prog 291 [dn b] (jC z U L b (.pu nm n rm l g over done)) [] (fK over) (jC z U L b (.pu nm n rm l g over done)):=
 Fn.qM (bo:=nw ..) (dv:=nw ..) (ag7 z U L nm n rm l g over done) rfl rfl rfl
theorem Wt:Fn Tryz.prog 65 [dn b] (jC z U L b (.pu nm n rm l g over done)) [] (fK done) (jC z U L b (.pu nm n rm l g over done)):=
 Fn.qM (bo:=nw ..) (dv:=nw ..) (ag8 z U L nm n rm l g over done) rfl rfl rfl
theorem amV:Fn Tryz.prog 175 [dn b] (jC z U L b (.pu nm n rm l g over done)) [] gJ (jC z U L b (.pu nm n rm [] g true done)):=
 Fn.qM (bo:=nw ..) (dv:=nw ..) (Tc z U L nm n rm l g over done) rfl rfl rfl
theorem amW (h:fm z U L nm l g) (a aZ:Int) (G:aZ<=9223372036854775807):Fn Tryz.prog 82 [dn b,ac a,ac aZ] (jC z U L b (.pu nm n rm l g over done)) [] (ac (jz z L nm rm a aZ l g over).e)
  (jC z U L b (.pu nm n rm (jz z L nm rm a aZ l g over).l (jz z L nm rm a aZ l g over).g (jz z L nm rm a aZ l g over).over done)):=
 Fn.qM (bo:=nw ..) (dv:=nw ..) (h.ahs n rm over done a aZ G) rfl rfl rfl
theorem Wu (h:fm z U L nm l g):Fn Tryz.prog 101 [dn b] (jC z U L b (.pu nm n rm l g over true)) [] (.cf [.one (.d (.ck tI (n4 g))),.one (.d (.int .i64 n)),.one (.d (.bool true))]) (jC z U L b (.pu nm n rm l g over true)):=
 Fn.qM (bo:=nw ..) (dv:=nw ..) (h.aht n rm over) rfl rfl rfl
end
end
section
def qN (z:Nat) (L:List aN) (a aZ:Int):kD->kD
 | .pu nm n rm l g over done=>if(jz z L nm rm a aZ l g over).e=0 then .pu nm n rm (jz z L nm rm a aZ l g over).l (jz z L nm rm a aZ l g over).g (jz z L nm rm a aZ l g over).over done else .no
 |j=>j
def DR (z:Nat) (L:List aN) (a aZ:Int):kD->kD
 | .c8 top base l over=>.c8 top base (ry z L top l over a aZ) over
 |j=>j
def DS (a aZ:Int) (j:kD) (ed:Option (Nat×DO)):Option (Nat×DO):=match wP 0 j with
 |none=>ed
 |some _=>ed.map fun p=>(p.1,p.2.1,p.2.2.1,nk p.2.1 p.2.2.1 p.2.2.2 a aZ)
def ix (w:cc) (a aZ:Int) (r:o2):cc:=if r.e=0 then {w with L:=r.L,ds:=w.ds.map (kZ a aZ),bR:=DR w.z r.L a aZ (qN w.z w.L a aZ w.bR),bI:={w.bI with ed:=DS a aZ (qN w.z w.L a aZ w.bR) w.bI.ed}} else {w with L:=r.L,bR:=qN w.z w.L a aZ w.bR}
def wR (z U:Nat) (L:List aN) (a8:ay4):kD->Prop
 | .no=>True
 | .c8 top base l over=>top=a8/\over=false/\kS z U L top l
 | .pl top base over=>top=a8/\over=false
 | .pu nm n rm l g over done=>nm=a8/\over=false/\done=false/\n=((cO L a8:Nat):Int)/\fm z U L nm l g
theorem amX (q b:Nat) (s g:Int) (es:List (aa ak×aa ak)) (a aZ:Int) (ax:0<=s/\s<=4096) (a1:1<=g/\g<=64):Fn Tryz.prog 85 [dn b,ac a,ac aZ] [(1601,.aG (.bA [(b,fg s g es)]))] [] (ac (if x8 s a aZ then 0 else 1)) [(1601,.aG (.bA [(b,fg s g (nk s g es a aZ))]))]:=
 Fn.m' [1002] 1601 (LK s g es a aZ ax a1)
abbrev HO (w:cc) (s:dB) (f:Nat) (r:o2):Prop:= ∀(kd:Int) (fh:Value) (c8 pu:Option Nat),Fn Tryz.prog f [ap 2,ap 3] (wQ w.z w.U w.L w.es w.M w.a8 w.db w.lb kd fh c8 pu w.bI s) [] (ac r.e) (wQ w.z w.U r.L w.es w.M w.a8 w.db w.lb kd fh c8 pu w.bI s)
theorem Wv (w:cc) (s:dB) (f:Nat) (a aZ:Int) (r:o2) (Z:w.bR= .no\/ ∃top base over,w.bR= .pl top base over) (jK:dS w.ds) (hf:HO w s f r):
  Fn Tryz.prog 46 [ap 1401,ac a,ac aZ,.c (.one (.cU f [.p 2 0,.p 3 0]))] (cP w++rO s) [] (ac r.e) (cP (ix w a aZ r)++rO s):=by
 obtain⟨z,U,L,a8,db,ds,es,M,lb,Q,b,bR,bI⟩:=w;simp only at Z jK;have hw:=Fn.m' (b:=db) [1002,1003,1004] 1101 (Nu jK a aZ);have ai:wO b bR=none:=by rcases Z with rfl |⟨_,_,_,rfl⟩ <;>rfl
 have ao:wP b bR=none:=by rcases Z with rfl |⟨_,_,_,rfl⟩ <;>rfl
 have bl:qN z L a aZ bR=bR:=by rcases Z with rfl |⟨_,_,_,rfl⟩ <;>rfl
 have c2:DR z r.L a aZ bR=bR:=by rcases Z with rfl |⟨_,_,_,rfl⟩ <;>rfl
 have fS:DS a aZ bR bI.ed=bI.ed:=by rcases Z with rfl |⟨_,_,_,rfl⟩ <;>rfl
 have hf:=hf (DN bR) (qL b bR) (wO b bR) (wP b bR)
 by_cases V:r.e=0
 .have p8:ix ⟨z,U,L,a8,db,ds,es,M,lb,Q,b,bR,bI⟩ a aZ r=⟨z,U,r.L,a8,db,ds.map (kZ a aZ),es,M,lb,Q,b,bR,bI⟩:=by
   unfold ix;simp only[bl,c2,fS,if_pos V]
  rw[p8];refine aU [] Tryz.func46 ?_;refine⟨fun _ h=>(by rw[ao] at h;cases h),fun _=>ar hf ⟨fun h=>absurd h ay0,fun h=>ar hw ?_⟩⟩;refine⟨fun _ h=>(by rw[ai] at h;cases h),fun _=>?_⟩;exact⟨fun _ h=>(by rw[ao] at h;cases h),fun _=>eq bp rfl V.symm⟩
 .have p8:ix ⟨z,U,L,a8,db,ds,es,M,lb,Q,b,bR,bI⟩ a aZ r=⟨z,U,r.L,a8,db,ds,es,M,lb,Q,b,bR,bI⟩:=by
   unfold ix;simp only[bl,if_neg V]
  rw[p8];refine aU [] Tryz.func46 ?_;exact⟨fun _ h=>(by rw[ao] at h;cases h),fun _=>ar hf ⟨fun h=>bg,fun h=>absurd h ay0⟩⟩
theorem amY (w:cc) (s:dB) (f:Nat) (a aZ:Int) (r:o2) {top base:ay4} {l:ay5} {over:Bool} (Z:w.bR= .c8 top base l over) (jK:dS w.ds) (gk:cE w.z w.U r.L) {d:aN} (J:dk r.L top=some d) (uU:aZ<=9223372036854775807) (hf:HO w s f r):
  Fn Tryz.prog 46 [ap 1401,ac a,ac aZ,.c (.one (.cU f [.p 2 0,.p 3 0]))] (cP w++rO s) [] (ac r.e) (cP (ix w a aZ r)++rO s):=by
 obtain⟨z,U,L,a8,db,ds,es,M,lb,Q,b,bR,bI⟩:=w;simp only at Z jK gk;subst Z;have hw:=Fn.m' (b:=db) [1002,1003,1004] 1101 (Nu jK a aZ);have az:=amR (b:=b) (base:=base) (l:=l) (over:=over) gk a aZ uU J;have hf:=hf 1 (qL b (.c8 top base l over)) (some b) none
 by_cases V:r.e=0
 .have p8:ix ⟨z,U,L,a8,db,ds,es,M,lb,Q,b,.c8 top base l over,bI⟩ a aZ r=⟨z,U,r.L,a8,db,ds.map (kZ a aZ),es,M,lb,Q,b,.c8 top base (ry z r.L top l over a aZ) over,bI⟩:=by
   unfold ix;simp only[if_pos V,qN,DR,DS,wP]
  rw[p8];refine aU [] Tryz.func46 ?_;exact⟨fun _ h=>av5,fun _=>ar hf ⟨fun h=>absurd h ay0,fun h=>ar hw ⟨fun _ _=>ar az ⟨fun _ h=>av5,fun _=>eq bp rfl V.symm⟩,fun h=>av5⟩⟩⟩
 .have p8:ix ⟨z,U,L,a8,db,ds,es,M,lb,Q,b,.c8 top base l over,bI⟩ a aZ r=⟨z,U,r.L,a8,db,ds,es,M,lb,Q,b,.c8 top base l over,bI⟩:=by
   unfold ix;simp only[if_neg V,qN]
  rw[p8];refine aU [] Tryz.func46 ?_;exact⟨fun _ h=>av5,fun _=>ar hf ⟨fun h=>bg,fun h=>absurd h ay0⟩⟩
theorem amZ (w:cc) (s:dB) (f:Nat) (a aZ:Int) (r:o2) {nm:ay4} {n rm:Int} {l:ay5} {g:List (Nat×ay4)} {over done:Bool} (Z:w.bR= .pu nm n rm l g over done) (jK:dS w.ds) (af:fm w.z w.U w.L nm l g) (uU:aZ<=9223372036854775807)
  (rE: ∀p,w.bI.ed=some p->(0<=p.2.1/\p.2.1<=4096)/\1<=p.2.2.1/\p.2.2.1<=64) (hf:HO w s f r):
  Fn Tryz.prog 46 [ap 1401,ac a,ac aZ,.c (.one (.cU f [.p 2 0,.p 3 0]))] (cP w++rO s) [] (ac r.e) (cP (ix w a aZ r)++rO s):=by
 obtain⟨z,U,L,a8,db,ds,es,M,lb,Q,b,bR,bI⟩:=w;simp only at Z jK af rE;subst Z;have hw:=Fn.m' (b:=db) [1002,1003,1004] 1101 (Nu jK a aZ);have O:=amW (b:=b) (n:=n) (rm:=rm) (over:=over) (done:=done) af a aZ uU;have JN:qN z L a aZ (.pu nm n rm l g over done)=if(jz z L nm rm a aZ l g over).e=0 then .pu nm n rm (jz z L nm rm a aZ l g over).l (jz z L nm rm a aZ l g over).g (jz z L nm rm a aZ l g over).over done else .no:=rfl
 unfold ix;simp only[JN];generalize jz z L nm rm a aZ l g over=y at*
 by_cases aB:y.e=0
 .have hf:=hf 3 (qL b (.pu nm n rm l g over done)) none (some b);simp only[if_pos aB]
  by_cases V:r.e=0
  .simp only[if_pos V];obtain⟨f0,eM,ed⟩:=bI
   cases ed with
   |none=>
    show Fn _ _ _ _ _ _ (cP ⟨z,U,r.L,a8,db,ds.map (kZ a aZ),es,M,lb,Q,b,.pu nm n rm y.l y.g y.over done,⟨f0,eM,none⟩⟩++rO s);refine aU [] Tryz.func46 ?_;exact⟨fun _ _=>ar O ⟨fun h=>absurd h (by simp[aB]),fun _=>ar hf ⟨fun h=>absurd h ay0,fun h=>ar hw ⟨fun _ h=>av5,fun _=>⟨fun _ _=>⟨fun _ h=>av5,fun _=>eq bp rfl V.symm⟩,fun h=>av5⟩⟩⟩⟩,fun h=>av5⟩
   |some p=>
    obtain⟨kE,aQ,ND,DG⟩:=p;obtain⟨ci,cN⟩:=rE _ rfl;have ax:=amX 1601 kE aQ ND DG a aZ ci cN;show Fn _ _ _ _ _ _ (cP ⟨z,U,r.L,a8,db,ds.map (kZ a aZ),es,M,lb,Q,b,.pu nm n rm y.l y.g y.over done,⟨f0,eM,some (kE,aQ,ND,nk aQ ND DG a aZ)⟩⟩++rO s);refine aU [] Tryz.func46 ?_;exact⟨fun _ _=>ar O ⟨fun h=>absurd h (by simp[aB]),fun _=>ar hf ⟨fun h=>absurd h ay0,fun h=>ar hw ⟨fun _ h=>av5,fun _=>⟨fun _ _=>⟨fun _ _=>ar ax <| eq bp rfl V.symm,fun h=>av5⟩,fun h=>av5⟩⟩⟩⟩,fun h=>av5⟩
  .simp only[if_neg V];refine aU [] Tryz.func46 ?_;exact⟨fun _ _=>ar O ⟨fun h=>absurd h (by simp[aB]),fun _=>ar hf ⟨fun h=>bg,fun h=>absurd h ay0⟩⟩,fun h=>av5⟩
 .have hf:=hf 0 .nilIface none none;have a1:=tR (z:=z) (U:=U) (L:=L) (a8:=a8) (db:=db) (lb:=lb) (kd:=3) (fh:=qL b (.pu nm n rm l g over done)) (c8:=none) (pu:=some b) (m:=bI) (es:=es) (M:=M);simp only[if_neg aB]
  by_cases V:r.e=0
  .simp only[if_pos V];show Fn _ _ _ _ _ _ (cP ⟨z,U,r.L,a8,db,ds.map (kZ a aZ),es,M,lb,Q,b,.no,bI⟩++rO s);refine aU [3] Tryz.func46 ?_;exact⟨fun _ _=>ar O ⟨fun _=>ar a1 <| bz [] (ae.qK 1501 1001 rfl) <| ar hf ⟨fun h=>absurd h ay0,fun h=>ar hw ⟨fun _ h=>av5,fun _=>⟨fun _ h=>av5,fun _=>eq bp rfl V.symm⟩⟩⟩,fun h=>absurd h (by simp[aB])⟩,fun h=>av5⟩
  .simp only[if_neg V];refine aU [3] Tryz.func46 ?_;exact⟨fun _ _=>ar O ⟨fun _=>ar a1 <| bz [] (ae.qK 1501 1001 rfl) <| ar hf ⟨fun h=>bg,fun h=>absurd h ay0⟩,fun h=>absurd h (by simp[aB])⟩,fun h=>av5⟩
end
section
structure nx (L:List bL):Prop extends lm L where
 AR:qH L
theorem nx.op {L:List bL} (h:nx L) (o:tK):nx (G4 L o):=by
 have E:nx (Ay L o):=by
  unfold Ay
  split
  .exact⟨h.tolm.add _,h.AR.add _⟩
  .exact h
 unfold G4
 split
 .exact⟨Mx E.tolm _,E.AR.drop _⟩
 .exact E
end
section
theorem HP (es:e3) (k:ay4) (a:Option Nat):iv (kC es k a) k=a/\ ∀j,j≠k->iv (kC es k a) j=iv es j:=by
 obtain⟨E,G⟩:=zz (aI:=.str) (aK:=.aL) qf (k:aa .str) (a:aa .aL) es;refine⟨?_,fun j Z=>?_⟩
 .show((b0 (aI:=.str) (aK:=.aL) (dr (aI:=.str) (aK:=.aL) es k a) k).getD (cL .aL))=a;rw[E];rfl
 .show((b0 (aI:=.str) (aK:=.aL) (dr (aI:=.str) (aK:=.aL) es k a) j).getD (cL .aL))=_;rw[G j Z];rfl
theorem Ww {es:e3} (h:eZ es) (k:ay4):iv (ji es k) k=none/\ ∀j,j≠k->iv (ji es k) j=iv es j:=by
 obtain⟨E,G⟩:=B5 (aI:=.str) (aK:=.aL) qf (k:aa .str) es h;refine⟨?_,fun j Z=>?_⟩
 .show((b0 (aI:=.str) (aK:=.aL) (gH (aI:=.str) (aK:=.aL) es k) k).getD (cL .aL))=none;rw[E];rfl
 .show((b0 (aI:=.str) (aK:=.aL) (gH (aI:=.str) (aK:=.aL) es k) j).getD (cL .aL))=_;rw[G j Z];rfl
theorem am0 {es:e3} (h:eZ es) (G: ∀p,p∈es->pi p=pX\/pi p=gx):es.length<=2:=by
 match es,h,G with
 | [],_,_=>exact ap7 _
 | [_],_,_=>exact Nat.le_succ 1
 | [_,_],_,_=>exact ap0 _
 |x::y::aC::l,h,G=>
  exfalso
  have ne: ∀{p q:aa .str×aa .aL},fW .str p.1 q.1=false->pi p≠pi q:=fun {p q} e bk=>by
   have:fW .str p.1 q.1=true:=(qf p.1 q.1).2 bk;rw[e] at this
   cases this
  obtain⟨b4,cg⟩:=List.pairwise_cons.1 h;obtain⟨b1,b2⟩:=List.pairwise_cons.1 cg;have cI:=ne (b4 y au7);have dF:=ne (b4 aC au7);have ld:=ne (b1 aC au7);rcases G x au7 with ai |ai <;>rcases G y au7 with ao |ao <;>rcases G aC au7 with bl |bl <;>simp_all
structure mn (es:e3) (M:dN) (Q:List bL):Prop where
 h7:eZ es
 two: ∀p,p∈es->pi p=pX\/pi p=gx
 bA:lU es M 0
 Wx: ∀p,p∈M->p.2.eU=[]/\p.2.lP=p.2.bF
 ck:(iv es pX=none/\Q=[])\/ ∃a m,iv es pX=some a/\hN M a=some m/\yF m 512 4096 (jg Q)/\((jg Q).length:Int)<=dq 512*16
theorem Wy:(pX:ay4)≠gx:=by decide
theorem am1 {M:dN} {a:Nat} {m:bY} (h:hN M a=some m):a∈M.map (·.1):=aq6 (f:=fun p:Nat×bY=>p.1) (Nb h)
theorem mn.am2 {es:e3} {M:dN} {Q:List bL} (h:mn es M Q):iv (ji es gx) gx=none/\(ji es gx).length < 16/\ ∀b,iv (kC (ji es gx) gx (some b)) gx=some b:=by
 have G:(ji es gx).length<=2:=am0 (eZ.k7 h.h7) fun p af=>h.two p (zA af)
 exact⟨(Ww h.h7 gx).1,au5,fun b=>(HP _ _ _).1⟩
theorem mn.am3 {es:e3} {M:dN} {Q Q':List bL} (h:mn es M Q) {b:Nat} (O:b∉M.map (·.1)):mn (vm 512 es Q' b) ((b,tQ 512 4096 Q' b)::M) (if wM 512 Q'=0 then Q' else Q):=by
 have ci:eZ (ji es gx):=eZ.k7 h.h7;have cN:eZ (kC (ji es gx) gx (some b)):=eZ.put qf ci
 have tL: ∀p,p∈kC (ji es gx) gx (some b)->pi p=pX\/pi p=gx:=fun p af=>by
  rcases DJ af with rfl |af
  .exact .inr rfl
  .exact h.two p (zA af)
 have hf: ∀m,(m=tQ 512 4096 Q' b)-> ∀p,p∈((b,m)::M:dN)->m.eU=[]/\m.lP=m.bF->p.2.eU=[]/\p.2.lP=p.2.bF:=fun m _ p af az=>by
  rcases ap3.1 af with rfl |af
  .exact az
  .exact h.Wx p af
 by_cases H:((jg Q').length:Int)<=dq 512*16
 .have pn:=ama (n:=512) (U:=4096) rfl au6 au6 H;have ai:wM 512 Q'=0:=if_pos H;have ao:vm 512 es Q' b=_:=if_pos H;have bl:tQ 512 4096 Q' b=_:=if_pos H;have af:=(h.bA.k7 gx).add (k:=gx) (m:=vk 512 4096 (jg Q')) O pn.ok (by rw[pn.hm];exact ap0 _);have g1:=(HP (ji es gx) gx (some b)).1;rw[ai,if_pos rfl,ao,bl];refine⟨eZ.put qf (eZ.k7 cN),fun p af=>?_,af.aV g1,fun p af=>hf _ bl.symm p af ⟨pn.hm,pn.DE⟩,.inr ⟨b,_,(HP _ _ _).1,if_pos rfl,pn,H⟩⟩;rcases DJ af with rfl |af
  .exact .inl rfl
  .exact tL p (zA af)
 .have ai:wM 512 Q'=1:=if_neg H;have ao:vm 512 es Q' b=_:=if_neg H;have bl:tQ 512 4096 Q' b=_:=if_neg H;have af:=(h.bA.k7 gx).add (k:=gx) (m:=kB 512 4096) O (e2.new rfl) (ap0 _);rw[ai,if_neg au6,ao,bl];refine⟨cN,tL,af,fun p af=>hf _ bl.symm p af ⟨rfl,rfl⟩,?_⟩;have g1:iv (kC (ji es gx) gx (some b)) pX=iv es pX:=((HP _ _ _).2 _ Wy).trans ((Ww h.h7 _).2 _ Wy);rw[g1];rcases h.ck with E |⟨a,m,E,G,aj⟩
  .exact .inl E
  .refine .inr ⟨a,m,E,?_,aj⟩;rw[tM,if_neg (fun e=>O (by have e:b=a:=e;rw[e];exact am1 G))];exact G
theorem mn.ln {es:e3} {M:dN} {Q:List bL} (h:mn es M Q) (ks:List lT):kW (yy ks es) M=M:=by
 unfold kW;refine(ar1 fun p af=>?_).trans (List.map_id M);obtain⟨E,G⟩:=h.Wx p af
 have aj:yy ks es p.1 p.2=p.2:=by
  unfold yy
  split
  .obtain⟨a,n',BA,DE,DG,hm⟩:=p;simp only at E G;subst E G;rfl
  .rfl
 rw[aj];rfl
def DT:kD->Bool
 | .pu .. =>true
 |_=>false
structure lq (w:cc):Prop where
 cs:cE w.z w.U w.L
 kd:(dk w.L w.a8).isSome=true
 ds:dS w.ds
 d5: ∀e,e∈w.ds->va e/\e.s=((cO w.L w.a8*2 ^w.z:Nat):Int)
 q:nx w.Q
 ny:mn w.es w.M w.Q
 ed: ∀p,w.bI.ed=some p->p.2.1=((cO w.L w.a8*2 ^w.z:Nat):Int)/\p.2.2.1=1/\eZ p.2.2.2
structure fJ (w:cc):Prop extends lq w where
 bR:wR w.z w.U w.L w.a8 w.bR
 rB:DT w.bR=true->gr (dH w.bI.f0)=true
end
section
theorem NE (w:cc) (aD:fJ w) (s:dB) (f:Nat) (a aZ:Int) (r:o2) (al:kR w.L w.a8 r.L) (uU:aZ<=9223372036854775807) (hf:HO w s f r):
  Fn Tryz.prog 46 [ap 1401,ac a,ac aZ,.c (.one (.cU f [.p 2 0,.p 3 0]))] (cP w++rO s) [] (ac r.e) (cP (ix w a aZ r)++rO s):=by
 have Z:=aD.bR
 cases h:w.bR with
 |no=>exact Wv w s f a aZ r (.inl h) aD.ds hf
 |pl t b o=>exact Wv w s f a aZ r (.inr ⟨t,b,o,h⟩) aD.ds hf
 |c8 t b l o=>
  rw[h] at Z;obtain⟨E,G,aj⟩:=Z;obtain⟨d,J⟩:=as7.1 (show(dk r.L t).isSome=true by rw[(al.aQ t).2];exact aj.h7);exact amY w s f a aZ r h aD.ds (al.cs aD.cs) J uU hf
 |pu nm n rm l g o rv=>
  rw[h] at Z;obtain⟨E,G,aj,aX,bH⟩:=Z
  exact amZ w s f a aZ r h aD.ds bH uU (fun p af=>by
   obtain⟨ci,cN,_⟩:=aD.ed p af;have O:=aD.cs.b3;obtain⟨d,J⟩:=as7.1 aD.kd;have am4:=(aD.cs.g4 d (cV J).1).1.eV;have ax:cO w.L w.a8=d.im.t.length:=ax8
   have iA:2 ^w.z<=2 ^3:=Nat.pow_le_pow_right au6 O;have az:cO w.L w.a8*2 ^w.z<=256*8:=Nat.mul_le_mul au5 iA;rw[ci,cN];omega) hf
theorem am5 (w:cc) (aD:fJ w) (s:dB) (O:s.b.length<=1000000):Fn Tryz.prog 26 [ap 1401,ic s] (cP w) [] (ac (hI w.z w.L w.a8 s.a s.b).e) (cP (ix w s.a ((s.b.length:Int)/16) (hI w.z w.L w.a8 s.a s.b))):=by
 have H:=NE w aD s 47 s.a ((s.b.length:Int)/16) (hI w.z w.L w.a8 s.a s.b) (Ag aD.cs _ _ _) au5 (fun _ _ _ _=>amM aD.cs s au5);generalize hI w.z w.L w.a8 s.a s.b=r at H⊢;generalize ix w s.a ((s.b.length:Int)/16) r=w' at H⊢;generalize r.e=e at H⊢;refine aU [] Tryz.func26 ?_;refine⟨rfl,rfl,?_⟩;have cx:0<=((s.b.length:Nat):Int)/\(0:Int) < 16:=av3
 have cA: -9223372036854775808<=((s.b.length:Nat):Int)/16/\((s.b.length:Nat):Int)/16<=9223372036854775807:=av3
 exact⟨cx,cA,ar H bg⟩
theorem am6 (w:cc) (aD:fJ w) (s:dB) (al:s.l<=9223372036854775807):Fn Tryz.prog 27 [ap 1401,ic s] (cP w) [] (ac (mc w.z w.L w.a8 s.a s.l).e) (cP (ix w s.a s.l (mc w.z w.L w.a8 s.a s.l))):=by
 have H:=NE w aD s 49 s.a s.l (mc w.z w.L w.a8 s.a s.l) (Gm aD.cs _ _ _) al (fun _ _ _ _=>amN aD.cs s);generalize mc w.z w.L w.a8 s.a s.l=r at H⊢;generalize ix w s.a s.l r=w' at H⊢;generalize r.e=e at H⊢;refine aU [] Tryz.func27 ?_;exact⟨rfl,rfl,ar H bg⟩
def wS:kD->Bool
 | .c8 .. =>true
 |_=>false
theorem am7 (b:Nat) (j:kD):(wS j=true->wO b j=some b)/\(wS j=false->wO b j=none):=by cases j <;>exact⟨fun h=>(by first |rfl |cases h),fun h=>(by first |rfl |cases h)⟩
theorem Wz (w:cc) (aD:fJ w) (s:dB) (al:s.l<=9223372036854775807) (r:o2) (aF:r=if wS w.bR=true then⟨143,w.L⟩ else mQ w.L w.a8 s.a s.l) (w':cc) (hw:w'=if wS w.bR=true then w else ix w s.a s.l r):Fn Tryz.prog 28 [ap 1401,ic s] (cP w) [] (ac r.e) (cP w'):=by
 obtain⟨kU,qw⟩:=am7 w.b w.bR
 cases az:wS w.bR with
 |true=>
  rw[az] at aF hw;have kU:=kU az;rw[if_pos rfl] at aF hw;subst aF hw;refine aU [] Tryz.func28 ?_;refine⟨rfl,rfl,?_⟩;exact⟨fun _ _=>bg,fun h=>(by rw[kU] at h;cases h)⟩
 |false=>
  rw[az] at aF hw;have qw:=qw az;rw[if_neg au6] at aF hw;subst aF;subst hw;have H:=NE w aD s 51 s.a s.l (mQ w.L w.a8 s.a s.l) (x6 aD.cs _ _ _) al (fun _ _ _ _=>amO aD.cs s);generalize mQ w.L w.a8 s.a s.l=r at H⊢;generalize ix w s.a s.l r=w' at H⊢;generalize r.e=e at H⊢;refine aU [] Tryz.func28 ?_;refine⟨rfl,rfl,?_⟩;exact⟨fun _ h=>(by rw[qw] at h;cases h),fun _=>ar H bg⟩
end
section
def ot:kD->Bool
 | .no=>true
 |_=>false
theorem HQ {j:kD} (h:ot j=false) (b:Nat): ∃T,qL b j=HI T b:=by cases j <;>first |(cases h;done) |exact⟨_,rfl⟩
def ew (w:cc):Nat:=cO w.L w.a8
theorem lq.dk {w:cc} (h:lq w): ∃d,Go.Proofs.YthnboghbhgapcaaGreat.dk w.L w.a8=some d/\d.im.t.length=ew w:=by
 obtain⟨d,J⟩:=as7.1 h.kd;exact⟨d,J,by unfold ew cO;rw[J]⟩
theorem fJ.dk {w:cc} (h:fJ w): ∃d,Go.Proofs.YthnboghbhgapcaaGreat.dk w.L w.a8=some d/\d.im.t.length=ew w:=h.tolq.dk
theorem am8 (w:cc) (s:dB) (Z:ot w.bR=false):Fn Tryz.prog 29 [ap 1401,ic s] (cP w) [] (ac 143) (cP w):=by
 obtain⟨T,cd⟩:=HQ Z w.b;refine aU [] Tryz.func29 ?_;refine⟨rfl,_,_,fun N=>FC rfl Tryz.underlying60 (by exact congrArg (fun v=>aP.c (.one (.bJ v))) cd) N,rfl,?_⟩;exact bg
theorem WA (z U:Nat) (L:List aN) (nm:ay4) (size:Int) (back:ay4) (p:Nat×Nat):(hY z U L nm size back p).e=(hY z U L nm size back (0,0)).e:=by
 unfold hY
 repeat' split
 all_goals rfl
theorem NF {z U:Nat} {L:List aN} (h:cE z U L) (nm:ay4) (size:Int) (back:ay4) (al:nm.length<=4294967296):
  Fn Tryz.prog 18 [ap 1001,bU nm,ac size,bU back] [oq z U L] [] (ac (hY z U L nm size back (0,0)).e) [(1001,.aG (.i4 fun p:{p:Nat×Nat//cE z U (hY z U L nm size back p).L}=>DP z U (hY z U L nm size back p.1).L))]:=by
 have E:=af' h nm size back al;simp only[WA] at E;exact cu.i4 (aO:=[]) (cu.Wn (aJ:=[]) (aO:=fun _=>[]) (by simp only[as6];exact E) rfl fun _=>rfl)
abbrev mY (R:Int->cc->Prop):Type:={p:Int×cc//R p.1 p.2}
def WB (w:cc) (s:dB) (e:Int) (w':cc):Prop:= ∃p:Nat×Nat,cE w.z w.U (hY w.z w.U w.L s.nm ((ew w:Nat):Int) w.a8 p).L/\e=(hY w.z w.U w.L s.nm ((ew w:Nat):Int) w.a8 p).e/\
 ((e=0/\w'={w with L:=(hY w.z w.U w.L s.nm ((ew w:Nat):Int) w.a8 p).L,a8:=s.nm})\/(e≠0/\w'={w with L:=(hY w.z w.U w.L s.nm ((ew w:Nat):Int) w.a8 p).L}))
theorem am9 (w:cc) (aD:fJ w) (s:dB) (Z:w.bR= .no) (al:s.nm.length<=1000000):cu Tryz.prog 29 [ap 1401,ic s] (cP w) [] (X:=mY (WB w s)) (fun p=>ac p.1.1) (fun p=>cP p.1.2):=by
 obtain⟨d,J,aR⟩:=aD.dk;have cM:=NA (db:=w.db) (lb:=w.lb) (kd:=DN w.bR) (fh:=qL w.b w.bR) (c8:=wO w.b w.bR) (pu:=wP w.b w.bR) (m:=w.bI) (es:=w.es) (M:=w.M) aD.cs J;rw[aR] at cM;have yJ:=NF aD.cs s.nm ((ew w:Nat):Int) w.a8 au5;have cd:qL w.b w.bR= .nilIface:=by rw[Z];rfl
 refine hG [3,4] Tryz.func29 ?_;refine⟨rfl,_,_,fun N=>qg rfl Tryz.underlying60 (by exact congrArg (fun v=>aP.c (.one (.bJ v))) cd) N,rfl,?_⟩;refine bt.mI 53 au6 ?_;refine bz [4] (bp) <| v6 rfl rfl rfl cM <| ar yJ ⟨eB au8,bt.eY (de.i4 1001 rfl) fun g=>?_⟩;obtain⟨p,af⟩:=g;have AJ:=WA w.z w.U w.L s.nm ((ew w:Nat):Int) w.a8 p;refine bz [] (bp) ⟨fun h=>?_,fun h=>?_⟩
 .have h:=gd h;exact⟨⟨(_,{w with L:=(hY w.z w.U w.L s.nm ((ew w:Nat):Int) w.a8 p).L,a8:=s.nm}),p,af,AJ.symm,.inl ⟨h,rfl⟩⟩,_,_,_,bp,rfl,rfl,aA,rfl⟩
 .have h:=mu h;exact⟨⟨(_,{w with L:=(hY w.z w.U w.L s.nm ((ew w:Nat):Int) w.a8 p).L}),p,af,AJ.symm,.inr ⟨h,rfl⟩⟩,_,_,_,bp,rfl,rfl,aA,rfl⟩
theorem am' (w:cc) (s:dB) (Z:ot w.bR=false):Fn Tryz.prog 31 [ap 1401,ic s] (cP w) [] (ac 143) (cP w):=by
 obtain⟨T,cd⟩:=HQ Z w.b;refine aU [] Tryz.func31 ?_;refine⟨rfl,_,_,fun N=>FC rfl Tryz.underlying60 (by exact congrArg (fun v=>aP.c (.one (.bJ v))) cd) N,rfl,?_⟩;exact bg
theorem ana (w:cc) (s:dB) (Z:ot w.bR=false):Fn Tryz.prog 32 [ap 1401,ic s] (cP w) [] (ac 143) (cP w):=by
 obtain⟨T,cd⟩:=HQ Z w.b;refine aU [] Tryz.func32 ?_;refine⟨rfl,_,_,fun N=>FC rfl Tryz.underlying60 (by exact congrArg (fun v=>aP.c (.one (.bJ v))) cd) N,rfl,?_⟩;exact bg
theorem anb (w:cc) (s:dB) (Z:ot w.bR=false):Fn Tryz.prog 33 [ap 1401,ic s] (cP w) [] (ac 143) (cP w):=by
 obtain⟨T,cd⟩:=HQ Z w.b;refine aU [] Tryz.func33 ?_;refine⟨rfl,_,_,fun N=>FC rfl Tryz.underlying60 (by exact congrArg (fun v=>aP.c (.one (.bJ v))) cd) N,rfl,?_⟩;exact bg
def WC (w:cc) (e:Int) (w':cc):Prop:=e=pL w.L w.a8/\((e=0/\ ∃b,w'={w with b:=b,bR:=.c8 w.a8 (fy w.L w.a8).1 (wt w.L w.a8) false})\/(e≠0/\w'=w))
theorem anc (w:cc) (aD:fJ w) (s:dB) (Z:w.bR= .no):cu Tryz.prog 31 [ap 1401,ic s] (cP w) [] (X:=mY (WC w)) (fun p=>ac p.1.1) (fun p=>cP p.1.2):=by
 have gk:=aD.cs;obtain⟨z,U,L,a8,db,ds,es,M,lb,Q,eA,bR,bI⟩:=w;simp only at Z gk;subst Z
 by_cases V:pL L a8=0
 .have O:=Fn.yI (aJ:=[]) (aO:=sS a8 (fy L a8).1 (wt L a8) false) (agD gk a8 V) rfl rfl;refine hG [6] Tryz.func31 ?_;refine⟨rfl,_,_,fun N=>qg rfl Tryz.underlying60 rfl N,rfl,?_⟩;refine ar O ⟨eB au8,df <| bt.eY (de.mark 2001 2009 rfl au6) fun b=>bt.le (ae.FA 5 2001 2009 b rfl rfl) <| bz [] (ae.HH 1501 2001 1001 2009 b (sS a8 (fy L a8).1 (wt L a8) false) rfl rfl aA rfl) ⟨_,_,fun N=>FB rfl Tryz.underlying61 rfl N,rfl,?_⟩⟩;exact ar (HL (z:=z) (U:=U) (L:=L) (a8:=a8) (db:=db) (lb:=lb) (kd:=0) (fh:=.nilIface) (c8:=some b) (pu:=none) (m:=bI) (es:=es) (M:=M) 1 61 (.pointer (some ⟨b,0,none⟩))) ⟨⟨(0,⟨z,U,L,a8,db,ds,es,M,lb,Q,b,.c8 a8 (fy L a8).1 (wt L a8) false,bI⟩),V.symm,.inl ⟨rfl,b,rfl⟩⟩,_,_,_,bp,rfl,rfl,aA,rfl⟩
 .have O:=Fn.ch (agA gk a8 V);refine hG [] Tryz.func31 ?_;refine⟨rfl,_,_,fun N=>qg rfl Tryz.underlying60 rfl N,rfl,?_⟩;exact ar O ⟨eB au8,fun h=>⟨⟨(pL L a8,⟨z,U,L,a8,db,ds,es,M,lb,Q,eA,.no,bI⟩),rfl,.inr ⟨V,rfl⟩⟩,_,_,_,bp,rfl,rfl,aA,rfl⟩,fun h=>absurd h ay0⟩
def WD (w:cc) (s:dB) (e:Int) (w':cc):Prop:=e=uY w.L w.a8 s.fp/\((e=0/\ ∃b,w'={w with b:=b,bR:=.pl w.a8 s.fp false})\/(e≠0/\w'=w))
theorem ane (w:cc) (aD:fJ w) (s:dB) (Z:w.bR= .no):cu Tryz.prog 32 [ap 1401,ic s] (cP w) [] (X:=mY (WD w s)) (fun p=>ac p.1.1) (fun p=>cP p.1.2):=by
 have gk:=aD.cs;obtain⟨z,U,L,a8,db,ds,es,M,lb,Q,eA,bR,bI⟩:=w;simp only at Z gk;subst Z
 by_cases V:uY L a8 s.fp=0
 .have O:=Fn.yI (aJ:=[]) (aO:=vp a8 s.fp false) (ahD gk a8 s.fp V) rfl rfl;refine hG [6] Tryz.func32 ?_;refine⟨rfl,_,_,fun N=>qg rfl Tryz.underlying60 rfl N,rfl,?_⟩;refine ar O ⟨eB au8,df <| bt.eY (de.mark 2001 2009 rfl au6) fun b=>bt.le (ae.FA 5 2001 2009 b rfl rfl) <| bz [] (ae.HH 1501 2001 1001 2009 b (vp a8 s.fp false) rfl rfl aA rfl) ⟨_,_,fun N=>FB rfl Tryz.underlying121 rfl N,rfl,?_⟩⟩;exact ar (HL (z:=z) (U:=U) (L:=L) (a8:=a8) (db:=db) (lb:=lb) (kd:=0) (fh:=.nilIface) (c8:=none) (pu:=none) (m:=bI) (es:=es) (M:=M) 2 121 (.pointer (some ⟨b,0,none⟩))) ⟨⟨(0,⟨z,U,L,a8,db,ds,es,M,lb,Q,b,.pl a8 s.fp false,bI⟩),V.symm,.inl ⟨rfl,b,rfl⟩⟩,_,_,_,bp,rfl,rfl,aA,rfl⟩
 .have O:=Fn.ch (ahB gk a8 s.fp V);refine hG [] Tryz.func32 ?_;refine⟨rfl,_,_,fun N=>qg rfl Tryz.underlying60 rfl N,rfl,?_⟩;exact ar O ⟨eB au8,fun h=>⟨⟨(uY L a8 s.fp,⟨z,U,L,a8,db,ds,es,M,lb,Q,eA,.no,bI⟩),rfl,.inr ⟨V,rfl⟩⟩,_,_,_,bp,rfl,rfl,aA,rfl⟩,fun h=>absurd h ay0⟩
end
section
def sU (l:List bd) (nm:ay4):Int:=if gr nm=false then 1 else if(c3 l nm).isSome=true\/8<=l.length then 111 else 0
def DU (l:List bd) (nm:ay4) (on us:Bool) (s g:Int) (es:List (aa ak×aa ak)) (l':List bd):Prop:=dS l'/\((sU l nm=0/\gr nm=true/\c3 l nm=none/\l.length < 8/\ ∃a b,l'=l++[⟨nm,a,b,on,us,s,g,es⟩])\/(sU l nm≠0/\l'=l))
theorem WE {l:List bd} (h:dS l) (db:Nat) (nm:ay4) (hn:nm.length<=4294967296) (s g:Int) (es:List (aa ak×aa ak)) (bu:(0<=s/\s<=4096)/\(1<=g/\g<=64)/\eZ es):
  Fn Tryz.prog 55 [dn db,bU nm,ap 2001] ((1101,.aG (.bA [(db,rM l)]))::iq 2001 2002 s g es) [] (ac (sU l nm)) ((1101,.aG (.i4 fun p:{l':List bd//DU l nm true true s g es l'}=>.bA [(db,rM p.1)]))::iq 2001 2002 s g es):=by
 refine cu.i4 (cu.m' [1002,1003,1004] 1101 (?_:cu Tryz.prog 55 [ap 1001,bU nm,ap 2001] (ej l++iq 2001 2002 s g es) [] (fun _=>ac (sU l nm)) (fun p:{l':List bd//DU l nm true true s g es l'}=>ej p.1++iq 2001 2002 s g es)) rfl (fun _=>rfl) rfl ⟨rfl,rfl⟩ rfl (fun _=>rfl))
 cases aF:gr nm with
 |false=>
  have e:sU l nm=1:=if_pos aF;exact(aiV nm hn aF s g es).x.to (fun _=>⟨l,h,.inr ⟨by rw[e];decide,rfl⟩⟩) (fun _=>by rw[e]) fun _=>rfl
 |true=>
  by_cases av:(c3 l nm).isSome=true\/8<=l.length
  .have e:sU l nm=111:=(if_neg (by rw[aF];decide)).trans (if_pos av);exact(aiW nm hn aF av s g es).x.to (fun _=>⟨l,h,.inr ⟨by rw[e];decide,rfl⟩⟩) (fun _=>by rw[e]) fun _=>rfl
  .have e:sU l nm=0:=(if_neg (by rw[aF];decide)).trans (if_neg av)
   have E:c3 l nm=none:=by
    cases ab:c3 l nm with
    |none=>rfl
    |some x=>exact absurd (.inl (by rw[ab];rfl)) av
   have G:l.length < 8:=by
    have: ¬8<=l.length:=fun bk=>av (.inr bk)
    omega
   exact(TS h nm hn aF E G s g es bu).to (fun p=>⟨_,p.2,.inl ⟨e,aF,E,G,_,_,rfl⟩⟩) (fun _=>by rw[e]) fun _=>rfl
theorem NG {z U:Nat} {L:List aN} (h:cE z U L) {a8:ay4} {d:aN} (J:dk L a8=some d):cO L a8*2 ^z<=2048:=by
 have am4:=(h.g4 d (cV J).1).1.eV;have ax:cO L a8=d.im.t.length:=ax8
 have iA:2 ^z<=2 ^3:=Nat.pow_le_pow_right au6 h.b3;have az:cO L a8*2 ^z<=256*8:=Nat.mul_le_mul au5 iA;omega
def HR (w:cc) (s:dB):Int:=if n3 ((ew w*2 ^w.z:Nat):Int) s.a=true then sU w.ds s.nm else 1
abbrev NH (w:cc) (s:dB):bf:=.i4 fun p:{l':List bd//(n3 ((ew w*2 ^w.z:Nat):Int) s.a=true/\DU w.ds s.nm true true ((ew w*2 ^w.z:Nat):Int) s.a [] l')\/(n3 ((ew w*2 ^w.z:Nat):Int) s.a=false/\l'=w.ds)}=>.bA [(w.db,rM p.1)]
abbrev anf (w:cc):aw:=[oq w.z w.U w.L,pY w.es w.M,Wm w,Wj w,Wk w,Wl w]
theorem ang (w:cc) (aD:fJ w) (s:dB) (hn:s.nm.length<=1000000):Fn Tryz.prog 30 [ap 1401,ic s] (cP w) [] (ac (HR w s)) ((1101,.aG (NH w s))::anf w):=by
 obtain⟨d,J,aR⟩:=aD.dk;have az:ew w*2 ^w.z<=2048:=NG aD.cs J;have cM:=NA (db:=w.db) (lb:=w.lb) (kd:=DN w.bR) (fh:=qL w.b w.bR) (c8:=wO w.b w.bR) (pu:=wP w.b w.bR) (m:=w.bI) (es:=w.es) (M:=w.M) aD.cs J;rw[aR] at cM;have uV:=aD.cs.b3;have wT:((ew w:Nat):Int)*((2 ^((w.z:Nat):Int).toNat:Nat):Int)=((ew w*2 ^w.z:Nat):Int):=by rw[Int.toNat_natCast,Int.natCast_mul]
 cases ab:n3 ((ew w*2 ^w.z:Nat):Int) s.a with
 |false=>
  have V:HR w s=1:=if_neg (by rw[ab];decide);have l1:=agX (((ew w:Nat):Int)*((2 ^((w.z:Nat):Int).toNat:Nat):Int)) s.a (by rw[wT];exact ab);refine aU [1] Tryz.func30 ?_;refine⟨rfl,bt.mI 53 au6 <| bz [] (bp) <| v6 rfl rfl rfl cM ?_⟩;exact⟨⟨au5,au5,au5⟩,⟨by rw[wT];omega,by rw[wT];omega⟩,ar l1 ⟨eB au8,e5 ⟨_,_,_,ae.aG 1101 (o':=NH w s) rfl fun I F x p h=>⟨⟨w.ds,.inr ⟨ab,rfl⟩⟩,h⟩,rfl,V.symm,aA,rfl⟩⟩⟩
 |true=>
  have V:HR w s=sU w.ds s.nm:=if_pos ab;have l1:=LI (((ew w:Nat):Int)*((2 ^((w.z:Nat):Int).toNat:Nat):Int)) s.a (by rw[wT];exact ab);obtain⟨ci,cN⟩:=Gv ab;have yJ:=WE aD.ds w.db s.nm au5 ((ew w*2 ^w.z:Nat):Int) s.a [] ⟨ci,cN,List.Pairwise.nil⟩;rw[<-V,<-wT] at yJ;refine aU [1] Tryz.func30 ?_;refine⟨rfl,bt.mI 53 au6 <| bz [] (bp) <| v6 rfl rfl rfl cM ?_⟩;refine⟨⟨au5,au5,au5⟩,⟨by rw[wT];omega,by rw[wT];omega⟩,ar l1 ⟨eB au8,df <| ar yJ ⟨eB au8,?_⟩⟩⟩
  exact⟨_,_,_,ae.aG 1101 (o':=NH w s) rfl fun I F x p h=>(by
   obtain⟨g,h⟩:=h;exact⟨⟨g.1,.inl ⟨ab,by rw[<-wT];exact g.2⟩⟩,h⟩),rfl,rfl,aA,rfl⟩
end
section
theorem NI {Q:List bL} (h:lm Q):(jg Q).length<=100000000:=by
 have E:=yp j9 35000 Q fun b O=>UG (Ds h O)
 have G:=h.len;unfold jg;rw[ap1,qx];omega
theorem NJ {Q:List bL} (h:lm Q) (lb:Nat):Fn Tryz.prog 73 [dn lb] [(1301,.aG (.bA [(lb,rN Q)]))] [] (bS .u8 (jg Q)) [(1301,.aG (.bA [(lb,rN Q)]))]:=
 Fn.m' [1002] 1301 (UI Q (by have:=h.len;omega) fun b O=>Ds h O)
theorem NK {Q:List bL} (h:nx Q):Fn Tryz.prog 72 [bS .u8 (jg Q)] [] [3001,3002] (.cf [.one (.ptr 3001 0),dw 0]) (lp 3001 3002 Q):=by
 have J:=UW (jg Q) (NI h.tolm) (some (Q.map tO)) (V5 h.AR (fun b O=>Ds h.tolm O) h.len);simp only[Nm] at J;exact Fn.aV [(1001,3001),(1002,3002)] J
theorem anh (n:Int) (HG:2<=n) (hn:pf n=true) (aF:n<=4096) {Q:List bL} (h:lm Q) {es:e3} {M:dN} {DV:List bL} (hf:mn es M DV):
  Fn Tryz.prog 128 [ap 3001,ap 1201,ac n] (pY es M::lp 3001 3002 Q) [] (ac (wM n Q)) ((1201,.aG (.i4 fun b:{b:Nat//b∉M.map (·.1)}=>yH (vm n es Q b.1) ((b.1,tQ n 4096 Q b.1)::M)))::lp 3001 3002 Q):=by
 obtain⟨E,G,aj⟩:=hf.am2;have H:=cu.aV [(1001,1201),(1002,1202),(1003,1203)] (amx 4096 n HG hn aF es (M:=M) E G aj (Q:=Q) (by have:=h.len;omega) fun b O=>Ds h O);exact cu.i4 (cu.close (c:=1201) (bo:=nt 1201 1202 1203 4096 es M) (o':=fun b:{b:Nat//b∉M.map (·.1)}=>yH (vm n es Q b.1) ((b.1,tQ n 4096 Q b.1)::M)) [1202,1203] H (fun _ _ _ _ h=>h) (fun _ _ _ _ _ h=>h) rfl fun _=>rfl)
def pj (Q:List bL):Int:=wM 512 Q
def ou (es:e3) (Q:List bL) (b:Nat):e3:=vm 512 es Q b
def ov (Q:List bL) (b:Nat):bY:=tQ 512 4096 Q b
theorem NL {Q:List bL} (h:lm Q) {es:e3} {M:dN} {DV:List bL} (hf:mn es M DV):Fn Tryz.prog 128 [ap 3001,ap 1201,ac 512] (pY es M::lp 3001 3002 Q) [] (ac (pj Q)) ((1201,.aG (.i4 fun b:{b:Nat//b∉M.map (·.1)}=>yH (ou es Q b.1) ((b.1,ov Q b.1)::M)))::lp 3001 3002 Q):=anh 512 au6 rfl au6 h hf
def vq (w:cc) (Q:List bL) (e:Int) (w':cc):Prop:=e=pj Q/\ ∃b,b∉w.M.map (·.1)/\((pj Q=0/\ ∃lb,w'={w with es:=ou w.es Q b,M:=(b,ov Q b)::w.M,lb:=lb,Q:=Q})\/(pj Q≠0/\w'={w with es:=ou w.es Q b,M:=(b,ov Q b)::w.M}))
theorem WF (w:cc) {Q:List bL} {F:Nat->e3} {S:Nat->bY}
  (H:Fn Tryz.prog 128 [ap 3001,ap 1201,ac 512] (pY w.es w.M::lp 3001 3002 Q) [] (ac 0) ((1201,.aG (.i4 fun b:{b:Nat//b∉w.M.map (·.1)}=>yH (F b.1) ((b.1,S b.1)::w.M)))::lp 3001 3002 Q)):
  cu Tryz.prog 75 [ap 1401,ap 3001] (cP w++lp 3001 3002 Q) [] (X:={b:Nat//b∉w.M.map (·.1)}×Nat) (fun _=>ac 0) (fun p=>cP {w with es:=F p.1.1,M:=(p.1.1,S p.1.1)::w.M,lb:=p.2,Q:=Q}):=by
 refine hG [2,3] Tryz.func75 ?_;exact ar H <| bt.eY (de.i4 1201 rfl) fun b=>bz [3] (bp) <| e5 <| bt.le (ae.close 3001 (lp 3001 3002 Q) (o:=rN Q) aA rfl fun I F x p h=>iD.aV [(3001,1001),(3002,1002)] h) <| bt.eY (de.name 1 3001 rfl rfl) fun lb=>bz [] (ae.trans (ae.put 1301 3001 au6 rfl rfl) (ae.DL 1301 rfl)) ⟨(b,lb),_,_,_,bp,rfl,rfl,aA,rfl⟩
theorem WG (w:cc) {Q:List bL} {e:Int} (V:e≠0) {F:Nat->e3} {S:Nat->bY}
  (H:Fn Tryz.prog 128 [ap 3001,ap 1201,ac 512] (pY w.es w.M::lp 3001 3002 Q) [] (ac e) ((1201,.aG (.i4 fun b:{b:Nat//b∉w.M.map (·.1)}=>yH (F b.1) ((b.1,S b.1)::w.M)))::lp 3001 3002 Q)):
  cu Tryz.prog 75 [ap 1401,ap 3001] (cP w++lp 3001 3002 Q) [] (X:={b:Nat//b∉w.M.map (·.1)}) (fun _=>ac e) (fun p=>cP {w with es:=F p.1,M:=(p.1,S p.1)::w.M}):=by
 refine hG [2] Tryz.func75 ?_;exact ar H <| bt.eY (de.i4 1201 rfl) fun b=>bz [] (bp) ⟨fun h=>absurd (gd h) V,fun _=>⟨b,_,_,_,bp,rfl,rfl,aA,rfl⟩⟩
theorem ani (w:cc) {Q DV:List bL} (h:lm Q) (hf:mn w.es w.M DV):cu Tryz.prog 75 [ap 1401,ap 3001] (cP w++lp 3001 3002 Q) [] (X:=mY (vq w Q)) (fun p=>ac p.1.1) (fun p=>cP p.1.2):=by
 by_cases V:pj Q=0
 .have H:=NL h hf;rw[V] at H;exact(WF w (F:=ou w.es Q) (S:=ov Q) H).to (fun p=>⟨(0,{w with es:=ou w.es Q p.1.1,M:=(p.1.1,ov Q p.1.1)::w.M,lb:=p.2,Q:=Q}),V.symm,p.1.1,p.1.2,.inl ⟨V,p.2,rfl⟩⟩) (fun _=>rfl) fun _=>rfl
 .have fq: ∀p:{b:Nat//b∉w.M.map (·.1)},vq w Q (pj Q) {w with es:=ou w.es Q p.1,M:=(p.1,ov Q p.1)::w.M}:=fun p=>⟨Eq.refl _,p.1,p.2,.inr ⟨V,Eq.refl _⟩⟩
  have E:=WG w V (F:=ou w.es Q) (S:=ov Q) (NL h hf);generalize pj Q=e at fq E;exact E.to (fun p=>⟨(e,{w with es:=ou w.es Q p.1,M:=(p.1,ov Q p.1)::w.M}),fq p⟩) (fun _=>rfl) fun _=>rfl
def WH (w:cc) (s:dB) (e:Int) (w':cc):Prop:=(rG w.Q s.nm≠0/\e=rG w.Q s.nm/\w'=w)\/(rG w.Q s.nm=0/\vq w (o7 w.Q s.nm) e w')
theorem anj (w:cc) (aD:fJ w) (s:dB):cu Tryz.prog 37 [ap 1401,ic s] (cP w) [] (X:=mY (WH w s)) (fun p=>ac p.1.1) (fun p=>cP p.1.2):=by
 have V:=NJ aD.q.tolm w.lb;have J:=NK aD.q;have aF:=aj1 w.Q s.nm (by have:=aD.q.len;omega);have H:=ani w (Mx aD.q.tolm s.nm) aD.ny;refine hG [5] Tryz.func37 ?_;refine⟨rfl,ar V <| ar J <| ar (Fn.aV [(1001,3001),(1002,3002),(1003,3003)] aF) ?_⟩
 by_cases av:rG w.Q s.nm=0
 .exact⟨fun h=>absurd h (by simp[av]),fun _=>bt.iC eX au8 <| lF (cu.aV [(3002,3003)] H) fun g=>⟨⟨g.1,.inr ⟨av,g.2⟩⟩,_,_,_,bp,rfl,rfl,aA,rfl⟩⟩
 .exact⟨fun h=>⟨⟨(_,w),.inl ⟨av,rfl,rfl⟩⟩,_,_,_,bp,rfl,rfl,aA,rfl⟩,fun h=>absurd h (by simp[av])⟩
end
section
theorem NM {l:List bd} (h:dS l) (db:Nat) {nm:ay4} {e:bd} (V:c3 l nm=some e):Fn Tryz.prog 99 [dn db,bU nm] [(1101,.aG (.bA [(db,rM l)]))] [5001,5002] (.cf [.agg (jo e.nm e.on e.us),dw 0]) ((1101,.aG (.bA [(db,rM l)]))::iq 5001 5002 e.s e.g e.es):=
 (cu.m' (X:=Unit) (bo:=ej l) (aJ:=[]) (dv:=fun _=>ej l) (aO:=fun _=>iq 5001 5002 e.s e.g e.es) (res:=fun _=>.cf [.agg (jo e.nm e.on e.us),dw 0]) [1002,1003,1004] 1101 (by rw[as6];exact(ajc h V).x) rfl (fun _=>rfl) rfl ⟨rfl,rfl⟩ rfl fun _=>rfl).fn
theorem WI {l:List bd} (db:Nat) {nm:ay4} (V:c3 l nm=none):Fn Tryz.prog 99 [dn db,bU nm] [(1101,.aG (.bA [(db,rM l)]))] [] (.cf [.agg [.d (.str []),.d (.lit false),.d (.lit false),.bJ (.pointer none)],dw 112]) [(1101,.aG (.bA [(db,rM l)]))]:=
 Fn.m' [1002,1003,1004] 1101 (ajd V)
theorem NN {Q:List bL} (h:lm Q) (lb:Nat):Fn Tryz.prog 63 [dn lb] [(1301,.aG (.bA [(lb,rN Q)]))] [] (bU (tJ Q)) [(1301,.aG (.bA [(lb,rN Q)]))]:=
 Fn.m' [1002] 1301 (ajj Q (by have:=h.len;omega))
theorem ank {Q:List bL} (h:lm Q) (lb:Nat):Fn Tryz.prog 60 [dn lb] [(1301,.aG (.bA [(lb,rN Q)]))] [] (bS .str (Q.map dH)) [(1301,.aG (.bA [(lb,rN Q)]))]:=
 Fn.m' [1002] 1301 (ajJ Q (by have:=h.len;omega))
theorem fJ.anl {w:cc} (h:fJ w):c3 w.ds []=none:=by
 cases ab:c3 w.ds [] with
 |none=>rfl
 |some e=>
  obtain⟨E,G⟩:=jR ab;have aj:=(h.d5 e E).1.nm;rw[G] at aj
  cases aj
theorem anm (w:cc) (aD:fJ w) (s:dB) (av:s.fp=[]):Fn Tryz.prog 61 [ap 1401,ic s] (cP w) [] (.cf [mG,dw 0]) (cP w):=by
 have a1:=WI w.db aD.anl;rw[<-av] at a1;refine aU [] Tryz.func61 ?_;exact⟨rfl,ar a1 ⟨rfl,eB au8,fun _=>bg,fun h=>absurd h (by simp[av])⟩⟩
theorem ann (w:cc) (aD:fJ w) (s:dB) (av:s.fp≠[]) (ab:c3 w.ds s.fp=none):Fn Tryz.prog 61 [ap 1401,ic s] (cP w) [] (.cf [mG,dw 112]) (cP w):=by
 have a1:=WI w.db ab;refine aU [] Tryz.func61 ?_;exact⟨rfl,ar a1 ⟨rfl,eB au8,fun h=>absurd h (by simp[av]),fun _=>e5 bg⟩⟩
def qO (w:cc) (e:bd):Int:=if e.us=false then 110 else if tJ w.Q=[] then 181 else 0
theorem ano (w:cc) (aD:fJ w) (s:dB) (av:s.fp≠[]) {e:bd} (ab:c3 w.ds s.fp=some e) (aW:qO w e≠0):Fn Tryz.prog 61 [ap 1401,ic s] (cP w) [] (.cf [mG,dw (qO w e)]) (cP w):=by
 have a1:=NM aD.ds w.db ab;have al:=NN aD.q.tolm w.lb
 cases a7:e.us with
 |false=>
  have V:qO w e=110:=if_pos a7;rw[V];refine aU [] Tryz.func61 ?_;exact⟨rfl,ar a1 ⟨rfl,eB au8,fun h=>absurd h (by simp[av]),fun _=>df ⟨fun _=>bg,fun h=>absurd h (by simp[a7])⟩⟩⟩
 |true=>
  have V:qO w e=181:=by
   unfold qO at aW⊢;rw[if_neg (by rw[a7];decide)] at aW⊢
   split
   .rfl
   .rename_i h;rw[if_neg h] at aW;exact absurd rfl aW
  have aT:tJ w.Q=[]:=by
   unfold qO at V;rw[if_neg (by rw[a7];decide)] at V
   split at V
   .assumption
   .cases V
  rw[V];refine aU [] Tryz.func61 ?_;exact⟨rfl,ar a1 ⟨rfl,eB au8,fun h=>absurd h (by simp[av]),fun _=>df ⟨fun h=>absurd h (by simp[a7]),fun _=>ar al ⟨fun _=>bg,fun h=>absurd h (by simp[aT])⟩⟩⟩⟩
theorem anp (w:cc) (aD:fJ w) (s:dB) (av:s.fp≠[]) {e:bd} (ab:c3 w.ds s.fp=some e) (aW:qO w e=0):Fn Tryz.prog 61 [ap 1401,ic s] (cP w) [5001,5002] (.cf [.one (.ptr 5001 0),dw 0]) (cP w++iq 5001 5002 e.s e.g e.es):=by
 have a1:=NM aD.ds w.db ab;have al:=NN aD.q.tolm w.lb
 have a7:e.us=true:=by
  unfold qO at aW
  cases a7:e.us with
  |true=>rfl
  |false=>rw[if_pos a7] at aW;cases aW
 have aT:tJ w.Q≠[]:=fun aT=>by
  unfold qO at aW;rw[if_neg (by rw[a7];decide),if_pos aT] at aW
  cases aW
 refine aU [] Tryz.func61 ?_;exact⟨rfl,ar a1 ⟨rfl,eB au8,fun h=>absurd h (by simp[av]),fun _=>df ⟨fun h=>absurd h (by simp[a7]),fun _=>ar al ⟨fun h=>absurd h (by simp[aT]),fun _=>bg⟩⟩⟩⟩
theorem ae.vr {ids:ay5} {K:aY} {B:aw} (c j d m b:Nat) {l:List bC} (H:ag B c=some (.cells l)) (Z:l[j]? =some (.ptr d 0)) (az:ag B m=some (.cn d (e6 b))):ae ids K B K ((c,.cells (l.set j (.d (.aL (some b)))))::B):=by
 rintro N C a w ⟨hn,J,ρ,F,aq,au⟩;have O:=py (N:=N) (a:=a) aq az
 obtain⟨bN,aW⟩:=aq.hP (w':=w) (ch:=.cells (l.set j (.d (.aL (some b))))) H (cK.refl _ _) fun I ba=>by
  obtain⟨E,aE,T,G,aj⟩:=aq.holds c _ H;refine⟨E,aE,T,G,b'.set (s:=.ptr d 0) (t:=.d (.aL (some b))) (fun v h=>?_) Z (b'.mono ba _ _ (fun _ _=>rfl) aj)⟩;have h:v= .pointer (some ⟨(ρ d).bj,0,none⟩):=h;rw[O] at h;exact h
 exact⟨hn,J,ρ,F,bN,au.mono aW fun _ _ _=>rfl⟩
theorem ae.vs {ids:ay5} {K:aY} {B:aw} (c m b:Nat) {o:bf} (H:ag B c=some (.aG o)) (az:ag B m=some (.cn c (e6 b))):ae ids K B K ((c,.aG (o.at b))::B):=by
 rintro N C a w ⟨hn,J,ρ,F,aq,au⟩;have O:=py (N:=N) (a:=a) aq az;obtain⟨bN,aW⟩:=aq.hP (w':=w) (ch:=.aG (o.at b)) H (cK.refl _ _) fun I ba=>⟨O,o.cj _ _ _ _ _ _ (aq.holds c _ H) ba (fun _ _=>rfl) (ap0 _)⟩
 exact⟨hn,J,ρ,F,bN,au.mono aW fun _ _ _=>rfl⟩
abbrev vt (nm pa:ay4) (bi aQ:Int) (fp:ay4) (ed:Option (Nat×DO)):Made:=⟨(nm,pa,bi,aQ,([]:List j8)),fp,ed⟩
def rP (w:cc) (s:dB):Bool:= !gr s.nm||(w.Q.map dH).contains s.nm
def NO (w:cc) (s:dB) (e:Int) (w':cc):Prop:=
 (rP w s=true/\e=1/\w'=w)\/(rP w s=false/\
  (
   (s.fp=[]/\((s.l < 0/\e=1/\w'=w)\/(0<=s.l/\e=0/\ ∃b,w'={w with b:=b,bR:=.pu w.a8 ((ew w:Nat):Int) s.l (h8 (fun _=>true) w.z (ew w*2 ^w.z)) [] false false,bI:=vt s.nm [] w.z ((ew w:Nat):Int) s.fp none})))\/
   (s.fp≠[]/\c3 w.ds s.fp=none/\e=112/\w'=w)\/
   (s.fp≠[]/\ ∃x,c3 w.ds s.fp=some x/\((qO w x≠0/\e=qO w x/\w'=w)\/(qO w x=0/\((s.l < 0/\e=1/\w'=w)\/(0<=s.l/\e=0/\ ∃b kE,w'={w with b:=b,bR:=.pu w.a8 ((ew w:Nat):Int) s.l (h8 (mR x.g x.es) w.z (ew w*2 ^w.z)) [] false false,bI:=vt s.nm (tJ w.Q) w.z ((ew w:Nat):Int) s.fp (some (kE,((ew w*2 ^w.z:Nat):Int),1,[]))})))))))
theorem anq {s:Int} (av:0<=s) (E:s<=4096):n3 s 1=true:=by
 unfold n3;simp[av,E]
theorem anr (w:cc) (aD:fJ w) (s:dB) (Z:w.bR= .no) (hn:s.nm.length<=1000000):cu Tryz.prog 33 [ap 1401,ic s] (cP w) [] (X:=mY (NO w s)) (fun p=>ac p.1.1) (fun p=>cP p.1.2):=by
 obtain⟨d,J,aR⟩:=aD.dk;have gk:=aD.cs;have al:=ank aD.q.tolm w.lb;have Db:=NN aD.q.tolm w.lb;have aF:=qp s.nm au5;have yK:=K9 (w.Q.map dH) s.nm (by rw[aq3];have:=aD.q.len;omega);have HS:=fun av=>anm w aD s av
 have Ki:=fun av ab=>ann w aD s av ab
 have Hm:=fun av e (ab:c3 w.ds s.fp=some e) aW=>ano w aD s av ab aW
 have ans:=fun av e (ab:c3 w.ds s.fp=some e) aW=>anp w aD s av ab aW
 have cM:=fun(fh:Value) (c8 pu:Option Nat)=>NA (db:=w.db) (lb:=w.lb) (kd:=0) (fh:=fh) (c8:=c8) (pu:=pu) (m:=w.bI) (es:=w.es) (M:=w.M) aD.cs J
 have o8:=fun e (ab:c3 w.ds s.fp=some e)=>aD.d5 e (jR ab).1
 have az:ew w*2 ^w.z<=2048:=NG aD.cs J;have ant:cO w.L w.a8=ew w:=rfl;rw[aR] at cM;rw[ant] at o8
 cases jY:gr s.nm with
 |false=>
  have yr:rP w s=true:=by unfold rP;rw[jY];rfl
  obtain⟨z,U,L,a8,db,ds,es,M,lb,Q,eA,bR,bI⟩:=w;simp only at Z;subst Z;refine hG [] Tryz.func33 ?_;refine⟨rfl,_,_,fun N=>qg rfl Tryz.underlying60 rfl N,rfl,?_⟩;exact ar aF ⟨fun _=>⟨eB au8,⟨(1,_),.inl ⟨yr,rfl,rfl⟩⟩,_,_,_,bp,rfl,rfl,aA,rfl⟩,fun h=>absurd h (by simp[jY])⟩
 |true=>
 cases hq:(w.Q.map dH).contains s.nm with
 |true=>
  have yr:rP w s=true:=by unfold rP;rw[jY,hq];rfl
  obtain⟨z,U,L,a8,db,ds,es,M,lb,Q,eA,bR,bI⟩:=w;simp only at Z;subst Z;refine hG [] Tryz.func33 ?_;refine⟨rfl,_,_,fun N=>qg rfl Tryz.underlying60 rfl N,rfl,?_⟩;exact ar aF ⟨fun h=>absurd h (by simp[jY]),fun _=>ar al <| ar yK ⟨eB au8,fun _=>⟨⟨(1,_),.inl ⟨yr,rfl,rfl⟩⟩,_,_,_,bp,rfl,rfl,aA,rfl⟩,fun h=>absurd (hq.symm.trans h) au6⟩⟩
 |false=>
 have AS:rP w s=false:=by unfold rP;rw[jY,hq];rfl
 by_cases av:s.fp=[]
 .have b9:=HS av
  by_cases sV:s.l < 0
  .have O:=Fn.ch (ahd gk J s.l sV);obtain⟨z,U,L,a8,db,ds,es,M,lb,Q,eA,bR,bI⟩:=w;simp only at Z;subst Z;refine hG [] Tryz.func33 ?_;refine⟨rfl,_,_,fun N=>qg rfl Tryz.underlying60 rfl N,rfl,?_⟩;exact ar aF ⟨fun h=>absurd h (by simp[jY]),fun _=>ar al <| ar yK ⟨eB au8,fun h=>absurd (hq.symm.trans h) au6,fun _=>ar b9 <| df <| ar O ⟨eB au8,e5 ⟨⟨(1,_),.inr ⟨AS,.inl ⟨av,.inl ⟨sV,rfl,rfl⟩⟩⟩⟩,_,_,_,bp,rfl,rfl,aA,rfl⟩⟩⟩⟩
  .have sV:0<=s.l:=av3
   have O:=Fn.yI (aJ:=[]) (aO:=nw w.z w.a8 (d.im.t.length:Nat) s.l (h8 (fun _=>true) w.z (d.im.t.length*2 ^w.z)) [] false false) (ahf gk J s.l sV) rfl rfl;rw[aR] at O;obtain⟨z,U,L,a8,db,ds,es,M,lb,Q,eA,bR,bI⟩:=w;simp only at Z;subst Z;refine hG [11,12,15] Tryz.func33 ?_;refine⟨rfl,_,_,fun N=>qg rfl Tryz.underlying60 rfl N,rfl,?_⟩;refine ar aF ⟨fun h=>absurd h (by simp[jY]),fun _=>ar al <| ar yK ⟨eB au8,fun h=>absurd (hq.symm.trans h) au6,fun _=>ar b9 <| df <| ar O ⟨eB au8,df <| bt.mI 53 au6 <| bz [12,15] (bp) <| v6 rfl rfl rfl (cM .nilIface none none) ⟨eB au8,bz [15] (ae.trans (ae.vo 1401 16 rfl rfl) (ae.trans (ae.sA 1401 (l':=HJ z a8 db lb 0 .nilIface none none (vt s.nm [] z ((ew ⟨z,U,L,a8,db,ds,es,M,lb,Q,eA,.no,bI⟩:Nat):Int) s.fp none)) rfl aA) (ae.Wg 1601 rfl))) <| bt.eY (de.mark 2001 2009 rfl au6) fun b=>bt.le (ae.FA 7 2001 2009 b rfl rfl) <| bz [] (ae.HH 1501 2001 1001 2009 b (nw z a8 ((ew ⟨z,U,L,a8,db,ds,es,M,lb,Q,eA,.no,bI⟩:Nat):Int) s.l (h8 (fun _=>true) z (ew ⟨z,U,L,a8,db,ds,es,M,lb,Q,eA,.no,bI⟩*2 ^z)) [] false false) rfl rfl aA rfl) ⟨_,_,fun N=>FB rfl Tryz.underlying62 rfl N,rfl,?_⟩⟩⟩⟩⟩;exact ar (HL (z:=z) (U:=U) (L:=L) (a8:=a8) (db:=db) (lb:=lb) (kd:=0) (fh:=.nilIface) (c8:=none) (pu:=some b) (m:=(vt s.nm [] z ((ew ⟨z,U,L,a8,db,ds,es,M,lb,Q,eA,.no,bI⟩:Nat):Int) s.fp none)) (es:=es) (M:=M) 3 62 (.pointer (some ⟨b,0,none⟩))) ⟨⟨(0,⟨z,U,L,a8,db,ds,es,M,lb,Q,b,.pu a8 ((ew ⟨z,U,L,a8,db,ds,es,M,lb,Q,eA,.no,bI⟩:Nat):Int) s.l (h8 (fun _=>true) z (ew ⟨z,U,L,a8,db,ds,es,M,lb,Q,eA,.no,bI⟩*2 ^z)) [] false false,(vt s.nm [] z ((ew ⟨z,U,L,a8,db,ds,es,M,lb,Q,eA,.no,bI⟩:Nat):Int) s.fp none)⟩),.inr ⟨AS,.inl ⟨av,.inr ⟨sV,rfl,b,rfl⟩⟩⟩⟩,_,_,_,bp,rfl,rfl,aA,rfl⟩
 .cases ab:c3 w.ds s.fp with
  |none=>
   have b9:=Ki av ab;obtain⟨z,U,L,a8,db,ds,es,M,lb,Q,eA,bR,bI⟩:=w;simp only at Z;subst Z;refine hG [] Tryz.func33 ?_;refine⟨rfl,_,_,fun N=>qg rfl Tryz.underlying60 rfl N,rfl,?_⟩;exact ar aF ⟨fun h=>absurd h (by simp[jY]),fun _=>ar al <| ar yK ⟨eB au8,fun h=>absurd (hq.symm.trans h) au6,fun _=>ar b9 <| e5 ⟨⟨(112,_),.inr ⟨AS,.inr (.inl ⟨av,ab,rfl,rfl⟩)⟩⟩,_,_,_,bp,rfl,rfl,aA,rfl⟩⟩⟩
  |some x=>
   by_cases aW:qO w x=0
   .have b9:=ans av x ab aW;obtain⟨hx,sa⟩:=o8 x ab;obtain⟨g1,g2⟩:=Gv hx.ok
    by_cases sV:s.l < 0
    .have O:=Fn.yI (aJ:=ya x.s x.g x.es) (aO:=ya x.s x.g x.es) (ahh gk J s.l sV x.s x.g x.es) rfl rfl;obtain⟨z,U,L,a8,db,ds,es,M,lb,Q,eA,bR,bI⟩:=w;simp only at Z;subst Z;refine hG [] Tryz.func33 ?_;refine⟨rfl,_,_,fun N=>qg rfl Tryz.underlying60 rfl N,rfl,?_⟩;exact ar aF ⟨fun h=>absurd h (by simp[jY]),fun _=>ar al <| ar yK ⟨eB au8,fun h=>absurd (hq.symm.trans h) au6,fun _=>ar b9 <| df <| ar O ⟨eB au8,e5 ⟨⟨(1,_),.inr ⟨AS,.inr (.inr ⟨av,x,ab,.inr ⟨aW,.inl ⟨sV,rfl,rfl⟩⟩⟩)⟩⟩,_,_,_,bp,rfl,rfl,aA,rfl⟩⟩⟩⟩
    .have sV:0<=s.l:=av3
     have O:=Fn.yI (aJ:=ya ((d.im.t.length*2 ^w.z:Nat):Int) x.g x.es) (aO:=nw w.z w.a8 (d.im.t.length:Nat) s.l (h8 (mR x.g x.es) w.z (d.im.t.length*2 ^w.z)) [] false false++ya ((d.im.t.length*2 ^w.z:Nat):Int) x.g x.es) (ahj gk J s.l sV x.g x.es g2.1) rfl rfl;rw[aR] at O;rw[sa] at b9;have DF:=LJ ((ew w*2 ^w.z:Nat):Int) x.g x.es;have anu:=LI ((ew w*2 ^w.z:Nat):Int) 1 (anq au5 au5);obtain⟨z,U,L,a8,db,ds,es,M,lb,Q,eA,bR,bI⟩:=w;simp only at Z;subst Z;refine hG [11,12,15] Tryz.func33 ?_;refine⟨rfl,_,_,fun N=>qg rfl Tryz.underlying60 rfl N,rfl,?_⟩;refine ar aF ⟨fun h=>absurd h (by simp[jY]),fun _=>ar al <| ar yK ⟨eB au8,fun h=>absurd (hq.symm.trans h) au6,fun _=>ar b9 <| df <| ar O ⟨eB au8,df <| bt.mI 53 au6 <| bz [12,15] (bp) <| v6 rfl rfl rfl (cM .nilIface none none) ⟨eB au8,bz [15] (ae.trans (ae.sA 1401 (l':=(HJ z a8 db lb 0 .nilIface none none (vt s.nm [] z ((ew ⟨z,U,L,a8,db,ds,es,M,lb,Q,eA,.no,bI⟩:Nat):Int) s.fp none)).set 16 (.bJ (.pointer none))) rfl aA) (ae.Wg 1601 rfl)) <| ar Db <| ar (Fn.aV [(1001,5001),(1002,5002)] DF) <| ar (Fn.aV [(2001,6001),(2002,6002)] anu) <| bt.eY (de.mark 6001 6009 rfl au6) fun kE=>bt.eY (de.mark 2001 2009 rfl au6) fun b=>bt.le (ae.vr 1401 16 6001 6009 kE rfl rfl rfl) <| bt.le (ae.close 6001 (iq 6001 6002 ((ew ⟨z,U,L,a8,db,ds,es,M,lb,Q,eA,.no,bI⟩*2 ^z:Nat):Int) 1 []) (o:=fg ((ew ⟨z,U,L,a8,db,ds,es,M,lb,Q,eA,.no,bI⟩*2 ^z:Nat):Int) 1 []) aA rfl fun I F x p h=>iD.aV [(6001,1001),(6002,1002)] h) <| bt.le (ae.trans (ae.vs 6001 6009 kE rfl rfl) (ae.put 1601 6001 au6 rfl rfl)) <| bt.le (ae.FA 7 2001 2009 b rfl rfl) <| bz [] (ae.HH 1501 2001 1001 2009 b (nw z a8 ((ew ⟨z,U,L,a8,db,ds,es,M,lb,Q,eA,.no,bI⟩:Nat):Int) s.l (h8 (mR x.g x.es) z (ew ⟨z,U,L,a8,db,ds,es,M,lb,Q,eA,.no,bI⟩*2 ^z)) [] false false) rfl rfl aA rfl) ⟨_,_,fun N=>FB rfl Tryz.underlying62 rfl N,rfl,?_⟩⟩⟩⟩⟩;exact ar (HL (z:=z) (U:=U) (L:=L) (a8:=a8) (db:=db) (lb:=lb) (kd:=0) (fh:=.nilIface) (c8:=none) (pu:=some b) (m:=(vt s.nm (tJ Q) z ((ew ⟨z,U,L,a8,db,ds,es,M,lb,Q,eA,.no,bI⟩:Nat):Int) s.fp (some (kE,((ew ⟨z,U,L,a8,db,ds,es,M,lb,Q,eA,.no,bI⟩*2 ^z:Nat):Int),1,[])))) (es:=es) (M:=M) 3 62 (.pointer (some ⟨b,0,none⟩))) ⟨⟨(0,⟨z,U,L,a8,db,ds,es,M,lb,Q,b,.pu a8 ((ew ⟨z,U,L,a8,db,ds,es,M,lb,Q,eA,.no,bI⟩:Nat):Int) s.l (h8 (mR x.g x.es) z (ew ⟨z,U,L,a8,db,ds,es,M,lb,Q,eA,.no,bI⟩*2 ^z)) [] false false,(vt s.nm (tJ Q) z ((ew ⟨z,U,L,a8,db,ds,es,M,lb,Q,eA,.no,bI⟩:Nat):Int) s.fp (some (kE,((ew ⟨z,U,L,a8,db,ds,es,M,lb,Q,eA,.no,bI⟩*2 ^z:Nat):Int),1,[])))⟩),.inr ⟨AS,.inr (.inr ⟨av,x,ab,.inr ⟨aW,.inr ⟨sV,rfl,b,kE,rfl⟩⟩⟩)⟩⟩,_,_,_,bp,rfl,rfl,aA,rfl⟩
   .have b9:=Hm av x ab aW;obtain⟨z,U,L,a8,db,ds,es,M,lb,Q,eA,bR,bI⟩:=w;simp only at Z;subst Z;refine hG [] Tryz.func33 ?_;refine⟨rfl,_,_,fun N=>qg rfl Tryz.underlying60 rfl N,rfl,?_⟩;exact ar aF ⟨fun h=>absurd h (by simp[jY]),fun _=>ar al <| ar yK ⟨eB au8,fun h=>absurd (hq.symm.trans h) au6,fun _=>ar b9 ⟨fun _=>⟨⟨(_,_),.inr ⟨AS,.inr (.inr ⟨av,x,ab,.inl ⟨aW,rfl,rfl⟩⟩)⟩⟩,_,_,_,bp,rfl,rfl,aA,rfl⟩,fun h=>absurd h (by simp[aW])⟩⟩⟩
end
section
theorem WJ (A B:aw) (h:((cl A).all fun d=>(ag B d).isNone)=true) (c:Nat):ag (B++A) c=ag (A++B) c:=by
 rw[iF,iF]
 cases ha:ag A c with
 |none=>cases ag B c <;>rfl
 |some x=>
  have:=ar4.1 h c (gm.2 ⟨x,ha⟩);rw[au1.1 this]
theorem Fn.swap {P:Program} {f:FuncId} {args:List aP} {A B A' B':aw} {bc:ay5} {res:aP} (h:Fn P f args (A++B) bc res (A'++B')) (E:((cl A).all fun d=>(ag B d).isNone)=true) (G:((cl A').all fun d=>(ag B' d).isNone)=true):Fn P f args (B++A) bc res (B'++A'):=
 Fn.HK h (WJ A B E) (WJ A' B' G)
theorem anv {s g bD g2:Int} {es en ea:List (aa ak×aa ak)} {b:Nat} {r:Int} (h:Fn Tryz.prog 104 [ap 1001,ap 3001] (GI s g es bD g2 ea) [] (ac r) (GI s g en bD g2 ea)):
  Fn Tryz.prog 104 [ap 1001,dn b] (iq 1001 1002 s g es++[(1601,.aG (.bA [(b,fg bD g2 ea)]))]) [] (ac r) (iq 1001 1002 s g en++[(1601,.aG (.bA [(b,fg bD g2 ea)]))]):=by
 have cC:Fn Tryz.prog 104 [ap 1001,ap 3001] ((3001,.aG (fg bD g2 ea))::iq 1001 1002 s g es) [] (ac r) ((3001,.aG (fg bD g2 ea))::iq 1001 1002 s g en):=
  Fn.close (bo:=iq 3001 3002 bD g2 ea) (dv:=iq 3001 3002 bD g2 ea) [3002] (Fn.swap (A:=iq 1001 1002 s g es) (A':=iq 1001 1002 s g en) h rfl rfl) (fun _ _ _ _ h=>iD.aV [(1001,3001),(1002,3002)] h) (fun _ _ _ _ h=>iD.aV [(3001,1001),(3002,1002)] h) rfl rfl
 have cG:Fn Tryz.prog 104 [ap 1001,ap 3001] ((3001,.aG ((fg bD g2 ea).at b))::iq 1001 1002 s g es) [] (ac r) ((3001,.aG ((fg bD g2 ea).at b))::iq 1001 1002 s g en):=Fn.amI (b:=b) cC rfl
 refine Fn.via (X:=Unit) (args':=fun _=>[ap 1001,ap 3001]) (uE:=fun _=>(3001,.aG ((fg bD g2 ea).at b))::(1601,.aG (.bA (j4 [(b,fg bD g2 ea)] b)))::iq 1001 1002 s g es) (m6:=fun _=>(3001,.aG ((fg bD g2 ea).at b))::iq 1001 1002 s g es) (i9:=fun _=>[]) (res':=fun _=>ac r) (nR:=fun _=>(3001,.aG ((fg bD g2 ea).at b))::iq 1001 1002 s g en) cG.1 2 rfl ?_ (fun _=>cG) (fun _=>aA) (fun _=>rfl) (fun _=>rfl)
  (fun _=>⟨ac r,iq 1001 1002 s g en++[(1601,.aG (.bA (e4 [(b,fg bD g2 ea)] b (fg bD g2 ea))))],?_,rfl,⟨rfl,rfl,?_,trivial⟩,rfl⟩)
 .rintro N C a w ax
  have gZ:ae (cl (iq 1001 1002 s g es++[(1601,.aG (.bA [(b,fg bD g2 ea)]))])) (oM 0 [ap 1001,dn b]) (iq 1001 1002 s g es++[(1601,.aG (.bA [(b,fg bD g2 ea)]))]) (oM 0 [ap 1001,ap 3001]) ((3001,.aG ((fg bD g2 ea).at b))::(1601,.aG (.bA (j4 [(b,fg bD g2 ea)] b)))::iq 1001 1002 s g es):=
   ae.trans (ae.Ce 1601 3001 b rfl (if_pos rfl) rfl) (ae.trans (ae.QH 1 3001 b rfl rfl) (ae.sub aA aA))
  exact⟨(),gZ N C a w ax⟩
 .exact ae.trans (ae.QM (o:=fg bD g2 ea) (L:=[(b,fg bD g2 ea)]) 1601 3001 b rfl rfl (if_pos rfl) au6) (ae.sub aA aA)
 .show some (bb.aG (.bA (e4 [(b,fg bD g2 ea)] b (fg bD g2 ea))))=_;rw[show e4 [(b,fg bD g2 ea)] b (fg bD g2 ea)=[(b,fg bD g2 ea)] from if_pos rfl]
theorem WK {nm:ay4} {u:bd->bd} (a7: ∀x,(u x).nm=x.nm): ∀{l:List bd} {e:bd},c3 l nm=some e->c3 (mb l nm u) nm=some (u e)
 | [],_,h=>by cases h
 |d::l,e,h=>by
  rw[wA] at h;show c3 ((if d.nm=nm then u d else d)::mb l nm u) nm=_;rw[wA]
  by_cases c:d.nm=nm
  .rw[if_pos c] at h;injection h with h
   subst h;rw[if_pos c,if_pos ((a7 d).trans c)]
  .rw[if_neg c] at h;rw[if_neg c,if_neg c];exact WK a7 h
theorem WL {nm:ay4}: ∀{l:List bd} {e:bd},(l.map (·.nm)).Nodup->c3 l nm=some e->c3 (kT l nm) nm=none/\(kT l nm).length < l.length
 | [],_,_,h=>by cases h
 |d::l,e,hn,h=>by
  rw[aq4,aq7] at hn;rw[wA] at h;unfold kT
  by_cases c:d.nm=nm
  .rw[if_pos c];refine⟨?_,Nat.lt_succ_self _⟩
   cases ab:c3 l nm with
   |none=>rfl
   |some x=>
    obtain⟨ci,cN⟩:=jR ab;exact absurd (by rw[c,<-cN];exact aq6 ci) hn.1
  .rw[if_neg c] at h⊢;obtain⟨ci,cN⟩:=WL hn.2 h;exact⟨by rw[wA,if_neg c];exact ci,by simp only[as5];omega⟩
abbrev gK (m:Made) (g:List (Nat×ay4)):bL:=(dH m.f0,dh m.f0,cT m.f0,er m.f0,n4 g)
abbrev pZ (m:Made) (g:List (Nat×ay4)):Made:=⟨gK m g,m.eM,m.ed⟩
def HT (ds:List bd) (eM:ay4) (x:bd) (bD g2:Int) (ea:List (aa ak×aa ak)) (a b:Nat):List bd:=mb (kT (mb ds eM oa) eM++[⟨eM,a,b,true,true,x.s,x.g,wx x.s x.g (oa x).es (qt bD g2 ea)⟩]) eM fun e=>{e with on:=x.on}
def vu (w:cc) (g:List (Nat×ay4)) (e:Int) (w':cc):Prop:=(gz w.Q (gK w.bI g)≠0/\e=gz w.Q (gK w.bI g)/\w'={w with bI:=pZ w.bI g})\/
 (gz w.Q (gK w.bI g)=0/\ ∃e0,vq {w with bI:=pZ w.bI g} (gv w.Q (gK w.bI g)) e e0/\
  (((e≠0\/w.bI.ed=none\/c3 w.ds w.bI.eM=none)/\w'=e0)\/(e=0/\ ∃kE bD g2 ea x a b,w.bI.ed=some (kE,bD,g2,ea)/\c3 w.ds w.bI.eM=some x/\dS (HT w.ds w.bI.eM x bD g2 ea a b)/\w'={e0 with ds:=HT w.ds w.bI.eM x bD g2 ea a b})))
theorem WM {z U:Nat} {L:List aN} {nm:ay4} {l:ay5} {g:List (Nat×ay4)} (af:fm z U L nm l g) (m:Made) (p:j8) (h:p∈cy (gK m g)):(mg p).length<=4294967296:=by
 obtain⟨k,_,rfl⟩:=ar2.1 (show p∈n4 g from h)
 exact LN k g fun q aT=>by
  have E:=(af.gt q aT).2;have G:2 ^z<=2 ^3:=Nat.pow_le_pow_right au6 af.cs.b3;omega
theorem anw (w:cc) (aD:lq w) {nm:ay4} {n rm:Int} {l:ay5} {g:List (Nat×ay4)} {over:Bool} (Z:w.bR= .pu nm n rm l g over true) (af:fm w.z w.U w.L nm l g) (qe:gr (dH w.bI.f0)=true) (ek:gz w.Q (gK w.bI g)≠0):
  cu Tryz.prog 66 [ap 1401] (cP w) [] (X:=mY (vu w g)) (fun p=>ac p.1.1) (fun p=>cP p.1.2):=by
 have i7:=Wu (b:=w.b) (n:=n) (rm:=rm) (over:=over) af;have V:=NJ aD.q.tolm w.lb;have J:=NK aD.q;have Tg:=af.LR;have qv:=Mj w.Q (gK w.bI g) (by have:=aD.q.len;omega) (by have:=CO qe;show(dH w.bI.f0).length<=_;omega) (by show(n4 g).length<=_;rw[LM];omega) (WM af w.bI);obtain⟨z,U,L,a8,db,ds,es,M,lb,Q,eA,bR,bI⟩:=w;simp only at Z;subst Z;refine hG [] Tryz.func66 ?_;refine ar i7 <| ar V <| ar J <| ar (Fn.aV [(1001,3001),(1002,3002),(1003,3003)] qv) ⟨fun h=>absurd (gd h) ek,fun _=>?_⟩;exact⟨fun _=>⟨eB au8,⟨(_,⟨z,U,L,a8,db,ds,es,M,lb,Q,eA,.pu nm n rm l g over true,pZ bI g⟩),.inl ⟨ek,rfl,rfl⟩⟩,_,_,_,bp,rfl,rfl,aA,rfl⟩,fun h=>absurd h (by simp only at ek;simp[ek])⟩
theorem anx {w:cc} {g:List (Nat×ay4)} (ek:gz w.Q (gK w.bI g)=0) (aW:pj (gv w.Q (gK w.bI g))=0) {b lb:Nat} (O:b∉w.M.map (·.1)) {kE:Nat} {bD g2:Int} {ea:List (aa ak×aa ak)} {x:bd} (ax:w.bI.ed=some (kE,bD,g2,ea)) (ab:c3 w.ds w.bI.eM=some x) {l':List bd}
  (tF:sU (kT (mb w.ds w.bI.eM oa) w.bI.eM) w.bI.eM=0) (al:DU (kT (mb w.ds w.bI.eM oa) w.bI.eM) w.bI.eM true true x.s x.g (wx x.s x.g (oa x).es (qt bD g2 ea)) l'):
  vu w g 0 {w with bI:=pZ w.bI g,es:=ou w.es (gv w.Q (gK w.bI g)) b,M:=(b,ov (gv w.Q (gK w.bI g)) b)::w.M,lb:=lb,Q:=gv w.Q (gK w.bI g),ds:=mb l' w.bI.eM fun e=>{e with on:=x.on}}:=by
 rcases al.2 with⟨_,_,_,_,a,dZ,rfl⟩ |⟨h,_⟩
 .refine .inr ⟨ek,{w with bI:=pZ w.bI g,es:=ou w.es (gv w.Q (gK w.bI g)) b,M:=(b,ov (gv w.Q (gK w.bI g)) b)::w.M,lb:=lb,Q:=gv w.Q (gK w.bI g)},⟨aW.symm,b,O,.inl ⟨aW,lb,?_⟩⟩,.inr ⟨rfl,kE,bD,g2,ea,x,a,dZ,ax,ab,al.1.TT (fun e=>{e with on:=x.on}) w.bI.eM (fun _=>⟨rfl,rfl,rfl⟩) fun _ h=>h,?_⟩⟩
  .with_reducible rfl
  .unfold HT
   with_reducible rfl
 .exact absurd tF h
theorem anz (w:cc) (aD:lq w) {nm:ay4} {n rm:Int} {l:ay5} {g:List (Nat×ay4)} {over:Bool} (Z:w.bR= .pu nm n rm l g over true) (af:fm w.z w.U w.L nm l g) (qe:gr (dH w.bI.f0)=true) (ek:gz w.Q (gK w.bI g)=0):
  cu Tryz.prog 66 [ap 1401] (cP w) [] (X:=mY (vu w g)) (fun p=>ac p.1.1) (fun p=>cP p.1.2):=by
 have i7:=Wu (b:=w.b) (n:=n) (rm:=rm) (over:=over) af;have V:=NJ aD.q.tolm w.lb;have J:=NK aD.q;have Tg:=af.LR;have qv:=Mj w.Q (gK w.bI g) (by have:=aD.q.len;omega) (by have:=CO qe;show(dH w.bI.f0).length<=_;omega) (by show(n4 g).length<=_;rw[LM];omega) (WM af w.bI);rw[ek] at qv;have H:=NL (aD.q.tolm.add (gK w.bI g)) aD.ny;have dJ:=Fn.m' (b:=w.db) [1002,1003,1004] 1101 (ai6 aD.ds w.bI.eM);have AT:dS (mb w.ds w.bI.eM oa):=aD.ds.TT oa w.bI.eM (fun _=>⟨rfl,rfl,rfl⟩) fun e k=>⟨k.1,k.2.1,GJ k.2.2 _ _⟩
 have o8:=aD.d5;have rE:=aD.ed;have ho:=aD.ds;obtain⟨apC,anA,_⟩:=aD.dk;have az:=NG aD.cs anA;obtain⟨z,U,L,a8,db,ds,es,M,lb,Q,eA,bR,bI⟩:=w;obtain⟨f0,eM,ed⟩:=bI;simp only at Z ek o8 rE AT ho az;subst Z
 by_cases aW:pj (gv Q (gK ⟨f0,eM,ed⟩ g))=0
 .simp only[aW] at H;have H:=WF ⟨z,U,L,a8,db,ds,es,M,lb,Q,eA,.pu nm n rm l g over true,pZ ⟨f0,eM,ed⟩ g⟩ (F:=ou es (gv Q (gK ⟨f0,eM,ed⟩ g))) (S:=ov (gv Q (gK ⟨f0,eM,ed⟩ g))) H
  cases ed with
  |none=>
   refine hG [5,6] Tryz.func66 ?_;refine ar i7 <| ar V <| ar J <| ar (Fn.aV [(1001,3001),(1002,3002),(1003,3003)] qv) <| e5 <| bt.iC eX au8 ⟨_,_,_,fun g=>_,fun g=>_,cu.aV [(3002,3003)] H,aA,rfl,fun _=>rfl,fun x=>?_⟩;obtain⟨⟨b,O⟩,DW⟩:=x;exact bz [] (bp) <| df ⟨fun _ h=>av5,fun _=>⟨eB au8,⟨(0,_),.inr ⟨ek,_,⟨aW.symm,b,O,.inl ⟨aW,DW,rfl⟩⟩,.inl ⟨.inr (.inl rfl),rfl⟩⟩⟩,_,_,_,bp,rfl,rfl,aA,rfl⟩⟩
  |some p=>
   obtain⟨kE,bD,g2,ea⟩:=p;obtain⟨ci,cN,ec⟩:=rE _ rfl;have ci:bD=((cO L a8*2 ^z:Nat):Int):=ci;have cN:g2=1:=cN
   cases ab:c3 ds eM with
   |none=>
    simp only[GR ab,GP ab] at dJ;refine hG [5,6] Tryz.func66 ?_;refine ar i7 <| ar V <| ar J <| ar (Fn.aV [(1001,3001),(1002,3002),(1003,3003)] qv) <| e5 <| bt.iC eX au8 ⟨_,_,_,fun g=>_,fun g=>_,cu.aV [(3002,3003)] H,aA,rfl,fun _=>rfl,fun y=>?_⟩;obtain⟨⟨b,O⟩,DW⟩:=y;exact bz [] (bp) <| df ⟨fun _ _=>ar dJ ⟨eB au8,e5 ⟨⟨(0,_),.inr ⟨ek,_,⟨aW.symm,b,O,.inl ⟨aW,DW,rfl⟩⟩,.inl ⟨.inr (.inr ab),rfl⟩⟩⟩,_,_,_,bp,rfl,rfl,aA,rfl⟩⟩,fun h=>av5⟩
   |some x=>
    simp only[GQ ab] at dJ;obtain⟨Bq,sa⟩:=o8 x (jR ab).1;obtain⟨cx,cA,dy,fb⟩:=ho.ok x (jR ab).1;have Fu:eM.length<=64:=(jR ab).2▸fb;have bu:gr eM=true:=(jR ab).2▸Bq.nm;have cm:=WK (u:=oa) (fun _=>rfl) ab;have a1:=NM AT db cm;have C0:=anv (b:=kE) (aiu x.s x.g (oa x).es bD g2 ea cx cA au5 au5 au5);have anB:=Fn.m' (b:=db) [1002,1003,1004] 1101 (ai8 AT eM);obtain⟨fe,bw⟩:=WL AT.ik cm;have yJ:=WE (AT.k7 eM) db eM au5 x.s x.g (wx x.s x.g (oa x).es (qt bD g2 ea)) ⟨cx,cA,TH (GJ dy _ _) _ _⟩
    have tF:sU (kT (mb ds eM oa) eM) eM=0:=(if_neg (by rw[bu];decide)).trans (if_neg (by
     have:=AT.len;rw[fe];rintro(h |h)
     .cases h
     .omega))
    simp only[tF] at yJ;refine hG [5,6,12] Tryz.func66 ?_;refine ar i7 <| ar V <| ar J <| ar (Fn.aV [(1001,3001),(1002,3002),(1003,3003)] qv) <| e5 <| bt.iC eX au8 ⟨_,_,_,fun g=>_,fun g=>_,cu.aV [(3002,3003)] H,aA,rfl,fun _=>rfl,fun y=>?_⟩;obtain⟨⟨b,O⟩,DW⟩:=y;refine bz [12] (bp) <| df ⟨fun _ _=>ar dJ ⟨eB au8,df <| ar a1 ⟨rfl,eB au8,ar (Fn.aV [(1001,5001),(1002,5002)] C0) ⟨eB au8,ar anB ⟨eB au8,ar (Fn.aV [(2001,5001),(2002,5002)] yJ) ⟨eB au8,bt.eY (de.i4 1101 rfl) fun aC=>?_⟩⟩⟩⟩⟩,fun h=>av5⟩;obtain⟨l',f3⟩:=aC;have anC:=Fn.m' (b:=db) [1002,1003,1004] 1101 (ai5 f3.1 eM x.on);exact bz [] (bp) <| ar anC ⟨eB au8,⟨(0,_),anx (w:=⟨z,U,L,a8,db,ds,es,M,lb,Q,eA,.pu nm n rm l g over true,⟨f0,eM,some (kE,bD,g2,ea)⟩⟩) (lb:=DW) ek aW O (Eq.refl _) ab tF f3⟩,_,_,_,bp,rfl,rfl,aA,rfl⟩
 .have fq: ∀b:{b:Nat//b∉M.map (·.1)},vq ⟨z,U,L,a8,db,ds,es,M,lb,Q,eA,.pu nm n rm l g over true,pZ ⟨f0,eM,ed⟩ g⟩ (gv Q (gK ⟨f0,eM,ed⟩ g)) (pj (gv Q (gK ⟨f0,eM,ed⟩ g))) ⟨z,U,L,a8,db,ds,ou es (gv Q (gK ⟨f0,eM,ed⟩ g)) b.1,(b.1,ov (gv Q (gK ⟨f0,eM,ed⟩ g)) b.1)::M,lb,Q,eA,.pu nm n rm l g over true,pZ ⟨f0,eM,ed⟩ g⟩:=fun b=>⟨Eq.refl _,b.1,b.2,.inr ⟨aW,Eq.refl _⟩⟩
  have H:=WG ⟨z,U,L,a8,db,ds,es,M,lb,Q,eA,.pu nm n rm l g over true,pZ ⟨f0,eM,ed⟩ g⟩ aW (F:=ou es (gv Q (gK ⟨f0,eM,ed⟩ g))) (S:=ov (gv Q (gK ⟨f0,eM,ed⟩ g))) H;generalize pj (gv Q (gK ⟨f0,eM,ed⟩ g))=e at fq aW H;refine hG [5,6] Tryz.func66 ?_;exact ar i7 <| ar V <| ar J <| ar (Fn.aV [(1001,3001),(1002,3002),(1003,3003)] qv) <| e5 <| bt.iC eX au8 ⟨_,_,_,fun g=>_,fun g=>_,cu.aV [(3002,3003)] H,aA,rfl,fun _=>rfl,fun x=>bz [] (bp) ⟨fun _=>⟨eB au8,⟨(e,_),.inr ⟨ek,_,fq x,.inl ⟨.inl aW,rfl⟩⟩⟩,_,_,_,bp,rfl,rfl,aA,rfl⟩,fun h=>absurd h (by simp[aW])⟩⟩
abbrev HU:Type:=List bd×e3×dN×Nat×List bL
abbrev AU (w:cc) (g:List (Nat×ay4)) (t:HU):cc:={w with bI:=pZ w.bI g,ds:=t.1,es:=t.2.1,M:=t.2.2.1,lb:=t.2.2.2.1,Q:=t.2.2.2.2}
theorem DX {w w':cc} {Q:List bL} {e:Int} (h:vq w Q e w'):w'={w with es:=w'.es,M:=w'.M,lb:=w'.lb,Q:=w'.Q}:=by
 obtain⟨_,b,_,⟨_,lb,rfl⟩ |⟨_,rfl⟩⟩:=h
 .with_reducible rfl
 .with_reducible rfl
theorem WN {w w':cc} {g:List (Nat×ay4)} {e:Int} (h:vu w g e w'):w'=AU w g (w'.ds,w'.es,w'.M,w'.lb,w'.Q):=by
 rcases h with⟨_,_,rfl⟩ |⟨_,e0,G,⟨_,rfl⟩ |⟨_,kE,bD,g2,ea,x,a,b,_,_,_,rfl⟩⟩
 .with_reducible rfl
 .have aj:=DX G;rw[aj]
 .have aj:=DX G;rw[aj]
theorem anD (w:cc) (aD:lq w) {nm:ay4} {n rm:Int} {l:ay5} {g:List (Nat×ay4)} {over:Bool} (Z:w.bR= .pu nm n rm l g over true) (af:fm w.z w.U w.L nm l g) (qe:gr (dH w.bI.f0)=true):
  cu Tryz.prog 66 [ap 1401] (cP w) [] (X:={p:Int×HU//vu w g p.1 (AU w g p.2)}) (fun p=>ac p.1.1) (fun p=>cP (AU w g p.1.2)):=by
 have h:cu Tryz.prog 66 [ap 1401] (cP w) [] (X:=mY (vu w g)) (fun p=>ac p.1.1) (fun p=>cP p.1.2):=by
  by_cases ek:gz w.Q (gK w.bI g)=0
  .exact anz w aD Z af qe ek
  .exact anw w aD Z af qe ek
 exact h.to (fun x=>⟨(x.1.1,x.1.2.ds,x.1.2.es,x.1.2.M,x.1.2.lb,x.1.2.Q),WN x.2▸x.2⟩) (fun _=>rfl) fun x=>congrArg cP (WN x.2)
end
section
section
variable {P:Program} {ids:ay5} {K:aY} {B:aw} {o:Oper}
abbrev rQ (f b:Nat):Value:=.func (.func f) #[.pointer (some ⟨b,0,none⟩)] #[]
def wU (b:Nat):Nat->ay5->List MapEntry->Prop
 |_,[],es=>es=[]
 |i,f::fs,es=> ∃e r,es=e::r/\e.key= .int .i64 (i:Int)/\e.val=rQ f b/\wU b (i+1) fs r
theorem wU.qP {b f:Nat}: ∀{fs:ay5} {i:Nat} {es:List MapEntry} {e:MapEntry},wU b i fs es->e.key= .int .i64 ((i+fs.length:Nat):Int)->e.val=rQ f b->wU b i (fs++[f]) (es++[e])
 | [],i,es,e,h,E,G=>by rw[show es=[] from h];exact⟨e,[],rfl,E,G,rfl⟩
 |x::fs,i,_,e,⟨b5,r,h,b4,cg,a3⟩,E,G=>by
  rw[h];exact⟨b5,r++[e],rfl,b4,cg,wU.qP a3 (by rw[E,as5,show i+(fs.length+1)=i+1+fs.length by omega]) G⟩
theorem HV {b:Nat} {k:Int}: ∀{fs:ay5} {i:Nat} {es:List MapEntry} (j:Nat),wU b i fs es->
  ((k < (i:Int)\/((i+fs.length:Nat):Int)<=k)->Instr.findNow (.int .i64) (.int .i64 k) es j=some none)/\(∀(m:Nat) (az:m < fs.length),k=((i+m:Nat):Int)->Instr.findNow (.int .i64) (.int .i64 k) es j=some (some (j+m,rQ fs[m] b)))
 | [],i,es,j,h=>by
  rw[show es=[] from h];exact⟨fun _=>rfl,fun m az=>absurd az (au3 _)⟩
 |f::fs,i,_,j,⟨e,r,h,b4,cg,a3⟩=>by
  subst h;obtain⟨aC,aR,qU⟩:=MapKept.sameNow_of_keys (rV (aI:=ak) (d:=.int .i64) rfl k) (rV (aI:=ak) (d:=.int .i64) rfl ((i:Nat):Int));have aR:Instr.sameNow (.int .i64) (.int .i64 k) e.key=some aC:=by rw[b4];exact aR
  obtain⟨r1,r2⟩:=HV (k:=k) (j+1) a3
  by_cases ab:k=(i:Int)
  .have anE:aC=true:=qU.2 (by rw[ab]);subst anE;refine⟨fun bk=>?_,fun m az bk=>?_⟩
   .rw[as5] at bk;omega
   .obtain rfl:m=0:=av3
    simp[Instr.findNow,aR,cg]
  .have anF:aC=false:=by
    cases aC with
    |false=>rfl
    |true=>
     have:=qU.1 rfl;injection this with _ G
     exact absurd G ab
   subst anF;refine⟨fun bk=>?_,fun m az bk=>?_⟩
   .simp only[Instr.findNow,aR];exact r1 (by rw[as5] at bk;omega)
   .cases m with
    |zero=>exact absurd bk ab
    |succ m=>
     have:=r2 m (by simpa using az) (by rw[bk];omega);simp only[Instr.findNow,aR];simp only[List.getElem_cons_succ];rw[show j+(m+1)=j+1+m by omega];exact this
def yL (b:Nat) (fs:ay5):bf where
 R:=fun _ F w p=>(∀x,F x↔x=p.bj)/\ ∃bT bV,w.heap[p.bj]? =some (.map (List.toArray bT) bV)/\wU b 0 fs bT/\lZ bT bV
 cj:=fun _ F w _ w' p ⟨E,bT,bV,G,aj⟩ _ bh _=>⟨E,bT,bV,(bh _ ((E _).2 rfl)).trans G,aj⟩
def NP (b:Nat) (fs:ay5) (ch:bb):Prop:=(fs=[]/\ch= .map ak .fn [])\/ch= .aG (yL b fs)
theorem NP.holds {b:Nat} {fs:ay5} {ch:bb} (h:NP b fs ch) {ρ:Nat->bn} {I F:Nat->Prop} {w:World} {p:bn} (bk:Holds ρ I F w p ch):(yL b fs).R I F w p:=by
 rcases h with⟨rfl,rfl⟩ |rfl
 .obtain⟨E,bT,bV,G,aj,aX⟩:=bk;exact⟨E,bT,bV,G,aj,aX⟩
 .exact bk
theorem ka {T kt et:TypeId} {x i v:Operand} {c f b:Nat} (ah:o.op= .insert T x i v) (cd:P.underlying T=some (.map kt et)) (j3:P.underlying kt=some (.int .i64)) {fs:ay5} {ch:bb} (hx:a6 K x= .c (.one (.mp c))) (ab:a6 K i= .c (.one (.d (.int .i64 (fs.length:Nat)))))
  (ay:a6 K v=x' f b) (H:ag B c=some ch) (hw:NP b fs ch) (N:Nat):bB P N ids o K B .undef ⟨[c],[],[(c,some (.aG (yL b (fs++[f]))))]⟩:=by
 have cI:x∈o.op.operands:=av2
 have dF:i∈o.op.operands:=av2
 have ld:v∈o.op.operands:=av2
 refine bB.SW H fun K' B' g1 g2 C ρ F a w aq au f3=>?_
 obtain⟨bh,bT,bV,O,az,da⟩:=hw.holds (aq.holds c _ f3);have ai:=au.mp ((g1 x cI).trans hx);have ao:a.eval i= .int .i64 ((fs.length:Nat):Int):=au.int ((g1 i dF).trans ab);have bl:a.eval v=rQ f b:=au.ev ((g1 v ld).trans ay);have qr:=fun e=>MapKept.run_checkKey (P:=P) (w:=w) j3 (rV (aI:=ak) (d:=.int .i64) rfl ((fs.length:Nat):Int)) e 9999
 have ez:=fun o=>MapKept.run_setObj_map (P:=P) o O
 have hf:=MapKept.run_findKey (P:=P) (w:=w) j3 ((HV 0 az).1 (.inr (by rw[Nat.zero_add];exact Int.le_refl _)));have bw:=k1 O;simp only[gG] at qr
 have aF:(Instr.mapUpdate T (.map (some (ρ c).bj)) (.int .i64 ((fs.length:Nat):Int)) (rQ f b)).run P w= .ok () {w with heap:=w.heap.setIfInBounds (ρ c).bj (.map (List.toArray (bT++[⟨.int .i64 ((fs.length:Nat):Int),rQ f b,bV⟩])) (bV+1))}:=by
  simp[Instr.mapUpdate,run_underlying cd,MapKept.run_getObj_map O,qr,hf,ez,Result.andThen]
 refine⟨{w with heap:=w.heap.setIfInBounds (ρ c).bj (.map (List.toArray (bT++[⟨.int .i64 ((fs.length:Nat):Int),rQ f b,bV⟩])) (bV+1))},?_,ul ((bh _).2 rfl),fun I aW=>⟨bh,bT++[⟨.int .i64 ((fs.length:Nat):Int),rQ f b,bV⟩],bV+1,by simp[bw],wU.qP az (by rw[Nat.zero_add]) rfl,Oo da _ _⟩⟩;simp only[execOp,ah,Sem.run_bind,ai,ao,bl,aF,Result.andThen_ok,Sem.run_pure]
theorem anG {aS:dc} (bm:d6 P aS) {T kt et:TypeId} {x i:Operand} {c b:Nat} (ah:o.op= .lookup T x i true) (cd:P.underlying T=some (.map kt et)) (j3:P.underlying kt=some (.int .i64)) {ti:cb} (gB:aS.find et=some ti) {fs:ay5} (hx:a6 K x= .c (.one (.mp c))) {key:Int} (ab:a6 K i= .c (.one (.d (.int .i64 key))))
  (H:ag B c=some (.aG (yL b fs))) {m:Nat} {f:Nat} (az:fs[m]? =some f) (NQ:key=(m:Int)) (N:Nat):bB P N ids o K B (.cf [.one (.bJ (rQ f b)),.one (.d (.lit true))]) ⟨[c],[],[]⟩:=by
 have cI:x∈o.op.operands:=av2
 have dF:i∈o.op.operands:=av2
 obtain⟨Cp,d,bu⟩:=bm.at_ gB;obtain⟨aC,aR,my⟩:=bu.zero;refine bB.val fun K' B' g1 g2 C ρ F a w aq au=>?_
 obtain⟨bh,bT,bV,O,wb,da⟩:(yL b fs).R _ _ w _:=aq.holds c _ ((g2 c au7).trans H);have ai:=au.mp ((g1 x cI).trans hx);have ao:a.eval i= .int .i64 key:=au.int ((g1 i dF).trans ab);have qr:=fun e=>MapKept.run_checkKey (P:=P) (w:=w) j3 (rV (aI:=ak) (d:=.int .i64) rfl key) e 9999
 obtain⟨al,V⟩:=ap5.1 az;have hf:=MapKept.run_findKey (P:=P) (w:=w) j3 ((HV (k:=key) 0 wb).2 m al (by rw[Nat.zero_add];exact NQ));rw[V] at hf;refine⟨.tuple #[rQ f b,.bool true],?_,⟨[rQ f b,.bool true],rfl,_,_,rfl,rfl,_,_,rfl,rfl,rfl⟩⟩
 have aF:(Instr.lookup T (.map (some (ρ c).bj)) (.int .i64 key) true).run P w= .ok (.tuple #[rQ f b,.bool true]) w:=by
  simp only[gG] at qr hf;simp[Instr.lookup,run_underlying cd,MapKept.run_getObj_map O,qr,hf,Result.andThen]
 simp only[execOp,ah,Sem.run_bind,ai,ao,aF,Result.andThen_ok,Sem.run_pure]
theorem anH {aS:dc} (bm:d6 P aS) {T kt et:TypeId} {x i:Operand} {c b:Nat} (ah:o.op= .lookup T x i true) (cd:P.underlying T=some (.map kt et)) (j3:P.underlying kt=some (.int .i64)) {ti:cb} (gB:aS.find et=some ti) {fs:ay5} (hx:a6 K x= .c (.one (.mp c))) {key:Int} (ab:a6 K i= .c (.one (.d (.int .i64 key))))
  (H:ag B c=some (.aG (yL b fs))) (NQ:key < 0\/((fs.length:Nat):Int)<=key) (N:Nat):bB P N ids o K B (.cf [.one .any,.one (.d (.lit false))]) ⟨[c],[],[]⟩:=by
 have cI:x∈o.op.operands:=av2
 have dF:i∈o.op.operands:=av2
 obtain⟨Cp,d,bu⟩:=bm.at_ gB;obtain⟨aC,aR,my⟩:=bu.zero;refine bB.val fun K' B' g1 g2 C ρ F a w aq au=>?_
 obtain⟨bh,bT,bV,O,wb,da⟩:(yL b fs).R _ _ w _:=aq.holds c _ ((g2 c au7).trans H);have ai:=au.mp ((g1 x cI).trans hx);have ao:a.eval i= .int .i64 key:=au.int ((g1 i dF).trans ab);have B8:(zeroValue et).run P w= .ok aC w:=by simp[zeroValue,typeInfo,bu.jE,aR]
 have qr:=fun e=>MapKept.run_checkKey (P:=P) (w:=w) j3 (rV (aI:=ak) (d:=.int .i64) rfl key) e 9999
 have hf:=MapKept.run_findKey (P:=P) (w:=w) j3 ((HV (k:=key) 0 wb).1 (by rw[Nat.zero_add];exact NQ));refine⟨.tuple #[aC,.bool false],?_,⟨[aC,.bool false],rfl,_,_,rfl,trivial,_,_,rfl,rfl,rfl⟩⟩
 have aF:(Instr.lookup T (.map (some (ρ c).bj)) (.int .i64 key) true).run P w= .ok (.tuple #[aC,.bool false]) w:=by
  simp only[gG] at qr hf;simp[Instr.lookup,run_underlying cd,MapKept.run_getObj_map O,qr,hf,B8,Result.andThen]
 simp only[execOp,ah,Sem.run_bind,ai,ao,aF,Result.andThen_ok,Sem.run_pure]
end
theorem cu.mk {P:Program} {f:FuncId} {c m b:Nat} {args:List aP} {aJ:aw} {bc:ay5} {X:Type} {res:X->aP} {aO:X->aw} (h:cu P f (.c (.one (.ptr c 0))::args) aJ bc res aO) (E:((ag aJ m).isNone&& !bc.contains c&& !bc.contains m)=true) (G: ∀g,(ag (aO g) m).isNone=true):
  cu P f (.c (.one (.d (.aL (some b))))::args) (aJ++[(m,.cn c (e6 b))]) bc res (fun g=>aO g++[(m,.cn c (e6 b))]):=by
 obtain⟨fT,h⟩:=h;simp only[vj,Bool.not_eq_true',au1] at E G;obtain⟨⟨b4,cg⟩,a3⟩:=E;have cg:=vW cg;have hs: ∀(B:aw) {e:Nat} {ch:bb},ag B e=some ch->ag (B++[(m,.cn c (e6 b))]) e=some ch:=fun B {e ch} V=>by rw[iF,V]
 have one: ∀(B:aw),ag B m=none->ag (B++[(m,.cn c (e6 b))]) m=some (.cn c (e6 b)):=fun B hn=>by rw[iF,hn];simp[ag]
 have ts: ∀(B:aw) {e:Nat} {ch:bb},ag (B++[(m,.cn c (e6 b))]) e=some ch->(ag B e=some ch)\/(ag B e=none/\e=m/\ch= .cn c (e6 b)):=fun B {e ch} V=>by
  rw[iF] at V
  cases bk:ag B e with
  |some y=>rw[bk] at V;exact .inl V
  |none=>
   rw[bk] at V;simp only[ca] at V
   split at V
   .rename_i ao;injection V with V;exact .inr ⟨rfl,ao.symm,V.symm⟩
   .cases V
 refine⟨fT,fun ρ F I w bW ba cX bh ep b6 dt=>?_⟩;have az:(ρ c).bj=b/\ ∀x,¬F m x:=cX m _ (one aJ b4);have mE: ∀y,(∃e ch,ag aJ e=some ch/\F e y)-> ∃e ch,ag (aJ++[(m,bb.cn c (e6 b))]) e=some ch/\F e y:=fun y ⟨e,ch,V,aB⟩=>⟨e,ch,hs _ V,aB⟩
 match bW,b6 with
 |v0::bW,b6=>
 have xz:v0= .pointer (some ⟨b,0,none⟩):=dt 0 _ v0 rfl rfl;refine(h ρ F I w (v0::bW) ba (fun e ch V=>cX e ch (hs _ V)) (fun e ch V=>bh e ch (hs _ V)) (fun e b5 ch ch' x V gP=>ep e b5 ch ch' x (hs _ V) (hs _ gP)) (by simpa using b6) ?_).mono ?_
 .intro i v x ay hx
  match i with
  |0=>
   simp only[aq5,ap4] at ay hx;subst ay hx;show v0=_;rw[az.1];exact xz
  |i+1=>exact dt (i+1) v x aw6 hx
 .rintro e w' ⟨g,x,ρ',F',rfl,cz,dl,I',i5,gn,lB,aD,h3,se⟩;have a2: ∀{e ch},ag (aO g) e=some ch->e≠m:=fun {e ch} V ao=>by rw[ao,G g] at V;cases V
  refine⟨g,x,ρ',fun e=>if e=m then(fun _=>False) else F' e,rfl,cz.mono fun y _ aB=>mE y aB,dl,I',i5,fun y aB=>⟨(gn y aB).1,?_⟩,?_,?_,?_,se⟩
  .rcases(gn y aB).2 with h |h |h
   .exact .inl h
   .exact .inr (.inl (mE y h))
   .exact .inr (.inr h)
  .intro e ch V;rcases ts _ V with V |⟨_,rfl,rfl⟩
   .simp only[if_neg (a2 V)];exact lB e ch V
   .simp only[if_true];exact⟨by rw[dl c cg];exact az.1,fun _ h=>h⟩
  .intro e ch V y aB;rcases ts _ V with V |⟨_,rfl,rfl⟩
   .simp only[if_neg (a2 V)] at aB;obtain⟨cC,cG,hF⟩:=aD e ch V y aB;exact⟨cC,cG,hF.imp (mE y) id⟩
   .simp only[if_true] at aB
  .intro e b5 ch ch' y V gP hn aB d4;rcases ts _ V with ci |⟨_,rfl,rfl⟩
   .rcases ts _ gP with cN |⟨_,rfl,rfl⟩
    .simp only[if_neg (a2 ci)] at aB;simp only[if_neg (a2 cN)] at d4;exact h3 e b5 ch ch' y ci cN hn aB d4
    .simp only[if_true] at d4
   .simp only[if_true] at aB
theorem anI {P:Program} {T:Nat} {name:String} {f:Nat} (h:((P.info? T).bind fun i=>(i.methods.find? (·.name == name)).map fun m=>(m.path.isEmpty,m.func))=some (true,some (f,true))): ∃c7 m,P.info? T=some c7/\c7.methods.find? (·.name == name)=some m/\m.path= #[]/\m.func=some (f,true):=by
 cases E:P.info? T with
 |none=>rw[E] at h;cases h
 |some c7=>
  rw[E] at h
  cases G:c7.methods.find? (·.name == name) with
  |none=>simp only[Option.bind_some,G,Option.map_none] at h;cases h
  |some m=>
   simp only[Option.bind_some,G,at2,ap4,at3] at h;exact⟨c7,m,rfl,G,Array.isEmpty_iff.1 h.1,h.2⟩
theorem jT {P:Program} {ids:ay5} {K:aY} {B:aw} {o:Oper} {f:FuncId} {c:Call} {x:Operand} {b:Nat} {aJ:aw} {res:aP} {aO:aw} {T e:Nat} {name:String} (ah:o.op= .call c) (E:c.callee= .invoke x name) (G:c.args.toList=[]) (hx:a6 K x=Cd T b)
  (az:((P.info? T).bind fun i=>(i.methods.find? (·.name == name)).map fun m=>(m.path.isEmpty,m.func))=some (true,some (f,true))) (a7:P.underlying T=some (.pointer e)) (hf:Fn P f [.c (.one (.d (.aL (some b))))] aJ [] res aO) (hR:kK B aJ) (bu:mw aJ [] aO=true) (N:Nat):
  bB P N ids o K B res ⟨cl aJ,[],iy aJ aO⟩:=by
 obtain⟨c7,m,ci,cN,ec,eG⟩:=anI az;exact acz (fuel:=P.types.size+99) ah E G hx au9 ci cN ec eG a7 hf hR bu N
end
end Go.Proofs.YthnboghbhgapcaaGreat
