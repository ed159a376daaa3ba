/-
A part of the proof of this claim: lemmas, with no condition beyond what each says.
-/
import Derived.Test.YthnboghbhgapcaaGreatZa19
set_option linter.unusedVariables false
set_option linter.unusedSimpArgs false
set_option maxRecDepth 10000
namespace Go.Proofs.YthnboghbhgapcaaGreat
open Go.RowKit Go.Proofs
section
theorem Fn.amB {P:Program} {f:FuncId} {args:List aQ} {c b:Nat} {aK:ay} {bf:List Nat} {res:aQ} {aP:ay} {o o':bh} (h:Fn P f args ((c,.aG o)::aK) bf res ((c,.aG o')::aP)) (H:bf.contains c=false):Fn P f args ((c,.aG (o.at b))::aK) bf res ((c,.aG (o'.at b))::aP):=by
 have ls:c∉bf:=vO H
 have key: ∀{X:ay} {aB z':bh} {d:Nat} {ch:bd},ah ((c,bd.aG aB)::X) d=some ch->(d=c/\ch= .aG aB)\/(d≠c/\ah X d=some ch):=fun {X aB z' d ch} J=>by
  rw[ca] at J
  split at J
  .rename_i e;injection J with J;exact .inl ⟨e.symm,J.symm⟩
  .rename_i e;exact .inr ⟨fun ap=>e ap.symm,J⟩
 have to: ∀{X:ay} {aB z':bh} {d:Nat} {ch:bd},ah ((c,bd.aG aB)::X) d=some ch-> ∃ch',ah ((c,bd.aG z')::X) d=some ch':=fun {X aB z' d ch} J=>by
  rcases key (z':=aB) J with⟨rfl,_⟩ |⟨e,J⟩
  .exact⟨_,by rw[ca,if_pos rfl]⟩
  .exact⟨ch,by rw[ca,if_neg (Ne.symm e)];exact J⟩
 refine⟨h.1,fun ρ F I w bW b4 ci a3 a4 a5 gw=>?_⟩;have aq:ah ((c,bd.aG (o.at b))::aK) c=some (.aG (o.at b)):=by rw[ca,if_pos rfl]
 have aE:(ρ c).bk=b/\o.R I (F c) w (ρ c):=ci c _ aq;refine(h.2 ρ F I w bW b4 (fun d ch J=>?_) (fun d ch J x hx=>?_) (fun d cZ ch ch' x E G=>?_) a5 gw).mono ?_
 .rcases key (z':=o) J with⟨rfl,rfl⟩ |⟨e,J⟩
  .exact aE.2
  .exact ci d ch (by rw[ca,if_neg (Ne.symm e)];exact J)
 .obtain⟨ch',h'⟩:=to (z':=o.at b) J;exact a3 d ch' h' x hx
 .obtain⟨cB,g1⟩:=to (z':=o.at b) E;obtain⟨cL,g2⟩:=to (z':=o.at b) G;exact a4 d cZ cB cL x g1 g2
 .rintro e w' ⟨x,ρ',F',r1,r2,ga,I',jK,lA,l4,lB,mG,nQ⟩
  have bj: ∀y,(∃d ch,ah ((c,bd.aG o)::aK) d=some ch/\F d y)-> ∃d ch,ah ((c,bd.aG (o.at b))::aK) d=some ch/\F d y:=fun y ⟨d,ch,g1,g2⟩=>by
   obtain⟨ch',cX⟩:=to (z':=o.at b) g1;exact⟨d,ch',cX,g2⟩
  refine⟨x,ρ',F',r1,r2.mono fun y _ aC=>bj y aC,ga,I',jK,fun y aC=>⟨(lA y aC).1,(lA y aC).2.imp id (Or.imp (bj y) id)⟩,fun d ch J=>?_,fun d ch J y aC=>?_,fun d cZ ch ch' y g1 g2 ba aC=>?_,nQ⟩
  .rcases key (z':=o') J with⟨rfl,rfl⟩ |⟨e,J⟩
   .have:=l4 d _ (by rw[ca,if_pos rfl]);exact⟨by rw[ga d ls];exact aE.1,this⟩
   .exact l4 d ch (by rw[ca,if_neg (Ne.symm e)];exact J)
  .obtain⟨ch',cX⟩:=to (z':=o') J;obtain⟨cx,cA,dy⟩:=lB d ch' cX y aC;exact⟨cx,cA,dy.imp (bj y) id⟩
  .obtain⟨cB,cx⟩:=to (z':=o') g1;obtain⟨cL,cA⟩:=to (z':=o') g2;exact mG d cZ cB cL y cx cA ba aC
theorem Fn.HA {P:Program} {f:FuncId} {args:List aQ} {aK m0:ay} {bf:List Nat} {res:aQ} {aP nR:ay} (h:Fn P f args aK bf res aP) (E: ∀c,ah m0 c=ah aK c) (G: ∀c,ah nR c=ah aP c):Fn P f args m0 bf res nR:=by
 unfold Fn at h⊢;simpa only[E,G] using h
def Wf (us:Bool) (es:List (Z ak×Z ak)) (x:bg):bg:={x with us:=us,es:=es}
def Wg (l:List bg) (to fr:List UInt8):List bg×Int:=match c2 l to,c2 l fr with
 |some a,some b=>if b.s=a.s then(mQ l a.ad (Wf (a.us&&b.us) (wo a.s a.g a.es (qr b.s b.g b.es))),0) else(l,1)
 |_,_=>(l,112)
theorem dR.dc {l:List bg} (h:dR l) (to fr:List UInt8):dR (Wg l to fr).1:=by
 unfold Wg
 split
 .rename_i a b ha O
  split
  .exact h.c5 (u:=Wf (a.us&&b.us) (wo a.s a.g a.es (qr b.s b.g b.es))) (fun _=>⟨rfl,rfl,rfl⟩) fun e V ap=>by
    have:=uU h.lf V (jS ha).1 ap;subst this;obtain⟨cf,cM,eb,eA⟩:=h.ok e V;exact⟨cf,cM,Ty eb _ _⟩
  .exact h
 .exact h
end
section
section
variable {z U:Nat} {L:List aO} {bc:List UInt8} {db lb:Nat} {kd:Int} {fz:Value} {dc pu:Option Nat} {m:Made} {es:e3} {M:dN}
abbrev lS (z U:Nat) (L:List aO) (es:e3) (M:dN) (bc:List UInt8) (db lb:Nat) (kd:Int) (fz:Value) (dc pu:Option Nat) (m:Made):ay:=[oq z U L,pU es M,(1401,.cells (Hz z bc db lb kd fz dc pu m))]
theorem tM:Fn Tryz.prog 67 [ao 1401] (lS z U L es M bc db lb kd fz dc pu m) [] gI (lS z U L es M bc db lb 0 .nilIface none none m):=by
 refine aW [] Tryz.func67 rfl rfl rfl rfl ?_;exact⟨_,_,_,af.trans (af.vf 1401 8 rfl rfl) (af.vf 1401 9 rfl rfl),rfl,trivial,ac,rfl⟩
theorem HB (k:Int) (T:Nat) (p:Value):Fn Tryz.prog 57 [ao 1401,ae k,.c (.one (.bI (.iface T p)))] (lS z U L es M bc db lb kd fz dc pu m) [] (ae 0) (lS z U L es M bc db lb k (.iface T p) dc pu m):=by
 refine aW [] Tryz.func57 rfl rfl rfl rfl ?_;exact aT aH rfl rfl ac rfl
theorem Wh:Fn Tryz.prog 11 [ao 1401] (lS z U L es M bc db lb kd fz dc pu m) [] (bV bc) (lS z U L es M bc db lb kd fz dc pu m):=by
 refine aW [] Tryz.func11 rfl rfl rfl rfl ?_;exact aT aH rfl rfl ac rfl
theorem Ns:Fn Tryz.prog 10 [ao 1401] (lS z U L es M bc db lb kd fz dc pu m) [] (ae kd) (lS z U L es M bc db lb kd fz dc pu m):=by
 refine aW [] Tryz.func10 rfl rfl rfl rfl ?_;exact aT aH rfl rfl ac rfl
theorem amC:Fn Tryz.prog 23 [ao 1401] (lS z U L es M bc db lb kd fz dc pu m) [] (dn lb) (lS z U L es M bc db lb kd fz dc pu m):=by
 refine aW [] Tryz.func23 rfl rfl rfl rfl ?_;exact aT aH rfl rfl ac rfl
theorem amD (h:cE z U L) (a l:Int):Fn Tryz.prog 25 [ao 1401,ae a,ae l] (lS z U L es M bc db lb kd fz dc pu m) [] (.ce [.one (.d (.ck .u8 (z2 z L bc a l).1)),dw (z2 z L bc a l).2]) (lS z U L es M bc db lb kd fz dc pu m):=by
 refine aW [] Tryz.func25 rfl rfl rfl rfl ?_;refine au ((afY h bc a l).ch) ?_;refine⟨eC au8,?_⟩;exact aT aH rfl ac ac rfl
theorem Wi (q:Nat) (ch:bd) (B:ay) (h:ah B q=none) (c:Nat):ah (B++[(q,ch)]) c=ah ((q,ch)::B) c:=by
 simp only[iC,ca]
 by_cases e:q=c
 .subst e;simp[h]
 .simp only[if_neg e]
  cases ah B c <;>rfl
theorem amE {f:FuncId} {args:List aQ} {res:aQ} (h:Fn Tryz.prog f args [(1004,.aG (.bA (h6 L)))] [] res [(1004,.aG (.bA (h6 L)))]) (E:nO 1001 [1002,1003,1004] args (bP z U L) [] [] []=true:=by first |rfl |decide)
  (G:nP 1001 (mE [1002,1003,1004] [] []) res (bP z U L) []=true:=by first |rfl |decide):Fn Tryz.prog f args [oq z U L] [] res [oq z U L]:=
 Fn.ch (Fn.HA (Fn.qh [(1001,.cells (KI z U)),(1002,.map .str .aM (c3 L)),(1003,.aG (.bA (l6 L)))] h rfl rfl) (fun c=>Wi 1004 _ [_,_,_] rfl c) (fun c=>Wi 1004 _ [_,_,_] rfl c)) E G
theorem Nt (h:cE z U L) {d:aO} (J:dk L bc=some d):Fn Tryz.prog 53 [ao 1401] (lS z U L es M bc db lb kd fz dc pu m) [] (ae (d.im.t.length:Nat)) (lS z U L es M bc db lb kd fz dc pu m):=by
 have ar:=h.tohU.M (c1 J).1;refine aW [] Tryz.func53 rfl rfl rfl rfl ?_;refine au ((jx _ _ L h.tohU bc d J).ch) ?_;refine au (amE (hV (na d.im) ar rfl rfl rfl rfl)) ?_;refine⟨eC au8,?_⟩;exact aT aH rfl rfl ac rfl
structure dB where
 kd:Int
 a:Int
 l:Int
 b:List UInt8
 nm:List UInt8
 fm:List UInt8
 ks:List lQ
abbrev HC (s:dB):List bC:=[.d (.int .i64 s.kd),.d (.int .i64 s.a),.d (.int .i64 s.l),.d (.ck .u8 s.b),.d (.str s.nm),.d (.str s.fm),.d (.ck lP s.ks)]
abbrev hX (s:dB):aQ:=.c (.agg (HC s))
abbrev rL (s:dB):ay:=[(2,.cells [.ptr 1401 0]),(3,.cells (HC s))]
abbrev wJ (z U:Nat) (L:List aO) (es:e3) (M:dN) (bc:List UInt8) (db lb:Nat) (kd:Int) (fz:Value) (dc pu:Option Nat) (m:Made) (s:dB):ay:=lS z U L es M bc db lb kd fz dc pu m++rL s
theorem amF (h:cE z U L) (s:dB) (O:s.b.length<=1000000000):Fn Tryz.prog 47 [ao 2,ao 3] (wJ z U L es M bc db lb kd fz dc pu m s) [] (ae (hG z L bc s.a s.b).e) (wJ z U (hG z L bc s.a s.b).L es M bc db lb kd fz dc pu m s):=by
 refine aW [] Tryz.func47 rfl rfl rfl rfl ?_;refine au ((Lc h bc s.a s.b O).ch) ?_;refine⟨eC au8,?_⟩;exact aT aH rfl rfl ac rfl
theorem amG (h:cE z U L) (s:dB):Fn Tryz.prog 49 [ao 2,ao 3] (wJ z U L es M bc db lb kd fz dc pu m s) [] (ae (ma z L bc s.a s.l).e) (wJ z U (ma z L bc s.a s.l).L es M bc db lb kd fz dc pu m s):=by
 refine aW [] Tryz.func49 rfl rfl rfl rfl ?_;refine au ((Sz h bc s.a s.l).ch) ?_;refine⟨eC au8,?_⟩;exact aT aH rfl rfl ac rfl
theorem amH (h:cE z U L) (s:dB):Fn Tryz.prog 51 [ao 2,ao 3] (wJ z U L es M bc db lb kd fz dc pu m s) [] (ae (mN L bc s.a s.l).e) (wJ z U (mN L bc s.a s.l).L es M bc db lb kd fz dc pu m s):=by
 refine aW [] Tryz.func51 rfl rfl rfl rfl ?_;refine au ((SA h bc s.a s.l).ch) ?_;refine⟨eC au8,?_⟩;exact aT aH rfl rfl ac rfl
end
end
section
abbrev jD (z U:Nat) (L:List aO) (b:Nat) (j:jU):ay:=[oq z U L,(1501,.co 1001 (V' z b j))]
theorem Fn.qK {f:FuncId} {args:List aQ} {z U:Nat} {L L':List aO} {res:aQ} {b:Nat} {bp dv:ay} (h:Fn Tryz.prog f (.c (.one (.ptr 2001 0))::args) (bP z U L++bp) [] res (bP z U L'++dv)) (ab:J1 2001 1001 1501 args (bP z U L) bp res (bP z U L') dv=true)
  (E:nO 1001 [1002,1003,1004] (.c (.one (.d (.aM (some b))))::args) (bP z U L) [(1501,.co 1001 (nT b 2001 1001 bp))] [] []=true) (G:nP 1001 (mE [1002,1003,1004] [] []) res (bP z U L') [(1501,.co 1001 (nT b 2001 1001 dv))]=true):
  Fn Tryz.prog f (.c (.one (.d (.aM (some b))))::args) [oq z U L,(1501,.co 1001 (nT b 2001 1001 bp))] [] res [oq z U L',(1501,.co 1001 (nT b 2001 1001 dv))]:=
 Fn.yB (h.acv ab) E G
section
variable {z U:Nat} {L:List aO} {top base nm:List UInt8} {l:List Nat} {over done:Bool} {b:Nat} {n rm:Int} {g:List (Nat×List UInt8)}
theorem amI (h:kR z U L top l):Fn Tryz.prog 285 [dn b] (jD z U L b (.dc top base l over)) [] (.ce [.one (.d (.bool (fU z L top base l over).done)),dw (fU z L top base l over).e]) (jD z U (fU z L top base l over).L b (.dc top base (fU z L top base l over).l (fU z L top base l over).over)):=
 Fn.qK (bp:=sO ..) (dv:=sO ..) (h.Ly base over) rfl rfl rfl
theorem HD:Fn Tryz.prog 284 [dn b] (jD z U L b (.dc top base l over)) [] (fI over) (jD z U L b (.dc top base l over)):=
 Fn.qK (bp:=sO ..) (dv:=sO ..) (agr z U L top base l over) rfl rfl rfl
theorem amJ:Fn Tryz.prog 283 [dn b] (jD z U L b (.dc top base l over)) [] gI (jD z U L b (.dc top base [] true)):=
 Fn.qK (bp:=sO ..) (dv:=sO ..) (ags z U L top base l over) rfl rfl rfl
theorem amK (h:cE z U L) (a a2:Int) (uN:a2<=9223372036854775807) {d:aO} (J:dk L top=some d):Fn Tryz.prog 84 [dn b,ae a,ae a2] (jD z U L b (.dc top base l over)) [] gI (jD z U L b (.dc top base (sx z L top l over a a2) over)):=
 Fn.qK (bp:=sO ..) (dv:=sO ..) (agB h base l over a a2 uN J) rfl rfl rfl
theorem amL (h:cE z U L) {d:aO} (J:dk L top=some d):Fn Tryz.prog 297 [dn b] (jD z U L b (.pl top base over)) [] (.ce [.one (.d (.bool (iF z L top base over).done)),dw (iF z L top base over).e]) (jD z U (iF z L top base over).L b (.pl top base (iF z L top base over).over)):=
 Fn.qK (bp:=vg ..) (dv:=vg ..) (ahJ h base over J) rfl rfl rfl
theorem HE:Fn Tryz.prog 296 [dn b] (jD z U L b (.pl top base over)) [] (fI over) (jD z U L b (.pl top base over)):=
 Fn.qK (bp:=vg ..) (dv:=vg ..) (ahx z U L top base over) rfl rfl rfl
theorem amM:Fn Tryz.prog 295 [dn b] (jD z U L b (.pl top base over)) [] gI (jD z U L b (.pl top base true)):=
 Fn.qK (bp:=vg ..) (dv:=vg ..) (ahy z U L top base over) rfl rfl rfl
theorem amN (h:fk z U L nm l g):Fn Tryz.prog 292 [dn b] (jD z U L b (.pu nm n rm l g over done)) [] (.ce [.one (.d (.bool (i1 z L nm rm l g over done).so)),dw (i1 z L nm rm l g over done).e])
  (jD z U L b (.pu nm n rm (i1 z L nm rm l g over done).l (i1 z L nm rm l g over done).g (i1 z L nm rm l g over done).over (i1 z L nm rm l g over done).done)):=
 Fn.qK (bp:=nv ..) (dv:=nv ..) (h.Ly n rm over done) rfl rfl rfl
theorem Nu:Fn Tryz.prog 291 [dn b] (jD z U L b (.pu nm n rm l g over done)) [] (fI over) (jD z U L b (.pu nm n rm l g over done)):=
 Fn.qK (bp:=nv ..) (dv:=nv ..) (ag0 z U L nm n rm l g over done) rfl rfl rfl
theorem Wj:Fn Tryz.prog 65 [dn b] (jD z U L b (.pu nm n rm l g over done)) [] (fI done) (jD z U L b (.pu nm n rm l g over done)):=
 Fn.qK (bp:=nv ..) (dv:=nv ..) (ag1 z U L nm n rm l g over done) rfl rfl rfl
theorem amO:Fn Tryz.prog 175 [dn b] (jD z U L b (.pu nm n rm l g over done)) [] gI (jD z U L b (.pu nm n rm [] g true done)):=
 Fn.qK (bp:=nv ..) (dv:=nv ..) (S3 z U L nm n rm l g over done) rfl rfl rfl
theorem amP (h:fk z U L nm l g) (a a2:Int) (G:a2<=9223372036854775807):Fn Tryz.prog 82 [dn b,ae a,ae a2] (jD z U L b (.pu nm n rm l g over done)) [] (ae (jA z L nm rm a a2 l g over).e)
  (jD z U L b (.pu nm n rm (jA z L nm rm a a2 l g over).l (jA z L nm rm a a2 l g over).g (jA z L nm rm a a2 l g over).over done)):=
 Fn.qK (bp:=nv ..) (dv:=nv ..) (h.ahl n rm over done a a2 G) rfl rfl rfl
theorem Wk (h:fk z U L nm l g):Fn Tryz.prog 101 [dn b] (jD z U L b (.pu nm n rm l g over true)) [] (.ce [.one (.d (.ck tC (n4 g))),.one (.d (.int .i64 n)),.one (.d (.bool true))]) (jD z U L b (.pu nm n rm l g over true)):=
 Fn.qK (bp:=nv ..) (dv:=nv ..) (h.ahm n rm over) rfl rfl rfl
end
end
section
def qL (z:Nat) (L:List aO) (a a2:Int):jU->jU
 | .pu nm n rm l g over done=>if(jA z L nm rm a a2 l g over).e=0 then .pu nm n rm (jA z L nm rm a a2 l g over).l (jA z L nm rm a a2 l g over).g (jA z L nm rm a a2 l g over).over done else .no
 |j=>j
def DI (z:Nat) (L:List aO) (a a2:Int):jU->jU
 | .dc top base l over=>.dc top base (sx z L top l over a a2) over
 |j=>j
def DJ (a a2:Int) (j:jU) (ec:Option (Nat×DF)):Option (Nat×DF):=match wI 0 j with
 |none=>ec
 |some _=>ec.map fun p=>(p.1,p.2.1,p.2.2.1,nj p.2.1 p.2.2.1 p.2.2.2 a a2)
def iP (w:cj) (a a2:Int) (r:pH):cj:=if r.e=0 then {w with L:=r.L,ds:=w.ds.map (kY a a2),bQ:=DI w.z r.L a a2 (qL w.z w.L a a2 w.bQ),bH:={w.bH with ec:=DJ a a2 (qL w.z w.L a a2 w.bQ) w.bH.ec}} else {w with L:=r.L,bQ:=qL w.z w.L a a2 w.bQ}
def wK (z U:Nat) (L:List aO) (bc:List UInt8):jU->Prop
 | .no=>True
 | .dc top base l over=>top=bc/\over=false/\kR z U L top l
 | .pl top base over=>top=bc/\over=false
 | .pu nm n rm l g over done=>nm=bc/\over=false/\done=false/\n=((c4 L bc:Nat):Int)/\fk z U L nm l g
theorem amQ (q b:Nat) (s g:Int) (es:List (Z ak×Z ak)) (a a2:Int) (ax:0<=s/\s<=4096) (a6:1<=g/\g<=64):Fn Tryz.prog 85 [dn b,ae a,ae a2] [(1601,.aG (.bA [(b,ff s g es)]))] [] (ae (if x1 s a a2 then 0 else 1)) [(1601,.aG (.bA [(b,ff s g (nj s g es a a2))]))]:=
 Fn.m8 [1002] 1601 (LD s g es a a2 ax a6)
abbrev HF (w:cj) (s:dB) (f:Nat) (r:pH):Prop:= ∀(kd:Int) (fz:Value) (dc pu:Option Nat),Fn Tryz.prog f [ao 2,ao 3] (wJ w.z w.U w.L w.es w.M w.bc w.db w.lb kd fz dc pu w.bH s) [] (ae r.e) (wJ w.z w.U r.L w.es w.M w.bc w.db w.lb kd fz dc pu w.bH s)
set_option maxHeartbeats 1000000 in
theorem Wl (w:cj) (s:dB) (f:Nat) (a a2:Int) (r:pH) (aa:w.bQ= .no\/ ∃top base over,w.bQ= .pl top base over) (jL:dR w.ds) (hf:HF w s f r):
  Fn Tryz.prog 46 [ao 1401,ae a,ae a2,.c (.one (.cT f [.p 2 0,.p 3 0]))] (cN w++rL s) [] (ae r.e) (cN (iP w a a2 r)++rL s):=by
 obtain⟨z,U,L,bc,db,ds,es,M,lb,Q,b,bQ,bH⟩:=w;simp only at aa jL;have hw:=Fn.m8 (b:=db) [1002,1003,1004] 1101 (Nn jL a a2);have aj:wH b bQ=none:=by rcases aa with rfl |⟨_,_,_,rfl⟩ <;>rfl
 have ap:wI b bQ=none:=by rcases aa with rfl |⟨_,_,_,rfl⟩ <;>rfl
 have bm:qL z L a a2 bQ=bQ:=by rcases aa with rfl |⟨_,_,_,rfl⟩ <;>rfl
 have c0:DI z r.L a a2 bQ=bQ:=by rcases aa with rfl |⟨_,_,_,rfl⟩ <;>rfl
 have fQ:DJ a a2 bQ bH.ec=bH.ec:=by rcases aa with rfl |⟨_,_,_,rfl⟩ <;>rfl
 have hf:=hf (tL bQ) (qJ b bQ) (wH b bQ) (wI b bQ)
 by_cases V:r.e=0
 .have p6:iP ⟨z,U,L,bc,db,ds,es,M,lb,Q,b,bQ,bH⟩ a a2 r=⟨z,U,r.L,bc,db,ds.map (kY a a2),es,M,lb,Q,b,bQ,bH⟩:=by
   unfold iP;simp only[bm,c0,fQ,if_pos V]
  rw[p6];refine aW [] Tryz.func46 rfl rfl rfl rfl ?_;refine⟨fun _ h=>(by rw[ap] at h;cases h),fun _=>?_⟩;refine au hf ?_;refine⟨fun h=>absurd h (by simp[V]),fun h=>?_⟩;refine au hw ?_;refine⟨fun _ h=>(by rw[aj] at h;cases h),fun _=>?_⟩;refine⟨fun _ h=>(by rw[ap] at h;cases h),fun _=>?_⟩;exact aT aH rfl V.symm ac rfl
 .have p6:iP ⟨z,U,L,bc,db,ds,es,M,lb,Q,b,bQ,bH⟩ a a2 r=⟨z,U,r.L,bc,db,ds,es,M,lb,Q,b,bQ,bH⟩:=by
   unfold iP;simp only[bm,if_neg V]
  rw[p6];refine aW [] Tryz.func46 rfl rfl rfl rfl ?_;refine⟨fun _ h=>(by rw[ap] at h;cases h),fun _=>?_⟩;refine au hf ?_;refine⟨fun h=>?_,fun h=>absurd h (by simp[V])⟩;exact aT aH rfl rfl ac rfl
set_option maxHeartbeats 1000000 in
theorem amR (w:cj) (s:dB) (f:Nat) (a a2:Int) (r:pH) {top base:List UInt8} {l:List Nat} {over:Bool} (aa:w.bQ= .dc top base l over) (jL:dR w.ds) (gj:cE w.z w.U r.L) {d:aO} (J:dk r.L top=some d) (uN:a2<=9223372036854775807) (hf:HF w s f r):
  Fn Tryz.prog 46 [ao 1401,ae a,ae a2,.c (.one (.cT f [.p 2 0,.p 3 0]))] (cN w++rL s) [] (ae r.e) (cN (iP w a a2 r)++rL s):=by
 obtain⟨z,U,L,bc,db,ds,es,M,lb,Q,b,bQ,bH⟩:=w;simp only at aa jL gj;subst aa;have hw:=Fn.m8 (b:=db) [1002,1003,1004] 1101 (Nn jL a a2);have aA:=amK (b:=b) (base:=base) (l:=l) (over:=over) gj a a2 uN J;have hf:=hf 1 (qJ b (.dc top base l over)) (some b) none
 by_cases V:r.e=0
 .have p6:iP ⟨z,U,L,bc,db,ds,es,M,lb,Q,b,.dc top base l over,bH⟩ a a2 r=⟨z,U,r.L,bc,db,ds.map (kY a a2),es,M,lb,Q,b,.dc top base (sx z r.L top l over a a2) over,bH⟩:=by
   unfold iP;simp only[if_pos V,qL,DI,DJ,wI]
  rw[p6];refine aW [] Tryz.func46 rfl rfl rfl rfl ?_;refine⟨fun _ h=>(by cases h),fun _=>?_⟩;refine au hf ?_;refine⟨fun h=>absurd h (by simp[V]),fun h=>?_⟩;refine au hw ?_;refine⟨fun _ _=>?_,fun h=>(by cases h)⟩;refine au aA ?_;refine⟨fun _ h=>(by cases h),fun _=>?_⟩;exact aT aH rfl V.symm ac rfl
 .have p6:iP ⟨z,U,L,bc,db,ds,es,M,lb,Q,b,.dc top base l over,bH⟩ a a2 r=⟨z,U,r.L,bc,db,ds,es,M,lb,Q,b,.dc top base l over,bH⟩:=by
   unfold iP;simp only[if_neg V,qL]
  rw[p6];refine aW [] Tryz.func46 rfl rfl rfl rfl ?_;refine⟨fun _ h=>(by cases h),fun _=>?_⟩;refine au hf ?_;refine⟨fun h=>?_,fun h=>absurd h (by simp[V])⟩;exact aT aH rfl rfl ac rfl
set_option maxHeartbeats 2000000 in
theorem amS (w:cj) (s:dB) (f:Nat) (a a2:Int) (r:pH) {nm:List UInt8} {n rm:Int} {l:List Nat} {g:List (Nat×List UInt8)} {over done:Bool} (aa:w.bQ= .pu nm n rm l g over done) (jL:dR w.ds) (ag:fk w.z w.U w.L nm l g) (uN:a2<=9223372036854775807)
  (rA: ∀p,w.bH.ec=some p->(0<=p.2.1/\p.2.1<=4096)/\1<=p.2.2.1/\p.2.2.1<=64) (hf:HF w s f r):
  Fn Tryz.prog 46 [ao 1401,ae a,ae a2,.c (.one (.cT f [.p 2 0,.p 3 0]))] (cN w++rL s) [] (ae r.e) (cN (iP w a a2 r)++rL s):=by
 obtain⟨z,U,L,bc,db,ds,es,M,lb,Q,b,bQ,bH⟩:=w;simp only at aa jL ag rA;subst aa;have hw:=Fn.m8 (b:=db) [1002,1003,1004] 1101 (Nn jL a a2);have O:=amP (b:=b) (n:=n) (rm:=rm) (over:=over) (done:=done) ag a a2 uN;have JE:qL z L a a2 (.pu nm n rm l g over done)=if(jA z L nm rm a a2 l g over).e=0 then .pu nm n rm (jA z L nm rm a a2 l g over).l (jA z L nm rm a a2 l g over).g (jA z L nm rm a a2 l g over).over done else .no:=rfl
 unfold iP;simp only[JE];generalize jA z L nm rm a a2 l g over=y at*
 by_cases aC:y.e=0
 .have hf:=hf 3 (qJ b (.pu nm n rm l g over done)) none (some b);simp only[if_pos aC]
  by_cases V:r.e=0
  .simp only[if_pos V];obtain⟨fZ,eK,ec⟩:=bH
   cases ec with
   |none=>
    show Fn _ _ _ _ _ _ (cN ⟨z,U,r.L,bc,db,ds.map (kY a a2),es,M,lb,Q,b,.pu nm n rm y.l y.g y.over done,⟨fZ,eK,none⟩⟩++rL s);refine aW [] Tryz.func46 rfl rfl rfl rfl ?_;refine⟨fun _ _=>?_,fun h=>(by cases h)⟩;refine au O ?_;refine⟨fun h=>absurd h (by simp[aC]),fun _=>?_⟩;refine au hf ?_;refine⟨fun h=>absurd h (by simp[V]),fun h=>?_⟩;refine au hw ?_;refine⟨fun _ h=>(by cases h),fun _=>?_⟩;refine⟨fun _ _=>?_,fun h=>(by cases h)⟩;refine⟨fun _ h=>(by cases h),fun _=>?_⟩;exact aT aH rfl V.symm ac rfl
   |some p=>
    obtain⟨kZ,aS,Nv,Dy⟩:=p;obtain⟨cf,cM⟩:=rA _ rfl;have ax:=amQ 1601 kZ aS Nv Dy a a2 cf cM;show Fn _ _ _ _ _ _ (cN ⟨z,U,r.L,bc,db,ds.map (kY a a2),es,M,lb,Q,b,.pu nm n rm y.l y.g y.over done,⟨fZ,eK,some (kZ,aS,Nv,nj aS Nv Dy a a2)⟩⟩++rL s);refine aW [] Tryz.func46 rfl rfl rfl rfl ?_;refine⟨fun _ _=>?_,fun h=>(by cases h)⟩;refine au O ?_;refine⟨fun h=>absurd h (by simp[aC]),fun _=>?_⟩;refine au hf ?_;refine⟨fun h=>absurd h (by simp[V]),fun h=>?_⟩;refine au hw ?_;refine⟨fun _ h=>(by cases h),fun _=>?_⟩;refine⟨fun _ _=>?_,fun h=>(by cases h)⟩;refine⟨fun _ _=>?_,fun h=>(by cases h)⟩;refine au ax ?_;exact aT aH rfl V.symm ac rfl
  .simp only[if_neg V];refine aW [] Tryz.func46 rfl rfl rfl rfl ?_;refine⟨fun _ _=>?_,fun h=>(by cases h)⟩;refine au O ?_;refine⟨fun h=>absurd h (by simp[aC]),fun _=>?_⟩;refine au hf ?_;refine⟨fun h=>?_,fun h=>absurd h (by simp[V])⟩;exact aT aH rfl rfl ac rfl
 .have hf:=hf 0 .nilIface none none;have a6:=tM (z:=z) (U:=U) (L:=L) (bc:=bc) (db:=db) (lb:=lb) (kd:=3) (fz:=qJ b (.pu nm n rm l g over done)) (dc:=none) (pu:=some b) (m:=bH) (es:=es) (M:=M);simp only[if_neg aC]
  by_cases V:r.e=0
  .simp only[if_pos V];show Fn _ _ _ _ _ _ (cN ⟨z,U,r.L,bc,db,ds.map (kY a a2),es,M,lb,Q,b,.no,bH⟩++rL s);refine aW [3] Tryz.func46 rfl rfl rfl rfl ?_;refine⟨fun _ _=>?_,fun h=>(by cases h)⟩;refine au O ?_;refine⟨fun _=>?_,fun h=>absurd h (by simp[aC])⟩;refine au a6 ?_;refine bz [] (af.qI 1501 1001 rfl) ?_;refine au hf ?_;refine⟨fun h=>absurd h (by simp[V]),fun h=>?_⟩;refine au hw ?_;refine⟨fun _ h=>(by cases h),fun _=>?_⟩;refine⟨fun _ h=>(by cases h),fun _=>?_⟩;exact aT aH rfl V.symm ac rfl
  .simp only[if_neg V];refine aW [3] Tryz.func46 rfl rfl rfl rfl ?_;refine⟨fun _ _=>?_,fun h=>(by cases h)⟩;refine au O ?_;refine⟨fun _=>?_,fun h=>absurd h (by simp[aC])⟩;refine au a6 ?_;refine bz [] (af.qI 1501 1001 rfl) ?_;refine au hf ?_;refine⟨fun h=>?_,fun h=>absurd h (by simp[V])⟩;exact aT aH rfl rfl ac rfl
end
section
structure nw (L:List bM):Prop extends lk L where
 AK:qF L
theorem nw.op {L:List bM} (h:nw L) (o:tE):nw (GU L o):=by
 have E:nw (Ar L o):=by
  unfold Ar
  split
  .exact⟨h.tolk.add _,h.AK.add _⟩
  .exact h
 unfold GU
 split
 .exact⟨Mq E.tolk _,E.AK.drop _⟩
 .exact E
end
section
theorem HG (es:e3) (k:List UInt8) (a:Option Nat):iw (kC es k a) k=a/\ ∀j,j≠k->iw (kC es k a) j=iw es j:=by
 obtain⟨E,G⟩:=zr (aJ:=.str) (aL:=.aM) qd (k:Z .str) (a:Z .aM) es;refine⟨?_,fun j aa=>?_⟩
 .show((b0 (aJ:=.str) (aL:=.aM) (dr (aJ:=.str) (aL:=.aM) es k a) k).getD (cK .aM))=a;rw[E];rfl
 .show((b0 (aJ:=.str) (aL:=.aM) (dr (aJ:=.str) (aL:=.aM) es k a) j).getD (cK .aM))=_;rw[G j aa];rfl
theorem Wm {es:e3} (h:eZ es) (k:List UInt8):iw (ji es k) k=none/\ ∀j,j≠k->iw (ji es k) j=iw es j:=by
 obtain⟨E,G⟩:=BX (aJ:=.str) (aL:=.aM) qd (k:Z .str) es h;refine⟨?_,fun j aa=>?_⟩
 .show((b0 (aJ:=.str) (aL:=.aM) (gG (aJ:=.str) (aL:=.aM) es k) k).getD (cK .aM))=none;rw[E];rfl
 .show((b0 (aJ:=.str) (aL:=.aM) (gG (aJ:=.str) (aL:=.aM) es k) j).getD (cK .aM))=_;rw[G j aa];rfl
theorem amT {es:e3} (h:eZ es) (G: ∀p,p∈es->pe p=pT\/pe p=gv):es.length<=2:=by
 match es,h,G with
 | [],_,_=>exact ap7 _
 | [_],_,_=>exact Nat.le_succ 1
 | [_,_],_,_=>exact ap0 _
 |x::y::aB::l,h,G=>
  exfalso
  have ne: ∀{p q:Z .str×Z .aM},fV .str p.1 q.1=false->pe p≠pe q:=fun {p q} e bl=>by
   have:fV .str p.1 q.1=true:=(qd p.1 q.1).2 bl;rw[e] at this
   cases this
  obtain⟨b4,ci⟩:=List.pairwise_cons.1 h;obtain⟨b1,b2⟩:=List.pairwise_cons.1 ci;have cH:=ne (b4 y au7);have dF:=ne (b4 aB au7);have la:=ne (b1 aB au7);rcases G x au7 with aj |aj <;>rcases G y au7 with ap |ap <;>rcases G aB au7 with bm |bm <;>simp_all
structure mm (es:e3) (M:dN) (Q:List bM):Prop where
 il:eZ es
 two: ∀p,p∈es->pe p=pT\/pe p=gv
 bA:lR es M 0
 Wn: ∀p,p∈M->p.2.eV=[]/\p.2.lM=p.2.bF
 ck:(iw es pT=none/\Q=[])\/ ∃a m,iw es pT=some a/\hL M a=some m/\yy m 512 4096 (jg Q)/\((jg Q).length:Int)<=dq 512*16
theorem Wo:(pT:List UInt8)≠gv:=by decide
theorem amU {M:dN} {a:Nat} {m:bY} (h:hL M a=some m):a∈M.map (·.1):=aq6 (f:=fun p:Nat×bY=>p.1) (M5 h)
theorem mm.amV {es:e3} {M:dN} {Q:List bM} (h:mm es M Q):iw (ji es gv) gv=none/\(ji es gv).length < 16/\ ∀b,iw (kC (ji es gv) gv (some b)) gv=some b:=by
 have G:(ji es gv).length<=2:=amT (eZ.k6 h.il) fun p ag=>h.two p (zs ag)
 exact⟨(Wm h.il gv).1,au5,fun b=>(HG _ _ _).1⟩
theorem mm.amW {es:e3} {M:dN} {Q Q':List bM} (h:mm es M Q) {b:Nat} (O:b∉M.map (·.1)):mm (vd 512 es Q' b) ((b,tK 512 4096 Q' b)::M) (if wF 512 Q'=0 then Q' else Q):=by
 have cf:eZ (ji es gv):=eZ.k6 h.il;have cM:eZ (kC (ji es gv) gv (some b)):=eZ.put qd cf
 have tF: ∀p,p∈kC (ji es gv) gv (some b)->pe p=pT\/pe p=gv:=fun p ag=>by
  rcases DB ag with rfl |ag
  .exact .inr rfl
  .exact h.two p (zs ag)
 have hf: ∀m,(m=tK 512 4096 Q' b)-> ∀p,p∈((b,m)::M:dN)->m.eV=[]/\m.lM=m.bF->p.2.eV=[]/\p.2.lM=p.2.bF:=fun m _ p ag aA=>by
  rcases ap3.1 ag with rfl |ag
  .exact aA
  .exact h.Wn p ag
 by_cases H:((jg Q').length:Int)<=dq 512*16
 .have pi:=al4 (n:=512) (U:=4096) rfl au6 au6 H;have aj:wF 512 Q'=0:=if_pos H;have ap:vd 512 es Q' b=_:=if_pos H;have bm:tK 512 4096 Q' b=_:=if_pos H;have ag:=(h.bA.k6 gv).add (k:=gv) (m:=vb 512 4096 (jg Q')) O pi.ok (by rw[pi.hl];exact ap0 _);have g1:=(HG (ji es gv) gv (some b)).1;rw[aj,if_pos rfl,ap,bm];refine⟨eZ.put qd (eZ.k6 cM),fun p ag=>?_,ag.aX g1,fun p ag=>hf _ bm.symm p ag ⟨pi.hl,pi.Dw⟩,.inr ⟨b,_,(HG _ _ _).1,if_pos rfl,pi,H⟩⟩;rcases DB ag with rfl |ag
  .exact .inl rfl
  .exact tF p (zs ag)
 .have aj:wF 512 Q'=1:=if_neg H;have ap:vd 512 es Q' b=_:=if_neg H;have bm:tK 512 4096 Q' b=_:=if_neg H;have ag:=(h.bA.k6 gv).add (k:=gv) (m:=kB 512 4096) O (e2.new rfl) (ap0 _);rw[aj,if_neg au6,ap,bm];refine⟨cM,tF,ag,fun p ag=>hf _ bm.symm p ag ⟨rfl,rfl⟩,?_⟩;have g1:iw (kC (ji es gv) gv (some b)) pT=iw es pT:=((HG _ _ _).2 _ Wo).trans ((Wm h.il _).2 _ Wo);rw[g1];rcases h.ck with E |⟨a,m,E,G,al⟩
  .exact .inl E
  .refine .inr ⟨a,m,E,?_,al⟩;rw[tG,if_neg (fun e=>O (by have e:b=a:=e;rw[e];exact amU G))];exact G
theorem mm.ll {es:e3} {M:dN} {Q:List bM} (h:mm es M Q) (ks:List lQ):kV (yq ks es) M=M:=by
 unfold kV;refine(ar1 fun p ag=>?_).trans (List.map_id M);obtain⟨E,G⟩:=h.Wn p ag
 have al:yq ks es p.1 p.2=p.2:=by
  unfold yq
  split
  .obtain⟨a,n',Bs,Dw,Dy,hl⟩:=p;simp only at E G;subst E G;rfl
  .rfl
 rw[al];rfl
def DK:jU->Bool
 | .pu .. =>true
 |_=>false
structure lo (w:cj):Prop where
 cs:cE w.z w.U w.L
 kd:(dk w.L w.bc).isSome=true
 ds:dR w.ds
 d5: ∀e,e∈w.ds->u2 e/\e.s=((c4 w.L w.bc*2 ^w.z:Nat):Int)
 q:nw w.Q
 nx:mm w.es w.M w.Q
 ec: ∀p,w.bH.ec=some p->p.2.1=((c4 w.L w.bc*2 ^w.z:Nat):Int)/\p.2.2.1=1/\eZ p.2.2.2
structure fO (w:cj):Prop extends lo w where
 bQ:wK w.z w.U w.L w.bc w.bQ
 rx:DK w.bQ=true->gp (dH w.bH.fZ)=true
end
section
theorem Nw (w:cj) (aE:fO w) (s:dB) (f:Nat) (a a2:Int) (r:pH) (aq:mb w.L w.bc r.L) (uN:a2<=9223372036854775807) (hf:HF w s f r):
  Fn Tryz.prog 46 [ao 1401,ae a,ae a2,.c (.one (.cT f [.p 2 0,.p 3 0]))] (cN w++rL s) [] (ae r.e) (cN (iP w a a2 r)++rL s):=by
 have aa:=aE.bQ
 cases h:w.bQ with
 |no=>exact Wl w s f a a2 r (.inl h) aE.ds hf
 |pl t b o=>exact Wl w s f a a2 r (.inr ⟨t,b,o,h⟩) aE.ds hf
 |dc t b l o=>
  rw[h] at aa;obtain⟨E,G,al⟩:=aa;obtain⟨d,J⟩:=as8.1 (show(dk r.L t).isSome=true by rw[(aq.aS t).2];exact al.il);exact amR w s f a a2 r h aE.ds (aq.cs aE.cs) J uN hf
 |pu nm n rm l g o so=>
  rw[h] at aa;obtain⟨E,G,al,aZ,bK⟩:=aa
  exact amS w s f a a2 r h aE.ds bK uN (fun p ag=>by
   obtain⟨cf,cM,_⟩:=aE.ec p ag;have O:=aE.cs.b3;obtain⟨d,J⟩:=as8.1 aE.kd;have amX:=(aE.cs.hh d (c1 J).1).1.eW;have ax:c4 w.L w.bc=d.im.t.length:=by unfold c4;rw[J]
   have iS:2 ^w.z<=2 ^3:=Nat.pow_le_pow_right au6 O;have aA:c4 w.L w.bc*2 ^w.z<=256*8:=Nat.mul_le_mul au5 iS;rw[cf,cM];omega) hf
theorem amY (w:cj) (aE:fO w) (s:dB) (O:s.b.length<=1000000):Fn Tryz.prog 26 [ao 1401,hX s] (cN w) [] (ae (hG w.z w.L w.bc s.a s.b).e) (cN (iP w s.a ((s.b.length:Int)/16) (hG w.z w.L w.bc s.a s.b))):=by
 have H:=Nw w aE s 47 s.a ((s.b.length:Int)/16) (hG w.z w.L w.bc s.a s.b) (CL aE.cs _ _ _) au5 (fun _ _ _ _=>amF aE.cs s au5);generalize hG w.z w.L w.bc s.a s.b=r at H⊢;generalize iP w s.a ((s.b.length:Int)/16) r=w' at H⊢;generalize r.e=e at H⊢;refine aW [] Tryz.func26 rfl rfl rfl rfl ?_;refine⟨rfl,rfl,?_⟩;have cx:0<=((s.b.length:Nat):Int)/\(0:Int) < 16:=by omega
 have cA: -9223372036854775808<=((s.b.length:Nat):Int)/16/\((s.b.length:Nat):Int)/16<=9223372036854775807:=by omega
 refine⟨cx,cA,au H ?_⟩;exact aT aH rfl rfl ac rfl
theorem amZ (w:cj) (aE:fO w) (s:dB) (aq:s.l<=9223372036854775807):Fn Tryz.prog 27 [ao 1401,hX s] (cN w) [] (ae (ma w.z w.L w.bc s.a s.l).e) (cN (iP w s.a s.l (ma w.z w.L w.bc s.a s.l))):=by
 have H:=Nw w aE s 49 s.a s.l (ma w.z w.L w.bc s.a s.l) (Lg aE.cs _ _ _) aq (fun _ _ _ _=>amG aE.cs s);generalize ma w.z w.L w.bc s.a s.l=r at H⊢;generalize iP w s.a s.l r=w' at H⊢;generalize r.e=e at H⊢;refine aW [] Tryz.func27 rfl rfl rfl rfl ?_;refine⟨rfl,rfl,au H ?_⟩;exact aT aH rfl rfl ac rfl
def wL:jU->Bool
 | .dc .. =>true
 |_=>false
theorem am0 (b:Nat) (j:jU):(wL j=true->wH b j=some b)/\(wL j=false->wH b j=none):=by cases j <;>exact⟨fun h=>(by first |rfl |cases h),fun h=>(by first |rfl |cases h)⟩
theorem Wp (w:cj) (aE:fO w) (s:dB) (aq:s.l<=9223372036854775807) (r:pH) (aF:r=if wL w.bQ=true then⟨143,w.L⟩ else mN w.L w.bc s.a s.l) (w':cj) (hw:w'=if wL w.bQ=true then w else iP w s.a s.l r):Fn Tryz.prog 28 [ao 1401,hX s] (cN w) [] (ae r.e) (cN w'):=by
 obtain⟨kT,qu⟩:=am0 w.b w.bQ
 cases aA:wL w.bQ with
 |true=>
  rw[aA] at aF hw;have kT:=kT aA;rw[if_pos rfl] at aF hw;subst aF hw;refine aW [] Tryz.func28 rfl rfl rfl rfl ?_;refine⟨rfl,rfl,fun _ _=>?_,fun h=>(by rw[kT] at h;cases h)⟩;exact aT aH rfl rfl ac rfl
 |false=>
  rw[aA] at aF hw;have qu:=qu aA;rw[if_neg au6] at aF hw;subst aF;subst hw;have H:=Nw w aE s 51 s.a s.l (mN w.L w.bc s.a s.l) (z7 aE.cs _ _ _) aq (fun _ _ _ _=>amH aE.cs s);generalize mN w.L w.bc s.a s.l=r at H⊢;generalize iP w s.a s.l r=w' at H⊢;generalize r.e=e at H⊢;refine aW [] Tryz.func28 rfl rfl rfl rfl ?_;refine⟨rfl,rfl,fun _ h=>(by rw[qu] at h;cases h),fun _=>?_⟩;refine au H ?_;exact aT aH rfl rfl ac rfl
end
section
def ny:jU->Bool
 | .no=>true
 |_=>false
theorem HH {j:jU} (h:ny j=false) (b:Nat): ∃T,qJ b j=Hy T b:=by cases j <;>first |(cases h;done) |exact⟨_,rfl⟩
def eF (w:cj):Nat:=c4 w.L w.bc
theorem lo.dk {w:cj} (h:lo w): ∃d,Go.Proofs.YthnboghbhgapcaaGreat.dk w.L w.bc=some d/\d.im.t.length=eF w:=by
 obtain⟨d,J⟩:=as8.1 h.kd;exact⟨d,J,by unfold eF c4;rw[J]⟩
theorem fO.dk {w:cj} (h:fO w): ∃d,Go.Proofs.YthnboghbhgapcaaGreat.dk w.L w.bc=some d/\d.im.t.length=eF w:=h.tolo.dk
theorem am1 (w:cj) (s:dB) (aa:ny w.bQ=false):Fn Tryz.prog 29 [ao 1401,hX s] (cN w) [] (ae 143) (cN w):=by
 obtain⟨T,cc⟩:=HH aa w.b;refine aW [] Tryz.func29 rfl rfl rfl rfl ?_;refine⟨rfl,_,_,fun N=>Ft rfl Tryz.underlying60 (by exact congrArg (fun v=>aQ.c (.one (.bI v))) cc) N,rfl,?_⟩;exact aT aH rfl rfl ac rfl
theorem Wq (z U:Nat) (L:List aO) (nm:List UInt8) (size:Int) (back:List UInt8) (p:Nat×Nat):(h7 z U L nm size back p).e=(h7 z U L nm size back (0,0)).e:=by
 unfold h7
 repeat' split
 all_goals rfl
theorem Nx {z U:Nat} {L:List aO} (h:cE z U L) (nm:List UInt8) (size:Int) (back:List UInt8) (aq:nm.length<=4294967296):
  Fn Tryz.prog 18 [ao 1001,bV nm,ae size,bV back] [oq z U L] [] (ae (h7 z U L nm size back (0,0)).e) [(1001,.aG (.i4 fun p:{p:Nat×Nat//cE z U (h7 z U L nm size back p).L}=>DG z U (h7 z U L nm size back p.1).L))]:=by
 have E:=af3 h nm size back aq;simp only[Wq] at E;exact cv.i4 (aP:=[]) (cv.We (aK:=[]) (aP:=fun _=>[]) (by simp only[as5];exact E) rfl fun _=>rfl)
abbrev mV (R:Int->cj->Prop):Type:={p:Int×cj//R p.1 p.2}
def Wr (w:cj) (s:dB) (e:Int) (w':cj):Prop:= ∃p:Nat×Nat,cE w.z w.U (h7 w.z w.U w.L s.nm ((eF w:Nat):Int) w.bc p).L/\e=(h7 w.z w.U w.L s.nm ((eF w:Nat):Int) w.bc p).e/\
 ((e=0/\w'={w with L:=(h7 w.z w.U w.L s.nm ((eF w:Nat):Int) w.bc p).L,bc:=s.nm})\/(e≠0/\w'={w with L:=(h7 w.z w.U w.L s.nm ((eF w:Nat):Int) w.bc p).L}))
theorem am2 (w:cj) (aE:fO w) (s:dB) (aa:w.bQ= .no) (aq:s.nm.length<=1000000):cv Tryz.prog 29 [ao 1401,hX s] (cN w) [] (X:=mV (Wr w s)) (fun p=>ae p.1.1) (fun p=>cN p.1.2):=by
 obtain⟨d,J,aR⟩:=aE.dk;have cQ:=Nt (db:=w.db) (lb:=w.lb) (kd:=tL w.bQ) (fz:=qJ w.b w.bQ) (dc:=wH w.b w.bQ) (pu:=wI w.b w.bQ) (m:=w.bH) (es:=w.es) (M:=w.M) aE.cs J;rw[aR] at cQ;have yC:=Nx aE.cs s.nm ((eF w:Nat):Int) w.bc au5;have cc:qJ w.b w.bQ= .nilIface:=by rw[aa];rfl
 refine hD [3,4] Tryz.func29 rfl rfl rfl rfl ?_;refine⟨rfl,_,_,fun N=>qe rfl Tryz.underlying60 (by exact congrArg (fun v=>aQ.c (.one (.bI v))) cc) N,rfl,?_⟩;refine bt.m5 53 au6 ?_;refine bz [4] (aH) ?_;refine vZ rfl rfl rfl cQ ?_;refine au yC ?_;refine⟨eC au8,bt.eY (df.i4 1001 rfl) fun g=>?_⟩;obtain⟨p,ag⟩:=g;have AC:=Wq w.z w.U w.L s.nm ((eF w:Nat):Int) w.bc p;refine bz [] (aH) ?_;refine⟨fun h=>?_,fun h=>?_⟩
 .have h:=gd h;exact⟨⟨(_,{w with L:=(h7 w.z w.U w.L s.nm ((eF w:Nat):Int) w.bc p).L,bc:=s.nm}),p,ag,AC.symm,.inl ⟨h,rfl⟩⟩,_,_,_,aH,rfl,rfl,ac,rfl⟩
 .have h:=mu h;exact⟨⟨(_,{w with L:=(h7 w.z w.U w.L s.nm ((eF w:Nat):Int) w.bc p).L}),p,ag,AC.symm,.inr ⟨h,rfl⟩⟩,_,_,_,aH,rfl,rfl,ac,rfl⟩
theorem am3 (w:cj) (s:dB) (aa:ny w.bQ=false):Fn Tryz.prog 31 [ao 1401,hX s] (cN w) [] (ae 143) (cN w):=by
 obtain⟨T,cc⟩:=HH aa w.b;refine aW [] Tryz.func31 rfl rfl rfl rfl ?_;refine⟨rfl,_,_,fun N=>Ft rfl Tryz.underlying60 (by exact congrArg (fun v=>aQ.c (.one (.bI v))) cc) N,rfl,?_⟩;exact aT aH rfl rfl ac rfl
theorem am4 (w:cj) (s:dB) (aa:ny w.bQ=false):Fn Tryz.prog 32 [ao 1401,hX s] (cN w) [] (ae 143) (cN w):=by
 obtain⟨T,cc⟩:=HH aa w.b;refine aW [] Tryz.func32 rfl rfl rfl rfl ?_;refine⟨rfl,_,_,fun N=>Ft rfl Tryz.underlying60 (by exact congrArg (fun v=>aQ.c (.one (.bI v))) cc) N,rfl,?_⟩;exact aT aH rfl rfl ac rfl
theorem am5 (w:cj) (s:dB) (aa:ny w.bQ=false):Fn Tryz.prog 33 [ao 1401,hX s] (cN w) [] (ae 143) (cN w):=by
 obtain⟨T,cc⟩:=HH aa w.b;refine aW [] Tryz.func33 rfl rfl rfl rfl ?_;refine⟨rfl,_,_,fun N=>Ft rfl Tryz.underlying60 (by exact congrArg (fun v=>aQ.c (.one (.bI v))) cc) N,rfl,?_⟩;exact aT aH rfl rfl ac rfl
def Ws (w:cj) (e:Int) (w':cj):Prop:=e=pI w.L w.bc/\((e=0/\ ∃b,w'={w with b:=b,bQ:=.dc w.bc (fw w.L w.bc).1 (wk w.L w.bc) false})\/(e≠0/\w'=w))
theorem am6 (w:cj) (aE:fO w) (s:dB) (aa:w.bQ= .no):cv Tryz.prog 31 [ao 1401,hX s] (cN w) [] (X:=mV (Ws w)) (fun p=>ae p.1.1) (fun p=>cN p.1.2):=by
 have gj:=aE.cs;obtain⟨z,U,L,bc,db,ds,es,M,lb,Q,ew,bQ,bH⟩:=w;simp only at aa gj;subst aa
 by_cases V:pI L bc=0
 .have O:=Fn.yB (aK:=[]) (aP:=sO bc (fw L bc).1 (wk L bc) false) (agw gj bc V) rfl rfl;refine hD [6] Tryz.func31 rfl rfl rfl rfl ?_;refine⟨rfl,_,_,fun N=>qe rfl Tryz.underlying60 rfl N,rfl,?_⟩;refine au O ?_;refine⟨eC au8,da ?_⟩;refine bt.eY (df.mark 2001 2009 rfl au6) fun b=>?_
  refine bt.le (af.Fr 5 2001 2009 b rfl rfl) ?_;refine bz [] (af.Hx 1501 2001 1001 2009 b (sO bc (fw L bc).1 (wk L bc) false) rfl rfl ac rfl) ?_;refine⟨_,_,fun N=>Fs rfl Tryz.underlying61 rfl N,rfl,?_⟩;refine au (HB (z:=z) (U:=U) (L:=L) (bc:=bc) (db:=db) (lb:=lb) (kd:=0) (fz:=.nilIface) (dc:=some b) (pu:=none) (m:=bH) (es:=es) (M:=M) 1 61 (.pointer (some ⟨b,0,none⟩))) ?_;exact⟨⟨(0,⟨z,U,L,bc,db,ds,es,M,lb,Q,b,.dc bc (fw L bc).1 (wk L bc) false,bH⟩),V.symm,.inl ⟨rfl,b,rfl⟩⟩,_,_,_,aH,rfl,rfl,ac,rfl⟩
 .have O:=Fn.ch (agt gj bc V);refine hD [] Tryz.func31 rfl rfl rfl rfl ?_;refine⟨rfl,_,_,fun N=>qe rfl Tryz.underlying60 rfl N,rfl,?_⟩;refine au O ?_;refine⟨eC au8,fun h=>?_,fun h=>absurd h (by simp[V])⟩;exact⟨⟨(pI L bc,⟨z,U,L,bc,db,ds,es,M,lb,Q,ew,.no,bH⟩),rfl,.inr ⟨V,rfl⟩⟩,_,_,_,aH,rfl,rfl,ac,rfl⟩
def Wt (w:cj) (s:dB) (e:Int) (w':cj):Prop:=e=uP w.L w.bc s.fm/\((e=0/\ ∃b,w'={w with b:=b,bQ:=.pl w.bc s.fm false})\/(e≠0/\w'=w))
theorem am7 (w:cj) (aE:fO w) (s:dB) (aa:w.bQ= .no):cv Tryz.prog 32 [ao 1401,hX s] (cN w) [] (X:=mV (Wt w s)) (fun p=>ae p.1.1) (fun p=>cN p.1.2):=by
 have gj:=aE.cs;obtain⟨z,U,L,bc,db,ds,es,M,lb,Q,ew,bQ,bH⟩:=w;simp only at aa gj;subst aa
 by_cases V:uP L bc s.fm=0
 .have O:=Fn.yB (aK:=[]) (aP:=vg bc s.fm false) (ahw gj bc s.fm V) rfl rfl;refine hD [6] Tryz.func32 rfl rfl rfl rfl ?_;refine⟨rfl,_,_,fun N=>qe rfl Tryz.underlying60 rfl N,rfl,?_⟩;refine au O ?_;refine⟨eC au8,da ?_⟩;refine bt.eY (df.mark 2001 2009 rfl au6) fun b=>?_
  refine bt.le (af.Fr 5 2001 2009 b rfl rfl) ?_;refine bz [] (af.Hx 1501 2001 1001 2009 b (vg bc s.fm false) rfl rfl ac rfl) ?_;refine⟨_,_,fun N=>Fs rfl Tryz.underlying121 rfl N,rfl,?_⟩;refine au (HB (z:=z) (U:=U) (L:=L) (bc:=bc) (db:=db) (lb:=lb) (kd:=0) (fz:=.nilIface) (dc:=none) (pu:=none) (m:=bH) (es:=es) (M:=M) 2 121 (.pointer (some ⟨b,0,none⟩))) ?_;exact⟨⟨(0,⟨z,U,L,bc,db,ds,es,M,lb,Q,b,.pl bc s.fm false,bH⟩),V.symm,.inl ⟨rfl,b,rfl⟩⟩,_,_,_,aH,rfl,rfl,ac,rfl⟩
 .have O:=Fn.ch (ahu gj bc s.fm V);refine hD [] Tryz.func32 rfl rfl rfl rfl ?_;refine⟨rfl,_,_,fun N=>qe rfl Tryz.underlying60 rfl N,rfl,?_⟩;refine au O ?_;refine⟨eC au8,fun h=>?_,fun h=>absurd h (by simp[V])⟩;exact⟨⟨(uP L bc s.fm,⟨z,U,L,bc,db,ds,es,M,lb,Q,ew,.no,bH⟩),rfl,.inr ⟨V,rfl⟩⟩,_,_,_,aH,rfl,rfl,ac,rfl⟩
end
section
def sP (l:List bg) (nm:List UInt8):Int:=if gp nm=false then 1 else if(c2 l nm).isSome=true\/8<=l.length then 111 else 0
def DL (l:List bg) (nm:List UInt8) (on us:Bool) (s g:Int) (es:List (Z ak×Z ak)) (l':List bg):Prop:=dR l'/\((sP l nm=0/\gp nm=true/\c2 l nm=none/\l.length < 8/\ ∃a b,l'=l++[⟨nm,a,b,on,us,s,g,es⟩])\/(sP l nm≠0/\l'=l))
theorem Wu {l:List bg} (h:dR l) (db:Nat) (nm:List UInt8) (hn:nm.length<=4294967296) (s g:Int) (es:List (Z ak×Z ak)) (bu:(0<=s/\s<=4096)/\(1<=g/\g<=64)/\eZ es):
  Fn Tryz.prog 55 [dn db,bV nm,ao 2001] ((1101,.aG (.bA [(db,rJ l)]))::ir 2001 2002 s g es) [] (ae (sP l nm)) ((1101,.aG (.i4 fun p:{l':List bg//DL l nm true true s g es l'}=>.bA [(db,rJ p.1)]))::ir 2001 2002 s g es):=by
 refine cv.i4 (cv.m8 [1002,1003,1004] 1101 (?_:cv Tryz.prog 55 [ao 1001,bV nm,ao 2001] (ej l++ir 2001 2002 s g es) [] (fun _=>ae (sP l nm)) (fun p:{l':List bg//DL l nm true true s g es l'}=>ej p.1++ir 2001 2002 s g es)) rfl (fun _=>rfl) rfl ⟨rfl,rfl⟩ rfl (fun _=>rfl))
 cases aF:gp nm with
 |false=>
  have e:sP l nm=1:=if_pos aF;exact(aiO nm hn aF s g es).x.to (fun _=>⟨l,h,.inr ⟨by rw[e];decide,rfl⟩⟩) (fun _=>by rw[e]) fun _=>rfl
 |true=>
  by_cases aw:(c2 l nm).isSome=true\/8<=l.length
  .have e:sP l nm=111:=(if_neg (by rw[aF];decide)).trans (if_pos aw);exact(aiP nm hn aF aw s g es).x.to (fun _=>⟨l,h,.inr ⟨by rw[e];decide,rfl⟩⟩) (fun _=>by rw[e]) fun _=>rfl
  .have e:sP l nm=0:=(if_neg (by rw[aF];decide)).trans (if_neg aw)
   have E:c2 l nm=none:=by
    cases ab:c2 l nm with
    |none=>rfl
    |some x=>exact absurd (.inl (by rw[ab];rfl)) aw
   have G:l.length < 8:=by
    have: ¬8<=l.length:=fun bl=>aw (.inr bl)
    omega
   exact(TJ h nm hn aF E G s g es bu).to (fun p=>⟨_,p.2,.inl ⟨e,aF,E,G,_,_,rfl⟩⟩) (fun _=>by rw[e]) fun _=>rfl
theorem Ny {z U:Nat} {L:List aO} (h:cE z U L) {bc:List UInt8} {d:aO} (J:dk L bc=some d):c4 L bc*2 ^z<=2048:=by
 have amX:=(h.hh d (c1 J).1).1.eW;have ax:c4 L bc=d.im.t.length:=by unfold c4;rw[J]
 have iS:2 ^z<=2 ^3:=Nat.pow_le_pow_right au6 h.b3;have aA:c4 L bc*2 ^z<=256*8:=Nat.mul_le_mul au5 iS;omega
def HI (w:cj) (s:dB):Int:=if n3 ((eF w*2 ^w.z:Nat):Int) s.a=true then sP w.ds s.nm else 1
abbrev Nz (w:cj) (s:dB):bh:=.i4 fun p:{l':List bg//(n3 ((eF w*2 ^w.z:Nat):Int) s.a=true/\DL w.ds s.nm true true ((eF w*2 ^w.z:Nat):Int) s.a [] l')\/(n3 ((eF w*2 ^w.z:Nat):Int) s.a=false/\l'=w.ds)}=>.bA [(w.db,rJ p.1)]
abbrev am8 (w:cj):ay:=[oq w.z w.U w.L,pU w.es w.M,Wd w,Wa w,Wb w,Wc w]
theorem am9 (w:cj) (aE:fO w) (s:dB) (hn:s.nm.length<=1000000):Fn Tryz.prog 30 [ao 1401,hX s] (cN w) [] (ae (HI w s)) ((1101,.aG (Nz w s))::am8 w):=by
 obtain⟨d,J,aR⟩:=aE.dk;have aA:eF w*2 ^w.z<=2048:=Ny aE.cs J;have cQ:=Nt (db:=w.db) (lb:=w.lb) (kd:=tL w.bQ) (fz:=qJ w.b w.bQ) (dc:=wH w.b w.bQ) (pu:=wI w.b w.bQ) (m:=w.bH) (es:=w.es) (M:=w.M) aE.cs J;rw[aR] at cQ;have x0:=aE.cs.b3;have wM:((eF w:Nat):Int)*((2 ^((w.z:Nat):Int).toNat:Nat):Int)=((eF w*2 ^w.z:Nat):Int):=by rw[Int.toNat_natCast,Int.natCast_mul]
 cases ab:n3 ((eF w*2 ^w.z:Nat):Int) s.a with
 |false=>
  have V:HI w s=1:=if_neg (by rw[ab];decide);have lZ:=agQ (((eF w:Nat):Int)*((2 ^((w.z:Nat):Int).toNat:Nat):Int)) s.a (by rw[wM];exact ab);refine aW [1] Tryz.func30 rfl rfl rfl rfl ?_;refine⟨rfl,bt.m5 53 au6 ?_⟩;refine bz [] (aH) ?_;refine vZ rfl rfl rfl cQ ?_;refine⟨⟨au5,au5,au5⟩,⟨by rw[wM];omega,by rw[wM];omega⟩,au lZ ?_⟩;refine⟨eC au8,eO ?_⟩;exact⟨_,_,_,af.aG 1101 (o':=Nz w s) rfl fun I F x p h=>⟨⟨w.ds,.inr ⟨ab,rfl⟩⟩,h⟩,rfl,V.symm,ac,rfl⟩
 |true=>
  have V:HI w s=sP w.ds s.nm:=if_pos ab;have lZ:=LB (((eF w:Nat):Int)*((2 ^((w.z:Nat):Int).toNat:Nat):Int)) s.a (by rw[wM];exact ab);obtain⟨cf,cM⟩:=Gk ab;have yC:=Wu aE.ds w.db s.nm au5 ((eF w*2 ^w.z:Nat):Int) s.a [] ⟨cf,cM,List.Pairwise.nil⟩;rw[<-V,<-wM] at yC;refine aW [1] Tryz.func30 rfl rfl rfl rfl ?_;refine⟨rfl,bt.m5 53 au6 ?_⟩;refine bz [] (aH) ?_;refine vZ rfl rfl rfl cQ ?_;refine⟨⟨au5,au5,au5⟩,⟨by rw[wM];omega,by rw[wM];omega⟩,au lZ ?_⟩;refine⟨eC au8,da ?_⟩;refine au yC ?_;refine⟨eC au8,?_⟩
  exact⟨_,_,_,af.aG 1101 (o':=Nz w s) rfl fun I F x p h=>(by
   obtain⟨g,h⟩:=h;exact⟨⟨g.1,.inl ⟨ab,by rw[<-wM];exact g.2⟩⟩,h⟩),rfl,rfl,ac,rfl⟩
end
section
theorem NA {Q:List bM} (h:lk Q):(jg Q).length<=100000000:=by
 have E:=yi j8 35000 Q fun b O=>Ux (Dk h O)
 have G:=h.len;unfold jg;rw[ap1,qv];omega
theorem NB {Q:List bM} (h:lk Q) (lb:Nat):Fn Tryz.prog 73 [dn lb] [(1301,.aG (.bA [(lb,rK Q)]))] [] (bS .u8 (jg Q)) [(1301,.aG (.bA [(lb,rK Q)]))]:=
 Fn.m8 [1002] 1301 (Uz Q (by have:=h.len;omega) fun b O=>Dk h O)
theorem NC {Q:List bM} (h:nw Q):Fn Tryz.prog 72 [bS .u8 (jg Q)] [] [3001,3002] (.ce [.one (.ptr 3001 0),dw 0]) (ln 3001 3002 Q):=by
 have J:=UN (jg Q) (NA h.tolk) (some (Q.map tI)) (VW h.AK (fun b O=>Dk h.tolk O) h.len);simp only[Nf] at J;exact Fn.aX [(1001,3001),(1002,3002)] J
theorem am' (n:Int) (Hw:2<=n) (hn:pb n=true) (aF:n<=4096) {Q:List bM} (h:lk Q) {es:e3} {M:dN} {DM:List bM} (hf:mm es M DM):
  Fn Tryz.prog 128 [ao 3001,ao 1201,ae n] (pU es M::ln 3001 3002 Q) [] (ae (wF n Q)) ((1201,.aG (.i4 fun b:{b:Nat//b∉M.map (·.1)}=>yA (vd n es Q b.1) ((b.1,tK n 4096 Q b.1)::M)))::ln 3001 3002 Q):=by
 obtain⟨E,G,al⟩:=hf.amV;have H:=cv.aX [(1001,1201),(1002,1202),(1003,1203)] (amq 4096 n Hw hn aF es (M:=M) E G al (Q:=Q) (by have:=h.len;omega) fun b O=>Dk h O);exact cv.i4 (cv.close (c:=1201) (bp:=nr 1201 1202 1203 4096 es M) (o':=fun b:{b:Nat//b∉M.map (·.1)}=>yA (vd n es Q b.1) ((b.1,tK n 4096 Q b.1)::M)) [1202,1203] H (fun _ _ _ _ h=>h) (fun _ _ _ _ _ h=>h) rfl fun _=>rfl)
def pf (Q:List bM):Int:=wF 512 Q
def ot (es:e3) (Q:List bM) (b:Nat):e3:=vd 512 es Q b
def ou (Q:List bM) (b:Nat):bY:=tK 512 4096 Q b
theorem ND {Q:List bM} (h:lk Q) {es:e3} {M:dN} {DM:List bM} (hf:mm es M DM):Fn Tryz.prog 128 [ao 3001,ao 1201,ae 512] (pU es M::ln 3001 3002 Q) [] (ae (pf Q)) ((1201,.aG (.i4 fun b:{b:Nat//b∉M.map (·.1)}=>yA (ot es Q b.1) ((b.1,ou Q b.1)::M)))::ln 3001 3002 Q):=am' 512 au6 rfl au6 h hf
def wN (w:cj) (Q:List bM) (e:Int) (w':cj):Prop:=e=pf Q/\ ∃b,b∉w.M.map (·.1)/\((pf Q=0/\ ∃lb,w'={w with es:=ot w.es Q b,M:=(b,ou Q b)::w.M,lb:=lb,Q:=Q})\/(pf Q≠0/\w'={w with es:=ot w.es Q b,M:=(b,ou Q b)::w.M}))
theorem Wv (w:cj) {Q:List bM} {F:Nat->e3} {S:Nat->bY}
  (H:Fn Tryz.prog 128 [ao 3001,ao 1201,ae 512] (pU w.es w.M::ln 3001 3002 Q) [] (ae 0) ((1201,.aG (.i4 fun b:{b:Nat//b∉w.M.map (·.1)}=>yA (F b.1) ((b.1,S b.1)::w.M)))::ln 3001 3002 Q)):
  cv Tryz.prog 75 [ao 1401,ao 3001] (cN w++ln 3001 3002 Q) [] (X:={b:Nat//b∉w.M.map (·.1)}×Nat) (fun _=>ae 0) (fun p=>cN {w with es:=F p.1.1,M:=(p.1.1,S p.1.1)::w.M,lb:=p.2,Q:=Q}):=by
 refine hD [2,3] Tryz.func75 rfl rfl rfl rfl ?_;refine au H ?_;refine bt.eY (df.i4 1201 rfl) fun b=>?_
 refine bz [3] (aH) ?_;refine eO ?_;refine bt.le (af.close 3001 (ln 3001 3002 Q) (o:=rK Q) ac rfl fun I F x p h=>iA.aX [(3001,1001),(3002,1002)] h) ?_;refine bt.eY (df.name 1 3001 rfl rfl) fun lb=>?_
 refine bz [] (af.trans (af.put 1301 3001 au6 rfl rfl) (af.DD 1301 rfl)) ?_;exact⟨(b,lb),_,_,_,aH,rfl,rfl,ac,rfl⟩
theorem Ww (w:cj) {Q:List bM} {e:Int} (V:e≠0) {F:Nat->e3} {S:Nat->bY}
  (H:Fn Tryz.prog 128 [ao 3001,ao 1201,ae 512] (pU w.es w.M::ln 3001 3002 Q) [] (ae e) ((1201,.aG (.i4 fun b:{b:Nat//b∉w.M.map (·.1)}=>yA (F b.1) ((b.1,S b.1)::w.M)))::ln 3001 3002 Q)):
  cv Tryz.prog 75 [ao 1401,ao 3001] (cN w++ln 3001 3002 Q) [] (X:={b:Nat//b∉w.M.map (·.1)}) (fun _=>ae e) (fun p=>cN {w with es:=F p.1,M:=(p.1,S p.1)::w.M}):=by
 refine hD [2] Tryz.func75 rfl rfl rfl rfl ?_;refine au H ?_;refine bt.eY (df.i4 1201 rfl) fun b=>?_
 refine bz [] (aH) ?_;refine⟨fun h=>absurd (gd h) V,fun _=>?_⟩;exact⟨b,_,_,_,aH,rfl,rfl,ac,rfl⟩
theorem ana (w:cj) {Q DM:List bM} (h:lk Q) (hf:mm w.es w.M DM):cv Tryz.prog 75 [ao 1401,ao 3001] (cN w++ln 3001 3002 Q) [] (X:=mV (wN w Q)) (fun p=>ae p.1.1) (fun p=>cN p.1.2):=by
 by_cases V:pf Q=0
 .have H:=ND h hf;rw[V] at H;exact(Wv w (F:=ot w.es Q) (S:=ou Q) H).to (fun p=>⟨(0,{w with es:=ot w.es Q p.1.1,M:=(p.1.1,ou Q p.1.1)::w.M,lb:=p.2,Q:=Q}),V.symm,p.1.1,p.1.2,.inl ⟨V,p.2,rfl⟩⟩) (fun _=>rfl) fun _=>rfl
 .have fp: ∀p:{b:Nat//b∉w.M.map (·.1)},wN w Q (pf Q) {w with es:=ot w.es Q p.1,M:=(p.1,ou Q p.1)::w.M}:=fun p=>⟨Eq.refl _,p.1,p.2,.inr ⟨V,Eq.refl _⟩⟩
  have E:=Ww w V (F:=ot w.es Q) (S:=ou Q) (ND h hf);generalize pf Q=e at fp E;exact E.to (fun p=>⟨(e,{w with es:=ot w.es Q p.1,M:=(p.1,ou Q p.1)::w.M}),fp p⟩) (fun _=>rfl) fun _=>rfl
def Wx (w:cj) (s:dB) (e:Int) (w':cj):Prop:=(rC w.Q s.nm≠0/\e=rC w.Q s.nm/\w'=w)\/(rC w.Q s.nm=0/\wN w (o3 w.Q s.nm) e w')
theorem anb (w:cj) (aE:fO w) (s:dB):cv Tryz.prog 37 [ao 1401,hX s] (cN w) [] (X:=mV (Wx w s)) (fun p=>ae p.1.1) (fun p=>cN p.1.2):=by
 have V:=NB aE.q.tolk w.lb;have J:=NC aE.q;have aF:=ajU w.Q s.nm (by have:=aE.q.len;omega);have H:=ana w (Mq aE.q.tolk s.nm) aE.nx;refine hD [5] Tryz.func37 rfl rfl rfl rfl ?_;refine⟨rfl,au V ?_⟩;refine au J ?_;refine au (Fn.aX [(1001,3001),(1002,3002),(1003,3003)] aF) ?_
 by_cases aw:rC w.Q s.nm=0
 .refine⟨fun h=>absurd h (by simp[aw]),fun _=>?_⟩;refine bt.h3 eN au8 ?_;refine iE (cv.aX [(3002,3003)] H) fun g=>?_
  exact⟨⟨g.1,.inr ⟨aw,g.2⟩⟩,_,_,_,aH,rfl,rfl,ac,rfl⟩
 .refine⟨fun h=>?_,fun h=>absurd h (by simp[aw])⟩;exact⟨⟨(_,w),.inl ⟨aw,rfl,rfl⟩⟩,_,_,_,aH,rfl,rfl,ac,rfl⟩
end
section
theorem NE {l:List bg} (h:dR l) (db:Nat) {nm:List UInt8} {e:bg} (V:c2 l nm=some e):Fn Tryz.prog 99 [dn db,bV nm] [(1101,.aG (.bA [(db,rJ l)]))] [5001,5002] (.ce [.agg (jo e.nm e.on e.us),dw 0]) ((1101,.aG (.bA [(db,rJ l)]))::ir 5001 5002 e.s e.g e.es):=
 (cv.m8 (X:=Unit) (bp:=ej l) (aK:=[]) (dv:=fun _=>ej l) (aP:=fun _=>ir 5001 5002 e.s e.g e.es) (res:=fun _=>.ce [.agg (jo e.nm e.on e.us),dw 0]) [1002,1003,1004] 1101 (by rw[as5];exact(ai6 h V).x) rfl (fun _=>rfl) rfl ⟨rfl,rfl⟩ rfl fun _=>rfl).fn
theorem Wy {l:List bg} (db:Nat) {nm:List UInt8} (V:c2 l nm=none):Fn Tryz.prog 99 [dn db,bV nm] [(1101,.aG (.bA [(db,rJ l)]))] [] (.ce [.agg [.d (.str []),.d (.lit false),.d (.lit false),.bI (.pointer none)],dw 112]) [(1101,.aG (.bA [(db,rJ l)]))]:=
 Fn.m8 [1002,1003,1004] 1101 (ai7 V)
theorem NF {Q:List bM} (h:lk Q) (lb:Nat):Fn Tryz.prog 63 [dn lb] [(1301,.aG (.bA [(lb,rK Q)]))] [] (bV (tD Q)) [(1301,.aG (.bA [(lb,rK Q)]))]:=
 Fn.m8 [1002] 1301 (ajc Q (by have:=h.len;omega))
theorem anc {Q:List bM} (h:lk Q) (lb:Nat):Fn Tryz.prog 60 [dn lb] [(1301,.aG (.bA [(lb,rK Q)]))] [] (bS .str (Q.map dH)) [(1301,.aG (.bA [(lb,rK Q)]))]:=
 Fn.m8 [1002] 1301 (ajC Q (by have:=h.len;omega))
theorem fO.ane {w:cj} (h:fO w):c2 w.ds []=none:=by
 cases ab:c2 w.ds [] with
 |none=>rfl
 |some e=>
  obtain⟨E,G⟩:=jS ab;have al:=(h.d5 e E).1.nm;rw[G] at al
  cases al
theorem anf (w:cj) (aE:fO w) (s:dB) (aw:s.fm=[]):Fn Tryz.prog 61 [ao 1401,hX s] (cN w) [] (.ce [mF,dw 0]) (cN w):=by
 have a6:=Wy w.db aE.ane;rw[<-aw] at a6;refine aW [] Tryz.func61 rfl rfl rfl rfl ?_;refine⟨rfl,au a6 ?_⟩;refine⟨rfl,eC au8,fun _=>?_,fun h=>absurd h (by simp[aw])⟩;exact aT aH rfl ac ac rfl
theorem ang (w:cj) (aE:fO w) (s:dB) (aw:s.fm≠[]) (ab:c2 w.ds s.fm=none):Fn Tryz.prog 61 [ao 1401,hX s] (cN w) [] (.ce [mF,dw 112]) (cN w):=by
 have a6:=Wy w.db ab;refine aW [] Tryz.func61 rfl rfl rfl rfl ?_;refine⟨rfl,au a6 ?_⟩;refine⟨rfl,eC au8,fun h=>absurd h (by simp[aw]),fun _=>?_⟩;refine eO ?_;exact aT aH rfl ac ac rfl
def qM (w:cj) (e:bg):Int:=if e.us=false then 110 else if tD w.Q=[] then 181 else 0
theorem anh (w:cj) (aE:fO w) (s:dB) (aw:s.fm≠[]) {e:bg} (ab:c2 w.ds s.fm=some e) (aY:qM w e≠0):Fn Tryz.prog 61 [ao 1401,hX s] (cN w) [] (.ce [mF,dw (qM w e)]) (cN w):=by
 have a6:=NE aE.ds w.db ab;have aq:=NF aE.q.tolk w.lb
 cases a8:e.us with
 |false=>
  have V:qM w e=110:=if_pos a8;rw[V];refine aW [] Tryz.func61 rfl rfl rfl rfl ?_;refine⟨rfl,au a6 ?_⟩;refine⟨rfl,eC au8,fun h=>absurd h (by simp[aw]),fun _=>?_⟩;refine da ?_;refine⟨fun _=>?_,fun h=>absurd h (by simp[a8])⟩;exact aT aH rfl ac ac rfl
 |true=>
  have V:qM w e=181:=by
   unfold qM at aY⊢;rw[if_neg (by rw[a8];decide)] at aY⊢
   split
   .rfl
   .rename_i h;rw[if_neg h] at aY;exact absurd rfl aY
  have aV:tD w.Q=[]:=by
   unfold qM at V;rw[if_neg (by rw[a8];decide)] at V
   split at V
   .assumption
   .cases V
  rw[V];refine aW [] Tryz.func61 rfl rfl rfl rfl ?_;refine⟨rfl,au a6 ?_⟩;refine⟨rfl,eC au8,fun h=>absurd h (by simp[aw]),fun _=>?_⟩;refine da ?_;refine⟨fun h=>absurd h (by simp[a8]),fun _=>?_⟩;refine au aq ?_;refine⟨fun _=>?_,fun h=>absurd h (by simp[aV])⟩;exact aT aH rfl ac ac rfl
theorem ani (w:cj) (aE:fO w) (s:dB) (aw:s.fm≠[]) {e:bg} (ab:c2 w.ds s.fm=some e) (aY:qM w e=0):Fn Tryz.prog 61 [ao 1401,hX s] (cN w) [5001,5002] (.ce [.one (.ptr 5001 0),dw 0]) (cN w++ir 5001 5002 e.s e.g e.es):=by
 have a6:=NE aE.ds w.db ab;have aq:=NF aE.q.tolk w.lb
 have a8:e.us=true:=by
  unfold qM at aY
  cases a8:e.us with
  |true=>rfl
  |false=>rw[if_pos a8] at aY;cases aY
 have aV:tD w.Q≠[]:=fun aV=>by
  unfold qM at aY;rw[if_neg (by rw[a8];decide),if_pos aV] at aY
  cases aY
 refine aW [] Tryz.func61 rfl rfl rfl rfl ?_;refine⟨rfl,au a6 ?_⟩;refine⟨rfl,eC au8,fun h=>absurd h (by simp[aw]),fun _=>?_⟩;refine da ?_;refine⟨fun h=>absurd h (by simp[a8]),fun _=>?_⟩;refine au aq ?_;refine⟨fun h=>absurd h (by simp[aV]),fun _=>?_⟩;exact aT aH rfl ac ac rfl
theorem af.vh {ids:List Nat} {K:a1} {B:ay} (c j d m b:Nat) {l:List bC} (H:ah B c=some (.cells l)) (aa:l[j]? =some (.ptr d 0)) (aA:ah B m=some (.co d (e6 b))):af ids K B K ((c,.cells (l.set j (.d (.aM (some b)))))::B):=by
 rintro N C a w ⟨hn,J,ρ,F,ar,av⟩;have O:=ps (N:=N) (a:=a) ar aA
 obtain⟨bN,aY⟩:=ar.hN (w':=w) (ch:=.cells (l.set j (.d (.aM (some b))))) H (cJ.refl _ _) fun I bb=>by
  obtain⟨E,aD,T,G,al⟩:=ar.holds c _ H;refine⟨E,aD,T,G,b'.set (s:=.ptr d 0) (t:=.d (.aM (some b))) (fun v h=>?_) aa (b'.mono bb _ _ (fun _ _=>rfl) al)⟩;have h:v= .pointer (some ⟨(ρ d).bk,0,none⟩):=h;rw[O] at h;exact h
 exact⟨hn,J,ρ,F,bN,av.mono aY fun _ _ _=>rfl⟩
theorem af.vi {ids:List Nat} {K:a1} {B:ay} (c m b:Nat) {o:bh} (H:ah B c=some (.aG o)) (aA:ah B m=some (.co c (e6 b))):af ids K B K ((c,.aG (o.at b))::B):=by
 rintro N C a w ⟨hn,J,ρ,F,ar,av⟩;have O:=ps (N:=N) (a:=a) ar aA;obtain⟨bN,aY⟩:=ar.hN (w':=w) (ch:=.aG (o.at b)) H (cJ.refl _ _) fun I bb=>⟨O,o.cg _ _ _ _ _ _ (ar.holds c _ H) bb (fun _ _=>rfl) (ap0 _)⟩
 exact⟨hn,J,ρ,F,bN,av.mono aY fun _ _ _=>rfl⟩
abbrev vk (nm pa:List UInt8) (bi aS:Int) (fm:List UInt8) (ec:Option (Nat×DF)):Made:=⟨(nm,pa,bi,aS,([]:List j7)),fm,ec⟩
def rM (w:cj) (s:dB):Bool:= !gp s.nm||(w.Q.map dH).contains s.nm
def NG (w:cj) (s:dB) (e:Int) (w':cj):Prop:=
 (rM w s=true/\e=1/\w'=w)\/(rM w s=false/\
  (
   (s.fm=[]/\((s.l < 0/\e=1/\w'=w)\/(0<=s.l/\e=0/\ ∃b,w'={w with b:=b,bQ:=.pu w.bc ((eF w:Nat):Int) s.l (h8 (fun _=>true) w.z (eF w*2 ^w.z)) [] false false,bH:=vk s.nm [] w.z ((eF w:Nat):Int) s.fm none})))\/
   (s.fm≠[]/\c2 w.ds s.fm=none/\e=112/\w'=w)\/
   (s.fm≠[]/\ ∃x,c2 w.ds s.fm=some x/\((qM w x≠0/\e=qM w x/\w'=w)\/(qM w x=0/\((s.l < 0/\e=1/\w'=w)\/(0<=s.l/\e=0/\ ∃b kZ,w'={w with b:=b,bQ:=.pu w.bc ((eF w:Nat):Int) s.l (h8 (mO x.g x.es) w.z (eF w*2 ^w.z)) [] false false,bH:=vk s.nm (tD w.Q) w.z ((eF w:Nat):Int) s.fm (some (kZ,((eF w*2 ^w.z:Nat):Int),1,[]))})))))))
theorem anj {s:Int} (aw:0<=s) (E:s<=4096):n3 s 1=true:=by
 unfold n3;simp[aw,E]
theorem ank (w:cj) (aE:fO w) (s:dB) (aa:w.bQ= .no) (hn:s.nm.length<=1000000):cv Tryz.prog 33 [ao 1401,hX s] (cN w) [] (X:=mV (NG w s)) (fun p=>ae p.1.1) (fun p=>cN p.1.2):=by
 obtain⟨d,J,aR⟩:=aE.dk;have gj:=aE.cs;have aq:=anc aE.q.tolk w.lb;have C4:=NF aE.q.tolk w.lb;have aF:=qn s.nm au5;have yD:=K1 (w.Q.map dH) s.nm (by rw[aq3];have:=aE.q.len;omega);have anl:=fun aw=>anf w aE s aw
 have Ka:=fun aw ab=>ang w aE s aw ab
 have Hc:=fun aw e (ab:c2 w.ds s.fm=some e) aY=>anh w aE s aw ab aY
 have anm:=fun aw e (ab:c2 w.ds s.fm=some e) aY=>ani w aE s aw ab aY
 have cQ:=fun(fz:Value) (dc pu:Option Nat)=>Nt (db:=w.db) (lb:=w.lb) (kd:=0) (fz:=fz) (dc:=dc) (pu:=pu) (m:=w.bH) (es:=w.es) (M:=w.M) aE.cs J
 have o4:=fun e (ab:c2 w.ds s.fm=some e)=>aE.d5 e (jS ab).1
 have aA:eF w*2 ^w.z<=2048:=Ny aE.cs J;have ann:c4 w.L w.bc=eF w:=rfl;rw[aR] at cQ;rw[ann] at o4
 cases jZ:gp s.nm with
 |false=>
  have yk:rM w s=true:=by unfold rM;rw[jZ];rfl
  obtain⟨z,U,L,bc,db,ds,es,M,lb,Q,ew,bQ,bH⟩:=w;simp only at aa;subst aa;refine hD [] Tryz.func33 rfl rfl rfl rfl ?_;refine⟨rfl,_,_,fun N=>qe rfl Tryz.underlying60 rfl N,rfl,?_⟩;refine au aF ?_;refine⟨fun _=>?_,fun h=>absurd h (by simp[jZ])⟩;refine⟨eC au8,?_⟩;exact⟨⟨(1,_),.inl ⟨yk,rfl,rfl⟩⟩,_,_,_,aH,rfl,rfl,ac,rfl⟩
 |true=>
 cases hp:(w.Q.map dH).contains s.nm with
 |true=>
  have yk:rM w s=true:=by unfold rM;rw[jZ,hp];rfl
  obtain⟨z,U,L,bc,db,ds,es,M,lb,Q,ew,bQ,bH⟩:=w;simp only at aa;subst aa;refine hD [] Tryz.func33 rfl rfl rfl rfl ?_;refine⟨rfl,_,_,fun N=>qe rfl Tryz.underlying60 rfl N,rfl,?_⟩;refine au aF ?_;refine⟨fun h=>absurd h (by simp[jZ]),fun _=>?_⟩;refine au aq ?_;refine au yD ?_;refine⟨eC au8,fun _=>?_,fun h=>absurd (hp.symm.trans h) au6⟩;exact⟨⟨(1,_),.inl ⟨yk,rfl,rfl⟩⟩,_,_,_,aH,rfl,rfl,ac,rfl⟩
 |false=>
 have AL:rM w s=false:=by unfold rM;rw[jZ,hp];rfl
 by_cases aw:s.fm=[]
 .have b9:=anl aw
  by_cases sQ:s.l < 0
  .have O:=Fn.ch (ag7 gj J s.l sQ);obtain⟨z,U,L,bc,db,ds,es,M,lb,Q,ew,bQ,bH⟩:=w;simp only at aa;subst aa;refine hD [] Tryz.func33 rfl rfl rfl rfl ?_;refine⟨rfl,_,_,fun N=>qe rfl Tryz.underlying60 rfl N,rfl,?_⟩;refine au aF ?_;refine⟨fun h=>absurd h (by simp[jZ]),fun _=>?_⟩;refine au aq ?_;refine au yD ?_;refine⟨eC au8,fun h=>absurd (hp.symm.trans h) au6,fun _=>?_⟩;refine au b9 ?_;refine da ?_;refine au O ?_;refine⟨eC au8,eO ?_⟩;exact⟨⟨(1,_),.inr ⟨AL,.inl ⟨aw,.inl ⟨sQ,rfl,rfl⟩⟩⟩⟩,_,_,_,aH,rfl,rfl,ac,rfl⟩
  .have sQ:0<=s.l:=by omega
   have O:=Fn.yB (aK:=[]) (aP:=nv w.z w.bc (d.im.t.length:Nat) s.l (h8 (fun _=>true) w.z (d.im.t.length*2 ^w.z)) [] false false) (ag9 gj J s.l sQ) rfl rfl;rw[aR] at O;obtain⟨z,U,L,bc,db,ds,es,M,lb,Q,ew,bQ,bH⟩:=w;simp only at aa;subst aa;refine hD [11,12,15] Tryz.func33 rfl rfl rfl rfl ?_;refine⟨rfl,_,_,fun N=>qe rfl Tryz.underlying60 rfl N,rfl,?_⟩;refine au aF ?_;refine⟨fun h=>absurd h (by simp[jZ]),fun _=>?_⟩;refine au aq ?_;refine au yD ?_;refine⟨eC au8,fun h=>absurd (hp.symm.trans h) au6,fun _=>?_⟩;refine au b9 ?_;refine da ?_;refine au O ?_;refine⟨eC au8,da ?_⟩;refine bt.m5 53 au6 ?_;refine bz [12,15] (aH) ?_;refine vZ rfl rfl rfl (cQ .nilIface none none) ?_;refine⟨eC au8,bz [15] (af.trans (af.vf 1401 16 rfl rfl) (af.trans (af.sw 1401 (l':=Hz z bc db lb 0 .nilIface none none (vk s.nm [] z ((eF ⟨z,U,L,bc,db,ds,es,M,lb,Q,ew,.no,bH⟩:Nat):Int) s.fm none)) rfl ac) (af.V8 1601 rfl))) ?_⟩;refine bt.eY (df.mark 2001 2009 rfl au6) fun b=>?_
   refine bt.le (af.Fr 7 2001 2009 b rfl rfl) ?_;refine bz [] (af.Hx 1501 2001 1001 2009 b (nv z bc ((eF ⟨z,U,L,bc,db,ds,es,M,lb,Q,ew,.no,bH⟩:Nat):Int) s.l (h8 (fun _=>true) z (eF ⟨z,U,L,bc,db,ds,es,M,lb,Q,ew,.no,bH⟩*2 ^z)) [] false false) rfl rfl ac rfl) ?_;refine⟨_,_,fun N=>Fs rfl Tryz.underlying62 rfl N,rfl,?_⟩;refine au (HB (z:=z) (U:=U) (L:=L) (bc:=bc) (db:=db) (lb:=lb) (kd:=0) (fz:=.nilIface) (dc:=none) (pu:=some b) (m:=(vk s.nm [] z ((eF ⟨z,U,L,bc,db,ds,es,M,lb,Q,ew,.no,bH⟩:Nat):Int) s.fm none)) (es:=es) (M:=M) 3 62 (.pointer (some ⟨b,0,none⟩))) ?_;exact⟨⟨(0,⟨z,U,L,bc,db,ds,es,M,lb,Q,b,.pu bc ((eF ⟨z,U,L,bc,db,ds,es,M,lb,Q,ew,.no,bH⟩:Nat):Int) s.l (h8 (fun _=>true) z (eF ⟨z,U,L,bc,db,ds,es,M,lb,Q,ew,.no,bH⟩*2 ^z)) [] false false,(vk s.nm [] z ((eF ⟨z,U,L,bc,db,ds,es,M,lb,Q,ew,.no,bH⟩:Nat):Int) s.fm none)⟩),.inr ⟨AL,.inl ⟨aw,.inr ⟨sQ,rfl,b,rfl⟩⟩⟩⟩,_,_,_,aH,rfl,rfl,ac,rfl⟩
 .cases ab:c2 w.ds s.fm with
  |none=>
   have b9:=Ka aw ab;obtain⟨z,U,L,bc,db,ds,es,M,lb,Q,ew,bQ,bH⟩:=w;simp only at aa;subst aa;refine hD [] Tryz.func33 rfl rfl rfl rfl ?_;refine⟨rfl,_,_,fun N=>qe rfl Tryz.underlying60 rfl N,rfl,?_⟩;refine au aF ?_;refine⟨fun h=>absurd h (by simp[jZ]),fun _=>?_⟩;refine au aq ?_;refine au yD ?_;refine⟨eC au8,fun h=>absurd (hp.symm.trans h) au6,fun _=>?_⟩;refine au b9 ?_;refine eO ?_;exact⟨⟨(112,_),.inr ⟨AL,.inr (.inl ⟨aw,ab,rfl,rfl⟩)⟩⟩,_,_,_,aH,rfl,rfl,ac,rfl⟩
  |some x=>
   by_cases aY:qM w x=0
   .have b9:=anm aw x ab aY;obtain⟨hx,r7⟩:=o4 x ab;obtain⟨g1,g2⟩:=Gk hx.ok
    by_cases sQ:s.l < 0
    .have O:=Fn.yB (aK:=x4 x.s x.g x.es) (aP:=x4 x.s x.g x.es) (aha gj J s.l sQ x.s x.g x.es) rfl rfl;obtain⟨z,U,L,bc,db,ds,es,M,lb,Q,ew,bQ,bH⟩:=w;simp only at aa;subst aa;refine hD [] Tryz.func33 rfl rfl rfl rfl ?_;refine⟨rfl,_,_,fun N=>qe rfl Tryz.underlying60 rfl N,rfl,?_⟩;refine au aF ?_;refine⟨fun h=>absurd h (by simp[jZ]),fun _=>?_⟩;refine au aq ?_;refine au yD ?_;refine⟨eC au8,fun h=>absurd (hp.symm.trans h) au6,fun _=>?_⟩;refine au b9 ?_;refine da ?_;refine au O ?_;refine⟨eC au8,eO ?_⟩;exact⟨⟨(1,_),.inr ⟨AL,.inr (.inr ⟨aw,x,ab,.inr ⟨aY,.inl ⟨sQ,rfl,rfl⟩⟩⟩)⟩⟩,_,_,_,aH,rfl,rfl,ac,rfl⟩
    .have sQ:0<=s.l:=by omega
     have O:=Fn.yB (aK:=x4 ((d.im.t.length*2 ^w.z:Nat):Int) x.g x.es) (aP:=nv w.z w.bc (d.im.t.length:Nat) s.l (h8 (mO x.g x.es) w.z (d.im.t.length*2 ^w.z)) [] false false++x4 ((d.im.t.length*2 ^w.z:Nat):Int) x.g x.es) (ahc gj J s.l sQ x.g x.es g2.1) rfl rfl;rw[aR] at O;rw[r7] at b9;have Dx:=LC ((eF w*2 ^w.z:Nat):Int) x.g x.es;have ano:=LB ((eF w*2 ^w.z:Nat):Int) 1 (anj au5 au5);obtain⟨z,U,L,bc,db,ds,es,M,lb,Q,ew,bQ,bH⟩:=w;simp only at aa;subst aa;refine hD [11,12,15] Tryz.func33 rfl rfl rfl rfl ?_;refine⟨rfl,_,_,fun N=>qe rfl Tryz.underlying60 rfl N,rfl,?_⟩;refine au aF ?_;refine⟨fun h=>absurd h (by simp[jZ]),fun _=>?_⟩;refine au aq ?_;refine au yD ?_;refine⟨eC au8,fun h=>absurd (hp.symm.trans h) au6,fun _=>?_⟩;refine au b9 ?_;refine da ?_;refine au O ?_;refine⟨eC au8,da ?_⟩;refine bt.m5 53 au6 ?_;refine bz [12,15] (aH) ?_;refine vZ rfl rfl rfl (cQ .nilIface none none) ?_;refine⟨eC au8,bz [15] (af.trans (af.sw 1401 (l':=(Hz z bc db lb 0 .nilIface none none (vk s.nm [] z ((eF ⟨z,U,L,bc,db,ds,es,M,lb,Q,ew,.no,bH⟩:Nat):Int) s.fm none)).set 16 (.bI (.pointer none))) rfl ac) (af.V8 1601 rfl)) ?_⟩;refine au C4 ?_;refine au (Fn.aX [(1001,5001),(1002,5002)] Dx) ?_;refine au (Fn.aX [(2001,6001),(2002,6002)] ano) ?_;refine bt.eY (df.mark 6001 6009 rfl au6) fun kZ=>?_
     refine bt.eY (df.mark 2001 2009 rfl au6) fun b=>?_
     refine bt.le (af.vh 1401 16 6001 6009 kZ rfl rfl rfl) ?_;refine bt.le (af.close 6001 (ir 6001 6002 ((eF ⟨z,U,L,bc,db,ds,es,M,lb,Q,ew,.no,bH⟩*2 ^z:Nat):Int) 1 []) (o:=ff ((eF ⟨z,U,L,bc,db,ds,es,M,lb,Q,ew,.no,bH⟩*2 ^z:Nat):Int) 1 []) ac rfl fun I F x p h=>iA.aX [(6001,1001),(6002,1002)] h) ?_;refine bt.le (af.trans (af.vi 6001 6009 kZ rfl rfl) (af.put 1601 6001 au6 rfl rfl)) ?_;refine bt.le (af.Fr 7 2001 2009 b rfl rfl) ?_;refine bz [] (af.Hx 1501 2001 1001 2009 b (nv z bc ((eF ⟨z,U,L,bc,db,ds,es,M,lb,Q,ew,.no,bH⟩:Nat):Int) s.l (h8 (mO x.g x.es) z (eF ⟨z,U,L,bc,db,ds,es,M,lb,Q,ew,.no,bH⟩*2 ^z)) [] false false) rfl rfl ac rfl) ?_;refine⟨_,_,fun N=>Fs rfl Tryz.underlying62 rfl N,rfl,?_⟩;refine au (HB (z:=z) (U:=U) (L:=L) (bc:=bc) (db:=db) (lb:=lb) (kd:=0) (fz:=.nilIface) (dc:=none) (pu:=some b) (m:=(vk s.nm (tD Q) z ((eF ⟨z,U,L,bc,db,ds,es,M,lb,Q,ew,.no,bH⟩:Nat):Int) s.fm (some (kZ,((eF ⟨z,U,L,bc,db,ds,es,M,lb,Q,ew,.no,bH⟩*2 ^z:Nat):Int),1,[])))) (es:=es) (M:=M) 3 62 (.pointer (some ⟨b,0,none⟩))) ?_;exact⟨⟨(0,⟨z,U,L,bc,db,ds,es,M,lb,Q,b,.pu bc ((eF ⟨z,U,L,bc,db,ds,es,M,lb,Q,ew,.no,bH⟩:Nat):Int) s.l (h8 (mO x.g x.es) z (eF ⟨z,U,L,bc,db,ds,es,M,lb,Q,ew,.no,bH⟩*2 ^z)) [] false false,(vk s.nm (tD Q) z ((eF ⟨z,U,L,bc,db,ds,es,M,lb,Q,ew,.no,bH⟩:Nat):Int) s.fm (some (kZ,((eF ⟨z,U,L,bc,db,ds,es,M,lb,Q,ew,.no,bH⟩*2 ^z:Nat):Int),1,[])))⟩),.inr ⟨AL,.inr (.inr ⟨aw,x,ab,.inr ⟨aY,.inr ⟨sQ,rfl,b,kZ,rfl⟩⟩⟩)⟩⟩,_,_,_,aH,rfl,rfl,ac,rfl⟩
   .have b9:=Hc aw x ab aY;obtain⟨z,U,L,bc,db,ds,es,M,lb,Q,ew,bQ,bH⟩:=w;simp only at aa;subst aa;refine hD [] Tryz.func33 rfl rfl rfl rfl ?_;refine⟨rfl,_,_,fun N=>qe rfl Tryz.underlying60 rfl N,rfl,?_⟩;refine au aF ?_;refine⟨fun h=>absurd h (by simp[jZ]),fun _=>?_⟩;refine au aq ?_;refine au yD ?_;refine⟨eC au8,fun h=>absurd (hp.symm.trans h) au6,fun _=>?_⟩;refine au b9 ?_;refine⟨fun _=>?_,fun h=>absurd h (by simp[aY])⟩;exact⟨⟨(_,_),.inr ⟨AL,.inr (.inr ⟨aw,x,ab,.inl ⟨aY,rfl,rfl⟩⟩)⟩⟩,_,_,_,aH,rfl,rfl,ac,rfl⟩
end
section
theorem Wz (A B:ay) (h:((cl A).all fun d=>(ah B d).isNone)=true) (c:Nat):ah (B++A) c=ah (A++B) c:=by
 rw[iC,iC]
 cases ha:ah A c with
 |none=>cases ah B c <;>rfl
 |some x=>
  have:=ar4.1 h c (gl.2 ⟨x,ha⟩);rw[au1.1 this]
theorem Fn.swap {P:Program} {f:FuncId} {args:List aQ} {A B A' B':ay} {bf:List Nat} {res:aQ} (h:Fn P f args (A++B) bf res (A'++B')) (E:((cl A).all fun d=>(ah B d).isNone)=true) (G:((cl A').all fun d=>(ah B' d).isNone)=true):Fn P f args (B++A) bf res (B'++A'):=
 Fn.HA h (Wz A B E) (Wz A' B' G)
theorem anp {s g bD g2:Int} {es ek d':List (Z ak×Z ak)} {b:Nat} {r:Int} (h:Fn Tryz.prog 104 [ao 1001,ao 3001] (Gy s g es bD g2 d') [] (ae r) (Gy s g ek bD g2 d')):
  Fn Tryz.prog 104 [ao 1001,dn b] (ir 1001 1002 s g es++[(1601,.aG (.bA [(b,ff bD g2 d')]))]) [] (ae r) (ir 1001 1002 s g ek++[(1601,.aG (.bA [(b,ff bD g2 d')]))]):=by
 have cB:Fn Tryz.prog 104 [ao 1001,ao 3001] ((3001,.aG (ff bD g2 d'))::ir 1001 1002 s g es) [] (ae r) ((3001,.aG (ff bD g2 d'))::ir 1001 1002 s g ek):=
  Fn.close (bp:=ir 3001 3002 bD g2 d') (dv:=ir 3001 3002 bD g2 d') [3002] (Fn.swap (A:=ir 1001 1002 s g es) (A':=ir 1001 1002 s g ek) h rfl rfl) (fun _ _ _ _ h=>iA.aX [(1001,3001),(1002,3002)] h) (fun _ _ _ _ h=>iA.aX [(3001,1001),(3002,1002)] h) rfl rfl
 have cL:Fn Tryz.prog 104 [ao 1001,ao 3001] ((3001,.aG ((ff bD g2 d').at b))::ir 1001 1002 s g es) [] (ae r) ((3001,.aG ((ff bD g2 d').at b))::ir 1001 1002 s g ek):=Fn.amB (b:=b) cB rfl
 refine Fn.via (X:=Unit) (args':=fun _=>[ao 1001,ao 3001]) (uy:=fun _=>(3001,.aG ((ff bD g2 d').at b))::(1601,.aG (.bA (j4 [(b,ff bD g2 d')] b)))::ir 1001 1002 s g es) (m0:=fun _=>(3001,.aG ((ff bD g2 d').at b))::ir 1001 1002 s g es) (i':=fun _=>[]) (res':=fun _=>ae r) (nR:=fun _=>(3001,.aG ((ff bD g2 d').at b))::ir 1001 1002 s g ek) cL.1 2 rfl ?_ (fun _=>cL) (fun _=>ac) (fun _=>rfl) (fun _=>rfl)
  (fun _=>⟨ae r,ir 1001 1002 s g ek++[(1601,.aG (.bA (e5 [(b,ff bD g2 d')] b (ff bD g2 d'))))],?_,rfl,⟨rfl,rfl,?_,trivial⟩,rfl⟩)
 .rintro N C a w ax
  have gY:af (cl (ir 1001 1002 s g es++[(1601,.aG (.bA [(b,ff bD g2 d')]))])) (oJ 0 [ao 1001,dn b]) (ir 1001 1002 s g es++[(1601,.aG (.bA [(b,ff bD g2 d')]))]) (oJ 0 [ao 1001,ao 3001]) ((3001,.aG ((ff bD g2 d').at b))::(1601,.aG (.bA (j4 [(b,ff bD g2 d')] b)))::ir 1001 1002 s g es):=
   af.trans (af.B6 1601 3001 b rfl (if_pos rfl) rfl) (af.trans (af.Qz 1 3001 b rfl rfl) (af.sub ac ac))
  exact⟨(),gY N C a w ax⟩
 .exact af.trans (af.QE (o:=ff bD g2 d') (L:=[(b,ff bD g2 d')]) 1601 3001 b rfl rfl (if_pos rfl) au6) (af.sub ac ac)
 .show some (bd.aG (.bA (e5 [(b,ff bD g2 d')] b (ff bD g2 d'))))=_;rw[show e5 [(b,ff bD g2 d')] b (ff bD g2 d')=[(b,ff bD g2 d')] from if_pos rfl]
theorem WA {nm:List UInt8} {u:bg->bg} (a8: ∀x,(u x).nm=x.nm): ∀{l:List bg} {e:bg},c2 l nm=some e->c2 (l9 l nm u) nm=some (u e)
 | [],_,h=>by cases h
 |d::l,e,h=>by
  rw[wt] at h;show c2 ((if d.nm=nm then u d else d)::l9 l nm u) nm=_;rw[wt]
  by_cases c:d.nm=nm
  .rw[if_pos c] at h;injection h with h
   subst h;rw[if_pos c,if_pos ((a8 d).trans c)]
  .rw[if_neg c] at h;rw[if_neg c,if_neg c];exact WA a8 h
theorem WB {nm:List UInt8}: ∀{l:List bg} {e:bg},(l.map (·.nm)).Nodup->c2 l nm=some e->c2 (kS l nm) nm=none/\(kS l nm).length < l.length
 | [],_,_,h=>by cases h
 |d::l,e,hn,h=>by
  rw[aq4,aq7] at hn;rw[wt] at h;unfold kS
  by_cases c:d.nm=nm
  .rw[if_pos c];refine⟨?_,Nat.lt_succ_self _⟩
   cases ab:c2 l nm with
   |none=>rfl
   |some x=>
    obtain⟨cf,cM⟩:=jS ab;exact absurd (by rw[c,<-cM];exact aq6 cf) hn.1
  .rw[if_neg c] at h⊢;obtain⟨cf,cM⟩:=WB hn.2 h;exact⟨by rw[wt,if_neg c];exact cf,by simp only[as4];omega⟩
abbrev gJ (m:Made) (g:List (Nat×List UInt8)):bM:=(dH m.fZ,dh m.fZ,cS m.fZ,ep m.fZ,n4 g)
abbrev pV (m:Made) (g:List (Nat×List UInt8)):Made:=⟨gJ m g,m.eK,m.ec⟩
def HJ (ds:List bg) (eK:List UInt8) (x:bg) (bD g2:Int) (d':List (Z ak×Z ak)) (a b:Nat):List bg:=l9 (kS (l9 ds eK oa) eK++[⟨eK,a,b,true,true,x.s,x.g,wo x.s x.g (oa x).es (qr bD g2 d')⟩]) eK fun e=>{e with on:=x.on}
def vl (w:cj) (g:List (Nat×List UInt8)) (e:Int) (w':cj):Prop:=(gx w.Q (gJ w.bH g)≠0/\e=gx w.Q (gJ w.bH g)/\w'={w with bH:=pV w.bH g})\/
 (gx w.Q (gJ w.bH g)=0/\ ∃e0,wN {w with bH:=pV w.bH g} (gr w.Q (gJ w.bH g)) e e0/\
  (((e≠0\/w.bH.ec=none\/c2 w.ds w.bH.eK=none)/\w'=e0)\/(e=0/\ ∃kZ bD g2 d' x a b,w.bH.ec=some (kZ,bD,g2,d')/\c2 w.ds w.bH.eK=some x/\dR (HJ w.ds w.bH.eK x bD g2 d' a b)/\w'={e0 with ds:=HJ w.ds w.bH.eK x bD g2 d' a b})))
theorem WC {z U:Nat} {L:List aO} {nm:List UInt8} {l:List Nat} {g:List (Nat×List UInt8)} (ag:fk z U L nm l g) (m:Made) (p:j7) (h:p∈cy (gJ m g)):(mf p).length<=4294967296:=by
 obtain⟨k,_,rfl⟩:=ar2.1 (show p∈n4 g from h)
 exact LG k g fun q aV=>by
  have E:=(ag.gt q aV).2;have G:2 ^z<=2 ^3:=Nat.pow_le_pow_right au6 ag.cs.b3;omega
theorem anq (w:cj) (aE:lo w) {nm:List UInt8} {n rm:Int} {l:List Nat} {g:List (Nat×List UInt8)} {over:Bool} (aa:w.bQ= .pu nm n rm l g over true) (ag:fk w.z w.U w.L nm l g) (qc:gp (dH w.bH.fZ)=true) (eG:gx w.Q (gJ w.bH g)≠0):
  cv Tryz.prog 66 [ao 1401] (cN w) [] (X:=mV (vl w g)) (fun p=>ae p.1.1) (fun p=>cN p.1.2):=by
 have i9:=Wk (b:=w.b) (n:=n) (rm:=rm) (over:=over) ag;have V:=NB aE.q.tolk w.lb;have J:=NC aE.q;have S7:=ag.LK;have qt:=Mc w.Q (gJ w.bH g) (by have:=aE.q.len;omega) (by have:=CG qc;show(dH w.bH.fZ).length<=_;omega) (by show(n4 g).length<=_;rw[LF];omega) (WC ag w.bH);obtain⟨z,U,L,bc,db,ds,es,M,lb,Q,ew,bQ,bH⟩:=w;simp only at aa;subst aa;refine hD [] Tryz.func66 rfl rfl rfl rfl ?_;refine au i9 ?_;refine au V ?_;refine au J ?_;refine au (Fn.aX [(1001,3001),(1002,3002),(1003,3003)] qt) ?_;refine⟨fun h=>absurd (gd h) eG,fun _=>?_⟩;refine⟨fun _=>?_,fun h=>absurd h (by simp only at eG;simp[eG])⟩;refine⟨eC au8,?_⟩;exact⟨⟨(_,⟨z,U,L,bc,db,ds,es,M,lb,Q,ew,.pu nm n rm l g over true,pV bH g⟩),.inl ⟨eG,rfl,rfl⟩⟩,_,_,_,aH,rfl,rfl,ac,rfl⟩
theorem anr {w:cj} {g:List (Nat×List UInt8)} (eG:gx w.Q (gJ w.bH g)=0) (aY:pf (gr w.Q (gJ w.bH g))=0) {b lb:Nat} (O:b∉w.M.map (·.1)) {kZ:Nat} {bD g2:Int} {d':List (Z ak×Z ak)} {x:bg} (ax:w.bH.ec=some (kZ,bD,g2,d')) (ab:c2 w.ds w.bH.eK=some x) {l':List bg}
  (tz:sP (kS (l9 w.ds w.bH.eK oa) w.bH.eK) w.bH.eK=0) (aq:DL (kS (l9 w.ds w.bH.eK oa) w.bH.eK) w.bH.eK true true x.s x.g (wo x.s x.g (oa x).es (qr bD g2 d')) l'):
  vl w g 0 {w with bH:=pV w.bH g,es:=ot w.es (gr w.Q (gJ w.bH g)) b,M:=(b,ou (gr w.Q (gJ w.bH g)) b)::w.M,lb:=lb,Q:=gr w.Q (gJ w.bH g),ds:=l9 l' w.bH.eK fun e=>{e with on:=x.on}}:=by
 rcases aq.2 with⟨_,_,_,_,a,dZ,rfl⟩ |⟨h,_⟩
 .refine .inr ⟨eG,{w with bH:=pV w.bH g,es:=ot w.es (gr w.Q (gJ w.bH g)) b,M:=(b,ou (gr w.Q (gJ w.bH g)) b)::w.M,lb:=lb,Q:=gr w.Q (gJ w.bH g)},⟨aY.symm,b,O,.inl ⟨aY,lb,?_⟩⟩,.inr ⟨rfl,kZ,bD,g2,d',x,a,dZ,ax,ab,aq.1.TK (fun e=>{e with on:=x.on}) w.bH.eK (fun _=>⟨rfl,rfl,rfl⟩) fun _ h=>h,?_⟩⟩
  .with_reducible rfl
  .unfold HJ
   with_reducible rfl
 .exact absurd tz h
set_option maxHeartbeats 2000000 in
theorem ans (w:cj) (aE:lo w) {nm:List UInt8} {n rm:Int} {l:List Nat} {g:List (Nat×List UInt8)} {over:Bool} (aa:w.bQ= .pu nm n rm l g over true) (ag:fk w.z w.U w.L nm l g) (qc:gp (dH w.bH.fZ)=true) (eG:gx w.Q (gJ w.bH g)=0):
  cv Tryz.prog 66 [ao 1401] (cN w) [] (X:=mV (vl w g)) (fun p=>ae p.1.1) (fun p=>cN p.1.2):=by
 have i9:=Wk (b:=w.b) (n:=n) (rm:=rm) (over:=over) ag;have V:=NB aE.q.tolk w.lb;have J:=NC aE.q;have S7:=ag.LK;have qt:=Mc w.Q (gJ w.bH g) (by have:=aE.q.len;omega) (by have:=CG qc;show(dH w.bH.fZ).length<=_;omega) (by show(n4 g).length<=_;rw[LF];omega) (WC ag w.bH);rw[eG] at qt;have H:=ND (aE.q.tolk.add (gJ w.bH g)) aE.nx;have dJ:=Fn.m8 (b:=w.db) [1002,1003,1004] 1101 (aiZ aE.ds w.bH.eK);have AM:dR (l9 w.ds w.bH.eK oa):=aE.ds.TK oa w.bH.eK (fun _=>⟨rfl,rfl,rfl⟩) fun e k=>⟨k.1,k.2.1,Gz k.2.2 _ _⟩
 have o4:=aE.d5;have rA:=aE.ec;have hm:=aE.ds;obtain⟨apv,ant,_⟩:=aE.dk;have aA:=Ny aE.cs ant;obtain⟨z,U,L,bc,db,ds,es,M,lb,Q,ew,bQ,bH⟩:=w;obtain⟨fZ,eK,ec⟩:=bH;simp only at aa eG o4 rA AM hm aA;subst aa
 by_cases aY:pf (gr Q (gJ ⟨fZ,eK,ec⟩ g))=0
 .simp only[aY] at H;have H:=Wv ⟨z,U,L,bc,db,ds,es,M,lb,Q,ew,.pu nm n rm l g over true,pV ⟨fZ,eK,ec⟩ g⟩ (F:=ot es (gr Q (gJ ⟨fZ,eK,ec⟩ g))) (S:=ou (gr Q (gJ ⟨fZ,eK,ec⟩ g))) H
  cases ec with
  |none=>
   refine hD [5,6] Tryz.func66 rfl rfl rfl rfl ?_;refine au i9 ?_;refine au V ?_;refine au J ?_;refine au (Fn.aX [(1001,3001),(1002,3002),(1003,3003)] qt) ?_;refine eO ?_;refine bt.h3 eN au8 ?_;refine⟨_,_,_,fun g=>_,fun g=>_,cv.aX [(3002,3003)] H,ac,rfl,fun _=>rfl,fun x=>?_⟩;obtain⟨⟨b,O⟩,DN⟩:=x;refine bz [] (aH) ?_;refine da ?_;refine⟨fun _ h=>(by cases h),fun _=>?_⟩;refine⟨eC au8,?_⟩;exact⟨⟨(0,_),.inr ⟨eG,_,⟨aY.symm,b,O,.inl ⟨aY,DN,rfl⟩⟩,.inl ⟨.inr (.inl rfl),rfl⟩⟩⟩,_,_,_,aH,rfl,rfl,ac,rfl⟩
  |some p=>
   obtain⟨kZ,bD,g2,d'⟩:=p;obtain⟨cf,cM,eb⟩:=rA _ rfl;have cf:bD=((c4 L bc*2 ^z:Nat):Int):=cf;have cM:g2=1:=cM
   cases ab:c2 ds eK with
   |none=>
    simp only[GH ab,GF ab] at dJ;refine hD [5,6] Tryz.func66 rfl rfl rfl rfl ?_;refine au i9 ?_;refine au V ?_;refine au J ?_;refine au (Fn.aX [(1001,3001),(1002,3002),(1003,3003)] qt) ?_;refine eO ?_;refine bt.h3 eN au8 ?_;refine⟨_,_,_,fun g=>_,fun g=>_,cv.aX [(3002,3003)] H,ac,rfl,fun _=>rfl,fun y=>?_⟩;obtain⟨⟨b,O⟩,DN⟩:=y;refine bz [] (aH) ?_;refine da ?_;refine⟨fun _ _=>?_,fun h=>(by cases h)⟩;refine au dJ ?_;refine⟨eC au8,eO ?_⟩;exact⟨⟨(0,_),.inr ⟨eG,_,⟨aY.symm,b,O,.inl ⟨aY,DN,rfl⟩⟩,.inl ⟨.inr (.inr ab),rfl⟩⟩⟩,_,_,_,aH,rfl,rfl,ac,rfl⟩
   |some x=>
    simp only[GG ab] at dJ;obtain⟨Bi,r7⟩:=o4 x (jS ab).1;obtain⟨cx,cA,dy,fa⟩:=hm.ok x (jS ab).1;have Fk:eK.length<=64:=(jS ab).2▸fa;have bu:gp eK=true:=(jS ab).2▸Bi.nm;have cn:=WA (u:=oa) (fun _=>rfl) ab;have a6:=NE AM db cn;have CS:=anp (b:=kZ) (ain x.s x.g (oa x).es bD g2 d' cx cA au5 au5 au5);have anu:=Fn.m8 (b:=db) [1002,1003,1004] 1101 (ai1 AM eK);obtain⟨fd,bw⟩:=WB AM.ik cn;have yC:=Wu (AM.k6 eK) db eK au5 x.s x.g (wo x.s x.g (oa x).es (qr bD g2 d')) ⟨cx,cA,Ty (Gz dy _ _) _ _⟩
    have tz:sP (kS (l9 ds eK oa) eK) eK=0:=(if_neg (by rw[bu];decide)).trans (if_neg (by
     have:=AM.len;rw[fd];rintro(h |h)
     .cases h
     .omega))
    simp only[tz] at yC;refine hD [5,6,12] Tryz.func66 rfl rfl rfl rfl ?_;refine au i9 ?_;refine au V ?_;refine au J ?_;refine au (Fn.aX [(1001,3001),(1002,3002),(1003,3003)] qt) ?_;refine eO ?_;refine bt.h3 eN au8 ?_;refine⟨_,_,_,fun g=>_,fun g=>_,cv.aX [(3002,3003)] H,ac,rfl,fun _=>rfl,fun y=>?_⟩;obtain⟨⟨b,O⟩,DN⟩:=y;refine bz [12] (aH) ?_;refine da ?_;refine⟨fun _ _=>?_,fun h=>(by cases h)⟩;refine au dJ ?_;refine⟨eC au8,da ?_⟩;refine au a6 ?_;refine⟨rfl,eC au8,au (Fn.aX [(1001,5001),(1002,5002)] CS) ?_⟩;refine⟨eC au8,au anu ?_⟩;refine⟨eC au8,au (Fn.aX [(2001,5001),(2002,5002)] yC) ?_⟩;refine⟨eC au8,bt.eY (df.i4 1101 rfl) fun aB=>?_⟩;obtain⟨l',f4⟩:=aB;have anv:=Fn.m8 (b:=db) [1002,1003,1004] 1101 (aiY f4.1 eK x.on);refine bz [] (aH) ?_;refine au anv ?_;refine⟨eC au8,?_⟩;exact⟨⟨(0,_),anr (w:=⟨z,U,L,bc,db,ds,es,M,lb,Q,ew,.pu nm n rm l g over true,⟨fZ,eK,some (kZ,bD,g2,d')⟩⟩) (lb:=DN) eG aY O (Eq.refl _) ab tz f4⟩,_,_,_,aH,rfl,rfl,ac,rfl⟩
 .have fp: ∀b:{b:Nat//b∉M.map (·.1)},wN ⟨z,U,L,bc,db,ds,es,M,lb,Q,ew,.pu nm n rm l g over true,pV ⟨fZ,eK,ec⟩ g⟩ (gr Q (gJ ⟨fZ,eK,ec⟩ g)) (pf (gr Q (gJ ⟨fZ,eK,ec⟩ g))) ⟨z,U,L,bc,db,ds,ot es (gr Q (gJ ⟨fZ,eK,ec⟩ g)) b.1,(b.1,ou (gr Q (gJ ⟨fZ,eK,ec⟩ g)) b.1)::M,lb,Q,ew,.pu nm n rm l g over true,pV ⟨fZ,eK,ec⟩ g⟩:=fun b=>⟨Eq.refl _,b.1,b.2,.inr ⟨aY,Eq.refl _⟩⟩
  have H:=Ww ⟨z,U,L,bc,db,ds,es,M,lb,Q,ew,.pu nm n rm l g over true,pV ⟨fZ,eK,ec⟩ g⟩ aY (F:=ot es (gr Q (gJ ⟨fZ,eK,ec⟩ g))) (S:=ou (gr Q (gJ ⟨fZ,eK,ec⟩ g))) H;generalize pf (gr Q (gJ ⟨fZ,eK,ec⟩ g))=e at fp aY H;refine hD [5,6] Tryz.func66 rfl rfl rfl rfl ?_;refine au i9 ?_;refine au V ?_;refine au J ?_;refine au (Fn.aX [(1001,3001),(1002,3002),(1003,3003)] qt) ?_;refine eO ?_;refine bt.h3 eN au8 ?_;refine⟨_,_,_,fun g=>_,fun g=>_,cv.aX [(3002,3003)] H,ac,rfl,fun _=>rfl,fun x=>?_⟩;refine bz [] (aH) ?_;refine⟨fun _=>?_,fun h=>absurd h (by simp[aY])⟩;refine⟨eC au8,?_⟩;exact⟨⟨(e,_),.inr ⟨eG,_,fp x,.inl ⟨.inl aY,rfl⟩⟩⟩,_,_,_,aH,rfl,rfl,ac,rfl⟩
abbrev HK:Type:=List bg×e3×dN×Nat×List bM
abbrev AN (w:cj) (g:List (Nat×List UInt8)) (t:HK):cj:={w with bH:=pV w.bH g,ds:=t.1,es:=t.2.1,M:=t.2.2.1,lb:=t.2.2.2.1,Q:=t.2.2.2.2}
theorem HL {w w':cj} {Q:List bM} {e:Int} (h:wN w Q e w'):w'={w with es:=w'.es,M:=w'.M,lb:=w'.lb,Q:=w'.Q}:=by
 obtain⟨_,b,_,⟨_,lb,rfl⟩ |⟨_,rfl⟩⟩:=h
 .with_reducible rfl
 .with_reducible rfl
theorem WD {w w':cj} {g:List (Nat×List UInt8)} {e:Int} (h:vl w g e w'):w'=AN w g (w'.ds,w'.es,w'.M,w'.lb,w'.Q):=by
 rcases h with⟨_,_,rfl⟩ |⟨_,e0,G,⟨_,rfl⟩ |⟨_,kZ,bD,g2,d',x,a,b,_,_,_,rfl⟩⟩
 .with_reducible rfl
 .have al:=HL G;rw[al]
 .have al:=HL G;rw[al]
theorem anw (w:cj) (aE:lo w) {nm:List UInt8} {n rm:Int} {l:List Nat} {g:List (Nat×List UInt8)} {over:Bool} (aa:w.bQ= .pu nm n rm l g over true) (ag:fk w.z w.U w.L nm l g) (qc:gp (dH w.bH.fZ)=true):
  cv Tryz.prog 66 [ao 1401] (cN w) [] (X:={p:Int×HK//vl w g p.1 (AN w g p.2)}) (fun p=>ae p.1.1) (fun p=>cN (AN w g p.1.2)):=by
 have h:cv Tryz.prog 66 [ao 1401] (cN w) [] (X:=mV (vl w g)) (fun p=>ae p.1.1) (fun p=>cN p.1.2):=by
  by_cases eG:gx w.Q (gJ w.bH g)=0
  .exact ans w aE aa ag qc eG
  .exact anq w aE aa ag qc eG
 exact h.to (fun x=>⟨(x.1.1,x.1.2.ds,x.1.2.es,x.1.2.M,x.1.2.lb,x.1.2.Q),WD x.2▸x.2⟩) (fun _=>rfl) fun x=>congrArg cN (WD x.2)
end
end Go.Proofs.YthnboghbhgapcaaGreat
