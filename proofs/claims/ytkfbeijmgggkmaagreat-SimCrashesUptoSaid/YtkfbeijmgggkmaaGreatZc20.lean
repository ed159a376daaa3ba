/-
A part of the proof of this claim: lemmas, with no condition beyond what each says.
-/
import Derived.Test.YtkfbeijmgggkmaaGreatZc19
set_option linter.unusedVariables false
set_option linter.unusedSimpArgs false
set_option maxRecDepth 10000
set_option maxHeartbeats 4000000
namespace Go.Proofs.YtkfbeijmgggkmaaGreat
open Go.RowKit Go.Proofs
section
section
variable {ids:aA1} {K:aX} {B:ay}
theorem cc.set {ρ:Nat->bo} {I:Nat->Prop} {w:World} {s t:bC} (d': ∀v,d1 ρ I w s v->d1 ρ I w t v): ∀{l:List bC} {aE:List Value} {j:Nat},l[j]? =some s->cc ρ I w l aE->cc ρ I w (l.set j t) aE
 | [],_,j,V,_=>by cases j <;>cases V
 |x::l,_,0,V,⟨v,r,e,E,G⟩=>by
  injection V with V
  subst V;exact⟨v,r,e,d' v E,G⟩
 |x::l,_,j+1,V,⟨v,r,e,E,G⟩=>⟨v,r,e,E,cc.set d' (l:=l) (j:=j) V G⟩
theorem ab.nh (c j:Nat) {l:List bC} (J:aj B c=some (.cells l)) (V:l[j]? =some (.bM (.pointer none))):ab ids K B K ((c,.cells (l.set j (.d (.aL none))))::B):=by
 rintro N C a w ⟨hn,H,ρ,F,ar,au⟩
 obtain⟨bP,aZ⟩:=ar.h0 (w':=w) (ch:=.cells (l.set j (.d (.aL none)))) J (cP.refl _ _) fun I a2=>by
  obtain⟨E,aE,T,G,al⟩:=ar.holds c _ J;exact⟨E,aE,T,G,cc.set (s:=.bM (.pointer none)) (t:=.d (.aL none)) (fun v h=>h) V (cc.mono a2 _ _ (fun _ _=>rfl) al)⟩
 exact⟨hn,H,ρ,F,bP,au.mono aZ fun _ _ _=>rfl⟩
theorem ab.Eg (q:Nat) {p:Nat×bg} {L:List (Nat×bg)} (aP:aj B q=some (.aF (.bw (p::L)))):ab ids K B K ((q,.aF (.bw [p]))::B):=by
 rintro N C a w ⟨hn,H,ρ,F,ar,au⟩;obtain⟨cz,cN,x,ce,cR,er,eQ,uW⟩:fo _ w (p::L) (F q):=ar.holds q _ aP;obtain⟨bP,aZ⟩:=ar.Gb (w':=w) (ch:=.aF (.bw [p])) aP cz (fun b O=>(ce b).2 (.inl O)) (cP.refl _ _) fun I a2=>⟨cz,fun _=>False,x,fun b=>by simp,fun _ _ h=>h,er,p.2.ck _ _ _ _ _ _ eQ a2 (fun _ _=>rfl) (aq4 _),fun _ h=>h⟩
 exact⟨hn,H,ρ,_,bP,au.mono aZ fun _ _ _=>rfl⟩
theorem ab.Xa (q:Nat) {L:List (Nat×bg)} (aP:aj B q=some (.aF (.bw L))):ab ids K B K ((q,.aF (.bw []))::B):=by
 rintro N C a w ⟨hn,H,ρ,F,ar,au⟩;obtain⟨bP,aZ⟩:=ar.Gb (w':=w) (ch:=.aF (.bw [])) aP (fun _=>False) (fun b O=>O.elim) (cP.refl _ _) fun I a2=>fun _ h=>h
 exact⟨hn,H,ρ,_,bP,au.mono aZ fun _ _ _=>rfl⟩
def Eh (_:bo):bg where
 bn:=fun _ F _ _=> ∀x,¬F x
 ck:=fun _ _ _ _ _ _ h _ _ _=>h
theorem ab.q' (q d:Nat) {ch:ba} (aP:aj B q=some ch):ab ids K B K ((q,.cg d Eh)::B):=by
 rintro N C a w ⟨hn,H,ρ,F,ar,au⟩;obtain⟨bP,aZ⟩:=ar.Gb (w':=w) (ch:=.cg d Eh) aP (fun _=>False) (fun b O=>O.elim) (cP.refl _ _) fun I a2=>fun _ h=>h
 exact⟨hn,H,ρ,_,bP,au.mono aZ fun _ _ _=>rfl⟩
theorem ab.Ei (q d:Nat) (aP:g9 ids K B q=true) (a6:d≠q):ab ids K B K ((q,.cg d Eh)::B):=by
 rintro N C a w ⟨hn,H,ρ,F,ar,au⟩;have cE:=kV aP;obtain⟨bP,aZ⟩:=ar.make (ch:=.cg d Eh) (w':=w) aP (Below.refl _ _) (ρ q) (fun _=>False) (fun _ h=>h.elim) (fun I _ _=>fun _ h=>h);exact⟨hn,H,_,_,bP,au.mono aZ fun s c J=>dm _ _ (fun e=>by subst e;rw[cE.1 s] at J;cases J)⟩
theorem ab.Iv (q c d m b:Nat) (bp:ay) {cB:ba} (aP:aj B q=some cB) (uX:(cm bp).contains q=false) (dy:kT B bp) (aw:aj B m=some (.cg c (fg b))):ab ids K B K ((q,.cg d (oh b c d bp))::pT (cm bp) B):=by
 rintro N C a w ⟨hn,H,ρ,F,ar,au⟩;have uX:=wm uX;have ap: ∀{d ch},aj bp d=some ch->aj B d=some ch:=fun {d ch} h=>kz dy h
 have wn: ∀{e ch},aj ((q,ba.cg d (oh b c d bp))::pT (cm bp) B) e=some ch->e=q\/e∈cm bp->e=q/\ch= .cg d (oh b c d bp):=fun {e ch} U aw=>by
  rw[cd] at U
  split at U
  .rename_i ao;injection U with U;exact⟨ao.symm,U.symm⟩
  .rename_i ao;rcases aw with aw |aw
   .exact absurd aw.symm ao
   .rw[xZ,if_pos aw] at U;cases U
 obtain⟨bP,aZ⟩:=ar.step (B':=(q,.cg d (oh b c d bp))::pT (cm bp) B) (ρ':=ρ) (F':=dc F q (fun x=> ∃e ch,aj bp e=some ch/\F e x)) (w':=w) (fun e=>e=q\/e∈cm bp) (fun _=>False) (cP.refl _ _)
  (fun e ch U aw=>by
   rw[cd,if_neg (fun h=>aw (.inl h.symm)),xZ,if_neg (fun h=>aw (.inr h))] at U;exact U)
  (fun _ _=>rfl) (fun e aw=>dm _ _ (fun h=>aw (.inl h))) (fun _ _ h=>h) (fun _ h=>h.elim) (fun _ _ _ _ _ _ h=>h)
  (fun e ch U aw aZ=>by
   obtain⟨rfl,rfl⟩:=wn U aw;rw[dd];exact⟨ρ,F,pV (N:=N) (a:=a) ar aw6,rfl,fun d ch h=>Holds.ck aZ (fun _ _=>rfl) (aq4 _) ch (fun _ _=>rfl) (ar.holds d ch (ap h)),fun d cT ch ch' b h h' a6=>ar.fj d cT ch ch' b (ap h) (ap h') a6,fun b=>Iff.rfl⟩)
  (fun e ch U aw x hx=>by
   obtain⟨rfl,rfl⟩:=wn U aw;rw[dd] at hx;obtain⟨cT,ch',E,G⟩:=hx;exact⟨(ar.own cT ch' (ap E) x G).1,.inl ⟨cT,ch',ap E,.inr (gw.2 ⟨ch',E⟩),G⟩⟩)
  (fun e b6 ch ch' x U g0 aw gv a6=>absurd ((wn U aw).1.trans (wn g0 gv).1.symm) a6)
 exact⟨hn,H,ρ,_,bP,au.mono aZ fun _ _ _=>rfl⟩
end
inductive km where
 |no
 |c7 (top base:aA0) (l:aA1) (over:Bool)
 |pl (top base:aA0) (over:Bool)
 |pu (nm:aA0) (n rm:Int) (l:aA1) (g:List (Nat×aA0)) (over done:Bool)
abbrev tl (top base:aA0) (l:aA1) (over:Bool):ay:=[(2001,.cells (Mx top base over)),(2002,.map ai ai (gg l))]
abbrev vJ (top base:aA0) (over:Bool):ay:=[(2001,.cells (Hr top base over))]
abbrev nQ (z:Int) (nm:aA0) (n rm:Int) (l:aA1) (g:List (Nat×aA0)) (over done:Bool):ay:=[(2001,.cells (DG nm z n rm over done)),(2002,.map ai ai (gg l)),(2003,.map ai iT (jN g))]
def Xb (z:Int) (b:Nat):km->bo->bg
 | .no=>Eh
 | .c7 top base l over=>oh b 2001 1001 (tl top base l over)
 | .pl top base over=>oh b 2001 1001 (vJ top base over)
 | .pu nm n rm l g over done=>oh b 2001 1001 (nQ z nm n rm l g over done)
abbrev Iw (T b:Nat):Value:=.iface T (.pointer (some ⟨b,0,none⟩))
def ra (b:Nat):km->Value
 | .no=>.nilIface
 | .c7 .. =>Iw 74 b
 | .pl .. =>Iw 136 b
 | .pu .. =>Iw 75 b
def xc (b:Nat):km->Option Nat
 | .c7 .. =>some b
 |_=>none
def xd (b:Nat):km->Option Nat
 | .pu .. =>some b
 |_=>none
def rb:km->Int
 | .no=>0
 | .c7 .. =>1
 | .pl .. =>2
 | .pu .. =>3
abbrev Ej:=Int×Int×List (aa ai×aa ai)
structure Made where
 gW:bR
 eW:aA0
 ew:Option (Nat×Ej)
def anI:Option (Nat×Ej)->List (Nat×bg)
 |none=>[]
 |some p=>[(p.1,fv p.2.1 p.2.2.1 p.2.2.2)]
abbrev ni (l:List bf):bg:=.i9 1001 (eC l)
abbrev se (Q:List bR):bg:=.i9 1001 (kJ Q)
structure bT where
 z:Nat
 R:Nat
 L:List aM
 aQ:aA0
 db:Nat
 ds:List bf
 es:fT
 M:dV
 lb:Nat
 Q:List bR
 b:Nat
 bD:km
 bI:Made
abbrev Ix (z:Int) (aQ:aA0) (db lb:Nat) (kd:Int) (fw:Value) (c7 pu:Option Nat) (m:Made):List bC:=[.d (.int .i64 z),.d (.str aQ),.ptr 1001 0,.d (.aL (some db)),.ptr 1201 0,.d (.aL (some lb)),.d (.int .i64 kd),.bM fw,.d (.aL c7),.d (.aL pu),
 .d (.str (d4 m.gW)),.d (.str (di m.gW)),.d (.int .i64 (c4 m.gW)),.d (.int .i64 (eI m.gW)),.d (.cf oB (cD m.gW)),.d (.str m.eW),.d (.aL (m.ew.map (·.1)))]
abbrev anJ (w:bT):List bC:=Ix w.z w.aQ w.db w.lb (rb w.bD) (ra w.b w.bD) (xc w.b w.bD) (xd w.b w.bD) w.bI
abbrev Xc (w:bT):Nat×ba:=(1401,.cells (anJ w))
abbrev Xd (w:bT):Nat×ba:=(1501,.cg 1001 (Xb w.z w.b w.bD))
abbrev Xe (w:bT):Nat×ba:=(1601,.aF (.bw (anI w.bI.ew)))
abbrev OD (w:bT):Nat×ba:=(1101,.aF (.bw [(w.db,ni w.ds)]))
abbrev Xf (w:bT):Nat×ba:=(1301,.aF (.bw [(w.lb,se w.Q)]))
def Ek (z R:Int) (L:List aM):bg:=.i9 1001 (bS z R L)
def y6 (es:fT) (M:dV):bg:=.i9 1201 (nN 1201 1202 1203 4096 es M)
abbrev oK (z R:Nat) (L:List aM):Nat×ba:=(1001,.aF (Ek z R L))
abbrev qh (es:fT) (M:dV):Nat×ba:=(1201,.aF (y6 es M))
abbrev cO (w:bT):ay:=[oK w.z w.R w.L,OD w,qh w.es w.M,Xf w,Xc w,Xd w,Xe w]
section
variable {f:FuncId} {args:List aO} {z R:Nat} {L:List aM} {aI:ay} {bb:aA1} {res:aO}
theorem cA.Xg {X:Type} {res:X->aO} {L':X->List aM} {aN:X->ay} (h:cA Tryz.prog f args (bS z R L++aI) bb res (fun g=>bS z R (L' g)++aN g)) (E:ob 1001 [1002,1003,1004] args (bS z R L) aI bb bb=true)
  (G: ∀g,oc 1001 (mY [1002,1003,1004] bb bb) (res g) (bS z R (L' g)) (aN g)=true):cA Tryz.prog f args (oK z R L::aI) bb res (fun g=>oK z R (L' g)::aN g):=
 cA.close (o':=fun g=>Ek z R (L' g)) [1002,1003,1004] h (fun _ _ _ _ h=>h) (fun _ _ _ _ _ h=>h) E G
theorem Fn.y7 {L':List aM} {aN:ay} (h:Fn Tryz.prog f args (bS z R L++aI) bb res (bS z R L'++aN)) (E:ob 1001 [1002,1003,1004] args (bS z R L) aI bb bb=true)
  (G:oc 1001 (mY [1002,1003,1004] bb bb) res (bS z R L') aN=true):Fn Tryz.prog f args (oK z R L::aI) bb res (oK z R L'::aN):=
 (cA.Xg (X:=Unit) (L':=fun _=>L') (aN:=fun _=>aN) (res:=fun _=>res) h.x E fun _=>G).fn
theorem Fn.ch {L':List aM} (h:Fn Tryz.prog f args (bS z R L) [] res (bS z R L')) (E:ob 1001 [1002,1003,1004] args (bS z R L) [] [] []=true:=by first |rfl |decide)
  (G:oc 1001 (mY [1002,1003,1004] [] []) res (bS z R L') []=true:=by first |rfl |decide):Fn Tryz.prog f args [oK z R L] [] res [oK z R L']:=
 Fn.y7 (aI:=[]) (aN:=[]) (by rw[au0,au0];exact h) E G
end
def bg.jh {X:Type} (o:X->bg):bg where
 bn:=fun I F w p=> ∃g,(o g).bn I F w p
 ck:=fun I F w I' w' p ⟨g,h⟩ U bd aR=>⟨g,(o g).ck I F w I' w' p h U bd aR⟩
theorem cA.jh {P:Program} {f:FuncId} {args:List aO} {aI:ay} {bb:aA1} {res:aO} {X:Type} {q:Nat} {o:X->bg} {aN:ay} (h:cA P f args aI bb (fun _=>res) (fun g=>(q,.aF (o g))::aN)):Fn P f args aI bb res ((q,.aF (.jh o))::aN):=by
 refine⟨h.1,fun ρ F I w bW b0 ca a3 a4 a5 gD=>(h.2 ρ F I w bW b0 ca a3 a4 a5 gD).mono ?_⟩;rintro e w' ⟨g,x,ρ',F',af,ao,bm,I',c6,f2,h1,nG,OE,q6⟩
 have mo: ∀{c ch},aj ((q,ba.aF (.jh o))::aN) c=some ch-> ∃ch',aj ((q,ba.aF (o g))::aN) c=some ch'/\((c=q/\ch= .aF (.jh o)/\ch'= .aF (o g))\/ch=ch'):=fun {c ch} J=>by
  rw[cd] at J
  split at J
  .rename_i e;injection J with J
   exact⟨_,by rw[cd,if_pos e],.inl ⟨e.symm,J.symm,rfl⟩⟩
  .rename_i e;exact⟨ch,by rw[cd,if_neg e];exact J,.inr rfl⟩
 refine⟨x,ρ',F',af,ao,bm,I',c6,f2,fun c ch J=>?_,fun c ch J=>?_,fun c b7 ch ch' b J cQ a6=>?_,q6⟩
 .obtain⟨ch',E,G⟩:=mo J;have:=h1 c ch' E;rcases G with⟨rfl,rfl,rfl⟩ |rfl
  .exact⟨g,this⟩
  .exact this
 .obtain⟨ch',E,_⟩:=mo J;exact nG c ch' E
 .obtain⟨Bs,E,_⟩:=mo J;obtain⟨El,G,_⟩:=mo cQ;exact OE c b7 Bs El b E G a6
theorem Fn.anK {P:Program} {f:FuncId} {args:List aO} {aI:ay} {bb:aA1} {res:aO} {X:Type} {q:Nat} {o:X->bg} {aN:ay} (h:Fn P f args aI bb res ((q,.aF (.jh o))::aN)):cA P f args aI bb (fun _=>res) (fun g=>(q,.aF (o g))::aN):=by
 refine⟨h.1,fun ρ F I w bW b0 ca a3 a4 a5 gD=>(h.2 ρ F I w bW b0 ca a3 a4 a5 gD).mono ?_⟩;rintro e w' ⟨x,ρ',F',af,ao,bm,I',c6,f2,h1,nG,OE,q6⟩;have aP:aj ((q,ba.aF (.jh o))::aN) q=some (.aF (.jh o)):=ax6
 obtain⟨g,aY⟩:(bg.jh o).bn I' (F' q) w' (ρ' q):=h1 q _ aP
 have mo: ∀{c ch},aj ((q,ba.aF (o g))::aN) c=some ch->(c=q/\ch= .aF (o g))\/aj ((q,ba.aF (.jh o))::aN) c=some ch:=fun {c ch} J=>by
  rw[cd] at J
  split at J
  .rename_i e;injection J with J;exact .inl ⟨e.symm,J.symm⟩
  .rename_i e;exact .inr (by rw[cd,if_neg e];exact J)
 have OF: ∀{c ch},aj ((q,ba.aF (o g))::aN) c=some ch-> ∃ch',aj ((q,ba.aF (.jh o))::aN) c=some ch':=fun {c ch} J=>by
  rcases mo J with⟨rfl,_⟩ |h
  .exact⟨_,aP⟩
  .exact⟨_,h⟩
 refine⟨g,x,ρ',F',af,ao,bm,I',c6,f2,fun c ch J=>?_,fun c ch J=>?_,fun c b7 ch ch' b J cQ a6=>?_,q6⟩
 .rcases mo J with⟨rfl,rfl⟩ |h
  .exact aY
  .exact h1 c ch h
 .obtain⟨ch',h'⟩:=OF J;exact nG c ch' h'
 .obtain⟨Bs,E⟩:=OF J;obtain⟨El,G⟩:=OF cQ;exact OE c b7 Bs El b E G a6
theorem ab.aF {ids:aA1} {K:aX} {B:ay} (q:Nat) {o o':bg} (aP:aj B q=some (.aF o)) (h: ∀I F w p,o.bn I F w p->o'.bn I F w p):ab ids K B K ((q,.aF o')::B):=by
 rintro N C a w ⟨hn,H,ρ,F,ar,au⟩;obtain⟨bP,aZ⟩:=ar.h0 (w':=w) (ch:=.aF o') aP (cP.refl _ _) fun I a2=>h _ _ _ _ (o.ck _ _ _ _ _ _ (ar.holds q _ aP) a2 (fun _ _=>rfl) (aq4 _))
 exact⟨hn,H,ρ,F,bP,au.mono aZ fun _ _ _=>rfl⟩
theorem c5.jh {ids:aA1} {K:aX} {B:ay} (q:Nat) {X:Type} {o:X->bg} (aP:aj B q=some (.aF (.jh o))):c5 ids K B (X:=X) (fun _=>K) (fun g=>(q,.aF (o g))::B):=by
 rintro N C a w ⟨hn,H,ρ,F,ar,au⟩;obtain⟨g,aY⟩:(bg.jh o).bn (b5 C B F w) (F q) w (ρ q):=ar.holds q _ aP;obtain⟨bP,aZ⟩:=ar.h0 (w':=w) (ch:=.aF (o g)) aP (cP.refl _ _) fun I a2=>(o g).ck _ _ _ _ _ _ aY a2 (fun _ _=>rfl) (aq4 _)
 exact⟨g,hn,H,ρ,F,bP,au.mono aZ fun _ _ _=>rfl⟩
end
section
theorem Fn.anL {P:Program} {f:FuncId} {args:List aO} {c b:Nat} {aI:ay} {bb:aA1} {res:aO} {aN:ay} {o o':bg} (h:Fn P f args ((c,.aF o)::aI) bb res ((c,.aF o')::aN)) (J:bb.contains c=false):Fn P f args ((c,.aF (o.at b))::aI) bb res ((c,.aF (o'.at b))::aN):=by
 have j0:c∉bb:=wm J
 have key: ∀{X:ay} {aB z':bg} {d:Nat} {ch:ba},aj ((c,ba.aF aB)::X) d=some ch->(d=c/\ch= .aF aB)\/(d≠c/\aj X d=some ch):=fun {X aB z' d ch} H=>by
  rw[cd] at H
  split at H
  .rename_i e;injection H with H;exact .inl ⟨e.symm,H.symm⟩
  .rename_i e;exact .inr ⟨fun ao=>e ao.symm,H⟩
 have to: ∀{X:ay} {aB z':bg} {d:Nat} {ch:ba},aj ((c,ba.aF aB)::X) d=some ch-> ∃ch',aj ((c,ba.aF z')::X) d=some ch':=fun {X aB z' d ch} H=>by
  rcases key (z':=aB) H with⟨rfl,_⟩ |⟨e,H⟩
  .exact⟨_,by rw[cd,if_pos rfl]⟩
  .exact⟨ch,by rw[cd,if_neg (Ne.symm e)];exact H⟩
 refine⟨h.1,fun ρ F I w bW b0 ca a3 a4 a5 gD=>?_⟩;have ap:aj ((c,ba.aF (o.at b))::aI) c=some (.aF (o.at b)):=ax6
 have aq:(ρ c).bh=b/\o.bn I (F c) w (ρ c):=ca c _ ap;refine(h.2 ρ F I w bW b0 (fun d ch H=>?_) (fun d ch H x hx=>?_) (fun d cT ch ch' x E G=>?_) a5 gD).mono ?_
 .rcases key (z':=o) H with⟨rfl,rfl⟩ |⟨e,H⟩
  .exact aq.2
  .exact ca d ch (by rw[cd,if_neg (Ne.symm e)];exact H)
 .obtain⟨ch',h'⟩:=to (z':=o.at b) H;exact a3 d ch' h' x hx
 .obtain⟨cJ,g1⟩:=to (z':=o.at b) E;obtain⟨cG,g2⟩:=to (z':=o.at b) G;exact a4 d cT cJ cG x g1 g2
 .rintro e w' ⟨x,ρ',F',r1,r2,fV,I',j1,lR,mq,lS,m0,od⟩
  have bd: ∀y,(∃d ch,aj ((c,ba.aF o)::aI) d=some ch/\F d y)-> ∃d ch,aj ((c,ba.aF (o.at b))::aI) d=some ch/\F d y:=fun y ⟨d,ch,g1,g2⟩=>by
   obtain⟨ch',c2⟩:=to (z':=o.at b) g1;exact⟨d,ch',c2,g2⟩
  refine⟨x,ρ',F',r1,r2.mono fun y _ aD=>bd y aD,fV,I',j1,fun y aD=>⟨(lR y aD).1,(lR y aD).2.imp id (Or.imp (bd y) id)⟩,fun d ch H=>?_,fun d ch H y aD=>?_,fun d cT ch ch' y g1 g2 a6 aD=>?_,od⟩
  .rcases key (z':=o') H with⟨rfl,rfl⟩ |⟨e,H⟩
   .have:=mq d _ ax6;exact⟨by rw[fV d j0];exact aq.1,this⟩
   .exact mq d ch (by rw[cd,if_neg (Ne.symm e)];exact H)
  .obtain⟨ch',c2⟩:=to (z':=o') H;obtain⟨cC,cF,dD⟩:=lS d ch' c2 y aD;exact⟨cC,cF,dD.imp (bd y) id⟩
  .obtain⟨cJ,cC⟩:=to (z':=o') g1;obtain⟨cG,cF⟩:=to (z':=o') g2;exact m0 d cT cJ cG y cC cF a6 aD
theorem Fn.Iy {P:Program} {f:FuncId} {args:List aO} {aI nq:ay} {bb:aA1} {res:aO} {aN oe:ay} (h:Fn P f args aI bb res aN) (E: ∀c,aj nq c=aj aI c) (G: ∀c,aj oe c=aj aN c):Fn P f args nq bb res oe:=by
 unfold Fn at h⊢;simpa only[E,G] using h
def Xh (us:Bool) (es:List (aa ai×aa ai)) (x:bf):bf:={x with us:=us,es:=es}
def Xi (l:List bf) (to fr:aA0):List bf×Int:=match c1 l to,c1 l fr with
 |some a,some b=>if b.s=a.s then(nb l a.ad (Xh (a.us&&b.us) (wU a.s a.g a.es (qR b.s b.g b.es))),0) else(l,1)
 |_,_=>(l,112)
theorem dO.c7 {l:List bf} (h:dO l) (to fr:aA0):dO (Xi l to fr).1:=by
 unfold Xi
 split
 .rename_i a b ha O
  split
  .exact h.dc (u:=Xh (a.us&&b.us) (wU a.s a.g a.es (qR b.s b.g b.es))) (fun _=>⟨rfl,rfl,rfl⟩) fun e U ao=>by
    have:=vq h.lv U (jR ha).1 ao;subst this;obtain⟨ce,cR,er,eQ⟩:=h.ok e U;exact⟨ce,cR,UD er _ _⟩
  .exact h
 .exact h
end
section
section
variable {z R:Nat} {L:List aM} {aQ:aA0} {db lb:Nat} {kd:Int} {fw:Value} {c7 pu:Option Nat} {m:Made} {es:fT} {M:dV}
abbrev lc (z R:Nat) (L:List aM) (es:fT) (M:dV) (aQ:aA0) (db lb:Nat) (kd:Int) (fw:Value) (c7 pu:Option Nat) (m:Made):ay:=[oK z R L,qh es M,(1401,.cells (Ix z aQ db lb kd fw c7 pu m))]
theorem uj:Fn Tryz.prog 80 [ah 1401] (lc z R L es M aQ db lb kd fw c7 pu m) [] gV (lc z R L es M aQ db lb 0 .nilIface none none m):=by
 refine aT [] Tryz.func80 ?_;exact⟨_,_,_,ab.trans (ab.nh 1401 8 rfl rfl) (ab.nh 1401 9 rfl rfl),rfl,trivial,az,rfl⟩
theorem Iz (k:Int) (T:Nat) (p:Value):Fn Tryz.prog 72 [ah 1401,ac k,.c (.one (.bM (.iface T p)))] (lc z R L es M aQ db lb kd fw c7 pu m) [] (ac 0) (lc z R L es M aQ db lb k (.iface T p) c7 pu m):=by
 refine aT [] Tryz.func72 ?_;exact bc
theorem anM:Fn Tryz.prog 32 [ah 1401] (lc z R L es M aQ db lb kd fw c7 pu m) [] (bQ aQ) (lc z R L es M aQ db lb kd fw c7 pu m):=by
 refine aT [] Tryz.func32 ?_;exact bc
theorem OG:Fn Tryz.prog 19 [ah 1401] (lc z R L es M aQ db lb kd fw c7 pu m) [] (ac kd) (lc z R L es M aQ db lb kd fw c7 pu m):=by
 refine aT [] Tryz.func19 ?_;exact bc
theorem Xj:Fn Tryz.prog 15 [ah 1401] (lc z R L es M aQ db lb kd fw c7 pu m) [] (c8 lb) (lc z R L es M aQ db lb kd fw c7 pu m):=by
 refine aT [] Tryz.func15 ?_;exact bc
theorem anN:Fn Tryz.prog 22 [ah 1401] (lc z R L es M aQ db lb kd fw c7 pu m) [] (c8 db) (lc z R L es M aQ db lb kd fw c7 pu m):=by
 refine aT [] Tryz.func22 ?_;exact bc
theorem Xk (h:cr z R L) (a l:Int):Fn Tryz.prog 14 [ah 1401,ac a,ac l] (lc z R L es M aQ db lb kd fw c7 pu m) [] (.cb [.one (.d (.cf .u8 (ou z L aQ a l).1)),dp (ou z L aQ a l).2]) (lc z R L es M aQ db lb kd fw c7 pu m):=by
 refine aT [] Tryz.func14 ?_;exact ak ((agU h aQ a l).ch) ⟨eM aw3,bc⟩
theorem Xl (q:Nat) (ch:ba) (B:ay) (h:aj B q=none) (c:Nat):aj (B++[(q,ch)]) c=aj ((q,ch)::B) c:=by
 simp only[iQ,cd]
 by_cases e:q=c
 .subst e;simp[h]
 .simp only[if_neg e]
  cases aj B c <;>rfl
theorem anO {f:FuncId} {args:List aO} {res:aO} (h:Fn Tryz.prog f args [(1004,.aF (.bw (iq L)))] [] res [(1004,.aF (.bw (iq L)))]) (E:ob 1001 [1002,1003,1004] args (bS z R L) [] [] []=true:=by first |rfl |decide)
  (G:oc 1001 (mY [1002,1003,1004] [] []) res (bS z R L) []=true:=by first |rfl |decide):Fn Tryz.prog f args [oK z R L] [] res [oK z R L]:=
 Fn.ch (Fn.Iy (Fn.qF [(1001,.cells (LJ z R)),(1002,.map .str .aL (c9 L)),(1003,.aF (.bw (ms L)))] h rfl rfl) (fun c=>Xl 1004 _ [_,_,_] rfl c) (fun c=>Xl 1004 _ [_,_,_] rfl c)) E G
theorem OH (h:cr z R L) {d:aM} (H:dk L aQ=some d):Fn Tryz.prog 68 [ah 1401] (lc z R L es M aQ db lb kd fw c7 pu m) [] (ac (d.im.t.length:Nat)) (lc z R L es M aQ db lb kd fw c7 pu m):=by
 have ar:=h.toh8.M (cU H).1;refine aT [] Tryz.func68 ?_;exact ak ((jK _ _ L h.toh8 aQ d H).ch) <| ak (anO (h9 (nz d.im) ar rfl rfl rfl rfl)) ⟨eM aw3,bc⟩
structure dA where
 kd:Int
 a:Int
 l:Int
 b:aA0
 nm:aA0
 fx:aA0
 ks:List j'
abbrev OI (s:dA):List bC:=[.d (.int .i64 s.kd),.d (.int .i64 s.a),.d (.int .i64 s.l),.d (.cf .u8 s.b),.d (.str s.nm),.d (.str s.fx),.d (.cf ie s.ks)]
abbrev ig (s:dA):aO:=.c (.agg (OI s))
abbrev sf (s:dA):ay:=[(2,.cells [.ptr 1401 0]),(3,.cells (OI s))]
abbrev xe (z R:Nat) (L:List aM) (es:fT) (M:dV) (aQ:aA0) (db lb:Nat) (kd:Int) (fw:Value) (c7 pu:Option Nat) (m:Made) (s:dA):ay:=lc z R L es M aQ db lb kd fw c7 pu m++sf s
theorem anP (h:cr z R L) (s:dA) (O:s.b.length<=1000000000):Fn Tryz.prog 62 [ah 2,ah 3] (xe z R L es M aQ db lb kd fw c7 pu m s) [] (ac (eU z L aQ s.a s.b).e) (xe z R (eU z L aQ s.a s.b).L es M aQ db lb kd fw c7 pu m s):=by
 refine aT [] Tryz.func62 ?_;exact ak ((Mh h aQ s.a s.b O).ch) ⟨eM aw3,bc⟩
theorem anQ (h:cr z R L) (s:dA):Fn Tryz.prog 64 [ah 2,ah 3] (xe z R L es M aQ db lb kd fw c7 pu m s) [] (ac (mx z L aQ s.a s.l).e) (xe z R (mx z L aQ s.a s.l).L es M aQ db lb kd fw c7 pu m s):=by
 refine aT [] Tryz.func64 ?_;exact ak ((Tx h aQ s.a s.l).ch) ⟨eM aw3,bc⟩
theorem anR (h:cr z R L) (s:dA):Fn Tryz.prog 66 [ah 2,ah 3] (xe z R L es M aQ db lb kd fw c7 pu m s) [] (ac (my L aQ s.a s.l).e) (xe z R (my L aQ s.a s.l).L es M aQ db lb kd fw c7 pu m s):=by
 refine aT [] Tryz.func66 ?_;exact ak ((Ty h aQ s.a s.l).ch) ⟨eM aw3,bc⟩
end
end
section
abbrev jU (z R:Nat) (L:List aM) (b:Nat) (j:km):ay:=[oK z R L,(1501,.cg 1001 (Xb z b j))]
theorem Fn.rc {f:FuncId} {args:List aO} {z R:Nat} {L L':List aM} {res:aO} {b:Nat} {bp dz:ay} (h:Fn Tryz.prog f (.c (.one (.ptr 2001 0))::args) (bS z R L++bp) [] res (bS z R L'++dz)) (Z:K1 2001 1001 1501 args (bS z R L) bp res (bS z R L') dz=true)
  (E:ob 1001 [1002,1003,1004] (.c (.one (.d (.aL (some b))))::args) (bS z R L) [(1501,.cg 1001 (oh b 2001 1001 bp))] [] []=true) (G:oc 1001 (mY [1002,1003,1004] [] []) res (bS z R L') [(1501,.cg 1001 (oh b 2001 1001 dz))]=true):
  Fn Tryz.prog f (.c (.one (.d (.aL (some b))))::args) [oK z R L,(1501,.cg 1001 (oh b 2001 1001 bp))] [] res [oK z R L',(1501,.cg 1001 (oh b 2001 1001 dz))]:=
 Fn.y7 (h.adu Z) E G
section
variable {z R:Nat} {L:List aM} {top base nm:aA0} {l:aA1} {over done:Bool} {b:Nat} {n rm:Int} {g:List (Nat×aA0)}
theorem anS (h:lC z R L top l):Fn Tryz.prog 290 [c8 b] (jU z R L b (.c7 top base l over)) [] (.cb [.one (.d (.bool (gh z L top base l over).done)),dp (gh z L top base l over).e]) (jU z R (gh z L top base l over).L b (.c7 top base (gh z L top base l over).l (gh z L top base l over).over)):=
 Fn.rc (bp:=tl ..) (dz:=tl ..) (h.MD base over) rfl rfl rfl
theorem IA:Fn Tryz.prog 289 [c8 b] (jU z R L b (.c7 top base l over)) [] (fk over) (jU z R L b (.c7 top base l over)):=
 Fn.rc (bp:=tl ..) (dz:=tl ..) (ahB z R L top base l over) rfl rfl rfl
theorem anT:Fn Tryz.prog 288 [c8 b] (jU z R L b (.c7 top base l over)) [] gV (jU z R L b (.c7 top base [] true)):=
 Fn.rc (bp:=tl ..) (dz:=tl ..) (ahC z R L top base l over) rfl rfl rfl
theorem anU (h:cr z R L) (a a1:Int) (vi:a1<=9223372036854775807) {d:aM} (H:dk L top=some d):Fn Tryz.prog 102 [c8 b,ac a,ac a1] (jU z R L b (.c7 top base l over)) [] gV (jU z R L b (.c7 top base (t' z L top l over a a1) over)):=
 Fn.rc (bp:=tl ..) (dz:=tl ..) (ahL h base l over a a1 vi H) rfl rfl rfl
theorem anV (h:cr z R L) {d:aM} (H:dk L top=some d):Fn Tryz.prog 301 [c8 b] (jU z R L b (.pl top base over)) [] (.cb [.one (.d (.bool (hU z L top base over).done)),dp (hU z L top base over).e]) (jU z R (hU z L top base over).L b (.pl top base (hU z L top base over).over)):=
 Fn.rc (bp:=vJ ..) (dz:=vJ ..) (aiX h base over H) rfl rfl rfl
theorem IB:Fn Tryz.prog 300 [c8 b] (jU z R L b (.pl top base over)) [] (fk over) (jU z R L b (.pl top base over)):=
 Fn.rc (bp:=vJ ..) (dz:=vJ ..) (aiL z R L top base over) rfl rfl rfl
theorem anW:Fn Tryz.prog 299 [c8 b] (jU z R L b (.pl top base over)) [] gV (jU z R L b (.pl top base true)):=
 Fn.rc (bp:=vJ ..) (dz:=vJ ..) (aiM z R L top base over) rfl rfl rfl
theorem anX (h:fu z R L nm l g):Fn Tryz.prog 297 [c8 b] (jU z R L b (.pu nm n rm l g over done)) [] (.cb [.one (.d (.bool (jd z L nm rm l g over done).sS)),dp (jd z L nm rm l g over done).e])
  (jU z R L b (.pu nm n rm (jd z L nm rm l g over done).l (jd z L nm rm l g over done).g (jd z L nm rm l g over done).over (jd z L nm rm l g over done).done)):=
 Fn.rc (bp:=nQ ..) (dz:=nQ ..) (h.MD n rm over done) rfl rfl rfl
theorem OJ:Fn Tryz.prog 296 [c8 b] (jU z R L b (.pu nm n rm l g over done)) [] (fk over) (jU z R L b (.pu nm n rm l g over done)):=
 Fn.rc (bp:=nQ ..) (dz:=nQ ..) (aic z R L nm n rm l g over done) rfl rfl rfl
theorem Xm:Fn Tryz.prog 78 [c8 b] (jU z R L b (.pu nm n rm l g over done)) [] (fk done) (jU z R L b (.pu nm n rm l g over done)):=
 Fn.rc (bp:=nQ ..) (dz:=nQ ..) (aid z R L nm n rm l g over done) rfl rfl rfl
theorem anY:Fn Tryz.prog 198 [c8 b] (jU z R L b (.pu nm n rm l g over done)) [] gV (jU z R L b (.pu nm n rm [] g true done)):=
 Fn.rc (bp:=nQ ..) (dz:=nQ ..) (Ua z R L nm n rm l g over done) rfl rfl rfl
theorem anZ (h:fu z R L nm l g) (a a1:Int) (G:a1<=9223372036854775807):Fn Tryz.prog 100 [c8 b,ac a,ac a1] (jU z R L b (.pu nm n rm l g over done)) [] (ac (jO z L nm rm a a1 l g over).e)
  (jU z R L b (.pu nm n rm (jO z L nm rm a a1 l g over).l (jO z L nm rm a a1 l g over).g (jO z L nm rm a a1 l g over).over done)):=
 Fn.rc (bp:=nQ ..) (dz:=nQ ..) (h.aiz n rm over done a a1 G) rfl rfl rfl
theorem Xn (h:fu z R L nm l g):Fn Tryz.prog 121 [c8 b] (jU z R L b (.pu nm n rm l g over true)) [] (.cb [.one (.d (.cf ub (k2 g))),.one (.d (.int .i64 n)),.one (.d (.bool true))]) (jU z R L b (.pu nm n rm l g over true)):=
 Fn.rc (bp:=nQ ..) (dz:=nQ ..) (h.aiA n rm over) rfl rfl rfl
end
end
section
def re (z:Nat) (L:List aM) (a a1:Int):km->km
 | .pu nm n rm l g over done=>if(jO z L nm rm a a1 l g over).e=0 then .pu nm n rm (jO z L nm rm a a1 l g over).l (jO z L nm rm a a1 l g over).g (jO z L nm rm a a1 l g over).over done else .no
 |j=>j
def Em (z:Nat) (L:List aM) (a a1:Int):km->km
 | .c7 top base l over=>.c7 top base (t' z L top l over a a1) over
 |j=>j
def En (a a1:Int) (j:km) (ew:Option (Nat×Ej)):Option (Nat×Ej):=match xd 0 j with
 |none=>ew
 |some _=>ew.map fun p=>(p.1,p.2.1,p.2.2.1,nH p.2.1 p.2.2.1 p.2.2.2 a a1)
def iK (w:bT) (a a1:Int) (r:pm):bT:=if r.e=0 then {w with L:=r.L,ds:=w.ds.map (la a a1),bD:=Em w.z r.L a a1 (re w.z w.L a a1 w.bD),bI:={w.bI with ew:=En a a1 (re w.z w.L a a1 w.bD) w.bI.ew}} else {w with L:=r.L,bD:=re w.z w.L a a1 w.bD}
def xf (z R:Nat) (L:List aM) (aQ:aA0):km->Prop
 | .no=>True
 | .c7 top base l over=>top=aQ/\over=false/\lC z R L top l
 | .pl top base over=>top=aQ/\over=false
 | .pu nm n rm l g over done=>nm=aQ/\over=false/\done=false/\n=((cl L aQ:Nat):Int)/\fu z R L nm l g
theorem an0 (q b:Nat) (s g:Int) (es:List (aa ai×aa ai)) (a a1:Int) (ax:0<=s/\s<=4096) (aY:1<=g/\g<=64):Fn Tryz.prog 103 [c8 b,ac a,ac a1] [(1601,.aF (.bw [(b,fv s g es)]))] [] (ac (if yw s a a1 then 0 else 1)) [(1601,.aF (.bw [(b,fv s g (nH s g es a a1))]))]:=
 Fn.lW [1002] 1601 (MJ s g es a a1 ax aY)
abbrev IC (w:bT) (s:dA) (f:Nat) (r:pm):Prop:= ∀(kd:Int) (fw:Value) (c7 pu:Option Nat),Fn Tryz.prog f [ah 2,ah 3] (xe w.z w.R w.L w.es w.M w.aQ w.db w.lb kd fw c7 pu w.bI s) [] (ac r.e) (xe w.z w.R r.L w.es w.M w.aQ w.db w.lb kd fw c7 pu w.bI s)
theorem Xo (w:bT) (s:dA) (f:Nat) (a a1:Int) (r:pm) (V:w.bD= .no\/ ∃top base over,w.bD= .pl top base over) (j2:dO w.ds) (hf:IC w s f r):
  Fn Tryz.prog 61 [ah 1401,ac a,ac a1,.c (.one (.cY f [.p 2 0,.p 3 0]))] (cO w++sf s) [] (ac r.e) (cO (iK w a a1 r)++sf s):=by
 obtain⟨z,R,L,aQ,db,ds,es,M,lb,Q,b,bD,bI⟩:=w;simp only at V j2;have hw:=Fn.lW (b:=db) [1002,1003,1004] 1101 (OB j2 a a1);have af:xc b bD=none:=by rcases V with rfl |⟨_,_,_,rfl⟩ <;>rfl
 have ao:xd b bD=none:=by rcases V with rfl |⟨_,_,_,rfl⟩ <;>rfl
 have bm:re z L a a1 bD=bD:=by rcases V with rfl |⟨_,_,_,rfl⟩ <;>rfl
 have c6:Em z r.L a a1 bD=bD:=by rcases V with rfl |⟨_,_,_,rfl⟩ <;>rfl
 have f2:En a a1 bD bI.ew=bI.ew:=by rcases V with rfl |⟨_,_,_,rfl⟩ <;>rfl
 have hf:=hf (rb bD) (ra b bD) (xc b bD) (xd b bD)
 by_cases U:r.e=0
 .have qu:iK ⟨z,R,L,aQ,db,ds,es,M,lb,Q,b,bD,bI⟩ a a1 r=⟨z,R,r.L,aQ,db,ds.map (la a a1),es,M,lb,Q,b,bD,bI⟩:=by
   unfold iK;simp only[bm,c6,f2,if_pos U]
  rw[qu];refine aT [] Tryz.func61 ?_;refine⟨fun _ h=>(by rw[ao] at h;cases h),fun _=>ak hf ⟨fun h=>absurd h az6,fun h=>ak hw ?_⟩⟩;refine⟨fun _ h=>(by rw[af] at h;cases h),fun _=>?_⟩;exact⟨fun _ h=>(by rw[ao] at h;cases h),fun _=>ej bq rfl U.symm⟩
 .have qu:iK ⟨z,R,L,aQ,db,ds,es,M,lb,Q,b,bD,bI⟩ a a1 r=⟨z,R,r.L,aQ,db,ds,es,M,lb,Q,b,bD,bI⟩:=by
   unfold iK;simp only[bm,if_neg U]
  rw[qu];refine aT [] Tryz.func61 ?_;exact⟨fun _ h=>(by rw[ao] at h;cases h),fun _=>ak hf ⟨fun h=>bc,fun h=>absurd h az6⟩⟩
theorem an1 (w:bT) (s:dA) (f:Nat) (a a1:Int) (r:pm) {top base:aA0} {l:aA1} {over:Bool} (V:w.bD= .c7 top base l over) (j2:dO w.ds) (f0:cr w.z w.R r.L) {d:aM} (H:dk r.L top=some d) (vi:a1<=9223372036854775807) (hf:IC w s f r):
  Fn Tryz.prog 61 [ah 1401,ac a,ac a1,.c (.one (.cY f [.p 2 0,.p 3 0]))] (cO w++sf s) [] (ac r.e) (cO (iK w a a1 r)++sf s):=by
 obtain⟨z,R,L,aQ,db,ds,es,M,lb,Q,b,bD,bI⟩:=w;simp only at V j2 f0;subst V;have hw:=Fn.lW (b:=db) [1002,1003,1004] 1101 (OB j2 a a1);have aw:=anU (b:=b) (base:=base) (l:=l) (over:=over) f0 a a1 vi H;have hf:=hf 1 (ra b (.c7 top base l over)) (some b) none
 by_cases U:r.e=0
 .have qu:iK ⟨z,R,L,aQ,db,ds,es,M,lb,Q,b,.c7 top base l over,bI⟩ a a1 r=⟨z,R,r.L,aQ,db,ds.map (la a a1),es,M,lb,Q,b,.c7 top base (t' z r.L top l over a a1) over,bI⟩:=by
   unfold iK;simp only[if_pos U,re,Em,En,xd]
  rw[qu];refine aT [] Tryz.func61 ?_;exact⟨fun _ h=>ax0,fun _=>ak hf ⟨fun h=>absurd h az6,fun h=>ak hw ⟨fun _ _=>ak aw ⟨fun _ h=>ax0,fun _=>ej bq rfl U.symm⟩,fun h=>ax0⟩⟩⟩
 .have qu:iK ⟨z,R,L,aQ,db,ds,es,M,lb,Q,b,.c7 top base l over,bI⟩ a a1 r=⟨z,R,r.L,aQ,db,ds,es,M,lb,Q,b,.c7 top base l over,bI⟩:=by
   unfold iK;simp only[if_neg U,re]
  rw[qu];refine aT [] Tryz.func61 ?_;exact⟨fun _ h=>ax0,fun _=>ak hf ⟨fun h=>bc,fun h=>absurd h az6⟩⟩
theorem an2 (w:bT) (s:dA) (f:Nat) (a a1:Int) (r:pm) {nm:aA0} {n rm:Int} {l:aA1} {g:List (Nat×aA0)} {over done:Bool} (V:w.bD= .pu nm n rm l g over done) (j2:dO w.ds) (ae:fu w.z w.R w.L nm l g) (vi:a1<=9223372036854775807)
  (r6: ∀p,w.bI.ew=some p->(0<=p.2.1/\p.2.1<=4096)/\1<=p.2.2.1/\p.2.2.1<=64) (hf:IC w s f r):
  Fn Tryz.prog 61 [ah 1401,ac a,ac a1,.c (.one (.cY f [.p 2 0,.p 3 0]))] (cO w++sf s) [] (ac r.e) (cO (iK w a a1 r)++sf s):=by
 obtain⟨z,R,L,aQ,db,ds,es,M,lb,Q,b,bD,bI⟩:=w;simp only at V j2 ae r6;subst V;have hw:=Fn.lW (b:=db) [1002,1003,1004] 1101 (OB j2 a a1);have O:=anZ (b:=b) (n:=n) (rm:=rm) (over:=over) (done:=done) ae a a1 vi;have KF:re z L a a1 (.pu nm n rm l g over done)=if(jO z L nm rm a a1 l g over).e=0 then .pu nm n rm (jO z L nm rm a a1 l g over).l (jO z L nm rm a a1 l g over).g (jO z L nm rm a a1 l g over).over done else .no:=rfl
 unfold iK;simp only[KF];generalize jO z L nm rm a a1 l g over=y at*
 by_cases aD:y.e=0
 .have hf:=hf 3 (ra b (.pu nm n rm l g over done)) none (some b);simp only[if_pos aD]
  by_cases U:r.e=0
  .simp only[if_pos U];obtain⟨gW,eW,ew⟩:=bI
   cases ew with
   |none=>
    show Fn _ _ _ _ _ _ (cO ⟨z,R,r.L,aQ,db,ds.map (la a a1),es,M,lb,Q,b,.pu nm n rm y.l y.g y.over done,⟨gW,eW,none⟩⟩++sf s);refine aT [] Tryz.func61 ?_;exact⟨fun _ _=>ak O ⟨fun h=>absurd h (by simp[aD]),fun _=>ak hf ⟨fun h=>absurd h az6,fun h=>ak hw ⟨fun _ h=>ax0,fun _=>⟨fun _ _=>⟨fun _ h=>ax0,fun _=>ej bq rfl U.symm⟩,fun h=>ax0⟩⟩⟩⟩,fun h=>ax0⟩
   |some p=>
    obtain⟨kP,aS,OK,Ed⟩:=p;obtain⟨ce,cR⟩:=r6 _ rfl;have ax:=an0 1601 kP aS OK Ed a a1 ce cR;show Fn _ _ _ _ _ _ (cO ⟨z,R,r.L,aQ,db,ds.map (la a a1),es,M,lb,Q,b,.pu nm n rm y.l y.g y.over done,⟨gW,eW,some (kP,aS,OK,nH aS OK Ed a a1)⟩⟩++sf s);refine aT [] Tryz.func61 ?_;exact⟨fun _ _=>ak O ⟨fun h=>absurd h (by simp[aD]),fun _=>ak hf ⟨fun h=>absurd h az6,fun h=>ak hw ⟨fun _ h=>ax0,fun _=>⟨fun _ _=>⟨fun _ _=>ak ax <| ej bq rfl U.symm,fun h=>ax0⟩,fun h=>ax0⟩⟩⟩⟩,fun h=>ax0⟩
  .simp only[if_neg U];refine aT [] Tryz.func61 ?_;exact⟨fun _ _=>ak O ⟨fun h=>absurd h (by simp[aD]),fun _=>ak hf ⟨fun h=>bc,fun h=>absurd h az6⟩⟩,fun h=>ax0⟩
 .have hf:=hf 0 .nilIface none none;have aY:=uj (z:=z) (R:=R) (L:=L) (aQ:=aQ) (db:=db) (lb:=lb) (kd:=3) (fw:=ra b (.pu nm n rm l g over done)) (c7:=none) (pu:=some b) (m:=bI) (es:=es) (M:=M);simp only[if_neg aD]
  by_cases U:r.e=0
  .simp only[if_pos U];show Fn _ _ _ _ _ _ (cO ⟨z,R,r.L,aQ,db,ds.map (la a a1),es,M,lb,Q,b,.no,bI⟩++sf s);refine aT [3] Tryz.func61 ?_;exact⟨fun _ _=>ak O ⟨fun _=>ak aY <| br [] (ab.q' 1501 1001 rfl) <| ak hf ⟨fun h=>absurd h az6,fun h=>ak hw ⟨fun _ h=>ax0,fun _=>⟨fun _ h=>ax0,fun _=>ej bq rfl U.symm⟩⟩⟩,fun h=>absurd h (by simp[aD])⟩,fun h=>ax0⟩
  .simp only[if_neg U];refine aT [3] Tryz.func61 ?_;exact⟨fun _ _=>ak O ⟨fun _=>ak aY <| br [] (ab.q' 1501 1001 rfl) <| ak hf ⟨fun h=>bc,fun h=>absurd h az6⟩,fun h=>absurd h (by simp[aD])⟩,fun h=>ax0⟩
end
section
structure nR (L:List bR):Prop extends lE L where
 Bt:q7 L
theorem nR.op {L:List bR} (h:nR L) (o:vt):nR (Vq L o):=by
 have E:nR (HP L o):=by
  unfold HP
  split
  .exact⟨h.tolE.add _,h.Bt.add _⟩
  .exact h
 unfold Vq
 split
 .exact⟨Nx E.tolE _,E.Bt.drop _⟩
 .exact E
end
section
theorem ID (es:fT) (k:aA0) (a:Option Nat):iI (mI es k a) k=a/\ ∀j,j≠k->iI (mI es k a) j=iI es j:=by
 obtain⟨E,G⟩:=Ah (aH:=.str) (aJ:=.aL) qB (k:aa .str) (a:aa .aL) es;refine⟨?_,fun j V=>?_⟩
 .show((bY (aH:=.str) (aJ:=.aL) (dw (aH:=.str) (aJ:=.aL) es k a) k).getD (cL .aL))=a;rw[E];rfl
 .show((bY (aH:=.str) (aJ:=.aL) (dw (aH:=.str) (aJ:=.aL) es k a) j).getD (cL .aL))=_;rw[G j V];rfl
theorem Xp {es:fT} (h:fb es) (k:aA0):iI (jT es k) k=none/\ ∀j,j≠k->iI (jT es k) j=iI es j:=by
 obtain⟨E,G⟩:=CH (aH:=.str) (aJ:=.aL) qB (k:aa .str) es h;refine⟨?_,fun j V=>?_⟩
 .show((bY (aH:=.str) (aJ:=.aL) (gR (aH:=.str) (aJ:=.aL) es k) k).getD (cL .aL))=none;rw[E];rfl
 .show((bY (aH:=.str) (aJ:=.aL) (gR (aH:=.str) (aJ:=.aL) es k) j).getD (cL .aL))=_;rw[G j V];rfl
theorem an3 {es:fT} (h:fb es) (G: ∀p,p∈es->th p=qg\/th p=gC):es.length<=2:=by
 match es,h,G with
 | [],_,_=>exact aq9 _
 | [_],_,_=>exact Nat.le_succ 1
 | [_,_],_,_=>exact aq4 _
 |x::y::aB::l,h,G=>
  exfalso
  have ne: ∀{p q:aa .str×aa .aL},fN .str p.1 q.1=false->th p≠th q:=fun {p q} e bj=>by
   have:fN .str p.1 q.1=true:=(qB p.1 q.1).2 bj;rw[e] at this
   cases this
  obtain⟨b0,ca⟩:=List.pairwise_cons.1 h;obtain⟨b1,b2⟩:=List.pairwise_cons.1 ca;have cM:=ne (b0 y aw2);have dK:=ne (b0 aB aw2);have lr:=ne (b1 aB aw2);rcases G x aw2 with af |af <;>rcases G y aw2 with ao |ao <;>rcases G aB aw2 with bm |bm <;>simp_all
structure mJ (es:fT) (M:dV) (Q:List bR):Prop where
 iB:fb es
 two: ∀p,p∈es->th p=qg\/th p=gC
 bw:mb es M 0
 Xq: ∀p,p∈M->p.2.e6=[]/\p.2.l8=p.2.bH
 cf:(iI es qg=none/\Q=[])\/ ∃a m,iI es qg=some a/\hY M a=some m/\y3 m 512 4096 (iu Q)/\((iu Q).length:Int)<=dv 512*16
theorem Xr:(qg:aA0)≠gC:=by decide
theorem an4 {M:dV} {a:Nat} {m:bX} (h:hY M a=some m):a∈M.map (·.1):=as0 (f:=fun p:Nat×bX=>p.1) (Oe h)
theorem mJ.an5 {es:fT} {M:dV} {Q:List bR} (h:mJ es M Q):iI (jT es gC) gC=none/\(jT es gC).length < 16/\ ∀b,iI (mI (jT es gC) gC (some b)) gC=some b:=by
 have G:(jT es gC).length<=2:=an3 (fb.lU h.iB) fun p ae=>h.two p (Ai ae)
 exact⟨(Xp h.iB gC).1,aw0,fun b=>(ID _ _ _).1⟩
theorem mJ.an6 {es:fT} {M:dV} {Q Q':List bR} (h:mJ es M Q) {b:Nat} (O:b∉M.map (·.1)):mJ (vH 512 es Q' b) ((b,ui 512 4096 Q' b)::M) (if xa 512 Q'=0 then Q' else Q):=by
 have ce:fb (jT es gC):=fb.lU h.iB;have cR:fb (mI (jT es gC) gC (some b)):=fb.put qB ce
 have ue: ∀p,p∈mI (jT es gC) gC (some b)->th p=qg\/th p=gC:=fun p ae=>by
  rcases Ee ae with rfl |ae
  .exact .inr rfl
  .exact h.two p (Ai ae)
 have hf: ∀m,(m=ui 512 4096 Q' b)-> ∀p,p∈((b,m)::M:dV)->m.e6=[]/\m.l8=m.bH->p.2.e6=[]/\p.2.l8=p.2.bH:=fun m _ p ae aw=>by
  rcases aq7.1 ae with rfl |ae
  .exact aw
  .exact h.Xq p ae
 by_cases J:((iu Q').length:Int)<=dv 512*16
 .have pK:=anc (n:=512) (R:=4096) rfl aw1 aw1 J;have af:xa 512 Q'=0:=if_pos J;have ao:vH 512 es Q' b=_:=if_pos J;have bm:ui 512 4096 Q' b=_:=if_pos J;have ae:=(h.bw.lU gC).add (k:=gC) (m:=vG 512 4096 (iu Q')) O pK.ok (by rw[pK.hz];exact aq4 _);have g1:=(ID (jT es gC) gC (some b)).1;rw[af,if_pos rfl,ao,bm];refine⟨fb.put qB (fb.lU cR),fun p ae=>?_,ae.aV g1,fun p ae=>hf _ bm.symm p ae ⟨pK.hz,pK.Eb⟩,.inr ⟨b,_,(ID _ _ _).1,if_pos rfl,pK,J⟩⟩;rcases Ee ae with rfl |ae
  .exact .inl rfl
  .exact ue p (Ai ae)
 .have af:xa 512 Q'=1:=if_neg J;have ao:vH 512 es Q' b=_:=if_neg J;have bm:ui 512 4096 Q' b=_:=if_neg J;have ae:=(h.bw.lU gC).add (k:=gC) (m:=kO 512 4096) O (fe.new rfl) (aq4 _);rw[af,if_neg aw1,ao,bm];refine⟨cR,ue,ae,fun p ae=>hf _ bm.symm p ae ⟨rfl,rfl⟩,?_⟩;have g1:iI (mI (jT es gC) gC (some b)) qg=iI es qg:=((ID _ _ _).2 _ Xr).trans ((Xp h.iB _).2 _ Xr);rw[g1];rcases h.cf with E |⟨a,m,E,G,al⟩
  .exact .inl E
  .refine .inr ⟨a,m,E,?_,al⟩;rw[uf,if_neg (fun e=>O (by have e:b=a:=e;rw[e];exact an4 G))];exact G
theorem mJ.k7 {es:fT} {M:dV} {Q:List bR} (h:mJ es M Q) (ks:List j'):k8 (yW ks es) M=M:=by
 unfold k8;refine(as7 fun p ae=>?_).trans (List.map_id M);obtain⟨E,G⟩:=h.Xq p ae
 have al:yW ks es p.1 p.2=p.2:=by
  unfold yW
  split
  .obtain⟨a,n',Cc,Eb,Ed,hz⟩:=p;simp only at E G;subst E G;rfl
  .rfl
 rw[al];rfl
def Eo:km->Bool
 | .pu .. =>true
 |_=>false
structure lH (w:bT):Prop where
 cs:cr w.z w.R w.L
 kd:(dk w.L w.aQ).isSome=true
 ds:dO w.ds
 eg: ∀e,e∈w.ds->vy e/\e.s=((cl w.L w.aQ*2 ^w.z:Nat):Int)
 q:nR w.Q
 nS:mJ w.es w.M w.Q
 ew: ∀p,w.bI.ew=some p->p.2.1=((cl w.L w.aQ*2 ^w.z:Nat):Int)/\p.2.2.1=1/\fb p.2.2.2
structure dP (w:bT):Prop extends lH w where
 bD:xf w.z w.R w.L w.aQ w.bD
 r4:Eo w.bD=true->g4 (d4 w.bI.gW)=true
end
section
theorem OL (w:bT) (aq:dP w) (s:dA) (f:Nat) (a a1:Int) (r:pm) (ap:pn w.L w.aQ r.L) (vi:a1<=9223372036854775807) (hf:IC w s f r):
  Fn Tryz.prog 61 [ah 1401,ac a,ac a1,.c (.one (.cY f [.p 2 0,.p 3 0]))] (cO w++sf s) [] (ac r.e) (cO (iK w a a1 r)++sf s):=by
 have V:=aq.bD
 cases h:w.bD with
 |no=>exact Xo w s f a a1 r (.inl h) aq.ds hf
 |pl t b o=>exact Xo w s f a a1 r (.inr ⟨t,b,o,h⟩) aq.ds hf
 |c7 t b l o=>
  rw[h] at V;obtain⟨E,G,al⟩:=V;obtain⟨d,H⟩:=at5.1 (show(dk r.L t).isSome=true by rw[(ap.aS t).2];exact al.iB);exact an1 w s f a a1 r h aq.ds (ap.cs aq.cs) H vi hf
 |pu nm n rm l g o sS=>
  rw[h] at V;obtain⟨E,G,al,aW,bG⟩:=V
  exact an2 w s f a a1 r h aq.ds bG vi (fun p ae=>by
   obtain⟨ce,cR,_⟩:=aq.ew p ae;have O:=aq.cs.b3;obtain⟨d,H⟩:=at5.1 aq.kd;have an7:=(aq.cs.gf d (cU H).1).1.eN;have ax:cl w.L w.aQ=d.im.t.length:=ay5
   have gJ:2 ^w.z<=2 ^3:=Nat.pow_le_pow_right aw1 O;have aw:cl w.L w.aQ*2 ^w.z<=256*8:=Nat.mul_le_mul aw0 gJ;rw[ce,cR];omega) hf
theorem an8 (w:bT) (aq:dP w) (s:dA) (O:s.b.length<=1000000):Fn Tryz.prog 33 [ah 1401,ig s] (cO w) [] (ac (eU w.z w.L w.aQ s.a s.b).e) (cO (iK w s.a ((s.b.length:Int)/16) (eU w.z w.L w.aQ s.a s.b))):=by
 have J:=OL w aq s 62 s.a ((s.b.length:Int)/16) (eU w.z w.L w.aQ s.a s.b) (AT aq.cs _ _ _) aw0 (fun _ _ _ _=>anP aq.cs s aw0);generalize eU w.z w.L w.aQ s.a s.b=r at J⊢;generalize iK w s.a ((s.b.length:Int)/16) r=w' at J⊢;generalize r.e=e at J⊢;refine aT [] Tryz.func33 ?_;refine⟨rfl,rfl,?_⟩;have cC:0<=((s.b.length:Nat):Int)/\(0:Int) < 16:=aw8
 have cF: -9223372036854775808<=((s.b.length:Nat):Int)/16/\((s.b.length:Nat):Int)/16<=9223372036854775807:=aw8
 exact⟨cC,cF,ak J bc⟩
theorem an9 (w:bT) (aq:dP w) (s:dA) (ap:s.l<=9223372036854775807):Fn Tryz.prog 34 [ah 1401,ig s] (cO w) [] (ac (mx w.z w.L w.aQ s.a s.l).e) (cO (iK w s.a s.l (mx w.z w.L w.aQ s.a s.l))):=by
 have J:=OL w aq s 64 s.a s.l (mx w.z w.L w.aQ s.a s.l) (G7 aq.cs _ _ _) ap (fun _ _ _ _=>anQ aq.cs s);generalize mx w.z w.L w.aQ s.a s.l=r at J⊢;generalize iK w s.a s.l r=w' at J⊢;generalize r.e=e at J⊢;refine aT [] Tryz.func34 ?_;exact⟨rfl,rfl,ak J bc⟩
def xg:km->Bool
 | .c7 .. =>true
 |_=>false
theorem an' (b:Nat) (j:km):(xg j=true->xc b j=some b)/\(xg j=false->xc b j=none):=by cases j <;>exact⟨fun h=>(by first |rfl |cases h),fun h=>(by first |rfl |cases h)⟩
theorem Xs (w:bT) (aq:dP w) (s:dA) (ap:s.l<=9223372036854775807) (r:pm) (aC:r=if xg w.bD=true then⟨143,w.L⟩ else my w.L w.aQ s.a s.l) (w':bT) (hw:w'=if xg w.bD=true then w else iK w s.a s.l r):Fn Tryz.prog 35 [ah 1401,ig s] (cO w) [] (ac r.e) (cO w'):=by
 obtain⟨k5,qV⟩:=an' w.b w.bD
 cases aw:xg w.bD with
 |true=>
  rw[aw] at aC hw;have k5:=k5 aw;rw[if_pos rfl] at aC hw;subst aC hw;refine aT [] Tryz.func35 ?_;refine⟨rfl,rfl,?_⟩;exact⟨fun _ _=>bc,fun h=>(by rw[k5] at h;cases h)⟩
 |false=>
  rw[aw] at aC hw;have qV:=qV aw;rw[if_neg aw1] at aC hw;subst aC;subst hw;have J:=OL w aq s 66 s.a s.l (my w.L w.aQ s.a s.l) (AU aq.cs _ _ _) ap (fun _ _ _ _=>anR aq.cs s);generalize my w.L w.aQ s.a s.l=r at J⊢;generalize iK w s.a s.l r=w' at J⊢;generalize r.e=e at J⊢;refine aT [] Tryz.func35 ?_;refine⟨rfl,rfl,?_⟩;exact⟨fun _ h=>(by rw[qV] at h;cases h),fun _=>ak J bc⟩
end
section
def oL:km->Bool
 | .no=>true
 |_=>false
theorem IE {j:km} (h:oL j=false) (b:Nat): ∃T,ra b j=Iw T b:=by cases j <;>first |(cases h;done) |exact⟨_,rfl⟩
def eJ (w:bT):Nat:=cl w.L w.aQ
theorem lH.dk {w:bT} (h:lH w): ∃d,Go.Proofs.YtkfbeijmgggkmaaGreat.dk w.L w.aQ=some d/\d.im.t.length=eJ w:=by
 obtain⟨d,H⟩:=at5.1 h.kd;exact⟨d,H,by unfold eJ cl;rw[H]⟩
theorem dP.dk {w:bT} (h:dP w): ∃d,Go.Proofs.YtkfbeijmgggkmaaGreat.dk w.L w.aQ=some d/\d.im.t.length=eJ w:=h.tolH.dk
theorem aoa (w:bT) (s:dA) (V:oL w.bD=false):Fn Tryz.prog 36 [ah 1401,ig s] (cO w) [] (ac 143) (cO w):=by
 obtain⟨T,ci⟩:=IE V w.b;refine aT [] Tryz.func36 ?_;refine⟨rfl,_,_,fun N=>Gq rfl Tryz.underlying73 (by exact congrArg (fun v=>aO.c (.one (.bM v))) ci) N,rfl,?_⟩;exact bc
theorem Xt (z R:Nat) (L:List aM) (nm:aA0) (size:Int) (back:aA0) (p:Nat×Nat):(ib z R L nm size back p).e=(ib z R L nm size back (0,0)).e:=by
 unfold ib
 repeat' split
 all_goals rfl
theorem OM {z R:Nat} {L:List aM} (h:cr z R L) (nm:aA0) (size:Int) (back:aA0) (ap:nm.length<=4294967296):
  Fn Tryz.prog 27 [ah 1001,bQ nm,ac size,bQ back] [oK z R L] [] (ac (ib z R L nm size back (0,0)).e) [(1001,.aF (.jh fun p:{p:Nat×Nat//cr z R (ib z R L nm size back p).L}=>Ek z R (ib z R L nm size back p.1).L))]:=by
 have E:=agZ h nm size back ap;simp only[Xt] at E;exact cA.jh (aN:=[]) (cA.Xg (aI:=[]) (aN:=fun _=>[]) (by simp only[au0];exact E) rfl fun _=>rfl)
abbrev nj (bn:Int->bT->Prop):Type:={p:Int×bT//bn p.1 p.2}
def Xu (w:bT) (s:dA) (e:Int) (w':bT):Prop:= ∃p:Nat×Nat,cr w.z w.R (ib w.z w.R w.L s.nm ((eJ w:Nat):Int) w.aQ p).L/\e=(ib w.z w.R w.L s.nm ((eJ w:Nat):Int) w.aQ p).e/\
 ((e=0/\w'={w with L:=(ib w.z w.R w.L s.nm ((eJ w:Nat):Int) w.aQ p).L,aQ:=s.nm})\/(e≠0/\w'={w with L:=(ib w.z w.R w.L s.nm ((eJ w:Nat):Int) w.aQ p).L}))
theorem aob (w:bT) (aq:dP w) (s:dA) (V:w.bD= .no) (ap:s.nm.length<=1000000):cA Tryz.prog 36 [ah 1401,ig s] (cO w) [] (X:=nj (Xu w s)) (fun p=>ac p.1.1) (fun p=>cO p.1.2):=by
 obtain⟨d,H,aR⟩:=aq.dk;have cu:=OH (db:=w.db) (lb:=w.lb) (kd:=rb w.bD) (fw:=ra w.b w.bD) (c7:=xc w.b w.bD) (pu:=xd w.b w.bD) (m:=w.bI) (es:=w.es) (M:=w.M) aq.cs H;rw[aR] at cu;have y8:=OM aq.cs s.nm ((eJ w:Nat):Int) w.aQ aw0;have ci:ra w.b w.bD= .nilIface:=by rw[V];rfl
 refine hQ [3,4] Tryz.func36 ?_;refine⟨rfl,_,_,fun N=>qC rfl Tryz.underlying73 (by exact congrArg (fun v=>aO.c (.one (.bM v))) ci) N,rfl,?_⟩;refine bk.m4 68 aw1 ?_;refine br [4] (bq) <| wt rfl rfl rfl cu <| ak y8 ⟨eM aw3,bk.eH (c5.jh 1001 rfl) fun g=>?_⟩;obtain⟨p,ae⟩:=g;have Bn:=Xt w.z w.R w.L s.nm ((eJ w:Nat):Int) w.aQ p;refine br [] (bq) ⟨fun h=>?_,fun h=>?_⟩
 .have h:=gd h;exact⟨⟨(_,{w with L:=(ib w.z w.R w.L s.nm ((eJ w:Nat):Int) w.aQ p).L,aQ:=s.nm}),p,ae,Bn.symm,.inl ⟨h,rfl⟩⟩,_,_,_,bq,rfl,rfl,az,rfl⟩
 .have h:=mu h;exact⟨⟨(_,{w with L:=(ib w.z w.R w.L s.nm ((eJ w:Nat):Int) w.aQ p).L}),p,ae,Bn.symm,.inr ⟨h,rfl⟩⟩,_,_,_,bq,rfl,rfl,az,rfl⟩
theorem aoc (w:bT) (s:dA) (V:oL w.bD=false):Fn Tryz.prog 38 [ah 1401,ig s] (cO w) [] (ac 143) (cO w):=by
 obtain⟨T,ci⟩:=IE V w.b;refine aT [] Tryz.func38 ?_;refine⟨rfl,_,_,fun N=>Gq rfl Tryz.underlying73 (by exact congrArg (fun v=>aO.c (.one (.bM v))) ci) N,rfl,?_⟩;exact bc
theorem aod (w:bT) (s:dA) (V:oL w.bD=false):Fn Tryz.prog 39 [ah 1401,ig s] (cO w) [] (ac 143) (cO w):=by
 obtain⟨T,ci⟩:=IE V w.b;refine aT [] Tryz.func39 ?_;refine⟨rfl,_,_,fun N=>Gq rfl Tryz.underlying73 (by exact congrArg (fun v=>aO.c (.one (.bM v))) ci) N,rfl,?_⟩;exact bc
theorem aoe (w:bT) (s:dA) (V:oL w.bD=false):Fn Tryz.prog 40 [ah 1401,ig s] (cO w) [] (ac 143) (cO w):=by
 obtain⟨T,ci⟩:=IE V w.b;refine aT [] Tryz.func40 ?_;refine⟨rfl,_,_,fun N=>Gq rfl Tryz.underlying73 (by exact congrArg (fun v=>aO.c (.one (.bM v))) ci) N,rfl,?_⟩;exact bc
def Xv (w:bT) (e:Int) (w':bT):Prop:=e=p7 w.L w.aQ/\((e=0/\ ∃b,w'={w with b:=b,bD:=.c7 w.aQ (gH w.L w.aQ).1 (wP w.L w.aQ) false})\/(e≠0/\w'=w))
theorem aof (w:bT) (aq:dP w) (s:dA) (V:w.bD= .no):cA Tryz.prog 38 [ah 1401,ig s] (cO w) [] (X:=nj (Xv w)) (fun p=>ac p.1.1) (fun p=>cO p.1.2):=by
 have f0:=aq.cs;obtain⟨z,R,L,aQ,db,ds,es,M,lb,Q,eL,bD,bI⟩:=w;simp only at V f0;subst V
 by_cases U:p7 L aQ=0
 .have O:=Fn.y7 (aI:=[]) (aN:=tl aQ (gH L aQ).1 (wP L aQ) false) (ahG f0 aQ U) rfl rfl;refine hQ [6] Tryz.func38 ?_;refine⟨rfl,_,_,fun N=>qC rfl Tryz.underlying73 rfl N,rfl,?_⟩;refine ak O ⟨eM aw3,cX <| bk.eH (c5.mark 2001 2009 rfl aw1) fun b=>bk.le (ab.Gn 5 2001 2009 b rfl rfl) <| br [] (ab.Iv 1501 2001 1001 2009 b (tl aQ (gH L aQ).1 (wP L aQ) false) rfl rfl az rfl) ⟨_,_,fun N=>Gp rfl Tryz.underlying74 rfl N,rfl,?_⟩⟩;exact ak (Iz (z:=z) (R:=R) (L:=L) (aQ:=aQ) (db:=db) (lb:=lb) (kd:=0) (fw:=.nilIface) (c7:=some b) (pu:=none) (m:=bI) (es:=es) (M:=M) 1 74 (.pointer (some ⟨b,0,none⟩))) ⟨⟨(0,⟨z,R,L,aQ,db,ds,es,M,lb,Q,b,.c7 aQ (gH L aQ).1 (wP L aQ) false,bI⟩),U.symm,.inl ⟨rfl,b,rfl⟩⟩,_,_,_,bq,rfl,rfl,az,rfl⟩
 .have O:=Fn.ch (ahD f0 aQ U);refine hQ [] Tryz.func38 ?_;refine⟨rfl,_,_,fun N=>qC rfl Tryz.underlying73 rfl N,rfl,?_⟩;exact ak O ⟨eM aw3,fun h=>⟨⟨(p7 L aQ,⟨z,R,L,aQ,db,ds,es,M,lb,Q,eL,.no,bI⟩),rfl,.inr ⟨U,rfl⟩⟩,_,_,_,bq,rfl,rfl,az,rfl⟩,fun h=>absurd h az6⟩
def Xw (w:bT) (s:dA) (e:Int) (w':bT):Prop:=e=vl w.L w.aQ s.fx/\((e=0/\ ∃b,w'={w with b:=b,bD:=.pl w.aQ s.fx false})\/(e≠0/\w'=w))
theorem aog (w:bT) (aq:dP w) (s:dA) (V:w.bD= .no):cA Tryz.prog 39 [ah 1401,ig s] (cO w) [] (X:=nj (Xw w s)) (fun p=>ac p.1.1) (fun p=>cO p.1.2):=by
 have f0:=aq.cs;obtain⟨z,R,L,aQ,db,ds,es,M,lb,Q,eL,bD,bI⟩:=w;simp only at V f0;subst V
 by_cases U:vl L aQ s.fx=0
 .have O:=Fn.y7 (aI:=[]) (aN:=vJ aQ s.fx false) (aiK f0 aQ s.fx U) rfl rfl;refine hQ [6] Tryz.func39 ?_;refine⟨rfl,_,_,fun N=>qC rfl Tryz.underlying73 rfl N,rfl,?_⟩;refine ak O ⟨eM aw3,cX <| bk.eH (c5.mark 2001 2009 rfl aw1) fun b=>bk.le (ab.Gn 5 2001 2009 b rfl rfl) <| br [] (ab.Iv 1501 2001 1001 2009 b (vJ aQ s.fx false) rfl rfl az rfl) ⟨_,_,fun N=>Gp rfl Tryz.underlying136 rfl N,rfl,?_⟩⟩;exact ak (Iz (z:=z) (R:=R) (L:=L) (aQ:=aQ) (db:=db) (lb:=lb) (kd:=0) (fw:=.nilIface) (c7:=none) (pu:=none) (m:=bI) (es:=es) (M:=M) 2 136 (.pointer (some ⟨b,0,none⟩))) ⟨⟨(0,⟨z,R,L,aQ,db,ds,es,M,lb,Q,b,.pl aQ s.fx false,bI⟩),U.symm,.inl ⟨rfl,b,rfl⟩⟩,_,_,_,bq,rfl,rfl,az,rfl⟩
 .have O:=Fn.ch (aiI f0 aQ s.fx U);refine hQ [] Tryz.func39 ?_;refine⟨rfl,_,_,fun N=>qC rfl Tryz.underlying73 rfl N,rfl,?_⟩;exact ak O ⟨eM aw3,fun h=>⟨⟨(vl L aQ s.fx,⟨z,R,L,aQ,db,ds,es,M,lb,Q,eL,.no,bI⟩),rfl,.inr ⟨U,rfl⟩⟩,_,_,_,bq,rfl,rfl,az,rfl⟩,fun h=>absurd h az6⟩
end
section
def tm (l:List bf) (nm:aA0):Int:=if g4 nm=false then 1 else if(c1 l nm).isSome=true\/8<=l.length then 111 else 0
def Ep (l:List bf) (nm:aA0) (on us:Bool) (s g:Int) (es:List (aa ai×aa ai)) (l':List bf):Prop:=dO l'/\((tm l nm=0/\g4 nm=true/\c1 l nm=none/\l.length < 8/\ ∃a b,l'=l++[⟨nm,a,b,on,us,s,g,es⟩])\/(tm l nm≠0/\l'=l))
theorem Xx {l:List bf} (h:dO l) (db:Nat) (nm:aA0) (hn:nm.length<=4294967296) (s g:Int) (es:List (aa ai×aa ai)) (bz:(0<=s/\s<=4096)/\(1<=g/\g<=64)/\fb es):
  Fn Tryz.prog 70 [c8 db,bQ nm,ah 2001] ((1101,.aF (.bw [(db,ni l)]))::iF 2001 2002 s g es) [] (ac (tm l nm)) ((1101,.aF (.jh fun p:{l':List bf//Ep l nm true true s g es l'}=>.bw [(db,ni p.1)]))::iF 2001 2002 s g es):=by
 refine cA.jh (cA.lW [1002,1003,1004] 1101 (?_:cA Tryz.prog 70 [ah 1001,bQ nm,ah 2001] (eC l++iF 2001 2002 s g es) [] (fun _=>ac (tm l nm)) (fun p:{l':List bf//Ep l nm true true s g es l'}=>eC p.1++iF 2001 2002 s g es)) rfl (fun _=>rfl) rfl ⟨rfl,rfl⟩ rfl (fun _=>rfl))
 cases aC:g4 nm with
 |false=>
  have e:tm l nm=1:=if_pos aC;exact(aj1 nm hn aC s g es).x.to (fun _=>⟨l,h,.inr ⟨by rw[e];decide,rfl⟩⟩) (fun _=>by rw[e]) fun _=>rfl
 |true=>
  by_cases av:(c1 l nm).isSome=true\/8<=l.length
  .have e:tm l nm=111:=(if_neg (by rw[aC];decide)).trans (if_pos av);exact(aj2 nm hn aC av s g es).x.to (fun _=>⟨l,h,.inr ⟨by rw[e];decide,rfl⟩⟩) (fun _=>by rw[e]) fun _=>rfl
  .have e:tm l nm=0:=(if_neg (by rw[aC];decide)).trans (if_neg av)
   have E:c1 l nm=none:=by
    cases Z:c1 l nm with
    |none=>rfl
    |some x=>exact absurd (.inl (by rw[Z];rfl)) av
   have G:l.length < 8:=by
    have: ¬8<=l.length:=fun bj=>av (.inr bj)
    omega
   exact(UP h nm hn aC E G s g es bz).to (fun p=>⟨_,p.2,.inl ⟨e,aC,E,G,_,_,rfl⟩⟩) (fun _=>by rw[e]) fun _=>rfl
theorem ON {z R:Nat} {L:List aM} (h:cr z R L) {aQ:aA0} {d:aM} (H:dk L aQ=some d):cl L aQ*2 ^z<=2048:=by
 have an7:=(h.gf d (cU H).1).1.eN;have ax:cl L aQ=d.im.t.length:=ay5
 have gJ:2 ^z<=2 ^3:=Nat.pow_le_pow_right aw1 h.b3;have aw:cl L aQ*2 ^z<=256*8:=Nat.mul_le_mul aw0 gJ;omega
def IF (w:bT) (s:dA):Int:=if ow ((eJ w*2 ^w.z:Nat):Int) s.a=true then tm w.ds s.nm else 1
abbrev OO (w:bT) (s:dA):bg:=.jh fun p:{l':List bf//(ow ((eJ w*2 ^w.z:Nat):Int) s.a=true/\Ep w.ds s.nm true true ((eJ w*2 ^w.z:Nat):Int) s.a [] l')\/(ow ((eJ w*2 ^w.z:Nat):Int) s.a=false/\l'=w.ds)}=>.bw [(w.db,ni p.1)]
abbrev aoh (w:bT):ay:=[oK w.z w.R w.L,qh w.es w.M,Xf w,Xc w,Xd w,Xe w]
theorem aoi (w:bT) (aq:dP w) (s:dA) (hn:s.nm.length<=1000000):Fn Tryz.prog 37 [ah 1401,ig s] (cO w) [] (ac (IF w s)) ((1101,.aF (OO w s))::aoh w):=by
 obtain⟨d,H,aR⟩:=aq.dk;have aw:eJ w*2 ^w.z<=2048:=ON aq.cs H;have cu:=OH (db:=w.db) (lb:=w.lb) (kd:=rb w.bD) (fw:=ra w.b w.bD) (c7:=xc w.b w.bD) (pu:=xd w.b w.bD) (m:=w.bI) (es:=w.es) (M:=w.M) aq.cs H;rw[aR] at cu;have yv:=aq.cs.b3;have kn:((eJ w:Nat):Int)*((2 ^((w.z:Nat):Int).toNat:Nat):Int)=((eJ w*2 ^w.z:Nat):Int):=az0
 cases Z:ow ((eJ w*2 ^w.z:Nat):Int) s.a with
 |false=>
  have U:IF w s=1:=if_neg (by rw[Z];decide);have mi:=ah3 (((eJ w:Nat):Int)*((2 ^((w.z:Nat):Int).toNat:Nat):Int)) s.a (by rw[kn];exact Z);refine aT [1] Tryz.func37 ?_;refine⟨rfl,bk.m4 68 aw1 <| br [] (bq) <| wt rfl rfl rfl cu ?_⟩;exact⟨⟨aw0,aw0,aw0⟩,⟨by rw[kn];omega,by rw[kn];omega⟩,ak mi ⟨eM aw3,d7 ⟨_,_,_,ab.aF 1101 (o':=OO w s) rfl fun I F x p h=>⟨⟨w.ds,.inr ⟨Z,rfl⟩⟩,h⟩,rfl,U.symm,az,rfl⟩⟩⟩
 |true=>
  have U:IF w s=tm w.ds s.nm:=if_pos Z;have mi:=MH (((eJ w:Nat):Int)*((2 ^((w.z:Nat):Int).toNat:Nat):Int)) s.a (by rw[kn];exact Z);obtain⟨ce,cR⟩:=Hk Z;have y8:=Xx aq.ds w.db s.nm aw0 ((eJ w*2 ^w.z:Nat):Int) s.a [] ⟨ce,cR,List.Pairwise.nil⟩;rw[<-U,<-kn] at y8;refine aT [1] Tryz.func37 ?_;refine⟨rfl,bk.m4 68 aw1 <| br [] (bq) <| wt rfl rfl rfl cu ?_⟩;refine⟨⟨aw0,aw0,aw0⟩,⟨by rw[kn];omega,by rw[kn];omega⟩,ak mi ⟨eM aw3,cX <| ak y8 ⟨eM aw3,?_⟩⟩⟩
  exact⟨_,_,_,ab.aF 1101 (o':=OO w s) rfl fun I F x p h=>(by
   obtain⟨g,h⟩:=h;exact⟨⟨g.1,.inl ⟨Z,by rw[<-kn];exact g.2⟩⟩,h⟩),rfl,rfl,az,rfl⟩
end
section
theorem OP {Q:List bR} (h:lE Q):(iu Q).length<=100000000:=by
 have E:=yN kk 35000 Q fun b O=>VD (D1 h O)
 have G:=h.len;unfold iu;rw[aq5,qW];omega
theorem Bu {Q:List bR} (h:lE Q) (lb:Nat):Fn Tryz.prog 21 [c8 lb] [(1301,.aF (.bw [(lb,se Q)]))] [] (bv .u8 (iu Q)) [(1301,.aF (.bw [(lb,se Q)]))]:=
 Fn.lW [1002] 1301 (VF Q (by have:=h.len;omega) fun b O=>D1 h O)
theorem OQ {Q:List bR} (h:nR Q):Fn Tryz.prog 84 [bv .u8 (iu Q)] [] [3001,3002] (.cb [.one (.ptr 3001 0),dp 0]) (lG 3001 3002 Q):=by
 have H:=VT (iu Q) (OP h.tolE) (some (Q.map uh)) (W0 h.Bt (fun b O=>D1 h.tolE O) h.len);simp only[Oo] at H;exact Fn.aV [(1001,3001),(1002,3002)] H
theorem aoj (n:Int) (Iu:2<=n) (hn:pz n=true) (aC:n<=4096) {Q:List bR} (h:lE Q) {es:fT} {M:dV} {Er:List bR} (hf:mJ es M Er):
  Fn Tryz.prog 143 [ah 3001,ah 1201,ac n] (qh es M::lG 3001 3002 Q) [] (ac (xa n Q)) ((1201,.aF (.jh fun b:{b:Nat//b∉M.map (·.1)}=>y6 (vH n es Q b.1) ((b.1,ui n 4096 Q b.1)::M)))::lG 3001 3002 Q):=by
 obtain⟨E,G,al⟩:=hf.an5;have J:=cA.aV [(1001,1201),(1002,1202),(1003,1203)] (anA 4096 n Iu hn aC es (M:=M) E G al (Q:=Q) (by have:=h.len;omega) fun b O=>D1 h O);exact cA.jh (cA.close (c:=1201) (bp:=nN 1201 1202 1203 4096 es M) (o':=fun b:{b:Nat//b∉M.map (·.1)}=>y6 (vH n es Q b.1) ((b.1,ui n 4096 Q b.1)::M)) [1202,1203] J (fun _ _ _ _ h=>h) (fun _ _ _ _ _ h=>h) rfl fun _=>rfl)
def oM (Q:List bR):Int:=xa 512 Q
def oN (es:fT) (Q:List bR) (b:Nat):fT:=vH 512 es Q b
def oO (Q:List bR) (b:Nat):bX:=ui 512 4096 Q b
theorem OR {Q:List bR} (h:lE Q) {es:fT} {M:dV} {Er:List bR} (hf:mJ es M Er):Fn Tryz.prog 143 [ah 3001,ah 1201,ac 512] (qh es M::lG 3001 3002 Q) [] (ac (oM Q)) ((1201,.aF (.jh fun b:{b:Nat//b∉M.map (·.1)}=>y6 (oN es Q b.1) ((b.1,oO Q b.1)::M)))::lG 3001 3002 Q):=aoj 512 aw1 rfl aw1 h hf
def vK (w:bT) (Q:List bR) (e:Int) (w':bT):Prop:=e=oM Q/\ ∃b,b∉w.M.map (·.1)/\((oM Q=0/\ ∃lb,w'={w with es:=oN w.es Q b,M:=(b,oO Q b)::w.M,lb:=lb,Q:=Q})\/(oM Q≠0/\w'={w with es:=oN w.es Q b,M:=(b,oO Q b)::w.M}))
theorem Xy (w:bT) {Q:List bR} {F:Nat->fT} {S:Nat->bX}
  (J:Fn Tryz.prog 143 [ah 3001,ah 1201,ac 512] (qh w.es w.M::lG 3001 3002 Q) [] (ac 0) ((1201,.aF (.jh fun b:{b:Nat//b∉w.M.map (·.1)}=>y6 (F b.1) ((b.1,S b.1)::w.M)))::lG 3001 3002 Q)):
  cA Tryz.prog 86 [ah 1401,ah 3001] (cO w++lG 3001 3002 Q) [] (X:={b:Nat//b∉w.M.map (·.1)}×Nat) (fun _=>ac 0) (fun p=>cO {w with es:=F p.1.1,M:=(p.1.1,S p.1.1)::w.M,lb:=p.2,Q:=Q}):=by
 refine hQ [2,3] Tryz.func86 ?_;exact ak J <| bk.eH (c5.jh 1201 rfl) fun b=>br [3] (bq) <| d7 <| bk.le (ab.close 3001 (lG 3001 3002 Q) (o:=se Q) az rfl fun I F x p h=>iO.aV [(3001,1001),(3002,1002)] h) <| bk.eH (c5.name 1 3001 rfl rfl) fun lb=>br [] (ab.trans (ab.put 1301 3001 aw1 rfl rfl) (ab.Eg 1301 rfl)) ⟨(b,lb),_,_,_,bq,rfl,rfl,az,rfl⟩
theorem Xz (w:bT) {Q:List bR} {e:Int} (U:e≠0) {F:Nat->fT} {S:Nat->bX}
  (J:Fn Tryz.prog 143 [ah 3001,ah 1201,ac 512] (qh w.es w.M::lG 3001 3002 Q) [] (ac e) ((1201,.aF (.jh fun b:{b:Nat//b∉w.M.map (·.1)}=>y6 (F b.1) ((b.1,S b.1)::w.M)))::lG 3001 3002 Q)):
  cA Tryz.prog 86 [ah 1401,ah 3001] (cO w++lG 3001 3002 Q) [] (X:={b:Nat//b∉w.M.map (·.1)}) (fun _=>ac e) (fun p=>cO {w with es:=F p.1,M:=(p.1,S p.1)::w.M}):=by
 refine hQ [2] Tryz.func86 ?_;exact ak J <| bk.eH (c5.jh 1201 rfl) fun b=>br [] (bq) ⟨fun h=>absurd (gd h) U,fun _=>⟨b,_,_,_,bq,rfl,rfl,az,rfl⟩⟩
theorem aok (w:bT) {Q Er:List bR} (h:lE Q) (hf:mJ w.es w.M Er):cA Tryz.prog 86 [ah 1401,ah 3001] (cO w++lG 3001 3002 Q) [] (X:=nj (vK w Q)) (fun p=>ac p.1.1) (fun p=>cO p.1.2):=by
 by_cases U:oM Q=0
 .have J:=OR h hf;rw[U] at J;exact(Xy w (F:=oN w.es Q) (S:=oO Q) J).to (fun p=>⟨(0,{w with es:=oN w.es Q p.1.1,M:=(p.1.1,oO Q p.1.1)::w.M,lb:=p.2,Q:=Q}),U.symm,p.1.1,p.1.2,.inl ⟨U,p.2,rfl⟩⟩) (fun _=>rfl) fun _=>rfl
 .have gM: ∀p:{b:Nat//b∉w.M.map (·.1)},vK w Q (oM Q) {w with es:=oN w.es Q p.1,M:=(p.1,oO Q p.1)::w.M}:=fun p=>⟨Eq.refl _,p.1,p.2,.inr ⟨U,Eq.refl _⟩⟩
  have E:=Xz w U (F:=oN w.es Q) (S:=oO Q) (OR h hf);generalize oM Q=e at gM E;exact E.to (fun p=>⟨(e,{w with es:=oN w.es Q p.1,M:=(p.1,oO Q p.1)::w.M}),gM p⟩) (fun _=>rfl) fun _=>rfl
def XA (w:bT) (s:dA) (e:Int) (w':bT):Prop:=(r9 w.Q s.nm≠0/\e=r9 w.Q s.nm/\w'=w)\/(r9 w.Q s.nm=0/\vK w (qb w.Q s.nm) e w')
theorem aol (w:bT) (aq:dP w) (s:dA):cA Tryz.prog 44 [ah 1401,ig s] (cO w) [] (X:=nj (XA w s)) (fun p=>ac p.1.1) (fun p=>cO p.1.2):=by
 have U:=Bu aq.q.tolE w.lb;have H:=OQ aq.q;have aC:=ak5 w.Q s.nm (by have:=aq.q.len;omega);have J:=aok w (Nx aq.q.tolE s.nm) aq.nS;refine hQ [5] Tryz.func44 ?_;refine⟨rfl,ak U <| ak H <| ak (Fn.aV [(1001,3001),(1002,3002),(1003,3003)] aC) ?_⟩
 by_cases av:r9 w.Q s.nm=0
 .exact⟨fun h=>absurd h (by simp[av]),fun _=>bk.gz ee aw3 <| hp (cA.aV [(3002,3003)] J) fun g=>⟨⟨g.1,.inr ⟨av,g.2⟩⟩,_,_,_,bq,rfl,rfl,az,rfl⟩⟩
 .exact⟨fun h=>⟨⟨(_,w),.inl ⟨av,rfl,rfl⟩⟩,_,_,_,bq,rfl,rfl,az,rfl⟩,fun h=>absurd h (by simp[av])⟩
end
section
theorem IG {l:List bf} (h:dO l) (db:Nat) {nm:aA0} {e:bf} (U:c1 l nm=some e):Fn Tryz.prog 24 [c8 db,bQ nm] [(1101,.aF (.bw [(db,ni l)]))] [5001,5002] (.cb [.agg (jC e.nm e.on e.us),dp 0]) ((1101,.aF (.bw [(db,ni l)]))::iF 5001 5002 e.s e.g e.es):=
 (cA.lW (X:=Unit) (bp:=eC l) (aI:=[]) (dz:=fun _=>eC l) (aN:=fun _=>iF 5001 5002 e.s e.g e.es) (res:=fun _=>.cb [.agg (jC e.nm e.on e.us),dp 0]) [1002,1003,1004] 1101 (by rw[au0];exact(aki h U).x) rfl (fun _=>rfl) rfl ⟨rfl,rfl⟩ rfl fun _=>rfl).fn
theorem XB {l:List bf} (db:Nat) {nm:aA0} (U:c1 l nm=none):Fn Tryz.prog 24 [c8 db,bQ nm] [(1101,.aF (.bw [(db,ni l)]))] [] (.cb [.agg [.d (.str []),.d (.lit false),.d (.lit false),.bM (.pointer none)],dp 112]) [(1101,.aF (.bw [(db,ni l)]))]:=
 Fn.lW [1002,1003,1004] 1101 (akj U)
theorem IH {Q:List bR} (h:lE Q) (lb:Nat):Fn Tryz.prog 20 [c8 lb] [(1301,.aF (.bw [(lb,se Q)]))] [] (bQ (qT Q)) [(1301,.aF (.bw [(lb,se Q)]))]:=
 Fn.lW [1002] 1301 (akp Q (by have:=h.len;omega))
theorem aom {Q:List bR} (h:lE Q) (lb:Nat):Fn Tryz.prog 16 [c8 lb] [(1301,.aF (.bw [(lb,se Q)]))] [] (bv .str (Q.map d4)) [(1301,.aF (.bw [(lb,se Q)]))]:=
 Fn.lW [1002] 1301 (akO Q (by have:=h.len;omega))
theorem dP.aon {w:bT} (h:dP w):c1 w.ds []=none:=by
 cases Z:c1 w.ds [] with
 |none=>rfl
 |some e=>
  obtain⟨E,G⟩:=jR Z;have al:=(h.eg e E).1.nm;rw[G] at al
  cases al
theorem aoo (w:bT) (aq:dP w) (s:dA) (av:s.fx=[]):Fn Tryz.prog 75 [ah 1401,ig s] (cO w) [] (.cb [mZ,dp 0]) (cO w):=by
 have aY:=XB w.db aq.aon;rw[<-av] at aY;refine aT [] Tryz.func75 ?_;exact⟨rfl,ak aY ⟨rfl,eM aw3,fun _=>bc,fun h=>absurd h (by simp[av])⟩⟩
theorem aop (w:bT) (aq:dP w) (s:dA) (av:s.fx≠[]) (Z:c1 w.ds s.fx=none):Fn Tryz.prog 75 [ah 1401,ig s] (cO w) [] (.cb [mZ,dp 112]) (cO w):=by
 have aY:=XB w.db Z;refine aT [] Tryz.func75 ?_;exact⟨rfl,ak aY ⟨rfl,eM aw3,fun h=>absurd h (by simp[av]),fun _=>d7 bc⟩⟩
def rf (w:bT) (e:bf):Int:=if e.us=false then 110 else if qT w.Q=[] then 181 else 0
theorem aoq (w:bT) (aq:dP w) (s:dA) (av:s.fx≠[]) {e:bf} (Z:c1 w.ds s.fx=some e) (aZ:rf w e≠0):Fn Tryz.prog 75 [ah 1401,ig s] (cO w) [] (.cb [mZ,dp (rf w e)]) (cO w):=by
 have aY:=IG aq.ds w.db Z;have ap:=IH aq.q.tolE w.lb
 cases a8:e.us with
 |false=>
  have U:rf w e=110:=if_pos a8;rw[U];refine aT [] Tryz.func75 ?_;exact⟨rfl,ak aY ⟨rfl,eM aw3,fun h=>absurd h (by simp[av]),fun _=>cX ⟨fun _=>bc,fun h=>absurd h (by simp[a8])⟩⟩⟩
 |true=>
  have U:rf w e=181:=by
   unfold rf at aZ⊢;rw[if_neg (by rw[a8];decide)] at aZ⊢
   split
   .rfl
   .rename_i h;rw[if_neg h] at aZ;exact absurd rfl aZ
  have aP:qT w.Q=[]:=by
   unfold rf at U;rw[if_neg (by rw[a8];decide)] at U
   split at U
   .assumption
   .cases U
  rw[U];refine aT [] Tryz.func75 ?_;exact⟨rfl,ak aY ⟨rfl,eM aw3,fun h=>absurd h (by simp[av]),fun _=>cX ⟨fun h=>absurd h (by simp[a8]),fun _=>ak ap ⟨fun _=>bc,fun h=>absurd h (by simp[aP])⟩⟩⟩⟩
theorem aor (w:bT) (aq:dP w) (s:dA) (av:s.fx≠[]) {e:bf} (Z:c1 w.ds s.fx=some e) (aZ:rf w e=0):Fn Tryz.prog 75 [ah 1401,ig s] (cO w) [5001,5002] (.cb [.one (.ptr 5001 0),dp 0]) (cO w++iF 5001 5002 e.s e.g e.es):=by
 have aY:=IG aq.ds w.db Z;have ap:=IH aq.q.tolE w.lb
 have a8:e.us=true:=by
  unfold rf at aZ
  cases a8:e.us with
  |true=>rfl
  |false=>rw[if_pos a8] at aZ;cases aZ
 have aP:qT w.Q≠[]:=fun aP=>by
  unfold rf at aZ;rw[if_neg (by rw[a8];decide),if_pos aP] at aZ
  cases aZ
 refine aT [] Tryz.func75 ?_;exact⟨rfl,ak aY ⟨rfl,eM aw3,fun h=>absurd h (by simp[av]),fun _=>cX ⟨fun h=>absurd h (by simp[a8]),fun _=>ak ap ⟨fun h=>absurd h (by simp[aP]),fun _=>bc⟩⟩⟩⟩
theorem ab.pC {ids:aA1} {K:aX} {B:ay} (c j d m b:Nat) {l:List bC} (J:aj B c=some (.cells l)) (V:l[j]? =some (.ptr d 0)) (aw:aj B m=some (.cg d (fg b))):ab ids K B K ((c,.cells (l.set j (.d (.aL (some b)))))::B):=by
 rintro N C a w ⟨hn,H,ρ,F,ar,au⟩;have O:=pV (N:=N) (a:=a) ar aw
 obtain⟨bP,aZ⟩:=ar.h0 (w':=w) (ch:=.cells (l.set j (.d (.aL (some b))))) J (cP.refl _ _) fun I a2=>by
  obtain⟨E,aE,T,G,al⟩:=ar.holds c _ J;refine⟨E,aE,T,G,cc.set (s:=.ptr d 0) (t:=.d (.aL (some b))) (fun v h=>?_) V (cc.mono a2 _ _ (fun _ _=>rfl) al)⟩;have h:v= .pointer (some ⟨(ρ d).bh,0,none⟩):=h;rw[O] at h;exact h
 exact⟨hn,H,ρ,F,bP,au.mono aZ fun _ _ _=>rfl⟩
theorem ab.pD {ids:aA1} {K:aX} {B:ay} (c m b:Nat) {o:bg} (J:aj B c=some (.aF o)) (aw:aj B m=some (.cg c (fg b))):ab ids K B K ((c,.aF (o.at b))::B):=by
 rintro N C a w ⟨hn,H,ρ,F,ar,au⟩;have O:=pV (N:=N) (a:=a) ar aw;obtain⟨bP,aZ⟩:=ar.h0 (w':=w) (ch:=.aF (o.at b)) J (cP.refl _ _) fun I a2=>⟨O,o.ck _ _ _ _ _ _ (ar.holds c _ J) a2 (fun _ _=>rfl) (aq4 _)⟩
 exact⟨hn,H,ρ,F,bP,au.mono aZ fun _ _ _=>rfl⟩
abbrev uk (nm pa:aA0) (bi aS:Int) (fx:aA0) (ew:Option (Nat×Ej)):Made:=⟨(nm,pa,bi,aS,([]:List je)),fx,ew⟩
def sg (w:bT) (s:dA):Bool:= !g4 s.nm||(w.Q.map d4).contains s.nm
def OS (w:bT) (s:dA) (e:Int) (w':bT):Prop:=
 (sg w s=true/\e=1/\w'=w)\/(sg w s=false/\
  (
   (s.fx=[]/\((s.l < 0/\e=1/\w'=w)\/(0<=s.l/\e=0/\ ∃b,w'={w with b:=b,bD:=.pu w.aQ ((eJ w:Nat):Int) s.l (he (fun _=>true) w.z (eJ w*2 ^w.z)) [] false false,bI:=uk s.nm [] w.z ((eJ w:Nat):Int) s.fx none})))\/
   (s.fx≠[]/\c1 w.ds s.fx=none/\e=112/\w'=w)\/
   (s.fx≠[]/\ ∃x,c1 w.ds s.fx=some x/\((rf w x≠0/\e=rf w x/\w'=w)\/(rf w x=0/\((s.l < 0/\e=1/\w'=w)\/(0<=s.l/\e=0/\ ∃b kP,w'={w with b:=b,bD:=.pu w.aQ ((eJ w:Nat):Int) s.l (he (m' x.g x.es) w.z (eJ w*2 ^w.z)) [] false false,bI:=uk s.nm (qT w.Q) w.z ((eJ w:Nat):Int) s.fx (some (kP,((eJ w*2 ^w.z:Nat):Int),1,[]))})))))))
theorem aos {s:Int} (av:0<=s) (E:s<=4096):ow s 1=true:=by
 unfold ow;simp[av,E]
theorem aot (w:bT) (aq:dP w) (s:dA) (V:w.bD= .no) (hn:s.nm.length<=1000000):cA Tryz.prog 40 [ah 1401,ig s] (cO w) [] (X:=nj (OS w s)) (fun p=>ac p.1.1) (fun p=>cO p.1.2):=by
 obtain⟨d,H,aR⟩:=aq.dk;have f0:=aq.cs;have ap:=aom aq.q.tolE w.lb;have DM:=IH aq.q.tolE w.lb;have aC:=qN s.nm aw0;have y9:=L3 (w.Q.map d4) s.nm (by rw[ar7];have:=aq.q.len;omega);have aou:=fun av=>aoo w aq s av
 have Lb:=fun av Z=>aop w aq s av Z
 have Ia:=fun av e (Z:c1 w.ds s.fx=some e) aZ=>aoq w aq s av Z aZ
 have aov:=fun av e (Z:c1 w.ds s.fx=some e) aZ=>aor w aq s av Z aZ
 have cu:=fun(fw:Value) (c7 pu:Option Nat)=>OH (db:=w.db) (lb:=w.lb) (kd:=0) (fw:=fw) (c7:=c7) (pu:=pu) (m:=w.bI) (es:=w.es) (M:=w.M) aq.cs H
 have pr:=fun e (Z:c1 w.ds s.fx=some e)=>aq.eg e (jR Z).1
 have aw:eJ w*2 ^w.z<=2048:=ON aq.cs H;have aow:cl w.L w.aQ=eJ w:=rfl;rw[aR] at cu;rw[aow] at pr
 cases ke:g4 s.nm with
 |false=>
  have yP:sg w s=true:=by unfold sg;rw[ke];rfl
  obtain⟨z,R,L,aQ,db,ds,es,M,lb,Q,eL,bD,bI⟩:=w;simp only at V;subst V;refine hQ [] Tryz.func40 ?_;refine⟨rfl,_,_,fun N=>qC rfl Tryz.underlying73 rfl N,rfl,?_⟩;exact ak aC ⟨fun _=>⟨eM aw3,⟨(1,_),.inl ⟨yP,rfl,rfl⟩⟩,_,_,_,bq,rfl,rfl,az,rfl⟩,fun h=>absurd h (by simp[ke])⟩
 |true=>
 cases hC:(w.Q.map d4).contains s.nm with
 |true=>
  have yP:sg w s=true:=by unfold sg;rw[ke,hC];rfl
  obtain⟨z,R,L,aQ,db,ds,es,M,lb,Q,eL,bD,bI⟩:=w;simp only at V;subst V;refine hQ [] Tryz.func40 ?_;refine⟨rfl,_,_,fun N=>qC rfl Tryz.underlying73 rfl N,rfl,?_⟩;exact ak aC ⟨fun h=>absurd h (by simp[ke]),fun _=>ak ap <| ak y9 ⟨eM aw3,fun _=>⟨⟨(1,_),.inl ⟨yP,rfl,rfl⟩⟩,_,_,_,bq,rfl,rfl,az,rfl⟩,fun h=>absurd (hC.symm.trans h) aw1⟩⟩
 |false=>
 have Bv:sg w s=false:=by unfold sg;rw[ke,hC];rfl
 by_cases av:s.fx=[]
 .have cp:=aou av
  by_cases tn:s.l < 0
  .have O:=Fn.ch (aik f0 H s.l tn);obtain⟨z,R,L,aQ,db,ds,es,M,lb,Q,eL,bD,bI⟩:=w;simp only at V;subst V;refine hQ [] Tryz.func40 ?_;refine⟨rfl,_,_,fun N=>qC rfl Tryz.underlying73 rfl N,rfl,?_⟩;exact ak aC ⟨fun h=>absurd h (by simp[ke]),fun _=>ak ap <| ak y9 ⟨eM aw3,fun h=>absurd (hC.symm.trans h) aw1,fun _=>ak cp <| cX <| ak O ⟨eM aw3,d7 ⟨⟨(1,_),.inr ⟨Bv,.inl ⟨av,.inl ⟨tn,rfl,rfl⟩⟩⟩⟩,_,_,_,bq,rfl,rfl,az,rfl⟩⟩⟩⟩
  .have tn:0<=s.l:=aw8
   have O:=Fn.y7 (aI:=[]) (aN:=nQ w.z w.aQ (d.im.t.length:Nat) s.l (he (fun _=>true) w.z (d.im.t.length*2 ^w.z)) [] false false) (aim f0 H s.l tn) rfl rfl;rw[aR] at O;obtain⟨z,R,L,aQ,db,ds,es,M,lb,Q,eL,bD,bI⟩:=w;simp only at V;subst V;refine hQ [11,12,15] Tryz.func40 ?_;refine⟨rfl,_,_,fun N=>qC rfl Tryz.underlying73 rfl N,rfl,?_⟩;refine ak aC ⟨fun h=>absurd h (by simp[ke]),fun _=>ak ap <| ak y9 ⟨eM aw3,fun h=>absurd (hC.symm.trans h) aw1,fun _=>ak cp <| cX <| ak O ⟨eM aw3,cX <| bk.m4 68 aw1 <| br [12,15] (bq) <| wt rfl rfl rfl (cu .nilIface none none) ⟨eM aw3,br [15] (ab.trans (ab.nh 1401 16 rfl rfl) (ab.trans (ab.s0 1401 (l':=Ix z aQ db lb 0 .nilIface none none (uk s.nm [] z ((eJ ⟨z,R,L,aQ,db,ds,es,M,lb,Q,eL,.no,bI⟩:Nat):Int) s.fx none)) rfl az) (ab.Xa 1601 rfl))) <| bk.eH (c5.mark 2001 2009 rfl aw1) fun b=>bk.le (ab.Gn 7 2001 2009 b rfl rfl) <| br [] (ab.Iv 1501 2001 1001 2009 b (nQ z aQ ((eJ ⟨z,R,L,aQ,db,ds,es,M,lb,Q,eL,.no,bI⟩:Nat):Int) s.l (he (fun _=>true) z (eJ ⟨z,R,L,aQ,db,ds,es,M,lb,Q,eL,.no,bI⟩*2 ^z)) [] false false) rfl rfl az rfl) ⟨_,_,fun N=>Gp rfl Tryz.underlying75 rfl N,rfl,?_⟩⟩⟩⟩⟩;exact ak (Iz (z:=z) (R:=R) (L:=L) (aQ:=aQ) (db:=db) (lb:=lb) (kd:=0) (fw:=.nilIface) (c7:=none) (pu:=some b) (m:=(uk s.nm [] z ((eJ ⟨z,R,L,aQ,db,ds,es,M,lb,Q,eL,.no,bI⟩:Nat):Int) s.fx none)) (es:=es) (M:=M) 3 75 (.pointer (some ⟨b,0,none⟩))) ⟨⟨(0,⟨z,R,L,aQ,db,ds,es,M,lb,Q,b,.pu aQ ((eJ ⟨z,R,L,aQ,db,ds,es,M,lb,Q,eL,.no,bI⟩:Nat):Int) s.l (he (fun _=>true) z (eJ ⟨z,R,L,aQ,db,ds,es,M,lb,Q,eL,.no,bI⟩*2 ^z)) [] false false,(uk s.nm [] z ((eJ ⟨z,R,L,aQ,db,ds,es,M,lb,Q,eL,.no,bI⟩:Nat):Int) s.fx none)⟩),.inr ⟨Bv,.inl ⟨av,.inr ⟨tn,rfl,b,rfl⟩⟩⟩⟩,_,_,_,bq,rfl,rfl,az,rfl⟩
 .cases Z:c1 w.ds s.fx with
  |none=>
   have cp:=Lb av Z;obtain⟨z,R,L,aQ,db,ds,es,M,lb,Q,eL,bD,bI⟩:=w;simp only at V;subst V;refine hQ [] Tryz.func40 ?_;refine⟨rfl,_,_,fun N=>qC rfl Tryz.underlying73 rfl N,rfl,?_⟩;exact ak aC ⟨fun h=>absurd h (by simp[ke]),fun _=>ak ap <| ak y9 ⟨eM aw3,fun h=>absurd (hC.symm.trans h) aw1,fun _=>ak cp <| d7 ⟨⟨(112,_),.inr ⟨Bv,.inr (.inl ⟨av,Z,rfl,rfl⟩)⟩⟩,_,_,_,bq,rfl,rfl,az,rfl⟩⟩⟩
  |some x=>
   by_cases aZ:rf w x=0
   .have cp:=aov av x Z aZ;obtain⟨hx,sD⟩:=pr x Z;obtain⟨g1,g2⟩:=Hk hx.ok
    by_cases tn:s.l < 0
    .have O:=Fn.y7 (aI:=yA x.s x.g x.es) (aN:=yA x.s x.g x.es) (aio f0 H s.l tn x.s x.g x.es) rfl rfl;obtain⟨z,R,L,aQ,db,ds,es,M,lb,Q,eL,bD,bI⟩:=w;simp only at V;subst V;refine hQ [] Tryz.func40 ?_;refine⟨rfl,_,_,fun N=>qC rfl Tryz.underlying73 rfl N,rfl,?_⟩;exact ak aC ⟨fun h=>absurd h (by simp[ke]),fun _=>ak ap <| ak y9 ⟨eM aw3,fun h=>absurd (hC.symm.trans h) aw1,fun _=>ak cp <| cX <| ak O ⟨eM aw3,d7 ⟨⟨(1,_),.inr ⟨Bv,.inr (.inr ⟨av,x,Z,.inr ⟨aZ,.inl ⟨tn,rfl,rfl⟩⟩⟩)⟩⟩,_,_,_,bq,rfl,rfl,az,rfl⟩⟩⟩⟩
    .have tn:0<=s.l:=aw8
     have O:=Fn.y7 (aI:=yA ((d.im.t.length*2 ^w.z:Nat):Int) x.g x.es) (aN:=nQ w.z w.aQ (d.im.t.length:Nat) s.l (he (m' x.g x.es) w.z (d.im.t.length*2 ^w.z)) [] false false++yA ((d.im.t.length*2 ^w.z:Nat):Int) x.g x.es) (aiq f0 H s.l tn x.g x.es g2.1) rfl rfl;rw[aR] at O;rw[sD] at cp;have Ec:=MI ((eJ w*2 ^w.z:Nat):Int) x.g x.es;have aox:=MH ((eJ w*2 ^w.z:Nat):Int) 1 (aos aw0 aw0);obtain⟨z,R,L,aQ,db,ds,es,M,lb,Q,eL,bD,bI⟩:=w;simp only at V;subst V;refine hQ [11,12,15] Tryz.func40 ?_;refine⟨rfl,_,_,fun N=>qC rfl Tryz.underlying73 rfl N,rfl,?_⟩;refine ak aC ⟨fun h=>absurd h (by simp[ke]),fun _=>ak ap <| ak y9 ⟨eM aw3,fun h=>absurd (hC.symm.trans h) aw1,fun _=>ak cp <| cX <| ak O ⟨eM aw3,cX <| bk.m4 68 aw1 <| br [12,15] (bq) <| wt rfl rfl rfl (cu .nilIface none none) ⟨eM aw3,br [15] (ab.trans (ab.s0 1401 (l':=(Ix z aQ db lb 0 .nilIface none none (uk s.nm [] z ((eJ ⟨z,R,L,aQ,db,ds,es,M,lb,Q,eL,.no,bI⟩:Nat):Int) s.fx none)).set 16 (.bM (.pointer none))) rfl az) (ab.Xa 1601 rfl)) <| ak DM <| ak (Fn.aV [(1001,5001),(1002,5002)] Ec) <| ak (Fn.aV [(2001,6001),(2002,6002)] aox) <| bk.eH (c5.mark 6001 6009 rfl aw1) fun kP=>bk.eH (c5.mark 2001 2009 rfl aw1) fun b=>bk.le (ab.pC 1401 16 6001 6009 kP rfl rfl rfl) <| bk.le (ab.close 6001 (iF 6001 6002 ((eJ ⟨z,R,L,aQ,db,ds,es,M,lb,Q,eL,.no,bI⟩*2 ^z:Nat):Int) 1 []) (o:=fv ((eJ ⟨z,R,L,aQ,db,ds,es,M,lb,Q,eL,.no,bI⟩*2 ^z:Nat):Int) 1 []) az rfl fun I F x p h=>iO.aV [(6001,1001),(6002,1002)] h) <| bk.le (ab.trans (ab.pD 6001 6009 kP rfl rfl) (ab.put 1601 6001 aw1 rfl rfl)) <| bk.le (ab.Gn 7 2001 2009 b rfl rfl) <| br [] (ab.Iv 1501 2001 1001 2009 b (nQ z aQ ((eJ ⟨z,R,L,aQ,db,ds,es,M,lb,Q,eL,.no,bI⟩:Nat):Int) s.l (he (m' x.g x.es) z (eJ ⟨z,R,L,aQ,db,ds,es,M,lb,Q,eL,.no,bI⟩*2 ^z)) [] false false) rfl rfl az rfl) ⟨_,_,fun N=>Gp rfl Tryz.underlying75 rfl N,rfl,?_⟩⟩⟩⟩⟩;exact ak (Iz (z:=z) (R:=R) (L:=L) (aQ:=aQ) (db:=db) (lb:=lb) (kd:=0) (fw:=.nilIface) (c7:=none) (pu:=some b) (m:=(uk s.nm (qT Q) z ((eJ ⟨z,R,L,aQ,db,ds,es,M,lb,Q,eL,.no,bI⟩:Nat):Int) s.fx (some (kP,((eJ ⟨z,R,L,aQ,db,ds,es,M,lb,Q,eL,.no,bI⟩*2 ^z:Nat):Int),1,[])))) (es:=es) (M:=M) 3 75 (.pointer (some ⟨b,0,none⟩))) ⟨⟨(0,⟨z,R,L,aQ,db,ds,es,M,lb,Q,b,.pu aQ ((eJ ⟨z,R,L,aQ,db,ds,es,M,lb,Q,eL,.no,bI⟩:Nat):Int) s.l (he (m' x.g x.es) z (eJ ⟨z,R,L,aQ,db,ds,es,M,lb,Q,eL,.no,bI⟩*2 ^z)) [] false false,(uk s.nm (qT Q) z ((eJ ⟨z,R,L,aQ,db,ds,es,M,lb,Q,eL,.no,bI⟩:Nat):Int) s.fx (some (kP,((eJ ⟨z,R,L,aQ,db,ds,es,M,lb,Q,eL,.no,bI⟩*2 ^z:Nat):Int),1,[])))⟩),.inr ⟨Bv,.inr (.inr ⟨av,x,Z,.inr ⟨aZ,.inr ⟨tn,rfl,b,kP,rfl⟩⟩⟩)⟩⟩,_,_,_,bq,rfl,rfl,az,rfl⟩
   .have cp:=Ia av x Z aZ;obtain⟨z,R,L,aQ,db,ds,es,M,lb,Q,eL,bD,bI⟩:=w;simp only at V;subst V;refine hQ [] Tryz.func40 ?_;refine⟨rfl,_,_,fun N=>qC rfl Tryz.underlying73 rfl N,rfl,?_⟩;exact ak aC ⟨fun h=>absurd h (by simp[ke]),fun _=>ak ap <| ak y9 ⟨eM aw3,fun h=>absurd (hC.symm.trans h) aw1,fun _=>ak cp ⟨fun _=>⟨⟨(_,_),.inr ⟨Bv,.inr (.inr ⟨av,x,Z,.inl ⟨aZ,rfl,rfl⟩⟩)⟩⟩,_,_,_,bq,rfl,rfl,az,rfl⟩,fun h=>absurd h (by simp[aZ])⟩⟩⟩
end
section
theorem XC (A B:ay) (h:((cm A).all fun d=>(aj B d).isNone)=true) (c:Nat):aj (B++A) c=aj (A++B) c:=by
 rw[iQ,iQ]
 cases ha:aj A c with
 |none=>cases aj B c <;>rfl
 |some x=>
  have:=as9.1 h c (gw.2 ⟨x,ha⟩);rw[av6.1 this]
theorem Fn.swap {P:Program} {f:FuncId} {args:List aO} {A B A' B':ay} {bb:aA1} {res:aO} (h:Fn P f args (A++B) bb res (A'++B')) (E:((cm A).all fun d=>(aj B d).isNone)=true) (G:((cm A').all fun d=>(aj B' d).isNone)=true):Fn P f args (B++A) bb res (B'++A'):=
 Fn.Iy h (XC A B E) (XC A' B' G)
theorem aoy {s g bF g2:Int} {es eE eo:List (aa ai×aa ai)} {b:Nat} {r:Int} (h:Fn Tryz.prog 124 [ah 1001,ah 3001] (Hy s g es bF g2 eo) [] (ac r) (Hy s g eE bF g2 eo)):
  Fn Tryz.prog 124 [ah 1001,c8 b] (iF 1001 1002 s g es++[(1601,.aF (.bw [(b,fv bF g2 eo)]))]) [] (ac r) (iF 1001 1002 s g eE++[(1601,.aF (.bw [(b,fv bF g2 eo)]))]):=by
 have cJ:Fn Tryz.prog 124 [ah 1001,ah 3001] ((3001,.aF (fv bF g2 eo))::iF 1001 1002 s g es) [] (ac r) ((3001,.aF (fv bF g2 eo))::iF 1001 1002 s g eE):=
  Fn.close (bp:=iF 3001 3002 bF g2 eo) (dz:=iF 3001 3002 bF g2 eo) [3002] (Fn.swap (A:=iF 1001 1002 s g es) (A':=iF 1001 1002 s g eE) h rfl rfl) (fun _ _ _ _ h=>iO.aV [(1001,3001),(1002,3002)] h) (fun _ _ _ _ h=>iO.aV [(3001,1001),(3002,1002)] h) rfl rfl
 have cG:Fn Tryz.prog 124 [ah 1001,ah 3001] ((3001,.aF ((fv bF g2 eo).at b))::iF 1001 1002 s g es) [] (ac r) ((3001,.aF ((fv bF g2 eo).at b))::iF 1001 1002 s g eE):=Fn.anL (b:=b) cJ rfl
 refine Fn.via (X:=Unit) (args':=fun _=>[ah 1001,ah 3001]) (u0:=fun _=>(3001,.aF ((fv bF g2 eo).at b))::(1601,.aF (.bw (kh [(b,fv bF g2 eo)] b)))::iF 1001 1002 s g es) (nq:=fun _=>(3001,.aF ((fv bF g2 eo).at b))::iF 1001 1002 s g es) (jp:=fun _=>[]) (res':=fun _=>ac r) (oe:=fun _=>(3001,.aF ((fv bF g2 eo).at b))::iF 1001 1002 s g eE) cG.1 2 rfl ?_ (fun _=>cG) (fun _=>az) (fun _=>rfl) (fun _=>rfl)
  (fun _=>⟨ac r,iF 1001 1002 s g eE++[(1601,.aF (.bw (ff [(b,fv bF g2 eo)] b (fv bF g2 eo))))],?_,rfl,⟨rfl,rfl,?_,trivial⟩,rfl⟩)
 .rintro N C a w ax
  have fZ:ab (cm (iF 1001 1002 s g es++[(1601,.aF (.bw [(b,fv bF g2 eo)]))])) (o5 0 [ah 1001,c8 b]) (iF 1001 1002 s g es++[(1601,.aF (.bw [(b,fv bF g2 eo)]))]) (o5 0 [ah 1001,ah 3001]) ((3001,.aF ((fv bF g2 eo).at b))::(1601,.aF (.bw (kh [(b,fv bF g2 eo)] b)))::iF 1001 1002 s g es):=
   ab.trans (ab.CQ 1601 3001 b rfl (if_pos rfl) rfl) (ab.trans (ab.RE 1 3001 b rfl rfl) (ab.sub az az))
  exact⟨(),fZ N C a w ax⟩
 .exact ab.trans (ab.RJ (o:=fv bF g2 eo) (L:=[(b,fv bF g2 eo)]) 1601 3001 b rfl rfl (if_pos rfl) aw1) (ab.sub az az)
 .show some (ba.aF (.bw (ff [(b,fv bF g2 eo)] b (fv bF g2 eo))))=_;rw[show ff [(b,fv bF g2 eo)] b (fv bF g2 eo)=[(b,fv bF g2 eo)] from if_pos rfl]
theorem XD {nm:aA0} {u:bf->bf} (a8: ∀x,(u x).nm=x.nm): ∀{l:List bf} {e:bf},c1 l nm=some e->c1 (mw l nm u) nm=some (u e)
 | [],_,h=>by cases h
 |d::l,e,h=>by
  rw[wX] at h;show c1 ((if d.nm=nm then u d else d)::mw l nm u) nm=_;rw[wX]
  by_cases c:d.nm=nm
  .rw[if_pos c] at h;injection h with h
   subst h;rw[if_pos c,if_pos ((a8 d).trans c)]
  .rw[if_neg c] at h;rw[if_neg c,if_neg c];exact XD a8 h
theorem XE {nm:aA0}: ∀{l:List bf} {e:bf},(l.map (·.nm)).Nodup->c1 l nm=some e->c1 (k3 l nm) nm=none/\(k3 l nm).length < l.length
 | [],_,_,h=>by cases h
 |d::l,e,hn,h=>by
  rw[ar8,at0] at hn;rw[wX] at h;unfold k3
  by_cases c:d.nm=nm
  .rw[if_pos c];refine⟨?_,Nat.lt_succ_self _⟩
   cases Z:c1 l nm with
   |none=>rfl
   |some x=>
    obtain⟨ce,cR⟩:=jR Z;exact absurd (by rw[c,<-cR];exact as0 ce) hn.1
  .rw[if_neg c] at h⊢;obtain⟨ce,cR⟩:=XE hn.2 h;exact⟨by rw[wX,if_neg c];exact ce,by simp only[au1];omega⟩
abbrev gq (m:Made) (g:List (Nat×aA0)):bR:=(d4 m.gW,di m.gW,c4 m.gW,eI m.gW,k2 g)
abbrev qi (m:Made) (g:List (Nat×aA0)):Made:=⟨gq m g,m.eW,m.ew⟩
def II (ds:List bf) (eW:aA0) (x:bf) (bF g2:Int) (eo:List (aa ai×aa ai)) (a b:Nat):List bf:=mw (k3 (mw ds eW oz) eW++[⟨eW,a,b,true,true,x.s,x.g,wU x.s x.g (oz x).es (qR bF g2 eo)⟩]) eW fun e=>{e with on:=x.on}
def vL (w:bT) (g:List (Nat×aA0)) (e:Int) (w':bT):Prop:=(gn w.Q (gq w.bI g)≠0/\e=gn w.Q (gq w.bI g)/\w'={w with bI:=qi w.bI g})\/
 (gn w.Q (gq w.bI g)=0/\ ∃e7,vK {w with bI:=qi w.bI g} (fX w.Q (gq w.bI g)) e e7/\
  (((e≠0\/w.bI.ew=none\/c1 w.ds w.bI.eW=none)/\w'=e7)\/(e=0/\ ∃kP bF g2 eo x a b,w.bI.ew=some (kP,bF,g2,eo)/\c1 w.ds w.bI.eW=some x/\dO (II w.ds w.bI.eW x bF g2 eo a b)/\w'={e7 with ds:=II w.ds w.bI.eW x bF g2 eo a b})))
theorem XF {z R:Nat} {L:List aM} {nm:aA0} {l:aA1} {g:List (Nat×aA0)} (ae:fu z R L nm l g) (m:Made) (p:je) (h:p∈cD (gq m g)):(jS p).length<=4294967296:=by
 obtain⟨k,_,rfl⟩:=as5.1 (show p∈k2 g from h)
 exact MN k g fun q aP=>by
  have E:=(ae.gt q aP).2;have G:2 ^z<=2 ^3:=Nat.pow_le_pow_right aw1 ae.cs.b3;omega
theorem aoz (w:bT) (aq:lH w) {nm:aA0} {n rm:Int} {l:aA1} {g:List (Nat×aA0)} {over:Bool} (V:w.bD= .pu nm n rm l g over true) (ae:fu w.z w.R w.L nm l g) (nt:g4 (d4 w.bI.gW)=true) (d5:gn w.Q (gq w.bI g)≠0):
  cA Tryz.prog 79 [ah 1401] (cO w) [] (X:=nj (vL w g)) (fun p=>ac p.1.1) (fun p=>cO p.1.2):=by
 have jn:=Xn (b:=w.b) (n:=n) (rm:=rm) (over:=over) ae;have U:=Bu aq.q.tolE w.lb;have H:=OQ aq.q;have Ud:=ae.MQ;have qU:=Nh w.Q (gq w.bI g) (by have:=aq.q.len;omega) (by have:=Dp nt;show(d4 w.bI.gW).length<=_;omega) (by show(k2 g).length<=_;rw[MM];omega) (XF ae w.bI);obtain⟨z,R,L,aQ,db,ds,es,M,lb,Q,eL,bD,bI⟩:=w;simp only at V;subst V;refine hQ [] Tryz.func79 ?_;refine ak jn <| ak U <| ak H <| ak (Fn.aV [(1001,3001),(1002,3002),(1003,3003)] qU) ⟨fun h=>absurd (gd h) d5,fun _=>?_⟩;exact⟨fun _=>⟨eM aw3,⟨(_,⟨z,R,L,aQ,db,ds,es,M,lb,Q,eL,.pu nm n rm l g over true,qi bI g⟩),.inl ⟨d5,rfl,rfl⟩⟩,_,_,_,bq,rfl,rfl,az,rfl⟩,fun h=>absurd h (by simp only at d5;simp[d5])⟩
theorem aoA {w:bT} {g:List (Nat×aA0)} (d5:gn w.Q (gq w.bI g)=0) (aZ:oM (fX w.Q (gq w.bI g))=0) {b lb:Nat} (O:b∉w.M.map (·.1)) {kP:Nat} {bF g2:Int} {eo:List (aa ai×aa ai)} {x:bf} (ax:w.bI.ew=some (kP,bF,g2,eo)) (Z:c1 w.ds w.bI.eW=some x) {l':List bf}
  (t6:tm (k3 (mw w.ds w.bI.eW oz) w.bI.eW) w.bI.eW=0) (ap:Ep (k3 (mw w.ds w.bI.eW oz) w.bI.eW) w.bI.eW true true x.s x.g (wU x.s x.g (oz x).es (qR bF g2 eo)) l'):
  vL w g 0 {w with bI:=qi w.bI g,es:=oN w.es (fX w.Q (gq w.bI g)) b,M:=(b,oO (fX w.Q (gq w.bI g)) b)::w.M,lb:=lb,Q:=fX w.Q (gq w.bI g),ds:=mw l' w.bI.eW fun e=>{e with on:=x.on}}:=by
 rcases ap.2 with⟨_,_,_,_,a,ea,rfl⟩ |⟨h,_⟩
 .refine .inr ⟨d5,{w with bI:=qi w.bI g,es:=oN w.es (fX w.Q (gq w.bI g)) b,M:=(b,oO (fX w.Q (gq w.bI g)) b)::w.M,lb:=lb,Q:=fX w.Q (gq w.bI g)},⟨aZ.symm,b,O,.inl ⟨aZ,lb,?_⟩⟩,.inr ⟨rfl,kP,bF,g2,eo,x,a,ea,ax,Z,ap.1.UQ (fun e=>{e with on:=x.on}) w.bI.eW (fun _=>⟨rfl,rfl,rfl⟩) fun _ h=>h,?_⟩⟩
  .with_reducible rfl
  .unfold II
   with_reducible rfl
 .exact absurd t6 h
theorem aoB (w:bT) (aq:lH w) {nm:aA0} {n rm:Int} {l:aA1} {g:List (Nat×aA0)} {over:Bool} (V:w.bD= .pu nm n rm l g over true) (ae:fu w.z w.R w.L nm l g) (nt:g4 (d4 w.bI.gW)=true) (d5:gn w.Q (gq w.bI g)=0):
  cA Tryz.prog 79 [ah 1401] (cO w) [] (X:=nj (vL w g)) (fun p=>ac p.1.1) (fun p=>cO p.1.2):=by
 have jn:=Xn (b:=w.b) (n:=n) (rm:=rm) (over:=over) ae;have U:=Bu aq.q.tolE w.lb;have H:=OQ aq.q;have Ud:=ae.MQ;have qU:=Nh w.Q (gq w.bI g) (by have:=aq.q.len;omega) (by have:=Dp nt;show(d4 w.bI.gW).length<=_;omega) (by show(k2 g).length<=_;rw[MM];omega) (XF ae w.bI);rw[d5] at qU;have J:=OR (aq.q.tolE.add (gq w.bI g)) aq.nS;have dF:=Fn.lW (b:=w.db) [1002,1003,1004] 1101 (akb aq.ds w.bI.eW);have Bw:dO (mw w.ds w.bI.eW oz):=aq.ds.UQ oz w.bI.eW (fun _=>⟨rfl,rfl,rfl⟩) fun e k=>⟨k.1,k.2.1,Hz k.2.2 _ _⟩
 have pr:=aq.eg;have r6:=aq.ew;have hA:=aq.ds;obtain⟨aqW,aoC,_⟩:=aq.dk;have aw:=ON aq.cs aoC;obtain⟨z,R,L,aQ,db,ds,es,M,lb,Q,eL,bD,bI⟩:=w;obtain⟨gW,eW,ew⟩:=bI;simp only at V d5 pr r6 Bw hA aw;subst V
 by_cases aZ:oM (fX Q (gq ⟨gW,eW,ew⟩ g))=0
 .simp only[aZ] at J;have J:=Xy ⟨z,R,L,aQ,db,ds,es,M,lb,Q,eL,.pu nm n rm l g over true,qi ⟨gW,eW,ew⟩ g⟩ (F:=oN es (fX Q (gq ⟨gW,eW,ew⟩ g))) (S:=oO (fX Q (gq ⟨gW,eW,ew⟩ g))) J
  cases ew with
  |none=>
   refine hQ [5,6] Tryz.func79 ?_;refine ak jn <| ak U <| ak H <| ak (Fn.aV [(1001,3001),(1002,3002),(1003,3003)] qU) <| d7 <| bk.gz ee aw3 ⟨_,_,_,fun g=>_,fun g=>_,cA.aV [(3002,3003)] J,az,rfl,fun _=>rfl,fun x=>?_⟩;obtain⟨⟨b,O⟩,Es⟩:=x;exact br [] (bq) <| cX ⟨fun _ h=>ax0,fun _=>⟨eM aw3,⟨(0,_),.inr ⟨d5,_,⟨aZ.symm,b,O,.inl ⟨aZ,Es,rfl⟩⟩,.inl ⟨.inr (.inl rfl),rfl⟩⟩⟩,_,_,_,bq,rfl,rfl,az,rfl⟩⟩
  |some p=>
   obtain⟨kP,bF,g2,eo⟩:=p;obtain⟨ce,cR,er⟩:=r6 _ rfl;have ce:bF=((cl L aQ*2 ^z:Nat):Int):=ce;have cR:g2=1:=cR
   cases Z:c1 ds eW with
   |none=>
    simp only[HI Z,HG Z] at dF;refine hQ [5,6] Tryz.func79 ?_;refine ak jn <| ak U <| ak H <| ak (Fn.aV [(1001,3001),(1002,3002),(1003,3003)] qU) <| d7 <| bk.gz ee aw3 ⟨_,_,_,fun g=>_,fun g=>_,cA.aV [(3002,3003)] J,az,rfl,fun _=>rfl,fun y=>?_⟩;obtain⟨⟨b,O⟩,Es⟩:=y;exact br [] (bq) <| cX ⟨fun _ _=>ak dF ⟨eM aw3,d7 ⟨⟨(0,_),.inr ⟨d5,_,⟨aZ.symm,b,O,.inl ⟨aZ,Es,rfl⟩⟩,.inl ⟨.inr (.inr Z),rfl⟩⟩⟩,_,_,_,bq,rfl,rfl,az,rfl⟩⟩,fun h=>ax0⟩
   |some x=>
    simp only[HH Z] at dF;obtain⟨B2,sD⟩:=pr x (jR Z).1;obtain⟨cC,cF,dD,fm⟩:=hA.ok x (jR Z).1;have Gh:eW.length<=64:=(jR Z).2▸fm;have bz:g4 eW=true:=(jR Z).2▸B2.nm;have b':=XD (u:=oz) (fun _=>rfl) Z;have aY:=IG Bw db b';have DB:=aoy (b:=kP) (ajB x.s x.g (oz x).es bF g2 eo cC cF aw0 aw0 aw0);have TY:=Fn.lW (b:=db) [1002,1003,1004] 1101 (akd Bw eW);obtain⟨fc,bx⟩:=XE Bw.iA b';have y8:=Xx (Bw.lU eW) db eW aw0 x.s x.g (wU x.s x.g (oz x).es (qR bF g2 eo)) ⟨cC,cF,UD (Hz dD _ _) _ _⟩
    have t6:tm (k3 (mw ds eW oz) eW) eW=0:=(if_neg (by rw[bz];decide)).trans (if_neg (by
     have:=Bw.len;rw[fc];rintro(h |h)
     .cases h
     .omega))
    simp only[t6] at y8;refine hQ [5,6,12] Tryz.func79 ?_;refine ak jn <| ak U <| ak H <| ak (Fn.aV [(1001,3001),(1002,3002),(1003,3003)] qU) <| d7 <| bk.gz ee aw3 ⟨_,_,_,fun g=>_,fun g=>_,cA.aV [(3002,3003)] J,az,rfl,fun _=>rfl,fun y=>?_⟩;obtain⟨⟨b,O⟩,Es⟩:=y;refine br [12] (bq) <| cX ⟨fun _ _=>ak dF ⟨eM aw3,cX <| ak aY ⟨rfl,eM aw3,ak (Fn.aV [(1001,5001),(1002,5002)] DB) ⟨eM aw3,ak TY ⟨eM aw3,ak (Fn.aV [(2001,5001),(2002,5002)] y8) ⟨eM aw3,bk.eH (c5.jh 1101 rfl) fun aB=>?_⟩⟩⟩⟩⟩,fun h=>ax0⟩;obtain⟨l',f1⟩:=aB;have aoD:=Fn.lW (b:=db) [1002,1003,1004] 1101 (aka f1.1 eW x.on);exact br [] (bq) <| ak aoD ⟨eM aw3,⟨(0,_),aoA (w:=⟨z,R,L,aQ,db,ds,es,M,lb,Q,eL,.pu nm n rm l g over true,⟨gW,eW,some (kP,bF,g2,eo)⟩⟩) (lb:=Es) d5 aZ O (Eq.refl _) Z t6 f1⟩,_,_,_,bq,rfl,rfl,az,rfl⟩
 .have gM: ∀b:{b:Nat//b∉M.map (·.1)},vK ⟨z,R,L,aQ,db,ds,es,M,lb,Q,eL,.pu nm n rm l g over true,qi ⟨gW,eW,ew⟩ g⟩ (fX Q (gq ⟨gW,eW,ew⟩ g)) (oM (fX Q (gq ⟨gW,eW,ew⟩ g))) ⟨z,R,L,aQ,db,ds,oN es (fX Q (gq ⟨gW,eW,ew⟩ g)) b.1,(b.1,oO (fX Q (gq ⟨gW,eW,ew⟩ g)) b.1)::M,lb,Q,eL,.pu nm n rm l g over true,qi ⟨gW,eW,ew⟩ g⟩:=fun b=>⟨Eq.refl _,b.1,b.2,.inr ⟨aZ,Eq.refl _⟩⟩
  have J:=Xz ⟨z,R,L,aQ,db,ds,es,M,lb,Q,eL,.pu nm n rm l g over true,qi ⟨gW,eW,ew⟩ g⟩ aZ (F:=oN es (fX Q (gq ⟨gW,eW,ew⟩ g))) (S:=oO (fX Q (gq ⟨gW,eW,ew⟩ g))) J;generalize oM (fX Q (gq ⟨gW,eW,ew⟩ g))=e at gM aZ J;refine hQ [5,6] Tryz.func79 ?_;exact ak jn <| ak U <| ak H <| ak (Fn.aV [(1001,3001),(1002,3002),(1003,3003)] qU) <| d7 <| bk.gz ee aw3 ⟨_,_,_,fun g=>_,fun g=>_,cA.aV [(3002,3003)] J,az,rfl,fun _=>rfl,fun x=>br [] (bq) ⟨fun _=>⟨eM aw3,⟨(e,_),.inr ⟨d5,_,gM x,.inl ⟨.inl aZ,rfl⟩⟩⟩,_,_,_,bq,rfl,rfl,az,rfl⟩,fun h=>absurd h (by simp[aZ])⟩⟩
abbrev IJ:Type:=List bf×fT×dV×Nat×List bR
abbrev Bx (w:bT) (g:List (Nat×aA0)) (t:IJ):bT:={w with bI:=qi w.bI g,ds:=t.1,es:=t.2.1,M:=t.2.2.1,lb:=t.2.2.2.1,Q:=t.2.2.2.2}
theorem Et {w w':bT} {Q:List bR} {e:Int} (h:vK w Q e w'):w'={w with es:=w'.es,M:=w'.M,lb:=w'.lb,Q:=w'.Q}:=by
 obtain⟨_,b,_,⟨_,lb,rfl⟩ |⟨_,rfl⟩⟩:=h
 .with_reducible rfl
 .with_reducible rfl
theorem XG {w w':bT} {g:List (Nat×aA0)} {e:Int} (h:vL w g e w'):w'=Bx w g (w'.ds,w'.es,w'.M,w'.lb,w'.Q):=by
 rcases h with⟨_,_,rfl⟩ |⟨_,e7,G,⟨_,rfl⟩ |⟨_,kP,bF,g2,eo,x,a,b,_,_,_,rfl⟩⟩
 .with_reducible rfl
 .have al:=Et G;rw[al]
 .have al:=Et G;rw[al]
theorem aoE (w:bT) (aq:lH w) {nm:aA0} {n rm:Int} {l:aA1} {g:List (Nat×aA0)} {over:Bool} (V:w.bD= .pu nm n rm l g over true) (ae:fu w.z w.R w.L nm l g) (nt:g4 (d4 w.bI.gW)=true):
  cA Tryz.prog 79 [ah 1401] (cO w) [] (X:={p:Int×IJ//vL w g p.1 (Bx w g p.2)}) (fun p=>ac p.1.1) (fun p=>cO (Bx w g p.1.2)):=by
 have h:cA Tryz.prog 79 [ah 1401] (cO w) [] (X:=nj (vL w g)) (fun p=>ac p.1.1) (fun p=>cO p.1.2):=by
  by_cases d5:gn w.Q (gq w.bI g)=0
  .exact aoB w aq V ae nt d5
  .exact aoz w aq V ae nt d5
 exact h.to (fun x=>⟨(x.1.1,x.1.2.ds,x.1.2.es,x.1.2.M,x.1.2.lb,x.1.2.Q),XG x.2▸x.2⟩) (fun _=>rfl) fun x=>congrArg cO (XG x.2)
end
end Go.Proofs.YtkfbeijmgggkmaaGreat
