/-
A part of the proof of this claim: lemmas, with no condition beyond what each says.
-/
import Derived.Shelf.SlIter.Nil
import Derived.Shelf.SlIterI.Nil
import Derived.Shelf.SortM.Plain
import Derived.Shelf.SortM.SortNone
import Derived.Shelf.SlMaps.Clone
import Derived.Ground.GgzProg
import Derived.Ground.SlgmProg
import Derived.Ground.SlmcProg
import Derived.Test.YtkfbeijmgggkmaaGreatProg
import Derived.Test.YtkfbeijmgggkmaaGreatZe2
set_option linter.all false
set_option maxRecDepth 100000
set_option maxHeartbeats 0
namespace Go.Proofs.YtkfbeijmgggkmaaGreat
open Go.RowKit Go.Proofs Tryz
section
section
variable {P:aH6} {aV:dt} {N:Nat} {ids:aH0} {o:Oper} {K:aZ} {B:aA} {C:fv} {ρ:Nat->bq} {F:Nat->Nat->Prop} {w w':aH5}
def Mem.split (h:Mem ids C B ρ F w) {c d:Nat} {cG jm pc:ba} (J:aj B c=some cG) (hf:hk ids K B d=true) (pl:bq) (cL cU:Nat->Prop) (E: ∀b,cL b->F c b) (G: ∀b,cU b->F c b) (eQ: ∀b,cL b-> ¬cU b)
  (Dl: ∀I,cp (b5 C B F w) w I w->Holds (dp ρ d pl) I cL w (ρ c) jm) (ae0: ∀I,cp (b5 C B F w) w I w->Holds (dp ρ d pl) I cU w pl pc):
  Mem ids C ((d,pc)::(c,jm)::B) (dp ρ d pl) (dp (dp F c cL) d cU) w/\cp (b5 C B F w) w (b5 C ((d,pc)::(c,jm)::B) (dp (dp F c cL) d cU) w) w:=by
 obtain⟨eW,e9,f3,iZ⟩:=ls hf;have k8:c≠d:=fun e=>by rw[<-e,J] at e9;cases e9
 have s4: ∀j ch,aj ((d,pc)::(c,jm)::B) j=some ch->(j=c\/j=d)->(j=c/\ch=jm)\/(j=d/\ch=pc):=fun j ch V ay=>by
  rw[ci] at V
  split at V
  .rename_i e;injection V with V;exact .inr ⟨e.symm,V.symm⟩
  .rename_i e;rw[ci] at V
   split at V
   .rename_i e;injection V with V;exact .inl ⟨e.symm,V.symm⟩
   .rename_i ao;rcases ay with ay |ay
    .exact as3 ay.symm ao
    .exact as3 ay.symm e
 have Gy:dp (dp F c cL) d cU c=cL:=by rw[du _ _ k8,dh]
 have Gz:dp (dp F c cL) d cU d=cU:=by rw[dh]
 refine h.step (fun j=>j=c\/j=d) (fun j=>j=d) (cZ.refl _ _) (fun j ch V ay=>?_) (fun j V=>du _ _ V) (fun j V=>?_) (fun j V e=>iZ (e▸V)) (fun j V=>.inr V) (fun j ch V _ k Z e=>?_) (fun j ch V ay a2=>?_) (fun j ch V ay b O=>?_) (fun j rG ch ch' b V k1 ay gK a8 O dB=>?_)
 .rw[ci,mu (fun e=>ay (.inr e.symm)),ci,mu (fun e=>ay (.inl e.symm))] at V;exact V
 .rw[du _ _ (fun e=>V (.inr e)),du _ _ (fun e=>V (.inl e))]
 .subst e;rw[f3 j ch V] at Z
  cases Z
 .rcases s4 j ch V ay with⟨rfl,rfl⟩ |⟨rfl,rfl⟩
  .rw[Gy,du _ _ k8];exact Dl _ a2
  .rw[Gz,dh];exact ae0 _ a2
 .have:F c b:=by
   rcases s4 j ch V ay with⟨rfl,rfl⟩ |⟨rfl,rfl⟩
   .rw[Gy] at O;exact E b O
   .rw[Gz] at O;exact G b O
  exact⟨(h.own c _ J b this).1,.inl ⟨c,_,J,.inl rfl,this⟩⟩
 .rcases s4 j ch V ay with⟨rfl,rfl⟩ |⟨rfl,rfl⟩ <;>rcases s4 rG ch' k1 gK with⟨rfl,rfl⟩ |⟨rfl,rfl⟩
  .exact a8 rfl
  .rw[Gy] at O;rw[Gz] at dB;exact eQ b O dB
  .rw[Gz] at O;rw[Gy] at dB;exact eQ b dB O
  .exact a8 rfl
def Mem.GA (h:Mem ids C B ρ F w) {c d:Nat} {cG jm ch:ba} (J:aj B c=some cG) (H:aj B d=some jm) (a8:c≠d) (cj:Nat->Prop) (lu: ∀b,cj b->F c b\/F d b) (cJ:cZ (fun b=>F c b\/F d b) w w')
  (c4: ∀I,cp (b5 C B F w) w I w'->Holds ρ I cj w' (ρ c) ch):
  Mem ids C ((c,ch)::g8 B d) ρ (dp F c cj) w'/\cp (b5 C B F w) w (b5 C ((c,ch)::g8 B d) (dp F c cj) w') w':=by
 have s4: ∀j ch',aj ((c,ch)::g8 B d) j=some ch'->(j=c\/j=d)->j=c/\ch'=ch:=fun j ch' V ay=>by
  rw[ci] at V
  split at V
  .rename_i e;injection V with V;exact⟨e.symm,V.symm⟩
  .rename_i e;rcases ay with ay |ay
   .exact as3 ay.symm e
   .rw[ay,hM,vj rfl] at V;cases V
 refine h.step (fun j=>j=c\/j=d) (fun _=>False) (cJ.mono fun b _ O=>?_) (fun j ch' V ay=>?_) (fun _ _=>rfl) (fun j ay=>du _ _ (fun e=>ay (.inl e))) (fun _ _ h=>h) (fun _ h=>h.elim) (fun _ _ _ _ _ _ h=>h) (fun j ch' V ay a2=>?_) (fun j ch' V ay b O=>?_) (fun j rG cD cv b V k1 ay gK hn=>?_)
 .rcases O with O |O
  .exact⟨c,_,J,.inl rfl,O⟩
  .exact⟨d,_,H,.inr rfl,O⟩
 .rw[ci,mu (fun e=>ay (.inl e.symm)),hM,mu (fun e=>ay (.inr e.symm))] at V;exact V
 .obtain⟨rfl,rfl⟩:=s4 j ch' V ay;rw[dh];exact c4 _ a2
 .obtain⟨rfl,rfl⟩:=s4 j ch' V ay;rw[dh] at O;rcases lu b O with O |O
  .exact⟨au2 (h.own j _ J b O).1 cJ.size,.inl ⟨j,_,J,.inl rfl,O⟩⟩
  .exact⟨au2 (h.own d _ H b O).1 cJ.size,.inl ⟨d,_,H,.inr rfl,O⟩⟩
 .exact as3 ((s4 j cD V ay).1.trans (s4 rG cv k1 gK).1.symm) hn
def Mem.GB (h:Mem ids C B ρ F w) {c:Nat} {cG ch:ba} (J:aj B c=some cG) (cj:Nat->Prop) (lu: ∀b,cj b->F c b) (cJ:cZ (F c) w w') (c4: ∀I,cp (b5 C B F w) w I w'->Holds ρ I cj w' (ρ c) ch):
  Mem ids C ((c,ch)::B) ρ (dp F c cj) w'/\cp (b5 C B F w) w (b5 C ((c,ch)::B) (dp F c cj) w') w':=by
 have s4: ∀j ch',aj ((c,ch)::B) j=some ch'->j=c->ch'=ch:=fun j ch' V ay=>by
  rw[ci,vj ay.symm] at V;injection V with V;exact V.symm
 refine h.step (fun j=>j=c) (fun _=>False) (cJ.mono fun b _ O=>⟨c,_,J,rfl,O⟩) (fun j ch' V ay=>?_) (fun _ _=>rfl) (fun j ay=>du _ _ ay) (fun _ _ h=>h) (fun _ h=>h.elim) (fun _ _ _ _ _ _ h=>h) (fun j ch' V ay a2=>?_) (fun j ch' V ay b O=>?_) (fun j rG cD cv b V k1 ay gK hn=>as3 (ay.trans gK.symm) hn)
 .rw[ci,mu (fun e=>ay e.symm)] at V;exact V
 .have e:=s4 j ch' V ay;subst ay e;rw[dh];exact c4 _ a2
 .subst ay;rw[dh] at O;exact⟨au2 (h.own _ _ J b (lu b O)).1 cJ.size,.inl ⟨_,_,J,rfl,lu b O⟩⟩
end
abbrev lP:=Int->Option aG9
def jL (f:lP) (k:Int) (xs:aG9):lP:=fun j=>if j=k then some xs else f j
def Dm (f:lP) (k:Int):lP:=fun j=>if j=k then none else f j
def Lk:lP:=fun _=>none
def ui (I F:Nat->Prop) (w:aH5) (p:bq) (xs:aG9):Prop:=Holds (fun _=>p) I F w p (.row 5 .u8 xs)
def ui.congr {I F F':Nat->Prop} {w:aH5} {p:bq} {xs:aG9} (h:ui I F w p xs) (e: ∀b,F' b↔F b):ui I F' w p xs:=
 ⟨fun b=>(e b).trans (h.1 b),h.2⟩
def ae1 {I F:Nat->Prop} {w:aH5} {p:bq} {xs:aG9} (h:ui I F w p xs): ∃x:aa .dz,p.eS=rp x:=by
 obtain⟨_,_,cs,⟨_,h⟩,_⟩:=h;rcases h with⟨h,_⟩ |⟨g,cap,dm,h,_⟩
 .exact⟨none,h⟩
 .exact⟨some (g,_,cap),h⟩
structure GC (au:Int->Option bq) (f:lP) (es:List (aa ai×aa .dz)) (cj:Int->Nat->Prop) (I:Nat->Prop) (w:aH5):Prop where
 ho:fg es
 w2: ∀k:Int,b0 (aI:=ai) (aK:=.dz) es k=none->f k=none/\au k=none/\ ∀b,¬cj k b
 yw: ∀(k:Int) h,b0 (aI:=ai) (aK:=.dz) es k=some h->au k=none-> ∃xs p,f k=some xs/\p.eS=rp h/\ui I (cj k) w p xs
 Sn: ∀(k:Int) h q,b0 (aI:=ai) (aK:=.dz) es k=some h->au k=some q->q.eS=rp h/\ ∀b,¬cj k b
 fw: ∀(j k:Int) b,j≠k->cj j b-> ¬cj k b
def GC.cr {au:Int->Option bq} {f:lP} {es:List (aa ai×aa .dz)} {cj:Int->Nat->Prop} {I I':Nat->Prop} {w w':aH5} (h:GC au f es cj I w) (U:cp I w I' w') (bj: ∀k b,cj k b->w'.heap[b]? =w.heap[b]?) (aN:w.heap.size<=w'.heap.size):GC au f es cj I' w':=
 ⟨h.ho,h.w2,fun k x E G=>let⟨xs,p,b4,cf,a3⟩:=h.yw k x E G;⟨xs,p,b4,cf,Holds.cr U (fun b O=>bj k b O) aN _ (fun _ _=>rfl) a3⟩,h.Sn,h.fw⟩
def w3 (au:Int->Option bq) (f:lP) (I F:Nat->Prop) (w:aH5) (p:bq):Prop:=
 ∃es cj,GC au f es cj I w/\(∀b,F b↔b=p.bm\/ ∃k,cj k b)/\(∀k,¬cj k p.bm)/\ ∃bV bY,w.heap[p.bm]? =some (.map (List.toArray bV) bY)/\iG I w ai .dz es bV/\ms bV bY
def So (au:Int->Option bq) (f:lP):bg where
 bp:=w3 au f
 cr:=fun I F w I' w' p ⟨es,cj,E,G,ah,bV,bY,aW,bM,fU⟩ U bj aN=>
  ⟨es,cj,E.cr U (fun k b O=>bj b ((G b).2 (.inr ⟨k,O⟩))) aN,G,ah,bV,bY,(bj _ ((G _).2 (.inl rfl))).trans aW,bM.mono U,fU⟩
def ni (f:lP):bg:=So (fun _=>none) f
def GD (k:Int) (q:bq):Int->Option bq:=fun j=>if j=k then some q else none
def w4 (f:lP) (k:Int):bq->bg:=fun q=>So (GD k q) f
def w3.out {f:lP} {k:Int} {xs:aG9} {I F:Nat->Prop} {w:aH5} {p:bq} (hf:f k=some xs) (h:(ni f).bp I F w p):
  ∃(cL cU:Nat->Prop) (q:bq) (es:List (aa ai×aa .dz)) (x:aa .dz),(∀b,cL b->F b)/\(∀b,cU b->F b)/\(∀b,cL b-> ¬cU b)/\q.eS=rp x/\b0 (aI:=ai) (aK:=.dz) es k=some x/\(∃bV bY,w.heap[p.bm]? =some (.map (List.toArray bV) bY)/\iG I w ai .dz es bV)/\ui I cU w q xs/\(w4 f k q).bp I cL w p:=by
 obtain⟨es,cj,E,G,ah,bV,bY,aW,bM,fU⟩:=h
 cases e:b0 (aI:=ai) (aK:=.dz) es k with
 |none=>rw[(E.w2 k e).1] at hf;cases hf
 |some x=>
  obtain⟨ys,q,b4,cf,a3⟩:=E.yw k x e rfl;rw[hf] at b4;injection b4 with b4
  subst b4;refine⟨fun b=>b=p.bm\/ ∃j,j≠k/\cj j b,cj k,q,es,x,fun b O=>(G b).2 (O.imp id fun⟨j,_,V⟩=>⟨j,V⟩),fun b O=>(G b).2 (.inr ⟨k,O⟩),fun b O Z=>?_,cf,e,⟨bV,bY,aW,bM⟩,a3,?_⟩
  .rcases O with rfl |⟨j,V,O⟩
   .exact ah k Z
   .exact E.fw j k b V O Z
  .refine⟨es,fun j b=>j≠k/\cj j b,⟨E.ho,fun j V=>?_,fun j y V bd=>?_,fun j y arD V bd=>?_,fun i j b g3 a b=>E.fw i j _ g3 a.2 b.2⟩,fun b=>Iff.rfl,fun j V=>ah j V.2,bV,bY,aW,bM,fU⟩
   .obtain⟨b1,_,b3⟩:=E.w2 j V;have:j≠k:=fun b9=>by rw[b9,e] at V;cases V
    exact⟨b1,mu this,fun b O=>b3 b O.2⟩
   .have a8:j≠k:=fun b9=>by rw[show GD k q j=some q from vj b9] at bd;cases bd
    obtain⟨ys,r,b1,b2,b3⟩:=E.yw j y V rfl;exact⟨ys,r,b1,b2,b3.congr fun b=>⟨fun h=>h.2,fun h=>⟨a8,h⟩⟩⟩
   .simp only[GD] at bd
    split at bd
    .rename_i b9;injection bd with bd
     subst b9 bd;rw[e] at V;injection V with V
     subst V;exact⟨cf,fun b O=>O.1 rfl⟩
    .cases bd
def w3.ae2 {f:lP} {k:Int} {xs:aG9} {I cL cU:Nat->Prop} {w:aH5} {p q:bq} (h:(w4 f k q).bp I cL w p) (ax:ui I cU w q xs) (H: ∀b,cL b-> ¬cU b) (Z: ∃ys,f k=some ys):(ni (jL f k xs)).bp I (fun b=>cL b\/cU b) w p:=by
 obtain⟨es,cj,E,G,ah,bV,bY,aW,bM,fU⟩:=h;obtain⟨ys,Z⟩:=Z;have iy:GD k q k=some q:=vj rfl
 cases e:b0 (aI:=ai) (aK:=.dz) es k with
 |none=>rw[(E.w2 k e).1] at Z;cases Z
 |some x=>
  obtain⟨b4,cf⟩:=E.Sn k x q e iy;refine⟨es,fun j b=>if j=k then cU b else cj j b,⟨E.ho,fun j V=>?_,fun j y V _=>?_,fun _ _ _ _ bd=>(by cases bd),fun i j b g3 ha O=>?_⟩,fun b=>?_,fun j V=>?_,bV,bY,aW,bM,fU⟩
  .have a8:j≠k:=fun b9=>by rw[b9,e] at V;cases V
   obtain⟨b1,_,b3⟩:=E.w2 j V;exact⟨by unfold jL;rw[mu a8];exact b1,rfl,fun b O=>by rw[mu a8] at O;exact b3 b O⟩
  .by_cases a8:j=k
   .subst a8;rw[e] at V;injection V with V
    subst V;exact⟨xs,q,vj rfl,b4,ax.congr fun b=>by rw[vj rfl]⟩
   .obtain⟨w5,r,b1,b2,b3⟩:=E.yw j y V (mu a8);exact⟨w5,r,(mu a8).trans b1,b2,b3.congr fun b=>by rw[mu a8]⟩
  .by_cases aE:i=k
   .rw[vj aE] at ha;have V:j≠k:=fun b9=>g3 (aE.trans b9.symm)
    rw[mu V] at O;exact H b ((G b).2 (.inr ⟨j,O⟩)) ha
   .rw[mu aE] at ha
    by_cases V:j=k
    .rw[vj V] at O;exact H b ((G b).2 (.inr ⟨i,ha⟩)) O
    .rw[mu V] at O;exact E.fw i j b g3 ha O
  .show(cL b\/cU b)↔(b=p.bm\/ ∃j,(if j=k then cU b else cj j b));rw[G];constructor
   .rintro((h |⟨j,h⟩) |h)
    .exact .inl h
    .refine .inr ⟨j,?_⟩
     by_cases V:j=k
     .subst V;exact as3 h (cf b)
     .rw[mu V];exact h
    .exact .inr ⟨k,by rw[vj rfl];exact h⟩
   .rintro(h |⟨j,h⟩)
    .exact .inl (.inl h)
    .by_cases V:j=k
     .rw[vj V] at h;exact .inr h
     .rw[mu V] at h;exact .inl (.inr ⟨j,h⟩)
  .replace V:(if j=k then cU p.bm else cj j p.bm):=V
   by_cases k1:j=k
   .rw[vj k1] at V;exact H _ ((G _).2 (.inl rfl)) V
   .rw[mu k1] at V;exact ah j V
section
variable {P:aH6} {aV:dt} {ids:aH0} {K:aZ} {B:aA}
def GE {o:Oper} {T kt et:aI0} {x i:aH8} {c d:Nat} {f:lP} {k:Int} {xs:aG9} (ag:o.op= .lookup T x i false) (b8:P.underlying T=some (.map kt et)) {dk:aJ1} (kM:P.underlying kt=some dk) (jg:nE ai dk=true) {di:aI9} (aE:P.info? et=some di) (aN:di.zero=some (.slice none 0 0))
  (hx:a7 K x= .c (.one (.mp c))) (Z:a7 K i= .c (.one (.d (.int .i64 k)))) (J:aj B c=some (.aH (ni f))) (hf:f k=some xs) (N:Nat):bD P N ids o K B (.c (.one (.own d))) ⟨[c],[d],[(c,some (.b7 d (w4 f k))),(d,some (.row 5 .u8 xs))]⟩:=by
 have m1:x∈o.op.operands:=aD8
 have m2:i∈o.op.operands:=aD8
 rintro K' B' g1 g2 cK C a w ⟨hn,mC,ρ,F,al,av⟩ bv ga Q cE;have cW:=(g2 c aD3).trans J;have cJ:=cK d aD3;obtain⟨eW,e9,f3,iZ⟩:=ls cJ;have k8:c≠d:=fun e=>by rw[<-e,cW] at e9;cases e9
 obtain⟨cL,cU,q,es,y,E,G,ah,aW,bM,⟨bV,bY,fU,iw⟩,iH,sG⟩:=w3.out hf (al.holds c _ cW);have af:=av.mp ((g1 x m1).trans hx);have ao:a.eval i=gZ ai k:=av.int ((g1 i m2).trans Z);have Dn:(zeroValue et).run P w= .ok (.slice none 0 0) w:=by simp[zeroValue,typeInfo,aE,aN]
 obtain⟨v,ax,az⟩:=PL (P:=P) (aK:=.dz) b8 kM jg fU iw Dn ⟨rfl,⟨fun _=>rfl,fun h=>by cases h⟩,rfl⟩ k false
 have va:v=rp y:=by
  have h:=Qt (ρ:=ρ) rfl az;rw[bM] at h;exact h
 have hx:(execOp a.eval o).run P w= .ok (.value v) w:=by simp only[execOp,ag,aw5,af,ao,ax,au5,ax2];rfl
 unfold Oper.wp;rw[hx,Oper.upon_value]
 obtain⟨bC,a2⟩:=al.split (K:=K') (jm:=.b7 d (w4 f k)) (pc:=.row 5 .u8 xs) cW cJ q cL cU E G ah
  (fun I a1=>by
   show(w4 f k (dp ρ d q d)).bp I cL w (ρ c);rw[dh];exact(w4 f k q).cr _ _ _ _ _ _ sG a1 (fun _ _=>rfl) (as2 _))
  (fun I a1=>Holds.cr a1 (fun _ _=>rfl) (as2 _) _ (fun _ h=>by cases h) iH)
 refine cE _ _ ⟨kW.trans hn,kX.trans mC,_,_,bC,(av.mono a2 fun s e U=>du _ _ (fun b9=>by subst b9;rw[eW s] at U;cases U)).kY (fun e U=>by rw[hn];exact bv e U) ?_⟩;show v=(dp ρ d q d).eS;rw[dh,va,aW]
def ac.GF (c d:Nat) {f t8:lP} {k:Int} {xs:aG9} (ae3:jL f k xs=t8) (J:aj B c=some (.b7 d (w4 f k))) (H:aj B d=some (.row 5 .u8 xs)) (a8:c≠d) (Z:(f k).isSome=true):ac ids K B K ((c,.aH (ni t8))::g8 B d):=by
 subst ae3;rintro N C a w ⟨hn,mC,ρ,F,al,av⟩;have E:(w4 f k (ρ d)).bp (b5 C B F w) (F c) w (ρ c):=al.holds c _ J;have G:ui (b5 C B F w) (F d) w (ρ d) xs:=al.holds d _ H
 have Z: ∃ys,f k=some ys:=by
  cases e:f k with
  |none=>rw[e] at Z;cases Z
  |some ys=>exact⟨ys,rfl⟩
 obtain⟨bC,a2⟩:=al.GA (w':=w) (ch:=.aH (ni (jL f k xs))) J H a8 (fun b=>F c b\/F d b) (fun _ h=>h) (cZ.refl _ _) fun I a1=>
  (ni (jL f k xs)).cr _ _ _ _ _ _ (w3.ae2 E G (fun b O dB=>al.fw c d _ _ b J H a8 O dB) Z) a1 (fun _ _=>rfl) (as2 _)
 exact⟨hn,mC,ρ,_,bC,av.mono a2 fun _ _ _=>rfl⟩
def ae4 {o:Oper} {T kt et:aI0} {x i v:aH8} {c d:Nat} {f:lP} {k:Int} {xs:aG9} (ag:o.op= .mapUpdate T x i v) (b8:P.underlying T=some (.map kt et)) {dk:aJ1} (kM:P.underlying kt=some dk) (jg:nE ai dk=true)
  (hx:a7 K x= .c (.one (.mp c))) (Z:a7 K i= .c (.one (.d (.int .i64 k)))) (az:a7 K v= .c (.one (.own d))) (J:aj B c=some (.aH (ni f))) (H:aj B d=some (.row 5 .u8 xs)) (a8:c≠d) (hf:f k=none) (N:Nat):
  bD P N ids o K B .undef ⟨[c,d],[],[(d,none),(c,some (.aH (ni (jL f k xs))))]⟩:=by
 have m1:x∈o.op.operands:=aD8
 have m2:i∈o.op.operands:=aD8
 have m3:v∈o.op.operands:=aD8
 rintro K' B' g1 g2 - C a w ⟨hn,mC,ρ,F,al,av⟩ bv ga Q cE;have cW:=(g2 c aD3).trans J;have dC:=(g2 d aD3).trans H;obtain⟨es,cj,E,G,ah,bV,bY,aW,bM,fU⟩:(ni f).bp (b5 C B' F w) (F c) w (ρ c):=al.holds c _ cW;have gm:ui (b5 C B' F w) (F d) w (ρ d) xs:=al.holds d _ dC;obtain⟨y,aC⟩:=ae1 gm;have af:=av.mp ((g1 x m1).trans hx);have ao:a.eval i=gZ ai k:=av.int ((g1 i m2).trans Z);have bo:a.eval v=(ρ d).eS:=av.ev ((g1 v m3).trans az)
 have c7:jT (b5 C B' F w) w .dz y (a.eval v):=by
  rw[bo,aC]
  have d4:(rp y).cells= #[rp y]:=by
   match y with
   |none=>rfl
   |some (_,_,_)=>rfl
  exact⟨by rw[d4];rfl,⟨fun _=>d4,fun h=>by cases h⟩,by rw[d4];rfl⟩
 obtain⟨eL,kl,ax,gK,qB⟩:=Cj (P:=P) b8 kM jg aW bM fU k c7;have rL:=(az9.1 aW).1;have eQ: ∀y,F c y-> ¬F d y:=fun y aC eo=>al.fw c d _ _ y cW dC a8 aC eo
 have AP:b0 (aI:=ai) (aK:=.dz) es k=none:=by
  cases e:b0 (aI:=ai) (aK:=.dz) es k with
  |none=>rfl
  |some aB=>
   obtain⟨_,_,b4,_⟩:=E.yw k aB e rfl;rw[hf] at b4
   cases b4
 obtain⟨c1,cy⟩:=yv (aI:=ai) (aK:=.dz) qK k y es;have vu: ∀aB,aB≠(ρ c).bm->({w with heap:=w.heap.setIfInBounds (ρ c).bm (.map (List.toArray eL) kl)}:World).heap[aB]? =w.heap[aB]? :=fun aB aN=>az2 (ay4 aN)
 have Do:(execOp a.eval o).run P w= .ok .skip {w with heap:=w.heap.setIfInBounds (ρ c).bm (.map (List.toArray eL) kl)}:=by simp only[execOp,ag,aw5,af,ao,ax,au5,ax2]
 unfold Oper.wp;rw[Do,Oper.upon_skip]
 obtain⟨bC,a2⟩:=al.GA (ch:=.aH (ni (jL f k xs))) (w':={w with heap:=w.heap.setIfInBounds (ρ c).bm (.map (List.toArray eL) kl)}) cW dC a8 (fun b=>F c b\/F d b) (fun _ h=>h) (u5 (S:=fun b=>F c b\/F d b) (.inl ((G _).2 (.inl rfl)))) fun I a1=>by
  have ig:=E.cr a1 (fun j b O=>vu b fun e=>ah j (e▸O)) aD3;have gc:ui I (F d) {w with heap:=w.heap.setIfInBounds (ρ c).bm (.map (List.toArray eL) kl)} (ρ d) xs:=Holds.cr a1 (fun b O=>vu b fun e=>eQ b (e▸(G _).2 (.inl rfl)) O) aD3 _ (fun _ h=>by cases h) gm;refine⟨dx (aI:=ai) (aK:=.dz) es k y,fun j b=>if j=k then F d b else cj j b,⟨fg.put qK E.ho,fun j V=>?_,fun j aB V _=>?_,fun _ _ _ _ bd=>(by cases bd),fun i j b g3 ha O=>?_⟩,fun b=>?_,fun j V=>?_,eL,kl,by simp[rL],gK.mono a1,qB⟩
  .have j5:j≠k:=fun e=>by rw[e,c1] at V;cases V
   rw[cy j j5] at V;obtain⟨b1,_,b3⟩:=ig.w2 j V;exact⟨by unfold jL;rw[mu j5];exact b1,rfl,fun b O=>by rw[mu j5] at O;exact b3 b O⟩
  .by_cases j5:j=k
   .subst j5;rw[c1] at V;injection V with V
    subst V;exact⟨xs,ρ d,vj rfl,aC,gc.congr fun b=>by rw[vj rfl]⟩
   .rw[cy j j5] at V;obtain⟨w5,r,b1,b2,b3⟩:=ig.yw j aB V rfl;exact⟨w5,r,(mu j5).trans b1,b2,b3.congr fun b=>by rw[mu j5]⟩
  .by_cases aE:i=k
   .rw[vj aE] at ha;have V:j≠k:=fun b9=>g3 (aE.trans b9.symm)
    rw[mu V] at O;exact eQ b ((G b).2 (.inr ⟨j,O⟩)) ha
   .rw[mu aE] at ha
    by_cases V:j=k
    .rw[vj V] at O;exact eQ b ((G b).2 (.inr ⟨i,ha⟩)) O
    .rw[mu V] at O;exact E.fw i j b g3 ha O
  .show(F c b\/F d b)↔(b=(ρ c).bm\/ ∃j,(if j=k then F d b else cj j b));rw[G];have ae5:=(E.w2 k AP).2.2;constructor
   .rintro((h |⟨j,h⟩) |h)
    .exact .inl h
    .refine .inr ⟨j,?_⟩;have V:j≠k:=fun e=>ae5 b (e▸h)
     rw[mu V];exact h
    .exact .inr ⟨k,by rw[vj rfl];exact h⟩
   .rintro(h |⟨j,h⟩)
    .exact .inl (.inl h)
    .by_cases V:j=k
     .rw[vj V] at h;exact .inr h
     .rw[mu V] at h;exact .inl (.inr ⟨j,h⟩)
  .replace V:(if j=k then F d (ρ c).bm else cj j (ρ c).bm):=V
   by_cases k1:j=k
   .rw[vj k1] at V;exact eQ _ ((G _).2 (.inl rfl)) V
   .rw[mu k1] at V;exact ah j V
 exact cE _ _ ⟨kW.trans hn,kX.trans mC,ρ,_,bC,(av.mono a2 fun _ _ _=>rfl).kY (fun e U=>by rw[hn];exact bv e U) rfl⟩
def ae6 {o:Oper} {T e8 kt et:aI0} {x i:aH8} {c:Nat} {f:lP} {k:Int} (ag:o.op= .call {callee:=.builtin .delete,args:= #[x,i],argTypes:= #[T,e8]}) (b8:P.underlying T=some (.map kt et)) {dk:aJ1} (kM:P.underlying kt=some dk) (jg:nE ai dk=true)
  (hx:a7 K x= .c (.one (.mp c))) (Z:a7 K i= .c (.one (.d (.int .i64 k)))) (J:aj B c=some (.aH (ni f))) (N:Nat):
  bD P N ids o K B (.cn []) ⟨[c],[],[(c,some (.aH (ni (Dm f k))))]⟩:=by
 have m1:x∈o.op.operands:=aE2
 have m2:i∈o.op.operands:=aE2
 rintro K' B' g1 g2 - C a w ⟨hn,mC,ρ,F,al,av⟩ bv ga Q cE;have cW:=(g2 c aD3).trans J;obtain⟨es,cj,E,G,ah,bV,bY,aW,bM,fU⟩:(ni f).bp (b5 C B' F w) (F c) w (ρ c):=al.holds c _ cW;have af:=av.mp ((g1 x m1).trans hx);have ao:a.eval i=gZ ai k:=av.int ((g1 i m2).trans Z);obtain⟨eL,ax,gK,qB⟩:=PR (P:=P) (ty:=o.type) b8 kM jg aW bM fU k e8;have rL:=(az9.1 aW).1;obtain⟨c1,cy⟩:=Dj (aI:=ai) (aK:=.dz) qK k es E.ho;have vu: ∀aB,aB≠(ρ c).bm->({w with heap:=w.heap.setIfInBounds (ρ c).bm (.map (List.toArray eL) bY)}:World).heap[aB]? =w.heap[aB]? :=fun aB aN=>az2 (ay4 aN)
 have Do:(execOp a.eval o).run P w= .ok (.value (.tuple #[])) {w with heap:=w.heap.setIfInBounds (ρ c).bm (.map (List.toArray eL) bY)}:=by simp[execOp,ag,resolve,invoke,builtin,af,ao,ax]
 unfold Oper.wp;rw[Do,Oper.upon_value]
 obtain⟨bC,a2⟩:=al.GB (ch:=.aH (ni (Dm f k))) (w':={w with heap:=w.heap.setIfInBounds (ρ c).bm (.map (List.toArray eL) bY)}) cW (fun b=>b=(ρ c).bm\/ ∃j,j≠k/\cj j b) (fun b O=>(G b).2 (O.imp id fun⟨j,_,h⟩=>⟨j,h⟩)) (u5 (S:=F c) ((G _).2 (.inl rfl))) fun I a1=>by
  have ig:=E.cr a1 (fun j b O=>vu b fun e=>ah j (e▸O)) aD3;refine⟨g0 (aI:=ai) (aK:=.dz) es k,fun j b=>j≠k/\cj j b,⟨fg.nQ E.ho,fun j V=>?_,fun j aB V _=>?_,fun _ _ _ _ bd=>(by cases bd),fun i j b g3 ha O=>E.fw i j b g3 ha.2 O.2⟩,fun b=>Iff.rfl,fun j V=>ah j V.2,eL,bY,by simp[rL],gK.mono a1,qB⟩
  .by_cases j5:j=k
   .exact⟨vj j5,rfl,fun b O=>O.1 j5⟩
   .rw[cy j j5] at V;obtain⟨b1,_,b3⟩:=ig.w2 j V;exact⟨(mu j5).trans b1,rfl,fun b O=>b3 b O.2⟩
  .have j5:j≠k:=fun e=>by rw[e,c1] at V;cases V
   rw[cy j j5] at V;obtain⟨w5,r,b1,b2,b3⟩:=ig.yw j aB V rfl;exact⟨w5,r,(mu j5).trans b1,b2,b3.congr fun b=>⟨fun h=>h.2,fun h=>⟨j5,h⟩⟩⟩
 exact cE _ _ ⟨kW.trans hn,kX.trans mC,ρ,_,bC,(av.mono a2 fun _ _ _=>rfl).kY (fun e U=>by rw[hn];exact bv e U) ⟨[],rfl,rfl⟩⟩
def ac.Sp (c:Nat) {aK:bB} (J:aj B c=some (.map ai aK [])):ac ids K B K ((c,.aH (ni Lk))::B):=by
 rintro N C a w ⟨hn,H,ρ,F,al,av⟩;obtain⟨bj,bV,bY,ah,aW,fU⟩:=al.holds c _ J;have aW:bV=[]:=aW;subst aW;obtain⟨bC,a2⟩:=al.h8 (w':=w) (ch:=.aH (ni Lk)) J (cZ.refl _ _) fun I a1=>⟨[],fun _ _=>False,⟨.nil,fun _ _=>⟨rfl,rfl,fun _ h=>h⟩,fun _ _ h=>aE1,fun _ _ _ h=>aE1,fun _ _ _ _ h=>h.elim⟩,fun b=>by rw[bj];simp,fun _ h=>h,[],bY,ah,rfl,fU⟩
 exact⟨hn,H,ρ,F,bC,av.mono a2 fun _ _ _=>rfl⟩
end
end
section
def AQ (l:aH0):aA->Bool
 | []=>true
 |(c,ch)::B=> !l.contains c&&(l.all fun d=> !ch.has d)&&AQ l B
def GG {l:aH0}: ∀{B:aA},AQ l B=true-> ∀{c ch},aj B c=some ch->c∉l/\ ∀d,d∈l->ch.has d=false
 | [],_,c,ch,J=>by cases J
 |(e,x)::B,h,c,ch,J=>by
  simp only[AQ,as1,au9] at h;obtain⟨⟨E,G⟩,ah⟩:=h;rw[ci] at J
  split at J
  .rename_i e;injection J with J
   subst e J;refine⟨fun ay=>(by rw[av4.2 ay] at E;cases E),fun d H=>?_⟩;have:=av3.1 G d H;simpa using this
  .exact GG ah J
def Fn.qO {P:aH6} {f:aI5} {args:List aS} {aJ:aA} {bb:aH0} {res:aS} {aT:aA} (p2:aA) (h:Fn P f args aJ bb res aT) (E:((ct p2).all fun d=> !(ct aJ).contains d&& !(ct aT).contains d)=true) (G:AQ bb p2=true):
  Fn P f args (aJ++p2) bb res (aT++p2):=by
 have b': ∀{c ch},aj p2 c=some ch->aj aJ c=none/\aj aT c=none:=fun {c ch} J=>by
  have:=av3.1 E c (gL.2 ⟨ch,J⟩);simp only[as1,au9] at this;constructor
  .cases e:aj aJ c with
   |none=>rfl
   |some x=>rw[av4.2 (gL.2 ⟨x,e⟩)] at this;cases this.1
  .cases e:aj aT c with
   |none=>rfl
   |some x=>rw[av4.2 (gL.2 ⟨x,e⟩)] at this;cases this.2
 have w6: ∀{c ch},aj aJ c=some ch->aj (aJ++p2) c=some ch:=fun {c ch} J=>by rw[i1,J]
 have vv: ∀{c ch},aj p2 c=some ch->aj (aJ++p2) c=some ch:=fun {c ch} J=>by rw[i1,(b' J).1];exact J
 have GH: ∀{c ch},aj (aT++p2) c=some ch->aj aT c=some ch\/aj p2 c=some ch:=fun {c ch} J=>by
  rw[i1] at J
  cases e:aj aT c with
  |none=>rw[e] at J;exact .inr J
  |some x=>rw[e] at J;exact .inl J
 refine⟨h.1,fun ρ F I w bZ b4 cf a3 a4 a5 gR=>(h.2 ρ F I w bZ b4 (fun c ch J=>cf c ch (w6 J)) (fun c ch J=>a3 c ch (w6 J)) (fun c ca ch ch' b J cW=>a4 c ca ch ch' b (w6 J) (w6 cW)) a5 gR).mono ?_⟩;rintro e w' ⟨x,ρ',F',r1,r2,gh,I',kr,l9,mB,ma,ng,oz⟩
 let cU:Nat->Nat->Prop:=fun c=>if(aj p2 c).isSome=true then F c else F' c
 have eW: ∀{c ch},aj p2 c=some ch->cU c=F c:=fun {c ch} J=>vj (by rw[J];rfl)
 have e9: ∀{c ch},aj aT c=some ch->cU c=F' c:=fun {c ch} J=>mu (fun au=>by
  cases e:aj p2 c with
  |none=>rw[e] at au;cases au
  |some x=>rw[(b' e).2] at J;cases J)
 have GI: ∀{c ch} {b:Nat},aj p2 c=some ch->F c b-> ¬ ∃d ch',aj aJ d=some ch'/\F d b:=fun {c ch b} J O=>by
  rintro⟨d,ch',H,dB⟩;refine a4 c d ch ch' b (vv J) (w6 H) (fun e=>?_) O dB;subst e;rw[(b' J).1] at H
  cases H
 refine⟨x,ρ',cU,r1,r2.mono fun b _ ⟨c,ch,J,O⟩=>⟨c,ch,w6 J,O⟩,gh,I',kr,fun b O=>⟨(l9 b O).1,(l9 b O).2.imp id (Or.imp (fun⟨c,ch,J,O⟩=>⟨c,ch,w6 J,O⟩) id)⟩,fun c ch J=>?_,fun c ch J b O=>?_,fun c ca ch ch' b J cW a8 O dB=>?_,oz⟩
 .rcases GH J with J |J
  .rw[e9 J];exact mB c ch J
  .rw[eW J];obtain⟨g1,g2⟩:=GG G J;rw[gh c g1];exact Holds.cr kr (fun b O=>r2.block b (a3 c ch (vv J) b O).1 (GI J O)) r2.size ch (fun d H=>gh d fun ay=>by rw[g2 d ay] at H;cases H) (cf c ch (vv J))
 .rcases GH J with J |J
  .rw[e9 J] at O;obtain⟨g1,g2,cK⟩:=ma c ch J b O;exact⟨g1,g2,cK.imp (fun⟨d,ch',H,O⟩=>⟨d,ch',w6 H,O⟩) id⟩
  .rw[eW J] at O;obtain⟨g1,g2⟩:=a3 c ch (vv J) b O;refine⟨au2 g1 r2.size,fun a1=>?_,.inl ⟨c,ch,vv J,O⟩⟩;rcases(l9 b a1).2 with h |h |h
   .exact g2 h
   .exact GI J O h
   .omega
 .rcases GH J with J |J <;>rcases GH cW with cW |cW
  .rw[e9 J] at O;rw[e9 cW] at dB;exact ng c ca ch ch' b J cW a8 O dB
  .rw[e9 J] at O;rw[eW cW] at dB;rcases(ma c ch J b O).2.2 with h |h
   .exact GI cW dB h
   .have:=(a3 ca ch' (vv cW) b dB).1;omega
  .rw[eW J] at O;rw[e9 cW] at dB;rcases(ma ca ch' cW b dB).2.2 with h |h
   .exact GI J O h
   .have:=(a3 c ch (vv J) b O).1;omega
  .rw[eW J] at O;rw[eW cW] at dB;exact a4 c ca ch ch' b (vv J) (vv cW) a8 O dB
def Fn.eb {P:aH6} {f:aI5} {args:List aS} {aJ:aA} {bb:aH0} {d:Nat} {e:aI0} {u:bB} {xs:List (aa u)} {aT:aA} (h:Fn P f args aJ (d::bb) (.c (.one (.own d))) (aT++[(d,.row e u xs)])) (E:(ct aT).contains d=false) (G:AQ [d] aT=true):
  Fn P f args aJ bb (.c (.one (.d (.bG u xs)))) aT:=by
 have b':aj aT d=none:=by
  cases e:aj aT d with
  |none=>rfl
  |some x=>rw[av4.2 (gL.2 ⟨x,e⟩)] at E;cases E
 have rV:aj (aT++[(d,ba.row e u xs)]) d=some (.row e u xs):=by rw[i1,b'];simp[aj]
 have hR: ∀{c ch},aj aT c=some ch->aj (aT++[(d,ba.row e u xs)]) c=some ch:=fun {c ch} J=>by rw[i1,J]
 have a8: ∀{c ch},aj aT c=some ch->c≠d:=fun {c ch} J e=>by rw[e,b'] at J;cases J
 refine⟨h.1,fun ρ F I w bZ b4 cf a3 a4 a5 gR=>(h.2 ρ F I w bZ b4 cf a3 a4 a5 gR).mono ?_⟩;rintro ex w' ⟨x,ρ',F',r1,r2,gh,I',kr,l9,mB,ma,ng,oz⟩;have gm:=mB d _ rV;have At: ∀b,I' b->(fun b=>I' b\/F' d b) b:=fun b O=>.inl O
 have a2:cp I' w' (fun b=>I' b\/F' d b) w':=fun b O=>⟨.inl O,rfl⟩
 have dI:gY (fun b=>I' b\/F' d b) w' (.bG u xs) (ρ' d).eS:=Cw gm At (fun b O=>.inr O);refine⟨x,dp ρ' d (ρ d),F',r1,r2,fun c J=>?_,fun b=>I' b\/F' d b,fun b O=>⟨.inl (kr b O).1,(kr b O).2⟩,fun b O=>?_,fun c ch J=>?_,fun c ch J b O=>?_,fun c ca ch ch' b J cW=>ng c ca ch ch' b (hR J) (hR cW),?_⟩
 .by_cases e:c=d
  .rw[e,dh]
  .rw[du _ _ e];exact gh c (fun ay=>by rcases as8.1 ay with h |h;exact e h;exact J h)
 .rcases O with O |O
  .exact l9 b O
  .obtain⟨g1,g2,cK⟩:=ma d _ rV b O;exact⟨g1,.inr cK⟩
 .have k8:=a8 J;obtain⟨_,g2⟩:=GG G J;rw[du _ _ k8];exact Holds.cr a2 (fun _ _=>rfl) (as2 _) ch (fun j V=>du _ _ fun e=>by rw[e,g2 d (at7.2 rfl)] at V;cases V) (mB c ch (hR J))
 .obtain⟨g1,g2,cK⟩:=ma c ch (hR J) b O;refine⟨g1,fun a1=>?_,cK⟩;rcases a1 with a1 |a1
  .exact g2 a1
  .exact ng c d ch _ b (hR J) rV (a8 J) O a1
 .have hx:x=(ρ' d).eS:=oz;rw[hx];exact dI
def Fn.ae7 {P:aH6} {f:aI5} {args:List aS} {aJ:aA} {bb:aH0} {d:Nat} {e:aI0} {u:bB} {xs:List (aa u)} {res:aS} {aT:aA} (h:Fn P f args aJ (d::bb) res (aT++[(d,.row e u xs)])) (E:(ct aT).contains d=false) (G:AQ [d] aT=true) (ah:(res.eb d (.bG u xs)).has d=false):
  Fn P f args aJ bb (res.eb d (.bG u xs)) aT:=by
 have b':aj aT d=none:=by
  cases e:aj aT d with
  |none=>rfl
  |some x=>rw[av4.2 (gL.2 ⟨x,e⟩)] at E;cases E
 have rV:aj (aT++[(d,ba.row e u xs)]) d=some (.row e u xs):=by rw[i1,b'];simp[aj]
 have hR: ∀{c ch},aj aT c=some ch->aj (aT++[(d,ba.row e u xs)]) c=some ch:=fun {c ch} J=>by rw[i1,J]
 have a8: ∀{c ch},aj aT c=some ch->c≠d:=fun {c ch} J e=>by rw[e,b'] at J;cases J
 refine⟨h.1,fun ρ F I w bZ b4 cf a3 a4 a5 gR=>(h.2 ρ F I w bZ b4 cf a3 a4 a5 gR).mono ?_⟩;rintro ex w' ⟨x,ρ',F',r1,r2,gh,I',kr,l9,mB,ma,ng,oz⟩;have gm:=mB d _ rV;have At: ∀b,I' b->(fun b=>I' b\/F' d b) b:=fun b O=>.inl O
 have a2:cp I' w' (fun b=>I' b\/F' d b) w':=fun b O=>⟨.inl O,rfl⟩
 have dI:gY (fun b=>I' b\/F' d b) w' (.bG u xs) (ρ' d).eS:=Cw gm At (fun b O=>.inr O);refine⟨x,dp ρ' d (ρ d),F',r1,r2,fun c J=>?_,fun b=>I' b\/F' d b,fun b O=>⟨.inl (kr b O).1,(kr b O).2⟩,fun b O=>?_,fun c ch J=>?_,fun c ch J b O=>?_,fun c ca ch ch' b J cW=>ng c ca ch ch' b (hR J) (hR cW),?_⟩
 .by_cases e:c=d
  .rw[e,dh]
  .rw[du _ _ e];exact gh c (fun ay=>by rcases as8.1 ay with h |h;exact e h;exact J h)
 .rcases O with O |O
  .exact l9 b O
  .obtain⟨g1,g2,cK⟩:=ma d _ rV b O;exact⟨g1,.inr cK⟩
 .have k8:=a8 J;obtain⟨_,g2⟩:=GG G J;rw[du _ _ k8];exact Holds.cr a2 (fun _ _=>rfl) (as2 _) ch (fun j V=>du _ _ fun e=>by rw[e,g2 d (at7.2 rfl)] at V;cases V) (mB c ch (hR J))
 .obtain⟨g1,g2,cK⟩:=ma c ch (hR J) b O;refine⟨g1,fun a1=>?_,cK⟩;rcases a1 with a1 |a1
  .exact g2 a1
  .exact ng c d ch _ b (hR J) rV (a8 J) O a1
 .have az:cA ρ' (fun b=>I' b\/F' d b) w' (res.eb d (.bG u xs)) x:=cA.eb a2 dI res x oz;exact cA.mono (cp.refl _ _) _ _ (fun c J=>du _ _ fun e=>by subst e;rw[ah] at J;cases J) az
def Fn.own {P:aH6} {f:aI5} {args:List aS} {aJ:aA} {bb:aH0} {d:Nat} {e:aI0} {u:bB} {xs:List (aa u)} {res:aS} {aT:aA} (h:Fn P f (args.map (aS.eb d (.bG u xs))) aJ bb res aT) (E:(ct aJ).contains d=false):
  Fn P f args (aJ++[(d,.row e u xs)]) bb res aT:=by
 have b':aj aJ d=none:=by
  cases e:aj aJ d with
  |none=>rfl
  |some x=>rw[av4.2 (gL.2 ⟨x,e⟩)] at E;cases E
 have rV:aj (aJ++[(d,ba.row e u xs)]) d=some (.row e u xs):=by rw[i1,b'];simp[aj]
 have hR: ∀{c ch},aj aJ c=some ch->aj (aJ++[(d,ba.row e u xs)]) c=some ch:=fun {c ch} J=>by rw[i1,J]
 have a8: ∀{c ch},aj aJ c=some ch->c≠d:=fun {c ch} J e=>by rw[e,b'] at J;cases J
 refine⟨h.1,fun ρ F I w bZ b4 cf a3 a4 a5 gR=>?_⟩;have gm:=cf d _ rV;have a2:cp I w (fun b=>I b\/F d b) w:=fun b O=>⟨.inl O,rfl⟩
 have dI:gY (fun b=>I b\/F d b) w (.bG u xs) (ρ d).eS:=Cw gm (fun b O=>.inl O) (fun b O=>.inr O)
 refine(h.2 ρ F (fun b=>I b\/F d b) w bZ (fun b O=>O.elim (b4 b) fun O=>(a3 d _ rV b O).1) (fun c ch J=>Holds.cr a2 (fun _ _=>rfl) (as2 _) ch (fun _ _=>rfl) (cf c ch (hR J)))
  (fun c ch J b O=>⟨(a3 c ch (hR J) b O).1,fun a1=>a1.elim (a3 c ch (hR J) b O).2 fun H=>a4 c d ch _ b (hR J) rV (a8 J) O H⟩) (fun c ca ch ch' b J cW=>a4 c ca ch ch' b (hR J) (hR cW)) (by rw[at8];exact a5) (fun i v x az hx=>?_)).mono ?_
 .rw[au8] at az;obtain⟨s,au,rfl⟩:=aw3.1 az;exact cA.eb a2 dI s x (gR i s x au hx)
 .rintro ex w' ⟨x,ρ',F',r1,r2,gh,I',kr,l9,mB,ma,ng,oz⟩;refine⟨x,ρ',F',r1,r2.mono fun b _ ⟨c,ch,J,O⟩=>⟨c,ch,hR J,O⟩,gh,I',fun b O=>kr b (.inl O),fun b O=>⟨(l9 b O).1,?_⟩,mB,fun c ch J b O=>?_,ng,oz⟩
  .rcases(l9 b O).2 with h |⟨c,ch,J,O⟩ |h
   .exact h.elim .inl fun h=>.inr (.inl ⟨d,_,rV,h⟩)
   .exact .inr (.inl ⟨c,ch,hR J,O⟩)
   .exact .inr (.inr h)
  .obtain⟨g1,g2,cK⟩:=ma c ch J b O;exact⟨g1,g2,cK.imp (fun⟨c,ch,J,O⟩=>⟨c,ch,hR J,O⟩) id⟩
end
section
structure bL where
 z:Nat
 t:List fo
 l:List Int
 f:lP
abbrev ae8 (n:Int):List bE:=[.d (.int .i64 n),.ptr 1002 0,.ptr 1003 0,.mp 1004,.dV]
abbrev dM (s:bL):aA:=[(1001,.cells (ae8 s.z)),(1002,.aH (rT s.t)),(1003,.aH (rU s.l)),(1004,.aH (ni s.f))]
def jr (s:bL):bg:=.jq 1001 (dM s)
def ae9 (t:List fo):Fn prog 165 [ap 1001] [(1001,.aH (rT t))] [] (ab (t.length:Nat)) [(1001,.aH (rT t))]:=
 Fn.Gr (sZ:=fun es:{es//oB t es}=>.jq 1001 (pr (t.length:Nat) es.1)) aD4 (fun _ _ _ _ ⟨es,h,aU⟩=>⟨⟨es,h⟩,aU⟩) fun es=>
  Fn.close [1002] (aeG _ es.1) (fun _ _ _ _ h=>h) (fun _ _ _ _ h=>⟨es.1,es.2,h⟩) rfl rfl
def Dp (t:List fo) (ak:t.length<=256) (c:Nat) (J:c < t.length):Fn prog 167 [ap 1001,ab (c:Int)] [(1001,.aH (rT t))] [] (.c (p0 t[c])) [(1001,.aH (rT t))]:=
 Fn.Gr (sZ:=fun es:{es//oB t es}=>.jq 1001 (pr (t.length:Nat) es.1)) aD4 (fun _ _ _ _ ⟨es,h,aU⟩=>⟨⟨es,h⟩,aU⟩) fun es=>
  Fn.close [1002] (Sd es.2 ak c J) (fun _ _ _ _ h=>h) (fun _ _ _ _ h=>⟨es.1,es.2,h⟩) rfl rfl
def ae' (t:List fo) (ak:t.length<=256) (c:Nat) (J:c < t.length) (s:fo) (au:uh s) (ax:rR s=true):
  Fn prog 205 [ap 1001,ab (c:Int),.c (p0 s)] [(1001,.aH (rT t))] [] (.cn [p0 t[c],dJ 0]) [(1001,.aH (rT (t.set c s)))]:=
 Fn.Gr (sZ:=fun es:{es//oB t es}=>.jq 1001 (pr (t.length:Nat) es.1)) aD4 (fun _ _ _ _ ⟨es,h,aU⟩=>⟨⟨es,h⟩,aU⟩) fun es=>
  Fn.close [1002] (aeO es.2 ak c J s au ax) (fun _ _ _ _ h=>h) (fun _ _ _ _ h=>⟨_,es.2.set c s au,by rw[ay0];exact h⟩) rfl rfl
def afa (l:aI2) (h:Nat) (n:Int) (hn:l[h]? =some n) (E:1<=n) (G:n<=65535):Fn prog 230 [ap 1001,ab (h:Int)] [(1001,.aH (rU l))] [] (.cn [.one (.d (.int .i64 (n - 1))),dJ 0]) [(1001,.aH (rU (l.set h (n - 1))))]:=
 Fn.close [1002] (aeU l h n hn E G) (fun _ _ _ _ h=>h) (fun _ _ _ _ h=>h) rfl rfl
def afb (l:aI2) (ak:l.length<=1000000):Fn prog 203 [ap 1001] [(1001,.aH (rU l))] [] (ab (d6 l:Nat)) [(1001,.aH (rU l))]:=
 Fn.close [1002] (aeX l ak) (fun _ _ _ _ h=>h) (fun _ _ _ _ h=>h) rfl rfl
def afc (l:aI2) (ak:l.length<=1000000) (h:Nat) (bd:l[h]? =some 0) (hf: ∀j,j < h->l[j]? ≠some 0):Fn prog 204 [ap 1001] [(1001,.aH (rU l))] [] (.cn [.one (.d (.int .i64 (h:Int))),dJ 0]) [(1001,.aH (rU (l.set h 1)))]:=
 Fn.close [1002] (aeZ l ak h bd hf) (fun _ _ _ _ h=>h) (fun _ _ _ _ h=>h) rfl rfl
def aG (s:bL):Nat:=16*2 ^s.z
def js {b:Nat} (h:b<=3):1<=2 ^b/\2 ^b<=8:=by
 match b,h with
 |0,_=>decide
 |1,_=>decide
 |2,_=>decide
 |3,_=>decide
def uj {s:bL} (h:s.z<=3):16<=aG s/\aG s<=128:=by have:=js h;unfold aG;omega
def qP (s:bL) (O:s.z<=3):Fn prog 163 [ap 1001] (dM s) [] (ab (aG s:Nat)) (dM s):=by
 have h:=js O;have e:(16:Int)*((2 ^s.z:Nat):Int)=((aG s:Nat):Int):=by unfold aG;omega
 refine aY [] func163 ?_;have m:(0:Int)<=16/\(0:Int)<=(s.z:Int)/\(s.z:Int)<=64:=aD9
 have m2:(-9223372036854775808:Int)<=16*((2 ^s.z:Nat):Int)/\(16:Int)*((2 ^s.z:Nat):Int)<=9223372036854775807:=aD9
 exact⟨m,m2,eN bt rfl e⟩
def nR (s:bL):Fn prog 112 [ap 1001] (dM s) [] (ab (s.t.length:Nat)) (dM s):=by refine aY [] func112 ?_;exact ar (Fn.aX [(1001,1002)] (ae9 s.t)) bh
def afd (s:bL) (ak:s.t.length<=256) (c:Nat) (J:c < s.t.length):Fn prog 116 [ap 1001,ab (c:Int)] (dM s) [] (ab (s.t[c]).1) (dM s):=by refine aY [] func116 ?_;refine ar (Fn.aX [(1001,1002)] (Dp s.t ak c J)) <| bc (Ld rfl underlying243 rfl underlying3 rfl rfl rfl) ?_;exact bh
def Sq (s:bL) (ak:s.l.length<=1000000):Fn prog 160 [ap 1001] (dM s) [] (ab (d6 s.l:Nat)) (dM s):=by refine aY [] func160 ?_;exact ar (Fn.aX [(1001,1003),(1002,2003)] (afb s.l ak)) bh
def Sr (x:aG9) (hx:x.length<=4294967296):Fn prog 169 [eC 1001] [(1001,.row 5 .u8 x)] [1002] (eC 1002) [(1001,.row 5 .u8 x),(1002,.row 5 .u8 x)]:=by
 refine aY [1] func169 ?_;refine bw.iJ fa aD4 ⟨_,adP (c:=1001) rfl rfl rfl underlying31,fun v e h=>?_⟩;obtain⟨b,O,rfl,rfl⟩:=h
 cases b
 .refine⟨rfl,?_⟩;have m1:([]:aG9).length+x.length<=4294967296:=aE3
  exact⟨m1,rfl,_,_,_,ac.aX 7 1002 rfl,rfl,rfl,aD,rfl⟩
 .have O:=O rfl;subst O;exact⟨_,_,_,ac.nil 2 1002 5 .u8 rfl rfl,rfl,rfl,aD,rfl⟩
def afe (x:aG9) (hx:x.length<=4294967296):Fn prog 169 [bP .u8 x] [] [2001] (eC 2001) [(2001,.row 5 .u8 x)]:=by
 refine aY [1] func169 ?_;refine bw.iJ fa aD4 ⟨_,RO rfl rfl underlying31,fun v e h=>?_⟩;obtain⟨b,O,rfl,rfl⟩:=h
 cases b
 .refine⟨rfl,?_⟩;have ak:0+x.length<=4294967296:=aD9
  exact⟨ak,rfl,_,_,_,ac.aX 7 2001 rfl,rfl,rfl,aD,rfl⟩
 .have O:=O rfl;subst O;exact⟨_,_,_,ac.nil 2 2001 5 .u8 rfl rfl,rfl,rfl,aD,rfl⟩
def Ss {f:lP} {k:Int} {xs:aG9} (h:f k=some xs):jL f k xs=f:=funext fun j=>by
 unfold jL
 split
 .rename_i e;rw[e,h]
 .rfl
def Ll:(prog.info? 31).map (fun i=>(i.zero,i.size,i.bytes))=some (some (.slice none 0 0),1,24):=by kernel_rfl
def i2 (s:bL):aG9:=List.replicate (aG s) 0
def ep (s:bL) (c:Nat) (y:Option aG9):aG9:=match s.t[c]? with
 |some q=>if q.1=1 then(s.f q.2.1).getD [] else if q.1=0 then(match y with
  |some y=>if y.length=aG s then y else i2 s
  |none=>i2 s) else i2 s
 |none=>[]
def aff (s:bL) (O:s.z<=3) (ak:s.t.length<=256) (c:Nat) (J:c < s.t.length) (hf:(s.t[c]).1=1-> ∃xs,s.f (s.t[c]).2.1=some xs/\xs.length<=128):
  Fn prog 146 [ap 1001,ab (c:Int),.c (.one (.bN .nilFunc))] (dM s) [2001] (eC 2001) (dM s++[(2001,.row 5 .u8 (ep s c none))]):=by
 obtain⟨di,kG,jX,vt,AO⟩:=info_parts Ll;have hw:=uj O
 have dW:ep s c none=if(s.t[c]).1=1 then(s.f (s.t[c]).2.1).getD [] else i2 s:=by
  unfold ep;rw[as0 J];simp
 refine aY [] func146 ?_;refine ar (Fn.aX [(1001,1002)] (Dp s.t ak c J)) ⟨rfl,fun h=>?_,fun h=>?_⟩
 .have h:=gd h;obtain⟨xs,hx,tY⟩:=hf h;rw[vj h,hx] at dW;refine bc (GE (d:=5001) (k:=(s.t[c]).2.1) rfl underlying169 underlying3 rfl kG jX rfl rfl rfl hx) ?_;refine ar (Fn.aX [(1001,5001),(1002,2001)] (Sr xs aD1)) ⟨rfl,?_⟩;exact⟨_,_,_,ac.GF 1004 5001 (Ss hx) rfl rfl aD2 (by rw[hx];rfl),rfl,rfl,⟨rfl,rfl,rfl,rfl,by rw[dW];rfl,trivial⟩,rfl⟩
 .have h:=oj h;rw[mu h] at dW;have m:(0:Int)<=(aG s:Nat)/\((aG s:Nat):Int)<=4294967296:=aD9
  refine⟨fun aw=>?_,fun aw=>?_⟩
  .refine bc (aex (.inr ⟨rfl,rfl⟩) rfl underlying176 rfl) ?_;refine ar (qP s O) ⟨⟨rfl,m⟩,rfl,?_⟩;exact⟨_,_,_,ac.aX 45 2001 rfl,rfl,rfl,⟨rfl,rfl,rfl,rfl,by rw[dW];rfl,trivial⟩,rfl⟩
  .refine ar (qP s O) ⟨⟨rfl,m⟩,rfl,?_⟩;exact⟨_,_,_,ac.aX 45 2001 rfl,rfl,rfl,⟨rfl,rfl,rfl,rfl,by rw[dW];rfl,trivial⟩,rfl⟩
abbrev nS (b1 b2:Nat):aS:=.c (.one (.d (.fn (158,[b1,b2]))))
abbrev gn (s:bL) (bp:bq->bg):aA:=dM s++[(9000,.b7 1001 bp)]
def GJ (s:bL) (bp:bq->bg) (b1 b2:Nat) (c:Nat) (y:aG9):Prop:=
 y.length<=1000000/\Fn prog 158 [ab (c:Int),dy b1,dy b2] (gn s bp) [] (bP .u8 y) (gn s bp)
def afg (s:bL) (bp:bq->bg) (b1 b2:Nat) (O:s.z<=3) (ak:s.t.length<=256) (c:Nat) (J:c < s.t.length) (hf:(s.t[c]).1=1-> ∃xs,s.f (s.t[c]).2.1=some xs/\xs.length<=128) (y:aG9) (cQ:(s.t[c]).1=0->GJ s bp b1 b2 c y):
  Fn prog 146 [ap 1001,ab (c:Int),nS b1 b2] (gn s bp) [2001] (eC 2001) (gn s bp++[(2001,.row 5 .u8 (ep s c (some y)))]):=by
 obtain⟨di,kG,jX,vt,AO⟩:=info_parts Ll;have hw:=uj O
 have dW:ep s c (some y)=if(s.t[c]).1=1 then(s.f (s.t[c]).2.1).getD [] else if(s.t[c]).1=0 then(if y.length=aG s then y else i2 s) else i2 s:=by
  unfold ep;rw[as0 J]
 refine aY [7,8] func146 ?_;refine ar (Fn.aX [(1001,1002)] (Dp s.t ak c J)) ⟨rfl,fun h=>?_,fun h=>?_⟩
 .have h:=gd h;obtain⟨xs,hx,tY⟩:=hf h;rw[vj h,hx] at dW;refine bc (GE (d:=5001) (k:=(s.t[c]).2.1) rfl underlying169 underlying3 rfl kG jX rfl rfl rfl hx) ?_;refine ar (Fn.aX [(1001,5001),(1002,2001)] (Sr xs aD1)) ⟨rfl,?_⟩;exact⟨_,_,_,ac.GF 1004 5001 (Ss hx) rfl rfl aD2 (by rw[hx];rfl),rfl,rfl,⟨rfl,rfl,rfl,rfl,rfl,by rw[dW];rfl,trivial⟩,rfl⟩
 .have h:=oj h;rw[mu h] at dW;have m:(0:Int)<=(aG s:Nat)/\((aG s:Nat):Int)<=4294967296:=aD9
  refine⟨fun aw=>?_,fun aw=>?_⟩
  .have aw:=gd aw;obtain⟨St,cQ⟩:=cQ aw;rw[vj aw] at dW;refine bc (aew (.inr ⟨rfl,rfl⟩) rfl underlying176 rfl) ?_;refine ar cQ <| ar (qP s O) ⟨fun G=>?_,fun G=>?_⟩
   .have G:(y.length:Int)=(aG s:Nat):=gd G;have G:y.length=aG s:=aD9
    rw[vj G] at dW;refine bz [] (cM [(8,bP .u8 y)] (gn s bp)) <| ar (afe y aD1) ?_;exact sY bt rfl rfl ⟨rfl,rfl,rfl,rfl,rfl,by rw[dW];rfl,trivial⟩ rfl
   .have G: ¬(y.length:Int)=(aG s:Nat):=oj G;have G: ¬y.length=aG s:=aD9
    rw[mu G] at dW;refine bz [] (cM [(0,ap 1001)] (gn s bp)) <| ar (qP s O) ⟨⟨rfl,m⟩,rfl,?_⟩;exact⟨_,_,_,ac.aX 45 2001 rfl,rfl,rfl,⟨rfl,rfl,rfl,rfl,rfl,by rw[dW];rfl,trivial⟩,rfl⟩
  .have aw:=oj aw;rw[mu aw] at dW;refine bz [] (cM [(0,ap 1001)] (gn s bp)) <| ar (qP s O) ⟨⟨rfl,m⟩,rfl,?_⟩;exact⟨_,_,_,ac.aX 45 2001 rfl,rfl,rfl,⟨rfl,rfl,rfl,rfl,rfl,by rw[dW];rfl,trivial⟩,rfl⟩
def AR (s:bL) (q:fo):bL:=if q.1=1 then {s with l:=s.l.set q.2.1.toNat 0,f:=Dm s.f q.2.1} else s
def afh (s:bL) (q:fo) (aQ:q.1=1-> ∃h:Nat,q.2.1=(h:Int)/\s.l[h]? =some 1):Fn prog 206 [ap 1001,.c (p0 q)] (dM s) [] g4 (dM (AR s q)):=by
 refine aY [] func206 ?_;refine⟨rfl,fun E=>?_,fun E=>?_⟩
 .have E: ¬q.1=1:=by
   have E:(!decide (q.1=1))=true:=E;simpa using E
  rw[show AR s q=s from mu E];exact bh
 .have E:q.1=1:=by
   have E:(!decide (q.1=1))=false:=E;simpa using E
  obtain⟨h,e,ak⟩:=aQ E;rw[show AR s q={s with l:=s.l.set q.2.1.toNat 0,f:=Dm s.f q.2.1} from vj E];obtain⟨k,x,o⟩:=q;simp only at e;subst e;refine ar (Fn.aX [(1001,1003),(1002,2003)] (afa s.l h 1 ak aD2 aD2)) ⟨rfl,fm <| bc (ae6 (k:=(h:Int)) rfl underlying169 underlying3 rfl rfl rfl rfl) ?_⟩;exact⟨rfl,bh⟩
def rW (s:bL) (c:Nat) (q:fo):bL:=AR {s with t:=s.t.set c q} (s.t.getD c ck)
def Lm (s:bL) (ak:s.t.length<=256) (c:Nat) (J:c < s.t.length) (q:fo) (au:uh q) (ax:rR q=true) (aQ:(s.t.getD c ck).1=1-> ∃h:Nat,(s.t.getD c ck).2.1=(h:Int)/\s.l[h]? =some 1):
  Fn prog 164 [ap 1001,ab (c:Int),.c (p0 q)] (dM s) [] g4 (dM (rW s c q)):=by
 have e:s.t[c]=s.t.getD c ck:=by rw[as7,as0 J];rfl
 have hb:=ae' s.t ak c J q au ax;unfold rW;rw[e] at hb;generalize s.t.getD c ck=rr at aQ hb;refine aY [] func164 ?_;refine⟨rfl,ar (Fn.aX [(1001,1002)] hb) ⟨rfl,rfl,?_⟩⟩;exact ar (afh {s with t:=s.t.set c q} rr aQ) bh
structure nj where
 c:Nat
 a:Nat
 b:Nat
 at_:Nat
abbrev vw (p:nj):List bE:=[.d (.int .i64 (p.c:Int)),.d (.int .i64 (p.a:Int)),.d (.int .i64 (p.b:Int)),.d (.int .i64 (p.at_:Int))]
abbrev qQ (p:nj):aS:=.c (.agg (vw p))
def hD (s:bL) (c:Nat):Bool:= !vr (s.t.getD c ck)
def Ln (s:bL) (ak:s.t.length<=256) (p:nj) (J:p.c < s.t.length):Fn prog 159 [ap 1001,qQ p] (dM s) [] (fX (hD s p.c)) (dM s):=by
 have e:s.t[p.c]=s.t.getD p.c ck:=by rw[as7,as0 J];rfl
 have m4:=Dp s.t ak p.c J;unfold hD;rw[e] at m4;refine aY [] func159 ?_;exact⟨rfl,ar (Fn.aX [(1001,1002)] m4) <| ar (aeF (s.t.getD p.c ck)) ⟨rfl,bh⟩⟩
structure gB (s:bL):Prop where
 z:s.z<=3
 eY:s.t.length<=256
 lQ:s.l.length<=512
 slot: ∀(c:Nat) (q:fo),s.t[c]? =some q->q=ck\/q=((2:Int),(0:Int),false)\/ ∃h:Nat,q=((1:Int),(h:Int),true)/\s.l[h]? =some 1/\ ∃xs,s.f (h:Int)=some xs/\xs.length=aG s
 inj: ∀(c d:Nat) (h:Int),s.t[c]? =some ((1:Int),h,true)->s.t[d]? =some ((1:Int),h,true)->c=d
 GK: ∀(h:Nat) n,s.l[h]? =some n->n=0\/n=1
 AS: ∀h:Nat,s.l[h]? =some 0->s.f (h:Int)=none
 GL: ∀h:Nat,s.l[h]? =some 1-> ∃c:Nat,s.t[c]? =some ((1:Int),(h:Int),true)
 dom: ∀(k:Int) xs,s.f k=some xs->xs.length<=128
def ij (l:aI2):Nat:=l.findIdx fun n=>decide (n=0)
def Lo {l:aI2} (h:0 < d6 l):l[ij l]? =some 0/\ ∀j,j < ij l->l[j]? ≠some 0:=by
 have bv:ij l < l.length:=by
  unfold ij;rw[List.findIdx_lt_length];unfold d6 at h;obtain⟨x,hx⟩:=List.exists_mem_of_length_pos h;rw[aB9] at hx;exact⟨x,hx.1,hx.2⟩
 refine⟨?_,fun j V e=>?_⟩
 .have:=List.findIdx_getElem (xs:=l) (p:=fun n=>decide (n=0)) (w:=bv);rw[as0 bv];exact as5 some (gd this)
 .have dF:j < l.length:=aD9
  have:=List.not_of_lt_findIdx (p:=fun n=>decide (n=0)) (xs:=l) V;rw[as0 dF] at e;injection e with e
  simp[e] at this
def nk (s:bL) (c:Nat) (y:aG9):bL:=
 if hD s c=true then {s with t:=s.t.set c ((1:Int),(ij s.l:Int),true),l:=s.l.set (ij s.l) 1,f:=jL s.f (ij s.l:Int) (ep s c (some y))} else s
def GM (s:bL) (p:nj) (bs:aG9):bL:={s with f:=jL s.f (s.t.getD p.c ck).2.1 (laid ((s.f (s.t.getD p.c ck).2.1).getD []) p.a (p.b - p.a) bs)}
def yx (s:bL) (p:nj) (bs:aG9) (y:aG9):bL:=GM (nk s p.c y) p bs
abbrev Su (bs:aG9):aZ:=[(0,ap 1001),(2,bP .u8 bs),(5,ap 5)]
abbrev Sv (s:bL) (bp:bq->bg) (p:nj):aA:=(5,.cells (vw p))::gn s bp
def AT {t:List fo} {c:Nat} {q:fo} (h:t[c]? =some q):t.getD c ck=q:=by rw[as7,h];rfl
def vx {s:bL} (aq:gB s) {c:Nat} (J:c < s.t.length) (y:Option aG9):(ep s c y).length=aG s:=by
 have aN:(i2 s).length=aG s:=at5;have aU:s.t[c]? =some s.t[c]:=as0 J;unfold ep;rw[aU];simp only;rcases aq.slot c _ aU with e |e |⟨h,e,_,xs,hx,ak⟩
 .rw[e,mu aD2,vj aD2]
  split
  .split
   .rename_i h;exact h
   .exact aN
  .exact aN
 .rw[e,mu aD2,mu aD2];exact aN
 .rw[e,vj rfl];simp only[hx,az1];exact ak
def GN {s:bL} (aq:gB s) {c:Nat} (J:c < s.t.length):(hD s c=true/\(s.t.getD c ck=ck\/s.t.getD c ck=((2:Int),(0:Int),false)))\/(hD s c=false/\ ∃h:Nat,s.t[c]? =some ((1:Int),(h:Int),true)/\s.l[h]? =some 1/\ ∃xs,s.f (h:Int)=some xs/\xs.length=aG s):=by
 have aU:s.t[c]? =some s.t[c]:=as0 J;have H:=AT aU;unfold hD vr;rw[H];rcases aq.slot c _ aU with e |e |⟨h,e,G⟩
 .rw[e];exact .inl ⟨rfl,.inl rfl⟩
 .rw[e];exact .inl ⟨rfl,.inr rfl⟩
 .rw[e] at aU⊢;exact .inr ⟨rfl,h,aU,G⟩
def Sw {s:bL} (h:s.z<=3):aG s<=128:=by have:=js h;show 16*2 ^s.z<=128;omega
def Sx {f:lP} (h: ∀(k:Int) xs,f k=some xs->xs.length<=128) {GO:Int} {ys:aG9} (aC:ys.length<=128): ∀(k:Int) xs,jL f GO ys k=some xs->xs.length<=128:=fun k xs Z=>by
 unfold jL at Z
 split at Z
 .injection Z with Z
  rw[<-Z];exact aC
 .exact h k xs Z
def Sy {s:bL} (aq:gB s) {c:Nat} (J:c < s.t.length) (y:aG9) (aN:hD s c=true->0 < d6 s.l):
  gB (nk s c y)/\aG (nk s c y)=aG s/\(nk s c y).t.length=s.t.length/\ ∃h:Nat,(nk s c y).t[c]? =some ((1:Int),(h:Int),true)/\(nk s c y).f (h:Int)=some (ep s c (some y)):=by
 rcases GN aq J with⟨hn,aQ⟩ |⟨hn,h,E,G,xs,ah,aW⟩
 .obtain⟨k2,rA⟩:=Lo (aN hn);have bv:ij s.l < s.l.length:=(at0.1 k2).1;have jF:=aq.AS _ k2;have dW:=vx aq J (some y);have nb:s.t[c]? =some (s.t.getD c ck):=by rw[as7,as0 J];rfl
  rw[show nk s c y={s with t:=s.t.set c ((1:Int),(ij s.l:Int),true),l:=s.l.set (ij s.l) 1,f:=jL s.f (ij s.l:Int) (ep s c (some y))} from vj hn];generalize ep s c (some y)=xs at dW;generalize ij s.l=aw at*
  have Sz: ∀(d:Nat),s.t[d]? ≠some ((1:Int),(aw:Int),true):=fun d e=>by
   rcases aq.slot d _ e with ao |ao |⟨h,ao,ah,_⟩
   .cases ao
   .cases ao
   .have:(aw:Int)=(h:Int):=by injection ao with _ ao;injection ao
    have:aw=h:=aD9
    subst this;rw[k2] at ah
    cases ah
  refine⟨⟨aq.z,by show(s.t.set _ _).length<=256;rw[ay0];exact aq.eY,by show(s.l.set _ _).length<=512;rw[ay0];exact aq.lQ,fun d q aQ=>?_,fun d e h H U=>?_,fun h n hn=>?_,fun h bd=>?_,fun h bd=>?_,Sx aq.dom (by rw[dW];exact Sw aq.z)⟩,rfl,ay0,aw,?_,vj rfl⟩
  .rw[aA0] at aQ
   split at aQ
   .rename_i e;subst e;injection aQ with aQ
    exact .inr (.inr ⟨aw,aQ.symm,by rw[ax8 bv],xs,vj rfl,dW⟩)
   .rcases aq.slot d q aQ with e |e |⟨h,e,g1,ys,g2,cK⟩
    .exact .inl e
    .exact .inr (.inl e)
    .have a8:aw≠h:=fun e=>by subst e;rw[k2] at g1;cases g1
     exact .inr (.inr ⟨h,e,by rw[ax1 a8];exact g1,ys,by show(if(h:Int)=(aw:Int) then some xs else s.f h)=some ys;rw[mu aD1];exact g2,cK⟩)
  .rw[aA0] at H U
   split at H
   .rename_i af
    split at U
    .rename_i ao;rw[<-af,<-ao]
    .have:(aw:Int)=h:=by injection H with H;injection H with _ H;injection H
     subst this;exact as3 U (Sz e)
   .split at U
    .rename_i ao;have:(aw:Int)=h:=by injection U with H;injection H with _ H;injection H
     subst this;exact as3 H (Sz d)
    .exact aq.inj d e h H U
  .rw[aA0] at hn
   split at hn
   .rename_i e;injection hn with hn
    exact .inr hn.symm
   .exact aq.GK h n hn
  .rw[aA0] at bd
   split at bd
   .rename_i e;injection bd with bd
    exact as3 bd aD2
   .rename_i e;show(if(h:Int)=(aw:Int) then some xs else s.f h)=none;rw[mu aD1];exact aq.AS h bd
  .by_cases e:aw=h
   .subst e;exact⟨c,ax8 J⟩
   .rw[ax1 e] at bd;obtain⟨d,H⟩:=aq.GL h bd
    have a8:c≠d:=fun ao=>by
     subst ao;rw[nb] at H;injection H with H
     rw[H] at aQ;rcases aQ with aQ |aQ <;>cases aQ
    exact⟨d,by rw[ax1 a8];exact H⟩
  .exact ax8 J
 .have e:nk s c y=s:=mu (by rw[hn];decide);rw[e];refine⟨aq,rfl,rfl,h,E,?_⟩;unfold ep;rw[E];simp only[vj,ah,az1]
def SA (s:bL) (bp:bq->bg) (b1 b2:Nat) (aq:gB s) (p:nj) (J:p.c < s.t.length) (bs:aG9) (E:p.a<=p.b) (G:p.b<=aG s) (ah:bs.length=p.b - p.a) (y:aG9) (cQ:(s.t[p.c]).1=0->GJ s bp b1 b2 p.c y) (aN:hD s p.c=true->0 < d6 s.l):
  Fn prog 161 [ap 1001,qQ p,bP .u8 bs,nS b1 b2] (gn s bp) [] g4 (gn (yx s p bs y) bp):=by
 obtain⟨di,kG,jX,vt,AO⟩:=info_parts Ll;have hw:=uj aq.z;have e:s.t[p.c]=s.t.getD p.c ck:=by rw[as7,as0 J];rfl
 obtain⟨fH,g5,nl,eB,vy,w7⟩:=Sy aq J y aN;have dW:=vx aq J (some y);unfold yx
 have fG:=afg s bp b1 b2 aq.z aq.eY p.c J (fun h=>by
  rcases aq.slot p.c _ (as0 J) with ao |ao |⟨h,ao,_,xs,hx,ak⟩
  .rw[ao] at h;cases h
  .rw[ao] at h;cases h
  .rw[ao];exact⟨xs,hx,aD1⟩) y cQ
 generalize er:nk s p.c y=s' at fH g5 nl vy w7;have od:=AT vy
 have ww:s'.t[p.c]'aD1=((1:Int),(eB:Int),true):=by
  have:=as0 (l:=s'.t) (i:=p.c) aD1;rw[vy] at this;injection this with this
  exact this.symm
 have Dq:=Dp s'.t fH.eY p.c aD1;rw[ww] at Dq;unfold GM;rw[od];simp only[w7,az1];have m:(0:Int)<=(p.a:Int)/\(p.a:Int)<=(p.b:Int)/\(p.b:Int)<=(((ep s p.c (some y)).length:Nat):Int):=aD9
 have m2:p.a+(p.b - p.a)<=(ep s p.c (some y)).length:=aD9
 have wG:jL s'.f (eB:Int) (laid (ep s p.c (some y)) p.a (p.b - p.a) bs)=jL s'.f (eB:Int) (laid (ep s p.c (some y)) p.a (p.b - p.a) bs):=rfl;refine aY [3,5,6] func161 ?_;refine⟨rfl,ar (Ln s aq.eY p J) ⟨fun hn=>?_,fun hn=>?_⟩⟩
 .obtain⟨k2,rA⟩:=Lo (aN hn);refine ar fG <| bz [5,6] (cM [(0,ap 1001),(2,bP .u8 bs),(5,ap 5),(8,eC 2001)] ((5,.cells (vw p))::(2001,.row 5 .u8 (ep s p.c (some y)))::gn s bp)) ?_;refine ar (Fn.aX [(1001,1003),(1002,2003)] (afc s.l (by have:=aq.lQ;omega) (ij s.l) k2 rA)) <| bc (fun N=>ae4 (d:=2001) (k:=(ij s.l:Int)) rfl underlying169 underlying3 rfl rfl rfl rfl rfl rfl aD2 (aq.AS _ k2) N) ?_;refine bz [6] (cM [(0,ap 1001),(2,bP .u8 bs),(5,ap 5),(9,ab (ij s.l:Nat))] ((5,.cells (vw p))::gn {s with l:=s.l.set (ij s.l) 1,f:=jL s.f (ij s.l:Int) (ep s p.c (some y))} bp)) ?_
  have hb:Fn prog 164 [ap 1001,ab (p.c:Int),.c (p0 ((1:Int),(ij s.l:Int),true))] (dM {s with l:=s.l.set (ij s.l) 1,f:=jL s.f (ij s.l:Int) (ep s p.c (some y))}) [] g4 (dM s'):=by
   have bv:ij s.l < s.l.length:=(at0.1 k2).1;have nh:=aq.lQ
   have wU: ¬(s.t.getD p.c ck).1=1:=by
    rcases GN aq J with⟨_,h⟩ |⟨h,_⟩
    .rcases h with h |h <;>rw[h] <;>decide
    .rw[hn] at h;cases h
   have h:=Lm {s with l:=s.l.set (ij s.l) 1,f:=jL s.f (ij s.l:Int) (ep s p.c (some y))} aq.eY p.c J ((1:Int),(ij s.l:Int),true) ⟨⟨by show(-1000000:Int)<=1;decide,by show(1:Int)<=1000000;decide⟩,by show(-1000000:Int)<=(ij s.l:Int);omega,by show((ij s.l:Nat):Int)<=1000000;omega⟩ (by
    show(if(1:Int)=1 then decide (0<=(ij s.l:Int))&&decide ((ij s.l:Int) < 512) else _)=true;rw[vj rfl,at4 aD1,at4 aD1];rfl) (fun h=>as3 h wU)
   rwa[show rW {s with l:=s.l.set (ij s.l) 1,f:=jL s.f (ij s.l:Int) (ep s p.c (some y))} p.c ((1:Int),(ij s.l:Int),true)=s' by
    rw[<-er];unfold rW AR nk;rw[mu wU,vj hn]] at h
  refine ar (Fn.arg hb ⟨rfl,rfl,aD,trivial⟩) <| bz [] (cM (Su bs) (Sv s' bp p)) <| ar (Fn.aX [(1001,1002)] Dq) <| bc (Ld rfl underlying243 rfl underlying3 rfl rfl rfl) ?_;refine bc (GE (d:=5001) (k:=(eB:Int)) rfl underlying169 underlying3 rfl kG jX rfl rfl rfl w7) ?_;refine⟨m,m2,rfl,?_⟩;exact⟨_,_,_,ac.GF 1004 5001 wG rfl rfl aD2 (by rw[w7];rfl),rfl,trivial,aD,rfl⟩
 .have gc:s=s':=by rw[<-er];unfold nk;rw[mu (by rw[hn];decide)]
  subst gc;refine bz [] (cM (Su bs) (Sv s bp p)) <| ar (Fn.aX [(1001,1002)] Dq) <| bc (Ld rfl underlying243 rfl underlying3 rfl rfl rfl) ?_;refine bc (GE (d:=5001) (k:=(eB:Int)) rfl underlying169 underlying3 rfl kG jX rfl rfl rfl w7) ?_;refine⟨m,m2,rfl,?_⟩;exact⟨_,_,_,ac.GF 1004 5001 wG rfl rfl aD2 (by rw[w7];rfl),rfl,trivial,aD,rfl⟩
def fh (s:bL):Nat:=s.t.length*2 ^s.z
def d2 (s:bL) (at_ aO:Int):Int:=if aO < 0 then 1 else if at_ < 0\/aO >fh s\/at_ >fh s - aO then 121 else 0
def w8 (s:bL) (aq:gB s) (at_ aO:Int):Fn prog 144 [ap 1001,ab at_,ab aO] (dM s) [] (ab (d2 s at_ aO)) (dM s):=by
 have ae:=js aq.z;have nT:=aq.eY;have E:s.t.length*2 ^s.z<=256*8:=ax9 nT ae.2;have e:((s.t.length:Nat):Int)*((2 ^s.z:Nat):Int)=((fh s:Nat):Int):=by unfold fh;rw[az8]
 have dK:fh s<=2048:=E;refine aY [1,2] func144 ?_;refine bw.mA 112 aD2 <| bz [2] (bt) <| wZ rfl rfl rfl (nR s) ?_;have m1:(0:Int)<=(s.t.length:Nat)/\(0:Int)<=(s.z:Int)/\(s.z:Int)<=64:=by have:=aq.z;omega
 have m2:c8 (((s.t.length:Nat):Int)*((2 ^s.z:Nat):Int)):=by rw[e];omega
 refine⟨m1,m2,rfl,bz [] (ac.sub (K':=[(1,ab at_),(2,ab aO),(7,ab (fh s:Nat))]) (B':=dM s) ⟨rfl,rfl,e,trivial⟩ aD) ⟨fun h=>?_,fun h=>?_⟩⟩
 .have h:aO < 0:=gd h;exact eN bt rfl (show(1:Int)=d2 s at_ aO by unfold d2;rw[vj h])
 .have h: ¬aO < 0:=oj h;have Lp: ∀(_:at_ < 0\/aO >fh s\/at_ >fh s - aO),(121:Int)=d2 s at_ aO:=fun G=>by unfold d2;rw[mu h,vj G]
  refine⟨fun E=>?_,fun E=>?_⟩
  .have E:at_ < 0:=gd E;exact eN bt rfl (Lp (.inl E))
  .have E: ¬at_ < 0:=oj E;refine⟨fun G=>?_,fun G=>?_⟩
   .have G:((fh s:Nat):Int) < aO:=gd G;exact eN bt rfl (Lp (.inr (.inl G)))
   .have G: ¬((fh s:Nat):Int) < aO:=oj G;have m3:c8 (((fh s:Nat):Int) - aO):=aD9
    refine⟨m3,fun ah=>?_,fun ah=>?_⟩
    .have ah:((fh s:Nat):Int) - aO < at_:=gd ah;exact eN bt rfl (Lp (.inr (.inr ah)))
    .have ah: ¬((fh s:Nat):Int) - aO < at_:=oj ah;exact eN bt rfl (show(0:Int)=d2 s at_ aO by unfold d2;rw[mu h,mu aD1])
def bk (W a l k:Nat):nj:=⟨16*a/W+k,16*a - (16*a/W+k)*W,min (16*(a+l) - (16*a/W+k)*W) W,(16*a/W+k)*W+(16*a - (16*a/W+k)*W) - 16*a⟩
def cF (W a l:Nat):Nat:=if l=0 then 0 else(16*(a+l)+W - 1)/W - 16*a/W
def yy (W:Nat):Prop:=W=16\/W=32\/W=64\/W=128
def oD {s:bL} (h:s.z<=3):yy (aG s):=by
 unfold yy aG;generalize s.z=b at h
 match b,h with
 |0,_=>exact .inl rfl
 |1,_=>exact .inr (.inl rfl)
 |2,_=>exact .inr (.inr (.inl rfl))
 |3,_=>exact .inr (.inr (.inr rfl))
def uk {W a l k:Nat} (dd:yy W):(0 < l/\(16*a/W+k)*W < 16*(a+l))↔k < cF W a l:=by unfold cF;rcases dd with rfl |rfl |rfl |rfl <;>(split <;>omega)
def rX {W a l k:Nat} (dd:yy W) (Z:k < cF W a l):(bk W a l k).a<=(bk W a l k).b/\(bk W a l k).b<=W/\(bk W a l k).at_+((bk W a l k).b - (bk W a l k).a)<=16*l/\(bk W a l k).c*W < 16*(a+l):=by have h:=(uk (a:=a) (l:=l) (k:=k) dd).2 Z;unfold bk;simp only;rcases dd with rfl |rfl |rfl |rfl <;>omega
abbrev Dr (l:Nat):aS:=.c (.one (.bN (.func (.yield l) #[] #[])))
abbrev qR (a l:Int):aA:=[(2001,.cells [.ptr 1001 0]),(2002,.cells [.d (.int .i64 a)]),(2003,.cells [.d (.int .i64 l)])]
abbrev SB (y W a l k:Nat):aZ:=[(0,Dr y),(1,ap 2001),(2,ap 2002),(3,ap 2003),(5,ab (W:Nat)),(6,ab ((16*a:Nat):Int)),(7,ab ((16*(a+l):Nat):Int)),(8,ab ((16*a/W+k:Nat):Int))]
abbrev GP (a l:Nat) (o:bg):aA:=[(2001,.cells [.ptr 1001 0]),(2002,.cells [.d (.int .i64 (a:Int))]),(2003,.cells [.d (.int .i64 (l:Int))]),(1001,.aH o)]
abbrev afi (y W:Nat):aZ:=[(0,Dr y),(1,ap 2001),(2,ap 2002),(3,ap 2003),(5,ab (W:Nat))]
def afj {W a l k:Nat} (dd:yy W):(((16*a/W+k:Nat):Int))*(W:Int)=(((16*a/W+k)*W:Nat):Int)/\max (((16*a:Nat):Int) - (((16*a/W+k)*W:Nat):Int)) 0=((bk W a l k).a:Int)/\(k < cF W a l->min (((16*(a+l):Nat):Int) - (((16*a/W+k)*W:Nat):Int)) (W:Int)=((bk W a l k).b:Int))/\(((16*a/W+k)*W:Nat):Int)+((bk W a l k).a:Int) - ((16*a:Nat):Int)=((bk W a l k).at_:Int):=by
 refine⟨by rw[az8],?_,fun Z=>?_,?_⟩
 .unfold bk;simp only;omega
 .have h:=(uk (a:=a) (l:=l) (k:=k) dd).2 Z;unfold bk;simp only;omega
 .unfold bk;simp only;rcases dd with rfl |rfl |rfl |rfl <;>omega
def AU (y W a l:Nat) (dd:yy W) (ha:a<=10000) (ak:l<=10000) (gj:Nat->bg) (O: ∀k,Fn prog 163 [ap 1001] [(1001,.aH (gj k))] [] (ab (W:Nat)) [(1001,.aH (gj k))])
  (aC: ∀k,k < cF W a l->yj prog y [qQ (bk W a l k)] [(1001,.aH (gj k))] (fun _:Unit=>qx true) (fun _=>[(1001,.aH (gj (k+1)))])):
  Fn prog 186 [Dr y,ap 2001,ap 2002,ap 2003] (GP a l (gj 0)) [] (.cn []) [(1001,.aH (gj (cF W a l)))]:=by
 have yz:16<=W/\W<=128:=by rcases dd with rfl |rfl |rfl |rfl <;>omega
 refine aY [1,7] func186 ?_;refine ar (O 0) <| bz [7] (cM (afi y W) (GP a l (gj 0))) ?_;have m1:c8 ((a:Int)*16):=aD9
 have m2:c8 ((a:Int)+(l:Int)):=aD9
 have m3:c8 (((a:Int)+(l:Int))*16):=aD9
 refine⟨m1,m2,m3,rfl,?_⟩;have bK:((a:Int)*16)/(W:Int)=((16*a/W+0:Nat):Int):=by rcases dd with rfl |rfl |rfl |rfl <;>omega
 have jM:(0:Int)<=(a:Int)*16/\(0:Int) < (W:Int):=aD9
 have wH:16*a/W<=10000:=by rcases dd with rfl |rfl |rfl |rfl <;>omega
 have ul:c8 (((a:Int)*16)/(W:Int)):=by rw[bK];generalize 16*a/W=q at wH;omega
 refine⟨jM,ul,d1 [7] (X:=Nat) (SB y W a l) (fun k=>GP a l (gj k)) (fun k=>k<=cF W a l) (fun k=>cF W a l - k) 0 (at2 _) ?_ ?_⟩
 .exact ac.sub ⟨rfl,rfl,rfl,rfl,rfl,(by show(a:Int)*16=((16*a:Nat):Int);omega),(by show((a:Int)+(l:Int))*16=((16*(a+l):Nat):Int);omega),bK,trivial⟩ aD
 intro k Z;obtain⟨g1,g2,cK,jW⟩:=afj (a:=a) (l:=l) (k:=k) dd;have rs:=uk (a:=a) (l:=l) (k:=k) dd
 have e5:cF W a l<=30000:=by
  unfold cF;rcases dd with rfl |rfl |rfl |rfl <;>(split <;>omega)
 have dW:(16*a/W+k)*W<=40000*128:=ax9 aD1 yz.2;have out: ∀(h: ¬k < cF W a l),k=cF W a l:=fun h=>by omega
 refine⟨fun E=>?_,fun E=>?_⟩
 .have E:(0:Int) < (l:Int):=gd E;have c0:c8 (((16*a/W+k:Nat):Int)*(W:Int)):=by rw[g1];omega
  refine⟨c0,fun G=>?_,fun G=>?_⟩
  .have G:((16*a/W+k:Nat):Int)*(W:Int) < ((16*(a+l):Nat):Int):=gd G;have rY:k < cF W a l:=rs.1 ⟨aD1,by rw[g1] at G;omega⟩;have d5:c8 (((16*a:Nat):Int) - ((16*a/W+k:Nat):Int)*(W:Int)):=by rw[g1];omega
   have lO:c8 (((16*(a+l):Nat):Int) - ((16*a/W+k:Nat):Int)*(W:Int)):=by rw[g1];omega
   refine⟨c0,d5,c0,lO,rfl,?_⟩;have s5:c8 (((16*a/W+k:Nat):Int)*(W:Int)+max (((16*a:Nat):Int) - ((16*a/W+k:Nat):Int)*(W:Int)) 0):=by rw[g1];omega
   have n5:c8 (((16*a/W+k:Nat):Int)*(W:Int)+max (((16*a:Nat):Int) - ((16*a/W+k:Nat):Int)*(W:Int)) 0 - ((16*a:Nat):Int)):=by rw[g1];omega
   refine⟨c0,s5,n5,?_⟩
   have fG: [bE.d (.int .i64 ((16*a/W+k:Nat):Int)),.d (.int .i64 (max (((16*a:Nat):Int) - ((16*a/W+k:Nat):Int)*(W:Int)) 0)),.d (.int .i64 (min (((16*(a+l):Nat):Int) - ((16*a/W+k:Nat):Int)*(W:Int)) (W:Int))),.d (.int .i64 (((16*a/W+k:Nat):Int)*(W:Int)+max (((16*a:Nat):Int) - ((16*a/W+k:Nat):Int)*(W:Int)) 0 - ((16*a:Nat):Int)))]=vw (bk W a l k):=by
    rw[g1,g2,cK rY,jW];rfl
   refine bw.le (ac.sub (K':=(9,ap 9)::SB y W a l k) (B':=(9,.cells (vw (bk W a l k)))::GP a l (gj k)) aD ⟨?_,rfl,rfl,rfl,rfl,trivial⟩) ?_
   .exact as5 (fun l=>some (ba.cells l)) fG
   refine bw.iJ fa aD4 ⟨Unit,_,_,_,aC k rY,aD,fun _=>rfl,fun _=>?_⟩;have n6:c8 (((16*a/W+k:Nat):Int)+1):=by generalize 16*a/W=q at wH;omega
   refine⟨n6,k+1,rY,aD1,ac.sub aD aD⟩
  .have G: ¬((16*a/W+k:Nat):Int)*(W:Int) < ((16*(a+l):Nat):Int):=oj G;have rY:k=cF W a l:=out fun h=>G (by have:=(rs.2 h).2;rw[g1];omega)
   subst rY;exact bh
 .have E: ¬(0:Int) < (l:Int):=oj E;have rY:k=cF W a l:=out fun h=>E (by have:=(rs.2 h).1;omega)
  subst rY;exact bh
def AV (s:bL) (a l:Int):Fn prog 145 [ap 1001,ab a,ab l] (dM s) [2001,2002,2003] (.c (.one (.c3 186 [.p 2001 0,.p 2002 0,.p 2003 0]))) (dM s++qR a l):=by refine aY [] func145 ?_;exact⟨rfl,rfl,rfl,_,_,_,(ac.aX 3 2001 rfl).trans ((ac.aX 4 2002 rfl).trans (ac.aX 5 2003 rfl)),rfl,rfl,aD,rfl⟩
def afk (s:bL) (aq:gB s) (c:Nat) (J:c < s.t.length):Fn prog 146 [ap 1001,ab (c:Int),.c (.one (.bN .nilFunc))] (dM s) [] (bP .u8 (ep s c none)) (dM s):=
 Fn.eb (aff s aq.z aq.eY c J fun h=>by
  rcases aq.slot c _ (as0 J) with ao |ao |⟨h,ao,_,xs,hx,ak⟩
  .rw[ao] at h;cases h
  .rw[ao] at h;cases h
  .rw[ao];exact⟨xs,hx,by have:=(uj aq.z).2;omega⟩) rfl rfl
def AW (s:bL) (a l k:Nat):aG9:=((ep s (bk (aG s) a l k).c none).take (bk (aG s) a l k).b).drop (bk (aG s) a l k).a
def yA (s:bL) (a l:Nat):Nat->aG9
 |0=>[]
 |k+1=>yA s a l k++AW s a l k
def Lq (s:bL) (a l:Nat):aG9:=yA s a l (cF (aG s) a l)
abbrev afl:aZ:=[(3,ap 3),(9,ap 9)]
abbrev Lr (s:bL) (acc:aG9):aA:=dM s++[(3,.cells [.ptr 1001 0]),(9,.cells [.own 5002]),(5002,.row 5 .u8 acc)]
abbrev afm (s:bL) (acc:aG9):aA:=dM s++[(3,.cells [.ptr 1001 0]),(9,.cells [.own 33]),(33,.row 5 .u8 acc)]
def SC {s:bL} (aq:gB s) {a l:Nat}: ∀k,(yA s a l k).length<=k*128
 |0=>as2 _
 |k+1=>by
  have h:=SC aq (a:=a) (l:=l) k
  have G:(AW s a l k).length<=128:=by
   unfold AW;rw[ax4,at3]
   have ah:(bk (aG s) a l k).b<=128:=by
    unfold bk;simp only;have:=(uj aq.z).2;omega
   omega
  show(yA s a l k++AW s a l k).length<=_;rw[as4];omega
def SD (s:bL) (aq:gB s) (a l:Nat) (aw:d2 s a l=0):Fn prog 87 [ap 1001,ab (a:Int),ab (l:Int)] (dM s) [] (.cn [.one (.d (.bG .u8 (Lq s a l))),dJ 0]) (dM s):=by
 have dd:=oD aq.z
 have dK:(a:Int)+(l:Int)<=(fh s:Nat):=by
  unfold d2 at aw
  split at aw
  .cases aw
  .split at aw
   .cases aw
   .omega
 have yB:fh s<=2048:=ax9 aq.eY (js aq.z).2;refine aY [4,5] func87 ?_;refine⟨rfl,ar (w8 s aq a l) ?_⟩;rw[aw];refine dE <| bz [5] (bt) ⟨rfl,bz [] ((ac.wL 9 0 5002 5 .u8 rfl rfl rfl).trans (cM [(1,ab (a:Int)),(2,ab (l:Int)),(3,ap 3),(9,ap 9)] (Lr s []))) <| ar (AV s a l) <| bw.le (cM [(21,.c (.one (.c3 186 [.p 2001 0,.p 2002 0,.p 2003 0]))),(3,ap 3),(9,ap 9)] (qR a l++Lr s [])) <| bw.range fa [] (pl:=[22]) rfl aD4 aD4 aD4 aD4 [1001,1002,1003,1004,3,9] _ afl (qR a l) (fun k:Nat=>Lr s (yA s a l k)) 1001 0 (cF (aG s) a l) (fun k aF ea=>k < cF (aG s) a l/\aF=[qQ (bk (aG s) a l k)]/\ea=k+1) rfl aE6 rfl rfl ?_ ?_ ?_⟩
 .rintro k aF ea ⟨Z,rfl,rfl⟩;obtain⟨c1,cy,c5,c'⟩:=rX dd Z
  have J:(bk (aG s) a l k).c < s.t.length:=by
   have e:fh s*16=s.t.length*aG s:=by unfold fh aG;rw[Nat.mul_assoc,aB2 (2 ^s.z) 16]
   have E:(bk (aG s) a l k).c*aG s < s.t.length*aG s:=aD9
   exact Nat.lt_of_mul_lt_mul_right E
  have dW:=vx aq J none;have bX:=SC aq (a:=a) (l:=l) k
  have rY:k<=3000:=by
   have E:=(uk (a:=a) (l:=l) (k:=k) dd).2 Z;rcases dd with e |e |e |e <;>rw[e] at E <;>omega
  have m1:(0:Int)<=((bk (aG s) a l k).a:Int)/\((bk (aG s) a l k).a:Int)<=((bk (aG s) a l k).b:Int)/\((bk (aG s) a l k).b:Int)<=(((ep s (bk (aG s) a l k).c none).length:Nat):Int):=aD9
  have m2:(yA s a l k).length+(((ep s (bk (aG s) a l k).c none).take (bk (aG s) a l k).b).drop (bk (aG s) a l k).a).length<=4294967296:=by
   rw[ax4,at3];omega
  have afn:=afk s aq _ J;exact⟨rfl,rfl,rfl,rfl,ar afn ⟨m1,m2,rfl,rfl,rfl,(cM [] (afm s (yA s a l (k+1)))).trans (ac.aX 33 5002 rfl)⟩⟩
 .intro y gj rZ aC;exact AU y (aG s) a l dd aD1 aD1 gj (fun k=>rZ _ _ _ k k (Fn.qO _ (qP s aq.z) rfl rfl) rfl rfl) (fun k Z=>aC k _ (k+1) ⟨Z,rfl,rfl⟩)
 .refine⟨_,_,_,ac.eb 5002 rfl,rfl,aD,aD,rfl⟩
def afo (s:bL) (aq:gB s) (a l:Int) (aw:d2 s a l≠0):Fn prog 87 [ap 1001,ab a,ab l] (dM s) [] (.cn [.one .dV,dJ (d2 s a l)]) (dM s):=by refine aY [] func87 ?_;refine⟨rfl,ar (w8 s aq a l) ?_⟩;exact⟨fun _=>bh,fun h=>as3 (show d2 s a l=0 by have h:(!decide (d2 s a l=0))=false:=h;simpa using h) aw⟩
def r0 {s:bL} (aq:gB s) {a l:Nat} (dK:a+l<=fh s) {k:Nat} (Z:k < cF (aG s) a l):(bk (aG s) a l k).c < s.t.length/\k<=3000:=by
 have dd:=oD aq.z;have yB:fh s<=2048:=ax9 aq.eY (js aq.z).2;obtain⟨c1,cy,c5,c'⟩:=rX dd Z;refine⟨?_,?_⟩
 .have e:fh s*16=s.t.length*aG s:=by unfold fh aG;rw[Nat.mul_assoc,aB2 (2 ^s.z) 16]
  have E:(bk (aG s) a l k).c*aG s < s.t.length*aG s:=aD9
  exact Nat.lt_of_mul_lt_mul_right E
 .have E:=(uk (a:=a) (l:=l) (k:=k) dd).2 Z;rcases dd with e |e |e |e <;>rw[e] at E <;>omega
def nn {s:bL} {a l:Nat} (aw:d2 s a l=0):a+l<=fh s:=by
 unfold d2 at aw
 split at aw
 .cases aw
 .split at aw
  .cases aw
  .omega
def ik (s:bL) (a l:Nat):Nat->Nat
 |0=>0
 |k+1=>ik s a l k+(if hD s (bk (aG s) a l k).c=true then 1 else 0)
def p3 (bs:aG9) (p:nj):aG9:=(bs.take (p.at_+p.b - p.a)).drop p.at_
def jh (s:bL) (a l:Nat) (bs:aG9) (y:Nat->aG9):Nat->bL
 |0=>s
 |k+1=>yx (jh s a l bs y k) (bk (aG s) a l k) (p3 bs (bk (aG s) a l k)) (y (bk (aG s) a l k).c)
def afp (s:bL) (a l k:Nat):ik s a l k<=k:=by
 induction k with
 |zero=>exact as2 _
 |succ k bn=>
  show ik s a l k+_<=k+1
  split <;>omega
abbrev Ls (s:bL) (bp:bq->bg) (bs:aG9) (b1 b2:Nat) (n:Nat):aA:=gn s bp++[(4,.cells [.ptr 1001 0]),(6,.cells [.d (.bG .u8 bs)]),(7,.cells [.d (.fn (158,[b1,b2]))]),(11,.cells [.d (.int .i64 (n:Int))])]
abbrev Ds (s:bL) (bp:bq->bg) (bs:aG9) (b1 b2:Nat):aA:=gn s bp++[(4,.cells [.ptr 1001 0]),(6,.cells [.d (.bG .u8 bs)]),(7,.cells [.d (.fn (158,[b1,b2]))])]
abbrev Lt (a l:Nat):aZ:=[(1,ab (a:Int)),(4,ap 4),(6,ap 6),(7,ap 7),(9,ab (l:Int))]
abbrev Lu (a l:Nat):aZ:=[(1,ab (a:Int)),(4,ap 4),(6,ap 6),(7,ap 7),(9,ab (l:Int)),(11,ap 11)]
def afq (s:bL) (bp:bq->bg) (b1 b2:Nat) (aq:gB s) (a l:Nat) (bs:aG9) (gb:bs.length=16*l) (aw:d2 s a l=0) (y:Nat->aG9) (r:Int) (s':bL) (gg:d6 s.l < ik s a l (cF (aG s) a l)->r=120/\s'=s) (Lv:ik s a l (cF (aG s) a l)<=d6 s.l->r=0/\s'=jh s a l bs y (cF (aG s) a l))
  (eB:ik s a l (cF (aG s) a l)<=d6 s.l-> ∀k,k < cF (aG s) a l->Fn prog 161 [ap 1001,qQ (bk (aG s) a l k),bP .u8 (p3 bs (bk (aG s) a l k)),nS b1 b2] (gn (jh s a l bs y k) bp) [] g4 (gn (jh s a l bs y (k+1)) bp)) (AX:ik s a l (cF (aG s) a l)<=d6 s.l-> ∀k,k<=cF (aG s) a l->(jh s a l bs y k).z=s.z):
  Fn prog 106 [ap 1001,ab (a:Int),bP .u8 bs,nS b1 b2] (gn s bp) [] (ab r) (gn s' bp):=by
 have dd:=oD aq.z;have dK:=nn aw;have yB:fh s<=2048:=ax9 aq.eY (js aq.z).2;have aQ:((bs.length:Nat):Int)/16=(l:Int):=aD9
 have ax:((bs.length:Nat):Int) % 16=0:=aD9
 refine aY [4,7,8,12,14,17] func106 ?_;refine⟨rfl,rfl,rfl,?_⟩;have m1:(0:Int)<=((bs.length:Nat):Int)/\(0:Int) < 16:=aD9
 have m2:c8 (((bs.length:Nat):Int)/16):=aD9
 have m3:c8 (((bs.length:Nat):Int) % 16):=aD9
 refine⟨m1,m2,m1,m3,?_⟩
 refine⟨fun h=>(by
  have h:(!decide ((((bs.length:Nat):Int)) % 16=0))=true:=h;rw[at4 ax] at h
  cases h),fun _=>?_⟩
 refine bz [7] (ac.sub (K':=[(1,ab (a:Int)),(4,ap 4),(6,ap 6),(7,ap 7),(9,ab (l:Int))]) (B':=Ds s bp bs b1 b2) ⟨rfl,rfl,rfl,rfl,aQ,trivial⟩ aD) <| ar (w8 s aq a l) ?_;rw[aw];refine dE <| bz [8] (bt) ⟨rfl,bz [] (cM (Lu a l) (Ls s bp bs b1 b2 0)) <| ar (AV s a l) <| bw.le (cM ((31,.c (.one (.c3 186 [.p 2001 0,.p 2002 0,.p 2003 0])))::Lu a l) (qR a l++Ls s bp bs b1 b2 0)) <| bw.range fa [] (pl:=[32]) rfl aD4 aD4 aD4 aD4 [1001,1002,1003,1004,9000,4,6,7,11] _ (Lu a l) (qR a l) (fun k:Nat=>Ls s bp bs b1 b2 (ik s a l k)) 1001 0 (cF (aG s) a l) (fun k aF ea=>k < cF (aG s) a l/\aF=[qQ (bk (aG s) a l k)]/\ea=k+1) rfl aE6 rfl rfl ?_ ?_ ?_⟩
 .rintro k aF ea ⟨Z,rfl,rfl⟩;obtain⟨J,rY⟩:=r0 aq dK Z;have Lw:=afp s a l k;refine⟨rfl,rfl,rfl,rfl,ar (Ln s aq.eY _ J) ⟨fun hn=>?_,fun hn=>?_⟩⟩
  .have e:((ik s a l k:Nat):Int)+1=((ik s a l (k+1):Nat):Int):=by
    show _=((ik s a l k+_:Nat):Int);rw[vj hn];omega
   have jM:c8 (((ik s a l k:Nat):Int)+1):=aD9
   refine⟨jM,?_⟩;exact⟨rfl,ac.sub trivial ⟨rfl,rfl,rfl,rfl,rfl,rfl,rfl,rfl,by rw[<-e];rfl,trivial⟩⟩
  .have e:ik s a l (k+1)=ik s a l k:=by
    show ik s a l k+_=_;rw[mu (by rw[hn];decide)];exact az5 _
   exact⟨rfl,ac.sub trivial ⟨rfl,rfl,rfl,rfl,rfl,rfl,rfl,rfl,by rw[e];rfl,trivial⟩⟩
 .intro y gj rZ aC;exact AU y (aG s) a l dd aD1 aD1 gj (fun k=>rZ _ _ _ k k (Fn.qO [(9000,.b7 1001 bp),(4,.cells [.ptr 1001 0]),(6,.cells [.d (.bG .u8 bs)]),(7,.cells [.d (.fn (158,[b1,b2]))]),(11,.cells [.d (.int .i64 (ik s a l k:Int))])] (qP s aq.z) rfl rfl) rfl rfl) (fun k Z=>aC k _ (k+1) ⟨Z,rfl,rfl⟩)
 .have aN:d6 s.l<=512:=az4 (Lj _) aq.lQ;refine bz [14,17] (bt) ?_;refine ar (Sq s (by have:=aq.lQ;omega)) ⟨rfl,fun h=>?_,fun h=>?_⟩
  .have h:((d6 s.l:Nat):Int) < ((ik s a l (cF (aG s) a l):Nat):Int):=gd h;obtain⟨rfl,rfl⟩:=gg aD1;exact bh
  have h: ¬((d6 s.l:Nat):Int) < ((ik s a l (cF (aG s) a l):Nat):Int):=oj h;have dD:ik s a l (cF (aG s) a l)<=d6 s.l:=aD9
  obtain⟨rfl,rfl⟩:=Lv dD;have eB:=eB dD;have AX:=AX dD;refine bz [17] (cM (Lt a l) (Ds s bp bs b1 b2)) <| ar (AV s a l) <| bw.le (cM ((45,.c (.one (.c3 186 [.p 2001 0,.p 2002 0,.p 2003 0])))::Lt a l) (qR a l++Ds s bp bs b1 b2)) <| bw.range fa [] (pl:=[46]) rfl aD4 aD4 aD4 aD4 [1001,1002,1003,1004,9000,4,6,7] _ (Lt a l) (qR a l) (fun k:Nat=>Ds (jh s a l bs y k) bp bs b1 b2) 1001 0 (cF (aG s) a l) (fun k aF ea=>k < cF (aG s) a l/\aF=[qQ (bk (aG s) a l k)]/\ea=k+1) rfl aE6 rfl rfl ?_ ?_ ?_
  .rintro k aF ea ⟨Z,rfl,rfl⟩;obtain⟨J,rY⟩:=r0 aq dK Z;obtain⟨c1,cy,c5,c'⟩:=rX dd Z;have eB:=eB k Z;have hw:=uj aq.z;refine⟨rfl,rfl,rfl,rfl,?_⟩
   have hx:p3 bs (bk (aG s) a l k)=(bs.take (((bk (aG s) a l k).at_:Int)+((bk (aG s) a l k).b:Int) - ((bk (aG s) a l k).a:Int)).toNat).drop (((bk (aG s) a l k).at_:Int)).toNat:=by
    unfold p3;rw[show(((bk (aG s) a l k).at_:Int)+((bk (aG s) a l k).b:Int) - ((bk (aG s) a l k).a:Int)).toNat=(bk (aG s) a l k).at_+(bk (aG s) a l k).b - (bk (aG s) a l k).a by omega];rfl
   have jM:c8 (((bk (aG s) a l k).at_:Int)+((bk (aG s) a l k).b:Int)):=aD9
   have ul:c8 (((bk (aG s) a l k).at_:Int)+((bk (aG s) a l k).b:Int) - ((bk (aG s) a l k).a:Int)):=aD9
   have r3:(0:Int)<=((bk (aG s) a l k).at_:Int)/\((bk (aG s) a l k).at_:Int)<=((bk (aG s) a l k).at_:Int)+((bk (aG s) a l k).b:Int) - ((bk (aG s) a l k).a:Int)/\((bk (aG s) a l k).at_:Int)+((bk (aG s) a l k).b:Int) - ((bk (aG s) a l k).a:Int)<=((bs.length:Nat):Int):=aD9
   rw[hx] at eB;exact⟨jM,ul,r3,ar eB ⟨rfl,rfl,ac.sub trivial aD⟩⟩
  .intro yC gj rZ aC
   have h:=AU yC (aG s) a l dd aD1 aD1 (fun k=>gj (min k (cF (aG s) a l))) (fun k=>rZ _ _ _ (min k (cF (aG s) a l)) (min k (cF (aG s) a l)) (by
    have O:=AX (min k (cF (aG s) a l)) (Nat.min_le_right _ _);have G:=qP (jh s a l bs y (min k (cF (aG s) a l))) (by rw[O];exact aq.z);rw[show aG (jh s a l bs y (min k (cF (aG s) a l)))=aG s from as5 (fun b=>16*2 ^b) O] at G
    exact Fn.qO [(9000,.b7 1001 bp),(4,.cells [.ptr 1001 0]),(6,.cells [.d (.bG .u8 bs)]),(7,.cells [.d (.fn (158,[b1,b2]))])] G rfl rfl) rfl rfl) (fun k Z=>by
    have h:=aC k _ (k+1) ⟨Z,rfl,rfl⟩;rw[Nat.min_eq_left aD1,Nat.min_eq_left aD1];exact h)
   simp only[Nat.zero_min,Nat.min_self] at h;exact h
  .show bw _ _ _ _ _ _ _;exact bz [] (bt) bh
def afr (s:bL) (bp:bq->bg) (b1 b2:Nat) (a:Int) (bs:aG9) (h:bs.length % 16≠0) (ak:bs.length<=1000000000):Fn prog 106 [ap 1001,ab a,bP .u8 bs,nS b1 b2] (gn s bp) [] (ab 1) (gn s bp):=by
 have ax: ¬((bs.length:Nat):Int) % 16=0:=aD9
 refine aY [] func106 ?_;refine⟨rfl,rfl,rfl,?_⟩;have m1:(0:Int)<=((bs.length:Nat):Int)/\(0:Int) < 16:=aD9
 have m2:c8 (((bs.length:Nat):Int)/16):=aD9
 have m3:c8 (((bs.length:Nat):Int) % 16):=aD9
 refine⟨m1,m2,m1,m3,?_⟩
 refine⟨fun _=>?_,fun h=>(by
  have h:(!decide ((((bs.length:Nat):Int)) % 16=0))=false:=h;rw[av7 ax] at h
  cases h)⟩
 exact bh
def afs (s:bL) (bp:bq->bg) (b1 b2:Nat) (aq:gB s) (a:Int) (l:Nat) (bs:aG9) (gb:bs.length=16*l) (ak:l<=100000000) (aw:d2 s a l≠0):Fn prog 106 [ap 1001,ab a,bP .u8 bs,nS b1 b2] (gn s bp) [] (ab (d2 s a l)) (gn s bp):=by
 have aQ:((bs.length:Nat):Int)/16=(l:Int):=aD9
 have ax:((bs.length:Nat):Int) % 16=0:=aD9
 refine aY [4] func106 ?_;refine⟨rfl,rfl,rfl,?_⟩;have m1:(0:Int)<=((bs.length:Nat):Int)/\(0:Int) < 16:=aD9
 have m2:c8 (((bs.length:Nat):Int)/16):=aD9
 have m3:c8 (((bs.length:Nat):Int) % 16):=aD9
 refine⟨m1,m2,m1,m3,?_⟩
 refine⟨fun h=>(by
  have h:(!decide ((((bs.length:Nat):Int)) % 16=0))=true:=h;rw[at4 ax] at h
  cases h),fun _=>?_⟩
 refine bz [] (ac.sub (K':=[(1,ab a),(4,ap 4),(9,ab (l:Int))]) (B':=Ds s bp bs b1 b2) ⟨rfl,rfl,aQ,trivial⟩ aD) <| ar (w8 s aq a l) ?_;exact⟨fun _=>bh,fun h=>as3 (show d2 s a l=0 by have h:(!decide (d2 s a l=0))=false:=h;simpa using h) aw⟩
def j6 (s:bL) (a l:Nat):Nat->bL
 |0=>s
 |k+1=>if(bk (aG s) a l k).b - (bk (aG s) a l k).a=aG s then rW (j6 s a l k) (bk (aG s) a l k).c ck else j6 s a l k
abbrev Lx (s:bL):aA:=dM s++[(3,.cells [.ptr 1001 0])]
abbrev SE:aZ:=[(3,ap 3)]
def aft (s:bL) (aq:gB s) (a l:Nat) (aw:d2 s a l=0) (eB: ∀k,k < cF (aG s) a l->Fn prog 164 [ap 1001,ab ((bk (aG s) a l k).c:Int),.c (p0 ck)] (dM (j6 s a l k)) [] g4 (dM (rW (j6 s a l k) (bk (aG s) a l k).c ck))) (AX: ∀k,k<=cF (aG s) a l->(j6 s a l k).z=s.z):
  Fn prog 110 [ap 1001,ab (a:Int),ab (l:Int)] (dM s) [] (ab 0) (dM (j6 s a l (cF (aG s) a l))):=by
 have dd:=oD aq.z;have hw:=uj aq.z;have dK:=nn aw;have yB:fh s<=2048:=ax9 aq.eY (js aq.z).2;refine aY [4,8] func110 ?_;refine⟨rfl,ar (w8 s aq a l) ?_⟩;rw[aw];refine dE <| bz [8] (cM [(1,ab (a:Int)),(2,ab (l:Int)),(3,ap 3)] (Lx s)) <| ar (AV s a l) <| bw.le (cM ((19,.c (.one (.c3 186 [.p 2001 0,.p 2002 0,.p 2003 0])))::SE) (qR a l++Lx s)) <| bw.range fa [] (pl:=[20]) rfl aD4 aD4 aD4 aD4 [1001,1002,1003,1004,3] _ SE (qR a l) (fun k:Nat=>Lx (j6 s a l k)) 1001 0 (cF (aG s) a l) (fun k aF ea=>k < cF (aG s) a l/\aF=[qQ (bk (aG s) a l k)]/\ea=k+1) rfl aE6 rfl rfl ?_ ?_ ?_
 .rintro k aF ea ⟨Z,rfl,rfl⟩;obtain⟨c1,cy,c5,c'⟩:=rX dd Z;have eB:=eB k Z;have O:=AX k (Nat.le_of_lt Z);have G:=qP (j6 s a l k) (by rw[O];exact aq.z);rw[show aG (j6 s a l k)=aG s from as5 (fun b=>16*2 ^b) O] at G;have jM:c8 (((bk (aG s) a l k).b:Int) - ((bk (aG s) a l k).a:Int)):=aD9
  refine⟨rfl,rfl,rfl,rfl,jM,ar G ⟨rfl,fun h=>?_,fun h=>?_⟩⟩
  .have h:((bk (aG s) a l k).b:Int) - ((bk (aG s) a l k).a:Int)=((aG s:Nat):Int):=gd h;have e:j6 s a l (k+1)=rW (j6 s a l k) (bk (aG s) a l k).c ck:=vj aD1;refine ar (Fn.arg eB ⟨rfl,rfl,aD,trivial⟩) ?_;rw[e];exact⟨rfl,ac.sub trivial aD⟩
  .have h: ¬((bk (aG s) a l k).b:Int) - ((bk (aG s) a l k).a:Int)=((aG s:Nat):Int):=oj h;have e:j6 s a l (k+1)=j6 s a l k:=mu aD1;rw[e];exact⟨rfl,ac.sub trivial aD⟩
 .intro yC gj rZ aC
  have h:=AU yC (aG s) a l dd aD1 aD1 (fun k=>gj (min k (cF (aG s) a l))) (fun k=>rZ _ _ _ (min k (cF (aG s) a l)) (min k (cF (aG s) a l)) (by
   have O:=AX (min k (cF (aG s) a l)) (Nat.min_le_right _ _);have G:=qP (j6 s a l (min k (cF (aG s) a l))) (by rw[O];exact aq.z);rw[show aG (j6 s a l (min k (cF (aG s) a l)))=aG s from as5 (fun b=>16*2 ^b) O] at G
   exact Fn.qO [(3,.cells [.ptr 1001 0])] G rfl rfl) rfl rfl) (fun k Z=>by
   have h:=aC k _ (k+1) ⟨Z,rfl,rfl⟩;rw[Nat.min_eq_left aD1,Nat.min_eq_left aD1];exact h)
  simp only[Nat.zero_min,Nat.min_self] at h;exact h
 .show bw _ _ _ _ _ _ _;exact bz [] (bt) bh
def afu (s:bL) (aq:gB s) (a l:Int) (aw:d2 s a l≠0):Fn prog 110 [ap 1001,ab a,ab l] (dM s) [] (ab (d2 s a l)) (dM s):=by refine aY [] func110 ?_;refine⟨rfl,ar (w8 s aq a l) ?_⟩;exact⟨fun _=>bh,fun h=>as3 (show d2 s a l=0 by have h:(!decide (d2 s a l=0))=false:=h;simpa using h) aw⟩
end
section
def k9 (s:bL) (p:nj):Bool:=decide (p.b - p.a=aG s)
def SF (s:bL) (O:s.z<=3) (p:nj) (E:p.a<=p.b) (G:p.b<=1000):Fn prog 162 [qQ p,ap 4] (dM s++[(4,.cells [.ptr 1001 0])]) [] (fX (k9 s p)) (dM s++[(4,.cells [.ptr 1001 0])]):=by
 have jM:c8 ((p.b:Int) - (p.a:Int)):=aD9
 refine aY [] func162 ?_;refine⟨rfl,jM,ar (qP s O) ⟨rfl,_,_,_,bt,rfl,?_,aD,rfl⟩⟩;show decide ((p.b:Int) - (p.a:Int)=((aG s:Nat):Int))=k9 s p;unfold k9;exact decide_eq_decide.2 aD1
def oE (s:bL) (p:nj):Bool:= !k9 s p&&(decide ((s.t.getD p.c ck).1≠2)&&hD s p.c)
def hp (s:bL) (a l:Nat):Nat->Nat
 |0=>0
 |k+1=>hp s a l k+(if oE s (bk (aG s) a l k)=true then 1 else 0)
def afv (s:bL) (a l k:Nat):hp s a l k<=k:=by
 induction k with
 |zero=>exact as2 _
 |succ k bn=>
  show hp s a l k+_<=k+1
  split <;>omega
abbrev um:fo:=((2:Int),(0:Int),false)
abbrev un (n:Nat):aG9:=List.replicate n (0:aJ8)
def vz (s:bL) (p:nj) (y:aG9):bL:=if k9 s p=true then rW s p.c um else if(s.t.getD p.c ck).1=2 then s else yx s p (un (p.b - p.a)) y
def eI (s:bL) (a l:Nat) (y:Nat->aG9):Nat->bL
 |0=>s
 |k+1=>vz (eI s a l y k) (bk (aG s) a l k) (y (bk (aG s) a l k).c)
abbrev yD (s:bL) (bp:bq->bg) (b1 b2:Nat):aA:=gn s bp++[(4,.cells [.ptr 1001 0]),(7,.cells [.d (.fn (158,[b1,b2]))]),(10,.cells [.c3 162 [.p 4 0]])]
abbrev GQ (s:bL) (bp:bq->bg) (b1 b2:Nat) (n:Nat):aA:=gn s bp++[(4,.cells [.ptr 1001 0]),(7,.cells [.d (.fn (158,[b1,b2]))]),(10,.cells [.c3 162 [.p 4 0]]),(11,.cells [.d (.int .i64 (n:Int))])]
abbrev GR (a l:Nat):aZ:=[(1,ab (a:Int)),(2,ab (l:Int)),(4,ap 4),(7,ap 7),(10,ap 10)]
abbrev afw:aZ:=[(1000000+116,.undef),(1000000+159,.undef)]
abbrev Ly (a l:Nat):aZ:=afw++[(1,ab (a:Int)),(2,ab (l:Int)),(4,ap 4),(7,ap 7),(10,ap 10),(11,ap 11)]
def AY (s:bL) (ak:s.t.length<=256) (c:Nat) (J:c < s.t.length):Fn prog 116 [ap 1001,ab (c:Int)] (dM s) [] (ab (s.t.getD c ck).1) (dM s):=by
 have h:=afd s ak c J;have e:s.t[c]=s.t.getD c ck:=by rw[as7,as0 J];rfl
 rwa[e] at h
def afx (s:bL) (bp:bq->bg) (b1 b2:Nat) (aq:gB s) (a l:Nat) (aw:d2 s a l=0) (y:Nat->aG9) (r:Int) (s':bL) (gg:d6 s.l < hp s a l (cF (aG s) a l)->r=120/\s'=s) (Lv:hp s a l (cF (aG s) a l)<=d6 s.l->r=0/\s'=eI s a l y (cF (aG s) a l))
  (GS:hp s a l (cF (aG s) a l)<=d6 s.l-> ∀k,k<=cF (aG s) a l->gB (eI s a l y k)/\(eI s a l y k).z=s.z/\(eI s a l y k).t.length=s.t.length)
  (hb:hp s a l (cF (aG s) a l)<=d6 s.l-> ∀k,k < cF (aG s) a l->k9 s (bk (aG s) a l k)=true->Fn prog 164 [ap 1001,ab ((bk (aG s) a l k).c:Int),.c (p0 um)] (dM (eI s a l y k)) [] g4 (dM (eI s a l y (k+1))))
  (r4:hp s a l (cF (aG s) a l)<=d6 s.l-> ∀k,k < cF (aG s) a l->k9 s (bk (aG s) a l k)=false->((eI s a l y k).t.getD (bk (aG s) a l k).c ck).1≠2->Fn prog 161 [ap 1001,qQ (bk (aG s) a l k),bP .u8 (un ((bk (aG s) a l k).b - (bk (aG s) a l k).a)),nS b1 b2] (gn (eI s a l y k) bp) [] g4 (gn (eI s a l y (k+1)) bp)):
  Fn prog 108 [ap 1001,ab (a:Int),ab (l:Int),nS b1 b2] (gn s bp) [] (ab r) (gn s' bp):=by
 have dd:=oD aq.z;have hw:=uj aq.z;have dK:=nn aw;have yB:fh s<=2048:=ax9 aq.eY (js aq.z).2;refine aY [4,5,6,10,12,18] func108 ?_;refine⟨rfl,rfl,ar (w8 s aq a l) ?_⟩;rw[aw];refine dE <| bz [5,6] (bt) ⟨rfl,bz [6] (cM (GR a l) (yD s bp b1 b2)) ⟨rfl,bw.mA 159 aD2 (bw.mA 116 aD2 <| bz [] (ac.sub (K':=Ly a l) (B':=GQ s bp b1 b2 0) ⟨trivial,trivial,rfl,rfl,rfl,rfl,rfl,rfl,trivial⟩ aD) <| ar (AV s a l) <| bw.le (ac.sub (K':=(25,.c (.one (.c3 186 [.p 2001 0,.p 2002 0,.p 2003 0])))::Ly a l) (B':=qR a l++GQ s bp b1 b2 0) ⟨rfl,trivial,trivial,rfl,rfl,rfl,rfl,rfl,rfl,trivial⟩ aD) <| bw.range fa [9] (pl:=[26]) rfl aD4 aD4 aD4 aD4 [1001,1002,1003,1004,9000,4,7,10,11] _ (Ly a l) (qR a l) (fun k:Nat=>GQ s bp b1 b2 (hp s a l k)) 1001 0 (cF (aG s) a l) (fun k aF ea=>k < cF (aG s) a l/\aF=[qQ (bk (aG s) a l k)]/\ea=k+1) rfl (by exact⟨trivial,trivial,rfl,rfl,rfl,rfl,rfl,rfl,trivial⟩) rfl rfl ?_ ?_ ?_)⟩⟩
 .rintro k aF ea ⟨Z,rfl,rfl⟩;obtain⟨J,rY⟩:=r0 aq dK Z;obtain⟨c1,cy,c5,c'⟩:=rX dd Z;have Lw:=afv s a l k
  have bK:oE s (bk (aG s) a l k)=false->hp s a l (k+1)=hp s a l k:=fun hn=>by
   show hp s a l k+_=_;rw[mu (by rw[hn];decide)];exact az5 _
  have af:oE s (bk (aG s) a l k)=true->((hp s a l k:Nat):Int)+1=((hp s a l (k+1):Nat):Int):=fun hn=>by
   show _=((hp s a l k+_:Nat):Int);rw[vj hn];omega
  have jM:c8 (((hp s a l k:Nat):Int)+1):=aD9
  have GT:=SF s aq.z (bk (aG s) a l k) c1 aD1;refine⟨rfl,rfl,rfl,rfl,ar GT ⟨fun hn=>?_,fun hn=>?_⟩⟩
  .have hn:k9 s (bk (aG s) a l k)=false:=by simpa using hn
   refine wZ rfl rfl rfl (AY s aq.eY _ J) ⟨fun hO=>?_,fun hO=>?_⟩
   .have hO: ¬(s.t.getD (bk (aG s) a l k).c ck).1=2:=by
     have hO:(!decide ((s.t.getD (bk (aG s) a l k).c ck).1=2))=true:=hO;simpa using hO
    refine wZ rfl rfl rfl (Ln s aq.eY _ J) ⟨fun GU=>?_,fun GU=>?_⟩
    .have aN:oE s (bk (aG s) a l k)=true:=by
      unfold oE;rw[hn,at4 hO,GU];rfl
     refine bz [] (cM [(11,ap 11)] (GQ s bp b1 b2 (hp s a l k))) ⟨jM,?_⟩;exact⟨rfl,ac.sub trivial ⟨rfl,rfl,rfl,rfl,rfl,rfl,rfl,rfl,by rw[<-af aN];rfl,trivial⟩⟩
    .have aN:oE s (bk (aG s) a l k)=false:=by
      unfold oE;rw[GU,Bool.and_false,Bool.and_false]
     exact⟨rfl,ac.sub trivial ⟨rfl,rfl,rfl,rfl,rfl,rfl,rfl,rfl,by rw[bK aN];rfl,trivial⟩⟩
   .have hO:(s.t.getD (bk (aG s) a l k).c ck).1=2:=by
     have hO:(!decide ((s.t.getD (bk (aG s) a l k).c ck).1=2))=false:=hO;simpa using hO
    have aN:oE s (bk (aG s) a l k)=false:=by
     unfold oE;rw[av7 (fun h=>h hO),Bool.false_and,Bool.and_false]
    exact⟨rfl,ac.sub trivial ⟨rfl,rfl,rfl,rfl,rfl,rfl,rfl,rfl,by rw[bK aN];rfl,trivial⟩⟩
  .have hn:k9 s (bk (aG s) a l k)=true:=by simpa using hn
   have aN:oE s (bk (aG s) a l k)=false:=by
    unfold oE;rw[hn];rfl
   exact⟨rfl,ac.sub trivial ⟨rfl,rfl,rfl,rfl,rfl,rfl,rfl,rfl,by rw[bK aN];rfl,trivial⟩⟩
 .intro yC gj rZ aC;exact AU yC (aG s) a l dd aD1 aD1 gj (fun k=>rZ _ _ _ k k (Fn.qO [(9000,.b7 1001 bp),(4,.cells [.ptr 1001 0]),(7,.cells [.d (.fn (158,[b1,b2]))]),(10,.cells [.c3 162 [.p 4 0]]),(11,.cells [.d (.int .i64 (hp s a l k:Int))])] (qP s aq.z) rfl rfl) rfl rfl) (fun k Z=>aC k _ (k+1) ⟨Z,rfl,rfl⟩)
 .have aN:d6 s.l<=512:=az4 (Lj _) aq.lQ;refine bz [12,18] (bt) ?_;refine ar (Sq s (by have:=aq.lQ;omega)) ⟨rfl,fun h=>?_,fun h=>?_⟩
  .have h:((d6 s.l:Nat):Int) < ((hp s a l (cF (aG s) a l):Nat):Int):=gd h;obtain⟨rfl,rfl⟩:=gg aD1;exact bh
  have h: ¬((d6 s.l:Nat):Int) < ((hp s a l (cF (aG s) a l):Nat):Int):=oj h;have dD:hp s a l (cF (aG s) a l)<=d6 s.l:=aD9
  obtain⟨rfl,rfl⟩:=Lv dD;have GS:=GS dD;have hb:=hb dD;have r4:=r4 dD;refine bz [18] (cM (GR a l) (yD s bp b1 b2)) <| ar (AV s a l) <| bw.le (cM ((52,.c (.one (.c3 186 [.p 2001 0,.p 2002 0,.p 2003 0])))::GR a l) (qR a l++yD s bp b1 b2)) <| bw.range fa [15,16,17] (pl:=[53]) rfl aD4 aD4 aD4 aD4 [1001,1002,1003,1004,9000,4,7,10] _ (GR a l) (qR a l) (fun k:Nat=>yD (eI s a l y k) bp b1 b2) 1001 0 (cF (aG s) a l) (fun k aF ea=>k < cF (aG s) a l/\aF=[qQ (bk (aG s) a l k)]/\ea=k+1) rfl aE6 rfl rfl ?_ ?_ ?_
  .rintro k aF ea ⟨Z,rfl,rfl⟩;obtain⟨J,rY⟩:=r0 aq dK Z;obtain⟨c1,cy,c5,c'⟩:=rX dd Z;obtain⟨fH,g5,nl⟩:=GS k (Nat.le_of_lt Z);have hb:=hb k Z;have r4:=r4 k Z;have SG:aG (eI s a l y k)=aG s:=as5 (fun b=>16*2 ^b) g5;have GT:=SF (eI s a l y k) fH.z (bk (aG s) a l k) c1 aD1;rw[show k9 (eI s a l y k) (bk (aG s) a l k)=k9 s (bk (aG s) a l k) by unfold k9;rw[SG]] at GT
   have afy:k9 s (bk (aG s) a l k)=false->k9 (eI s a l y k) (bk (aG s) a l k)=false:=fun h=>by
    unfold k9;rw[SG];exact h
   have afz:eI s a l y (k+1)=vz (eI s a l y k) (bk (aG s) a l k) (y (bk (aG s) a l k).c):=rfl;refine⟨rfl,rfl,rfl,rfl,ar GT ⟨fun hn=>?_,fun hn=>?_⟩⟩
   .have hb:=hb hn;exact bz [] (cM [(4,ap 4),(13,ap 13)] ((13,.cells (vw (bk (aG s) a l k)))::yD (eI s a l y k) bp b1 b2)) <| ar (Fn.arg hb ⟨rfl,rfl,aD,trivial⟩) ⟨rfl,ac.sub trivial aD⟩
   .show bw _ _ _ _ _ _ _;refine bz [17] (cM [(4,ap 4),(7,ap 7),(13,ap 13)] ((13,.cells (vw (bk (aG s) a l k)))::yD (eI s a l y k) bp b1 b2)) ?_;refine ar (AY (eI s a l y k) fH.eY _ (by rw[nl];exact J)) ⟨fun hO=>?_,fun hO=>?_⟩
    .have hO: ¬((eI s a l y k).t.getD (bk (aG s) a l k).c ck).1=2:=by
      have hO:(!decide (((eI s a l y k).t.getD (bk (aG s) a l k).c ck).1=2))=true:=hO;simpa using hO
     have r4:=r4 hn hO;have jM:c8 (((bk (aG s) a l k).b:Int) - ((bk (aG s) a l k).a:Int)):=aD9
     have ul:((bk (aG s) a l k).b:Int) - ((bk (aG s) a l k).a:Int)=((bk (aG s) a l k).b:Int) - ((bk (aG s) a l k).a:Int)/\(0:Int)<=((bk (aG s) a l k).b:Int) - ((bk (aG s) a l k).a:Int)/\((bk (aG s) a l k).b:Int) - ((bk (aG s) a l k).a:Int)<=4294967296:=aD9
     refine bz [] (cM [(4,ap 4),(7,ap 7),(13,ap 13)] ((13,.cells (vw (bk (aG s) a l k)))::yD (eI s a l y k) bp b1 b2)) ⟨jM,ul,rfl,?_⟩
     have hx:un ((bk (aG s) a l k).b - (bk (aG s) a l k).a)=List.replicate (((bk (aG s) a l k).b:Int) - ((bk (aG s) a l k).a:Int)).toNat (0:aJ8):=by
      rw[show(((bk (aG s) a l k).b:Int) - ((bk (aG s) a l k).a:Int)).toNat=(bk (aG s) a l k).b - (bk (aG s) a l k).a by omega]
     rw[hx] at r4;exact ar (Fn.own (d:=76) (args:=[ap 1001,qQ (bk (aG s) a l k),eC 76,nS b1 b2]) (e:=5) (u:=.u8) (xs:=List.replicate (((bk (aG s) a l k).b:Int) - ((bk (aG s) a l k).a:Int)).toNat (0:aJ8)) r4 rfl) ⟨rfl,rfl,ac.sub trivial aD⟩
    .have hO:((eI s a l y k).t.getD (bk (aG s) a l k).c ck).1=2:=by
      have hO:(!decide (((eI s a l y k).t.getD (bk (aG s) a l k).c ck).1=2))=false:=hO;simpa using hO
     have e:eI s a l y (k+1)=eI s a l y k:=by
      rw[afz];unfold vz;rw[afy hn,mu aD2,vj hO]
     rw[e];exact⟨rfl,ac.sub trivial aD⟩
  .intro yC gj rZ aC
   have h:=AU yC (aG s) a l dd aD1 aD1 (fun k=>gj (min k (cF (aG s) a l))) (fun k=>rZ _ _ _ (min k (cF (aG s) a l)) (min k (cF (aG s) a l)) (by
    obtain⟨fH,O,nl⟩:=GS (min k (cF (aG s) a l)) (Nat.min_le_right _ _);have G:=qP (eI s a l y (min k (cF (aG s) a l))) (by rw[O];exact aq.z);rw[show aG (eI s a l y (min k (cF (aG s) a l)))=aG s from as5 (fun b=>16*2 ^b) O] at G
    exact Fn.qO [(9000,.b7 1001 bp),(4,.cells [.ptr 1001 0]),(7,.cells [.d (.fn (158,[b1,b2]))]),(10,.cells [.c3 162 [.p 4 0]])] G rfl rfl) rfl rfl) (fun k Z=>by
    have h:=aC k _ (k+1) ⟨Z,rfl,rfl⟩;rw[Nat.min_eq_left aD1,Nat.min_eq_left aD1];exact h)
   simp only[Nat.zero_min,Nat.min_self] at h;exact h
  .show bw _ _ _ _ _ _ _;exact bz [] (bt) bh
def SH {l:aI2} {h:Nat} {n m:Int} (ak:l[h]? =some n):d6 (l.set h m)+(if n=0 then 1 else 0)=d6 l+(if m=0 then 1 else 0):=by
 induction l generalizing h with
 |nil=>simp at ak
 |cons x l bn=>
  match h with
  |0=>
   simp only[at9,as9] at ak;subst ak;simp only[List.set_cons_zero];unfold d6;rw[List.filter_cons,List.filter_cons]
   by_cases E:x=0 <;>by_cases G:m=0 <;>simp[E,G] <;>omega
  |h+1=>
   have ak:l[h]? =some n:=aG7
   have:=bn ak;simp only[List.set_cons_succ];unfold d6 at*;rw[List.filter_cons,List.filter_cons]
   by_cases E:x=0 <;>simp[E] <;>omega
def afA {xs ys:aG9} {a n:Nat} (E:a+n<=xs.length) (G:ys.length=n):(laid xs a n ys).length=xs.length:=by unfold laid;rw[as4,as4,at3,at3,ax4];omega
structure Dt (s s':bL) (p:nj) (bs y:aG9):Prop where
 ok:gB s'
 z:s'.z=s.z
 eY:s'.t.length=s.t.length
 lQ:s'.l.length=s.l.length
 jt: ∀c,c≠p.c->s'.t[c]? =s.t[c]? /\ ∀aB,ep s' c aB=ep s c aB
 Du: ∀aB,ep s' p.c aB=laid (ep s p.c (some y)) p.a (p.b - p.a) bs
 kE:hD s' p.c=false
 i2:d6 s'.l+(if hD s p.c=true then 1 else 0)=d6 s.l
def afB {s:bL} {c:Nat} {h:Int} {xs:aG9} (E:s.t[c]? =some ((1:Int),h,true)) (G:s.f h=some xs) (aB:Option aG9):ep s c aB=xs:=by unfold ep;rw[E];simp only[vj,G,az1]
def Lz {s s':bL} {c:Nat} (O:s'.z=s.z) (cm:s'.t[c]? =s.t[c]?) (hf: ∀h,s.t[c]? =some ((1:Int),h,true)->s'.f h=s.f h) (aq:gB s) (aB:Option aG9):ep s' c aB=ep s c aB:=by
 have aN:i2 s'=i2 s:=by unfold i2 aG;rw[O]
 have hw:aG s'=aG s:=by unfold aG;rw[O]
 unfold ep;rw[cm]
 cases e:s.t[c]? with
 |none=>rfl
 |some q=>
  simp only;rcases aq.slot c q e with h |h |⟨h,ao,_⟩
  .rw[h,aN,hw];rfl
  .rw[h,aN];rfl
  .rw[ao] at e;rw[ao,hf _ e,aN,hw]
def afC {s:bL} {c:Nat} {h:Int} (E:s.t[c]? =some ((1:Int),h,true)):hD s c=false:=by unfold hD vr;rw[AT E];rfl
def afD {s:bL} (aq:gB s) {c:Nat} (J:c < s.t.length) (y:aG9) (aN:hD s c=true->0 < d6 s.l):
  (nk s c y).z=s.z/\(nk s c y).l.length=s.l.length/\(∀d,d≠c->(nk s c y).t[d]? =s.t[d]? /\ ∀h,s.t[d]? =some ((1:Int),h,true)->(nk s c y).f h=s.f h)/\d6 (nk s c y).l+(if hD s c=true then 1 else 0)=d6 s.l:=by
 unfold nk
 by_cases hn:hD s c=true
 .rw[vj hn,vj hn];obtain⟨k2,rA⟩:=Lo (aN hn);refine⟨rfl,ay0,fun d H=>⟨ax1 (ay4 H),fun h bd=>?_⟩,?_⟩
  .show(if h=(ij s.l:Int) then _ else s.f h)=s.f h;rw[mu];intro e;rcases aq.slot d _ bd with ao |ao |⟨h',ao,ah,_⟩
   .cases ao
   .cases ao
   .have:h=(h':Int):=by injection ao with _ ao;injection ao
    have:h'=ij s.l:=aD9
    rw[this,k2] at ah
    cases ah
  .have:=SH (m:=1) k2;simpa using this
 .rw[mu hn,mu hn];exact⟨rfl,rfl,fun d _=>⟨rfl,fun _ _=>rfl⟩,rfl⟩
def LA {s:bL} (aq:gB s) {p:nj} (J:p.c < s.t.length) {bs y:aG9} (E:p.a<=p.b) (G:p.b<=aG s) (ah:bs.length=p.b - p.a) (aN:hD s p.c=true->0 < d6 s.l):Dt s (yx s p bs y) p bs y:=by
 obtain⟨fH,g5,nl,h,vy,w7⟩:=Sy aq J y aN;obtain⟨r1,r2,gh,kr⟩:=afD aq J y aN;have dW:=vx aq J (some y);unfold yx;generalize nk s p.c y=s' at*;generalize pT:ep s p.c (some y)=xs at*;have od:=AT vy
 have e:GM s' p bs={s' with f:=jL s'.f (h:Int) (laid xs p.a (p.b - p.a) bs)}:=by
  unfold GM;rw[od];simp only[w7,az1]
 rw[e];have nh:=afA (xs:=xs) (ys:=bs) (a:=p.a) (n:=p.b - p.a) aD1 ah
 have afE: ∀(d:Nat) (k:Int),d≠p.c->s'.t[d]? =some ((1:Int),k,true)->jL s'.f (h:Int) (laid xs p.a (p.b - p.a) bs) k=s'.f k:=fun d k H Z=>by
  unfold jL;rw[mu];intro e;subst e;exact H (fH.inj d p.c _ Z vy)
 refine⟨⟨fH.z,fH.eY,fH.lQ,fun c q aQ=>?_,fH.inj,fH.GK,fun k Z=>?_,fH.GL,Sx fH.dom (by rw[nh,dW];exact Sw aq.z)⟩,r1,nl,r2,fun c kq=>⟨(gh c kq).1,fun aB=>?_⟩,fun aB=>by rw[pT];exact afB (s:={s' with f:=jL s'.f (h:Int) (laid xs p.a (p.b - p.a) bs)}) vy (vj rfl) aB,afC (s:={s' with f:=jL s'.f (h:Int) (laid xs p.a (p.b - p.a) bs)}) vy,kr⟩
 .rcases fH.slot c q aQ with e |e |⟨k,e,g1,ys,g2,cK⟩
  .exact .inl e
  .exact .inr (.inl e)
  .refine .inr (.inr ⟨k,e,g1,?_⟩)
   by_cases Z:(k:Int)=(h:Int)
   .exact⟨_,vj Z,by rw[nh,dW,<-g5];rfl⟩
   .exact⟨ys,(mu Z).trans g2,cK⟩
 .show(if(k:Int)=(h:Int) then _ else s'.f k)=none;rw[mu]
  .exact fH.AS k Z
  .intro e;have:k=h:=aD9
   subst this;rcases fH.slot p.c _ vy with e |e |⟨j,e,g1,_⟩
   .cases e
   .cases e
   .have:(k:Int)=(j:Int):=by injection e with _ e;injection e
    have:k=j:=aD9
    rw[this,g1] at Z
    cases Z
 .refine Lz (s:=s) (s':={s' with f:=jL s'.f (h:Int) (laid xs p.a (p.b - p.a) bs)}) r1 (gh c kq).1 (fun k Z=>?_) aq aB;rw[<-(gh c kq).2 k Z];exact afE c k kq ((gh c kq).1.trans Z)
structure LB (s s':bL) (c:Nat) (q:fo):Prop where
 ok:gB s'
 z:s'.z=s.z
 eY:s'.t.length=s.t.length
 lQ:s'.l.length=s.l.length
 jt: ∀d,d≠c->s'.t[d]? =s.t[d]? /\ ∀aB,ep s' d aB=ep s d aB
 Du:s'.t[c]? =some q
 i2:d6 s.l<=d6 s'.l
def LC {s:bL} (aq:gB s) {c:Nat} (J:c < s.t.length) {q:fo} (aQ:q=ck\/q=um):LB s (rW s c q) c q:=by
 have nb:s.t[c]? =some (s.t.getD c ck):=by rw[as7,as0 J];rfl
 have vn: ∀h:Int,q≠((1:Int),h,true):=fun h e=>by rcases aQ with aQ |aQ <;>rw[aQ] at e <;>cases e
 have SI:q=ck\/q=((2:Int),(0:Int),false):=aQ;unfold rW AR;rcases GN aq J with⟨_,h⟩ |⟨_,h,E,G,xs,ah,aW⟩
 .have hn: ¬(s.t.getD c ck).1=1:=by rcases h with h |h <;>rw[h] <;>decide
  rw[mu hn];refine⟨⟨aq.z,by show(s.t.set _ _).length<=256;rw[ay0];exact aq.eY,aq.lQ,fun d r ax=>?_,fun d e k H U=>?_,aq.GK,aq.AS,fun k Z=>?_,aq.dom⟩,rfl,ay0,rfl,fun d H=>⟨ax1 (ay4 H),fun aB=>Lz (s:=s) (s':={s with t:=s.t.set c q}) rfl (ax1 (ay4 H)) (fun _ _=>rfl) aq aB⟩,ax8 J,as2 _⟩
  .rw[aA0] at ax
   split at ax
   .injection ax with ax
    rw[<-ax];exact SI.imp id .inl
   .exact aq.slot d r ax
  .rw[aA0] at H U
   split at H
   .injection H with H;exact as3 H (vn k)
   .split at U
    .injection U with U;exact as3 U (vn k)
    .exact aq.inj d e k H U
  .obtain⟨d,H⟩:=aq.GL k Z
   have a8:c≠d:=fun e=>by
    subst e;rw[nb] at H;injection H with H
    rw[H] at hn;exact hn rfl
   exact⟨d,(ax1 a8).trans H⟩
 .have aU:=AT E;rw[aU,vj rfl];have bv:h < s.l.length:=(at0.1 G).1;have bK:((h:Int)).toNat=h:=rfl;simp only[bK]
  have other: ∀(d k:Nat),d≠c->s.t[d]? =some ((1:Int),(k:Int),true)->k≠h:=fun d k H Z e=>by
   subst e;exact H (aq.inj d c _ Z E)
  refine⟨⟨aq.z,by show(s.t.set _ _).length<=256;rw[ay0];exact aq.eY,by show(s.l.set _ _).length<=512;rw[ay0];exact aq.lQ,fun d r ax=>?_,fun d e k H U=>?_,fun k n Z=>?_,fun k Z=>?_,fun k Z=>?_,fun k xs Z=>aq.dom k xs (by
   have Z:(if k=(h:Int) then none else s.f k)=some xs:=Z
   split at Z
   .cases Z
   .exact Z)⟩,rfl,ay0,ay0,fun d H=>⟨ax1 (ay4 H),fun aB=>Lz (s:=s) (s':={s with t:=s.t.set c q,l:=s.l.set h 0,f:=Dm s.f (h:Int)}) rfl (ax1 (ay4 H)) (fun k Z=>?_) aq aB⟩,ax8 J,?_⟩
  .rw[aA0] at ax
   split at ax
   .injection ax with ax
    rw[<-ax];exact SI.imp id .inl
   .rename_i a8;rcases aq.slot d r ax with e |e |⟨k,e,g1,ys,g2,cK⟩
    .exact .inl e
    .exact .inr (.inl e)
    .have Z:=other d k (ay4 a8) (e▸ax);exact .inr (.inr ⟨k,e,by show(s.l.set h 0)[k]? =some 1;rw[ax1 (ay4 Z)];exact g1,ys,by show(if(k:Int)=(h:Int) then none else s.f k)=some ys;rw[mu aD1];exact g2,cK⟩)
  .rw[aA0] at H U
   split at H
   .injection H with H;exact as3 H (vn k)
   .split at U
    .injection U with U;exact as3 U (vn k)
    .exact aq.inj d e k H U
  .rw[aA0] at Z
   split at Z
   .injection Z with Z;exact .inl Z.symm
   .exact aq.GK k n Z
  .show(if(k:Int)=(h:Int) then none else s.f k)=none
   by_cases e:k=h
   .rw[vj aD1]
   .rw[mu aD1];rw[ax1 (fun ao=>e ao.symm)] at Z;exact aq.AS k Z
  .by_cases e:k=h
   .subst e;rw[ax8 bv] at Z
    cases Z
   .rw[ax1 (fun ao=>e ao.symm)] at Z;obtain⟨d,H⟩:=aq.GL k Z
    have a8:c≠d:=fun ao=>by
     subst ao;rw[E] at H;injection H with H
     have:(h:Int)=(k:Int):=by injection H with _ H;injection H
     omega
    exact⟨d,(ax1 a8).trans H⟩
  .rcases aq.slot d _ Z with e |e |⟨j,e,_⟩
   .cases e
   .cases e
   .have V:k=(j:Int):=by injection e with _ e;injection e
    subst V;have:=other d j H Z;show(if(j:Int)=(h:Int) then none else s.f j)=s.f j;rw[mu aD1]
  .have:=SH (m:=0) G;simp at this;show d6 s.l<=d6 (s.l.set h 0);omega
def Dv {s s':bL} {c:Nat} (h:s'.t[c]? =s.t[c]?):hD s' c=hD s c:=by unfold hD;rw[as7,as7,h]
structure iL (s s':bL):Prop where
 ok:gB s'
 z:s'.z=s.z
 eY:s'.t.length=s.t.length
 lQ:s'.l.length=s.l.length
def iL.refl {s:bL} (h:gB s):iL s s:=⟨h,rfl,rfl,rfl⟩
def iL.trans {s s' Dw:bL} (h:iL s s') (k:iL s' Dw):iL s Dw:=⟨k.ok,k.z.trans h.z,k.eY.trans h.eY,k.lQ.trans h.lQ⟩
def iL.aG {s s':bL} (h:iL s s'):aG s'=aG s:=as5 (fun b=>16*2 ^b) h.z
def Dt.eD {s s':bL} {p:nj} {bs y:aG9} (h:Dt s s' p bs y):iL s s':=⟨h.ok,h.z,h.eY,h.lQ⟩
def LB.eD {s s':bL} {c:Nat} {q:fo} (h:LB s s' c q):iL s s':=⟨h.ok,h.z,h.eY,h.lQ⟩
def ps (s s':bL) (c:Nat):Prop:=s'.t[c]? =s.t[c]? /\ ∀aB,ep s' c aB=ep s c aB
def ps.refl (s:bL) (c:Nat):ps s s c:=⟨rfl,fun _=>rfl⟩
def ps.trans {s s' Dw:bL} {c:Nat} (h:ps s s' c) (k:ps s' Dw c):ps s Dw c:=⟨k.1.trans h.1,fun aB=>(k.2 aB).trans (h.2 aB)⟩
def LD (s:bL) (bp:bq->bg) (b1 b2:Nat) (y:Nat->aG9):Prop:= ∀s',iL s s'-> ∀(c:Nat) (h:c < s'.t.length),(s'.t[c]).1=0->GJ s' bp b1 b2 c (y c)
def afF (s:bL) (a l:Nat) {j k:Nat} (h:j<=k):ik s a l j<=ik s a l k:=by
 induction k with
 |zero=>
    have:j=0:=aD9
    rw[this];exact as2 _
 |succ k bn=>
  by_cases e:j=k+1
  .rw[e];exact as2 _
  .have:=bn aD1;show ik s a l j<=ik s a l k+_;omega
def SJ {bs:aG9} {p:nj} (E:p.a<=p.b) (G:p.at_+(p.b - p.a)<=bs.length):(p3 bs p).length=p.b - p.a:=by unfold p3;rw[ax4,at3];omega
structure GV (s:bL) (a l:Nat) (bs:aG9) (y:Nat->aG9) (k:Nat):Prop where
 eD:iL s (jh s a l bs y k)
 i2:d6 (jh s a l bs y k).l+ik s a l k=d6 s.l
 jt: ∀c,(c < 16*a/aG s\/16*a/aG s+k<=c)->ps s (jh s a l bs y k) c
 done: ∀j,j < k->hD (jh s a l bs y k) (16*a/aG s+j)=false/\ ∀aB,ep (jh s a l bs y k) (16*a/aG s+j) aB=laid (ep s (16*a/aG s+j) (some (y (16*a/aG s+j)))) (bk (aG s) a l j).a ((bk (aG s) a l j).b - (bk (aG s) a l j).a) (p3 bs (bk (aG s) a l j))
def SK {s:bL} (aq:gB s) {a l:Nat} {bs:aG9} (gb:bs.length=16*l) (dK:a+l<=fh s) {y:Nat->aG9} (dD:ik s a l (cF (aG s) a l)<=d6 s.l) {k:Nat} (h:GV s a l bs y k) (Z:k < cF (aG s) a l):Dt (jh s a l bs y k) (jh s a l bs y (k+1)) (bk (aG s) a l k) (p3 bs (bk (aG s) a l k)) (y (bk (aG s) a l k).c)/\(hD (jh s a l bs y k) (bk (aG s) a l k).c=true->0 < d6 (jh s a l bs y k).l):=by
 have dd:=oD aq.z;obtain⟨c1,cy,c5,c'⟩:=rX dd Z;obtain⟨J,_⟩:=r0 aq dK Z;have l8:=h.jt (16*a/aG s+k) (.inr (as2 _))
 have aN:hD (jh s a l bs y k) (bk (aG s) a l k).c=true->0 < d6 (jh s a l bs y k).l:=fun hn=>by
  have bo:hD (jh s a l bs y k) (bk (aG s) a l k).c=hD s (bk (aG s) a l k).c:=Dv l8.1;rw[bo] at hn;have E:=afF s a l (show k+1<=cF (aG s) a l from Z)
  have G:ik s a l (k+1)=ik s a l k+1:=by
   show ik s a l k+_=_;rw[vj hn]
  have:=h.i2;omega
 exact⟨LA h.eD.ok aG4 c1 (by rw[h.eD.aG];exact cy) (SJ c1 aD1) aN,aN⟩
def AZ {s:bL} (aq:gB s) {a l:Nat} {bs:aG9} (gb:bs.length=16*l) (dK:a+l<=fh s) (y:Nat->aG9) (dD:ik s a l (cF (aG s) a l)<=d6 s.l): ∀k,k<=cF (aG s) a l->GV s a l bs y k/\(k < cF (aG s) a l->Dt (jh s a l bs y k) (jh s a l bs y (k+1)) (bk (aG s) a l k) (p3 bs (bk (aG s) a l k)) (y (bk (aG s) a l k).c)/\(hD (jh s a l bs y k) (bk (aG s) a l k).c=true->0 < d6 (jh s a l bs y k).l))
 |0,Z=>by
  have aw:GV s a l bs y 0:=⟨iL.refl aq,rfl,fun c _=>ps.refl s c,fun j V=>as3 V aD1⟩;exact⟨aw,fun Z=>SK aq gb dK dD aw Z⟩
 |k+1,Z=>by
  obtain⟨h,au⟩:=AZ aq gb dK y dD k aD1;have eX:k < cF (aG s) a l:=aD9
  obtain⟨ae,_⟩:=au eX;have np:(bk (aG s) a l k).c=16*a/aG s+k:=rfl;have l8:=h.jt (16*a/aG s+k) (.inr (as2 _))
  have E:GV s a l bs y (k+1):=by
   refine⟨h.eD.trans ae.eD,?_,fun c J=>?_,fun j V=>?_⟩
   .have af:=ae.i2;have ao:=h.i2;have bo:hD (jh s a l bs y k) (bk (aG s) a l k).c=hD s (bk (aG s) a l k).c:=Dv l8.1;rw[bo] at af;show d6 _+(ik s a l k+_)=_;omega
   .exact(h.jt c (J.imp id fun h=>by omega)).trans (ae.jt c (by rw[np];omega))
   .by_cases e:j=k
    .subst e;refine⟨ae.kE,fun aB=>?_⟩;have:=ae.Du aB;rw[np] at this;rw[this,l8.2]
    .obtain⟨g1,g2⟩:=h.done j aD1;have hf:=ae.jt (16*a/aG s+j) (by rw[np];omega);exact⟨(Dv hf.1).trans g1,fun aB=>(hf.2 aB).trans (g2 aB)⟩
  exact⟨E,fun Z=>SK aq gb dK dD E Z⟩
def A0 (s:bL) (a l:Nat):Int:=if ik s a l (cF (aG s) a l)<=d6 s.l then 0 else 120
def w9 (s:bL) (a l:Nat) (bs:aG9) (y:Nat->aG9):bL:=if ik s a l (cF (aG s) a l)<=d6 s.l then jh s a l bs y (cF (aG s) a l) else s
def afG (s:bL) (bp:bq->bg) (b1 b2:Nat) (aq:gB s) (a l:Nat) (bs:aG9) (gb:bs.length=16*l) (aw:d2 s a l=0) (y:Nat->aG9) (cQ:LD s bp b1 b2 y):
  Fn prog 106 [ap 1001,ab (a:Int),bP .u8 bs,nS b1 b2] (gn s bp) [] (ab (A0 s a l)) (gn (w9 s a l bs y) bp):=by
 have dK:=nn aw;refine afq s bp b1 b2 aq a l bs gb aw y _ _ (fun h=>⟨mu aD1,mu aD1⟩) (fun h=>⟨vj h,vj h⟩) (fun dD k Z=>?_) (fun dD k Z=>(AZ aq gb dK y dD k Z).1.eD.z);obtain⟨h,au⟩:=AZ aq gb dK y dD k (Nat.le_of_lt Z);obtain⟨_,aN⟩:=au Z;obtain⟨c1,cy,c5,c'⟩:=rX (oD aq.z) Z;obtain⟨J,_⟩:=r0 aq dK Z;have ee:(bk (aG s) a l k).c < (jh s a l bs y k).t.length:=aG4
 exact SA (jh s a l bs y k) bp b1 b2 h.eD.ok (bk (aG s) a l k) ee (p3 bs (bk (aG s) a l k)) c1 (by rw[h.eD.aG];exact cy) (SJ c1 aD1) (y (bk (aG s) a l k).c) (fun e=>cQ _ h.eD _ ee e) aN
def afH {s:bL} (aq:gB s) {a l:Nat} {bs:aG9} (gb:bs.length=16*l) (aw:d2 s a l=0) (y:Nat->aG9):iL s (w9 s a l bs y):=by
 unfold w9
 split
 .rename_i h;exact(AZ aq gb (nn aw) y h _ (as2 _)).1.eD
 .exact iL.refl aq
structure LE (s:bL) (a l:Nat) (k:Nat):Prop where
 eD:iL s (j6 s a l k)
 jt: ∀c,(c < 16*a/aG s\/16*a/aG s+k<=c)->ps s (j6 s a l k) c
 done: ∀j,j < k->if(bk (aG s) a l j).b - (bk (aG s) a l j).a=aG s then(j6 s a l k).t[16*a/aG s+j]? =some ck else ps s (j6 s a l k) (16*a/aG s+j)
def yE {s:bL} (aq:gB s) {a l:Nat} (dK:a+l<=fh s): ∀k,k<=cF (aG s) a l->LE s a l k
 |0,_=>⟨iL.refl aq,fun c _=>ps.refl s c,fun j V=>as3 V aD1⟩
 |k+1,Z=>by
  have h:=yE aq dK k aD1;have eX:k < cF (aG s) a l:=aD9
  obtain⟨J,_⟩:=r0 aq dK eX;have np:(bk (aG s) a l k).c=16*a/aG s+k:=rfl;have l8:=h.jt (16*a/aG s+k) (.inr (as2 _))
  by_cases e:(bk (aG s) a l k).b - (bk (aG s) a l k).a=aG s
  .have af:j6 s a l (k+1)=rW (j6 s a l k) (bk (aG s) a l k).c ck:=vj e;have ae:=LC h.eD.ok (c:=(bk (aG s) a l k).c) aG4 (q:=ck) (.inl rfl);rw[<-af] at ae;refine⟨h.eD.trans ae.eD,fun c J=>(h.jt c (J.imp id fun h=>by omega)).trans (ae.jt c (by rw[np];omega)),fun j V=>?_⟩
   by_cases AN:j=k
   .subst AN;rw[vj e];exact ae.Du
   .have g:=h.done j aD1;have hf:=ae.jt (16*a/aG s+j) (by rw[np];omega)
    split
    .rename_i ao;rw[vj ao] at g;exact hf.1.trans g
    .rename_i ao;rw[mu ao] at g;exact g.trans hf
  .have af:j6 s a l (k+1)=j6 s a l k:=mu e;rw[show LE s a l (k+1)↔LE s a l (k+1) from Iff.rfl];refine⟨by rw[af];exact h.eD,fun c J=>by rw[af];exact h.jt c (J.imp id fun h=>by omega),fun j V=>?_⟩;rw[af]
   by_cases AN:j=k
   .subst AN;rw[mu e];exact l8
   .exact h.done j aD1
def A1 (s:bL) (a l:Nat):bL:=j6 s a l (cF (aG s) a l)
def SL {s:bL} (aq:gB s) {c:Nat} (J:c < s.t.length):(s.t.getD c ck).1=1-> ∃h:Nat,(s.t.getD c ck).2.1=(h:Int)/\s.l[h]? =some 1:=fun E=>by
 rcases GN aq J with⟨_,h⟩ |⟨_,h,g1,g2,_⟩
 .rcases h with h |h <;>rw[h] at E <;>cases E
 .exact⟨h,by rw[AT g1],g2⟩
def afI (s:bL) (aq:gB s) (a l:Nat) (aw:d2 s a l=0):Fn prog 110 [ap 1001,ab (a:Int),ab (l:Int)] (dM s) [] (ab 0) (dM (A1 s a l)):=by
 have dK:=nn aw;refine aft s aq a l aw (fun k Z=>?_) (fun k Z=>(yE aq dK k Z).eD.z);have h:=yE aq dK k (Nat.le_of_lt Z);obtain⟨J,_⟩:=r0 aq dK Z;have ee:(bk (aG s) a l k).c < (j6 s a l k).t.length:=aG4
 exact Lm (j6 s a l k) h.eD.ok.eY _ ee ck ⟨aD2,aD2⟩ rfl (SL h.eD.ok ee)
structure SM (s:bL) (a l:Nat) (y:Nat->aG9) (k:Nat):Prop where
 eD:iL s (eI s a l y k)
 i2:d6 s.l<=d6 (eI s a l y k).l+hp s a l k
 jt: ∀c,(c < 16*a/aG s\/16*a/aG s+k<=c)->ps s (eI s a l y k) c
def afJ (s:bL) (a l:Nat) {j k:Nat} (h:j<=k):hp s a l j<=hp s a l k:=by
 induction k with
 |zero=>
    have:j=0:=aD9
    rw[this];exact as2 _
 |succ k bn=>
  by_cases e:j=k+1
  .rw[e];exact as2 _
  .have:=bn aD1;show hp s a l j<=hp s a l k+_;omega
def GW {s s':bL} (h:iL s s') (p:nj):k9 s' p=k9 s p:=by unfold k9;rw[h.aG]
def LF {s:bL} {a l:Nat} {y:Nat->aG9} (dD:hp s a l (cF (aG s) a l)<=d6 s.l) {k:Nat} (h:SM s a l y k) (Z:k < cF (aG s) a l) (hw:k9 s (bk (aG s) a l k)=false) (G:((eI s a l y k).t.getD (bk (aG s) a l k).c ck).1≠2):
  hD (eI s a l y k) (bk (aG s) a l k).c=true->0 < d6 (eI s a l y k).l:=fun hn=>by
 have l8:=h.jt (16*a/aG s+k) (.inr (as2 _));have bo:hD (eI s a l y k) (bk (aG s) a l k).c=hD s (bk (aG s) a l k).c:=Dv l8.1
 have c7:(eI s a l y k).t.getD (bk (aG s) a l k).c ck=s.t.getD (bk (aG s) a l k).c ck:=by
  rw[as7,as7];exact as5 (fun o=>o.getD ck) l8.1
 rw[bo] at hn;rw[c7] at G
 have aN:oE s (bk (aG s) a l k)=true:=by
  unfold oE;rw[hw,at4 G,hn];rfl
 have E:=afJ s a l (show k+1<=cF (aG s) a l from Z)
 have ah:hp s a l (k+1)=hp s a l k+1:=by
  show hp s a l k+_=_;rw[vj aN]
 have:=h.i2;omega
def yF {s:bL} (aq:gB s) {a l:Nat} (dK:a+l<=fh s) (y:Nat->aG9) (dD:hp s a l (cF (aG s) a l)<=d6 s.l): ∀k,k<=cF (aG s) a l->SM s a l y k
 |0,_=>⟨iL.refl aq,Nat.le_add_right _ _,fun c _=>ps.refl s c⟩
 |k+1,Z=>by
  have h:=yF aq dK y dD k aD1;have eX:k < cF (aG s) a l:=aD9
  obtain⟨J,_⟩:=r0 aq dK eX;obtain⟨c1,cy,c5,c'⟩:=rX (oD aq.z) eX;have np:(bk (aG s) a l k).c=16*a/aG s+k:=rfl;have ee:(bk (aG s) a l k).c < (eI s a l y k).t.length:=aG4
  have l8:=h.jt (16*a/aG s+k) (.inr (as2 _));have rt:hp s a l (k+1)=hp s a l k+(if oE s (bk (aG s) a l k)=true then 1 else 0):=rfl;have af:eI s a l y (k+1)=vz (eI s a l y k) (bk (aG s) a l k) (y (bk (aG s) a l k).c):=rfl;unfold vz at af;rw[GW h.eD] at af
  by_cases hw:k9 s (bk (aG s) a l k)=true
  .rw[vj hw] at af;have ae:=LC h.eD.ok (c:=(bk (aG s) a l k).c) ee (q:=um) (.inr rfl);rw[<-af] at ae;refine⟨h.eD.trans ae.eD,?_,fun c J=>(h.jt c (J.imp id fun h=>by omega)).trans (ae.jt c (by rw[np];omega))⟩;have:=ae.i2;have:=h.i2;omega
  .have hw:k9 s (bk (aG s) a l k)=false:=by simpa using hw
   rw[hw,mu aD2] at af
   by_cases G:((eI s a l y k).t.getD (bk (aG s) a l k).c ck).1=2
   .rw[vj G] at af;refine⟨by rw[af];exact h.eD,?_,fun c J=>by rw[af];exact h.jt c (J.imp id fun h=>by omega)⟩;rw[af];have:=h.i2;omega
   .rw[mu G] at af;have ae:=LA (y:=y (bk (aG s) a l k).c) (bs:=un ((bk (aG s) a l k).b - (bk (aG s) a l k).a)) h.eD.ok ee c1 (by rw[h.eD.aG];exact cy) at5 (LF dD h eX hw G);rw[<-af] at ae;refine⟨h.eD.trans ae.eD,?_,fun c J=>(h.jt c (J.imp id fun h=>by omega)).trans (ae.jt c (by rw[np];omega))⟩;have fY:=ae.i2;have bo:hD (eI s a l y k) (bk (aG s) a l k).c=hD s (bk (aG s) a l k).c:=Dv l8.1
    have c7:(eI s a l y k).t.getD (bk (aG s) a l k).c ck=s.t.getD (bk (aG s) a l k).c ck:=by
     rw[as7,as7];exact as5 (fun o=>o.getD ck) l8.1
    rw[c7] at G
    have aN:oE s (bk (aG s) a l k)=hD s (bk (aG s) a l k).c:=by
     unfold oE;rw[hw,at4 G];rfl
    rw[bo,<-aN] at fY;have:=h.i2;omega
def A2 (s:bL) (a l:Nat):Int:=if hp s a l (cF (aG s) a l)<=d6 s.l then 0 else 120
def xa (s:bL) (a l:Nat) (y:Nat->aG9):bL:=if hp s a l (cF (aG s) a l)<=d6 s.l then eI s a l y (cF (aG s) a l) else s
def afK (s:bL) (bp:bq->bg) (b1 b2:Nat) (aq:gB s) (a l:Nat) (aw:d2 s a l=0) (y:Nat->aG9) (cQ:LD s bp b1 b2 y):
  Fn prog 108 [ap 1001,ab (a:Int),ab (l:Int),nS b1 b2] (gn s bp) [] (ab (A2 s a l)) (gn (xa s a l y) bp):=by
 have dK:=nn aw;refine afx s bp b1 b2 aq a l aw y _ _ (fun h=>⟨mu aD1,mu aD1⟩) (fun h=>⟨vj h,vj h⟩) (fun dD k Z=>?_) (fun dD k Z hw=>?_) (fun dD k Z hw G=>?_)
 .have h:=(yF aq dK y dD k Z).eD;exact⟨h.ok,h.z,h.eY⟩
 .have h:=yF aq dK y dD k (Nat.le_of_lt Z);obtain⟨J,_⟩:=r0 aq dK Z;have ee:(bk (aG s) a l k).c < (eI s a l y k).t.length:=aG4
  have af:eI s a l y (k+1)=rW (eI s a l y k) (bk (aG s) a l k).c um:=vj ((GW h.eD _).trans hw);rw[af];exact Lm (eI s a l y k) h.eD.ok.eY _ ee um ⟨aD2,aD2⟩ rfl (SL h.eD.ok ee)
 .have h:=yF aq dK y dD k (Nat.le_of_lt Z);obtain⟨J,_⟩:=r0 aq dK Z;obtain⟨c1,cy,c5,c'⟩:=rX (oD aq.z) Z;have ee:(bk (aG s) a l k).c < (eI s a l y k).t.length:=aG4
  have af:eI s a l y (k+1)=yx (eI s a l y k) (bk (aG s) a l k) (un ((bk (aG s) a l k).b - (bk (aG s) a l k).a)) (y (bk (aG s) a l k).c):=by
   show vz _ _ _=_;unfold vz;rw[GW h.eD,hw,mu aD2,mu G]
  rw[af];exact SA (eI s a l y k) bp b1 b2 h.eD.ok (bk (aG s) a l k) ee _ c1 (by rw[h.eD.aG];exact cy) at5 _ (fun e=>cQ _ h.eD _ ee e) (LF dD h Z hw G)
def afL {s:bL} (aq:gB s) {a l:Nat} (aw:d2 s a l=0) (y:Nat->aG9):iL s (xa s a l y):=by
 unfold xa
 split
 .rename_i h;exact(yF aq (nn aw) y h _ (as2 _)).eD
 .exact iL.refl aq
def afM (s:bL) (bp:bq->bg) (b1 b2:Nat) (aq:gB s) (a l:Int) (aw:d2 s a l≠0):Fn prog 108 [ap 1001,ab a,ab l,nS b1 b2] (gn s bp) [] (ab (d2 s a l)) (gn s bp):=by refine aY [] func108 ?_;refine⟨rfl,rfl,ar (w8 s aq a l) ?_⟩;exact⟨fun _=>bh,fun h=>as3 (show d2 s a l=0 by have h:(!decide (d2 s a l=0))=false:=h;simpa using h) aw⟩
def gC (z size R:Nat):bL:=⟨z,List.replicate size ck,List.replicate R (0:Int),Lk⟩
def afN {z size R:Nat} (E:z<=3) (G:size<=256) (ah:R<=512):gB (gC z size R):=by
 have cm: ∀(c:Nat) (q:fo),(gC z size R).t[c]? =some q->q=ck:=fun c q h=>by
  have h:(List.replicate size ck)[c]? =some q:=h;rw[aB6] at h
  split at h
  .injection h with h;exact h.symm
  .cases h
 have ak: ∀(h:Nat) n,(gC z size R).l[h]? =some n->n=0:=fun h n e=>by
  have e:(List.replicate R (0:Int))[h]? =some n:=e;rw[aB6] at e
  split at e
  .injection e with e;exact e.symm
  .cases e
 refine⟨E,by show(List.replicate size ck).length<=256;rw[at5];exact G,by show(List.replicate R (0:Int)).length<=512;rw[at5];exact ah,fun c q aQ=>.inl (cm c q aQ),fun c d h J H=>?_,fun h n hn=>.inl (ak h n hn),fun h _=>rfl,fun h bd=>?_,fun k xs Z=>(by cases Z)⟩
 .have:=cm c _ J;cases this
 .have:=ak h _ bd;cases this
def kN (z size R:Int):Bool:=decide (0<=size)&&decide (size<=256)&&(decide (0<=R)&&decide (R<=512))&&(decide (0<=z)&&decide (z<=3))
def afO (z size R:Nat) (E:z<=3) (G:size<=256) (ah:R<=512):Fn prog 57 [ab (z:Int),ab (size:Int),ab (R:Int)] [] [1001,1002,1003,1004] (.cn [.one (.ptr 1001 0),dJ 0]) (dM (gC z size R)):=by
 refine aY [3] func57 ?_;refine ar (Fn.aX [(1001,1002),(1002,2002)] (Li size G)) <| ar (Fn.aX [(1001,1003),(1002,2003)] (Gx (R:Int) aD1 aD1)) <| bz [] (cM [(0,ab (z:Int)),(8,ap 1002),(9,ab 0),(10,ap 1003),(11,ab 0)] [(1002,.aH (rT (List.replicate size ck))),(1003,.aH (rU (List.replicate R (0:Int))))]) <| dE <| dE ⟨fun h=>?_,fun h=>?_⟩
 .exfalso;have h:(z:Int) < 0:=gd h;omega
 refine⟨fun h=>?_,fun h=>?_⟩
 .exfalso;have h:(3:Int) < (z:Int):=gd h;omega
 exact⟨rfl,rfl,_,_,_,(ac.aX 41 1001 rfl).trans ((ac.aX 39 1004 rfl).trans (ac.Sp 1004 rfl)),rfl,aD,aD,rfl⟩
def afP {z size R:Int} (h:kN z size R=false): ¬(0<=size/\size<=256)\/ ¬(0<=R/\R<=512)\/ ¬(0<=z/\z<=3):=by
 unfold kN at h
 by_cases E:0<=size/\size<=256
 .by_cases G:0<=R/\R<=512
  .by_cases ah:0<=z/\z<=3
   .rw[at4 E.1,at4 E.2,at4 G.1,at4 G.2,at4 ah.1,at4 ah.2] at h
    cases h
   .exact .inr (.inr ah)
  .exact .inr (.inl G)
 .exact .inl E
def SN (z size R:Int) (h:kN z size R=false):Fn prog 57 [ab z,ab size,ab R] [] [] (.cn [nf,dJ 1]) []:=by
 have O:=afP h;refine aY [] func57 ?_
 by_cases E:0<=size/\size<=256
 .obtain⟨dZ,rfl⟩: ∃n:Nat,size=(n:Int):=⟨size.toNat,aD1⟩;refine ar (Fn.aX [(1001,1002),(1002,2002)] (Li dZ aD1)) ?_
  by_cases G:0<=R/\R<=512
  .refine ar (Fn.aX [(1001,1003),(1002,2003)] (Gx R aD1 aD1)) <| dE <| dE ⟨fun _=>?_,fun ah=>?_⟩
   .exact bh
   .refine⟨fun _=>?_,fun aW=>?_⟩
    .exact bh
    .exfalso;have ah: ¬z < 0:=oj ah;have aW: ¬(3:Int) < z:=oj aW;omega
  .exact ar (Sl R G) <| dE <| fm bh
 .refine ar (aeP size E) ?_
  by_cases G:0<=R/\R<=512
  .exact ar (Fn.aX [(1001,1003),(1002,2003)] (Gx R aD1 aD1)) <| fm bh
  .exact ar (Sl R G) <| fm bh
end
section
def Fn.via {P:aH6} {f:aI5} {args:List aS} {aJ:aA} {bb:aH0} {res:aS} {aT:aA} {X:Type} {args':X->List aS} {vA:X->aA} {nH:X->aA} {jK:X->aH0} {res':X->aS} {oF:X->aA} (gf:jU P f=true) (n:Nat) (hn:args.length=n)
  (dw:dv (ct aJ) (ph 0 args) aJ (fun x=>ph 0 (args' x)) vA) (h: ∀x,Fn P f (args' x) (nH x) (jK x) (res' x) (oF x)) (ib: ∀x,lq (vA x) (nH x)) (cJ: ∀x,(sF (ct aJ) (ph 0 (args' x)) (vA x) (jK x)&&m0 (nH x) (jK x) (oF x))=true) (bX: ∀x,(args' x).length=n)
  (ot: ∀x,∃(r:aS) (j1:aA),ac (ct aJ) ((n,res' x)::ph 0 (args' x)) (hy (iW (nH x) (oF x)) (vA x)) [(n,r)] j1/\sE r res/\lq j1 aT/\(res.jp (ct aJ++bb)&&wI (ct aJ++bb) aT&&(ct aT).all (fun c=>(ct aJ++bb).contains c))=true):Fn P f args aJ bb res aT:=by
 refine⟨gf,fun ρ F I w bZ a1 c4 bj eQ rD dI=>?_⟩
 let C:fv:=⟨w,I,fun b=> ∃c ch,aj aJ c=some ch/\F c b,ρ,[]⟩
 let a:Act:={tmps:=(bZ++[undef]).toArray,defers:=[]}
 have sV:cp I w (b5 C aJ F w) w:=fun b O=>⟨⟨a1 b O,.inl O,fun c ch J qE=>(bj c ch J b qE).2 O⟩,rfl⟩
 have afQ:Mem (ct aJ) C aJ ρ F w:=⟨cZ.refl _ _,fun c ch J=>Holds.cr sV (fun _ _=>rfl) (as2 _) ch (fun _ _=>rfl) (c4 c ch J),fun c ch J b O=>⟨(bj c ch J b O).1,.inl ⟨c,ch,J,O⟩⟩,eQ,fun c _=>rfl,ay9,fun b O=>O.elim (a1 b) fun⟨c,ch,J,CL⟩=>(bj c ch J b CL).1,fun D ce=>by cases ce⟩
 have jZ: ∀(i:Nat) (aE:i < bZ.length),a.tmps.getD i undef=bZ[i]:=fun i aE=>by
  show(bZ++[undef]).toArray.getD i undef=_;rw[az7,List.getElem?_toArray,au7 aE,as0 aE];rfl
 have afR:fe (n+1) (ct aJ) C (ph 0 args) aJ a w:=by
  refine⟨by show(bZ++[undef]).toArray.size=n+1;simp[rD,hn],rfl,ρ,F,afQ,fun s=>?_⟩;rw[CJ];simp only[at2,if_true,Nat.sub_zero]
  cases au:args[s]? with
  |none=>trivial
  |some v=>
   have bv:s < bZ.length:=by rw[rD];exact(at0.1 au).1
   simp only[az1];have hx:bZ[s]? =some bZ[s]:=as0 bv;have:=cA.mono sV v _ (fun _ _=>rfl) (dI s v _ au hx);rw[jZ s bv];exact this
 obtain⟨x,kI,x7,s1,cL,al,av⟩:=dw (n+1) C a w afR;have qJ: ∀{c ch},aj (nH x) c=some ch->aj (vA x) c=some ch:=fun {c ch} J=>k3 (ib x) J
 have cJ:=cJ x;rw[as1] at cJ
 have J:=(h x).2 s1 cL (b5 C (vA x) cL w) w bZ (fun b O=>O.1) (fun c ch J=>al.holds c ch (qJ J)) (fun c ch J b O=>⟨(al.own c ch (qJ J) b O).1,fun a1=>a1.2.2 c ch (qJ J) O⟩)
  (fun c ca ch ch' b E G=>al.fw c ca ch ch' b (qJ E) (qJ G)) (by rw[rD,hn,bX x]) (fun i v y az aC=>by
   have aE:i < bZ.length:=(at0.1 aC).1;have E:=av i;rw[CJ] at E;simp only[at2,if_true,Nat.sub_zero,az,az1] at E;rw[jZ i aE] at E;rw[as0 aE] at aC;injection aC with aC
   rw[<-aC];exact E)
 refine J.mono ?_;rintro e w' ⟨y,vb,cU,rfl,cB,cH,I',dO,fy,yG,xb,yH,LG⟩;have yg:=fe.back (dst:=some n) (ib x) cJ.1 cJ.2 kI x7 al av (fun d H=>by injection H with H;omega) cB cH fy yG xb yH LG;obtain⟨r,j1,gy,afS,GX,pV⟩:=ot x;obtain⟨GU,arE,ρ',F',bC,CM⟩:=gy _ _ _ _ yg;simp only[as1] at pV
 let AJ:Nat->bq:=fun c=>if c∈bb then ρ' c else ρ c
 have LH: ∀c,c∈ct aJ++bb->AJ c=ρ' c:=fun c J=>by
  show(if c∈bb then ρ' c else ρ c)=ρ' c
  split
  .rfl
  .rename_i hn;rcases au4.1 J with h |h
   .exact(bC.eP c h).symm
   .exact as3 h hn
 have sS:cA ρ' (b5 C j1 F' w') w' res y:=by
  have E:=CM n;rw[kV,vj rfl] at E;have G:(a.put (some n) y).tmps.getD n undef=y:=PI (by show n < (bZ++[undef]).toArray.size;simp[rD,hn]);rw[G] at E;exact wJ afS E
 refine⟨y,AJ,F',rfl,bC.fr,fun c J=>mu J,b5 C j1 F' w',?_,fun b O=>⟨O.1,?_⟩,?_,?_,?_,?_⟩
 .intro b O;have wK: ¬C.qw b:=fun⟨c,ch,E,G⟩=>(bj c ch E b G).2 O
  refine⟨⟨au2 (a1 b O) bC.fr.size,.inl O,fun c ch J qE=>?_⟩,bC.fr.block b (a1 b O) wK⟩;rcases(bC.own c ch J b qE).2 with h |h
  .exact wK h
  .have:=a1 b O;exact as3 h.1 (Nat.not_le.2 this)
 .rcases O.2.1 with h |h |h
  .exact .inl h
  .exact .inr (.inl h)
  .exact .inr (.inr h.1)
 .intro c ch J
  have Z:c∈ct aJ++bb:=by
   have:=av3.1 pV.2 c (gL.2 ⟨ch,J⟩);simpa only[av4] using this
  rw[LH c Z];exact Holds.cr (cp.refl _ _) (fun _ _=>rfl) (as2 _) ch (fun d H=>LH d (ba.k5 (yc pV.1.2 J) H)) (bC.holds c ch (k3 GX J))
 .intro c ch J b O;have cW:=k3 GX J;exact⟨(bC.own c ch cW b O).1,fun aE=>aE.2.2 c ch cW O,(bC.own c ch cW b O).2.imp id fun x=>x.1⟩
 .exact fun c ca ch ch' b E G=>bC.fw c ca ch ch' b (k3 GX E) (k3 GX G)
 .exact cA.mono (cp.refl _ _) res y (fun c J=>LH c (aS.k5 pV.1.1 J)) sS
end
section
def bg.ch (ch:ba) (h: ∀c,ch.has c=false):bg where
 bp:=fun I F w p=>Holds (fun _=>p) I F w p ch
 cr:=fun I F w I' w' p bd U bj aN=>Holds.cr U bj aN ch (fun c J=>as3 J (by rw[h c];decide)) bd
def bg.SO {ch:ba} (h: ∀c,ch.has c=false) {ρ:Nat->bq} {I F:Nat->Prop} {w:aH5} {p:bq} (bd:Holds ρ I F w p ch):(bg.ch ch h).bp I F w p:=
 Holds.cr (cp.refl _ _) (fun _ _=>rfl) (as2 _) ch (fun c J=>as3 J (by rw[h c];decide)) bd
section
variable {P:aH6} {ids:aH0} {K:aZ} {B:aA}
def ju {o:Oper} {x:aH8} {b:Nat} (ag:o.op= .nilCheck x) (hx:a7 K x= .c (.one (.d (.aM (some b))))) (N:Nat):bD P N ids o K B (.c (.one (.d (.aM (some b))))) ⟨[],[],[]⟩:=by
 have ay:x∈o.op.operands:=aD8
 refine bD.val fun K' B' g1 g2 C ρ F a w al av=>?_
 have az:a.eval x= .pointer (some ⟨b,0,none⟩):=av.ev ((g1 x ay).trans hx);exact⟨.pointer (some ⟨b,0,none⟩),by simp[execOp,ag,az],rfl⟩
def jN {o:Oper} {T:aI0} {x:aH8} {f b off:Nat} {fs:Array Field} {kn:Field} (ag:o.op= .fieldAddr T x f) (b8:P.underlying T=some (.struct fs)) (sI:fs[f]? =some kn) (s6:kn.offset=off) {i:aI9} (aE:P.info? kn.type=some i) (cz:i.size≠0) (hx:a7 K x= .c (.one (.d (.aM (some b))))) (N:Nat):
  bD P N ids o K B (.c (.one (.bN (.pointer (some ⟨b,off,none⟩))))) ⟨[],[],[]⟩:=by
 have ay:x∈o.op.operands:=aD8
 refine bD.val fun K' B' g1 g2 C ρ F a w al av=>?_
 have az:a.eval x= .pointer (some ⟨b,0,none⟩):=av.ev ((g1 x ay).trans hx);have h:=FI az ag b8 sI s6 aE cz (w:=w);rw[aw9] at h;exact⟨.pointer (some ⟨b,off,none⟩),h,rfl⟩
def afT {I:Nat->Prop} {w:aH5} {L:List (Nat×bg)} {F:Nat->Prop} {b:Nat} {l:List bE} {h: ∀c,(ba.cells l).has c=false} (bl:f1 I w L F) (cO:eH L b=some (bg.ch (.cells l) h)) {j:Nat} {x:D} (V:l[j]? =some (.d x)): ∃v,w.cell? ⟨b,j,none⟩=some v/\gY I w x v:=by obtain⟨cL,cU,p,b',cS,en,e0,vm⟩:=bl.out cO;obtain⟨E,aF,e8,G,ah⟩:=e0;obtain⟨v,az,H⟩:=cg.get _ _ ah j _ V;rw[en] at G;exact⟨v,pd G az,H⟩
def lR {o:Oper} {T:aI0} {x:aH8} {q b j:Nat} {y:D} {L:List (Nat×bg)} {l:List bE} {h: ∀c,(ba.cells l).has c=false} {d:aJ1} (ag:o.op= .load T x) (b8:P.underlying T=some d) (H:d.isRow=false) (hx:a7 K x= .c (.one (.bN (.pointer (some ⟨b,j,none⟩)))))
  (aQ:aj B q=some (.aH (.bA L))) (cO:eH L b=some (bg.ch (.cells l) h)) (V:l[j]? =some (.d y)) (N:Nat):bD P N ids o K B (.c (.one (.d y))) ⟨[q],[],[]⟩:=by
 have ay:x∈o.op.operands:=aD8
 refine bD.val fun K' B' g1 g2 C ρ F a w al av=>?_
 have bl:f1 (b5 C B' F w) w L (F q):=al.holds q _ ((g2 q aD3).trans aQ);have az:a.eval x= .pointer (some ⟨b,j,none⟩):=av.ev ((g1 x ay).trans hx);obtain⟨v,E,G⟩:=afT bl cO V;exact⟨v,FG ag az b8 H E,G⟩
def A3 {o:Oper} {T:aI0} {x v:aH8} {q b j:Nat} {y:D} {L:List (Nat×bg)} {l:List bE} {h: ∀c,(ba.cells l).has c=false} {h': ∀c,(ba.cells (l.set j (.d y))).has c=false} {i:aI9} (ag:o.op= .store T x v) (aE:P.info? T=some i) (aN:i.size=1) (hx:a7 K x= .c (.one (.bN (.pointer (some ⟨b,j,none⟩)))))
  (az:a7 K v= .c (.one (.d y))) (aQ:aj B q=some (.aH (.bA L))) (cO:eH L b=some (bg.ch (.cells l) h)) (V:j < l.length) (E: ∀{I:Nat->Prop} {w:aH5} {aB:aI3},gY I w y aB->aB.cells=List.toArray [aB]/\aB.oneCell'=true) (N:Nat):
  bD P N ids o K B .undef ⟨[q],[],[(q,some (.aH (.bA (fl L b (bg.ch (.cells (l.set j (.d y))) h')))))]⟩:=by
 have m1:x∈o.op.operands:=aD8
 have m2:v∈o.op.operands:=aD8
 refine bD.h8 aQ fun K' B' g1 C ρ F a w al av Gq=>?_
 have bl:f1 (b5 C B' F w) w L (F q):=al.holds q _ Gq;obtain⟨cL,cU,p,b',cS,en,e0,vm⟩:=bl.out cO;obtain⟨cD,aF,e8,cv,hQ⟩:=e0;have af:a.eval x= .pointer (some ⟨b,j,none⟩):=av.ev ((g1 x m1).trans hx);have ao:gY (b5 C B' F w) w y (a.eval v):=av.ev ((g1 v m2).trans az);obtain⟨hA,jd⟩:=E ao;have bX:aF.length=l.length:=cg.length _ _ hQ;rw[en] at cv;have d3:=Ct (P:=P) (o:=o) (ev:=a.eval) (w:=w) (us:=[a.eval v]) ag af hA aE aN cv aE3 (fun aB aN=>by rw[at7] at aN;rw[aN];exact jd);have hb:(w.setRow b (List.toArray (aF.take j++[a.eval v]++aF.drop (j+ [a.eval v].length)))).heap[b]? =some (.cells (List.toArray (aF.take j++[a.eval v]++aF.drop (j+ [a.eval v].length))) e8 (0,0)):=setRow_heap w _ _ _ e8 _ cv;have hd:cL b:=(cD b).2 en.symm;have qE:F q b:=(b' b).2 (.inl hd);refine⟨_,d3,⟨rfl,rfl,rfl,by simp[World.setRow],fun k _ Z=>setRow_other w _ k _ (fun e=>Z (e▸qE))⟩,fun I a2=>?_⟩
 have dI: ∀(l:List bE) (aF:aH4) (j:Nat),j < l.length->cg (fun _=>p) (b5 C B' F w) w l aF->cg (fun _=>p) (b5 C B' F w) w (l.set j (.d y)) (aF.take j++[a.eval v]++aF.drop (j+1)):=fun l=>by
  induction l with
  |nil=>intro aF j V;simp at V
  |cons s l bn=>
   rintro _ j V ⟨u,r,rfl,cB,cH⟩
   match j with
   |0=>exact⟨a.eval v,r,aD3,ao,cH⟩
   |j+1=>exact⟨u,_,rfl,cB,bn r j aF1 cH⟩
 have ue:(fun aB=>cL aB\/cU aB)=F q:=funext fun aB=>propext (b' aB).symm
 rw[<-ue]
 exact vm I _ (bg.ch (.cells (l.set j (.d y))) h') cL p a2 (by simp[World.setRow]) (fun aB aN=>setRow_other w _ aB _ (fun e=>cS b hd (e▸aN))) en
  ⟨cD,_,e8,by rw[en];exact hb,cg.mono a2 _ _ (fun _ _=>rfl) (dI l aF j V hQ)⟩ cS
def afU {o:Oper} {T kt et:aI0} {x i v:aH8} {c d q:Nat} (ag:o.op= .mapUpdate T x i v) (b8:P.underlying T=some (.map kt et)) {dk:aJ1} (kM:P.underlying kt=some dk) {aI:bB} (jg:nE aI dk=true)
  (hx:a7 K x= .c (.one (.mp c))) {key:aa aI} (Z:x0 aI (a7 K i)=some key) (az:a7 K v= .c (.one (.ptr d 0))) {es:List (aa aI×aa .aM)} {L:List (Nat×bg)} {l:List bE} {h: ∀c,(ba.cells l).has c=false} (J:aj B c=some (.map aI .aM es)) (H:aj B d=some (.cells l)) (aQ:aj B q=some (.aH (.bA L)))
  (k8:c≠d) (GY:c≠q) (SP:d≠q) (ha: ∀p∈L,p.2.pn):
  CX P ids o K B (fun dr e=> ∃b:Nat,b∉L.map (·.1)/\dr= .undef/\e=⟨[c,d,q],[],[(d,none),(c,some (.map aI .aM (dx (aI:=aI) (aK:=.aM) es key (some b)))),(q,some (.aH (.bA ((b,bg.ch (.cells l) h)::L))))]⟩):=by
 rintro N C a w ⟨hn,mC,ρ,F,al,av⟩ bv ga Q cE;obtain⟨m9,bV,bY,aW,bM,fU⟩:=al.holds c _ J;have Dx:=al.holds d _ H;have bl:f1 (b5 C B F w) w L (F q):=al.holds q _ aQ;have af:=av.mp hx;have ao:a.eval i=gZ aI key:=Cy Z (av.ev rfl);have bo:a.eval v= .pointer (some ⟨(ρ d).bm,0,none⟩):=av.ev az
 have c7:jT (b5 C B F w) w .aM (some (ρ d).bm:aa .aM) (a.eval v):=by
  rw[bo];exact⟨rfl,⟨fun _=>rfl,fun h=>by cases h⟩,rfl⟩
 obtain⟨eL,kl,ax,gK,qB⟩:=Cj (P:=P) b8 kM jg aW bM fU key c7;have rL:=(az9.1 aW).1;have afV:F d (ρ d).bm:=(Dx.1 _).2 rfl;have GZ:(ρ d).bm∉L.map (·.1):=fun O=>al.fw d q _ _ _ H aQ SP afV (KW ha bl O)
 have vu: ∀y,y≠(ρ c).bm->({w with heap:=w.heap.setIfInBounds (ρ c).bm (.map (List.toArray eL) kl)}:World).heap[y]? =w.heap[y]? :=fun y aC=>az2 (ay4 aC)
 have A4:F c (ρ c).bm:=(m9 _).2 rfl;have x8: ∀y,F d y->y≠(ρ c).bm:=fun y aC e=>al.fw d c _ _ y H J (ay4 k8) aC (e▸A4)
 have afW: ∀y,F q y->y≠(ρ c).bm:=fun y aC e=>al.fw q c _ _ y aQ J (ay4 GY) aC (e▸A4)
 have Do:(execOp a.eval o).run P w= .ok .skip {w with heap:=w.heap.setIfInBounds (ρ c).bm (.map (List.toArray eL) kl)}:=by simp only[execOp,ag,aw5,af,ao,ax,au5,ax2]
 unfold Oper.wp;rw[Do,Oper.upon_skip]
 have vp: ∀j ch,aj ((q,ba.aH (.bA (((ρ d).bm,bg.ch (.cells l) h)::L)))::(c,.map aI .aM (dx (aI:=aI) (aK:=.aM) es key (some (ρ d).bm)))::g8 B d) j=some ch->(j=c\/j=d\/j=q)->(j=q/\ch= .aH (.bA (((ρ d).bm,bg.ch (.cells l) h)::L)))\/(j=c/\ch= .map aI .aM (dx (aI:=aI) (aK:=.aM) es key (some (ρ d).bm))):=fun j ch V ay=>by
  rw[ci] at V
  split at V
  .rename_i e;injection V with V;exact .inl ⟨e.symm,V.symm⟩
  .rename_i e;rw[ci] at V
   split at V
   .rename_i ao;injection V with V;exact .inr ⟨ao.symm,V.symm⟩
   .rename_i ao;rcases ay with ay |ay |ay
    .exact as3 ay.symm ao
    .rw[ay,hM,vj rfl] at V;cases V
    .exact as3 ay.symm e
 have G0:dp F q (fun y=>F d y\/F q y) c=F c:=du _ _ GY
 obtain⟨bC,a2⟩:=al.step (B':=(q,.aH (.bA (((ρ d).bm,bg.ch (.cells l) h)::L)))::(c,.map aI .aM (dx (aI:=aI) (aK:=.aM) es key (some (ρ d).bm)))::g8 B d) (ρ':=ρ) (F':=dp F q (fun y=>F d y\/F q y)) (w':={w with heap:=w.heap.setIfInBounds (ρ c).bm (.map (List.toArray eL) kl)}) (fun j=>j=c\/j=d\/j=q) (fun _=>False)
  ((u5 (S:=F c) A4).mono fun y _ aC=>⟨c,_,J,.inl rfl,aC⟩)
  (fun j ch V ay=>by
   rw[ci,mu (fun e=>ay (.inr (.inr e.symm))),ci,mu (fun e=>ay (.inl e.symm)),hM,mu (fun e=>ay (.inr (.inl e.symm)))] at V;exact V)
  (fun _ _=>rfl) (fun j ay=>du _ _ (fun e=>ay (.inr (.inr e)))) (fun _ _ h=>h) (fun _ h=>h.elim) (fun _ _ _ _ _ _ h=>h)
  (fun j ch V ay a2=>by
   rcases vp j ch V ay with⟨rfl,rfl⟩ |⟨rfl,rfl⟩
   .rw[dh];exact⟨F d,F j,ρ d,fun _=>Iff.rfl,fun y aC eo=>al.fw d j _ _ y H aQ SP aC eo,rfl,(bg.ch (.cells l) h).cr _ _ _ _ _ _ (bg.SO h Dx) a2 (fun y aC=>vu y (x8 y aC)) aD3,bl.cr a2 aD3 fun y aC=>vu y (afW y aC)⟩
   .rw[G0];exact⟨m9,eL,kl,by simp[rL],gK.mono a2,qB⟩)
  (fun j ch V ay y aC=>by
   rcases vp j ch V ay with⟨rfl,rfl⟩ |⟨rfl,rfl⟩
   .rw[dh] at aC;rcases aC with aC |aC
    .exact⟨by simpa using(al.own d _ H y aC).1,.inl ⟨d,_,H,.inr (.inl rfl),aC⟩⟩
    .exact⟨by simpa using(al.own j _ aQ y aC).1,.inl ⟨j,_,aQ,.inr (.inr rfl),aC⟩⟩
   .rw[G0] at aC;exact⟨by simpa using(al.own j _ J y aC).1,.inl ⟨j,_,J,.inl rfl,aC⟩⟩)
  (fun j rG ch ch' y V k1 ay gK a8 aC eo=>by
   rcases vp j ch V ay with⟨rfl,rfl⟩ |⟨rfl,rfl⟩ <;>rcases vp rG ch' k1 gK with⟨rfl,rfl⟩ |⟨rfl,rfl⟩
   .exact a8 rfl
   .rw[dh] at aC;rw[G0] at eo;rcases aC with aC |aC
    .exact al.fw d rG _ _ y H J (ay4 k8) aC eo
    .exact al.fw j rG _ _ y aQ J (ay4 GY) aC eo
   .rw[dh] at eo;rw[G0] at aC;rcases eo with eo |eo
    .exact al.fw d j _ _ y H J (ay4 k8) eo aC
    .exact al.fw rG j _ _ y aQ J (ay4 GY) eo aC
   .exact a8 rfl)
 exact cE _ _ _ _ ⟨_,GZ,rfl,rfl⟩ ⟨kW.trans hn,kX.trans mC,ρ,_,bC,(av.mono a2 fun _ _ _=>rfl).kY (fun e U=>by rw[hn];exact bv e U) rfl⟩
end
end
section
def fp (b:Nat) (q:bq):bg where
 bp:=fun I F w p=>q.bm=b/\ ∀x,¬F x
 cr:=fun _ _ _ _ _ _ h _ _ _=>h
def kw (ch:ba):Prop:= ∀(ρ ρ':Nat->bq) (I F:Nat->Prop) (w:aH5) (p kH:bq),(∀c,ch.has c=true->(ρ' c).bm=(ρ c).bm)->kH.bm=p.bm->Holds ρ I F w p ch->Holds ρ' I F w kH ch
def LI:bE->Bool
 | .own _=>false
 | .os _ _ _ _=>false
 |_=>true
def h7.bm {ρ ρ':Nat->bq} {I:Nat->Prop} {w:aH5}: ∀(l:List lo) (aF:aH4),(∀c,mt c l=true->(ρ' c).bm=(ρ c).bm)->h7 ρ I w l aF->h7 ρ' I w l aF
 | [],_,_,h=>h
 | .p b o::l,_,dA,⟨v,r,e,E,G⟩=>⟨v,r,e,(by have e:=dA b (by simp[mt]);simp only[xQ] at*;rw[e];exact E),h7.bm l r (fun c J=>dA c (by simp[mt,J])) G⟩
 | .d x::l,_,dA,⟨v,r,e,E,G⟩=>⟨v,r,e,E,h7.bm l r (fun c J=>dA c (by simpa[mt] using J)) G⟩
def d'.bm {ρ ρ':Nat->bq} {I:Nat->Prop} {w:aH5} (s:bE) (v:aI3) (O:LI s=true) (dA: ∀c,s.has c=true->(ρ' c).bm=(ρ c).bm) (h:d' ρ I w s v):d' ρ' I w s v:=by
 cases s with
 |ptr c off=>
  have e:=dA c aF5;simp only[d'] at*;rw[e];exact h
 |fW c s i off=>
  have e:=dA c aF5;simp only[d'] at*;rw[e];exact h
 |mp c=>
  have e:=dA c aF5;simp only[d'] at*;rw[e];exact h
 |c3 f l=>obtain⟨aF,e,h⟩:=h;exact⟨aF,e,h7.bm l aF dA h⟩
 |own c=>cases O
 |os c s off n=>cases O
 |d x=>exact h
 |el u x off=>exact h
 |dV=>exact h
 |bN u=>exact h
 |any=>trivial
def cg.bm {ρ ρ':Nat->bq} {I:Nat->Prop} {w:aH5}: ∀(l:List bE) (aF:aH4),l.all LI=true->(∀c,mW c l=true->(ρ' c).bm=(ρ c).bm)->cg ρ I w l aF->cg ρ' I w l aF
 | [],_,_,_,h=>h
 |s::l,_,O,dA,⟨v,r,e,E,G⟩=>by
  rw[List.all_cons,as1] at O;exact⟨v,r,e,d'.bm s v O.1 (fun c J=>dA c (by simp[mW,J])) E,cg.bm l r O.2 (fun c J=>dA c (by simp[mW,J])) G⟩
def kw.cells {l:List bE} (O:l.all LI=true):kw (.cells l):=by rintro ρ ρ' I F w p kH dA ae ⟨E,aF,T,G,ah⟩;exact⟨fun b=>by rw[ae];exact E b,aF,T,by rw[ae];exact G,cg.bm l aF O dA ah⟩
def kw.map {aI aK:bB} {es:List (aa aI×aa aK)}:kw (.map aI aK es):=by rintro ρ ρ' I F w p kH dA ae ⟨E,bV,bY,G,ah,aW⟩;exact⟨fun b=>by rw[ae];exact E b,bV,bY,by rw[ae];exact G,ah,aW⟩
def kw.bA {L:List (Nat×bg)}:kw (.aH (.bA L)):=fun _ _ _ _ _ _ _ _ _ h=>h
def kw.jq {c:Nat} {br:aA} (h: ∀d ch,aj br d=some ch->kw ch):kw (.aH (.jq c br)):=by
 rintro mX s1 I F w p kH _ ae ⟨ρ,cj,E,G,ah,aW⟩
 have O: ∀d,(dp ρ c kH d).bm=(ρ d).bm:=fun d=>by
  by_cases e:d=c
  .subst e;rw[dh,ae,E]
  .rw[du _ _ e]
 exact⟨dp ρ c kH,cj,dh ..,fun d ch H=>h d ch H ρ (dp ρ c kH) _ _ _ (ρ d) (dp ρ c kH d) (fun e _=>O e) (O d) (G d ch H),ah,aW⟩
def G1:aA->Prop
 | []=>True
 |(_,ch)::br=>kw ch/\G1 br
def Dy: ∀{br:aA},G1 br-> ∀d ch,aj br d=some ch->kw ch
 | [],_,d,ch,H=>by cases H
 |(e,x)::br,h,d,ch,H=>by
  rw[ci] at H
  split at H
  .injection H with H;subst H;exact h.1
  .exact Dy h.2 d ch H
def G2 (br:aA) (bs:Nat->Nat) (I F:Nat->Prop) (w:aH5):Prop:=
 ∃(ρ:Nat->bq) (cj:Nat->Nat->Prop),(∀d ch,aj br d=some ch->(ρ d).bm=bs d)/\(∀d ch,aj br d=some ch->Holds ρ I (cj d) w (ρ d) ch)/\
  (∀d da ch ch' b,aj br d=some ch->aj br da=some ch'->d≠da->cj d b-> ¬cj da b)/\ ∀b,F b↔ ∃d ch,aj br d=some ch/\cj d b
def bg.nU (br:aA) (bs:Nat->Nat):bg where
 bp:=fun I F w _=>G2 br bs I F w
 cr:=fun I F w I' w' p ⟨ρ,cj,aw,G,ah,aW⟩ U bj aN=>⟨ρ,cj,aw,fun d ch H=>Holds.cr U (fun b O=>bj b ((aW b).2 ⟨d,ch,H,O⟩)) aN ch (fun _ _=>rfl) (G d ch H),ah,aW⟩
section
variable {ids:aH0} {K:aZ} {B:aA}
def dv.mark (d m:Nat) (ay:hk ids K B m=true) (a8:d≠m):dv ids K B (fun _:Nat=>K) (fun b=>(m,.b7 d (fp b))::B):=by
 rintro N C a w ⟨hn,H,ρ,F,al,av⟩;have cJ:=ls ay
 obtain⟨bC,a2⟩:=al.make (ch:=.b7 d (fp (ρ d).bm)) (w':=w) ay (Below.refl _ _) ⟨0,none,0,0⟩ (fun _=>False) (fun _ h=>h.elim) (fun I _ _=>by
  show(fp (ρ d).bm (dp ρ m _ d)).bp I _ w _;rw[du _ _ a8];exact⟨rfl,fun _ h=>h⟩)
 exact⟨(ρ d).bm,hn,H,_,_,bC,av.mono a2 fun s c J=>du _ _ (fun e=>by subst e;rw[cJ.1 s] at J;cases J)⟩
def ac.place (d m b:Nat) (H:hk ids K B d=true) (ay:hk ids K B m=true) (a8:d≠m):ac ids K B K ((m,.b7 d (fp b))::B):=by
 rintro N C a w ⟨hn,mC,ρ,F,al,av⟩;have eW:=ls H;have e9:=ls ay
 obtain⟨bC,a2⟩:=al.step (B':=(m,.b7 d (fp b))::B) (ρ':=dp ρ d ⟨b,none,0,0⟩) (F':=dp F m fun _=>False) (w':=w) (fun c=>c=m\/c=d) (fun c=>c=d) (cZ.refl _ _)
  (fun c ch J ay=>by
   rw[ci,mu (fun e=>ay (.inl e.symm))] at J;exact J)
  (fun c J=>du _ _ J) (fun c J=>du _ _ (fun e=>J (.inl e))) (fun c J e=>eW.2.2.2 (e▸J)) (fun c J=>.inr J)
  (fun c ch J _ j V e=>by subst e;rw[eW.2.2.1 c ch J] at V;cases V)
  (fun c ch J ay a2=>by
   rw[ci] at J
   split at J
   .rename_i e;subst e;injection J with J
    subst J;rw[dh];show(fp b (dp ρ d _ d)).bp _ _ w _;rw[dh];exact⟨rfl,fun _ h=>h⟩
   .rename_i e;rcases ay with ay |ay
    .exact as3 ay.symm e
    .rw[ay,eW.2.1] at J;cases J)
  (fun c ch J ay x hx=>by
   rw[ci] at J
   split at J
   .rename_i e;subst e;rw[dh] at hx;exact hx.elim
   .rename_i e;rcases ay with ay |ay
    .exact as3 ay.symm e
    .rw[ay,eW.2.1] at J;cases J)
  (fun c ca ch ch' x J cW ay gK KP hx=>by
   have key: ∀c ch,aj ((m,ba.b7 d (fp b))::B) c=some ch->(c=m\/c=d)->c=m:=fun c ch J ay=>by
    rcases ay with ay |ay
    .exact ay
    .rw[ci,mu (fun e=>a8 (ay.symm.trans e.symm)),ay,eW.2.1] at J
     cases J
   exact as3 ((key c ch J ay).trans (key ca ch' cW gK).symm) KP)
 exact⟨hn,mC,_,_,bC,av.mono a2 fun s c J=>du _ _ (fun e=>by subst e;rw[eW.1 s] at J;cases J)⟩
def G3 (B:aA) (jv bs:Nat->Nat):aA->Prop
 | []=>True
 |(d,_)::br=>aj B (jv d)=some (.b7 d (fp (bs d)))/\G3 B jv bs br
def LJ {jv bs:Nat->Nat}: ∀{br:aA},G3 B jv bs br-> ∀{d ch},aj br d=some ch->aj B (jv d)=some (.b7 d (fp (bs d)))
 | [],_,d,ch,H=>by cases H
 |(e,x)::br,h,d,ch,H=>by
  rw[ci] at H
  split at H
  .rename_i e;subst e;exact h.1
  .exact LJ h.2 H
def ac.LK (g:Nat) (br:aA) (jv bs:Nat->Nat) (cQ:lq B br) (ay:G3 B jv bs br) (aU:aj B g=none):ac ids K B K ((g,.aH (.nU br bs))::pX (ct br) B):=by
 rintro N C a w ⟨hn,H,ρ,F,al,av⟩;have ak: ∀{d ch},aj br d=some ch->aj B d=some ch:=fun {d ch} h=>k3 cQ h
 have G4:g∉ct br:=fun h=>by obtain⟨ch,h⟩:=gL.1 h;rw[ak h] at aU;cases aU
 have key: ∀d ch,aj ((g,ba.aH (.nU br bs))::pX (ct br) B) d=some ch->(d=g\/d∈ct br)->d=g/\ch= .aH (.nU br bs):=fun d ch H ay=>by
  rw[ci] at H
  split at H
  .rename_i e;injection H with H;exact⟨e.symm,H.symm⟩
  .rename_i e;rcases ay with ay |ay
   .exact as3 ay.symm e
   .rw[yn,vj ay] at H;cases H
 obtain⟨bC,a2⟩:=al.step (B':=(g,.aH (.nU br bs))::pX (ct br) B) (ρ':=ρ) (F':=dp F g (fun x=> ∃d ch,aj br d=some ch/\F d x)) (w':=w) (fun d=>d=g\/d∈ct br) (fun _=>False) (cZ.refl _ _)
  (fun d ch H ay=>by
   rw[ci,mu (fun e=>ay (.inl e.symm)),yn,mu (fun h=>ay (.inr h))] at H;exact H)
  (fun _ _=>rfl) (fun d ay=>du _ _ (fun e=>ay (.inl e))) (fun _ _ h=>h) (fun _ h=>h.elim) (fun _ _ _ _ _ _ h=>h)
  (fun d ch H gK a2=>by
   obtain⟨rfl,rfl⟩:=key d ch H gK;rw[dh];refine⟨ρ,F,fun d ch h=>?_,fun d ch h=>Holds.cr a2 (fun _ _=>rfl) (as2 _) ch (fun _ _=>rfl) (al.holds d ch (ak h)),fun d da ch ch' b h h' a8=>al.fw d da ch ch' b (ak h) (ak h') a8,fun b=>Iff.rfl⟩;exact(al.holds _ _ (LJ ay h)).1)
  (fun d ch H gK x hx=>by
   obtain⟨rfl,rfl⟩:=key d ch H gK;rw[dh] at hx;obtain⟨da,ch',E,G⟩:=hx;exact⟨(al.own da ch' (ak E) x G).1,.inl ⟨da,ch',ak E,.inr (gL.2 ⟨ch',E⟩),G⟩⟩)
  (fun d da ch ch' x H dC afX xc a8=>as3 ((key d ch H afX).1.trans (key da ch' dC xc).1.symm) a8)
 exact⟨hn,H,ρ,_,bC,av.mono a2 fun _ _ _=>rfl⟩
def ac.LL (g:Nat) (br:aA) (jv bs:Nat->Nat) (aU:aj B g=some (.aH (.nU br bs))) (ay:G3 B jv bs br) (Z:((ct br).all fun d=>(aj B d).isNone)=true) (ha:wI (ct br) br=true) (x9: ∀d ch,aj br d=some ch->kw ch):ac ids K B K (br++g8 B g):=by
 rintro N C a w ⟨hn,H,ρ,F,al,av⟩;obtain⟨A5,cj,E,G,ah,aW⟩:G2 br bs (b5 C B F w) (F g) w:=al.holds g _ aU
 have AP: ∀{d ch},aj br d=some ch->aj B d=none:=fun {d ch} h=>by
  have:=av3.1 Z d (gL.2 ⟨ch,h⟩);simpa using this
 have G4:aj br g=none:=by
  cases e:aj br g with
  |none=>rfl
  |some ch=>rw[AP e] at aU;cases aU
 have ko: ∀{d ch},aj br d=some ch->(ρ d).bm=(A5 d).bm:=fun {d ch} h=>((al.holds _ _ (LJ ay h)).1:(ρ d).bm=bs d).trans (E d ch h).symm
 have mz: ∀d ch,aj (br++g8 B g) d=some ch->aj br d=some ch\/(aj br d=none/\d≠g/\aj B d=some ch):=fun d ch h=>by
  rw[i1] at h
  cases e:aj br d with
  |some x=>rw[e] at h;exact .inl h
  |none=>
   rw[e,hM] at h;simp only at h
   split at h
   .cases h
   .rename_i a8;exact .inr ⟨rfl,fun e=>a8 e.symm,h⟩
 let cU:Nat->Nat->Prop:=fun d=>if(aj br d).isSome=true then cj d else F d
 have af: ∀{d ch},aj br d=some ch->cU d=cj d:=fun {d ch} h=>vj (by rw[h];rfl)
 have ao: ∀{d},aj br d=none->cU d=F d:=fun {d} h=>mu (by rw[h];decide)
 obtain⟨bC,a2⟩:=al.step (B':=br++g8 B g) (ρ':=ρ) (F':=cU) (w':=w) (fun d=>d=g\/(aj br d).isSome=true) (fun _=>False) (cZ.refl _ _)
  (fun d ch H ay=>by
   rcases mz d ch H with h |⟨_,_,h⟩
   .exact as3 (.inr (by rw[h];rfl)) ay
   .exact h)
  (fun _ _=>rfl) (fun d ay=>ao (by cases e:aj br d with
   |none=>rfl
   |some x=>exact as3 (.inr (by rw[e];rfl)) ay)) (fun _ _ h=>h) (fun _ h=>h.elim) (fun _ _ _ _ _ _ h=>h)
  (fun d ch H ay a2=>by
   rcases mz d ch H with h |⟨h,a8,h'⟩
   .rw[af h];refine x9 d ch h A5 ρ _ _ w (A5 d) (ρ d) (fun c J=>?_) (ko h) (Holds.cr a2 (fun _ _=>rfl) (as2 _) ch (fun _ _=>rfl) (G d ch h));have:=ba.k5 (yc ha h) J;obtain⟨ch',h'⟩:=gL.1 this;exact ko h'
   .rcases ay with ay |ay
    .exact as3 ay a8
    .rw[h] at ay;cases ay)
  (fun d ch H ay x hx=>by
   rcases mz d ch H with h |⟨h,a8,h'⟩
   .rw[af h] at hx;have:F g x:=(aW x).2 ⟨d,ch,h,hx⟩;exact⟨(al.own g _ aU x this).1,.inl ⟨g,_,aU,.inl rfl,this⟩⟩
   .rcases ay with ay |ay
    .exact as3 ay a8
    .rw[h] at ay;cases ay)
  (fun d da ch ch' x H dC ay gK a8 hx dY=>by
   rcases mz d ch H with h |⟨h,hn,_⟩
   .rcases mz da ch' dC with h' |⟨h',vB,_⟩
    .rw[af h] at hx;rw[af h'] at dY;exact ah d da ch ch' x h h' a8 hx dY
    .rcases gK with gK |gK
     .exact as3 gK vB
     .rw[h'] at gK;cases gK
   .rcases ay with ay |ay
    .exact as3 ay hn
    .rw[h] at ay;cases ay)
 exact⟨hn,H,ρ,_,bC,av.mono a2 fun _ _ _=>rfl⟩
def bg.p4 (am:Nat) (o:bg) (q:bq):bg where
 bp:=fun I F w p=>q.bm=am/\o.bp I F w p
 cr:=fun I F w I' w' p h U bj aN=>⟨h.1,o.cr I F w I' w' p h.2 U bj aN⟩
def ac.p4 (g c am:Nat) {o s7:bg} (aU:aj B g=some (.aH o)) (J:aj B c=some (.aH (s7.at am))) (a8:g≠c):ac ids K B K ((c,.aH s7)::(g,.b7 c (.p4 am o))::B):=by
 rintro N C a w ⟨hn,H,ρ,F,al,av⟩;have aE:(ρ c).bm=am:=(al.holds c _ J).1;obtain⟨k4,nO⟩:=al.h8 (w':=w) (ch:=.b7 c (.p4 am o)) aU (cZ.refl _ _) fun I a1=>⟨aE,o.cr _ _ _ _ _ _ (al.holds g _ aU) a1 (fun _ _=>rfl) (as2 _)⟩
 have d4:aj ((g,ba.b7 c (.p4 am o))::B) c=some (.aH (s7.at am)):=by rw[ci,mu a8];exact J
 obtain⟨je,vc⟩:=k4.h8 (w':=w) (ch:=.aH s7) d4 (cZ.refl _ _) fun I a1=>s7.cr _ _ _ _ _ _ (k4.holds c _ d4).2 a1 (fun _ _=>rfl) (as2 _)
 exact⟨hn,H,ρ,F,je,av.mono (nO.trans vc) fun _ _ _=>rfl⟩
def ac.afY (g c am:Nat) {o s7:bg} (aU:aj B g=some (.b7 c (.p4 am o))) (J:aj B c=some (.aH s7)) (a8:g≠c):ac ids K B K ((c,.aH (s7.at am))::(g,.aH o)::B):=by
 rintro N C a w ⟨hn,H,ρ,F,al,av⟩;have bd:(bg.p4 am o (ρ c)).bp (b5 C B F w) (F g) w (ρ g):=al.holds g _ aU;obtain⟨k4,nO⟩:=al.h8 (w':=w) (ch:=.aH o) aU (cZ.refl _ _) fun I a1=>o.cr _ _ _ _ _ _ bd.2 a1 (fun _ _=>rfl) (as2 _)
 have d4:aj ((g,ba.aH o)::B) c=some (.aH s7):=by rw[ci,mu a8];exact J
 obtain⟨je,vc⟩:=k4.h8 (w':=w) (ch:=.aH (s7.at am)) d4 (cZ.refl _ _) fun I a1=>⟨bd.1,s7.cr _ _ _ _ _ _ (k4.holds c _ d4) a1 (fun _ _=>rfl) (as2 _)⟩
 exact⟨hn,H,ρ,F,je,av.mono (nO.trans vc) fun _ _ _=>rfl⟩
def ac.afZ (g c m am:Nat) {o:bg} (aU:aj B g=some (.b7 c (.p4 am o))) (ay:hk ids K B m=true) (a8:c≠m):ac ids K B K ((m,.b7 c (fp am))::B):=by
 rintro N C a w ⟨hn,H,ρ,F,al,av⟩;have cJ:=ls ay;have bd:(bg.p4 am o (ρ c)).bp (b5 C B F w) (F g) w (ρ g):=al.holds g _ aU
 obtain⟨bC,a2⟩:=al.make (ch:=.b7 c (fp am)) (w':=w) ay (Below.refl _ _) ⟨0,none,0,0⟩ (fun _=>False) (fun _ h=>h.elim) (fun I _ _=>by
  show(fp am (dp ρ m _ c)).bp I _ w _;rw[du _ _ a8];exact⟨bd.1,fun _ h=>h⟩)
 exact⟨hn,H,_,_,bC,av.mono a2 fun s c J=>du _ _ (fun e=>by subst e;rw[cJ.1 s] at J;cases J)⟩
def ac.fA (g c am:Nat) {o:bg} (aU:aj B g=some (.b7 c (.p4 am o))):ac ids K B K ((g,.aH o)::B):=by
 rintro N C a w ⟨hn,H,ρ,F,al,av⟩;have bd:(bg.p4 am o (ρ c)).bp (b5 C B F w) (F g) w (ρ g):=al.holds g _ aU;obtain⟨k4,nO⟩:=al.h8 (w':=w) (ch:=.aH o) aU (cZ.refl _ _) fun I a1=>o.cr _ _ _ _ _ _ bd.2 a1 (fun _ _=>rfl) (as2 _)
 exact⟨hn,H,ρ,F,k4,av.mono nO fun _ _ _=>rfl⟩
def ac.af0 (g c m am:Nat) {o:bg} (aU:aj B g=some (.aH o)) (ay:aj B m=some (.b7 c (fp am))):ac ids K B K ((g,.b7 c (.p4 am o))::B):=by
 rintro N C a w ⟨hn,H,ρ,F,al,av⟩;have aE:(ρ c).bm=am:=(al.holds m _ ay).1;obtain⟨k4,nO⟩:=al.h8 (w':=w) (ch:=.b7 c (.p4 am o)) aU (cZ.refl _ _) fun I a1=>⟨aE,o.cr _ _ _ _ _ _ (al.holds g _ aU) a1 (fun _ _=>rfl) (as2 _)⟩
 exact⟨hn,H,ρ,F,k4,av.mono nO fun _ _ _=>rfl⟩
def ac.af1 (c b:Nat) {o:bg} (J:aj B c=some (.aH (o.at b))):ac ids K B K ((c,.aH o)::B):=by
 rintro N C a w ⟨hn,H,ρ,F,al,av⟩;obtain⟨k4,nO⟩:=al.h8 (w':=w) (ch:=.aH o) J (cZ.refl _ _) fun I a1=>o.cr _ _ _ _ _ _ (al.holds c _ J).2 a1 (fun _ _=>rfl) (as2 _)
 exact⟨hn,H,ρ,F,k4,av.mono nO fun _ _ _=>rfl⟩
def p5 {N:Nat} {C:fv} {a:Act} {w:aH5} {ρ:Nat->bq} {F:Nat->Nat->Prop} (al:Mem ids C B ρ F w) {m d b:Nat} (ay:aj B m=some (.b7 d (fp b))):(ρ d).bm=b:=(al.holds m _ ay).1
def ac.G5 (s d m b:Nat) (au:dR K s= .c (.one (.ptr d 0))) (ay:aj B m=some (.b7 d (fp b))):ac ids K B ((s,.c (.one (.d (.aM (some b)))))::K) B:=by
 rintro N C a w ⟨hn,H,ρ,F,al,av⟩;refine⟨hn,H,ρ,F,al,fun t=>?_⟩;rw[kV]
 split
 .rename_i e;subst e;have h:=av s;rw[au] at h;have e:=p5 (N:=N) (a:=a) al ay;rw[<-e];exact h
 .exact av t
def ac.LM (s d m b:Nat) (au:dR K s= .c (.one (.d (.aM (some b))))) (ay:aj B m=some (.b7 d (fp b))):ac ids K B ((s,.c (.one (.ptr d 0)))::K) B:=by
 rintro N C a w ⟨hn,H,ρ,F,al,av⟩;refine⟨hn,H,ρ,F,al,fun t=>?_⟩;rw[kV]
 split
 .rename_i e;subst e;have h:=av s;rw[au] at h;have e:=p5 (N:=N) (a:=a) al ay;rw[<-e] at h;exact h
 .exact av t
def ac.SQ (s d b:Nat) {o:bg} (au:dR K s= .c (.one (.d (.aM (some b))))) (H:aj B d=some (.aH (o.at b))):ac ids K B ((s,.c (.one (.ptr d 0)))::K) B:=by
 rintro N C a w ⟨hn,mC,ρ,F,al,av⟩;refine⟨hn,mC,ρ,F,al,fun t=>?_⟩;rw[kV]
 split
 .rename_i e;subst e;have h:=av s;rw[au] at h;have e:(ρ d).bm=b:=(al.holds d _ H).1;rw[<-e] at h;exact h
 .exact av t
def ac.af2 (s f hA jd m1 m2 b1 b2:Nat) (au:dR K s= .c (.one (.c3 f [.p hA 0,.p jd 0]))) (E:aj B m1=some (.b7 hA (fp b1))) (G:aj B m2=some (.b7 jd (fp b2))):ac ids K B ((s,.c (.one (.d (.fn (f,[b1,b2])))))::K) B:=by
 rintro N C a w ⟨hn,H,ρ,F,al,av⟩;refine⟨hn,H,ρ,F,al,fun t=>?_⟩;rw[kV]
 split
 .rename_i e;subst e;have h:=av s;rw[au] at h;obtain⟨aF,e,k0,r1,af,g1,v2,r2,ao,g2,cK⟩:=h;have b':=p5 (N:=N) (a:=a) al E;have cS:=p5 (N:=N) (a:=a) al G;have g1:k0= .pointer (some ⟨(ρ hA).bm,0,none⟩):=g1;have g2:v2= .pointer (some ⟨(ρ jd).bm,0,none⟩):=g2;have cK:r2=[]:=cK;show a.tmps.getD s undef=mV (f,[b1,b2]);rw[e,af,ao,g1,g2,cK,b',cS];rfl
 .exact av t
end
end
section
def kO:List (Nat×bg)->Nat->List (Nat×bg)
 | [],_=>[]
 |(a,o)::L,b=>if a=b then L else(a,o)::kO L b
def LN {a b c:Prop}:(a\/b\/c)↔(b\/a\/c):=⟨fun h=>by
 rcases h with h |h |h
 .exact .inr (.inl h)
 .exact .inl h
 .exact .inr (.inr h),fun h=>by
 rcases h with h |h |h
 .exact .inr (.inl h)
 .exact .inl h
 .exact .inr (.inr h)⟩
def f1.nQ {I:Nat->Prop} {w:aH5} {b:Nat} {o:bg}: ∀{L:List (Nat×bg)} {F:Nat->Prop},eH L b=some o->f1 I w L F-> ∃(cL cU:Nat->Prop) (p:bq),(∀x,F x↔cL x\/cU x)/\(∀x,cL x-> ¬cU x)/\p.bm=b/\o.bp I cL w p/\f1 I w (kO L b) cU
 | [],F,h,_=>by cases h
 |(a,q)::L,F,h,⟨rJ,ua,p,E,G,ah,aW,bM⟩=>by
  unfold eH at h;unfold kO
  split at h
  .rename_i e;injection h with h
   subst h;rw[vj e];exact⟨rJ,ua,p,E,G,ah.trans e,aW,bM⟩
  .rename_i e;rw[mu e];obtain⟨cL,cU,c1,g1,g2,cK,jW,CY⟩:=f1.nQ h bM;refine⟨cL,fun x=>rJ x\/cU x,c1,fun x=>by rw[E,g1];exact LN,fun x hx aC=>?_,cK,jW,rJ,cU,p,fun x=>Iff.rfl,fun x hx aC=>G x hx ((g1 x).2 (.inr aC)),ah,aW,CY⟩;rcases aC with aC |aC
   .exact G x aC ((g1 x).2 (.inl hx))
   .exact g2 x hx aC
def f1.LO {I:Nat->Prop} {w:aH5} {b:Nat} {o o':bg} {cL:Nat->Prop} {p:bq} (ag:o'.bp I cL w p) (ae:p.bm=b): ∀{L:List (Nat×bg)} {F:Nat->Prop},eH L b=some o->f1 I w (kO L b) F->(∀x,cL x-> ¬F x)->f1 I w (fl L b o') (fun x=>cL x\/F x)
 | [],F,h,_,_=>by cases h
 |(a,q)::L,F,h,H,eQ=>by
  unfold eH at h;unfold kO at H;unfold fl
  split at h
  .rename_i e;rw[vj e] at H⊢;exact⟨cL,F,p,fun x=>Iff.rfl,eQ,ae.trans e.symm,ag,H⟩
  .rename_i e;rw[mu e] at H⊢;obtain⟨rJ,ua,r,E,G,ah,aW,bM⟩:=H
   refine⟨rJ,fun x=>cL x\/ua x,r,fun x=>by
    show(cL x\/F x)↔(rJ x\/(cL x\/ua x));rw[E];exact LN,fun x hx aC=>?_,ah,aW,f1.LO ag ae h bM fun x hx aC=>eQ x hx ((E x).2 (.inr aC))⟩
   rcases aC with aC |aC
   .exact eQ x aC ((E x).2 (.inl hx))
   .exact G x hx aC
def yI {o:bg} {b:Nat}: ∀{L:List (Nat×bg)},eH L b=some o->fl L b o=L
 | [],h=>by cases h
 |(a,q)::L,h=>by
  unfold eH at h;unfold fl
  split at h
  .rename_i e;injection h with h
   rw[vj e,h]
  .rename_i e;rw[mu e,yI h]
section
variable {ids:aH0} {K:aZ} {B:aA}
def ac.Dz (q c b:Nat) {o:bg} {L:List (Nat×bg)} (aQ:aj B q=some (.aH (.bA L))) (cO:eH L b=some o) (J:hk ids K B c=true):ac ids K B K ((c,.aH (o.at b))::(q,.aH (.bA (kO L b)))::B):=by
 rintro N C a w ⟨hn,H,ρ,F,al,av⟩;have f:=ls J;obtain⟨cL,cU,p,E,G,ah,aW,bM⟩:=f1.nQ cO (al.holds q _ aQ:f1 _ w L (F q))
 obtain⟨bC,a2⟩:=al.split (K:=K) (jm:=.aH (.bA (kO L b))) (pc:=.aH (o.at b)) aQ J p cU cL (fun x hx=>(E x).2 (.inr hx)) (fun x hx=>(E x).2 (.inl hx)) (fun x hx aC=>G x aC hx)
  (fun I a1=>bM.cr a1 (as2 _) (fun _ _=>rfl)) (fun I a1=>⟨ah,o.cr _ _ _ _ _ _ aW a1 (fun _ _=>rfl) (as2 _)⟩)
 exact⟨hn,H,_,_,bC,av.mono a2 fun s d H=>du _ _ (fun e=>by subst e;rw[f.1 s] at H;cases H)⟩
def ac.SR (q c b:Nat) {o o':bg} {L:List (Nat×bg)} (aQ:aj B q=some (.aH (.bA (kO L b)))) (J:aj B c=some (.aH (o'.at b))) (cO:eH L b=some o) (a8:q≠c):ac ids K B K ((q,.aH (.bA (fl L b o')))::g8 B c):=by
 rintro N C a w ⟨hn,H,ρ,F,al,av⟩;have bl:f1 (b5 C B F w) w (kO L b) (F q):=al.holds q _ aQ;have aq:(ρ c).bm=b/\o'.bp (b5 C B F w) (F c) w (ρ c):=al.holds c _ J
 obtain⟨bC,a2⟩:=al.GA (w':=w) (ch:=.aH (.bA (fl L b o'))) aQ J a8 (fun x=>F c x\/F q x) (fun x hx=>hx.symm) (cZ.refl _ _) fun I a1=>
  (f1.LO aq.2 aq.1 cO bl (fun x hx aC=>al.fw c q _ _ x J aQ (ay4 a8) hx aC)).cr a1 (as2 _) fun _ _=>rfl
 exact⟨hn,H,ρ,_,bC,av.mono a2 fun _ _ _=>rfl⟩
def ac.af3 (q c b:Nat) {o:bg} {br:aA} {bs:Nat->Nat} {L:List (Nat×bg)} (aQ:aj B q=some (.aH (.bA (kO L b)))) (J:aj B c=some (.aH (.nU br bs))) (cO:eH L b=some o) (a8:q≠c):ac ids K B K ((q,.aH (.bA (fl L b (.nU br bs))))::g8 B c):=by
 rintro N C a w ⟨hn,H,ρ,F,al,av⟩;have bl:f1 (b5 C B F w) w (kO L b) (F q):=al.holds q _ aQ;have aq:G2 br bs (b5 C B F w) (F c) w:=al.holds c _ J
 obtain⟨bC,a2⟩:=al.GA (w':=w) (ch:=.aH (.bA (fl L b (.nU br bs)))) aQ J a8 (fun x=>F c x\/F q x) (fun x hx=>hx.symm) (cZ.refl _ _) fun I a1=>
  (f1.LO (o':=.nU br bs) (p:=⟨b,none,0,0⟩) aq rfl cO bl (fun x hx aC=>al.fw c q _ _ x J aQ (ay4 a8) hx aC)).cr a1 (as2 _) fun _ _=>rfl
 exact⟨hn,H,ρ,_,bC,av.mono a2 fun _ _ _=>rfl⟩
def Fn.af4 {P:aH6} {f:aI5} {c q am:Nat} {args:List aS} {res:aS} {br:aA} {bs:Nat->Nat} {M:List (Nat×bg)} (h:Fn P f (.c (.one (.ptr c 0))::args) br [] res br) (al:eH M am=some (.nU br bs)) (J:bs c=am) (Da:(aj br c).isSome=true) (ha:(args.all fun v=>v.jp [])=true) (ax:res.jp []=true):
  Fn P f (.c (.one (.d (.aM (some am))))::args) [(q,.aH (.bA M))] [] res [(q,.aH (.bA M))]:=by
 obtain⟨gf,h⟩:=h;refine⟨gf,fun ρ F I w bZ a1 c4 bj eQ bX dI=>?_⟩;have aQ:aj [(q,ba.aH (.bA M))] q=some (.aH (.bA M)):=aF2
 have yJ: ∀{d ch},aj [(q,ba.aH (.bA M))] d=some ch->d=q/\ch= .aH (.bA M):=fun {d ch} H=>by
  rw[ci] at H
  split at H
  .rename_i e;injection H with H;exact⟨e.symm,H.symm⟩
  .cases H
 have bl:f1 I w M (F q):=c4 q _ aQ;obtain⟨cL,cU,p,b',cS,en,e0,vm⟩:=bl.out al;obtain⟨A5,cj,g1,g2,cK,jW⟩:G2 br bs I cL w:=e0;have gg: ∀{v:aS},v.jp []=true-> ∀d,v.has d=true-> ∀(ρ ρ':Nat->bq),ρ' d=ρ d:=fun {v} az d H _ _=>as3 (aS.k5 az H) List.not_mem_nil
 have LP: ∀y,(∃d ch,aj br d=some ch/\cj d y)-> ∃d ch,aj [(q,ba.aH (.bA M))] d=some ch/\F d y:=fun y aC=>⟨q,_,aQ,(b' y).2 (.inl ((jW y).2 aC))⟩
 obtain⟨af5,ow⟩:=av9.1 Da
 match bZ,bX with
 |v0::bZ,bX=>
  have yl:v0= .pointer (some ⟨am,0,none⟩):=dI 0 _ v0 rfl rfl;refine(h A5 cj I w (v0::bZ) a1 g2 (fun d ch H b O=>bj q _ aQ b ((b' b).2 (.inl ((jW b).2 ⟨d,ch,H,O⟩)))) cK (by simpa using bX) ?_).mono ?_
  .intro i v x az hx
   match i with
   |0=>
    simp only[at9,as9] at az hx;subst az hx;show v0= .pointer (some ⟨(A5 c).bm,0,none⟩);rw[g1 c af5 ow,J];exact yl
   |i+1=>
    have pe:args[i]? =some v:=aF3
    have:=av3.1 ha v (ax6 pe);exact cA.mono (cp.refl _ _) v x (fun d H=>gg this d H _ _) (dI (i+1) v x aF3 hx)
  .rintro e w' ⟨x,ρ',F',rfl,cJ,dA,I',jG,gM,l6,aq,ix,sW⟩;have kJ: ∀y,cU y-> ¬ ∃d ch,aj br d=some ch/\cj d y:=fun y aC lu=>cS y ((jW y).2 lu) aC
   have sX: ∀y,cU y->y < w.heap.size/\ ¬I y:=fun y aC=>bj q _ aQ y ((b' y).2 (.inr aC))
   have nb: ∀y,cU y->w'.heap[y]? =w.heap[y]? :=fun y aC=>cJ.block y (sX y aC).1 (kJ y aC)
   have wU: ∀y,(∃d ch,aj br d=some ch/\F' d y)-> ¬cU y:=by
    rintro y ⟨d,ch,H,aC⟩ C0;rcases(aq d ch H y aC).2.2 with h |h
    .exact kJ y C0 h
    .have:=(sX y C0).1;omega
   have m5:=vm I' w' (.nU br bs) (fun y=> ∃d ch,aj br d=some ch/\F' d y) p jG cJ.size nb en
    ⟨ρ',F',fun d ch H=>by rw[dA d List.not_mem_nil];exact g1 d ch H,l6,ix,fun b=>Iff.rfl⟩ wU
   rw[yI al] at m5;refine⟨x,ρ,fun d=>if d=q then(fun y=>(∃d ch,aj br d=some ch/\F' d y)\/cU y) else F' d,rfl,cJ.mono fun y _ aC=>LP y aC,fun d _=>rfl,I',jG,fun y aC=>⟨(gM y aC).1,?_⟩,?_,?_,?_,?_⟩
   .rcases(gM y aC).2 with h |h |h
    .exact .inl h
    .exact .inr (.inl (LP y h))
    .exact .inr (.inr h)
   .intro d ch H;obtain⟨rfl,rfl⟩:=yJ H;simp only[if_true];exact m5
   .intro d ch H y aC;obtain⟨rfl,rfl⟩:=yJ H;simp only[if_true] at aC;rcases aC with⟨da,ch',dC,aC⟩ |aC
    .obtain⟨b4,cf,a3⟩:=aq da ch' dC y aC;exact⟨b4,cf,a3.imp (LP y) id⟩
    .refine⟨au2 (sX y aC).1 cJ.size,fun aE=>?_,.inl ⟨d,_,aQ,(b' y).2 (.inr aC)⟩⟩;rcases(gM y aE).2 with h |h |h
     .exact(sX y aC).2 h
     .exact kJ y aC h
     .have:=(sX y aC).1;omega
   .intro d da ch ch' y H dC a8;exact as3 ((yJ H).1.trans (yJ dC).1.symm) a8
   .exact cA.mono (cp.refl _ _) res x (fun d H=>gg ax d H _ _) sW
end
end
section
structure aL where
 nm:aG9
 back:aG9
 ad:Nat
 am:Nat
 im:bL
 cX:Option (Nat->Nat)
abbrev aH2:=List aL
def k' (d:aL):bg:=match d.cX with
 |none=>jr d.im
 |some bs=>.nU (dM d.im) (fun c=>cond (Nat.beq c 1001) d.am (bs c))
abbrev mc (d:aL):aa .str×aa .aM:=((d.nm:aa .str),(some d.ad:aa .aM))
def df (L:aH2):List (aa .str×aa .aM):=L.map mc
abbrev G6 (am:Nat) (back:aG9):List bE:=[.d (.aM (some am)),.d (.str back)]
def uo (am:Nat) (back:aG9):bg:=bg.ch (.cells (G6 am back)) (fun _=>rfl)
def mD (L:aH2):List (Nat×bg):=L.map fun d=>(d.ad,uo d.am d.back)
def iz (L:aH2):List (Nat×bg):=L.map fun d=>(d.am,k' d)
abbrev LQ (z R:Int):List bE:=[.d (.int .i64 z),.d (.int .i64 R),.mp 1002]
abbrev bT (z R:Int) (L:aH2):aA:=[(1001,.cells (LQ z R)),(1002,.map .str .aM (df L)),(1003,.aH (.bA (mD L))),(1004,.aH (.bA (iz L)))]
def dk (L:aH2) (nm:aG9):Option aL:=L.find? fun d=>decide (d.nm=nm)
def cY {L:aH2} {nm:aG9} {d:aL} (h:dk L nm=some d):d∈L/\d.nm=nm:=⟨aC1 h,by have:=List.find?_some h;simpa using this⟩
def kx (nm:aG9): ∀L:List aL,(b0 (aI:=.str) (aK:=.aM) (df L) nm).getD (cR .aM)=((dk L nm).map (·.ad):Option Nat)
 | []=>rfl
 |d::L=>by
  have bn:=kx nm L;show(b0 (aI:=.str) (aK:=.aM) (mc d::df L) nm).getD (cR .aM)=_;rw[show dk (d::L) nm=if decide (d.nm=nm)=true then some d else dk L nm by unfold dk;rw[List.find?_cons];split <;>rename_i h <;>rw[h] <;>rfl];rw[show b0 (aI:=.str) (aK:=.aM) (mc d::df L) nm=match fT .str (nm:aa .str) (mc d).1 with |true=>some (mc d).2 |false=>b0 (aI:=.str) (aK:=.aM) (df L) nm from rfl]
  by_cases e:d.nm=nm
  .rw[show fT .str (nm:aa .str) (mc d).1=true from(qL _ _).2 e.symm,show decide (d.nm=nm)=true from at4 e];rfl
  .rw[show fT .str (nm:aa .str) (mc d).1=false from rP (aI:=.str) qL (fun h=>e h.symm),show decide (d.nm=nm)=false from av7 e];exact bn
def LR {f:aL->Nat×bg}: ∀{L:aH2},(L.map fun d=>(f d).1).Nodup-> ∀{d:aL},d∈L->eH (L.map f) (f d).1=some (f d).2
 | [],_,d,h=>by cases h
 |e::L,hn,d,h=>by
  rw[au1] at hn;obtain⟨c0,d5⟩:=av5.1 hn;rw[au1];unfold eH;rcases as8.1 h with rfl |h
  .rw[vj rfl]
  .rw[mu (fun e=>c0 (by rw[e];exact au0 (f:=fun d=>(f d).1) h))];exact LR d5 h
structure i3 (L:aH2):Prop where
 ji:(L.map (·.nm)).Nodup
 mE:(L.map (·.ad)).Nodup
 yK:(L.map (·.am)).Nodup
def i3.D {L:aH2} (h:i3 L) {d:aL} (H:d∈L):eH (mD L) d.ad=some (uo d.am d.back):=LR (f:=fun d=>(d.ad,uo d.am d.back)) h.mE H
def i3.M {L:aH2} (h:i3 L) {d:aL} (H:d∈L):eH (iz L) d.am=some (k' d):=LR (f:=fun d=>(d.am,k' d)) h.yK H
def yL:(prog.info? 112).map (·.size)=some 1:=by kernel_rfl
def G7:(prog.info? 9).map (·.size)=some 1:=by kernel_rfl
def A6 (z R:Int) (L:aH2) (b:aG9):Fn prog 59 [ap 1001,bW b] (bT z R L) [] (fX (decide (b=[])||(dk L b).isSome)) (bT z R L):=by
 have aU:=kx b L;refine aY [] func59 ?_;refine⟨fun h=>?_,fun h=>?_⟩
 .have h:b=[]:=gd h;exact eN bt rfl (show true=_ by rw[at4 h];rfl)
 .have h: ¬b=[]:=oj h;refine⟨fun ej h'=>?_,fun h'=>?_⟩
  .have h':(b0 (aI:=.str) (aK:=.aM) (df L) b).getD (cR .aM)=some ej:=h';rw[aU] at h'
   exact⟨_,_,_,bt,rfl,(show true=_ by rw[av7 h];cases e:dk L b with
    |none=>rw[e] at h';cases h'
    |some d=>rfl),aD,rfl⟩
  .have h':(b0 (aI:=.str) (aK:=.aM) (df L) b).getD (cR .aM)=none:=h';rw[aU] at h'
   exact⟨_,_,_,bt,rfl,(show false=_ by rw[av7 h];cases e:dk L b with
    |none=>rfl
    |some d=>rw[e] at h';cases h'),aD,rfl⟩
def af6 {L:aH2} {nm:aG9} {ej:Nat} (h:(b0 (aI:=.str) (aK:=.aM) (df L) nm).getD (cR .aM)=some ej): ∃d,dk L nm=some d/\d.ad=ej:=by
 rw[kx] at h
 cases e:dk L nm with
 |none=>rw[e] at h;cases h
 |some d=>
  rw[e] at h;injection h with h
  exact⟨d,rfl,h⟩
def oG {x:aI1} {b:Nat} (h:x=some b):aS.c (d0.one (bE.d (D.aM x)))= .c (.one (.d (.aM (some b)))):=by rw[h]
def j7 (z R:Int) (L:aH2) (e5:i3 L) (nm:aG9) (d:aL) (H:dk L nm=some d):Fn prog 111 [ap 1001,bW nm] (bT z R L) [] (dy d.am) (bT z R L):=by
 obtain⟨pt,gD,gE⟩:=kL yL;have cO:=e5.D (cY H).1;have h':(b0 (aI:=.str) (aK:=.aM) (df L) nm).getD (cR .aM)=some d.ad:=by rw[kx,H];rfl
 refine aY [] func111 ?_;refine⟨fun ej O=>bc (fun N=>ju (b:=d.ad) rfl (by exact oG h') N) ?_,fun O=>as3 (show(b0 (aI:=.str) (aK:=.aM) (df L) nm).getD (cR .aM)=none from O) aE7⟩;refine bc (fun N=>jN rfl underlying122 rfl rfl gD aE4 rfl N) ?_;refine bc (lR (q:=1003) rfl underlying112 rfl rfl rfl cO rfl) ?_;exact bh
def af7 (z R:Int) (L:aH2) (nm:aG9) (H:dk L nm=none):Fn prog 111 [ap 1001,bW nm] (bT z R L) [] (.c nf) (bT z R L):=by
 have h':(b0 (aI:=.str) (aK:=.aM) (df L) nm).getD (cR .aM)=none:=by rw[kx,H];rfl
 refine aY [] func111 ?_;exact⟨fun ej O=>as3 (show(b0 (aI:=.str) (aK:=.aM) (df L) nm).getD (cR .aM)=some ej from O) aE7,fun _=>bh⟩
def af8 (z R:Int) (L:aH2) (e5:i3 L) (nm:aG9) (d:aL) (H:dk L nm=some d):Fn prog 114 [ap 1001,bW nm] (bT z R L) [] (.cn [.one (.d (.str d.back)),dJ 0]) (bT z R L):=by
 obtain⟨pt,gD,gE⟩:=kL G7;have cO:=e5.D (cY H).1;have h':(b0 (aI:=.str) (aK:=.aM) (df L) nm).getD (cR .aM)=some d.ad:=by rw[kx,H];rfl
 refine aY [] func114 ?_;refine⟨fun ej O=>bc (fun N=>ju (b:=d.ad) rfl (by exact oG h') N) ?_,fun O=>as3 (show(b0 (aI:=.str) (aK:=.aM) (df L) nm).getD (cR .aM)=none from O) aE7⟩;refine bc (fun N=>jN rfl underlying122 rfl rfl gD aE4 rfl N) ?_;refine bc (lR (q:=1003) rfl underlying9 rfl rfl rfl cO rfl) ?_;exact bh
def af9 (z R:Int) (L:aH2) (nm:aG9) (H:dk L nm=none):Fn prog 114 [ap 1001,bW nm] (bT z R L) [] (.cn [.one (.d (.str [])),dJ 140]) (bT z R L):=by
 have h':(b0 (aI:=.str) (aK:=.aM) (df L) nm).getD (cR .aM)=none:=by rw[kx,H];rfl
 refine aY [] func114 ?_;exact⟨fun ej O=>as3 (show(b0 (aI:=.str) (aK:=.aM) (df L) nm).getD (cR .aM)=some ej from O) aE7,fun _=>bh⟩
inductive eu (L:aH2):aG9->Nat->Prop where
 |gone {nm}:dk L nm=none->eu L nm 0
 |base {nm d}:dk L nm=some d->d.back=[]->eu L nm 0
 |step {nm d k}:dk L nm=some d->d.back≠[]->eu L d.back k->eu L nm (k+1)
def dc (L:aH2):Nat->aG9->List aG9
 |0,_=>[]
 |k+1,nm=>match dk L nm with
  |none=>[]
  |some d=>d.back::dc L k d.back
def e1 (L:aH2):Nat->aG9->aG9
 |0,nm=>nm
 |j+1,nm=>match dk L nm with
  |none=>nm
  |some d=>e1 L j d.back
def A7 (L:aH2): ∀(j:Nat) (nm:aG9),e1 L (j+1) nm=match dk L (e1 L j nm) with
  |none=>e1 L j nm
  |some d=>d.back
 |0,nm=>by
  show(match dk L nm with |none=>nm |some d=>d.back)=_;rfl
 |j+1,nm=>by
  show(match dk L nm with |none=>nm |some d=>e1 L (j+1) d.back)=_
  cases e:dk L nm with
  |none=>
   simp only;rw[show e1 L (j+1) nm=nm by show(match dk L nm with |none=>nm |some d=>e1 L j d.back)=nm;rw[e]];rw[e]
  |some d=>
   simp only;rw[A7 L j d.back];rw[show e1 L (j+1) nm=e1 L j d.back by show(match dk L nm with |none=>nm |some d=>e1 L j d.back)=_;rw[e]]
def G8 {L:aH2}: ∀{k:Nat} {nm:aG9},eu L nm k-> ∀j,j<=k->eu L (e1 L j nm) (k - j)
 |_,_,h,0,_=>h
 |k+1,nm,.step (d:=d) E G ah,j+1,V=>by
  rw[show e1 L (j+1) nm=e1 L j d.back by show(match dk L nm with |none=>nm |some d=>e1 L j d.back)=_;rw[E]];rw[Nat.add_sub_add_right];exact G8 ah j aD1
 |0,_,_,j+1,V=>as3 V aD1
def p6 {L:aH2} {nm:aG9} {k:Nat} (h:eu L nm k):(dc L k nm).length=k:=by
 induction h with
 |gone _=>rfl
 |base _ _=>rfl
 |step E G _ bn=>
  unfold dc;rw[E];simp only[aw4,bn]
def G9 {L:aH2}: ∀{k:Nat} {nm:aG9},eu L nm k-> ∀j,j < k->(dc L k nm).take (j+1)=(dc L k nm).take j++[e1 L (j+1) nm]
 |k+1,nm,.step (d:=d) E G ah,0,_=>by
  unfold dc;rw[E];simp only[List.take_succ_cons,List.take_zero,aC6];rw[show e1 L 1 nm=d.back by show(match dk L nm with |none=>nm |some d=>e1 L 0 d.back)=_;rw[E];rfl]
 |k+1,nm,.step (d:=d) E G ah,j+1,V=>by
  have bn:=G9 ah j aD1;unfold dc;rw[E];simp only[List.take_succ_cons,List.cons_append];rw[bn];rw[show e1 L (j+1+1) nm=e1 L (j+1) d.back by show(match dk L nm with |none=>nm |some d=>e1 L (j+1) d.back)=_;rw[E]]
 |0,_,_,j,V=>as3 V aD1
abbrev A8 (x:aI1):aS:=.c (.one (.d (.aM x)))
abbrev SS (L:aH2) (nm:aG9) (j:Nat):aZ:=[(0,ap 1001),(5,eC 5002),(6,A8 ((dk L (e1 L j nm)).map (·.ad)))]
abbrev ST (z R:Int) (L:aH2) (k:Nat) (nm:aG9) (j:Nat):aA:=bT z R L++[(5002,.row 9 .str ((dc L k nm).take j))]
abbrev af' (L:aH2) (nm:aG9) (j:Nat):aZ:=[(0,ap 1001),(5,eC 35),(6,A8 ((dk L (e1 L j nm)).map (·.ad)))]
abbrev aga (z R:Int) (L:aH2) (k:Nat) (nm:aG9) (j:Nat):aA:=bT z R L++[(35,.row 9 .str ((dc L k nm).take j))]
def A9 (z R:Int) (L:aH2) (e5:i3 L) (nm:aG9) (k:Nat) (Z:eu L nm k) (he:k<=1000000):Fn prog 60 [ap 1001,bW nm] (bT z R L) [] (bP .str (dc L k nm)) (bT z R L):=by
 obtain⟨pt,gD,gE⟩:=kL G7;have gb:=p6 Z;refine aY [2,7] func60 ?_;refine bz [7] (bt) <| d1 [6,4,7] (X:=Nat) (SS L nm) (fun j=>ST z R L k nm j) (fun j=>j<=k) (fun j=>k - j) 0 (at2 _) ?_ ?_
 .refine(ac.nil 5 5002 9 .str rfl rfl).trans (ac.sub ⟨rfl,rfl,?_,trivial⟩ aD);exact kx nm L
 intro j V;have j8:=G8 Z j V;have ot:k - j=0->(dc L k nm).take j=dc L k nm:=fun h=>aw0 aD1
 refine⟨fun ej h'=>?_,fun h'=>?_⟩
 .obtain⟨d,H,rfl⟩: ∃d,dk L (e1 L j nm)=some d/\d.ad=ej:=by
   have h':(dk L (e1 L j nm)).map (·.ad)=some ej:=h'
   cases e:dk L (e1 L j nm) with
   |none=>rw[e] at h';cases h'
   |some d=>rw[e] at h';injection h' with h';exact⟨d,rfl,h'⟩
  have cO:=e5.D (cY H).1;have hx:(dk L (e1 L j nm)).map (·.ad)=some d.ad:=by rw[H];rfl
  refine bc (fun N=>ju (b:=d.ad) rfl aF8 N) ?_;refine bc (fun N=>jN rfl underlying122 rfl rfl gD aE4 rfl N) ?_;refine bc (lR (q:=1003) rfl underlying9 rfl rfl rfl cO rfl) ?_;refine⟨fun O=>?_,fun O=>?_⟩
  .have O:d.back=[]:=gd O
   have aw:k - j=0:=by
    generalize k - j=m at j8
    cases j8 with
    |gone h=>rfl
    |base _ _=>rfl
    |step E G _=>rw[H] at E;injection E with E;rw[<-E] at G;exact as3 O G
   have cm:=ot aw;exact bz [] (bt) ⟨_,_,_,ac.eb 5002 rfl,rfl,cm,aD,rfl⟩
  .have O: ¬d.back=[]:=oj O
   have j5:j < k:=by
    rcases aA6 j k with h |h
    .exact h
    .exfalso;have aw:k - j=0:=aD9
     rw[aw] at j8
     cases j8 with
     |gone h=>rw[H] at h;cases h
     |base E G=>rw[H] at E;injection E with E;rw[<-E] at G;exact O G
   have SU:e1 L (j+1) nm=d.back:=by rw[A7,H]
   have nG:=G9 Z j j5;rw[SU] at nG;have nh:((dc L k nm).take j).length+1<=4294967296:=aE8
   refine bz [4] (cM (SS L nm j) (ST z R L k nm j)) <| bc (fun N=>ju (b:=d.ad) rfl aF8 N) ?_;refine bc (fun N=>jN rfl underlying122 rfl rfl gD aE4 rfl N) ?_;refine bc (lR (q:=1003) rfl underlying9 rfl rfl rfl cO rfl) ?_;refine⟨nh,rfl,bz [] (ac.sub (K':=af' L nm j) (B':=aga z R L k nm (j+1)) aD ⟨rfl,rfl,rfl,rfl,as5 (fun l:List aG9=>some (ba.row 9 .str l)) nG.symm,trivial⟩) <| bc (fun N=>ju (b:=d.ad) rfl aF8 N) ?_⟩;refine bc (fun N=>jN rfl underlying122 rfl rfl gD aE4 rfl N) ?_;refine bc (lR (q:=1003) rfl underlying9 rfl rfl rfl cO rfl) ?_;refine⟨rfl,j+1,aD1,aD1,(ac.aX 35 5002 rfl).trans (ac.sub ⟨rfl,rfl,?_,trivial⟩ aD)⟩;rw[SU];exact kx d.back L
 .have H:dk L (e1 L j nm)=none:=by
   have h':(dk L (e1 L j nm)).map (·.ad)=none:=h'
   cases e:dk L (e1 L j nm) with
   |none=>rfl
   |some d=>rw[e] at h';cases h'
  have aw:k - j=0:=by
   generalize k - j=m at j8
   cases j8 with
   |gone h=>rfl
   |base _ _=>rfl
   |step E G _=>rw[H] at E;cases E
  have cm:=ot aw;exact bz [] (bt) ⟨_,_,_,ac.eb 5002 rfl,rfl,cm,aD,rfl⟩
def il {f:aI5} {args:List aS} {res:aS} {d:aL} {M:List (Nat×bg)} (h:Fn prog f (ap 1001::args) (dM d.im) [] res (dM d.im)) (al:eH M d.am=some (k' d)) (E:ox 1001 [1002,1003,1004] (ap 1001::args) (dM d.im) [] [] []=true) (G:oy 1001 (nd [1002,1003,1004] [] []) res (dM d.im) []=true)
  (ah:(args.all fun v=>v.jp [])=true) (aW:res.jp []=true):Fn prog f (dy d.am::args) [(1004,.aH (.bA M))] [] res [(1004,.aH (.bA M))]:=by
 have gg: ∀{v:aS},v.jp []=true->v.has 1001=false:=fun {v} az=>by
  cases e:v.has 1001 with
  |false=>rfl
  |true=>exact as3 (aS.k5 az e) List.not_mem_nil
 cases ae:d.cX with
 |none=>
  rw[show k' d=jr d.im by unfold k';rw[ae]] at al;have J:Fn prog f (ap 1001::args) [(1001,.aH (jr d.im))] [] res [(1001,.aH (jr d.im))]:=Fn.close (br:=dM d.im) (dP:=dM d.im) (aJ:=[]) (aT:=[]) [1002,1003,1004] aE0 (fun _ _ _ _ h=>h) (fun _ _ _ _ h=>h) E G;have:=(cC.bA (c:=1001) (q:=1004) (b:=d.am) (args:=args) (aJ:=[]) (bb:=[]) (X:=Unit) (res:=fun _=>res) (aT:=fun _=>[]) (o:=jr d.im) (o':=fun _=>jr d.im) (L:=M) J.x al (av3.2 fun v az=>by rw[gg (av3.1 ah v az)];rfl) ⟨rfl,rfl⟩ rfl (fun _=>by rw[gg aW];rfl)).fn;rw[yI al] at this;exact this
 |some bs=>
  rw[show k' d= .nU (dM d.im) (fun c=>cond (Nat.beq c 1001) d.am (bs c)) by unfold k';rw[ae]] at al;exact Fn.af4 (c:=1001) h al rfl rfl ah aW
def agb {s:bL} (aq:gB s) {k:Nat} (Z:k < s.t.length):Lq s (k*2 ^s.z) (2 ^s.z)=ep s k none:=by
 have dW:=vx aq Z none;have ae:=js aq.z;have dd:aG s=16*2 ^s.z:=rfl
 have bK:16*(k*2 ^s.z)/aG s=k:=by
  rw[dd,show 16*(k*2 ^s.z)=k*(16*2 ^s.z) by rw[aA2],Nat.mul_div_cancel _ aD1]
 have em:16*(k*2 ^s.z)=k*aG s:=by rw[dd,aA2]
 have af:cF (aG s) (k*2 ^s.z) (2 ^s.z)=1:=by
  have aw:=uk (a:=k*2 ^s.z) (l:=2 ^s.z) (k:=0) (oD aq.z);have E:=uk (a:=k*2 ^s.z) (l:=2 ^s.z) (k:=1) (oD aq.z);rw[bK,Nat.mul_add,em] at aw E;rw[az5] at aw;rw[az3] at E;have a0:=aw.1 ⟨aD1,aD1⟩
  have b4: ¬1 < cF (aG s) (k*2 ^s.z) (2 ^s.z):=fun h=>by
   have:=(E.2 h).2;omega
  omega
 unfold Lq;rw[af];show[]++AW s (k*2 ^s.z) (2 ^s.z) 0=_;rw[aC6];unfold AW;have K6:(bk (aG s) (k*2 ^s.z) (2 ^s.z) 0).c=k:=by unfold bk;simp only[bK,az5]
 have agc:(bk (aG s) (k*2 ^s.z) (2 ^s.z) 0).a=0:=by
  show 16*(k*2 ^s.z) - (16*(k*2 ^s.z)/aG s+0)*aG s=0;rw[bK,az5,em,Nat.sub_self]
 have vC:(bk (aG s) (k*2 ^s.z) (2 ^s.z) 0).b=aG s:=by
  show min (16*(k*2 ^s.z+2 ^s.z) - (16*(k*2 ^s.z)/aG s+0)*aG s) (aG s)=aG s;rw[bK,az5,Nat.mul_add,em,show 16*2 ^s.z=aG s from rfl,Nat.add_sub_cancel_left,Nat.min_self]
 rw[K6,agc,vC,List.drop_zero,aw0 aD1]
def agd {s:bL} (aq:gB s) {k:Nat} (Z:k < s.t.length):d2 s ((k*2 ^s.z:Nat):Int) ((2 ^s.z:Nat):Int)=0:=by
 have h:k*2 ^s.z+2 ^s.z<=fh s:=by
  have:=ax5 (2 ^s.z) (show k+1<=s.t.length from Z);rw[az3] at this;exact this
 unfold d2;generalize k*2 ^s.z=Q at*;generalize 2 ^s.z=P at*;rw[mu aD1,mu aD1]
structure nV (z:Nat) (R:Nat) (L:aH2):Prop extends i3 L where
 b3:z<=3
 xd:R<=512
 len:L.length<=16
 gp: ∀d,d∈L->gB d.im/\d.im.z=z/\d.im.l.length=R
 iM: ∀d,d∈L->d.back≠[]-> ∃e,dk L d.back=some e
 ne: ∀d,d∈L->d.nm≠[]
 up: ∀d,d∈L-> ∃k,k<=8/\eu L d.nm k
def LS {z R:Nat} {L:aH2} (h:nV z R L) {nm:aG9} {k:Nat} (Z:eu L nm k): ∀n,n∈dc L k nm-> ∃e,dk L n=some e:=by
 induction Z with
 |gone _=>intro n hn;cases hn
 |base _ _=>intro n hn;cases hn
 | @step nm d k E G ah bn=>
  intro n hn;unfold dc at hn;rw[E] at hn;rcases as8.1 hn with rfl |hn
  .exact h.iM d (cY E).1 G
  .exact bn n hn
def gU (z:Nat) (L:aH2) (k:Nat):List aG9->Nat->aG9×Nat
 | [],_=>(List.replicate (16*2 ^z) 0,0)
 |n::ns,i=>match dk L n with
  |none=>([],0)
  |some d=>if k < d.im.t.length/\(d.im.t.getD k ck).1≠0 then(ep d.im k none,i+1) else gU z L k ns (i+1)
def SV {z R:Nat} {L:aH2} (h:nV z R L) (k:Nat): ∀(ns:aJ0) (i:Nat),(gU z L k ns i).1.length<=128
 | [],i=>by
  show(List.replicate (16*2 ^z) (0:aJ8)).length<=128;rw[at5];have:=js h.b3;omega
 |n::ns,i=>by
  unfold gU
  cases e:dk L n with
  |none=>exact at2 _
  |some d=>
   simp only
   split
   .rename_i bd;obtain⟨fH,g5,_⟩:=h.gp d (cY e).1;rw[vx fH bd.1 none];exact(uj fH.z).2
   .exact SV h k ns (i+1)
abbrev G' (z:Nat) (k:Nat) (l:aJ0) (j:Nat):aZ:=[(0,ap 1001),(2,ab (k:Int)),(8,ab ((2 ^z:Nat):Int)),(24,bP .str l),(25,ab (l.length:Nat)),(26,ab (j:Nat))]
abbrev age (z:Nat) (nm:aG9) (k:Nat):aZ:=[(1000000+(1000000+20),.undef),(0,ap 1001),(1,bW nm),(2,ab (k:Int)),(8,ab ((2 ^z:Nat):Int))]
def agf:(prog.info? 9).map (fun i=>(i.zero,i.size,i.bytes))=some (some (.string ⟨#[]⟩),1,16):=by kernel_rfl
def agh (z R:Nat) (L:aH2) (ew:nV z R L) (nm:aG9) (bS:aL) (aw:dk L nm=some bS) (cP:Nat) (iy:eu L nm cP) (nq:cP<=100) (k:Nat) (Z:k<=100000):
  Fn prog 147 [ap 1001,bW nm,ab (k:Int)] (bT z R L) [] (.cn [.one (.d (.bG .u8 (gU z L k (nm::dc L cP nm) 0).1)),.one (.d (.int .i64 (((gU z L k (nm::dc L cP nm) 0).2:Nat):Int)))]) (bT z R L):=by
 obtain⟨pt,gD,gE⟩:=kL yL;obtain⟨arF,agi,agj,agk,arG⟩:=info_parts agf;have ae:=js ew.b3;have bX:=p6 iy
 have hE: ∀n,n∈nm::dc L cP nm-> ∃e,dk L n=some e:=fun n hn=>by
  rcases as8.1 hn with rfl |hn
  .exact⟨bS,aw⟩
  .exact LS ew iy n hn
 have af:(1:Int)*((2 ^z:Nat):Int)=((2 ^z:Nat):Int):=Int.one_mul _;obtain⟨l,ak⟩: ∃l,l=nm::dc L cP nm:=⟨_,rfl⟩;have nh:l.length=cP+1:=by rw[ak,aw4,bX]
 refine aY [2,5,6,7,8,10] func147 ?_;have m1:(0:Int)<=1/\(0:Int)<=(z:Int)/\(z:Int)<=64:=by have:=ew.b3;omega
 have m2:(-9223372036854775808:Int)<=1*((2 ^z:Nat):Int)/\(1:Int)*((2 ^z:Nat):Int)<=9223372036854775807:=by rw[af];omega
 refine⟨m1,m2,bw.adT 20 aD2 <| bz [5,6,7,8,10] (ac.sub (K':=age z nm k) (B':=bT z R L) ⟨trivial,rfl,rfl,rfl,af,trivial⟩ aD) <| bc (adU (d:=20) rfl underlying45 agi agj agk rfl) ?_⟩;refine ar (A9 z R L ew.toi3 nm cP iy aD1) ?_;have gy: [nm].length+(dc L cP nm).length<=4294967296:=by rw[bX];simp;omega
 refine⟨gy,rfl,d1 [5,6,7,8,10] (X:=Nat) (G' z k l) (fun _=>bT z R L) (fun j=>j<=l.length/\gU z L k (l.drop j) j=gU z L k l 0) (fun j=>l.length - j) 0 ⟨at2 _,by rw[List.drop_zero]⟩ ?_ ?_⟩
 .subst ak;exact(ac.eb (e:=9) (u:=.str) (xs:=nm::dc L cP nm) 24 rfl).trans (ac.sub aD aD)
 rintro j ⟨V,jI⟩;rw[<-ak];refine⟨fun h=>?_,fun h=>?_⟩
 .have h:decide ((j:Int) < (l.length:Nat))=true:=h;have dF:j < l.length:=aE0
  obtain⟨d,H⟩:=hE l[j] (by rw[<-ak];exact av2 dF);have Ha:=(cY H).1;obtain⟨fH,g5,nl⟩:=ew.gp d Ha;have md:=ew.toi3.D Ha;have fO:=ew.toi3.M Ha;have hx:(b0 (aI:=.str) (aK:=.aM) (df L) l[j]).getD (cR .aM)=some d.ad:=by rw[kx,H];rfl
  have Dg:l.drop j=l[j]::l.drop (j+1):=ay6 dF
  have yM:gU z L k (l.drop j) j=if k < d.im.t.length/\(d.im.t.getD k ck).1≠0 then(ep d.im k none,j+1) else gU z L k (l.drop (j+1)) (j+1):=by
   rw[Dg];show(match dk L l[j] with |none=>([],0) |some d=>_)=_;rw[H]
  have m3:(0:Int)<=(j:Int):=aD9
  have r3:c8 ((j:Int)+1):=aD9
  refine⟨m3,l[j],j4 (n:=j) dF,?_⟩;generalize l[j]=n at*;refine bz [6,7,8,10] (cM ((9,ab (j:Nat))::(10,bW n)::G' z k l j) (bT z R L)) <| bc (fun N=>ju (b:=d.ad) rfl aF8 N) ?_;refine bc (fun N=>jN rfl underlying122 rfl rfl gD aE4 rfl N) ?_;refine bc (lR (q:=1003) rfl underlying112 rfl rfl rfl md rfl) ?_;refine bz [7,8,10] (cM ((9,ab (j:Nat))::(11,dy d.am)::G' z k l j) (bT z R L)) <| ar (il (nR d.im) fO rfl rfl rfl rfl) ⟨fun E=>?_,fun E=>?_⟩
  .have E:(k:Int) < (d.im.t.length:Nat):=gd E;have cu:k < d.im.t.length:=aD9
   refine ar (il (AY d.im fH.eY k cu) fO rfl rfl rfl rfl) ⟨fun G=>?_,fun G=>?_⟩
   .have G:(d.im.t.getD k ck).1≠0:=by
     have G:(!decide ((d.im.t.getD k ck).1=0))=true:=G;simpa using G
    rw[yM,vj ⟨cu,G⟩] at jI;have dw:=agd fH cu;have lS:=SD d.im fH (k*2 ^d.im.z) (2 ^d.im.z) dw;rw[agb fH cu] at lS;rw[g5] at lS dw;have c9:((k*2 ^z:Nat):Int)=(k:Int)*((2 ^z:Nat):Int):=az8 _ _;rw[c9] at lS
    have jM:c8 ((k:Int)*((2 ^z:Nat):Int)):=by
     rw[<-c9];have:=ax9 Z ae.2;omega
    refine bz [8,10] (cM ((9,ab (j:Nat))::(11,dy d.am)::G' z k l j) (bT z R L)) ⟨jM,ar (il lS fO rfl rfl rfl rfl) <| bz [] (bt) ?_⟩;have ul:c8 ((j:Int)+1):=aD9
    refine⟨ul,_,_,_,bt,rfl,⟨?_,?_,trivial⟩,aD,rfl⟩
    .exact as5 Prod.fst jI
    .show(j:Int)+1=_;rw[<-jI];rfl
   .have G:(d.im.t.getD k ck).1=0:=by
     have G:(!decide ((d.im.t.getD k ck).1=0))=false:=G;simpa using G
    rw[yM,mu (fun h=>h.2 G)] at jI;exact⟨r3,j+1,⟨dF,jI⟩,aD1,ac.sub aD aD⟩
  .have E: ¬(k:Int) < (d.im.t.length:Nat):=oj E;rw[yM,mu (fun h=>E (by have:=h.1;omega))] at jI;exact⟨r3,j+1,⟨dF,jI⟩,aD1,ac.sub aD aD⟩
 .have h:decide ((j:Int) < (l.length:Nat))=false:=h;have dF:j=l.length:=aG1
  subst dF;rw[List.drop_length] at jI;have Ba:((2 ^z:Nat):Int)*16=((16*2 ^z:Nat):Int):=aD9
  have LT:c8 (((2 ^z:Nat):Int)*16):=by rw[Ba];omega
  have LU:((2 ^z:Nat):Int)*16=((2 ^z:Nat):Int)*16/\(0:Int)<=((2 ^z:Nat):Int)*16/\((2 ^z:Nat):Int)*16<=4294967296:=by rw[Ba];omega
  refine bz [] (bt) ⟨LT,LU,rfl,_,_,_,ac.eb 65 rfl,rfl,⟨?_,?_,trivial⟩,aD,rfl⟩
  .have agl:List.replicate (((2 ^z:Nat):Int)*16).toNat (0:aJ8)=(gU z L k l 0).1:=by
    rw[<-jI,Ba];rfl
   exact agl
  .show(0:Int)=_;rw[<-jI];rfl
def agm {a b:Int} (E:0<=a) (G:a<=9223372036854775807) (ah:0<=b) (aW:b<=9223372036854775807):
  IntKind.i64.wrap (((BitVec.ofInt 64 a &&& BitVec.ofInt 64 b).toNat:Nat):Int)=((a.toNat &&& b.toNat:Nat):Int):=by
 have af:(BitVec.ofInt 64 a).toNat=a.toNat:=aG0
 have ao:(BitVec.ofInt 64 b).toNat=b.toNat:=aG0
 rw[BitVec.toNat_and,af,ao];have h:a.toNat &&& b.toNat < 2 ^63:=Nat.and_lt_two_pow _ aD1;exact x2 (by simp only[uR];omega)
def Hb {P:aH6} {ids:aH0} {K:aZ} {B:aA} {o:Oper} {T fF:aI0} {x y:aH8} {a b:Int} (ag:o.op= .binOp .and T x y fF) (hx:a7 K x= .c (.one (.d (.int .i64 a)))) (aC:a7 K y= .c (.one (.d (.int .i64 b)))) (E:0<=a) (G:a<=9223372036854775807) (ah:0<=b) (aW:b<=9223372036854775807) (N:Nat):
  bD P N ids o K B (.c (.one (.d (.int .i64 ((a.toNat &&& b.toNat:Nat):Int))))) ⟨[],[],[]⟩:=by
 have m1:x∈o.op.operands:=aD8
 have m2:y∈o.op.operands:=aD8
 refine bD.val fun K' B' g1 g2 C ρ F fx w al av=>?_
 have af:=av.int ((g1 x m1).trans hx);have ao:=av.int ((g1 y m2).trans aC);refine⟨_,?_,rfl⟩;have e:=agm E G ah aW
 have au:Op.intBits .and .i64 a b=pure (.int .i64 ((a.toNat &&& b.toNat:Nat):Int)):=by
  exact as5 (fun aB:Int=>(pure (Value.int .i64 aB):Sem Value)) e
 simp only[execOp,ag,af,ao,eqGuard,binOp,au];simp[go_sem]
def fi (z:Nat) (L:aH2) (nm:aG9) (cP k:Nat):aG9:=(gU z L k (nm::dc L cP nm) 0).1
def LV (z R:Nat) (L:aH2) (ew:nV z R L) (nm:aG9) (bS:aL) (aw:dk L nm=some bS) (cP:Nat) (iy:eu L nm cP) (nq:cP<=100) (k:Nat) (Z:k < bS.im.t.length):
  Fn prog 88 [ap 1001,bW nm,ab (k:Int)] (bT z R L) [] (bP .u8 (fi z L nm cP k)) (bT z R L):=by
 obtain⟨pt,gD,gE⟩:=kL yL;have H:=(cY aw).1;obtain⟨fH,g5,nl⟩:=ew.gp bS H;have md:=ew.toi3.D H;have fO:=ew.toi3.M H;have hx:(b0 (aI:=.str) (aK:=.aM) (df L) nm).getD (cR .aM)=some bS.ad:=aG3
 have nT:=fH.eY;refine aY [2,4] func88 ?_;refine bz [4] (bt) ?_;refine⟨fun ej O=>⟨fun h=>as3 (gd h) aD1,fun _=>bc (fun N=>ju (b:=bS.ad) rfl aF8 N) ?_⟩,fun O=>as3 (show(b0 (aI:=.str) (aK:=.aM) (df L) nm).getD (cR .aM)=none from O) aE9⟩;refine bc (fun N=>jN rfl underlying122 rfl rfl gD aE4 rfl N) ?_;refine bc (lR (q:=1003) rfl underlying112 rfl rfl rfl md rfl) ?_;refine ar (il (nR bS.im) fO rfl rfl rfl rfl) ⟨fun h=>?_,fun _=>?_⟩
 .exfalso;have h:((bS.im.t.length:Nat):Int)<=(k:Int):=gd h;omega
 exact bz [] (cM [(0,ap 1001),(1,bW nm),(2,ab (k:Int))] (bT z R L)) <| ar (agh z R L ew nm bS aw cP iy nq k aD1) bh
def SW (z R:Nat) (E:z<=3) (ah:R<=512):Fn prog 26 [ab (z:Int),ab (R:Int)] [] [1001,1002,1003,1004] (.cn [.one (.ptr 1001 0),dJ 0]) (bT z R []):=by refine aY [2] func26 ?_;exact ar (Fn.aX [(1001,2001),(1002,2002),(1003,2003),(1004,2004)] (afO z 0 R E aD2 ah)) <| bz [] (cM [(0,ab (z:Int)),(1,ab (R:Int)),(7,ab 0)] []) <| dE ⟨rfl,rfl,_,_,_,(ac.aX 21 1001 rfl).trans ((ac.aX 19 1002 rfl).trans ((ac.rK 1003 rfl).trans (ac.rK 1004 rfl))),rfl,aD,aD,rfl⟩
def jw (z:Nat) (L:aH2) (nm:aG9) (cP s:Nat):aG9:=((fi z L nm cP (s/2 ^z)).take (s % 2 ^z*16+16)).drop (s % 2 ^z*16)
def j9 (z:Nat) (L:aH2) (nm:aG9) (cP a:Nat):Nat->aG9
 |0=>[]
 |j+1=>j9 z L nm cP a j++jw z L nm cP (a+j)
def LW {z R:Nat} {L:aH2} (h:nV z R L) (k:Nat): ∀(ns:aJ0) (i:Nat),(∀n,n∈ns-> ∃e,dk L n=some e)->(gU z L k ns i).1.length=16*2 ^z
 | [],i,_=>at5
 |n::ns,i,hn=>by
  obtain⟨d,e⟩:=hn n (at6 ..);unfold gU;rw[e];simp only
  split
  .rename_i bd;obtain⟨fH,g5,_⟩:=h.gp d (cY e).1;rw[vx fH bd.1 none];show 16*2 ^d.im.z=_;rw[g5]
  .exact LW h k ns (i+1) fun n ay=>hn n (as6 _ ay)
def xe {z R:Nat} {L:aH2} (h:nV z R L) {nm:aG9} {bS:aL} (aw:dk L nm=some bS) {cP:Nat} (iy:eu L nm cP) (k:Nat):(fi z L nm cP k).length=16*2 ^z:=
 LW h k _ 0 fun n hn=>by
  rcases as8.1 hn with rfl |hn
  .exact⟨bS,aw⟩
  .exact LS h iy n hn
def DA {z R:Nat} {L:aH2} (h:nV z R L) {nm:aG9} {bS:aL} (aw:dk L nm=some bS) {cP:Nat} (iy:eu L nm cP) (a:Nat): ∀j,(j9 z L nm cP a j).length=16*j
 |0=>rfl
 |j+1=>by
  have bn:=DA h aw iy a j;have J:=xe h aw iy ((a+j)/2 ^z);have ae:=(js h.b3).1;have ay:(a+j) % 2 ^z < 2 ^z:=Nat.mod_lt _ aD1;show(j9 z L nm cP a j++jw z L nm cP (a+j)).length=_;rw[as4,bn];unfold jw;rw[ax4,at3,J];generalize(a+j) % 2 ^z=m at*;generalize 2 ^z=P at*;omega
abbrev SX (nm:aG9) (a l j:Nat):aZ:=[(0,ap 1001),(1,bW nm),(2,ab (a:Int)),(3,ab (l:Int)),(13,eC 5002),(14,ab ((a+j:Nat):Int))]
abbrev agn (nm:aG9) (a l j:Nat):aZ:=[(0,ap 1001),(1,bW nm),(2,ab (a:Int)),(3,ab (l:Int)),(13,eC 70),(14,ab ((a+j:Nat):Int))]
abbrev SY (z R:Int) (L:aH2) (acc:aG9):aA:=bT z R L++[(5002,.row 5 .u8 acc)]
abbrev ago (z R:Int) (L:aH2) (acc:aG9):aA:=bT z R L++[(70,.row 5 .u8 acc)]
def agp (z R:Nat) (L:aH2) (ew:nV z R L) (nm:aG9) (bS:aL) (aw:dk L nm=some bS) (cP:Nat) (iy:eu L nm cP) (nq:cP<=100) (a l:Nat) (dw:d2 bS.im a l=0):
  Fn prog 45 [ap 1001,bW nm,ab (a:Int),ab (l:Int)] (bT z R L) [2001] (.cn [.one (.own 2001),dJ 0]) (bT z R L++[(2001,.row 5 .u8 (j9 z L nm cP a l))]):=by
 obtain⟨pt,gD,gE⟩:=kL yL;have H:=(cY aw).1;obtain⟨fH,g5,nl⟩:=ew.gp bS H;have md:=ew.toi3.D H;have fO:=ew.toi3.M H;have hx:(b0 (aI:=.str) (aK:=.aM) (df L) nm).getD (cR .aM)=some bS.ad:=aG3
 have ae:=js ew.b3;have dK:=nn dw;have yB:fh bS.im<=2048:=ax9 fH.eY (js fH.z).2;have DB:fh bS.im=bS.im.t.length*2 ^z:=by unfold fh;rw[g5]
 refine aY [2,5,7,9,11,12] func45 ?_;refine bz [5,7,9,11,12] (bt) ?_;refine⟨fun ej O=>bc (fun N=>ju (b:=bS.ad) rfl aF8 N) ?_,fun O=>as3 (show(b0 (aI:=.str) (aK:=.aM) (df L) nm).getD (cR .aM)=none from O) aE9⟩;refine bc (fun N=>jN rfl underlying122 rfl rfl gD aE4 rfl N) ?_;refine bc (lR (q:=1003) rfl underlying112 rfl rfl rfl md rfl) ?_;refine ar (il (SD bS.im fH a l dw) fO rfl rfl rfl rfl) <| bz [7,9,11,12] (cM [(0,ap 1001),(1,bW nm),(2,ab (a:Int)),(3,ab (l:Int)),(12,ab 0)] (bT z R L)) <| dE <| bz [9,11,12] (bt) <| d1 [11,12] (X:=Nat) (SX nm a l) (fun j=>SY z R L (j9 z L nm cP a j)) (fun j=>j<=l) (fun j=>l - j) 0 (at2 _) ?_ ?_
 .exact(ac.nil 13 5002 5 .u8 rfl rfl).trans (ac.sub aD aD)
 intro j V;have m1:c8 ((a:Int)+(l:Int)):=aD9
 refine⟨m1,fun h=>?_,fun h=>?_⟩
 .have h:((a+j:Nat):Int) < (a:Int)+(l:Int):=gd h;have sB:j < l:=aD9
  have LX:=DA ew aw iy a j
  have cu:(a+j)/2 ^z < bS.im.t.length:=by
   rw[aA4 aD1,<-DB];omega
  have dW:=xe ew aw iy ((a+j)/2 ^z);have PQ:(a+j) % 2 ^z < 2 ^z:=Nat.mod_lt _ aD1;have agq:=LV z R L ew nm bS aw cP iy nq ((a+j)/2 ^z) cu;have m2:(0:Int)<=((a+j:Nat):Int)/\(0:Int)<=(z:Int)/\(z:Int)<=64:=by have:=ew.b3;omega
  have m3:(0:Int)<=1/\(0:Int)<=(z:Int)/\(z:Int)<=64:=by have:=ew.b3;omega
  have af:(1:Int)*((2 ^z:Nat):Int)=((2 ^z:Nat):Int):=Int.one_mul _;have jM:(-9223372036854775808:Int)<=1*((2 ^z:Nat):Int)/\(1:Int)*((2 ^z:Nat):Int)<=9223372036854775807:=aG8
  have ul:(-9223372036854775808:Int)<=1*((2 ^z:Nat):Int) - 1/\(1:Int)*((2 ^z:Nat):Int) - 1<=9223372036854775807:=aG8
  refine bz [12] (bt) ⟨m2,m3,jM,ul,?_⟩;have et:(1*((2 ^z:Nat):Int) - 1).toNat=2 ^z - 1:=aG8
  have ev:(((((a+j:Nat):Int)).toNat &&& (1*((2 ^z:Nat):Int) - 1).toNat:Nat):Int)=(((a+j) % 2 ^z:Nat):Int):=by
   rw[et,show(((a+j:Nat):Int)).toNat=a+j from rfl,Nat.and_two_pow_sub_one_eq_mod]
  have Ba:(((((a+j:Nat):Int)).toNat &&& (1*((2 ^z:Nat):Int) - 1).toNat:Nat):Int)*16=(((a+j) % 2 ^z*16:Nat):Int):=by rw[ev];omega
  have agr:((a+j:Nat):Int)/((2 ^z:Nat):Int)=(((a+j)/2 ^z:Nat):Int):=rfl
  have r3:c8 ((((((a+j:Nat):Int)).toNat &&& (1*((2 ^z:Nat):Int) - 1).toNat:Nat):Int)*16):=by
   rw[Ba];generalize(a+j) % 2 ^z=m at*;generalize 2 ^z=P at*;omega
  refine bc (fun N=>Hb rfl rfl rfl m2.1 aD1 aG8 ul.2 N) ?_;refine⟨r3,rfl,?_⟩
  have LT:c8 ((((a+j) % 2 ^z*16:Nat):Int)+16):=by
   generalize(a+j) % 2 ^z=m at*;generalize 2 ^z=P at*;omega
  have LU:(0:Int)<=(((a+j) % 2 ^z*16:Nat):Int)/\(((a+j) % 2 ^z*16:Nat):Int)<=(((a+j) % 2 ^z*16:Nat):Int)+16/\(((a+j) % 2 ^z*16:Nat):Int)+16<=(((fi z L nm cP ((a+j)/2 ^z)).length:Nat):Int):=by
   rw[dW];generalize(a+j) % 2 ^z=m at*;generalize 2 ^z=P at*;omega
  have LY:(j9 z L nm cP a j).length+(jw z L nm cP (a+j)).length<=4294967296:=by
   have:=DA ew aw iy a (j+1);rw[show j9 z L nm cP a (j+1)=j9 z L nm cP a j++jw z L nm cP (a+j) from rfl,as4] at this;omega
  refine bz [] (ac.sub (K':=(15,ab (((a+j)/2 ^z:Nat):Int))::(16,ab (((a+j) % 2 ^z*16:Nat):Int))::SX nm a l j) (B':=SY z R L (j9 z L nm cP a j)) ⟨agr,Ba,rfl,rfl,rfl,rfl,rfl,rfl,trivial⟩ aD) <| ar agq ⟨LT,LU,LY,rfl,?_⟩;have ags:c8 (((a+j:Nat):Int)+1):=aD9
  exact⟨ags,j+1,aD1,aD1,ac.trans (cM (agn nm a l (j+1)) (ago z R L (j9 z L nm cP a (j+1)))) (ac.aX 70 5002 rfl)⟩
 .have h: ¬((a+j:Nat):Int) < (a:Int)+(l:Int):=oj h;have sB:j=l:=aD9
  subst sB;exact⟨_,_,_,ac.aX 5002 2001 rfl,rfl,aD,aD,rfl⟩
def agt (z R:Nat) (L:aH2) (ew:nV z R L) (nm:aG9) (bS:aL) (aw:dk L nm=some bS) (cP:Nat) (iy:eu L nm cP) (nq:cP<=100) (a l:Nat) (dw:d2 bS.im a l=0):
  Fn prog 45 [ap 1001,bW nm,ab (a:Int),ab (l:Int)] (bT z R L) [] (.cn [.one (.d (.bG .u8 (j9 z L nm cP a l))),dJ 0]) (bT z R L):=
 Fn.ae7 (d:=2001) (agp z R L ew nm bS aw cP iy nq a l dw) rfl rfl rfl
def agu (z R:Int) (L:aH2) (nm:aG9) (aw:dk L nm=none) (a l:Int):
  Fn prog 45 [ap 1001,bW nm,ab a,ab l] (bT z R L) [] (.cn [.one .dV,dJ 140]) (bT z R L):=by
 have hx:(b0 (aI:=.str) (aK:=.aM) (df L) nm).getD (cR .aM)=none:=aG3
 refine aY [] func45 ?_;exact⟨fun ej O=>as3 (show(b0 (aI:=.str) (aK:=.aM) (df L) nm).getD (cR .aM)=some ej from O) aE9,fun _=>bh⟩
def agv (z R:Nat) (L:aH2) (ew:nV z R L) (nm:aG9) (bS:aL) (aw:dk L nm=some bS) (a l:Int) (dw:d2 bS.im a l≠0):
  Fn prog 45 [ap 1001,bW nm,ab a,ab l] (bT z R L) [] (.cn [.one .dV,dJ (d2 bS.im a l)]) (bT z R L):=by
 obtain⟨pt,gD,gE⟩:=kL yL;have H:=(cY aw).1;obtain⟨fH,g5,nl⟩:=ew.gp bS H;have md:=ew.toi3.D H;have fO:=ew.toi3.M H;have hx:(b0 (aI:=.str) (aK:=.aM) (df L) nm).getD (cR .aM)=some bS.ad:=aG3
 refine aY [] func45 ?_;refine⟨fun ej O=>bc (fun N=>ju (b:=bS.ad) rfl aF8 N) ?_,fun O=>as3 (show(b0 (aI:=.str) (aK:=.aM) (df L) nm).getD (cR .aM)=none from O) aE9⟩;refine bc (fun N=>jN rfl underlying122 rfl rfl gD aE4 rfl N) ?_;refine bc (lR (q:=1003) rfl underlying112 rfl rfl rfl md rfl) ?_;refine ar (il (afo bS.im fH a l dw) fO rfl rfl rfl rfl) ?_;exact⟨fun _=>bh,fun h=>as3 (show d2 bS.im a l=0 by have h:(!decide (d2 bS.im a l=0))=false:=h;simpa using h) dw⟩
end
section
def DC:aH0->aH0->aH0
 | [],r=>r
 |x::l,r=>match r.contains x with
  |true=>DC l r
  |false=>DC l (x::r)
def LZ {a:Nat}: ∀{l r:aH0},a∈DC l r->a∈l\/a∈r
 | [],r,h=>.inr h
 |x::l,r,h=>by
  unfold DC at h
  split at h
  .rcases LZ h with h |h
   .exact .inl (as6 _ h)
   .exact .inr h
  .rcases LZ h with h |h
   .exact .inl (as6 _ h)
   .rcases as8.1 h with rfl |h
    .exact .inl (at6 ..)
    .exact .inr h
def L0 (acc:List aH0):aH0->aH0
 | []=>[]
 |d::l=>DC (d::acc.getD d []) (L0 acc l)
def SZ {acc:List aH0} {a:Nat}: ∀{l:aH0},a∈L0 acc l->a∈l\/ ∃d∈l,a∈acc.getD d []
 | [],h=>by cases h
 |d::l,h=>by
  rcases LZ h with h |h
  .rcases as8.1 h with rfl |h
   .exact .inl (at6 ..)
   .exact .inr ⟨d,at6 ..,h⟩
  .rcases SZ h with h |⟨e,U,h⟩
   .exact .inl (as6 _ h)
   .exact .inr ⟨e,as6 _ U,h⟩
def Hc:List Oper->List aH0->List aH0
 | [],acc=>acc
 |o::l,acc=>Hc l (acc++[L0 acc (qy o)])
def S0: ∀(l:aI6) (acc DD:List aH0),acc.length=DD.length->(∀j a,a∈acc.getD j []->a∈DD.getD j [])-> ∀j a,a∈(Hc l acc).getD j []->a∈(Aa l DD).getD j []
 | [],acc,DD,_,h=>h
 |o::l,acc,DD,ak,h=>by
  unfold Hc Aa;refine S0 l _ _ (by simp[ak]) ?_;intro j a ha;rw[as7] at ha⊢;rcases Nat.lt_trichotomy j acc.length with bv |sN |u2
  .rw[au7 bv,<-as7] at ha;rw[au7 (ak▸bv),<-as7];exact h j a ha
  .subst sN;rw[au6 (as2 _)] at ha;rw[au6 (Nat.le_of_eq ak.symm)];simp only[Nat.sub_self,at9,az1] at ha;simp only[ak,Nat.sub_self,at9,az1,au4,List.mem_flatMap];rcases SZ ha with ha |⟨d,H,ha⟩
   .exact .inl ha
   .exact .inr ⟨d,H,h d a ha⟩
  .rw[aA5 aE3] at ha;simp at ha
def S1 {all:aI6} {an S2:List aH0} (h: ∀j a,a∈an.getD j []->a∈S2.getD j []): ∀l:List (Oper×lr×Nat),uV all an l=true->uV all S2 l=true
 | [],_=>rfl
 |(o,n,i)::l,ae=>by
  simp only[uV,as1] at ae⊢;refine⟨av3.2 fun x hx=>?_,S1 h l ae.2⟩;have:=av3.1 ae.1 x hx;obtain⟨p,m,j⟩:=x;simp only[ay3,as1,av4] at this⊢;exact this.imp (fun g=>⟨h _ _ g.1,g.2⟩) id
def S3 (K:aZ) (B:aA) (dn:aI6) (gJ:List lr):Bool:=
 let es:=gJ.reverse
 (dn.zipIdx.all fun(o,i)=>(qy o).all fun d=>Nat.blt d i)&&(es.all fun n=>n.e.bb.all fun c=>uP c K&&kZ c B)&&uV dn (Hc dn []) ((dn.zip es).zipIdx.map fun((o,n),i)=>(o,n,i))
def eU {K:aZ} {B:aA} {dn:aI6} {gJ:List lr} (h:S3 K B dn gJ=true):wB K B dn gJ=true:=by simp only[S3,as1] at h;simp only[wB,as1];exact⟨h.1,S1 (S0 dn [] [] rfl fun _ _ h=>h) _ h.2⟩
end
section
section
variable {P:aH6} {ids:aH0} {K:aZ} {B:aA}
def Bb {o:Oper} {op:BinOp} {T fF:aI0} {x y:aH8} {n m r:Int} (ag:o.op= .binOp op T x y fF) (hx:a7 K x= .c (.one (.d (.int .i64 n)))) (aC:a7 K y= .c (.one (.d (.int .i64 m))))
  (h:(op= .add/\r=IntKind.i64.wrap (n+m))\/(op= .sub/\r=IntKind.i64.wrap (n - m))\/(op= .quo/\m≠0/\r=IntKind.i64.wrap (n.tdiv m))) (N:Nat):bD P N ids o K B (.c (.one (.d (.int .i64 r)))) ⟨[],[],[]⟩:=by
 have m1:x∈o.op.operands:=aD8
 have m2:y∈o.op.operands:=aD8
 refine bD.val fun K' B' g1 g2 C ρ F fx w al av=>?_
 have af:=av.int ((g1 x m1).trans hx);have ao:=av.int ((g1 y m2).trans aC);refine⟨.int .i64 r,?_,rfl⟩;simp only[execOp,ag,af,ao];rcases h with⟨rfl,rfl⟩ |⟨rfl,rfl⟩ |⟨rfl,ay,rfl⟩
 .simp[eqGuard,go_sem,Op.intArith]
 .simp[eqGuard,go_sem,Op.intArith]
 .simp[eqGuard,go_sem,Op.intDiv,ay]
end
abbrev L1 (s g:Int):List bE:=[.d (.int .i64 s),.d (.int .i64 g),.mp 1002]
abbrev iN (s g:Int) (es:aH1):aA:=[(1001,.cells (L1 s g)),(1002,.map ai ai es)]
def S4 (s:Int):Fn prog 113 [ab s] [] [] (fX (decide (0<=s)&&decide (s<=4096))) []:=by
 refine aY [] func113 ?_;refine⟨fun E=>?_,fun E=>?_⟩
 .have E:decide (0<=s)=true:=E;exact eN bt rfl (show decide (s<=4096)=(decide (0<=s)&&decide (s<=4096)) by rw[E];rfl)
 .have E:decide (0<=s)=false:=E;exact eN bt rfl (show false=(decide (0<=s)&&decide (s<=4096)) by rw[E];rfl)
def oH (s g:Int):Bool:=((decide (0<=s)&&decide (s<=4096))&&(!decide (g < 1)&& !decide (64 < g)))&&decide (((g.toNat &&& (g - 1).toNat:Nat):Int)=0)
def Hd {s g:Int} (h:oH s g=true):(0<=s/\s<=4096)/\1<=g/\g<=64:=by unfold oH at h;simp only[as1,au9,av6,decide_eq_false_iff_not] at h;obtain⟨⟨⟨E,G⟩,ah,aW⟩,_⟩:=h;omega
def L2 (s g:Int) (h:oH s g=true):Fn prog 69 [ab s,ab g] [] [2001,2002] (.cn [.one (.ptr 2001 0),dJ 0]) [(2001,.cells [.d (.int .i64 s),.d (.int .i64 g),.mp 2002]),(2002,.map ai ai [])]:=by
 obtain⟨g1,g2,cK⟩:=Hd h;have ax:=S4 s;rw[at4 g1.1,at4 g1.2] at ax;unfold oH at h;simp only[as1] at h;have bM:=h.2;have m1:c8 (g - 1):=aD9
 refine aY [] func69 ?_;refine ar ax <| dE ⟨fun h=>as3 (gd h) aD1,fun _=>⟨fun h=>as3 (gd h) aD1,fun _=>⟨m1,bc (fun N=>Hb rfl rfl rfl aD1 aD1 aD1 aD1 N) ?_⟩⟩⟩;refine⟨fun h=>?_,fun _=>?_⟩
 .exfalso;have h:(!decide (((g.toNat &&& (g - 1).toNat:Nat):Int)=0))=true:=h;rw[bM] at h
  cases h
 exact⟨rfl,rfl,_,_,_,ac.trans (ac.aX 28 2001 rfl) (ac.aX 26 2002 rfl),rfl,aD,aD,rfl⟩
def agw (s g:Int) (h:oH s g=false):Fn prog 69 [ab s,ab g] [] [] (.cn [nf,dJ 1]) []:=by
 have ax:=S4 s;unfold oH at h;generalize(decide (0<=s)&&decide (s<=4096))=b at*;refine aY [] func69 ?_;refine ar ax ⟨fun _=>?_,fun E=>?_⟩
 .exact bh
 have E:b=true:=by
  have E:(!b)=false:=E;simpa using E
 refine⟨fun _=>?_,fun G=>?_⟩
 .exact bh
 refine⟨fun _=>?_,fun ah=>?_⟩
 .exact bh
 have G:decide (g < 1)=false:=G;have ah:decide (64 < g)=false:=ah;rw[E,G,ah] at h;have cH:=oj G;have dO:=oj ah;have m1:c8 (g - 1):=aD9
 refine⟨m1,bc (fun N=>Hb rfl rfl rfl aD1 aD1 aD1 aD1 N) ?_⟩;refine⟨fun _=>?_,fun aW=>?_⟩
 .exact bh
 .exfalso;have aW:(!decide (((g.toNat &&& (g - 1).toNat:Nat):Int)=0))=false:=aW;have h:((true&&(!false&& !false))&&decide (((g.toNat &&& (g - 1).toNat:Nat):Int)=0))=false:=h;generalize decide (((g.toNat &&& (g - 1).toNat:Nat):Int)=0)=c at*
  cases c
  .cases aW
  .cases h
def L3 (s g:Int) (es:aH1):Fn prog 77 [ap 1001] (iN s g es) [] (ab s) (iN s g es):=by refine aY [] func77 ?_;exact bh
def yN (aB:Int):Bool:=decide (0 < aB)
def g6 (g:Int) (es:aH1) (k:Nat):Bool:=yN ((b0 (aI:=ai) (aK:=ai) es ((k:Int)/g)).getD (cR ai))
def S5 (s g:Int) (es:aH1) (k:Nat) (aU:1<=g) (Z:(k:Int) < s) (au:s<=4096):Fn prog 120 [ap 1001,ab (k:Int)] (iN s g es) [] (fX (g6 g es k)) (iN s g es):=by
 have aQ:(0:Int)<=(k:Int)/g:=aC7 aD1 aD1;have DE:(k:Int)/g<=(k:Int):=Int.ediv_le_self _ aD1;have m1:c8 ((k:Int)/g):=aD9
 refine aY [] func120 ?_;exact⟨fun _=>⟨fun _=>⟨⟨aD1,aD1⟩,m1,rfl,bh⟩,fun h=>as3 (oj h) aD1⟩,fun h=>as3 (oj h) aD1⟩
def qS (es:aH1) (f:Int):Nat->List (aa ai×aa ai)
 |0=>es
 |n+1=>dx (aI:=ai) (aK:=ai) (qS es f n) (f+(n:Int)) (1:Int)
abbrev r5 (s g:Int) (es:aH1):aA:=iN s g es++[(3001,.cells [.ptr 1001 0])]
def agx (s g:Int) (es:aH1) (k:Int):Fn prog 157 [ab k,ap 3001] (r5 s g es) [] g4 (r5 s g (dx (aI:=ai) (aK:=ai) es k (1:Int))):=by refine aY [] func157 ?_;exact⟨trivial,bh⟩
abbrev agy (ef k:Int):aZ:=[(4,ab ef),(5,.c (.one (.c3 157 [.p 3001 0]))),(13,ab k)]
def agz (s g:Int) (es:aH1) (fr bJ gq ef:Int) (E:0<=bJ) (G:0<=fr) (ah:bJ<=s) (aW:fr<=s - bJ) (au:s<=4096) (bM:0<=gq) (fU:ef<=1000000):Fn prog 156 [ap 1001,ab fr,ab bJ,ab gq,ab ef,.c (.one (.c3 157 [.p 3001 0]))] (r5 s g es) [] (ab 0) (r5 s g (qS es gq (ef - gq).toNat)):=by
 have m1:c8 (s - bJ):=aD9
 refine aY [] func156 ?_;refine⟨fun h=>as3 (gd h) aD1,fun _=>⟨fun h=>as3 (gd h) aD1,fun _=>⟨fun h=>as3 (gd h) aD1,fun _=>⟨m1,fun h=>as3 (gd h) aD1,fun _=>d1 [6] (X:=Nat) (fun j=>agy ef (gq+(j:Int))) (fun j=>r5 s g (qS es gq j)) (fun j=>j<=(ef - gq).toNat) (fun j=>(ef - gq).toNat - j) 0 (at2 _) ?_ ?_⟩⟩⟩⟩
 .exact ac.sub ⟨rfl,rfl,(show gq=gq+((0:Nat):Int) by omega),trivial⟩ aD
 intro j V;have V:j<=(ef - gq).toNat:=V;refine⟨fun J=>?_,fun J=>?_⟩
 .have J:decide (gq+(j:Int) < ef)=true:=J;have J:=gd J;exact bz [] (bt) <| ar (agx s g (qS es gq j) (gq+(j:Int))) ⟨aD1,j+1,aD1,aD1,ac.sub ⟨rfl,rfl,(show gq+(j:Int)+1=gq+((j+1:Nat):Int) by omega),trivial⟩ aD⟩
 .have J:decide (gq+(j:Int) < ef)=false:=J;have J:=oj J;have dF:j=(ef - gq).toNat:=aD9
  subst dF;exact bh
def agA (s g:Int) (es:aH1) (fr bJ gq ef:Int) (h: ¬(0<=bJ/\0<=fr/\bJ<=s/\fr<=s - bJ)) (au:0<=s/\s<=4096):Fn prog 156 [ap 1001,ab fr,ab bJ,ab gq,ab ef,.c (.one (.c3 157 [.p 3001 0]))] (r5 s g es) [] (ab 1) (r5 s g es):=by
 refine aY [] func156 ?_;refine⟨fun _=>?_,fun cB=>?_⟩
 .exact bh
 refine⟨fun _=>?_,fun cH=>?_⟩
 .exact bh
 refine⟨fun _=>?_,fun dO=>?_⟩
 .exact bh
 have cB: ¬bJ < 0:=oj cB;have cH: ¬fr < 0:=oj cH;have dO: ¬s < bJ:=oj dO;have m1:c8 (s - bJ):=aD9
 refine⟨m1,fun _=>?_,fun fy=>?_⟩
 .exact bh
 .exfalso;have fy: ¬s - bJ < fr:=oj fy;exact h aD1
def qT (s fr bJ:Int):Prop:=0<=bJ/\0<=fr/\bJ<=s/\fr<=s - bJ
instance (s fr bJ:Int):Decidable (qT s fr bJ):=by unfold qT;infer_instance
def la (s g:Int) (es:aH1) (fr bJ:Int):List (aa ai×aa ai):=if qT s fr bJ then qS es (fr/g) ((if bJ=0 then 0 else(fr+bJ+g - 1)/g) - fr/g).toNat else es
abbrev He (fr bJ ef:Int):aZ:=[(1,ab fr),(2,ab bJ),(3,ap 3),(7,ab ef)]
abbrev DF (s g:Int) (es:aH1):aA:=iN s g es++[(3,.cells [.ptr 1001 0])]
def L4 (s g:Int) (es:aH1) (fr bJ:Int) (au:0<=s/\s<=4096) (aU:1<=g/\g<=64):Fn prog 103 [ap 1001,ab fr,ab bJ] (iN s g es) [] (ab (if qT s fr bJ then 0 else 1)) (iN s g (la s g es fr bJ)):=by
 by_cases az:qT s fr bJ
 .have bK:la s g es fr bJ=qS es (fr/g) ((if bJ=0 then 0 else(fr+bJ+g - 1)/g) - fr/g).toNat:=vj az;rw[bK,vj az];obtain⟨k0,v2,v3,v4⟩:=az;have c1:(0:Int)<=fr/g:=aC7 aD1 aD1;have cy:fr/g<=fr:=Int.ediv_le_self _ aD1;have c5:(0:Int)<=(fr+bJ+g - 1)/g:=aC7 aD1 aD1;have c':(fr+bJ+g - 1)/g<=fr+bJ+g - 1:=Int.ediv_le_self _ aD1;have c0:c8 (fr+bJ):=aD9
  have d5:c8 (fr+bJ+g):=aD9
  have lO:c8 (fr+bJ+g - 1):=aD9
  have s5:c8 ((fr+bJ+g - 1)/g):=aD9
  have n5:c8 (fr/g):=aD9
  have n6:(0:Int)<=fr+bJ+g - 1/\0 < g:=aD9
  have n7:(0:Int)<=fr/\0 < g:=aD9
  have U:=fun ef (h:ef<=1000000)=>agz s g es fr bJ (fr/g) ef k0 v2 v3 v4 au.2 c1 h
  have jG:=U _ (show(fr+bJ+g - 1)/g<=1000000 by omega);have gM:=U 0 aD2;generalize yJ:(fr+bJ+g - 1)/g=ef at*;generalize DE:fr/g=gq at*;refine aY [4] func103 ?_;refine⟨rfl,?_⟩;refine⟨c0,d5,lO,n6,by rw[yJ];exact s5,rfl,fun ak=>?_,fun ak=>?_⟩
  .have ak:bJ=0:=gd ak;rw[vj ak];refine bz [] (cM (He fr bJ 0) (DF s g es)) ?_;exact⟨n7,by rw[DE];exact n5,ar (Fn.arg (args:=[ap 1001,ab fr,ab bJ,ab (fr/g),ab 0,.c (.one (.c3 157 [.p 3001 0]))]) gM ⟨rfl,rfl,rfl,DE,rfl,rfl,trivial⟩ |> Fn.aX [(3001,3)]) ⟨rfl,bh⟩⟩
  .have ak: ¬bJ=0:=oj ak;rw[mu ak];refine bz [] (ac.sub (K':=He fr bJ ef) (B':=DF s g es) ⟨rfl,rfl,rfl,yJ,trivial⟩ aD) ?_;exact⟨n7,by rw[DE];exact n5,ar (Fn.arg (args:=[ap 1001,ab fr,ab bJ,ab (fr/g),ab ef,.c (.one (.c3 157 [.p 3001 0]))]) jG ⟨rfl,rfl,rfl,DE,rfl,rfl,trivial⟩ |> Fn.aX [(3001,3)]) ⟨rfl,bh⟩⟩
 .have bK:la s g es fr bJ=es:=mu az;rw[bK,mu az];have U:=fun gq ef=>agA s g es fr bJ gq ef az au
  refine aY [1,4] func103 ?_;refine⟨rfl,bw.mA (2000000+10) aD2 <| bw.mA (2000000+15) aD2 <| bw.mA (2000000+16) aD2 <| bw.mA (2000000+21) aD2 <| bz [4] (bt) <| bc (Bb rfl rfl rfl (.inl ⟨rfl,rfl⟩)) ?_⟩;refine bc (Bb rfl rfl rfl (.inl ⟨rfl,rfl⟩)) ?_;refine bc (Bb rfl rfl rfl (.inr (.inl ⟨rfl,rfl⟩))) ?_;refine bc (fun N=>Bb rfl rfl rfl (.inr (.inr ⟨rfl,aD1,rfl⟩)) N) ?_;refine⟨rfl,?_⟩;generalize IntKind.i64.wrap _=ef;refine⟨fun _=>?_,fun _=>?_⟩
  .show bw _ _ _ _ _ _ _;refine bw.le (cM (He fr bJ 0) (DF s g es)) <| bw.mA (2000000+32) aD2 <| bz [] (bt) <| bc (fun N=>Bb rfl rfl rfl (.inr (.inr ⟨rfl,aD1,rfl⟩)) N) ?_;exact ar (Fn.aX [(3001,3)] (U _ _)) ⟨rfl,bh⟩
  .show bw _ _ _ _ _ _ _;refine bw.le (cM (He fr bJ ef) (DF s g es)) <| bw.mA (2000000+32) aD2 <| bz [] (bt) <| bc (fun N=>Bb rfl rfl rfl (.inr (.inr ⟨rfl,aD1,rfl⟩)) N) ?_;exact ar (Fn.aX [(3001,3)] (U _ _)) ⟨rfl,bh⟩
end
namespace Go.Proofs
open Go.Shelf
def Tryz.S6:Go.Shelf.Ren:=⟨fun |7=>207 |10=>231 |n=>n,fun |23=>115 |26=>9 |3=>119 |28=>102 |0=>0 |27=>101 |33=>118 |4=>4 |n=>n,fun |n=>n⟩
theorem Tryz.agB:Go.Proofs.SlLaysZ.n7 Tryz.prog Tryz.S6:={
 mixed:=by kernel_rfl
 f7:=⟨Tryz.f207.name,by decide,Tryz.func207.trans (congrArg some (by kernel_rfl))⟩
 f10:=⟨Tryz.f231.name,by decide,Tryz.func231.trans (congrArg some (by kernel_rfl))⟩
 t0:=Tryz.underlying0
 a0:=Tryz.isAgg0
 z0:=Tryz.sizeOf0
 v0:=Tryz.zeroValue0
 t4:=Tryz.underlying4
 a4:=Tryz.isAgg4
 z4:=Tryz.sizeOf4
 v4:=Tryz.zeroValue4
 t23:=Tryz.underlying115
 a23:=Tryz.isAgg115
 z23:=Tryz.sizeOf115
 v23:=Tryz.zeroValue115
 t26:=Tryz.underlying9
 a26:=Tryz.isAgg9
 z26:=Tryz.sizeOf9
 v26:=Tryz.zeroValue9
 t27:=Tryz.underlying101
 a27:=Tryz.isAgg101
 z27:=Tryz.sizeOf101
 v27:=Tryz.zeroValue101
 t28:=Tryz.underlying102
 a28:=Tryz.isAgg102
 z28:=Tryz.sizeOf102
 v28:=Tryz.zeroValue102
 t33:=Tryz.underlying118
 a33:=Tryz.isAgg118
 z33:=Tryz.sizeOf118
 v33:=Tryz.zeroValue118}
def Tryz.S7:Go.Shelf.Ren:=⟨fun |6=>50 |8=>93 |9=>94 |11=>148 |13=>150 |12=>149 |23=>196 |24=>197 |14=>187 |15=>188 |16=>189 |17=>190 |18=>191 |19=>192 |20=>193 |21=>194 |22=>195 |25=>220 |26=>221 |27=>222 |28=>223 |29=>224 |30=>225 |31=>248 |n=>n,fun |26=>9 |28=>102 |24=>45 |0=>0 |3=>3 |37=>225 |48=>279 |50=>281 |4=>4 |40=>271 |39=>270 |45=>276 |5=>5 |9=>9 |51=>302 |55=>306 |57=>320 |58=>321 |33=>118 |n=>n,fun |n=>n⟩
theorem Tryz.S8:Go.Proofs.SlLaysZ.n6 Tryz.prog Tryz.S7:={
 mixed:=by kernel_rfl
 f6:=⟨Tryz.f50.name,by decide,Tryz.func50.trans (congrArg some (by kernel_rfl))⟩
 f8:=⟨Tryz.f93.name,by decide,Tryz.func93.trans (congrArg some (by kernel_rfl))⟩
 f11:=⟨Tryz.f148.name,by decide,Tryz.func148.trans (congrArg some (by kernel_rfl))⟩
 t0:=Tryz.underlying0
 a0:=Tryz.isAgg0
 z0:=Tryz.sizeOf0
 v0:=Tryz.zeroValue0
 t24:=Tryz.underlying45
 a24:=Tryz.isAgg45
 z24:=Tryz.sizeOf45
 v24:=Tryz.zeroValue45
 t26:=Tryz.underlying9
 a26:=Tryz.isAgg9
 z26:=Tryz.sizeOf9
 v26:=Tryz.zeroValue9
 t28:=Tryz.underlying102
 a28:=Tryz.isAgg102
 z28:=Tryz.sizeOf102
 v28:=Tryz.zeroValue102
 i26:=by kernel_rfl}
def Tryz.agC:Go.Shelf.Ren:=⟨fun |6=>94 |8=>150 |9=>149 |19=>196 |20=>197 |21=>187 |22=>188 |23=>189 |24=>190 |25=>191 |26=>192 |27=>193 |28=>194 |29=>195 |36=>220 |31=>221 |32=>222 |37=>223 |38=>224 |39=>225 |41=>248 |n=>n,fun |27=>45 |29=>9 |3=>3 |32=>225 |26=>45 |0=>0 |44=>279 |46=>281 |4=>4 |36=>271 |35=>270 |41=>276 |5=>5 |9=>9 |53=>302 |57=>306 |63=>320 |64=>321 |n=>n,fun |n=>n⟩
theorem Tryz.S9:Go.Proofs.SlLaysM.n6 Tryz.prog Tryz.agC:={
 mixed:=by kernel_rfl
 f6:=⟨Tryz.f94.name,by decide,Tryz.func94.trans (congrArg some (by kernel_rfl))⟩
 f8:=Tryz.func150.trans (congrArg some (by kernel_rfl))
 f9:=⟨Tryz.f149.name,by decide,Tryz.func149.trans (congrArg some (by kernel_rfl))⟩
 f19:=Tryz.func196.trans (congrArg some (by kernel_rfl))
 f20:=Tryz.func197.trans (congrArg some (by kernel_rfl))
 f21:=⟨Tryz.f187.name,by decide,Tryz.func187.trans (congrArg some (by kernel_rfl))⟩
 f22:=⟨Tryz.f188.name,by decide,Tryz.func188.trans (congrArg some (by kernel_rfl))⟩
 f23:=⟨Tryz.f189.name,by decide,Tryz.func189.trans (congrArg some (by kernel_rfl))⟩
 f24:=⟨Tryz.f190.name,by decide,Tryz.func190.trans (congrArg some (by kernel_rfl))⟩
 f25:=⟨Tryz.f191.name,by decide,Tryz.func191.trans (congrArg some (by kernel_rfl))⟩
 f26:=⟨Tryz.f192.name,by decide,Tryz.func192.trans (congrArg some (by kernel_rfl))⟩
 f27:=⟨Tryz.f193.name,by decide,Tryz.func193.trans (congrArg some (by kernel_rfl))⟩
 f28:=⟨Tryz.f194.name,by decide,Tryz.func194.trans (congrArg some (by kernel_rfl))⟩
 f29:=⟨Tryz.f195.name,by decide,Tryz.func195.trans (congrArg some (by kernel_rfl))⟩
 f31:=Tryz.func221.trans (congrArg some (by kernel_rfl))
 f32:=Tryz.func222.trans (congrArg some (by kernel_rfl))
 f36:=⟨Tryz.f220.name,by decide,Tryz.func220.trans (congrArg some (by kernel_rfl))⟩
 f37:=⟨Tryz.f223.name,by decide,Tryz.func223.trans (congrArg some (by kernel_rfl))⟩
 f38:=⟨Tryz.f224.name,by decide,Tryz.func224.trans (congrArg some (by kernel_rfl))⟩
 f39:=⟨Tryz.f225.name,by decide,Tryz.func225.trans (congrArg some (by kernel_rfl))⟩
 f41:=⟨Tryz.f248.name,by decide,Tryz.func248.trans (congrArg some (by kernel_rfl))⟩
 t0:=Tryz.underlying0
 a0:=Tryz.isAgg0
 z0:=Tryz.sizeOf0
 v0:=Tryz.zeroValue0
 t3:=Tryz.underlying3
 a3:=Tryz.isAgg3
 z3:=Tryz.sizeOf3
 v3:=Tryz.zeroValue3
 t4:=Tryz.underlying4
 a4:=Tryz.isAgg4
 z4:=Tryz.sizeOf4
 v4:=Tryz.zeroValue4
 t5:=Tryz.underlying5
 a5:=Tryz.isAgg5
 z5:=Tryz.sizeOf5
 v5:=Tryz.zeroValue5
 t9:=Tryz.underlying9
 a9:=Tryz.isAgg9
 z9:=Tryz.sizeOf9
 v9:=Tryz.zeroValue9
 t26:=Tryz.underlying45
 a26:=Tryz.isAgg45
 z26:=Tryz.sizeOf45
 v26:=Tryz.zeroValue45
 t27:=Tryz.underlying45
 a27:=Tryz.isAgg45
 z27:=Tryz.sizeOf45
 v27:=Tryz.zeroValue45
 t29:=Tryz.underlying9
 a29:=Tryz.isAgg9
 z29:=Tryz.sizeOf9
 v29:=Tryz.zeroValue9
 t32:=Tryz.underlying225
 a32:=Tryz.isAgg225
 z32:=Tryz.sizeOf225
 v32:=Tryz.zeroValue225
 t35:=Tryz.underlying270
 a35:=Tryz.isAgg270
 z35:=Tryz.sizeOf270
 v35:=Tryz.zeroValue270
 t36:=Tryz.underlying271
 a36:=Tryz.isAgg271
 z36:=Tryz.sizeOf271
 v36:=Tryz.zeroValue271
 t41:=Tryz.underlying276
 a41:=Tryz.isAgg276
 z41:=Tryz.sizeOf276
 v41:=Tryz.zeroValue276
 t44:=Tryz.underlying279
 a44:=Tryz.isAgg279
 z44:=Tryz.sizeOf279
 v44:=Tryz.zeroValue279
 t46:=Tryz.underlying281
 a46:=Tryz.isAgg281
 z46:=Tryz.sizeOf281
 v46:=Tryz.zeroValue281
 t53:=Tryz.underlying302
 a53:=Tryz.isAgg302
 z53:=Tryz.sizeOf302
 v53:=Tryz.zeroValue302
 t57:=Tryz.underlying306
 a57:=Tryz.isAgg306
 z57:=Tryz.sizeOf306
 v57:=Tryz.zeroValue306
 t63:=Tryz.underlying320
 a63:=Tryz.isAgg320
 z63:=Tryz.sizeOf320
 v63:=Tryz.zeroValue320
 t64:=Tryz.underlying321
 a64:=Tryz.isAgg321
 z64:=Tryz.sizeOf321
 v64:=Tryz.zeroValue321}
def Tryz.Ta:Go.Shelf.Ren:=⟨fun |7=>51 |10=>95 |n=>n,fun |23=>104 |26=>9 |3=>105 |28=>102 |0=>0 |27=>101 |33=>118 |4=>4 |n=>n,fun |n=>n⟩
theorem Tryz.agD:Go.Proofs.SlLaysZ.n7 Tryz.prog Tryz.Ta:={
 mixed:=by kernel_rfl
 f7:=⟨Tryz.f51.name,by decide,Tryz.func51.trans (congrArg some (by kernel_rfl))⟩
 f10:=⟨Tryz.f95.name,by decide,Tryz.func95.trans (congrArg some (by kernel_rfl))⟩
 t0:=Tryz.underlying0
 a0:=Tryz.isAgg0
 z0:=Tryz.sizeOf0
 v0:=Tryz.zeroValue0
 t4:=Tryz.underlying4
 a4:=Tryz.isAgg4
 z4:=Tryz.sizeOf4
 v4:=Tryz.zeroValue4
 t23:=Tryz.underlying104
 a23:=Tryz.isAgg104
 z23:=Tryz.sizeOf104
 v23:=Tryz.zeroValue104
 t26:=Tryz.underlying9
 a26:=Tryz.isAgg9
 z26:=Tryz.sizeOf9
 v26:=Tryz.zeroValue9
 t27:=Tryz.underlying101
 a27:=Tryz.isAgg101
 z27:=Tryz.sizeOf101
 v27:=Tryz.zeroValue101
 t28:=Tryz.underlying102
 a28:=Tryz.isAgg102
 z28:=Tryz.sizeOf102
 v28:=Tryz.zeroValue102
 t33:=Tryz.underlying118
 a33:=Tryz.isAgg118
 z33:=Tryz.sizeOf118
 v33:=Tryz.zeroValue118}
def Tryz.agE:Go.Shelf.Ren:=⟨fun |5=>96 |7=>151 |n=>n,fun |23=>159 |25=>3 |3=>3 |4=>4 |20=>20 |n=>n,fun |n=>n⟩
theorem Tryz.agF:Go.Proofs.SlLaysW.n5 Tryz.prog Tryz.agE:={
 mixed:=by kernel_rfl
 f5:=⟨Tryz.f96.name,by decide,Tryz.func96.trans (congrArg some (by kernel_rfl))⟩
 f7:=Tryz.func151.trans (congrArg some (by kernel_rfl))
 t4:=Tryz.underlying4
 a4:=Tryz.isAgg4
 z4:=Tryz.sizeOf4
 v4:=Tryz.zeroValue4
 t20:=Tryz.underlying20
 a20:=Tryz.isAgg20
 z20:=Tryz.sizeOf20
 v20:=Tryz.zeroValue20
 t23:=Tryz.underlying159
 a23:=Tryz.isAgg159
 z23:=Tryz.sizeOf159
 v23:=Tryz.zeroValue159}
def Tryz.L5:Go.Shelf.Ren:=⟨fun |7=>155 |10=>201 |n=>n,fun |23=>159 |26=>3 |3=>3 |28=>235 |0=>0 |27=>234 |33=>156 |4=>4 |n=>n,fun |n=>n⟩
theorem Tryz.Tb:Go.Proofs.SlLaysZI.n7 Tryz.prog Tryz.L5:={
 mixed:=by kernel_rfl
 f7:=⟨Tryz.f155.name,by decide,Tryz.func155.trans (congrArg some (by kernel_rfl))⟩
 f10:=⟨Tryz.f201.name,by decide,Tryz.func201.trans (congrArg some (by kernel_rfl))⟩
 t0:=Tryz.underlying0
 a0:=Tryz.isAgg0
 z0:=Tryz.sizeOf0
 v0:=Tryz.zeroValue0
 t4:=Tryz.underlying4
 a4:=Tryz.isAgg4
 z4:=Tryz.sizeOf4
 v4:=Tryz.zeroValue4
 t23:=Tryz.underlying159
 a23:=Tryz.isAgg159
 z23:=Tryz.sizeOf159
 v23:=Tryz.zeroValue159
 t26:=Tryz.underlying3
 a26:=Tryz.isAgg3
 z26:=Tryz.sizeOf3
 v26:=Tryz.zeroValue3
 t27:=Tryz.underlying234
 a27:=Tryz.isAgg234
 z27:=Tryz.sizeOf234
 v27:=Tryz.zeroValue234
 t28:=Tryz.underlying235
 a28:=Tryz.isAgg235
 z28:=Tryz.sizeOf235
 v28:=Tryz.zeroValue235
 t33:=Tryz.underlying156
 a33:=Tryz.isAgg156
 z33:=Tryz.sizeOf156
 v33:=Tryz.zeroValue156}
def Tryz.agG:Go.Shelf.Ren:=⟨fun |8=>199 |11=>226 |n=>n,fun |26=>3 |28=>235 |24=>83 |0=>0 |33=>156 |4=>4 |n=>n,fun |n=>n⟩
theorem Tryz.agH:Go.Proofs.SlLaysZI.n8 Tryz.prog Tryz.agG:={
 mixed:=by kernel_rfl
 f8:=⟨Tryz.f199.name,by decide,Tryz.func199.trans (congrArg some (by kernel_rfl))⟩
 f11:=⟨Tryz.f226.name,by decide,Tryz.func226.trans (congrArg some (by kernel_rfl))⟩
 t0:=Tryz.underlying0
 a0:=Tryz.isAgg0
 z0:=Tryz.sizeOf0
 v0:=Tryz.zeroValue0
 t24:=Tryz.underlying83
 a24:=Tryz.isAgg83
 z24:=Tryz.sizeOf83
 v24:=Tryz.zeroValue83
 t26:=Tryz.underlying3
 a26:=Tryz.isAgg3
 z26:=Tryz.sizeOf3
 v26:=Tryz.zeroValue3
 t28:=Tryz.underlying235
 a28:=Tryz.isAgg235
 z28:=Tryz.sizeOf235
 v28:=Tryz.zeroValue235
 i26:=by kernel_rfl}
def Tryz.Tc:Go.Shelf.Ren:=⟨fun |7=>168 |10=>208 |n=>n,fun |23=>169 |26=>3 |3=>31 |28=>235 |0=>0 |27=>234 |33=>156 |4=>4 |n=>n,fun |n=>n⟩
theorem Tryz.agI:Go.Proofs.SlLaysZI.n7 Tryz.prog Tryz.Tc:={
 mixed:=by kernel_rfl
 f7:=⟨Tryz.f168.name,by decide,Tryz.func168.trans (congrArg some (by kernel_rfl))⟩
 f10:=⟨Tryz.f208.name,by decide,Tryz.func208.trans (congrArg some (by kernel_rfl))⟩
 t0:=Tryz.underlying0
 a0:=Tryz.isAgg0
 z0:=Tryz.sizeOf0
 v0:=Tryz.zeroValue0
 t4:=Tryz.underlying4
 a4:=Tryz.isAgg4
 z4:=Tryz.sizeOf4
 v4:=Tryz.zeroValue4
 t23:=Tryz.underlying169
 a23:=Tryz.isAgg169
 z23:=Tryz.sizeOf169
 v23:=Tryz.zeroValue169
 t26:=Tryz.underlying3
 a26:=Tryz.isAgg3
 z26:=Tryz.sizeOf3
 v26:=Tryz.zeroValue3
 t27:=Tryz.underlying234
 a27:=Tryz.isAgg234
 z27:=Tryz.sizeOf234
 v27:=Tryz.zeroValue234
 t28:=Tryz.underlying235
 a28:=Tryz.isAgg235
 z28:=Tryz.sizeOf235
 v28:=Tryz.zeroValue235
 t33:=Tryz.underlying156
 a33:=Tryz.isAgg156
 z33:=Tryz.sizeOf156
 v33:=Tryz.zeroValue156}
def Tryz.Td:Go.Shelf.Ren:=⟨fun |6=>154 |8=>199 |9=>200 |11=>226 |13=>150 |12=>227 |23=>196 |24=>197 |14=>249 |15=>250 |16=>251 |17=>252 |18=>253 |19=>254 |20=>255 |21=>256 |22=>257 |25=>265 |26=>221 |27=>222 |28=>266 |29=>267 |30=>268 |31=>270 |n=>n,fun |26=>3 |28=>235 |24=>83 |0=>0 |3=>3 |37=>225 |48=>279 |50=>281 |4=>4 |40=>271 |39=>270 |45=>276 |5=>5 |9=>9 |51=>302 |55=>306 |57=>320 |58=>321 |33=>156 |n=>n,fun |n=>n⟩
theorem Tryz.Te:Go.Proofs.SlLaysZI.n6 Tryz.prog Tryz.Td:={
 mixed:=by kernel_rfl
 f6:=⟨Tryz.f154.name,by decide,Tryz.func154.trans (congrArg some (by kernel_rfl))⟩
 f8:=⟨Tryz.f199.name,by decide,Tryz.func199.trans (congrArg some (by kernel_rfl))⟩
 f11:=⟨Tryz.f226.name,by decide,Tryz.func226.trans (congrArg some (by kernel_rfl))⟩
 t0:=Tryz.underlying0
 a0:=Tryz.isAgg0
 z0:=Tryz.sizeOf0
 v0:=Tryz.zeroValue0
 t24:=Tryz.underlying83
 a24:=Tryz.isAgg83
 z24:=Tryz.sizeOf83
 v24:=Tryz.zeroValue83
 t26:=Tryz.underlying3
 a26:=Tryz.isAgg3
 z26:=Tryz.sizeOf3
 v26:=Tryz.zeroValue3
 t28:=Tryz.underlying235
 a28:=Tryz.isAgg235
 z28:=Tryz.sizeOf235
 v28:=Tryz.zeroValue235
 i26:=by kernel_rfl}
def Tryz.agJ:Go.Shelf.Ren:=⟨fun |5=>200 |8=>150 |7=>227 |19=>196 |20=>197 |10=>249 |11=>250 |12=>251 |13=>252 |14=>253 |15=>254 |16=>255 |17=>256 |18=>257 |30=>265 |31=>221 |32=>222 |33=>266 |34=>267 |35=>268 |40=>270 |n=>n,fun |23=>83 |25=>3 |3=>3 |32=>225 |22=>83 |0=>0 |44=>279 |46=>281 |4=>4 |36=>271 |35=>270 |41=>276 |5=>5 |9=>9 |53=>302 |57=>306 |63=>320 |64=>321 |n=>n,fun |n=>n⟩
theorem Tryz.Tf:Go.Proofs.SlLaysM.n5 Tryz.prog Tryz.agJ:={
 mixed:=by kernel_rfl
 f5:=⟨Tryz.f200.name,by decide,Tryz.func200.trans (congrArg some (by kernel_rfl))⟩
 f7:=⟨Tryz.f227.name,by decide,Tryz.func227.trans (congrArg some (by kernel_rfl))⟩
 f8:=Tryz.func150.trans (congrArg some (by kernel_rfl))
 f10:=⟨Tryz.f249.name,by decide,Tryz.func249.trans (congrArg some (by kernel_rfl))⟩
 f11:=⟨Tryz.f250.name,by decide,Tryz.func250.trans (congrArg some (by kernel_rfl))⟩
 f12:=⟨Tryz.f251.name,by decide,Tryz.func251.trans (congrArg some (by kernel_rfl))⟩
 f13:=⟨Tryz.f252.name,by decide,Tryz.func252.trans (congrArg some (by kernel_rfl))⟩
 f14:=⟨Tryz.f253.name,by decide,Tryz.func253.trans (congrArg some (by kernel_rfl))⟩
 f15:=⟨Tryz.f254.name,by decide,Tryz.func254.trans (congrArg some (by kernel_rfl))⟩
 f16:=⟨Tryz.f255.name,by decide,Tryz.func255.trans (congrArg some (by kernel_rfl))⟩
 f17:=⟨Tryz.f256.name,by decide,Tryz.func256.trans (congrArg some (by kernel_rfl))⟩
 f18:=⟨Tryz.f257.name,by decide,Tryz.func257.trans (congrArg some (by kernel_rfl))⟩
 f19:=Tryz.func196.trans (congrArg some (by kernel_rfl))
 f20:=Tryz.func197.trans (congrArg some (by kernel_rfl))
 f30:=⟨Tryz.f265.name,by decide,Tryz.func265.trans (congrArg some (by kernel_rfl))⟩
 f31:=Tryz.func221.trans (congrArg some (by kernel_rfl))
 f32:=Tryz.func222.trans (congrArg some (by kernel_rfl))
 f33:=⟨Tryz.f266.name,by decide,Tryz.func266.trans (congrArg some (by kernel_rfl))⟩
 f34:=⟨Tryz.f267.name,by decide,Tryz.func267.trans (congrArg some (by kernel_rfl))⟩
 f35:=⟨Tryz.f268.name,by decide,Tryz.func268.trans (congrArg some (by kernel_rfl))⟩
 f40:=⟨Tryz.f270.name,by decide,Tryz.func270.trans (congrArg some (by kernel_rfl))⟩
 t0:=Tryz.underlying0
 a0:=Tryz.isAgg0
 z0:=Tryz.sizeOf0
 v0:=Tryz.zeroValue0
 t3:=Tryz.underlying3
 a3:=Tryz.isAgg3
 z3:=Tryz.sizeOf3
 v3:=Tryz.zeroValue3
 t4:=Tryz.underlying4
 a4:=Tryz.isAgg4
 z4:=Tryz.sizeOf4
 v4:=Tryz.zeroValue4
 t5:=Tryz.underlying5
 a5:=Tryz.isAgg5
 z5:=Tryz.sizeOf5
 v5:=Tryz.zeroValue5
 t9:=Tryz.underlying9
 a9:=Tryz.isAgg9
 z9:=Tryz.sizeOf9
 v9:=Tryz.zeroValue9
 t22:=Tryz.underlying83
 a22:=Tryz.isAgg83
 z22:=Tryz.sizeOf83
 v22:=Tryz.zeroValue83
 t23:=Tryz.underlying83
 a23:=Tryz.isAgg83
 z23:=Tryz.sizeOf83
 v23:=Tryz.zeroValue83
 t25:=Tryz.underlying3
 a25:=Tryz.isAgg3
 z25:=Tryz.sizeOf3
 v25:=Tryz.zeroValue3
 t32:=Tryz.underlying225
 a32:=Tryz.isAgg225
 z32:=Tryz.sizeOf225
 v32:=Tryz.zeroValue225
 t35:=Tryz.underlying270
 a35:=Tryz.isAgg270
 z35:=Tryz.sizeOf270
 v35:=Tryz.zeroValue270
 t36:=Tryz.underlying271
 a36:=Tryz.isAgg271
 z36:=Tryz.sizeOf271
 v36:=Tryz.zeroValue271
 t41:=Tryz.underlying276
 a41:=Tryz.isAgg276
 z41:=Tryz.sizeOf276
 v41:=Tryz.zeroValue276
 t44:=Tryz.underlying279
 a44:=Tryz.isAgg279
 z44:=Tryz.sizeOf279
 v44:=Tryz.zeroValue279
 t46:=Tryz.underlying281
 a46:=Tryz.isAgg281
 z46:=Tryz.sizeOf281
 v46:=Tryz.zeroValue281
 t53:=Tryz.underlying302
 a53:=Tryz.isAgg302
 z53:=Tryz.sizeOf302
 v53:=Tryz.zeroValue302
 t57:=Tryz.underlying306
 a57:=Tryz.isAgg306
 z57:=Tryz.sizeOf306
 v57:=Tryz.zeroValue306
 t63:=Tryz.underlying320
 a63:=Tryz.isAgg320
 z63:=Tryz.sizeOf320
 v63:=Tryz.zeroValue320
 t64:=Tryz.underlying321
 a64:=Tryz.isAgg321
 z64:=Tryz.sizeOf321
 v64:=Tryz.zeroValue321}
def Tryz.agK:Go.Shelf.Ren:=⟨fun |5=>179 |7=>151 |n=>n,fun |23=>252 |25=>3 |3=>257 |4=>4 |20=>20 |n=>n,fun |n=>n⟩
theorem Tryz.agL:Go.Proofs.SlLaysW.n5 Tryz.prog Tryz.agK:={
 mixed:=by kernel_rfl
 f5:=⟨Tryz.f179.name,by decide,Tryz.func179.trans (congrArg some (by kernel_rfl))⟩
 f7:=Tryz.func151.trans (congrArg some (by kernel_rfl))
 t4:=Tryz.underlying4
 a4:=Tryz.isAgg4
 z4:=Tryz.sizeOf4
 v4:=Tryz.zeroValue4
 t20:=Tryz.underlying20
 a20:=Tryz.isAgg20
 z20:=Tryz.sizeOf20
 v20:=Tryz.zeroValue20
 t23:=Tryz.underlying252
 a23:=Tryz.isAgg252
 z23:=Tryz.sizeOf252
 v23:=Tryz.zeroValue252}
end Go.Proofs
section
open Go.RowKit Go.Proofs Go.Maps Go.Shelf Go.MapKept Tryz
open Go.WideElems (Fit rd rg pl rd_val rd_key rg_of)
def agM {aK:bB} (p:aa .str×aa aK):aG9:=p.1
def mF {aK:bB} (es:List (aa .str×aa aK)):List aG9:=es.map agM
def oI {aK:bB} (es:List (aa .str×aa aK)):List aG9:=(mF es).mergeSort leB
abbrev p7:Value->Option (DataW Unit×List MemPlace):=fun _=>some (.nil,[])
def Tg {I:Nat->Prop} {w:aH5} {aK:bB}: ∀{l:List (aa .str×aa aK)} {es:aI7},iG I w .str aK l es->es.map (·.key)=(mF l).map encStr
 | [],_,h=>by rw[show _=[] from h];rfl
 |p::l,_,⟨e,r,h,E,_,ah⟩=>by
  rw[h,au1,Tg ah,E];rfl
def agN {P:aH6} {k:aI0} (Z:P.underlying k=some .string) (s:aG9) (h:s.length<=maxLen):keyOf P k (encStr s)=some (.string s):=by simp only[keyOf,Z,encStr,mapKey,ByteArray.size,List.size_toArray];rw[vj h]
def Th: ∀{l m:aJ0},l.map encStr=m.map encStr->l=m
 | [],[],_=>rfl
 | [],_::_,h=>by simp at h
 |_::_,[],h=>by simp at h
 |x::l,y::m,h=>by
  simp only[au1,List.cons.injEq] at h;rw[encStr_inj h.1,Th h.2]
def Ti {P:aH6} {k:aI0} (Z:P.underlying k=some .string) {I:Nat->Prop} {w:aH5} {aK:bB} {es:List (aa .str×aa aK)} {bV:aI7} {bY b:Nat} (O:w.heap[b]? =some (.map (List.toArray bV) bY))
  (ay:iG I w .str aK es bV) (cQ:ms bV bY) (hn:(mF es).Nodup) (ak: ∀s∈mF es,s.length<=maxLen) (au:es.length<=maxLen):
  ∃jO,w.ownsMap P k p7 b es.length jO/\Maps.size jO=es.length/\(strKeys jO).Perm (mF es):=by
 have bX:=Ch ay;have yO:=Tg ay
 have DG: ∀x∈bV,∃s:aG9,x.key=encStr s/\s.length<=maxLen/\rg P k p7 x=(.string s,.nil)/\ ∃y,rd P k p7 x=some y:=by
  intro x hx;have:x.key∈(mF es).map encStr:=by rw[<-yO];exact au0 hx
  obtain⟨s,ae,U⟩:=av0.1 this;have L6:keyOf P k x.key=some (.string s):=U▸agN Z _ (ak s ae);have lS:rd P k p7 x=some (.string s,.nil):=by simp[rd,L6]
  exact⟨s,U.symm,ak s ae,rg_of lS,_,lS⟩
 have pw:=Go.WideShapes.sorted_perm (bV.map (rg P k p7))
 have iy:(bV.map (rg P k p7)).map (fun p=>strOf p.1)=mF es:=by
  refine Th ?_;rw[<-yO,aw7,aw7];refine av1 fun x hx=>?_
  obtain⟨s,af,_,ao,_⟩:=DG x hx;simp[ao,af,strOf]
 refine⟨.map ((bV.map (rg P k p7)).foldr DataW.insert []),⟨List.toArray bV,bY,O,⟨by simp[bX];exact au,(stamped_iff _ _).2 ⟨cQ.2,cQ.1.imp fun h=>by omega,?_⟩,fun x hx=>(DG x hx).choose_spec.2.2.2⟩,by simp[bX],rfl⟩,?_,?_⟩
 .have E:(bV.map (·.key)).Pairwise (· ≠ ·):=by
   rw[yO];exact List.pairwise_map.2 (hn.imp fun a8 e=>a8 (encStr_inj e))
  exact List.pairwise_map.1 E
 .show List.length _=_;rw[pw.length_eq,at8,bX]
 .show(List.map (fun p=>strOf (Prod.fst p)) _).Perm _;rw[<-iy];exact pw.map _
def agO (es:List (aa .str×aa .aM)):Fn prog 207 [.c (.one (.mp 1001))] [(1001,.map .str .aM es)] [2001] (.c (.one (.c3 231 [.p 2001 0]))) [(2001,.cells [.mp 1001]),(1001,.map .str .aM es)]:=by refine aY [] func207 ?_;exact⟨rfl,_,_,_,ac.aX 1 2001 rfl,rfl,rfl,aD,rfl⟩
def gl.Tj {I D:Nat->Prop} {w:aH5} {v:aI3} {l:aJ0} (h:gl D w 1 v l.length (l.map encStr)) (ce: ∀b,b < w.heap.size->D b->I b):cw I w (.cc .str) l (fun _=>some v):=by obtain⟨_,A,c,aw,E,G,ah⟩:=h;refine⟨A,c,as5 some aw,E,G,fun ae=>?_⟩;obtain⟨b,o,dX,O,bv,hx⟩:=ah ae;refine⟨b,o,dX,ce b bv O,fun i x aE=>?_⟩;have:=hx i (encStr x) (by rw[au8,show l[i]? =some x from aE];rfl);simpa[cw,aR,encStr] using this
def Tk (m:Nat):AnyZ.SortsIn prog S7 Fence.wide m:=
 ⟨fun bm off cap hq W c4 ko cz=>callsIn_wide.2 (AnyM.slices_Sort_string S9 bm off cap hq W c4 ko cz),
  fun p cap W=>callsIn_wide.2 (AnyM.slices_Sort_string_none S9 p cap W)⟩
def agP (es:List (aa .str×aa .aM)) (hn:(mF es).Nodup) (ak: ∀s∈mF es,s.length<=maxLen) (au:es.length<=4294967296):
  Fn prog 50 [.c (.one (.c3 231 [.p 2001 0]))] [(2001,.cells [.mp 1001]),(1001,.map .str .aM es)] [] (bP .str (oI es)) [(2001,.cells [.mp 1001]),(1001,.map .str .aM es)]:=by
 refine⟨aD4,fun ρ F I w bZ a1 c4 bj eQ bX dI=>?_⟩
 match bZ,bX with
 | [v],_=>
  obtain⟨aF,az,gH,r,hP,mG,ax⟩:=dI 0 _ v rfl rfl;have ax:r=[]:=ax;have mG:gH= .pointer (some ⟨(ρ 2001).bm,0,none⟩):=mG;subst ax mG hP az;obtain⟨_,aF,T,hd,hP⟩:=c4 2001 _ rfl;obtain⟨x,r,hP,hx,ax⟩:=hP;have ax:r=[]:=ax;have hx:x= .map (some (ρ 1001).bm):=hx;subst ax hx hP;obtain⟨_,bV,bY,fk,ay,cQ⟩:=c4 1001 _ rfl;have Hf:(4294967296:Nat)<=maxLen:=by decide
  obtain⟨jO,dN,cz,pw⟩:=Ti (P:=prog) (k:=9) aD4 fk ay cQ hn ak aD1;have bv:(ρ 2001).bm < w.heap.size:=mr hd
  have vD:SeqGives Fence.wide 2 prog 231 #[.pointer (some ⟨(ρ 2001).bm,0,none⟩)] encStr (fun hq=>hq.Perm (strKeys jO)) (Maps.size jO) w:=
   AnyZ.keys_gives (ρ:=S6) {agB with} Fence.wide _ trivial rfl aD1 (ρ 2001).bm (ρ 1001).bm es.length jO w bv (pd hd rfl) dN
  have J:=AnyZ.sorted_in S8 Fence.wide 5 trivial trivial trivial trivial rfl aD1 (Tk _) (enters_of func94 aD4 rfl) 231 #[.pointer (some ⟨(ρ 2001).bm,0,none⟩)] trivial (enters_of func231 aD4 rfl) _ _ aF7 aF7 _ vD;refine(callsIn_wide.1 J).mono ?_;rintro e w' ⟨v,hq,rfl,av,gm,yP,gV⟩;have a2:cp I w (fun b=>b < w'.heap.size/\(I b\/w.heap.size<=b)) w':=fun b f4=>⟨⟨au2 (a1 b f4) gV.size,.inl f4⟩,gV.block b (a1 b f4)⟩
  refine⟨v,ρ,F,rfl,cZ.pP gV,fun _ _=>rfl,_,a2,fun b h=>⟨h.1,h.2.imp id .inr⟩,fun c ch J=>Holds.cr a2 (fun b O=>gV.block b (bj c ch J b O).1) gV.size ch (fun _ _=>rfl) (c4 c ch J),fun c ch J b O=>?_,fun c ca ch ch' b E G=>eQ c ca ch ch' b E G,?_⟩
  .have:=bj c ch J b O;exact⟨au2 this.1 gV.size,fun h=>(by rcases h.2 with h |h;exact this.2 h;omega),.inl ⟨c,ch,J,O⟩⟩
  .have Z:hq.mergeSort (fun x y=>decide (x<=y))=oI es:=Go.mergeSort_of_perm (av.trans pw);rw[Z] at gm;have hN:=gl.sA gm;have xf:hq.length=(oI es).length:=by rw[<-Z,List.length_mergeSort]
   rw[xf] at hN;exact(hN.zT fun i _ aE=>(gm.lt i aE).1).Tj fun b E G=>⟨E,.inr G⟩
def DH (L:aH2):mF (df L)=L.map (·.nm):=by unfold mF df;rw[aw7];rfl
def mH (L:aH2):List aG9:=oI (df L)
def agQ {L:aH2} {n:aG9} (h:n∈mH L): ∃d,dk L n=some d:=by
 unfold mH oI at h;rw[List.mem_mergeSort,DH] at h;obtain⟨d,H,e⟩:=av0.1 h
 cases ao:dk L n with
 |some d=>exact⟨d,rfl⟩
 |none=>
  unfold dk at ao;have:=List.find?_eq_none.1 ao d H;simp[e] at this
def Tl (L:aH2):(mH L).length=L.length:=by unfold mH oI;rw[List.length_mergeSort,DH,at8]
def Tm (z R:Int) (L:aH2) (e5:i3 L) (ak: ∀d,d∈L->d.nm.length<=100000) (oJ:L.length<=100):Fn prog 166 [ap 1001] (bT z R L) [] (bP .str (mH L)) (bT z R L):=by
 have Z:(mF (df L)).Nodup:=by rw[DH];exact e5.ji
 have ay: ∀s∈mF (df L),s.length<=maxLen:=fun s au=>by
  rw[DH] at au;obtain⟨d,H,rfl⟩:=av0.1 au;exact az4 (ak d H) aD2
 have au:(df L).length<=4294967296:=by unfold df;rw[at8];omega
 refine aY [] func166 ?_;exact ar (Fn.aX [(1001,1002),(2001,5001)] (agO (df L))) <| ar (Fn.aX [(1001,1002),(2001,5001)] (agP (df L) Z ay au)) bh
def mI (L:aH2) (nm n:aG9):Bool:= !decide (nm=[])&&decide (((dk L n).map (·.back)).getD []=nm)
def r6 (L:aH2) (nm:aG9):List aG9:=(mH L).filter (mI L nm)
abbrev L7 (nm:aG9) (l:aJ0) (j:Nat):aZ:=[(0,ap 1001),(1,bW nm),(5,eC 5002),(9,bP .str l),(10,ab (l.length:Nat)),(11,ab (j:Nat))]
abbrev agR (nm:aG9) (l:aJ0) (j:Nat):aZ:=[(0,ap 1001),(1,bW nm),(5,eC 33),(9,bP .str l),(10,ab (l.length:Nat)),(11,ab (j:Nat))]
abbrev L8 (z R:Int) (L:aH2) (x:aJ0):aA:=bT z R L++[(5002,.row 9 .str x)]
abbrev agS (z R:Int) (L:aH2) (x:aJ0):aA:=bT z R L++[(33,.row 9 .str x)]
def agT (z R:Int) (L:aH2) (e5:i3 L) (ak: ∀d,d∈L->d.nm.length<=100000) (oJ:L.length<=100) (nm:aG9):Fn prog 115 [ap 1001,bW nm] (bT z R L) [] (bP .str (r6 L nm)) (bT z R L):=by
 obtain⟨pt,gD,gE⟩:=kL G7;have lK:=@agQ L;have bX:=Tl L;have AK:=Tm z R L e5 ak oJ;unfold r6;generalize mH L=l at*;refine aY [5,6,8] func115 ?_;refine ar AK <| d1 [5,6,8] (X:=Nat) (L7 nm l) (fun j=>L8 z R L ((l.take j).filter (mI L nm))) (fun j=>j<=l.length) (fun j=>l.length - j) 0 (at2 _) ?_ ?_
 .exact(ac.nil 5 5002 9 .str rfl rfl).trans (ac.sub aD aD)
 intro j V;refine⟨fun h=>?_,fun h=>?_⟩
 .have h:decide ((j:Int) < (l.length:Nat))=true:=h;have dF:j < l.length:=aE0
  obtain⟨d,H⟩:=lK (av2 dF);have md:=e5.D (cY H).1;have hx:(b0 (aI:=.str) (aK:=.aM) (df L) l[j]).getD (cR .aM)=some d.ad:=by rw[kx,H];rfl
  have a6:mI L nm l[j]=(!decide (nm=[])&&decide (d.back=nm)):=by unfold mI;rw[H];rfl
  have yM:(l.take (j+1)).filter (mI L nm)=(l.take j).filter (mI L nm)++(if mI L nm l[j]=true then[l[j]] else[]):=by
   rw[aw6 dF,List.filter_append]
   congr 1
   by_cases e:mI L nm l[j]=true
   .rw[vj e,List.filter_cons_of_pos e];rfl
   .rw[mu e,List.filter_cons_of_neg e];rfl
  have Bc:((l.take j).filter (mI L nm)).length<=j:=az4 (List.length_filter_le _ _) aE8;have m3:(0:Int)<=(j:Int):=aD9
  have r3:c8 ((j:Int)+1):=aD9
  have eP:mI L nm l[j]=false->(l.take (j+1)).filter (mI L nm)=(l.take j).filter (mI L nm):=fun e=>by rw[yM,mu (by rw[e];decide),av8]
  refine⟨m3,l[j],j4 (n:=j) dF,?_⟩;generalize l[j]=n at*;refine bz [6,8] (cM ((7,bW n)::L7 nm l j) (L8 z R L ((l.take j).filter (mI L nm)))) ⟨fun E=>?_,fun E=>?_⟩
  .have E: ¬nm=[]:=by
    have E:(!decide (nm=[]))=true:=E;simpa using E
   refine bc (fun N=>ju (b:=d.ad) rfl aF8 N) ?_;refine bc (fun N=>jN rfl underlying122 rfl rfl gD aE4 rfl N) ?_;refine bc (lR (q:=1003) rfl underlying9 rfl rfl rfl md rfl) ?_;refine⟨fun G=>?_,fun G=>?_⟩
   .have G:d.back=nm:=gd G;have FM:mI L nm n=true:=by rw[a6,av7 E,at4 G];rfl
    rw[vj FM] at yM;have LY:((l.take j).filter (mI L nm)).length+1<=4294967296:=aD9
    exact bz [] (cM ((7,bW n)::L7 nm l j) (L8 z R L ((l.take j).filter (mI L nm)))) ⟨LY,rfl,r3,j+1,dF,aD1,ac.trans (ac.sub (K':=agR nm l (j+1)) (B':=agS z R L ((l.take (j+1)).filter (mI L nm))) aD ⟨rfl,rfl,rfl,rfl,as5 (fun l:List aG9=>some (ba.row 9 .str l)) yM.symm,trivial⟩) (ac.aX 33 5002 rfl)⟩
   .have G: ¬d.back=nm:=oj G;have Z:=eP (by rw[a6,av7 G,Bool.and_false]);exact⟨r3,j+1,dF,aD1,ac.sub aD ⟨rfl,rfl,rfl,rfl,as5 (fun l:List aG9=>some (ba.row 9 .str l)) Z.symm,trivial⟩⟩
  .have E:nm=[]:=by
    have E:(!decide (nm=[]))=false:=E;simpa using E
   have Z:=eP (by rw[a6,at4 E];rfl);exact⟨r3,j+1,dF,aD1,ac.sub aD ⟨rfl,rfl,rfl,rfl,as5 (fun l:List aG9=>some (ba.row 9 .str l)) Z.symm,trivial⟩⟩
 .have h:decide ((j:Int) < (l.length:Nat))=false:=h;have dF:j=l.length:=aG1
  subst dF;have cm:(l.take l.length).filter (mI L nm)=l.filter (mI L nm):=by rw[au3]
  exact bz [] (bt) ⟨_,_,_,ac.eb 5002 rfl,rfl,cm,aD,rfl⟩
def uq (d:aL) (L:aH2) (nm:aG9):dk (d::L) nm=if d.nm=nm then some d else dk L nm:=by
 unfold dk;rw[List.find?_cons]
 by_cases e:d.nm=nm
 .rw[at4 e,vj e]
 .rw[av7 e,mu e]
end
section
def agU:(prog.info? 5).map (fun i=>(i.zero,i.size,i.bytes))=some (some (.int .u8 0),1,1):=by kernel_rfl
def agV (v:aI3) (l:aG9) (D:Nat->Prop) (w:aH5) (az:qs D w v l) (au:l.length<=4294967296):
  Calls prog 169 #[v] w fun e w'=> ∃dr,e= .returned dr/\qs (fun i=>w.heap.size<=i) w' dr l/\Below w.heap.size w w':=by
 obtain⟨A,c,rfl,d4,ee⟩:=az.form;have Tn:=Lib.hid az;clear az;generalize hn:l.length=n at*;have To:=Lib.hid hn;clear hn;rcases A with _ |ad
 .have yP:=Lib.run_eql_slice_nil (P:=prog)
  have aw:l=[]:=by
   obtain⟨ak,A',ca,U,_,_,ah⟩:=Tn.out;rcases aB3 l.length with h |h
   .exact aw8 h
   .obtain⟨b,o,ha,_⟩:=ah h;subst ha;cases U
  have agW:=Lib.hid aw;clear aw
  go_enter func169,ntmps169
  go_wp2_with fail
  go_ret
  refine⟨_,rfl,?_,Below.refl _ _⟩;rw[agW.out];exact gl.nil _ _ _
 .have yP:=Lib.run_eql_slice_nil (P:=prog)
  go_enter func169,ntmps169
  clear ee d4
  go_wp2_with (at_builtin;refine Pz _ rfl (.tmp 5) (.tmp 6) _ rfl w.heap.size 5 _ 1 1 underlying31 agU rfl aD1 (.slice (some ⟨w.heap.size,0,none⟩) 0 0) 0 [] rfl ?cD D (.slice (some ad) n c) n (l.map ir) rfl ?cv (PA l) ?hQ ?ur ?DI ?_)
  case cD=>exact⟨aD3,.inr ⟨w.heap.size,0,#[],rfl,as2 _,heap_alloc_new w _,as2 _,aD2,rfl,rfl⟩⟩
  case cv=>
   have h:=Tn.out;unfold qs at h;rw[To.out] at h;exact h.mono (tK.pP ((Below.refl _ _).alloc (as2 _) _)) aD3 (fun _ _ h=>h)
  case hQ=>simp only[maxLen];omega
  case ur=>omega
  case DI=>simp
  intro dr d9 dN r7 j8
  go_wp2
  go_ret
  refine⟨dr,rfl,?_,?_⟩
  .unfold qs;rw[To.out];have h:=gl.sA dN;exact h.zT fun i _ aE=>(dN.lt i aE).1
  .exact((Below.refl _ _).alloc (as2 _) _).grown r7 aD3 (fun k Z=>by simp[Value.ownBlock] at Z;omega)
end
section
def qU (c:aJ8):Bool:=(97<=c.toNat&&c.toNat<=122)||(48<=c.toNat&&c.toNat<=57)||c.toNat == 46||c.toNat == 45
def yQ (s:aJ2):Bool:=decide (1<=s.size)&&decide (s.size<=15)&&s.data.toList.all qU
def agX (s:aJ2) (pos:Nat) (h:pos < s.size) (ha: ¬(s[pos]'h).toNat < 128):128<=(Utf8.decode s pos).1/\(Utf8.decode s pos).1<=1114111:=by
 have e:s.get! (pos+0)=s[pos]'h:=by
  show s.get! pos=_;simp[ByteArray.get!,getElem!_pos,h];rfl
 have O:(s[pos]'h).toNat < 256:=(s[pos]'h).toNat_lt;unfold Utf8.decode;simp only[e];rw[mu aD1]
 split
 .split <;>simp[Utf8.runeError] <;>omega
 .split
  .split
   .rename_i G;simp[Utf8.valid] at G;simp only;omega
   .simp[Utf8.runeError]
  .split
   .split
    .rename_i G;simp[Utf8.valid] at G;simp only;omega
    .simp[Utf8.runeError]
   .simp[Utf8.runeError]
def agY {P:aH6} (w:aH5) (s:aJ2) (pos:Nat) (ty:aI0) (h:pos < s.size):
  (Instr.next (.pointer (some ⟨w.heap.size,0,none⟩)) true ty).run P (w.iter s pos)=
   .ok (.tuple #[.bool true,.int .i64 pos,.int .i32 (Utf8.decode s pos).1]) (w.iter s (pos+(Utf8.decode s pos).2)):=by
 simp only[Instr.next,getObj,setObj,aw5,Sem.run,World.iter_heap,Result.andThen,h,if_true];simp[goInt,World.iter_set]
def Tp {s:aJ2} {j:Nat} (V:j < s.size) (h:qU (s[j]'V)=false):yQ s=false:=by
 unfold yQ
 have:s.data.toList.all qU=false:=by
  rw[List.all_eq_false];exact⟨s[j]'V,av2 aF1,by simp[h]⟩
 rw[this,Bool.and_false]
def L9 (B:Nat) (w:aH5):Nat:=match w.heap[B]? with |some (.stringIter _ p)=>p |_=>0
def Tq (w:aH5) (s:aJ2) (k:Nat):L9 w.heap.size (w.iter s k)=k:=by simp[L9,World.iter_heap]
def Ma (w:aH5) (s:aJ2) (k:Nat):Below w.heap.size w (w.iter s k):=(Below.refl _ _).alloc (as2 _) _
def agZ {s:aJ2} {k:Nat} (h: ∀j (V:j < s.size),j < k->qU (s[j]'V)=true) (Z:k < s.size) (E:qU (s[k]'Z)=true): ∀j (V:j < s.size),j < k+1->qU (s[j]'V)=true:=by
 intro j V bv
 by_cases e:j=k
 .subst e;exact E
 .exact h j V aD1
def ag0 {s:aJ2} (h: ∀j (V:j < s.size),qU (s[j]'V)=true):yQ s=(decide (1<=s.size)&&decide (s.size<=15)):=by
 unfold yQ
 have:s.data.toList.all qU=true:=by
  rw[av3];intro x hx;obtain⟨j,V,rfl⟩:=ay5 hx;exact h j aF1
 rw[this,Bool.and_true]
def ag1 (s:aJ2) (w:aH5) (au:s.size<=maxLen):
  Calls prog 58 #[.string s] w fun e w'=>e= .returned (.bool (yQ s))/\Below w.heap.size w w':=by
 unfold maxLen at au
 go_enter func58,ntmps58
 go_wp2
 go_loopw [4,7,8,9,10,11,12,13,14,15,16,17,18,19,20,21,22,23,24,25,26,27,28,29,30,31] (fun _ _ _ _ _ _ _ _ _ _ _ _ _ _ _ _ _ _ _ _ _ _ _ _ _ _ wr=> ∃k:Nat,k<=s.size/\wr=w.iter s k/\ ∀j (V:j < s.size),j < k->qU (s[j]'V)=true) (fun _ _ _ _ _ _ _ _ _ _ _ _ _ _ _ _ _ _ _ _ _ _ _ _ _ _ wr=>s.size - L9 w.heap.size wr)
 case atStart=>exact⟨0,at2 _,rfl,fun _ _ h=>as3 h aD1⟩
 case round=>
  obtain⟨k,Z,rfl,dK⟩:=hrel;have Mb:=Lib.hid dK;clear dK
  by_cases bv:k < s.size
  .by_cases ha:(s[k]'bv).toNat < 128
   .have hn:=fun ty=>run_next_ascii (P:=prog) w s k ty bv ha
    go_wp2
    all_goals first
     |(
      refine⟨⟨k+1,bv,rfl,agZ Mb.out bv ?_⟩,?_⟩
      .clear hn;simp_all [qU];omega
      .rw[Tq,Tq];omega)
     |(
      go_ret
      refine⟨?_,Ma _ _ _⟩;rw[Tp bv (by clear hn;simp_all [qU];omega)];rfl)
   .obtain⟨hA,jd⟩:=agX s k bv ha;have hn:=fun ty=>agY (P:=prog) w s k ty bv
    generalize Utf8.decode s k=d at*;have b1:(((d.1:Nat):Int) != 46)=true:=by rw[bne_iff_ne];omega
    have b2:(((d.1:Nat):Int) != 45)=true:=by rw[bne_iff_ne];omega
    go_wp2
    go_ret
    exact⟨by rw[Tp bv (by clear hn;simp[qU];omega)];rfl,Ma _ _ _⟩
  .have hn:=fun ty=>run_next_end (P:=prog) w s k ty bv
   have eX:k=s.size:=aD9
   have ax:yQ s=(decide (1<=s.size)&&decide (s.size<=15)):=ag0 fun j V=>Mb.out j V aD1
   clear eX Mb;have ag2:=Lib.hid ax;clear ax
   go_wp2
   all_goals
    go_ret
    refine⟨?_,Ma _ _ _⟩;rw[ag2.out];refine as5 (fun b=>Ending.returned (.bool b)) ?_;rw[Bool.eq_iff_iff];simp;omega
end
section
def Fn.pure {P:aH6} {f:aI5} {args:List aS} {res:aS} (gf:jU P f=true)
  (h: ∀(ρ:Nat->bq) (I:Nat->Prop) (w:aH5) (bZ:aH4),(∀b,I b->b < w.heap.size)->bZ.length=args.length->(∀(i:Nat) (v:aS) (x:aI3),args[i]? =some v->bZ[i]? =some x->cA ρ I w v x)->
   Calls P f bZ.toArray w fun e w'=> ∃x,e= .returned x/\Below w.heap.size w w'/\ ∀I':Nat->Prop,cp I w I' w'->(∀b,w.heap.size<=b->b < w'.heap.size->I' b)->cA ρ I' w' res x):Fn P f args [] [] res []:=by
 refine⟨gf,?_⟩;intro ρ F I w bZ a1 _ _ _ bX dI;refine(h ρ I w bZ a1 bX dI).mono ?_;rintro e w' ⟨x,rfl,O,hx⟩;have a2:cp I w (fun b=>b < w'.heap.size/\(I b\/w.heap.size<=b)) w':=fun b f4=>⟨⟨au2 (a1 b f4) O.size,.inl f4⟩,O.block b (a1 b f4)⟩
 exact⟨x,ρ,F,rfl,cZ.pP O,fun _ _=>rfl,_,a2,fun b h=>⟨h.1,h.2.imp id .inr⟩,fun c ch J=>(by simp[aj] at J),fun c ch J=>(by simp[aj] at J),fun c ca ch ch' b J=>(by simp[aj] at J),hx _ a2 fun b E G=>⟨G,.inr E⟩⟩
def Tr {P:aH6} {f:aI5} {s:aS} {res:aS} (gf:jU P f=true)
  (h: ∀(ρ:Nat->bq) (I:Nat->Prop) (w:aH5) (v:aI3),(∀b,I b->b < w.heap.size)->cA ρ I w s v->
   Calls P f #[v] w fun e w'=> ∃x,e= .returned x/\Below w.heap.size w w'/\ ∀I':Nat->Prop,cp I w I' w'->(∀b,w.heap.size<=b->b < w'.heap.size->I' b)->cA ρ I' w' res x):Fn P f [s] [] [] res []:=
 Fn.pure gf fun ρ I w bZ a1 ak H=>by
  match bZ,ak with
  | [v],_=>exact h ρ I w v a1 (H 0 s v rfl rfl)
def cw.bytes {I:Nat->Prop} {w:aH5} {v:aI3} {l:aG9} (a1: ∀b,I b->b < w.heap.size) (h:cw I w (.cc .u8) l (fun _=>some v)):qs I w v l:=by
 obtain⟨A,cap,aw,E,G,ah⟩:=h;injection aw with aw
 refine⟨aD3,A,cap,aw,E,G,fun ae=>?_⟩;obtain⟨b,o,dX,O,hx⟩:=ah ae;refine⟨b,o,dX,O,a1 b O,fun j u a6=>?_⟩;rw[au8] at a6;obtain⟨x,CA,rfl⟩:=aw3.1 a6;have:=hx j x CA;simpa[cw,aR,ir] using this
def qs.ag3 {I D:Nat->Prop} {w:aH5} {v:aI3} {l:aG9} (h:qs D w v l) (ce: ∀b,b < w.heap.size->D b->I b):cw I w (.cc .u8) l (fun _=>some v):=by obtain⟨_,A,cap,aw,E,G,ah⟩:=h;refine⟨A,cap,as5 some aw,E,G,fun ae=>?_⟩;obtain⟨b,o,dX,O,bv,hx⟩:=ah ae;refine⟨b,o,dX,ce b bv O,fun i x aE=>?_⟩;have:=hx i (ir x) (by rw[au8,show l[i]? =some x from aE];rfl);simpa[cw,aR,ir] using this
def hg (s:aG9):Bool:=decide (1<=s.length)&&decide (s.length<=15)&&s.all qU
def qV (s:aG9) (au:s.length<=4294967296):Fn prog 58 [bW s] [] [] (fX (hg s)) []:=
 Tr aD4 fun ρ I w v a1 az=>by
  rw[show v= .string ⟨s.toArray⟩ from az];refine(ag1 ⟨s.toArray⟩ w (by simp only[ByteArray.size,maxLen,List.size_toArray];omega)).mono ?_;rintro e w' ⟨rfl,O⟩;exact⟨_,rfl,O,fun I' _ _=>show Value.bool _=Value.bool _ by simp[yQ,hg,ByteArray.size]⟩
def Mc (l:aG9) (au:l.length<=4294967296):Fn prog 169 [bP .u8 l] [] [] (bP .u8 l) []:=
 Tr aD4 fun ρ I w v a1 az=>by
  refine(agV v l I w (cw.bytes a1 az) au).mono ?_;rintro e w' ⟨x,rfl,hx,O⟩;exact⟨x,rfl,O,fun I' _ hn=>hx.ag3 fun b E G=>hn b G E⟩
end
section
def f1.Bd {I:Nat->Prop} {w:aH5} {L L':List (Nat×bg)} (h:L.Perm L'): ∀{F:Nat->Prop},f1 I w L F->f1 I w L' F:=by
 induction h with
 |nil=>exact fun h=>h
 |cons x h bn=>
  rintro F ⟨cL,cU,p,E,G,ah,aW,bM⟩;exact⟨cL,cU,p,E,G,ah,aW,bn bM⟩
 |swap x y l=>
  rintro F ⟨cL,cU,p,E,G,ah,aW,rJ,ua,r,g1,g2,cK,jW,CY⟩;refine⟨rJ,fun aB=>cL aB\/ua aB,r,fun aB=>by rw[E,g1];exact LN,fun aB aN aC=>?_,cK,jW,cL,ua,p,fun aB=>Iff.rfl,fun aB aN aC=>G aB aN ((g1 aB).2 (.inr aC)),ah,aW,CY⟩;rcases aC with aC |aC
  .exact G aB aC ((g1 aB).2 (.inl aN))
  .exact g2 aB aN aC
 |trans _ _ o5 o6=>exact fun h=>o6 (o5 h)
def ac.Bd {ids:aH0} {K:aZ} {B:aA} (q:Nat) {L L':List (Nat×bg)} (ae:L.Perm L') (aQ:aj B q=some (.aH (.bA L))):ac ids K B K ((q,.aH (.bA L'))::B):=by
 rintro N C a w ⟨hn,H,ρ,F,al,av⟩;obtain⟨bC,a2⟩:=al.h8 (w':=w) (ch:=.aH (.bA L')) aQ (cZ.refl _ _) fun I a1=>((al.holds q _ aQ:f1 _ w L (F q)).Bd ae).cr a1 (as2 _) fun _ _=>rfl
 exact⟨hn,H,ρ,F,bC,av.mono a2 fun _ _ _=>rfl⟩
def ag4 {s:bL}:(jr s).pn:=by rintro I F w p ⟨ρ,cj,E,G,ah,aW⟩;obtain⟨bj,_⟩:=G 1001 _ rfl;exact(aW _).2 ⟨1001,_,rfl,(bj _).2 (by rw[E])⟩
def Md (L:aH2):Prop:= ∀d,d∈L->d.cX=none
def ag5 {d:aL} (h:d.cX=none):k' d=jr d.im:=by unfold k';rw[h]
def ag6 (L:aH2) (cO:Md L): ∀p∈iz L,p.2.pn:=fun p ae=>by
 obtain⟨d,H,rfl⟩:=av0.1 ae;show(k' d).pn;rw[ag5 (cO d H)];exact ag4
def ag7 (L:aH2): ∀p∈mD L,p.2.pn:=fun p ae=>by
 obtain⟨d,_,rfl⟩:=av0.1 ae;exact fun I F w p h=>(h.1 _).2 rfl
def DJ (z size R:Nat) (E:z<=3) (G:size<=256) (ah:R<=512):Fn prog 57 [ab (z:Int),ab (size:Int),ab (R:Int)] [] [1001] (.cn [.one (.ptr 1001 0),dJ 0]) [(1001,.aH (jr (gC z size R)))]:=by
 refine aY [3] func57 ?_;refine ar (Fn.aX [(1001,1002),(1002,2002)] (Li size G)) <| ar (Fn.aX [(1001,1003),(1002,2003)] (Gx (R:Int) aD1 aD1)) <| bz [] (cM [(0,ab (z:Int)),(8,ap 1002),(9,ab 0),(10,ap 1003),(11,ab 0)] [(1002,.aH (rT (List.replicate size ck))),(1003,.aH (rU (List.replicate R (0:Int))))]) <| dE <| dE ⟨fun h=>?_,fun h=>?_⟩
 .exfalso;have h:(z:Int) < 0:=gd h;omega
 refine⟨fun h=>?_,fun h=>?_⟩
 .exfalso;have h:(3:Int) < (z:Int):=gd h;omega
 exact⟨rfl,rfl,_,_,_,ac.trans (ac.trans (ac.aX 41 1001 rfl) (ac.trans (ac.aX 39 1004 rfl) (ac.Sp 1004 rfl))) (ac.close 1001 (dM (gC z size R)) aD rfl fun _ _ _ _ h=>h),rfl,aD,aD,rfl⟩
abbrev Be (nm:aG9) (x:aa .aM):aa .str×aa .aM:=((nm:aa .str),x)
def Ts (nm:aG9) (x:aa .aM): ∀L:List aL,dk L nm=none->dx (aI:=.str) (aK:=.aM) (df L) (nm:aa .str) x=(df L++[Be nm x]:List (aa .str×aa .aM))
 | [],_=>rfl
 |d::L,h=>by
  rw[uq] at h
  by_cases e:d.nm=nm
  .rw[vj e] at h;cases h
  .rw[mu e] at h;have bn:=Ts nm x L h;show dx (aI:=.str) (aK:=.aM) (mc d::df L) (nm:aa .str) x=_;rw[show dx (aI:=.str) (aK:=.aM) (mc d::df L) (nm:aa .str) x=(match fT .str (nm:aa .str) (mc d).1 with |true=>Be nm x::df L |false=>mc d::dx (aI:=.str) (aK:=.aM) (df L) (nm:aa .str) x:List (aa .str×aa .aM)) from rfl];rw[show fT .str (nm:aa .str) (mc d).1=false from rP (aI:=.str) qL (fun h=>e h.symm)];simp only;rw[bn];rfl
abbrev lc (L:aH2) (nm back:aG9) (ad am:Nat) (im:bL):List aL:=L++[⟨nm,back,ad,am,im,none⟩]
def i3.add {L:aH2} (h:i3 L) {nm back:aG9} {ad am:Nat} {im:bL} (aw:dk L nm=none) (ha:ad∉L.map (·.ad)) (ay:am∉L.map (·.am)):i3 (lc L nm back ad am im):=by
 have key: ∀{α:Type} (f:aL->α) (d:aL),(L.map f).Nodup->f d∉L.map f->((L++[d]).map f).Nodup:=fun f d E G=>by
  rw[aw2];refine List.nodup_append.2 ⟨E,aD3,fun a ha b O e=>?_⟩;rw[au1,aC3,at7] at O;exact G (by rw[<-O,<-e];exact ha)
 refine⟨key _ _ h.ji fun hx=>?_,key _ _ h.mE ha,key _ _ h.yK ay⟩;obtain⟨d,H,e⟩:=av0.1 hx;have:=List.find?_eq_none.1 aw d H;exact this (by simpa using e)
abbrev DK (nm back:aG9):aZ:=[(0,ap 1001),(1,bW nm),(3,bW back),(9,ap 2001),(10,ab 0)]
abbrev DL (z R:Int) (L:aH2) (im:bL):aA:=bT z R L++[(2001,.aH (jr im))]
def ag8 (L:aH2) (nm back:aG9) (ad am:Nat) (im:bL):df (lc L nm back ad am im)=(df L++[Be nm (some ad:aI1)]:List (aa .str×aa .aM)):=by
 induction L with
 |nil=>rfl
 |cons d L bn=>
  show mc d::df (lc L nm back ad am im)=mc d::(df L++[Be nm (some ad:aI1)]);rw[bn]
abbrev ag9 (L:aH2) (nm back:aG9) (am:Nat) (im:bL):List aL:=⟨nm,back,0,am,im,none⟩::L
def Tt {f:aL->Nat×bg} (L:aH2) (d:aL):(f d::L.map f).Perm ((L++[d]).map f):=by rw[aw2];exact List.perm_append_comm (l₁:=[f d]) (l₂:=L.map f)
abbrev ag' (nm back:aG9) (am:Nat):aZ:=[(0,ap 1001),(1,bW nm),(3,bW back),(9,dy am)]
abbrev aha (z R:Int) (L:aH2) (am:Nat) (im:bL):aA:=[(1001,.cells (LQ z R)),(1002,.map .str .aM (df L)),(1003,.aH (.bA (mD L))),(1004,.aH (.bA ((am,jr im)::iz L)))]
def ahb (z size R:Nat) (E:z<=3) (G:size<=256) (ah:R<=512) (L:aH2) (e5:i3 L) (bl:Md L) (nm back:aG9) (ak:nm.length<=4294967296) (ax:hg nm=true) (aw:dk L nm=none) (oJ:L.length < 16) (k:Nat) (O:back=[]\/(dk L back).isSome=true/\eu L back k/\k+1<=8):
  cC prog 27 [ap 1001,bW nm,ab (size:Int),bW back] (bT z R L) [] (X:={p:Nat×Nat//i3 (lc L nm back p.1 p.2 (gC z size R))}) (fun _=>ab 0) (fun p=>bT z R (lc L nm back p.1.1 p.1.2 (gC z size R))):=by
 have hx:(b0 (aI:=.str) (aK:=.aM) (df L) nm).getD (cR .aM)=none:=aG3
 have bX:(df L).length=L.length:=at8 ..;have hE:=A6 z R L back
 have Tu:(decide (back=[])||(dk L back).isSome)=true:=by
  rcases O with O |⟨O,_⟩
  .rw[at4 O];rfl
  .rw[O,Bool.or_true]
 rw[Tu] at hE;have mv:=DJ z size R E G ah;refine hZ [2,10] func27 ?_;refine ar (Fn.aX [(1001,2001)] mv) ⟨rfl,bz [10] (cM (DK nm back) (DL z R L (gC z size R))) <| ar (qV _ ak) ⟨fun af=>?_,fun af=>?_⟩⟩
 .rw[ax] at af;cases af
 refine⟨fun ao=>?_,fun ao=>?_⟩
 .exact as3 ao aD2
 refine⟨fun ej bo=>?_,fun bo=>?_⟩
 .exfalso;have:(b0 (aI:=.str) (aK:=.aM) (df L) nm).getD (cR .aM)=some ej:=bo;rw[hx] at this
  cases this
 refine⟨fun c7=>?_,fun c7=>?_⟩
 .exfalso;have c7:(16:Int)<=((df L).length:Int):=gd c7;omega
 refine ar hE ⟨fun fY=>as3 fY aD2,fun _=>⟨fun ia=>?_,fun ia=>?_⟩⟩
 focus
  have ia: ¬back=[]:=by simpa using ia
  obtain⟨_,Z,nq⟩:=O.resolve_left ia;have gb:=A9 z R L e5 back k Z aD1;have yR:=p6 Z;generalize dc L k back=bs at gb yR;refine ar gb ?_;have m1: -9223372036854775808<=(bs.length:Int)+1/\(bs.length:Int)+1<=9223372036854775807:=aD9
  refine⟨m1,fun px=>?_,fun _=>?_⟩
  .exfalso;have px:(8:Int) < (bs.length:Int)+1:=gd px;omega
 all_goals
  refine bw.ff (dv.name 9 2001 rfl rfl) fun am=>bw.le (K':=ag' nm back am) (B':=aha z R L am (gC z size R)) (ac.trans (ac.put 1004 2001 aD2 rfl rfl) (ac.sub aD aD)) <| bw.ff (dv.C8 1004 (L:=(am,jr (gC z size R))::iz L) (ag6 (ag9 L nm back am (gC z size R)) (fun d H=>(as8.1 H).elim (fun e=>by rw[e]) (bl d))) rfl) fun dD=>bw.iJ fa aD4 ⟨rfl,_,afU (c:=1002) (d:=72) (q:=1003) (aI:=.str) (l:=G6 am back) (h:=fun _=>rfl) rfl underlying115 (dk:=.string) aD4 rfl rfl rfl rfl rfl rfl rfl aD2 aD2 aD2 (ag7 L),fun v e az=>?_⟩
  obtain⟨ad,GZ,rfl,rfl⟩:=az;have Me:ad∉L.map (·.ad):=fun h=>GZ (by unfold mD;rw[aw7];exact h)
  have ahc:am∉L.map (·.am):=fun h=>(av5.1 dD.down).1 (by show am∈(iz L).map (·.1);unfold iz;rw[aw7];exact h)
  have py:dx (aI:=.str) (aK:=.aM) (df L) (nm:aa .str) (some ad:aI1)=df (lc L nm back ad am (gC z size R)):=(Ts nm _ L aw).trans (ag8 L nm back ad am (gC z size R)).symm;exact⟨⟨(ad,am),e5.add aw Me ahc⟩,_,_,_,ac.trans (ac.Bd 1003 (Tt (f:=fun d=>(d.ad,uo d.am d.back)) L ⟨nm,back,ad,am,gC z size R,none⟩) rfl) (ac.Bd 1004 (Tt (f:=fun d=>(d.am,k' d)) L ⟨nm,back,ad,am,gC z size R,none⟩) rfl),rfl,rfl,⟨rfl,as5 (fun e=>some (ba.map .str .aM e)) py,rfl,rfl,trivial⟩,rfl⟩
def ahd (z R:Int) (size:Int) (L:aH2) (nm back:aG9) (ak:nm.length<=4294967296) (h:(hg nm&&kN z size R)=false):Fn prog 27 [ap 1001,bW nm,ab size,bW back] (bT z R L) [] (ab 1) (bT z R L):=by
 rcases Bool.eq_false_or_eq_true (kN z size R) with G |G
 .have ax:hg nm=false:=by rw[G,Bool.and_true] at h;exact h
  unfold kN at G;simp only[as1,av6] at G;obtain⟨⟨⟨b4,cf⟩,a3,a4⟩,a5,gR⟩:=G;obtain⟨b,rfl⟩:=aA8 a5;obtain⟨aB,rfl⟩:=aA8 b4;obtain⟨r,rfl⟩:=aA8 a3;have mv:=DJ b aB r aD1 aD1 aD1;refine aY [2] func27 ?_;refine ar (Fn.aX [(1001,2001)] mv) ⟨rfl,bz [] (cM (DK nm back) (DL b r L (gC b aB r))) <| ar (qV _ ak) ⟨fun af=>?_,fun af=>?_⟩⟩
  .exact bh
  .rw[ax] at af;cases af
 .have mv:=SN z size R G;refine aY [2] func27 ?_;refine ar mv ⟨rfl,bz [] (cM [(0,ap 1001),(1,bW nm),(3,bW back),(10,ab 1)] (bT z R L)) <| ar (qV _ ak) ⟨fun af=>?_,fun af=>?_⟩⟩
  .exact bh
  refine⟨fun ao=>?_,fun ao=>?_⟩
  .exact bh
  .exact as3 ao aD2
def ahe (z size R:Nat) (E:z<=3) (G:size<=256) (ah:R<=512) (L:aH2) (nm back:aG9) (ak:nm.length<=4294967296) (ax:hg nm=true) (aw:(dk L nm).isSome=true\/16<=L.length):
  Fn prog 27 [ap 1001,bW nm,ab (size:Int),bW back] (bT z R L) [] (ab 143) (bT z R L):=by
 have hx:(b0 (aI:=.str) (aK:=.aM) (df L) nm).getD (cR .aM)=((dk L nm).map (·.ad):Option Nat):=kx nm L;have bX:(df L).length=L.length:=at8 ..;have mv:=DJ z size R E G ah;refine aY [2] func27 ?_;refine ar (Fn.aX [(1001,2001)] mv) ⟨rfl,bz [] (cM (DK nm back) (DL z R L (gC z size R))) <| ar (qV _ ak) ⟨fun af=>?_,fun af=>?_⟩⟩
 .rw[ax] at af;cases af
 refine⟨fun ao=>?_,fun ao=>?_⟩
 .exact as3 ao aD2
 refine⟨fun ej bo=>?_,fun bo=>?_⟩
 .exact bh
 refine⟨fun c7=>?_,fun c7=>?_⟩
 .exact bh
 .exfalso;have c7: ¬(16:Int)<=((df L).length:Int):=oj c7;have bo:(b0 (aI:=.str) (aK:=.aM) (df L) nm).getD (cR .aM)=none:=bo;rw[hx] at bo;rcases aw with aw |aw
  .obtain⟨d,H⟩:=av9.1 aw;rw[H] at bo
   cases bo
  .omega
def ahf (z size R:Nat) (E:z<=3) (G:size<=256) (ah:R<=512) (L:aH2) (nm back:aG9) (ak:nm.length<=4294967296) (ax:hg nm=true) (aw:dk L nm=none) (oJ:L.length < 16) (O:(decide (back=[])||(dk L back).isSome)=false):
  Fn prog 27 [ap 1001,bW nm,ab (size:Int),bW back] (bT z R L) [] (ab 140) (bT z R L):=by
 have hx:(b0 (aI:=.str) (aK:=.aM) (df L) nm).getD (cR .aM)=none:=aG3
 have bX:(df L).length=L.length:=at8 ..;have hE:=A6 z R L back;rw[O] at hE;have mv:=DJ z size R E G ah;refine aY [2] func27 ?_;refine ar (Fn.aX [(1001,2001)] mv) ⟨rfl,bz [] (cM (DK nm back) (DL z R L (gC z size R))) <| ar (qV _ ak) ⟨fun af=>?_,fun af=>?_⟩⟩
 .rw[ax] at af;cases af
 refine⟨fun ao=>?_,fun ao=>?_⟩
 .exact as3 ao aD2
 refine⟨fun ej bo=>?_,fun bo=>?_⟩
 .exfalso;have:(b0 (aI:=.str) (aK:=.aM) (df L) nm).getD (cR .aM)=some ej:=bo;rw[hx] at this
  cases this
 refine⟨fun c7=>?_,fun c7=>?_⟩
 .exfalso;have c7:(16:Int)<=((df L).length:Int):=gd c7;omega
 exact ar hE ⟨fun _=>bh,fun fY=>as3 fY aD2⟩
def ahg (z size R:Nat) (E:z<=3) (G:size<=256) (ah:R<=512) (L:aH2) (e5:i3 L) (nm back:aG9) (ak:nm.length<=4294967296) (ax:hg nm=true) (aw:dk L nm=none) (oJ:L.length < 16) (ut:back≠[]) (O:(dk L back).isSome=true) (k:Nat) (Z:eu L back k) (he:k<=1000000) (nq:8 < k+1):
  Fn prog 27 [ap 1001,bW nm,ab (size:Int),bW back] (bT z R L) [] (ab 142) (bT z R L):=by
 have hx:(b0 (aI:=.str) (aK:=.aM) (df L) nm).getD (cR .aM)=none:=aG3
 have bX:(df L).length=L.length:=at8 ..;have hE:=A6 z R L back;rw[O,Bool.or_true] at hE;have mv:=DJ z size R E G ah;refine aY [2] func27 ?_;refine ar (Fn.aX [(1001,2001)] mv) ⟨rfl,bz [] (cM (DK nm back) (DL z R L (gC z size R))) <| ar (qV _ ak) ⟨fun af=>?_,fun af=>?_⟩⟩
 .rw[ax] at af;cases af
 refine⟨fun ao=>?_,fun ao=>?_⟩
 .exact as3 ao aD2
 refine⟨fun ej bo=>?_,fun bo=>?_⟩
 .exfalso;have:(b0 (aI:=.str) (aK:=.aM) (df L) nm).getD (cR .aM)=some ej:=bo;rw[hx] at this
  cases this
 refine⟨fun c7=>?_,fun c7=>?_⟩
 .exfalso;have c7:(16:Int)<=((df L).length:Int):=gd c7;omega
 refine ar hE ⟨fun fY=>as3 fY aD2,fun _=>⟨fun ia=>?_,fun ia=>as3 (by simpa using ia) ut⟩⟩;have gb:=A9 z R L e5 back k Z he;have yR:=p6 Z;generalize dc L k back=bs at gb yR;refine ar gb ?_;have m1: -9223372036854775808<=(bs.length:Int)+1/\(bs.length:Int)+1<=9223372036854775807:=aD9
 refine⟨m1,fun _=>?_,fun px=>?_⟩
 .exact bh
 .exfalso;have px: ¬(8:Int) < (bs.length:Int)+1:=oj px;omega
def yS (l:aJ0) (v:aG9):Int:=match l.idxOf? v with
 |some i=>(i:Nat)
 |none=> -1
def ahh (l:aJ0) (v:aG9) (ak:l.length<=4294967296):Fn prog 118 [bP .str l,bW v] [] [] (ab (yS l v)) []:=by
 refine aY [] func118 ?_;refine d1 [] (X:=Nat) (fun k=>[(0,bP .str l),(1,bW v),(7,ab (l.length:Nat)),(8,ab (k:Nat))]) (fun _=>[]) (fun k=>k<=l.length/\ ∀(i:Nat),i < k->l[i]? ≠some v) (fun k=>l.length - k) 0 ⟨at2 _,fun i h=>as3 h (aB8 _)⟩ ?_ ?_
 .exact ac.sub aD trivial
 intro k ⟨Z,ae⟩;refine⟨fun h=>?_,fun h=>?_⟩
 .have cu:k < l.length:=by
   have h:decide ((k:Int) < (l.length:Int))=true:=h;simpa using h
  refine⟨aD1,l[k],j4 (n:=k) cu,fun G=>?_,fun G=>?_⟩
  .have G:v=l[k]:=gd G;refine⟨_,_,_,bt,rfl,(show((k:Nat):Int)=yS l v from ?_),trivial,rfl⟩
   have:l.idxOf? v=some k:=by
    rw[List.idxOf?_eq_some_iff];refine⟨cu,by simp[G],fun j V=>?_⟩;have:=ae j V;rw[as0 aD1] at this;simpa using this
   rw[yS,this]
  .have G: ¬v=l[k]:=oj G;have m1: -9223372036854775808<=(k:Int)+1/\(k:Int)+1<=9223372036854775807:=aD9
   have m2:k+1<=l.length:=aD9
   have m3:l.length - (k+1) < l.length - k:=aD9
   refine⟨m1,k+1,⟨m2,fun i aE=>?_⟩,m3,ac.sub aD trivial⟩;rcases aA6 i k with aW |aW
   .exact ae i aW
   .have:i=k:=aD9
    subst this;rw[as0 cu];intro e;injection e with e
    exact G e.symm
 .have h:decide ((k:Int) < (l.length:Int))=false:=h;have eX:k=l.length:=aG1
  refine⟨_,_,_,bt,rfl,(show(-1:Int)=yS l v from ?_),trivial,rfl⟩
  have:l.idxOf? v=none:=by
   rw[List.idxOf?_eq_none_iff];intro ay;obtain⟨i,aE,e⟩:=ay5 ay;have:=ae i aD1;rw[as0 aE] at this;exact this (by rw[e])
  rw[yS,this]
def Mf (l:aJ0) (v:aG9) (ak:l.length<=4294967296):Fn prog 74 [bP .str l,bW v] [] [] (fX (l.contains v)) []:=by
 refine aY [] func74 ?_;refine ar (ahh l v ak) ⟨_,_,_,bt,rfl,(show decide (0<=yS l v)=l.contains v from ?_),trivial,rfl⟩;unfold yS
 cases h:l.idxOf? v with
 |none=>
  rw[List.idxOf?_eq_none_iff] at h;simp[h]
 |some i=>
  obtain⟨aE,e,_⟩:=List.idxOf?_eq_some_iff.1 h
  have:v∈l:=by
   have:=av2 aE
   rwa[show l[i]=v by simpa using e] at this
  simp[this]
def ahi (z R:Int) (L:aH2) (nm back:aG9) (h:(dk L nm).isSome=false\/(decide (back=[])||(dk L back).isSome)=false):Fn prog 303 [ap 1001,bW nm,bW back] (bT z R L) [] (ab 140) (bT z R L):=by
 have hE:=A6 z R L back;refine aY [] func303 ?_;refine⟨fun ej bo=>?_,fun bo=>?_⟩
 .obtain⟨d,H,_⟩:=af6 bo;have O:(decide (back=[])||(dk L back).isSome)=false:=h.resolve_left (by rw[H];intro h;cases h);rw[O] at hE;exact ar hE ⟨fun _=>bh,fun fY=>as3 fY aD2⟩
 .exact bh
def ahj (z R:Int) (L:aH2) (e5:i3 L) (nm back:aG9) (d:aL) (H:dk L nm=some d) (Z:(decide (back=[])||(dk L back).isSome)=true) (k:Nat) (ce:eu L back k) (he:k<=1000000) (h:nm=back\/nm∈dc L k back):Fn prog 303 [ap 1001,bW nm,bW back] (bT z R L) [] (ab 141) (bT z R L):=by
 have hE:=A6 z R L back;rw[Z] at hE;have hx:(b0 (aI:=.str) (aK:=.aM) (df L) nm).getD (cR .aM)=some d.ad:=by rw[kx,H];rfl
 have gb:=A9 z R L e5 back k ce he;have yR:=p6 ce;generalize dc L k back=bs at gb yR h;have kq:=Mf bs nm aD1;refine aY [] func303 ?_;refine⟨fun ej bo=>ar hE ⟨fun fY=>as3 fY aD2,fun _=>⟨fun ia=>?_,fun ia=>?_⟩⟩,fun O=>as3 (show(b0 (aI:=.str) (aK:=.aM) (df L) nm).getD (cR .aM)=none from O) aE9⟩
 .exact bh
 .have ia: ¬nm=back:=oj ia;have ay:bs.contains nm=true:=by simpa using h.resolve_left ia
  rw[ay] at kq;exact ar gb <| ar kq ⟨fun _=>bh,fun fY=>as3 fY aD2⟩
def e2 (nm back:aG9) (d:aL):aL:=if d.nm=nm then {d with back:=back} else d
def eg (L:aH2) (nm back:aG9):List aL:=L.map (e2 nm back)
def yT (nm back:aG9) (d:aL):(e2 nm back d).nm=d.nm:=by unfold e2;split <;>rfl
def Hg (nm back:aG9) (d:aL):(e2 nm back d).ad=d.ad:=by unfold e2;split <;>rfl
def Hh (nm back:aG9) (d:aL):(e2 nm back d).am=d.am:=by unfold e2;split <;>rfl
def DM (nm back:aG9) (d:aL):(e2 nm back d).im=d.im:=by unfold e2;split <;>rfl
def Tv (nm back:aG9) (d:aL):(e2 nm back d).cX=d.cX:=by unfold e2;split <;>rfl
def ahk (L:aH2) (nm back:aG9):df (eg L nm back)=df L:=by
 unfold df eg;rw[aw7];refine av1 fun d _=>?_
 show mc (e2 nm back d)=mc d;unfold mc;rw[yT,Hg]
def ahl (L:aH2) (nm back:aG9):iz (eg L nm back)=iz L:=by
 unfold iz eg;rw[aw7];refine av1 fun d _=>?_
 show((e2 nm back d).am,k' (e2 nm back d))=_;unfold k';rw[Hh,DM,Tv]
def i3.eg {L:aH2} (h:i3 L) (nm back:aG9):i3 (eg L nm back):=by
 have key: ∀{α:Type} (f:aL->α),(∀d,f (e2 nm back d)=f d)->(Go.Proofs.YtkfbeijmgggkmaaGreat.eg L nm back).map f=L.map f:=fun f hf=>by
  unfold Go.Proofs.YtkfbeijmgggkmaaGreat.eg;rw[aw7];exact av1 fun d _=>hf d
 exact⟨by rw[key _ (yT nm back)];exact h.ji,by rw[key _ (Hg nm back)];exact h.mE,by rw[key _ (Hh nm back)];exact h.yK⟩
def Mg {L:aH2} {nm:aG9} (back:aG9) (h:nm∉L.map (·.nm)):eg L nm back=L:=by unfold eg;refine(av1 fun d H=>?_).trans (List.map_id' L);unfold e2;rw[mu fun e=>h (by rw[<-e];exact au0 H)]
def Mh {back:aG9} {nm:aG9}: ∀{L:aH2},(L.map (·.nm)).Nodup->(L.map (·.ad)).Nodup-> ∀{d:aL},dk L nm=some d->fl (mD L) d.ad (uo d.am back)=mD (eg L nm back)
 | [],_,_,d,h=>by cases h
 |e::L,hn,ha,d,h=>by
  rw[au1] at hn ha;obtain⟨c0,d5⟩:=av5.1 hn;obtain⟨b4,cf⟩:=av5.1 ha;rw[uq] at h;show fl ((e.ad,uo e.am e.back)::mD L) d.ad (uo d.am back)=mD (e2 nm back e::eg L nm back);unfold fl
  by_cases c:e.nm=nm
  .rw[vj c] at h;injection h with h
   subst h;rw[vj rfl,Mg back (by rw[<-c];exact c0)];unfold e2;rw[vj c];rfl
  .rw[mu c] at h;have a8: ¬e.ad=d.ad:=fun x=>b4 (by rw[x];exact au0 (f:=fun d:aL=>d.ad) (cY h).1)
   rw[mu a8,Mh d5 cf h];unfold e2;rw[mu c];rfl
def mJ (nm back n:aG9): ∀L:List aL,dk (eg L nm back) n=(dk L n).map (e2 nm back)
 | []=>rfl
 |d::L=>by
  show dk (e2 nm back d::eg L nm back) n=_;rw[uq,uq,yT,mJ nm back n L]
  split <;>rfl
def ahm {L:aH2} (hn:(L.map (·.nm)).Nodup) {nm back:aG9} {d:aL} (h:dk L nm=some d):eg (eg L nm back) nm d.back=L:=by
 induction L with
 |nil=>cases h
 |cons e L bn=>
  rw[au1] at hn;obtain⟨c0,d5⟩:=av5.1 hn;rw[uq] at h;show e2 nm d.back (e2 nm back e)::eg (eg L nm back) nm d.back=e::L
  by_cases c:e.nm=nm
  .rw[vj c] at h;injection h with h
   subst h;have cO:nm∉L.map (·.nm):=by rw[<-c];exact c0
   rw[Mg back cO,Mg _ cO]
   congr 1
   unfold e2;rw[vj c,vj c]
  .rw[mu c] at h;rw[bn d5 h]
   congr 1
   unfold e2;rw[mu c,mu c]
abbrev ahn (nm back rr:aG9) (ad:Nat):aZ:=[(0,ap 1001),(1,bW nm),(2,bW back),(7,dy ad),(8,bW rr)]
abbrev aho (rr:aG9) (ad:Nat) (l:aJ0) (j:Nat):aZ:=[(0,ap 1001),(7,dy ad),(8,bW rr),(46,bP .str l),(47,ab (l.length:Nat)),(48,ab (j:Nat))]
def Tw {I:Nat->Prop} {w:aH5} {s:aG9} {aB:aI3} (h:gY I w (.str s) aB):aB.cells=List.toArray [aB]/\aB.oneCell'=true:=by have h:aB= .string ⟨s.toArray⟩:=h;subst h;exact⟨rfl,rfl⟩
def ahp (z R:Int) (L:aH2) (e5:i3 L) (ak: ∀d,d∈L->d.nm.length<=100000) (oJ:L.length<=100) (nm back:aG9) (d:aL) (H:dk L nm=some d) (Z:(decide (back=[])||(dk L back).isSome)=true) (k:Nat) (ce:eu L back k) (he:k<=1000000) (h: ¬(nm=back\/nm∈dc L k back))
  (Bf:aG9->Nat) (ahq: ∀n∈mH L,eu (eg L nm back) n (Bf n)/\Bf n<=1000000) (r:Int) (Hi:aH2) (bx:(∀n∈mH L,Bf n<=8)->r=0/\Hi=eg L nm back) (gg:(∃n∈mH L,8 < Bf n)->r=142/\Hi=L):
  Fn prog 303 [ap 1001,bW nm,bW back] (bT z R L) [] (ab r) (bT z R Hi):=by
 obtain⟨pt,gD,gE⟩:=kL G7;have hE:=A6 z R L back;rw[Z] at hE;have hx:(b0 (aI:=.str) (aK:=.aM) (df L) nm).getD (cR .aM)=some d.ad:=by rw[kx,H];rfl
 have gb:=A9 z R L e5 back k ce he;have yR:=p6 ce;generalize dc L k back=bs at gb yR h;have kq:=Mf bs nm aD1
 have t6:bs.contains nm=false:=by
  have:=fun e=>h (.inr e)
  simpa using this
 rw[t6] at kq;have md:=e5.D (cY H).1;have DN:=e5.eg nm back;have lv:dk (eg L nm back) nm=some (e2 nm back d):=by rw[mJ,H];rfl
 have Tx:=DN.D (cY lv).1;rw[Hg,Hh,show(e2 nm back d).back=back by unfold e2;rw[vj (cY H).2]] at Tx;have py:=ahk L nm back;have xg:=ahl L nm back;have s8:fl (mD L) d.ad (uo d.am back)=mD (eg L nm back):=Mh e5.ji e5.mE H
 have ahr:fl (mD (eg L nm back)) d.ad (uo d.am d.back)=mD L:=by
  have:=Mh (back:=d.back) DN.ji DN.mE lv;rw[Hg,Hh,ahm e5.ji H] at this;exact this
 have AK:=Tm z R (eg L nm back) DN (fun x hx=>by
  obtain⟨y,aC,rfl⟩:=av0.1 hx;rw[yT];exact ak y aC) (by unfold eg;rw[at8];exact oJ)
 have kP:mH (eg L nm back)=mH L:=by unfold mH;rw[py]
 rw[kP] at AK;have bX:=Tl L;generalize mH L=l at*;refine aY [6,8,12] func303 ?_;refine⟨fun ej bo=>ar hE ⟨fun fY=>as3 fY aD2,fun _=>⟨fun ia=>?_,fun ia=>?_⟩⟩,fun O=>as3 (show(b0 (aI:=.str) (aK:=.aM) (df L) nm).getD (cR .aM)=none from O) aE9⟩
 .exact as3 (.inl (gd ia)) h
 refine ar gb <| ar kq ⟨fun fY=>as3 fY aD2,fun _=>bz [8,12] (bt) <| bc (fun N=>ju (b:=d.ad) rfl aF8 N) ?_⟩;refine bc (fun N=>jN rfl underlying122 rfl rfl gD aE4 rfl N) ?_;refine bc (lR (q:=1003) rfl underlying9 rfl rfl rfl md rfl) ?_;refine bc (fun N=>ju (b:=d.ad) rfl aF8 N) ?_;refine bc (fun N=>jN rfl underlying122 rfl rfl gD aE4 rfl N) ?_;refine bc (A3 (q:=1003) (b:=d.ad) (j:=1) (y:=.str back) (l:=G6 d.am d.back) (h':=fun _=>rfl) rfl gD gE rfl rfl rfl md (Nat.lt_succ_self 1) Tw) ?_;refine bz [12] (ac.sub (K':=ahn nm back d.back d.ad) (B':=bT z R (eg L nm back)) ⟨rfl,rfl,rfl,hx,rfl,trivial⟩ ⟨rfl,as5 (fun e=>some (ba.map .str .aM e)) py.symm,as5 (fun e=>some (ba.aH (.bA e))) s8,as5 (fun e=>some (ba.aH (.bA e))) xg.symm,trivial⟩) <| ar AK ?_;refine d1 [12] (X:=Nat) (aho d.back d.ad l) (fun _=>bT z R (eg L nm back)) (fun j=>j<=l.length/\ ∀n∈l.take j,Bf n<=8) (fun j=>l.length - j) 0 ⟨at2 _,fun n hn=>by rw[List.take_zero] at hn;cases hn⟩ ?_ ?_
 .exact ac.sub aD aD
 intro j ⟨V,Mi⟩;refine⟨fun h=>?_,fun h=>?_⟩
 .have h:decide ((j:Int) < (l.length:Nat))=true:=h;have dF:j < l.length:=aE0
  have m3:(0:Int)<=(j:Int):=aD9
  have r3:c8 ((j:Int)+1):=aD9
  obtain⟨Ty,K8⟩:=ahq _ (av2 dF);have lK:=av2 dF;have nG:=aw6 dF;have fk:=A9 z R (eg L nm back) DN _ _ Ty K8;have ahs:=p6 Ty;refine⟨m3,l[j],j4 (n:=j) dF,?_⟩;generalize l[j]=n at*;generalize dc (eg L nm back) (Bf n) n=ns at fk ahs;refine ar fk ⟨fun px=>?_,fun px=>?_⟩
  .have px:(8:Int) < (ns.length:Int):=gd px;obtain⟨rfl,rfl⟩:=gg ⟨n,lK,aD1⟩;refine bz [] (cM [(7,dy d.ad),(8,bW d.back)] (bT z R (eg Hi nm back))) <| bc (ju (b:=d.ad) rfl rfl) ?_;refine bc (fun N=>jN rfl underlying122 rfl rfl gD aE4 rfl N) ?_;refine bc (A3 (q:=1003) (b:=d.ad) (j:=1) (y:=.str d.back) (l:=G6 d.am back) (h':=fun _=>rfl) rfl gD gE rfl rfl rfl Tx (Nat.lt_succ_self 1) Tw) ?_;exact sY bt rfl rfl ⟨rfl,as5 (fun e=>some (ba.map .str .aM e)) py,as5 (fun e=>some (ba.aH (.bA e))) ahr,as5 (fun e=>some (ba.aH (.bA e))) xg,trivial⟩ rfl
  .have px: ¬(8:Int) < (ns.length:Int):=oj px;refine⟨r3,j+1,⟨dF,fun n' vB=>?_⟩,aD1,ac.sub aD aD⟩;rw[nG] at vB;rcases au4.1 vB with vB |vB
   .exact Mi n' vB
   .rw[at7] at vB;subst vB;omega
 .have h:decide ((j:Int) < (l.length:Nat))=false:=h;have dF:j=l.length:=aG1
  subst dF;rw[au3] at Mi;obtain⟨rfl,rfl⟩:=bx Mi;exact bh
end
end Go.Proofs.YtkfbeijmgggkmaaGreat
