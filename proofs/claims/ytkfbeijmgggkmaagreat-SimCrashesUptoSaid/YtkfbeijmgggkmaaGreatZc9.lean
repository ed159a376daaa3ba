/-
A part of the proof of this claim: lemmas, with no condition beyond what each says.
-/
import Derived.Shelf.SlIter.Nil
import Derived.Shelf.SlIterI.Nil
import Derived.Shelf.SortM.Plain
import Derived.Shelf.SortM.SortNone
import Derived.Shelf.SlMaps.Clone
import Derived.Ground.GgzProg
import Derived.Ground.SlgmProg
import Derived.Ground.SlmcProg
import Derived.Test.YtkfbeijmgggkmaaGreatProg
import Derived.Test.YtkfbeijmgggkmaaGreatZc8
set_option linter.unusedVariables false
set_option linter.unusedSimpArgs false
set_option maxRecDepth 10000
set_option maxHeartbeats 4000000
namespace Go.Proofs.YtkfbeijmgggkmaaGreat
open Go.RowKit Go.Proofs
section
section
variable {P:Program} {aU:dl} {N:Nat} {ids:aA1} {o:Oper} {K:aX} {B:ay} {C:fi} {ρ:Nat->bo} {F:Nat->Nat->Prop} {w w':World}
theorem Mem.split (h:Mem ids C B ρ F w) {c d:Nat} {cB i3 oY:ba} (J:aj B c=some cB) (hf:g9 ids K B d=true) (pl:bo) (cz cN:Nat->Prop) (E: ∀b,cz b->F c b) (G: ∀b,cN b->F c b) (eG: ∀b,cz b-> ¬cN b)
  (CI: ∀I,cj (b5 C B F w) w I w->Holds (dc ρ d pl) I cz w (ρ c) i3) (ac4: ∀I,cj (b5 C B F w) w I w->Holds (dc ρ d pl) I cN w pl oY):
  Mem ids C ((d,oY)::(c,i3)::B) (dc ρ d pl) (dc (dc F c cz) d cN) w/\cj (b5 C B F w) w (b5 C ((d,oY)::(c,i3)::B) (dc (dc F c cz) d cN) w) w:=by
 obtain⟨io,jB,pL,pM⟩:=kV hf;have sK:c≠d:=fun e=>by rw[<-e,J] at jB;cases jB
 have sL: ∀j ch,aj ((d,oY)::(c,i3)::B) j=some ch->(j=c\/j=d)->(j=c/\ch=i3)\/(j=d/\ch=oY):=fun j ch V aw=>by
  rw[cd] at V
  split at V
  .rename_i e;injection V with V;exact .inr ⟨e.symm,V.symm⟩
  .rename_i e;rw[cd] at V
   split at V
   .rename_i e;injection V with V;exact .inl ⟨e.symm,V.symm⟩
   .rename_i ao;rcases aw with aw |aw
    .exact absurd aw.symm ao
    .exact absurd aw.symm e
 have F8:dc (dc F c cz) d cN c=cz:=by rw[dm _ _ sK,dd]
 have F9:dc (dc F c cz) d cN d=cN:=by rw[dd]
 refine h.step (fun j=>j=c\/j=d) (fun j=>j=d) (cP.refl _ _) (fun j ch V aw=>?_) (fun j V=>dm _ _ V) (fun j V=>?_) (fun j V e=>pM (e▸V)) (fun j V=>.inr V) (fun j ch V _ k Z e=>?_) (fun j ch V aw aZ=>?_) (fun j ch V aw b O=>?_) (fun j rB ch ch' b V kx aw gv a6 O dt=>?_)
 .rw[cd,if_neg (fun e=>aw (.inr e.symm)),cd,if_neg (fun e=>aw (.inl e.symm))] at V;exact V
 .rw[dm _ _ (fun e=>V (.inr e)),dm _ _ (fun e=>V (.inl e))]
 .subst e;rw[pL j ch V] at Z
  cases Z
 .rcases sL j ch V aw with⟨rfl,rfl⟩ |⟨rfl,rfl⟩
  .rw[F8,dm _ _ sK];exact CI _ aZ
  .rw[F9,dd];exact ac4 _ aZ
 .have:F c b:=by
   rcases sL j ch V aw with⟨rfl,rfl⟩ |⟨rfl,rfl⟩
   .rw[F8] at O;exact E b O
   .rw[F9] at O;exact G b O
  exact⟨(h.own c _ J b this).1,.inl ⟨c,_,J,.inl rfl,this⟩⟩
 .rcases sL j ch V aw with⟨rfl,rfl⟩ |⟨rfl,rfl⟩ <;>rcases sL rB ch' kx gv with⟨rfl,rfl⟩ |⟨rfl,rfl⟩
  .exact a6 rfl
  .rw[F8] at O;rw[F9] at dt;exact eG b O dt
  .rw[F9] at O;rw[F8] at dt;exact eG b dt O
  .exact a6 rfl
theorem Mem.Ga (h:Mem ids C B ρ F w) {c d:Nat} {cB i3 ch:ba} (J:aj B c=some cB) (H:aj B d=some i3) (a6:c≠d) (b9:Nat->Prop) (kW: ∀b,b9 b->F c b\/F d b) (cE:cP (fun b=>F c b\/F d b) w w')
  (c0: ∀I,cj (b5 C B F w) w I w'->Holds ρ I b9 w' (ρ c) ch):
  Mem ids C ((c,ch)::gY B d) ρ (dc F c b9) w'/\cj (b5 C B F w) w (b5 C ((c,ch)::gY B d) (dc F c b9) w') w':=by
 have sL: ∀j ch',aj ((c,ch)::gY B d) j=some ch'->(j=c\/j=d)->j=c/\ch'=ch:=fun j ch' V aw=>by
  rw[cd] at V
  split at V
  .rename_i e;injection V with V;exact⟨e.symm,V.symm⟩
  .rename_i e;rcases aw with aw |aw
   .exact absurd aw.symm e
   .rw[aw,hv,if_pos rfl] at V;cases V
 refine h.step (fun j=>j=c\/j=d) (fun _=>False) (cE.mono fun b _ O=>?_) (fun j ch' V aw=>?_) (fun _ _=>rfl) (fun j aw=>dm _ _ (fun e=>aw (.inl e))) (fun _ _ h=>h) (fun _ h=>h.elim) (fun _ _ _ _ _ _ h=>h) (fun j ch' V aw aZ=>?_) (fun j ch' V aw b O=>?_) (fun j rB cJ cG b V kx aw gv hn=>?_)
 .rcases O with O |O
  .exact⟨c,_,J,.inl rfl,O⟩
  .exact⟨d,_,H,.inr rfl,O⟩
 .rw[cd,if_neg (fun e=>aw (.inl e.symm)),hv,if_neg (fun e=>aw (.inr e.symm))] at V;exact V
 .obtain⟨rfl,rfl⟩:=sL j ch' V aw;rw[dd];exact c0 _ aZ
 .obtain⟨rfl,rfl⟩:=sL j ch' V aw;rw[dd] at O;rcases kW b O with O |O
  .exact⟨Nat.lt_of_lt_of_le (h.own j _ J b O).1 cE.size,.inl ⟨j,_,J,.inl rfl,O⟩⟩
  .exact⟨Nat.lt_of_lt_of_le (h.own d _ H b O).1 cE.size,.inl ⟨d,_,H,.inr rfl,O⟩⟩
 .exact absurd ((sL j cJ V aw).1.trans (sL rB cG kx gv).1.symm) hn
theorem Mem.Gb (h:Mem ids C B ρ F w) {c:Nat} {cB ch:ba} (J:aj B c=some cB) (b9:Nat->Prop) (kW: ∀b,b9 b->F c b) (cE:cP (F c) w w') (c0: ∀I,cj (b5 C B F w) w I w'->Holds ρ I b9 w' (ρ c) ch):
  Mem ids C ((c,ch)::B) ρ (dc F c b9) w'/\cj (b5 C B F w) w (b5 C ((c,ch)::B) (dc F c b9) w') w':=by
 have sL: ∀j ch',aj ((c,ch)::B) j=some ch'->j=c->ch'=ch:=fun j ch' V aw=>by
  rw[cd,if_pos aw.symm] at V;injection V with V;exact V.symm
 refine h.step (fun j=>j=c) (fun _=>False) (cE.mono fun b _ O=>⟨c,_,J,rfl,O⟩) (fun j ch' V aw=>?_) (fun _ _=>rfl) (fun j aw=>dm _ _ aw) (fun _ _ h=>h) (fun _ h=>h.elim) (fun _ _ _ _ _ _ h=>h) (fun j ch' V aw aZ=>?_) (fun j ch' V aw b O=>?_) (fun j rB cJ cG b V kx aw gv hn=>absurd (aw.trans gv.symm) hn)
 .rw[cd,if_neg (fun e=>aw e.symm)] at V;exact V
 .have e:=sL j ch' V aw;subst aw e;rw[dd];exact c0 _ aZ
 .subst aw;rw[dd] at O;exact⟨Nat.lt_of_lt_of_le (h.own _ _ J b (kW b O)).1 cE.size,.inl ⟨_,_,J,rfl,kW b O⟩⟩
end
abbrev lm:=Int->Option aA0
def jq (f:lm) (k:Int) (xs:aA0):lm:=fun j=>if j=k then some xs else f j
def CJ (f:lm) (k:Int):lm:=fun j=>if j=k then none else f j
def KS:lm:=fun _=>none
def tQ (I F:Nat->Prop) (w:World) (p:bo) (xs:aA0):Prop:=Holds (fun _=>p) I F w p (.row 5 .u8 xs)
theorem tQ.congr {I F F':Nat->Prop} {w:World} {p:bo} {xs:aA0} (h:tQ I F w p xs) (e: ∀b,F' b↔F b):tQ I F' w p xs:=
 ⟨fun b=>(e b).trans (h.1 b),h.2⟩
theorem ac5 {I F:Nat->Prop} {w:World} {p:bo} {xs:aA0} (h:tQ I F w p xs): ∃x:aa .dL,p.eK=rj x:=by
 obtain⟨_,_,cs,⟨_,h⟩,_⟩:=h;rcases h with⟨h,_⟩ |⟨g,cap,df,h,_⟩
 .exact⟨none,h⟩
 .exact⟨some (g,_,cap),h⟩
structure Gc (ax:Int->Option bo) (f:lm) (es:List (aa ai×aa .dL)) (b9:Int->Nat->Prop) (I:Nat->Prop) (w:World):Prop where
 gF:fb es
 wu: ∀k:Int,bY (aH:=ai) (aJ:=.dL) es k=none->f k=none/\ax k=none/\ ∀b,¬b9 k b
 x3: ∀(k:Int) h,bY (aH:=ai) (aJ:=.dL) es k=some h->ax k=none-> ∃xs p,f k=some xs/\p.eK=rj h/\tQ I (b9 k) w p xs
 Rz: ∀(k:Int) h q,bY (aH:=ai) (aJ:=.dL) es k=some h->ax k=some q->q.eK=rj h/\ ∀b,¬b9 k b
 fj: ∀(j k:Int) b,j≠k->b9 j b-> ¬b9 k b
theorem Gc.ck {ax:Int->Option bo} {f:lm} {es:List (aa ai×aa .dL)} {b9:Int->Nat->Prop} {I I':Nat->Prop} {w w':World} (h:Gc ax f es b9 I w) (U:cj I w I' w') (bd: ∀k b,b9 k b->w'.heap[b]? =w.heap[b]?) (aR:w.heap.size<=w'.heap.size):Gc ax f es b9 I' w':=
 ⟨h.gF,h.wu,fun k x E G=>let⟨xs,p,b0,ca,a3⟩:=h.x3 k x E G;⟨xs,p,b0,ca,Holds.ck U (fun b O=>bd k b O) aR _ (fun _ _=>rfl) a3⟩,h.Rz,h.fj⟩
def wv (ax:Int->Option bo) (f:lm) (I F:Nat->Prop) (w:World) (p:bo):Prop:=
 ∃es b9,Gc ax f es b9 I w/\(∀b,F b↔b=p.bh\/ ∃k,b9 k b)/\(∀k,¬b9 k p.bh)/\ ∃bU bV,w.heap[p.bh]? =some (.map (List.toArray bU) bV)/\iw I w ai .dL es bU/\mg bU bV
def RA (ax:Int->Option bo) (f:lm):bg where
 bn:=wv ax f
 ck:=fun I F w I' w' p ⟨es,b9,E,G,al,bU,bV,aW,bG,fP⟩ U bd aR=>
  ⟨es,b9,E.ck U (fun k b O=>bd b ((G b).2 (.inr ⟨k,O⟩))) aR,G,al,bU,bV,(bd _ ((G _).2 (.inl rfl))).trans aW,bG.mono U,fP⟩
def m5 (f:lm):bg:=RA (fun _=>none) f
def Gd (k:Int) (q:bo):Int->Option bo:=fun j=>if j=k then some q else none
def ww (f:lm) (k:Int):bo->bg:=fun q=>RA (Gd k q) f
theorem wv.out {f:lm} {k:Int} {xs:aA0} {I F:Nat->Prop} {w:World} {p:bo} (hf:f k=some xs) (h:(m5 f).bn I F w p):
  ∃(cz cN:Nat->Prop) (q:bo) (es:List (aa ai×aa .dL)) (x:aa .dL),(∀b,cz b->F b)/\(∀b,cN b->F b)/\(∀b,cz b-> ¬cN b)/\q.eK=rj x/\bY (aH:=ai) (aJ:=.dL) es k=some x/\(∃bU bV,w.heap[p.bh]? =some (.map (List.toArray bU) bV)/\iw I w ai .dL es bU)/\tQ I cN w q xs/\(ww f k q).bn I cz w p:=by
 obtain⟨es,b9,E,G,al,bU,bV,aW,bG,fP⟩:=h
 cases e:bY (aH:=ai) (aJ:=.dL) es k with
 |none=>rw[(E.wu k e).1] at hf;cases hf
 |some x=>
  obtain⟨ys,q,b0,ca,a3⟩:=E.x3 k x e rfl;rw[hf] at b0;injection b0 with b0
  subst b0;refine⟨fun b=>b=p.bh\/ ∃j,j≠k/\b9 j b,b9 k,q,es,x,fun b O=>(G b).2 (O.imp id fun⟨j,_,V⟩=>⟨j,V⟩),fun b O=>(G b).2 (.inr ⟨k,O⟩),fun b O Z=>?_,ca,e,⟨bU,bV,aW,bG⟩,a3,?_⟩
  .rcases O with rfl |⟨j,V,O⟩
   .exact al k Z
   .exact E.fj j k b V O Z
  .refine⟨es,fun j b=>j≠k/\b9 j b,⟨E.gF,fun j V=>?_,fun j y V bj=>?_,fun j y aqi V bj=>?_,fun i j b gS a b=>E.fj i j _ gS a.2 b.2⟩,fun b=>Iff.rfl,fun j V=>al j V.2,bU,bV,aW,bG,fP⟩
   .obtain⟨b1,_,b3⟩:=E.wu j V;have:j≠k:=fun b6=>by rw[b6,e] at V;cases V
    exact⟨b1,if_neg this,fun b O=>b3 b O.2⟩
   .have a6:j≠k:=fun b6=>by rw[show Gd k q j=some q from if_pos b6] at bj;cases bj
    obtain⟨ys,r,b1,b2,b3⟩:=E.x3 j y V rfl;exact⟨ys,r,b1,b2,b3.congr fun b=>⟨fun h=>h.2,fun h=>⟨a6,h⟩⟩⟩
   .simp only[Gd] at bj
    split at bj
    .rename_i b6;injection bj with bj
     subst b6 bj;rw[e] at V;injection V with V
     subst V;exact⟨ca,fun b O=>O.1 rfl⟩
    .cases bj
theorem wv.ac6 {f:lm} {k:Int} {xs:aA0} {I cz cN:Nat->Prop} {w:World} {p q:bo} (h:(ww f k q).bn I cz w p) (aC:tQ I cN w q xs) (H: ∀b,cz b-> ¬cN b) (Z: ∃ys,f k=some ys):(m5 (jq f k xs)).bn I (fun b=>cz b\/cN b) w p:=by
 obtain⟨es,b9,E,G,al,bU,bV,aW,bG,fP⟩:=h;obtain⟨ys,Z⟩:=Z;have hR:Gd k q k=some q:=if_pos rfl
 cases e:bY (aH:=ai) (aJ:=.dL) es k with
 |none=>rw[(E.wu k e).1] at Z;cases Z
 |some x=>
  obtain⟨b0,ca⟩:=E.Rz k x q e hR;refine⟨es,fun j b=>if j=k then cN b else b9 j b,⟨E.gF,fun j V=>?_,fun j y V _=>?_,fun _ _ _ _ bj=>(by cases bj),fun i j b gS ha O=>?_⟩,fun b=>?_,fun j V=>?_,bU,bV,aW,bG,fP⟩
  .have a6:j≠k:=fun b6=>by rw[b6,e] at V;cases V
   obtain⟨b1,_,b3⟩:=E.wu j V;exact⟨by unfold jq;rw[if_neg a6];exact b1,rfl,fun b O=>by rw[if_neg a6] at O;exact b3 b O⟩
  .by_cases a6:j=k
   .subst a6;rw[e] at V;injection V with V
    subst V;exact⟨xs,q,if_pos rfl,b0,aC.congr fun b=>by rw[if_pos rfl]⟩
   .obtain⟨wx,r,b1,b2,b3⟩:=E.x3 j y V (if_neg a6);exact⟨wx,r,(if_neg a6).trans b1,b2,b3.congr fun b=>by rw[if_neg a6]⟩
  .by_cases aG:i=k
   .rw[if_pos aG] at ha;have V:j≠k:=fun b6=>gS (aG.trans b6.symm)
    rw[if_neg V] at O;exact H b ((G b).2 (.inr ⟨j,O⟩)) ha
   .rw[if_neg aG] at ha
    by_cases V:j=k
    .rw[if_pos V] at O;exact H b ((G b).2 (.inr ⟨i,ha⟩)) O
    .rw[if_neg V] at O;exact E.fj i j b gS ha O
  .show(cz b\/cN b)↔(b=p.bh\/ ∃j,(if j=k then cN b else b9 j b));rw[G];constructor
   .rintro((h |⟨j,h⟩) |h)
    .exact .inl h
    .refine .inr ⟨j,?_⟩
     by_cases V:j=k
     .subst V;exact absurd h (ca b)
     .rw[if_neg V];exact h
    .exact .inr ⟨k,by rw[if_pos rfl];exact h⟩
   .rintro(h |⟨j,h⟩)
    .exact .inl (.inl h)
    .by_cases V:j=k
     .rw[if_pos V] at h;exact .inr h
     .rw[if_neg V] at h;exact .inl (.inr ⟨j,h⟩)
  .replace V:(if j=k then cN p.bh else b9 j p.bh):=V
   by_cases kx:j=k
   .rw[if_pos kx] at V;exact H _ ((G _).2 (.inl rfl)) V
   .rw[if_neg kx] at V;exact al j V
section
variable {P:Program} {aU:dl} {ids:aA1} {K:aX} {B:ay}
theorem Ge {o:Oper} {T kt et:TypeId} {x i:Operand} {c d:Nat} {f:lm} {k:Int} {xs:aA0} (ag:o.op= .lookup T x i false) (ci:P.underlying T=some (.map kt et)) {dk:TypeDesc} (kg:P.underlying kt=some dk) (j2:nl ai dk=true) {de:TypeInfo} (aG:P.info? et=some de) (aR:de.zero=some (.slice none 0 0))
  (hx:a7 K x= .c (.one (.mp c))) (Z:a7 K i= .c (.one (.d (.int .i64 k)))) (J:aj B c=some (.aF (m5 f))) (hf:f k=some xs) (N:Nat):bB P N ids o K B (.c (.one (.own d))) ⟨[c],[d],[(c,some (.cg d (ww f k))),(d,some (.row 5 .u8 xs))]⟩:=by
 have m1:x∈o.op.operands:=aw7
 have m2:i∈o.op.operands:=aw7
 rintro K' B' g1 g2 c2 C a w ⟨hn,mr,ρ,F,ar,au⟩ bx fO Q dq;have cQ:=(g2 c aw2).trans J;have cE:=c2 d aw2;obtain⟨io,jB,pL,pM⟩:=kV cE;have sK:c≠d:=fun e=>by rw[<-e,cQ] at jB;cases jB
 obtain⟨cz,cN,q,es,y,E,G,al,aW,bG,⟨bU,bV,fP,ji⟩,gJ,rs⟩:=wv.out hf (ar.holds c _ cQ);have af:=au.mp ((g1 x m1).trans hx);have ao:a.eval i=gQ ai k:=au.int ((g1 i m2).trans Z);have CK:(zeroValue et).run P w= .ok (.slice none 0 0) w:=by simp[zeroValue,typeInfo,aG,aR]
 obtain⟨v,aC,aA⟩:=Pl (P:=P) (aJ:=.dL) ci kg j2 fP ji CK ⟨rfl,⟨fun _=>rfl,fun h=>by cases h⟩,rfl⟩ k false
 have uM:v=rj y:=by
  have h:=P4 (ρ:=ρ) rfl aA;rw[bG] at h;exact h
 have hx:(execOp a.eval o).run P w= .ok (.value v) w:=by simp only[execOp,ag,Sem.run_bind,af,ao,aC,Result.andThen_ok,Sem.run_pure];rfl
 unfold Oper.wp;rw[hx,Oper.upon_value]
 obtain⟨bP,aZ⟩:=ar.split (K:=K') (i3:=.cg d (ww f k)) (oY:=.row 5 .u8 xs) cQ cE q cz cN E G al
  (fun I a2=>by
   show(ww f k (dc ρ d q d)).bn I cz w (ρ c);rw[dd];exact(ww f k q).ck _ _ _ _ _ _ rs a2 (fun _ _=>rfl) (aq4 _))
  (fun I a2=>Holds.ck a2 (fun _ _=>rfl) (aq4 _) _ (fun _ h=>by cases h) gJ)
 refine dq _ _ ⟨kq.trans hn,kr.trans mr,_,_,bP,(au.mono aZ fun s e U=>dm _ _ (fun b6=>by subst b6;rw[io s] at U;cases U)).ku (fun e U=>by rw[hn];exact bx e U) ?_⟩;show v=(dc ρ d q d).eK;rw[dd,uM,aW]
theorem ab.Gf (c d:Nat) {f tN:lm} {k:Int} {xs:aA0} (ac7:jq f k xs=tN) (J:aj B c=some (.cg d (ww f k))) (H:aj B d=some (.row 5 .u8 xs)) (a6:c≠d) (Z:(f k).isSome=true):ab ids K B K ((c,.aF (m5 tN))::gY B d):=by
 subst ac7;rintro N C a w ⟨hn,mr,ρ,F,ar,au⟩;have E:(ww f k (ρ d)).bn (b5 C B F w) (F c) w (ρ c):=ar.holds c _ J;have G:tQ (b5 C B F w) (F d) w (ρ d) xs:=ar.holds d _ H
 have Z: ∃ys,f k=some ys:=by
  cases e:f k with
  |none=>rw[e] at Z;cases Z
  |some ys=>exact⟨ys,rfl⟩
 obtain⟨bP,aZ⟩:=ar.Ga (w':=w) (ch:=.aF (m5 (jq f k xs))) J H a6 (fun b=>F c b\/F d b) (fun _ h=>h) (cP.refl _ _) fun I a2=>
  (m5 (jq f k xs)).ck _ _ _ _ _ _ (wv.ac6 E G (fun b O dt=>ar.fj c d _ _ b J H a6 O dt) Z) a2 (fun _ _=>rfl) (aq4 _)
 exact⟨hn,mr,ρ,_,bP,au.mono aZ fun _ _ _=>rfl⟩
theorem ac8 {o:Oper} {T kt et:TypeId} {x i v:Operand} {c d:Nat} {f:lm} {k:Int} {xs:aA0} (ag:o.op= .mapUpdate T x i v) (ci:P.underlying T=some (.map kt et)) {dk:TypeDesc} (kg:P.underlying kt=some dk) (j2:nl ai dk=true)
  (hx:a7 K x= .c (.one (.mp c))) (Z:a7 K i= .c (.one (.d (.int .i64 k)))) (aA:a7 K v= .c (.one (.own d))) (J:aj B c=some (.aF (m5 f))) (H:aj B d=some (.row 5 .u8 xs)) (a6:c≠d) (hf:f k=none) (N:Nat):
  bB P N ids o K B .undef ⟨[c,d],[],[(d,none),(c,some (.aF (m5 (jq f k xs))))]⟩:=by
 have m1:x∈o.op.operands:=aw7
 have m2:i∈o.op.operands:=aw7
 have m3:v∈o.op.operands:=aw7
 rintro K' B' g1 g2 - C a w ⟨hn,mr,ρ,F,ar,au⟩ bx fO Q dq;have cQ:=(g2 c aw2).trans J;have dn:=(g2 d aw2).trans H;obtain⟨es,b9,E,G,al,bU,bV,aW,bG,fP⟩:(m5 f).bn (b5 C B' F w) (F c) w (ρ c):=ar.holds c _ cQ;have ga:tQ (b5 C B' F w) (F d) w (ρ d) xs:=ar.holds d _ dn;obtain⟨y,aD⟩:=ac5 ga;have af:=au.mp ((g1 x m1).trans hx);have ao:a.eval i=gQ ai k:=au.int ((g1 i m2).trans Z);have bm:a.eval v=(ρ d).eK:=au.ev ((g1 v m3).trans aA)
 have c6:jy (b5 C B' F w) w .dL y (a.eval v):=by
  rw[bm,aD]
  have dX:(rj y).cells= #[rj y]:=by
   match y with
   |none=>rfl
   |some (_,_,_)=>rfl
  exact⟨by rw[dX];rfl,⟨fun _=>dX,fun h=>by cases h⟩,by rw[dX];rfl⟩
 obtain⟨eE,jV,aC,gv,qr⟩:=BL (P:=P) ci kg j2 aW bG fP k c6;have rE:=(Array.getElem?_eq_some_iff.1 aW).1;have eG: ∀y,F c y-> ¬F d y:=fun y aD ed=>ar.fj c d _ _ y cQ dn a6 aD ed
 have Aj:bY (aH:=ai) (aJ:=.dL) es k=none:=by
  cases e:bY (aH:=ai) (aJ:=.dL) es k with
  |none=>rfl
  |some aB=>
   obtain⟨_,_,b0,_⟩:=E.x3 k aB e rfl;rw[hf] at b0
   cases b0
 obtain⟨d6,cV⟩:=Ah (aH:=ai) (aJ:=.dL) rF k y es;have u1: ∀aB,aB≠(ρ c).bh->({w with heap:=w.heap.setIfInBounds (ρ c).bh (.map (List.toArray eE) jV)}:World).heap[aB]? =w.heap[aB]? :=fun aB aR=>Array.getElem?_setIfInBounds_ne (Ne.symm aR)
 have CL:(execOp a.eval o).run P w= .ok .skip {w with heap:=w.heap.setIfInBounds (ρ c).bh (.map (List.toArray eE) jV)}:=az1
 unfold Oper.wp;rw[CL,Oper.upon_skip]
 obtain⟨bP,aZ⟩:=ar.Ga (ch:=.aF (m5 (jq f k xs))) (w':={w with heap:=w.heap.setIfInBounds (ρ c).bh (.map (List.toArray eE) jV)}) cQ dn a6 (fun b=>F c b\/F d b) (fun _ h=>h) (uI (S:=fun b=>F c b\/F d b) (.inl ((G _).2 (.inl rfl)))) fun I a2=>by
  have hE:=E.ck a2 (fun j b O=>u1 b fun e=>al j (e▸O)) aw2;have fR:tQ I (F d) {w with heap:=w.heap.setIfInBounds (ρ c).bh (.map (List.toArray eE) jV)} (ρ d) xs:=Holds.ck a2 (fun b O=>u1 b fun e=>eG b (e▸(G _).2 (.inl rfl)) O) aw2 _ (fun _ h=>by cases h) ga;refine⟨dw (aH:=ai) (aJ:=.dL) es k y,fun j b=>if j=k then F d b else b9 j b,⟨fb.put rF E.gF,fun j V=>?_,fun j aB V _=>?_,fun _ _ _ _ bj=>(by cases bj),fun i j b gS ha O=>?_⟩,fun b=>?_,fun j V=>?_,eE,jV,by simp[rE],gv.mono a2,qr⟩
  .have lV:j≠k:=fun e=>by rw[e,d6] at V;cases V
   rw[cV j lV] at V;obtain⟨b1,_,b3⟩:=hE.wu j V;exact⟨by unfold jq;rw[if_neg lV];exact b1,rfl,fun b O=>by rw[if_neg lV] at O;exact b3 b O⟩
  .by_cases lV:j=k
   .subst lV;rw[d6] at V;injection V with V
    subst V;exact⟨xs,ρ d,if_pos rfl,aD,fR.congr fun b=>by rw[if_pos rfl]⟩
   .rw[cV j lV] at V;obtain⟨wx,r,b1,b2,b3⟩:=hE.x3 j aB V rfl;exact⟨wx,r,(if_neg lV).trans b1,b2,b3.congr fun b=>by rw[if_neg lV]⟩
  .by_cases aG:i=k
   .rw[if_pos aG] at ha;have V:j≠k:=fun b6=>gS (aG.trans b6.symm)
    rw[if_neg V] at O;exact eG b ((G b).2 (.inr ⟨j,O⟩)) ha
   .rw[if_neg aG] at ha
    by_cases V:j=k
    .rw[if_pos V] at O;exact eG b ((G b).2 (.inr ⟨i,ha⟩)) O
    .rw[if_neg V] at O;exact E.fj i j b gS ha O
  .show(F c b\/F d b)↔(b=(ρ c).bh\/ ∃j,(if j=k then F d b else b9 j b));rw[G];have ac9:=(E.wu k Aj).2.2;constructor
   .rintro((h |⟨j,h⟩) |h)
    .exact .inl h
    .refine .inr ⟨j,?_⟩;have V:j≠k:=fun e=>ac9 b (e▸h)
     rw[if_neg V];exact h
    .exact .inr ⟨k,by rw[if_pos rfl];exact h⟩
   .rintro(h |⟨j,h⟩)
    .exact .inl (.inl h)
    .by_cases V:j=k
     .rw[if_pos V] at h;exact .inr h
     .rw[if_neg V] at h;exact .inl (.inr ⟨j,h⟩)
  .replace V:(if j=k then F d (ρ c).bh else b9 j (ρ c).bh):=V
   by_cases kx:j=k
   .rw[if_pos kx] at V;exact eG _ ((G _).2 (.inl rfl)) V
   .rw[if_neg kx] at V;exact al j V
 exact dq _ _ ⟨kq.trans hn,kr.trans mr,ρ,_,bP,(au.mono aZ fun _ _ _=>rfl).ku (fun e U=>by rw[hn];exact bx e U) rfl⟩
theorem ac' {o:Oper} {T e3 kt et:TypeId} {x i:Operand} {c:Nat} {f:lm} {k:Int} (ag:o.op= .call {callee:=.builtin .delete,args:= #[x,i],argTypes:= #[T,e3]}) (ci:P.underlying T=some (.map kt et)) {dk:TypeDesc} (kg:P.underlying kt=some dk) (j2:nl ai dk=true)
  (hx:a7 K x= .c (.one (.mp c))) (Z:a7 K i= .c (.one (.d (.int .i64 k)))) (J:aj B c=some (.aF (m5 f))) (N:Nat):
  bB P N ids o K B (.cb []) ⟨[c],[],[(c,some (.aF (m5 (CJ f k))))]⟩:=by
 have m1:x∈o.op.operands:=ax1
 have m2:i∈o.op.operands:=ax1
 rintro K' B' g1 g2 - C a w ⟨hn,mr,ρ,F,ar,au⟩ bx fO Q dq;have cQ:=(g2 c aw2).trans J;obtain⟨es,b9,E,G,al,bU,bV,aW,bG,fP⟩:(m5 f).bn (b5 C B' F w) (F c) w (ρ c):=ar.holds c _ cQ;have af:=au.mp ((g1 x m1).trans hx);have ao:a.eval i=gQ ai k:=au.int ((g1 i m2).trans Z);obtain⟨eE,aC,gv,qr⟩:=Pr (P:=P) (ty:=o.type) ci kg j2 aW bG fP k e3;have rE:=(Array.getElem?_eq_some_iff.1 aW).1;obtain⟨d6,cV⟩:=CH (aH:=ai) (aJ:=.dL) rF k es E.gF;have u1: ∀aB,aB≠(ρ c).bh->({w with heap:=w.heap.setIfInBounds (ρ c).bh (.map (List.toArray eE) bV)}:World).heap[aB]? =w.heap[aB]? :=fun aB aR=>Array.getElem?_setIfInBounds_ne (Ne.symm aR)
 have CL:(execOp a.eval o).run P w= .ok (.value (.tuple #[])) {w with heap:=w.heap.setIfInBounds (ρ c).bh (.map (List.toArray eE) bV)}:=by simp[execOp,ag,resolve,invoke,builtin,af,ao,aC]
 unfold Oper.wp;rw[CL,Oper.upon_value]
 obtain⟨bP,aZ⟩:=ar.Gb (ch:=.aF (m5 (CJ f k))) (w':={w with heap:=w.heap.setIfInBounds (ρ c).bh (.map (List.toArray eE) bV)}) cQ (fun b=>b=(ρ c).bh\/ ∃j,j≠k/\b9 j b) (fun b O=>(G b).2 (O.imp id fun⟨j,_,h⟩=>⟨j,h⟩)) (uI (S:=F c) ((G _).2 (.inl rfl))) fun I a2=>by
  have hE:=E.ck a2 (fun j b O=>u1 b fun e=>al j (e▸O)) aw2;refine⟨gR (aH:=ai) (aJ:=.dL) es k,fun j b=>j≠k/\b9 j b,⟨fb.lU E.gF,fun j V=>?_,fun j aB V _=>?_,fun _ _ _ _ bj=>(by cases bj),fun i j b gS ha O=>E.fj i j b gS ha.2 O.2⟩,fun b=>Iff.rfl,fun j V=>al j V.2,eE,bV,by simp[rE],gv.mono a2,qr⟩
  .by_cases lV:j=k
   .exact⟨if_pos lV,rfl,fun b O=>O.1 lV⟩
   .rw[cV j lV] at V;obtain⟨b1,_,b3⟩:=hE.wu j V;exact⟨(if_neg lV).trans b1,rfl,fun b O=>b3 b O.2⟩
  .have lV:j≠k:=fun e=>by rw[e,d6] at V;cases V
   rw[cV j lV] at V;obtain⟨wx,r,b1,b2,b3⟩:=hE.x3 j aB V rfl;exact⟨wx,r,(if_neg lV).trans b1,b2,b3.congr fun b=>⟨fun h=>h.2,fun h=>⟨lV,h⟩⟩⟩
 exact dq _ _ ⟨kq.trans hn,kr.trans mr,ρ,_,bP,(au.mono aZ fun _ _ _=>rfl).ku (fun e U=>by rw[hn];exact bx e U) ⟨[],rfl,rfl⟩⟩
theorem ab.RB (c:Nat) {aJ:bA} (J:aj B c=some (.map ai aJ [])):ab ids K B K ((c,.aF (m5 KS))::B):=by
 rintro N C a w ⟨hn,H,ρ,F,ar,au⟩;obtain⟨bd,bU,bV,al,aW,fP⟩:=ar.holds c _ J;have aW:bU=[]:=aW;subst aW;obtain⟨bP,aZ⟩:=ar.h0 (w':=w) (ch:=.aF (m5 KS)) J (cP.refl _ _) fun I a2=>⟨[],fun _ _=>False,⟨.nil,fun _ _=>⟨rfl,rfl,fun _ h=>h⟩,fun _ _ h=>ax0,fun _ _ _ h=>ax0,fun _ _ _ _ h=>h.elim⟩,fun b=>by rw[bd];simp,fun _ h=>h,[],bV,al,rfl,fP⟩
 exact⟨hn,H,ρ,F,bP,au.mono aZ fun _ _ _=>rfl⟩
end
end
section
def bg.ch (ch:ba) (h: ∀c,ch.has c=false):bg where
 bn:=fun I F w p=>Holds (fun _=>p) I F w p ch
 ck:=fun I F w I' w' p bj U bd aR=>Holds.ck U bd aR ch (fun c J=>absurd J (by rw[h c];decide)) bj
theorem bg.RC {ch:ba} (h: ∀c,ch.has c=false) {ρ:Nat->bo} {I F:Nat->Prop} {w:World} {p:bo} (bj:Holds ρ I F w p ch):(bg.ch ch h).bn I F w p:=
 Holds.ck (cj.refl _ _) (fun _ _=>rfl) (aq4 _) ch (fun c J=>absurd J (by rw[h c];decide)) bj
section
variable {P:Program} {ids:aA1} {K:aX} {B:ay}
theorem i' {o:Oper} {x:Operand} {b:Nat} (ag:o.op= .nilCheck x) (hx:a7 K x= .c (.one (.d (.aL (some b))))) (N:Nat):bB P N ids o K B (.c (.one (.d (.aL (some b))))) ⟨[],[],[]⟩:=by
 have aw:x∈o.op.operands:=aw7
 refine bB.val fun K' B' g1 g2 C ρ F a w ar au=>?_
 have aA:a.eval x= .pointer (some ⟨b,0,none⟩):=au.ev ((g1 x aw).trans hx);exact⟨.pointer (some ⟨b,0,none⟩),by simp[execOp,ag,aA],rfl⟩
theorem jr {o:Oper} {T:TypeId} {x:Operand} {f b off:Nat} {fs:Array Field} {jX:Field} (ag:o.op= .fieldAddr T x f) (ci:P.underlying T=some (.struct fs)) (uC:fs[f]? =some jX) (CM:jX.offset=off) {i:TypeInfo} (aG:P.info? jX.type=some i) (cu:i.size≠0) (hx:a7 K x= .c (.one (.d (.aL (some b))))) (N:Nat):
  bB P N ids o K B (.c (.one (.bM (.pointer (some ⟨b,off,none⟩))))) ⟨[],[],[]⟩:=by
 have aw:x∈o.op.operands:=aw7
 refine bB.val fun K' B' g1 g2 C ρ F a w ar au=>?_
 have aA:a.eval x= .pointer (some ⟨b,0,none⟩):=au.ev ((g1 x aw).trans hx);have h:=Ff aA ag ci uC CM aG cu (w:=w);rw[Nat.zero_add] at h;exact⟨.pointer (some ⟨b,off,none⟩),h,rfl⟩
theorem ada {I:Nat->Prop} {w:World} {L:List (Nat×bg)} {F:Nat->Prop} {b:Nat} {l:List bC} {h: ∀c,(ba.cells l).has c=false} (bl:fo I w L F) (cH:eB L b=some (bg.ch (.cells l) h)) {j:Nat} {x:D} (V:l[j]? =some (.d x)): ∃v,w.cell? ⟨b,j,none⟩=some v/\gP I w x v:=by
 obtain⟨cz,cN,p,ce,cR,er,eQ,uW⟩:=bl.out cH;obtain⟨E,aE,e3,G,al⟩:=eQ;obtain⟨v,aA,H⟩:=cc.get _ _ al j _ V;rw[er] at G;exact⟨v,oZ G aA,H⟩
theorem ln {o:Oper} {T:TypeId} {x:Operand} {q b j:Nat} {y:D} {L:List (Nat×bg)} {l:List bC} {h: ∀c,(ba.cells l).has c=false} {d:TypeDesc} (ag:o.op= .load T x) (ci:P.underlying T=some d) (H:d.isRow=false) (hx:a7 K x= .c (.one (.bM (.pointer (some ⟨b,j,none⟩)))))
  (aP:aj B q=some (.aF (.bw L))) (cH:eB L b=some (bg.ch (.cells l) h)) (V:l[j]? =some (.d y)) (N:Nat):bB P N ids o K B (.c (.one (.d y))) ⟨[q],[],[]⟩:=by
 have aw:x∈o.op.operands:=aw7
 refine bB.val fun K' B' g1 g2 C ρ F a w ar au=>?_
 have bl:fo (b5 C B' F w) w L (F q):=ar.holds q _ ((g2 q aw2).trans aP);have aA:a.eval x= .pointer (some ⟨b,j,none⟩):=au.ev ((g1 x aw).trans hx);obtain⟨v,E,G⟩:=ada bl cH V;exact⟨v,Fd ag aA ci H E,G⟩
theorem Ak {o:Oper} {T:TypeId} {x v:Operand} {q b j:Nat} {y:D} {L:List (Nat×bg)} {l:List bC} {h: ∀c,(ba.cells l).has c=false} {h': ∀c,(ba.cells (l.set j (.d y))).has c=false} {i:TypeInfo} (ag:o.op= .store T x v) (aG:P.info? T=some i) (aR:i.size=1) (hx:a7 K x= .c (.one (.bM (.pointer (some ⟨b,j,none⟩)))))
  (aA:a7 K v= .c (.one (.d y))) (aP:aj B q=some (.aF (.bw L))) (cH:eB L b=some (bg.ch (.cells l) h)) (V:j < l.length) (E: ∀{I:Nat->Prop} {w:World} {aB:Value},gP I w y aB->aB.cells=List.toArray [aB]/\aB.oneCell'=true) (N:Nat):
  bB P N ids o K B .undef ⟨[q],[],[(q,some (.aF (.bw (ff L b (bg.ch (.cells (l.set j (.d y))) h')))))]⟩:=by
 have m1:x∈o.op.operands:=aw7
 have m2:v∈o.op.operands:=aw7
 refine bB.h0 aP fun K' B' g1 C ρ F a w ar au F7=>?_
 have bl:fo (b5 C B' F w) w L (F q):=ar.holds q _ F7;obtain⟨cz,cN,p,ce,cR,er,eQ,uW⟩:=bl.out cH;obtain⟨cJ,aE,e3,cG,hP⟩:=eQ;have af:a.eval x= .pointer (some ⟨b,j,none⟩):=au.ev ((g1 x m1).trans hx);have ao:gP (b5 C B' F w) w y (a.eval v):=au.ev ((g1 v m2).trans aA);obtain⟨hM,jj⟩:=E ao;have bZ:aE.length=l.length:=cc.length _ _ hP;rw[er] at cG;have dW:=BU (P:=P) (o:=o) (ev:=a.eval) (w:=w) (us:=[a.eval v]) ag af hM aG aR cG ax4 (fun aB aR=>by rw[ar5] at aR;rw[aR];exact jj);have gZ:(w.setRow b (List.toArray (aE.take j++[a.eval v]++aE.drop (j+ [a.eval v].length)))).heap[b]? =some (.cells (List.toArray (aE.take j++[a.eval v]++aE.drop (j+ [a.eval v].length))) e3 (0,0)):=setRow_heap w _ _ _ e3 _ cG;have gb:cz b:=(cJ b).2 er.symm;have qv:F q b:=(ce b).2 (.inl gb);refine⟨_,dW,⟨rfl,rfl,rfl,by simp[World.setRow],fun k _ Z=>setRow_other w _ k _ (fun e=>Z (e▸qv))⟩,fun I aZ=>?_⟩
 have dx: ∀(l:List bC) (aE:List Value) (j:Nat),j < l.length->cc (fun _=>p) (b5 C B' F w) w l aE->cc (fun _=>p) (b5 C B' F w) w (l.set j (.d y)) (aE.take j++[a.eval v]++aE.drop (j+1)):=fun l=>by
  induction l with
  |nil=>intro aE j V;simp at V
  |cons s l bu=>
   rintro _ j V ⟨u,r,rfl,cC,cF⟩
   match j with
   |0=>exact⟨a.eval v,r,aw2,ao,cF⟩
   |j+1=>exact⟨u,_,rfl,cC,bu r j ay0 cF⟩
 have tR:(fun aB=>cz aB\/cN aB)=F q:=funext fun aB=>propext (ce aB).symm
 rw[<-tR]
 exact uW I _ (bg.ch (.cells (l.set j (.d y))) h') cz p aZ (by simp[World.setRow]) (fun aB aR=>setRow_other w _ aB _ (fun e=>cR b gb (e▸aR))) er
  ⟨cJ,_,e3,by rw[er];exact gZ,cc.mono aZ _ _ (fun _ _=>rfl) (dx l aE j V hP)⟩ cR
theorem adb {o:Oper} {T kt et:TypeId} {x i v:Operand} {c d q:Nat} (ag:o.op= .mapUpdate T x i v) (ci:P.underlying T=some (.map kt et)) {dk:TypeDesc} (kg:P.underlying kt=some dk) {aH:bA} (j2:nl aH dk=true)
  (hx:a7 K x= .c (.one (.mp c))) {key:aa aH} (Z:xy aH (a7 K i)=some key) (aA:a7 K v= .c (.one (.ptr d 0))) {es:List (aa aH×aa .aL)} {L:List (Nat×bg)} {l:List bC} {h: ∀c,(ba.cells l).has c=false} (J:aj B c=some (.map aH .aL es)) (H:aj B d=some (.cells l)) (aP:aj B q=some (.aF (.bw L)))
  (sK:c≠d) (Gg:c≠q) (RD:d≠q) (ha: ∀p∈L,p.2.pb):
  xT P ids o K B (fun da e=> ∃b:Nat,b∉L.map (·.1)/\da= .undef/\e=⟨[c,d,q],[],[(d,none),(c,some (.map aH .aL (dw (aH:=aH) (aJ:=.aL) es key (some b)))),(q,some (.aF (.bw ((b,bg.ch (.cells l) h)::L))))]⟩):=by
 rintro N C a w ⟨hn,mr,ρ,F,ar,au⟩ bx fO Q dq;obtain⟨mT,bU,bV,aW,bG,fP⟩:=ar.holds c _ J;have CN:=ar.holds d _ H;have bl:fo (b5 C B F w) w L (F q):=ar.holds q _ aP;have af:=au.mp hx;have ao:a.eval i=gQ aH key:=B0 Z (au.ev rfl);have bm:a.eval v= .pointer (some ⟨(ρ d).bh,0,none⟩):=au.ev aA
 have c6:jy (b5 C B F w) w .aL (some (ρ d).bh:aa .aL) (a.eval v):=by
  rw[bm];exact⟨rfl,⟨fun _=>rfl,fun h=>by cases h⟩,rfl⟩
 obtain⟨eE,jV,aC,gv,qr⟩:=BL (P:=P) ci kg j2 aW bG fP key c6;have rE:=(Array.getElem?_eq_some_iff.1 aW).1;have adc:F d (ρ d).bh:=(CN.1 _).2 rfl;have Gh:(ρ d).bh∉L.map (·.1):=fun O=>ar.fj d q _ _ _ H aP RD adc (KI ha bl O)
 have u1: ∀y,y≠(ρ c).bh->({w with heap:=w.heap.setIfInBounds (ρ c).bh (.map (List.toArray eE) jV)}:World).heap[y]? =w.heap[y]? :=fun y aD=>Array.getElem?_setIfInBounds_ne (Ne.symm aD)
 have Al:F c (ρ c).bh:=(mT _).2 rfl;have xG: ∀y,F d y->y≠(ρ c).bh:=fun y aD e=>ar.fj d c _ _ y H J (Ne.symm sK) aD (e▸Al)
 have ade: ∀y,F q y->y≠(ρ c).bh:=fun y aD e=>ar.fj q c _ _ y aP J (Ne.symm Gg) aD (e▸Al)
 have CL:(execOp a.eval o).run P w= .ok .skip {w with heap:=w.heap.setIfInBounds (ρ c).bh (.map (List.toArray eE) jV)}:=az1
 unfold Oper.wp;rw[CL,Oper.upon_skip]
 have uZ: ∀j ch,aj ((q,ba.aF (.bw (((ρ d).bh,bg.ch (.cells l) h)::L)))::(c,.map aH .aL (dw (aH:=aH) (aJ:=.aL) es key (some (ρ d).bh)))::gY B d) j=some ch->(j=c\/j=d\/j=q)->(j=q/\ch= .aF (.bw (((ρ d).bh,bg.ch (.cells l) h)::L)))\/(j=c/\ch= .map aH .aL (dw (aH:=aH) (aJ:=.aL) es key (some (ρ d).bh))):=fun j ch V aw=>by
  rw[cd] at V
  split at V
  .rename_i e;injection V with V;exact .inl ⟨e.symm,V.symm⟩
  .rename_i e;rw[cd] at V
   split at V
   .rename_i ao;injection V with V;exact .inr ⟨ao.symm,V.symm⟩
   .rename_i ao;rcases aw with aw |aw |aw
    .exact absurd aw.symm ao
    .rw[aw,hv,if_pos rfl] at V;cases V
    .exact absurd aw.symm e
 have Gi:dc F q (fun y=>F d y\/F q y) c=F c:=dm _ _ Gg
 obtain⟨bP,aZ⟩:=ar.step (B':=(q,.aF (.bw (((ρ d).bh,bg.ch (.cells l) h)::L)))::(c,.map aH .aL (dw (aH:=aH) (aJ:=.aL) es key (some (ρ d).bh)))::gY B d) (ρ':=ρ) (F':=dc F q (fun y=>F d y\/F q y)) (w':={w with heap:=w.heap.setIfInBounds (ρ c).bh (.map (List.toArray eE) jV)}) (fun j=>j=c\/j=d\/j=q) (fun _=>False)
  ((uI (S:=F c) Al).mono fun y _ aD=>⟨c,_,J,.inl rfl,aD⟩)
  (fun j ch V aw=>by
   rw[cd,if_neg (fun e=>aw (.inr (.inr e.symm))),cd,if_neg (fun e=>aw (.inl e.symm)),hv,if_neg (fun e=>aw (.inr (.inl e.symm)))] at V;exact V)
  (fun _ _=>rfl) (fun j aw=>dm _ _ (fun e=>aw (.inr (.inr e)))) (fun _ _ h=>h) (fun _ h=>h.elim) (fun _ _ _ _ _ _ h=>h)
  (fun j ch V aw aZ=>by
   rcases uZ j ch V aw with⟨rfl,rfl⟩ |⟨rfl,rfl⟩
   .rw[dd];exact⟨F d,F j,ρ d,fun _=>Iff.rfl,fun y aD ed=>ar.fj d j _ _ y H aP RD aD ed,rfl,(bg.ch (.cells l) h).ck _ _ _ _ _ _ (bg.RC h CN) aZ (fun y aD=>u1 y (xG y aD)) aw2,bl.ck aZ aw2 fun y aD=>u1 y (ade y aD)⟩
   .rw[Gi];exact⟨mT,eE,jV,by simp[rE],gv.mono aZ,qr⟩)
  (fun j ch V aw y aD=>by
   rcases uZ j ch V aw with⟨rfl,rfl⟩ |⟨rfl,rfl⟩
   .rw[dd] at aD;rcases aD with aD |aD
    .exact⟨by simpa using(ar.own d _ H y aD).1,.inl ⟨d,_,H,.inr (.inl rfl),aD⟩⟩
    .exact⟨by simpa using(ar.own j _ aP y aD).1,.inl ⟨j,_,aP,.inr (.inr rfl),aD⟩⟩
   .rw[Gi] at aD;exact⟨by simpa using(ar.own j _ J y aD).1,.inl ⟨j,_,J,.inl rfl,aD⟩⟩)
  (fun j rB ch ch' y V kx aw gv a6 aD ed=>by
   rcases uZ j ch V aw with⟨rfl,rfl⟩ |⟨rfl,rfl⟩ <;>rcases uZ rB ch' kx gv with⟨rfl,rfl⟩ |⟨rfl,rfl⟩
   .exact a6 rfl
   .rw[dd] at aD;rw[Gi] at ed;rcases aD with aD |aD
    .exact ar.fj d rB _ _ y H J (Ne.symm sK) aD ed
    .exact ar.fj j rB _ _ y aP J (Ne.symm Gg) aD ed
   .rw[dd] at ed;rw[Gi] at aD;rcases ed with ed |ed
    .exact ar.fj d j _ _ y H J (Ne.symm sK) ed aD
    .exact ar.fj rB j _ _ y aP J (Ne.symm Gg) ed aD
   .exact a6 rfl)
 exact dq _ _ _ _ ⟨_,Gh,rfl,rfl⟩ ⟨kq.trans hn,kr.trans mr,ρ,_,bP,(au.mono aZ fun _ _ _=>rfl).ku (fun e U=>by rw[hn];exact bx e U) rfl⟩
end
end
section
def fg (b:Nat) (q:bo):bg where
 bn:=fun I F w p=>q.bh=b/\ ∀x,¬F x
 ck:=fun _ _ _ _ _ _ h _ _ _=>h
def j3 (ch:ba):Prop:= ∀(ρ ρ':Nat->bo) (I F:Nat->Prop) (w:World) (p i5:bo),(∀c,ch.has c=true->(ρ' c).bh=(ρ c).bh)->i5.bh=p.bh->Holds ρ I F w p ch->Holds ρ' I F w i5 ch
def KT:bC->Bool
 | .own _=>false
 | .os _ _ _ _=>false
 |_=>true
theorem hZ.bh {ρ ρ':Nat->bo} {I:Nat->Prop} {w:World}: ∀(l:List kQ) (aE:List Value),(∀c,mh c l=true->(ρ' c).bh=(ρ c).bh)->hZ ρ I w l aE->hZ ρ' I w l aE
 | [],_,_,h=>h
 | .p b o::l,_,dr,⟨v,r,e,E,G⟩=>⟨v,r,e,(by have e:=dr b (by simp[mh]);simp only[xn] at*;rw[e];exact E),hZ.bh l r (fun c J=>dr c (by simp[mh,J])) G⟩
 | .d x::l,_,dr,⟨v,r,e,E,G⟩=>⟨v,r,e,E,hZ.bh l r (fun c J=>dr c (by simpa[mh] using J)) G⟩
theorem d1.bh {ρ ρ':Nat->bo} {I:Nat->Prop} {w:World} (s:bC) (v:Value) (O:KT s=true) (dr: ∀c,s.has c=true->(ρ' c).bh=(ρ c).bh) (h:d1 ρ I w s v):d1 ρ' I w s v:=by
 cases s with
 |ptr c off=>
  have e:=dr c ay3;simp only[d1] at*;rw[e];exact h
 |gj c s i off=>
  have e:=dr c ay3;simp only[d1] at*;rw[e];exact h
 |mp c=>
  have e:=dr c ay3;simp only[d1] at*;rw[e];exact h
 |cY f l=>obtain⟨aE,e,h⟩:=h;exact⟨aE,e,hZ.bh l aE dr h⟩
 |own c=>cases O
 |os c s off n=>cases O
 |d x=>exact h
 |el u x off=>exact h
 |dH=>exact h
 |bM u=>exact h
 |any=>trivial
theorem cc.bh {ρ ρ':Nat->bo} {I:Nat->Prop} {w:World}: ∀(l:List bC) (aE:List Value),l.all KT=true->(∀c,mM c l=true->(ρ' c).bh=(ρ c).bh)->cc ρ I w l aE->cc ρ' I w l aE
 | [],_,_,_,h=>h
 |s::l,_,O,dr,⟨v,r,e,E,G⟩=>by
  rw[List.all_cons,vj] at O;exact⟨v,r,e,d1.bh s v O.1 (fun c J=>dr c (by simp[mM,J])) E,cc.bh l r O.2 (fun c J=>dr c (by simp[mM,J])) G⟩
theorem j3.cells {l:List bC} (O:l.all KT=true):j3 (.cells l):=by
 rintro ρ ρ' I F w p i5 dr ae ⟨E,aE,T,G,al⟩;exact⟨fun b=>by rw[ae];exact E b,aE,T,by rw[ae];exact G,cc.bh l aE O dr al⟩
theorem j3.map {aH aJ:bA} {es:List (aa aH×aa aJ)}:j3 (.map aH aJ es):=by
 rintro ρ ρ' I F w p i5 dr ae ⟨E,bU,bV,G,al,aW⟩;exact⟨fun b=>by rw[ae];exact E b,bU,bV,by rw[ae];exact G,al,aW⟩
theorem j3.bw {L:List (Nat×bg)}:j3 (.aF (.bw L)):=fun _ _ _ _ _ _ _ _ _ h=>h
theorem j3.i9 {c:Nat} {bp:ay} (h: ∀d ch,aj bp d=some ch->j3 ch):j3 (.aF (.i9 c bp)):=by
 rintro mN sI I F w p i5 _ ae ⟨ρ,b9,E,G,al,aW⟩
 have O: ∀d,(dc ρ c i5 d).bh=(ρ d).bh:=fun d=>by
  by_cases e:d=c
  .subst e;rw[dd,ae,E]
  .rw[dm _ _ e]
 exact⟨dc ρ c i5,b9,dd ..,fun d ch H=>h d ch H ρ (dc ρ c i5) _ _ _ (ρ d) (dc ρ c i5 d) (fun e _=>O e) (O d) (G d ch H),al,aW⟩
def Gj:ay->Prop
 | []=>True
 |(_,ch)::bp=>j3 ch/\Gj bp
theorem CO: ∀{bp:ay},Gj bp-> ∀d ch,aj bp d=some ch->j3 ch
 | [],_,d,ch,H=>by cases H
 |(e,x)::bp,h,d,ch,H=>by
  rw[cd] at H
  split at H
  .injection H with H;subst H;exact h.1
  .exact CO h.2 d ch H
def Gk (bp:ay) (bs:Nat->Nat) (I F:Nat->Prop) (w:World):Prop:=
 ∃(ρ:Nat->bo) (b9:Nat->Nat->Prop),(∀d ch,aj bp d=some ch->(ρ d).bh=bs d)/\(∀d ch,aj bp d=some ch->Holds ρ I (b9 d) w (ρ d) ch)/\
  (∀d cT ch ch' b,aj bp d=some ch->aj bp cT=some ch'->d≠cT->b9 d b-> ¬b9 cT b)/\ ∀b,F b↔ ∃d ch,aj bp d=some ch/\b9 d b
def bg.nu (bp:ay) (bs:Nat->Nat):bg where
 bn:=fun I F w _=>Gk bp bs I F w
 ck:=fun I F w I' w' p ⟨ρ,b9,av,G,al,aW⟩ U bd aR=>⟨ρ,b9,av,fun d ch H=>Holds.ck U (fun b O=>bd b ((aW b).2 ⟨d,ch,H,O⟩)) aR ch (fun _ _=>rfl) (G d ch H),al,aW⟩
section
variable {ids:aA1} {K:aX} {B:ay}
theorem c5.mark (d m:Nat) (aw:g9 ids K B m=true) (a6:d≠m):c5 ids K B (fun _:Nat=>K) (fun b=>(m,.cg d (fg b))::B):=by
 rintro N C a w ⟨hn,H,ρ,F,ar,au⟩;have cE:=kV aw
 obtain⟨bP,aZ⟩:=ar.make (ch:=.cg d (fg (ρ d).bh)) (w':=w) aw (Below.refl _ _) ⟨0,none,0,0⟩ (fun _=>False) (fun _ h=>h.elim) (fun I _ _=>by
  show(fg (ρ d).bh (dc ρ m _ d)).bn I _ w _;rw[dm _ _ a6];exact⟨rfl,fun _ h=>h⟩)
 exact⟨(ρ d).bh,hn,H,_,_,bP,au.mono aZ fun s c J=>dm _ _ (fun e=>by subst e;rw[cE.1 s] at J;cases J)⟩
theorem ab.place (d m b:Nat) (H:g9 ids K B d=true) (aw:g9 ids K B m=true) (a6:d≠m):ab ids K B K ((m,.cg d (fg b))::B):=by
 rintro N C a w ⟨hn,mr,ρ,F,ar,au⟩;have io:=kV H;have jB:=kV aw
 obtain⟨bP,aZ⟩:=ar.step (B':=(m,.cg d (fg b))::B) (ρ':=dc ρ d ⟨b,none,0,0⟩) (F':=dc F m fun _=>False) (w':=w) (fun c=>c=m\/c=d) (fun c=>c=d) (cP.refl _ _)
  (fun c ch J aw=>by
   rw[cd,if_neg (fun e=>aw (.inl e.symm))] at J;exact J)
  (fun c J=>dm _ _ J) (fun c J=>dm _ _ (fun e=>J (.inl e))) (fun c J e=>io.2.2.2 (e▸J)) (fun c J=>.inr J)
  (fun c ch J _ j V e=>by subst e;rw[io.2.2.1 c ch J] at V;cases V)
  (fun c ch J aw aZ=>by
   rw[cd] at J
   split at J
   .rename_i e;subst e;injection J with J
    subst J;rw[dd];show(fg b (dc ρ d _ d)).bn _ _ w _;rw[dd];exact⟨rfl,fun _ h=>h⟩
   .rename_i e;rcases aw with aw |aw
    .exact absurd aw.symm e
    .rw[aw,io.2.1] at J;cases J)
  (fun c ch J aw x hx=>by
   rw[cd] at J
   split at J
   .rename_i e;subst e;rw[dd] at hx;exact hx.elim
   .rename_i e;rcases aw with aw |aw
    .exact absurd aw.symm e
    .rw[aw,io.2.1] at J;cases J)
  (fun c b7 ch ch' x J cQ aw gv KH hx=>by
   have key: ∀c ch,aj ((m,ba.cg d (fg b))::B) c=some ch->(c=m\/c=d)->c=m:=fun c ch J aw=>by
    rcases aw with aw |aw
    .exact aw
    .rw[cd,if_neg (fun e=>a6 (aw.symm.trans e.symm)),aw,io.2.1] at J
     cases J
   exact absurd ((key c ch J aw).trans (key b7 ch' cQ gv).symm) KH)
 exact⟨hn,mr,_,_,bP,au.mono aZ fun s c J=>dm _ _ (fun e=>by subst e;rw[io.1 s] at J;cases J)⟩
def Gl (B:ay) (lo bs:Nat->Nat):ay->Prop
 | []=>True
 |(d,_)::bp=>aj B (lo d)=some (.cg d (fg (bs d)))/\Gl B lo bs bp
theorem KU {lo bs:Nat->Nat}: ∀{bp:ay},Gl B lo bs bp-> ∀{d ch},aj bp d=some ch->aj B (lo d)=some (.cg d (fg (bs d)))
 | [],_,d,ch,H=>by cases H
 |(e,x)::bp,h,d,ch,H=>by
  rw[cd] at H
  split at H
  .rename_i e;subst e;exact h.1
  .exact KU h.2 H
theorem ab.KV (g:Nat) (bp:ay) (lo bs:Nat->Nat) (dy:kT B bp) (aw:Gl B lo bs bp) (aY:aj B g=none):ab ids K B K ((g,.aF (.nu bp bs))::pT (cm bp) B):=by
 rintro N C a w ⟨hn,H,ρ,F,ar,au⟩;have ap: ∀{d ch},aj bp d=some ch->aj B d=some ch:=fun {d ch} h=>kz dy h
 have Gm:g∉cm bp:=fun h=>by obtain⟨ch,h⟩:=gw.1 h;rw[ap h] at aY;cases aY
 have key: ∀d ch,aj ((g,ba.aF (.nu bp bs))::pT (cm bp) B) d=some ch->(d=g\/d∈cm bp)->d=g/\ch= .aF (.nu bp bs):=fun d ch H aw=>by
  rw[cd] at H
  split at H
  .rename_i e;injection H with H;exact⟨e.symm,H.symm⟩
  .rename_i e;rcases aw with aw |aw
   .exact absurd aw.symm e
   .rw[xZ,if_pos aw] at H;cases H
 obtain⟨bP,aZ⟩:=ar.step (B':=(g,.aF (.nu bp bs))::pT (cm bp) B) (ρ':=ρ) (F':=dc F g (fun x=> ∃d ch,aj bp d=some ch/\F d x)) (w':=w) (fun d=>d=g\/d∈cm bp) (fun _=>False) (cP.refl _ _)
  (fun d ch H aw=>by
   rw[cd,if_neg (fun e=>aw (.inl e.symm)),xZ,if_neg (fun h=>aw (.inr h))] at H;exact H)
  (fun _ _=>rfl) (fun d aw=>dm _ _ (fun e=>aw (.inl e))) (fun _ _ h=>h) (fun _ h=>h.elim) (fun _ _ _ _ _ _ h=>h)
  (fun d ch H gv aZ=>by
   obtain⟨rfl,rfl⟩:=key d ch H gv;rw[dd];refine⟨ρ,F,fun d ch h=>?_,fun d ch h=>Holds.ck aZ (fun _ _=>rfl) (aq4 _) ch (fun _ _=>rfl) (ar.holds d ch (ap h)),fun d cT ch ch' b h h' a6=>ar.fj d cT ch ch' b (ap h) (ap h') a6,fun b=>Iff.rfl⟩;exact(ar.holds _ _ (KU aw h)).1)
  (fun d ch H gv x hx=>by
   obtain⟨rfl,rfl⟩:=key d ch H gv;rw[dd] at hx;obtain⟨cT,ch',E,G⟩:=hx;exact⟨(ar.own cT ch' (ap E) x G).1,.inl ⟨cT,ch',ap E,.inr (gw.2 ⟨ch',E⟩),G⟩⟩)
  (fun d cT ch ch' x H dn adf nv a6=>absurd ((key d ch H adf).1.trans (key cT ch' dn nv).1.symm) a6)
 exact⟨hn,H,ρ,_,bP,au.mono aZ fun _ _ _=>rfl⟩
theorem ab.KW (g:Nat) (bp:ay) (lo bs:Nat->Nat) (aY:aj B g=some (.aF (.nu bp bs))) (aw:Gl B lo bs bp) (Z:((cm bp).all fun d=>(aj B d).isNone)=true) (ha:v' (cm bp) bp=true) (xH: ∀d ch,aj bp d=some ch->j3 ch):ab ids K B K (bp++gY B g):=by
 rintro N C a w ⟨hn,H,ρ,F,ar,au⟩;obtain⟨Am,b9,E,G,al,aW⟩:Gk bp bs (b5 C B F w) (F g) w:=ar.holds g _ aY
 have Aj: ∀{d ch},aj bp d=some ch->aj B d=none:=fun {d ch} h=>by
  have:=as9.1 Z d (gw.2 ⟨ch,h⟩);simpa using this
 have Gm:aj bp g=none:=by
  cases e:aj bp g with
  |none=>rfl
  |some ch=>rw[Aj e] at aY;cases aY
 have jY: ∀{d ch},aj bp d=some ch->(ρ d).bh=(Am d).bh:=fun {d ch} h=>((ar.holds _ _ (KU aw h)).1:(ρ d).bh=bs d).trans (E d ch h).symm
 have mo: ∀d ch,aj (bp++gY B g) d=some ch->aj bp d=some ch\/(aj bp d=none/\d≠g/\aj B d=some ch):=fun d ch h=>by
  rw[iQ] at h
  cases e:aj bp d with
  |some x=>rw[e] at h;exact .inl h
  |none=>
   rw[e,hv] at h;simp only at h
   split at h
   .cases h
   .rename_i a6;exact .inr ⟨rfl,fun e=>a6 e.symm,h⟩
 let cN:Nat->Nat->Prop:=fun d=>if(aj bp d).isSome=true then b9 d else F d
 have af: ∀{d ch},aj bp d=some ch->cN d=b9 d:=fun {d ch} h=>if_pos (by rw[h];rfl)
 have ao: ∀{d},aj bp d=none->cN d=F d:=fun {d} h=>if_neg (by rw[h];decide)
 obtain⟨bP,aZ⟩:=ar.step (B':=bp++gY B g) (ρ':=ρ) (F':=cN) (w':=w) (fun d=>d=g\/(aj bp d).isSome=true) (fun _=>False) (cP.refl _ _)
  (fun d ch H aw=>by
   rcases mo d ch H with h |⟨_,_,h⟩
   .exact absurd (.inr (by rw[h];rfl)) aw
   .exact h)
  (fun _ _=>rfl) (fun d aw=>ao (by cases e:aj bp d with
   |none=>rfl
   |some x=>exact absurd (.inr (by rw[e];rfl)) aw)) (fun _ _ h=>h) (fun _ h=>h.elim) (fun _ _ _ _ _ _ h=>h)
  (fun d ch H aw aZ=>by
   rcases mo d ch H with h |⟨h,a6,h'⟩
   .rw[af h];refine xH d ch h Am ρ _ _ w (Am d) (ρ d) (fun c J=>?_) (jY h) (Holds.ck aZ (fun _ _=>rfl) (aq4 _) ch (fun _ _=>rfl) (G d ch h));have:=ba.kB (xM ha h) J;obtain⟨ch',h'⟩:=gw.1 this;exact jY h'
   .rcases aw with aw |aw
    .exact absurd aw a6
    .rw[h] at aw;cases aw)
  (fun d ch H aw x hx=>by
   rcases mo d ch H with h |⟨h,a6,h'⟩
   .rw[af h] at hx;have:F g x:=(aW x).2 ⟨d,ch,h,hx⟩;exact⟨(ar.own g _ aY x this).1,.inl ⟨g,_,aY,.inl rfl,this⟩⟩
   .rcases aw with aw |aw
    .exact absurd aw a6
    .rw[h] at aw;cases aw)
  (fun d cT ch ch' x H dn aw gv a6 hx dM=>by
   rcases mo d ch H with h |⟨h,hn,_⟩
   .rcases mo cT ch' dn with h' |⟨h',u2,_⟩
    .rw[af h] at hx;rw[af h'] at dM;exact al d cT ch ch' x h h' a6 hx dM
    .rcases gv with gv |gv
     .exact absurd gv u2
     .rw[h'] at gv;cases gv
   .rcases aw with aw |aw
    .exact absurd aw hn
    .rw[h] at aw;cases aw)
 exact⟨hn,H,ρ,_,bP,au.mono aZ fun _ _ _=>rfl⟩
def bg.pU (am:Nat) (o:bg) (q:bo):bg where
 bn:=fun I F w p=>q.bh=am/\o.bn I F w p
 ck:=fun I F w I' w' p h U bd aR=>⟨h.1,o.ck I F w I' w' p h.2 U bd aR⟩
theorem ab.pU (g c am:Nat) {o sM:bg} (aY:aj B g=some (.aF o)) (J:aj B c=some (.aF (sM.at am))) (a6:g≠c):ab ids K B K ((c,.aF sM)::(g,.cg c (.pU am o))::B):=by
 rintro N C a w ⟨hn,H,ρ,F,ar,au⟩;have aG:(ρ c).bh=am:=(ar.holds c _ J).1;obtain⟨kA,nw⟩:=ar.h0 (w':=w) (ch:=.cg c (.pU am o)) aY (cP.refl _ _) fun I a2=>⟨aG,o.ck _ _ _ _ _ _ (ar.holds g _ aY) a2 (fun _ _=>rfl) (aq4 _)⟩
 have dX:aj ((g,ba.cg c (.pU am o))::B) c=some (.aF (sM.at am)):=by rw[cd,if_neg a6];exact J
 obtain⟨iY,uO⟩:=kA.h0 (w':=w) (ch:=.aF sM) dX (cP.refl _ _) fun I a2=>sM.ck _ _ _ _ _ _ (kA.holds c _ dX).2 a2 (fun _ _=>rfl) (aq4 _)
 exact⟨hn,H,ρ,F,iY,au.mono (nw.trans uO) fun _ _ _=>rfl⟩
theorem ab.adg (g c am:Nat) {o sM:bg} (aY:aj B g=some (.cg c (.pU am o))) (J:aj B c=some (.aF sM)) (a6:g≠c):ab ids K B K ((c,.aF (sM.at am))::(g,.aF o)::B):=by
 rintro N C a w ⟨hn,H,ρ,F,ar,au⟩;have bj:(bg.pU am o (ρ c)).bn (b5 C B F w) (F g) w (ρ g):=ar.holds g _ aY;obtain⟨kA,nw⟩:=ar.h0 (w':=w) (ch:=.aF o) aY (cP.refl _ _) fun I a2=>o.ck _ _ _ _ _ _ bj.2 a2 (fun _ _=>rfl) (aq4 _)
 have dX:aj ((g,ba.aF o)::B) c=some (.aF sM):=by rw[cd,if_neg a6];exact J
 obtain⟨iY,uO⟩:=kA.h0 (w':=w) (ch:=.aF (sM.at am)) dX (cP.refl _ _) fun I a2=>⟨bj.1,sM.ck _ _ _ _ _ _ (kA.holds c _ dX) a2 (fun _ _=>rfl) (aq4 _)⟩
 exact⟨hn,H,ρ,F,iY,au.mono (nw.trans uO) fun _ _ _=>rfl⟩
theorem ab.adh (g c m am:Nat) {o:bg} (aY:aj B g=some (.cg c (.pU am o))) (aw:g9 ids K B m=true) (a6:c≠m):ab ids K B K ((m,.cg c (fg am))::B):=by
 rintro N C a w ⟨hn,H,ρ,F,ar,au⟩;have cE:=kV aw;have bj:(bg.pU am o (ρ c)).bn (b5 C B F w) (F g) w (ρ g):=ar.holds g _ aY
 obtain⟨bP,aZ⟩:=ar.make (ch:=.cg c (fg am)) (w':=w) aw (Below.refl _ _) ⟨0,none,0,0⟩ (fun _=>False) (fun _ h=>h.elim) (fun I _ _=>by
  show(fg am (dc ρ m _ c)).bn I _ w _;rw[dm _ _ a6];exact⟨bj.1,fun _ h=>h⟩)
 exact⟨hn,H,_,_,bP,au.mono aZ fun s c J=>dm _ _ (fun e=>by subst e;rw[cE.1 s] at J;cases J)⟩
theorem ab.e6 (g c am:Nat) {o:bg} (aY:aj B g=some (.cg c (.pU am o))):ab ids K B K ((g,.aF o)::B):=by
 rintro N C a w ⟨hn,H,ρ,F,ar,au⟩;have bj:(bg.pU am o (ρ c)).bn (b5 C B F w) (F g) w (ρ g):=ar.holds g _ aY;obtain⟨kA,nw⟩:=ar.h0 (w':=w) (ch:=.aF o) aY (cP.refl _ _) fun I a2=>o.ck _ _ _ _ _ _ bj.2 a2 (fun _ _=>rfl) (aq4 _)
 exact⟨hn,H,ρ,F,kA,au.mono nw fun _ _ _=>rfl⟩
theorem ab.adi (g c m am:Nat) {o:bg} (aY:aj B g=some (.aF o)) (aw:aj B m=some (.cg c (fg am))):ab ids K B K ((g,.cg c (.pU am o))::B):=by
 rintro N C a w ⟨hn,H,ρ,F,ar,au⟩;have aG:(ρ c).bh=am:=(ar.holds m _ aw).1;obtain⟨kA,nw⟩:=ar.h0 (w':=w) (ch:=.cg c (.pU am o)) aY (cP.refl _ _) fun I a2=>⟨aG,o.ck _ _ _ _ _ _ (ar.holds g _ aY) a2 (fun _ _=>rfl) (aq4 _)⟩
 exact⟨hn,H,ρ,F,kA,au.mono nw fun _ _ _=>rfl⟩
theorem ab.adj (c b:Nat) {o:bg} (J:aj B c=some (.aF (o.at b))):ab ids K B K ((c,.aF o)::B):=by
 rintro N C a w ⟨hn,H,ρ,F,ar,au⟩;obtain⟨kA,nw⟩:=ar.h0 (w':=w) (ch:=.aF o) J (cP.refl _ _) fun I a2=>o.ck _ _ _ _ _ _ (ar.holds c _ J).2 a2 (fun _ _=>rfl) (aq4 _)
 exact⟨hn,H,ρ,F,kA,au.mono nw fun _ _ _=>rfl⟩
theorem pV {N:Nat} {C:fi} {a:Act} {w:World} {ρ:Nat->bo} {F:Nat->Nat->Prop} (ar:Mem ids C B ρ F w) {m d b:Nat} (aw:aj B m=some (.cg d (fg b))):(ρ d).bh=b:=(ar.holds m _ aw).1
theorem ab.Gn (s d m b:Nat) (ax:dI K s= .c (.one (.ptr d 0))) (aw:aj B m=some (.cg d (fg b))):ab ids K B ((s,.c (.one (.d (.aL (some b)))))::K) B:=by
 rintro N C a w ⟨hn,H,ρ,F,ar,au⟩;refine⟨hn,H,ρ,F,ar,fun t=>?_⟩;rw[kp]
 split
 .rename_i e;subst e;have h:=au s;rw[ax] at h;have e:=pV (N:=N) (a:=a) ar aw;rw[<-e];exact h
 .exact au t
theorem ab.KX (s d m b:Nat) (ax:dI K s= .c (.one (.d (.aL (some b))))) (aw:aj B m=some (.cg d (fg b))):ab ids K B ((s,.c (.one (.ptr d 0)))::K) B:=by
 rintro N C a w ⟨hn,H,ρ,F,ar,au⟩;refine⟨hn,H,ρ,F,ar,fun t=>?_⟩;rw[kp]
 split
 .rename_i e;subst e;have h:=au s;rw[ax] at h;have e:=pV (N:=N) (a:=a) ar aw;rw[<-e] at h;exact h
 .exact au t
theorem ab.RE (s d b:Nat) {o:bg} (ax:dI K s= .c (.one (.d (.aL (some b))))) (H:aj B d=some (.aF (o.at b))):ab ids K B ((s,.c (.one (.ptr d 0)))::K) B:=by
 rintro N C a w ⟨hn,mr,ρ,F,ar,au⟩;refine⟨hn,mr,ρ,F,ar,fun t=>?_⟩;rw[kp]
 split
 .rename_i e;subst e;have h:=au s;rw[ax] at h;have e:(ρ d).bh=b:=(ar.holds d _ H).1;rw[<-e] at h;exact h
 .exact au t
theorem ab.adk (s f hM jj m1 m2 b1 b2:Nat) (ax:dI K s= .c (.one (.cY f [.p hM 0,.p jj 0]))) (E:aj B m1=some (.cg hM (fg b1))) (G:aj B m2=some (.cg jj (fg b2))):ab ids K B ((s,.c (.one (.d (.fn (f,[b1,b2])))))::K) B:=by
 rintro N C a w ⟨hn,H,ρ,F,ar,au⟩;refine⟨hn,H,ρ,F,ar,fun t=>?_⟩;rw[kp]
 split
 .rename_i e;subst e;have h:=au s;rw[ax] at h;obtain⟨aE,e,kS,r1,af,g1,v2,r2,ao,g2,c2⟩:=h;have ce:=pV (N:=N) (a:=a) ar E;have cR:=pV (N:=N) (a:=a) ar G;have g1:kS= .pointer (some ⟨(ρ hM).bh,0,none⟩):=g1;have g2:v2= .pointer (some ⟨(ρ jj).bh,0,none⟩):=g2;have c2:r2=[]:=c2;show a.tmps.getD s undef=mL (f,[b1,b2]);rw[e,af,ao,g1,g2,c2,ce,cR];rfl
 .exact au t
end
end
section
section
variable {P:Program} {ids:aA1} {K:aX} {B:ay} {o:Oper}
abbrev CP (T b:Nat):aO:=.c (.one (.bM (.iface T (.pointer (some ⟨b,0,none⟩)))))
abbrev RF:aO:=.c (.one (.bM .nilIface))
theorem adl {T e f:Nat} {name:String} {de:TypeInfo} {m:Method} {p:Value} {w:World} {fuel:Nat} (aG:P.info? T=some de) (aw:de.methods.find? (·.name == name)=some m) (ae:m.path= #[]) (jk:m.func=some (f,true)) (a8:P.underlying T=some (.pointer e)):
  (Go.method (fuel+1) T p name).run P w= .ok (f,p) w:=by
 unfold Go.method;simp[typeInfo,aG,aw,ae,jk,Go.follow,Go.receiverAt,underlying,a8,Place.get,go_sem]
theorem Gp {x:Operand} {T e b:Nat} (ag:o.op= .makeInterface T x) (a8:P.underlying T=some (.pointer e)) (hx:a7 K x= .c (.one (.d (.aL (some b))))) (N:Nat):bB P N ids o K B (CP T b) ⟨[],[],[]⟩:=by
 have m1:x∈o.op.operands:=aw7
 refine bB.val fun K' B' g1 g2 C ρ F a w ar au=>?_
 have af:a.eval x= .pointer (some ⟨b,0,none⟩):=au.ev ((g1 x m1).trans hx);refine⟨.iface T (.pointer (some ⟨b,0,none⟩)),?_,rfl⟩;simp only[execOp,ag,af];simp[Instr.makeInterface,underlying,a8,go_sem]
theorem RG {T:Nat} {lo:Array (String×TypeId)} {v:Value} {w:World} (a8:P.underlying T=some (.interface lo)) (bA:Nat) (d:Nat):(Op.equalIn (d+1) T (.iface bA v) .nilIface).run P w= .ok false w:=by
 unfold Op.equalIn;simp[underlying,a8,go_sem]
theorem RH {T:Nat} {lo:Array (String×TypeId)} {w:World} (a8:P.underlying T=some (.interface lo)) (d:Nat):(Op.equalIn (d+1) T .nilIface .nilIface).run P w= .ok true w:=by
 unfold Op.equalIn;simp[underlying,a8,go_sem]
theorem pW {x:Operand} {T fQ bA b:Nat} {lo:Array (String×TypeId)} (ag:o.op= .binOp .eql T x (.const .nilIface) fQ) (a8:P.underlying T=some (.interface lo)) (hx:a7 K x=CP bA b) (N:Nat):bB P N ids o K B (ro false) ⟨[],[],[]⟩:=by
 have m1:x∈o.op.operands:=aw7
 refine bB.val fun K' B' g1 g2 C ρ F a w ar au=>?_
 have af:a.eval x= .iface bA (.pointer (some ⟨b,0,none⟩)):=au.ev ((g1 x m1).trans hx);refine⟨.bool false,?_,rfl⟩;simp only[execOp,ag,af];have ao:(Op.equal T (.iface bA (.pointer (some ⟨b,0,none⟩))) .nilIface).run P w= .ok false w:=RG a8 bA 9999;simp[eqGuard,binOp,ao,Act.eval,go_sem]
theorem Gq {x:Operand} {T fQ bA b:Nat} {lo:Array (String×TypeId)} (ag:o.op= .binOp .neq T x (.const .nilIface) fQ) (a8:P.underlying T=some (.interface lo)) (hx:a7 K x=CP bA b) (N:Nat):bB P N ids o K B (ro true) ⟨[],[],[]⟩:=by
 have m1:x∈o.op.operands:=aw7
 refine bB.val fun K' B' g1 g2 C ρ F a w ar au=>?_
 have af:a.eval x= .iface bA (.pointer (some ⟨b,0,none⟩)):=au.ev ((g1 x m1).trans hx);refine⟨.bool true,?_,rfl⟩;simp only[execOp,ag,af];have ao:(Op.equal T (.iface bA (.pointer (some ⟨b,0,none⟩))) .nilIface).run P w= .ok false w:=RG a8 bA 9999;simp[eqGuard,binOp,ao,Act.eval,go_sem]
theorem RI {x:Operand} {T fQ:Nat} {lo:Array (String×TypeId)} (ag:o.op= .binOp .eql T x (.const .nilIface) fQ) (a8:P.underlying T=some (.interface lo)) (hx:a7 K x=RF) (N:Nat):bB P N ids o K B (ro true) ⟨[],[],[]⟩:=by
 have m1:x∈o.op.operands:=aw7
 refine bB.val fun K' B' g1 g2 C ρ F a w ar au=>?_
 have af:a.eval x= .nilIface:=au.ev ((g1 x m1).trans hx);refine⟨.bool true,?_,rfl⟩;simp only[execOp,ag,af];have ao:(Op.equal T .nilIface .nilIface).run P w= .ok true w:=RH a8 9999;simp[eqGuard,binOp,ao,Act.eval,go_sem]
theorem qC {x:Operand} {T fQ:Nat} {lo:Array (String×TypeId)} (ag:o.op= .binOp .neq T x (.const .nilIface) fQ) (a8:P.underlying T=some (.interface lo)) (hx:a7 K x=RF) (N:Nat):bB P N ids o K B (ro false) ⟨[],[],[]⟩:=by
 have m1:x∈o.op.operands:=aw7
 refine bB.val fun K' B' g1 g2 C ρ F a w ar au=>?_
 have af:a.eval x= .nilIface:=au.ev ((g1 x m1).trans hx);refine⟨.bool false,?_,rfl⟩;simp only[execOp,ag,af];have ao:(Op.equal T .nilIface .nilIface).run P w= .ok true w:=RH a8 9999;simp[eqGuard,binOp,ao,Act.eval,go_sem]
theorem adm {ev:Operand->Value} {f:FuncId} {c:Call} {x:Operand} {xs:List Operand} {p:Value} {w:World} {T e:Nat} {name:String} {de:TypeInfo} {m:Method} {fuel:Nat} (hf:jz P f=true) (ag:o.op= .call c) (E:c.callee= .invoke x name) (G:c.args.toList=xs) (uJ:ev x= .iface T p)
  (hn:P.types.size+Made.depth=fuel+1) (aG:P.info? T=some de) (aw:de.methods.find? (·.name == name)=some m) (ae:m.path= #[]) (jk:m.func=some (f,true)) (a8:P.underlying T=some (.pointer e)):(execOp ev o).run P w= .ok (.enter f (p::xs.map ev).toArray) w:=by
 have fG:c.args=xs.toArray:=by rw[<-G]
 have adn:=adl (w:=w) (p:=p) (fuel:=fuel) aG aw ae jk a8;obtain⟨sA,args,cv⟩:=c;simp only at E fG;subst E fG;unfold jz at hf
 split at hf
 .rename_i fn ado;simp only[Bool.not_eq_true',Bool.or_eq_false_iff,beq_eq_false_iff_ne] at hf;have G: ¬fn.body=none:=fun e=>by rw[e] at hf;simp at hf
  have adp:(Go.method (P.types.size+100) T p name).run P w= .ok (f,p) w:=by rw[show P.types.size+100=fuel+1 from hn];exact adn
  simp[execOp,ag,resolve,invoke,uJ,callMethod,callFunc,go_sem,ado,adp];rw[if_neg hf.1,if_neg G,List.take_of_length_le (by rw[ar7];exact aq4 _)]
 .cases hf
theorem adq {f:FuncId} {c:Call} {x:Operand} {b:Nat} {xs:List Operand} {aI:ay} {res:aO} {aN:ay} {T e:Nat} {name:String} {de:TypeInfo} {m:Method} {fuel:Nat} (ag:o.op= .call c) (E:c.callee= .invoke x name) (G:c.args.toList=xs) (hx:a7 K x=CP T b)
  (hn:P.types.size+Made.depth=fuel+1) (aG:P.info? T=some de) (aw:de.methods.find? (·.name == name)=some m) (ae:m.path= #[]) (jk:m.func=some (f,true)) (a8:P.underlying T=some (.pointer e))
  (hf:Fn P f (.c (.one (.d (.aL (some b))))::xs.map (a7 K)) aI [] res aN) (h2:kT B aI) (bz:mQ aI [] aN=true) (N:Nat):
  bB P N ids o K B res ⟨cm aI,[],iL aI aN⟩:=by
 have mem: ∀aB∈xs,aB∈o.op.operands:=fun aB aR=>by
  rw[ag];simp only[Op.operands,Call.operands,Array.mem_append];exact .inr (Array.mem_toList_iff.1 (by rw[G];exact aR))
 have xI:x∈o.op.operands:=by
  rw[ag];simp only[Op.operands,Call.operands,Array.mem_append,E];exact .inl aw2
 obtain⟨v,e,⟨rfl,rfl⟩,aq,_⟩:cI P N ids o K B (fun v e=>v=res/\e=⟨cm aI,[],iL aI aN⟩):=B3 (args:=.c (.one (.d (.aL (some b))))::xs.map (a7 K)) mem (fun K' ρ I a w g1 au=>by
  have e:a.eval x= .iface T (.pointer (some ⟨b,0,none⟩)):=au.ev ((g1 x xI).trans hx);refine⟨.pointer (some ⟨b,0,none⟩)::xs.map a.eval,fun f3=>adm f3 ag E G e hn aG aw ae jk a8,aw2,fun i v x aA hx=>?_⟩
  match i with
  |0=>
   simp only[ar9,aq8] at aA hx;subst aA hx;exact rfl
  |i+1=>exact zP mem g1 au i v x ay1 az5) ⟨aI,[],res,aN,hf,h2,by rw[bz];rfl,by rw[sq];exact⟨rfl,rfl⟩⟩
 exact aq
end
end
section
def kh:List (Nat×bg)->Nat->List (Nat×bg)
 | [],_=>[]
 |(a,o)::L,b=>if a=b then L else(a,o)::kh L b
theorem KY {a b c:Prop}:(a\/b\/c)↔(b\/a\/c):=⟨fun h=>by
 rcases h with h |h |h
 .exact .inr (.inl h)
 .exact .inl h
 .exact .inr (.inr h),fun h=>by
 rcases h with h |h |h
 .exact .inr (.inl h)
 .exact .inl h
 .exact .inr (.inr h)⟩
theorem fo.lU {I:Nat->Prop} {w:World} {b:Nat} {o:bg}: ∀{L:List (Nat×bg)} {F:Nat->Prop},eB L b=some o->fo I w L F-> ∃(cz cN:Nat->Prop) (p:bo),(∀x,F x↔cz x\/cN x)/\(∀x,cz x-> ¬cN x)/\p.bh=b/\o.bn I cz w p/\fo I w (kh L b) cN
 | [],F,h,_=>by cases h
 |(a,q)::L,F,h,⟨o7,qz,p,E,G,al,aW,bG⟩=>by
  unfold eB at h;unfold kh
  split at h
  .rename_i e;injection h with h
   subst h;rw[if_pos e];exact⟨o7,qz,p,E,G,al.trans e,aW,bG⟩
  .rename_i e;rw[if_neg e];obtain⟨cz,cN,d6,g1,g2,c2,jC,Cv⟩:=fo.lU h bG;refine⟨cz,fun x=>o7 x\/cN x,d6,fun x=>by rw[E,g1];exact KY,fun x hx aD=>?_,c2,jC,o7,cN,p,fun x=>Iff.rfl,fun x hx aD=>G x hx ((g1 x).2 (.inr aD)),al,aW,Cv⟩;rcases aD with aD |aD
   .exact G x aD ((g1 x).2 (.inl hx))
   .exact g2 x hx aD
theorem fo.KZ {I:Nat->Prop} {w:World} {b:Nat} {o o':bg} {cz:Nat->Prop} {p:bo} (ag:o'.bn I cz w p) (ae:p.bh=b): ∀{L:List (Nat×bg)} {F:Nat->Prop},eB L b=some o->fo I w (kh L b) F->(∀x,cz x-> ¬F x)->fo I w (ff L b o') (fun x=>cz x\/F x)
 | [],F,h,_,_=>by cases h
 |(a,q)::L,F,h,H,eG=>by
  unfold eB at h;unfold kh at H;unfold ff
  split at h
  .rename_i e;rw[if_pos e] at H⊢;exact⟨cz,F,p,fun x=>Iff.rfl,eG,ae.trans e.symm,ag,H⟩
  .rename_i e;rw[if_neg e] at H⊢;obtain⟨o7,qz,r,E,G,al,aW,bG⟩:=H
   refine⟨o7,fun x=>cz x\/qz x,r,fun x=>by
    show(cz x\/F x)↔(o7 x\/(cz x\/qz x));rw[E];exact KY,fun x hx aD=>?_,al,aW,fo.KZ ag ae h bG fun x hx aD=>eG x hx ((E x).2 (.inr aD))⟩
   rcases aD with aD |aD
   .exact eG x aD ((E x).2 (.inl hx))
   .exact G x hx aD
theorem x4 {o:bg} {b:Nat}: ∀{L:List (Nat×bg)},eB L b=some o->ff L b o=L
 | [],h=>by cases h
 |(a,q)::L,h=>by
  unfold eB at h;unfold ff
  split at h
  .rename_i e;injection h with h
   rw[if_pos e,h]
  .rename_i e;rw[if_neg e,x4 h]
section
variable {ids:aA1} {K:aX} {B:ay}
theorem ab.CQ (q c b:Nat) {o:bg} {L:List (Nat×bg)} (aP:aj B q=some (.aF (.bw L))) (cH:eB L b=some o) (J:g9 ids K B c=true):ab ids K B K ((c,.aF (o.at b))::(q,.aF (.bw (kh L b)))::B):=by
 rintro N C a w ⟨hn,H,ρ,F,ar,au⟩;have f:=kV J;obtain⟨cz,cN,p,E,G,al,aW,bG⟩:=fo.lU cH (ar.holds q _ aP:fo _ w L (F q))
 obtain⟨bP,aZ⟩:=ar.split (K:=K) (i3:=.aF (.bw (kh L b))) (oY:=.aF (o.at b)) aP J p cN cz (fun x hx=>(E x).2 (.inr hx)) (fun x hx=>(E x).2 (.inl hx)) (fun x hx aD=>G x aD hx)
  (fun I a2=>bG.ck a2 (aq4 _) (fun _ _=>rfl)) (fun I a2=>⟨al,o.ck _ _ _ _ _ _ aW a2 (fun _ _=>rfl) (aq4 _)⟩)
 exact⟨hn,H,_,_,bP,au.mono aZ fun s d H=>dm _ _ (fun e=>by subst e;rw[f.1 s] at H;cases H)⟩
theorem ab.RJ (q c b:Nat) {o o':bg} {L:List (Nat×bg)} (aP:aj B q=some (.aF (.bw (kh L b)))) (J:aj B c=some (.aF (o'.at b))) (cH:eB L b=some o) (a6:q≠c):ab ids K B K ((q,.aF (.bw (ff L b o')))::gY B c):=by
 rintro N C a w ⟨hn,H,ρ,F,ar,au⟩;have bl:fo (b5 C B F w) w (kh L b) (F q):=ar.holds q _ aP;have aq:(ρ c).bh=b/\o'.bn (b5 C B F w) (F c) w (ρ c):=ar.holds c _ J
 obtain⟨bP,aZ⟩:=ar.Ga (w':=w) (ch:=.aF (.bw (ff L b o'))) aP J a6 (fun x=>F c x\/F q x) (fun x hx=>hx.symm) (cP.refl _ _) fun I a2=>
  (fo.KZ aq.2 aq.1 cH bl (fun x hx aD=>ar.fj c q _ _ x J aP (Ne.symm a6) hx aD)).ck a2 (aq4 _) fun _ _=>rfl
 exact⟨hn,H,ρ,_,bP,au.mono aZ fun _ _ _=>rfl⟩
theorem ab.adr (q c b:Nat) {o:bg} {bp:ay} {bs:Nat->Nat} {L:List (Nat×bg)} (aP:aj B q=some (.aF (.bw (kh L b)))) (J:aj B c=some (.aF (.nu bp bs))) (cH:eB L b=some o) (a6:q≠c):ab ids K B K ((q,.aF (.bw (ff L b (.nu bp bs))))::gY B c):=by
 rintro N C a w ⟨hn,H,ρ,F,ar,au⟩;have bl:fo (b5 C B F w) w (kh L b) (F q):=ar.holds q _ aP;have aq:Gk bp bs (b5 C B F w) (F c) w:=ar.holds c _ J
 obtain⟨bP,aZ⟩:=ar.Ga (w':=w) (ch:=.aF (.bw (ff L b (.nu bp bs)))) aP J a6 (fun x=>F c x\/F q x) (fun x hx=>hx.symm) (cP.refl _ _) fun I a2=>
  (fo.KZ (o':=.nu bp bs) (p:=⟨b,none,0,0⟩) aq rfl cH bl (fun x hx aD=>ar.fj c q _ _ x J aP (Ne.symm a6) hx aD)).ck a2 (aq4 _) fun _ _=>rfl
 exact⟨hn,H,ρ,_,bP,au.mono aZ fun _ _ _=>rfl⟩
theorem Fn.ads {P:Program} {f:FuncId} {c q am:Nat} {args:List aO} {res:aO} {bp:ay} {bs:Nat->Nat} {M:List (Nat×bg)} (h:Fn P f (.c (.one (.ptr c 0))::args) bp [] res bp) (ar:eB M am=some (.nu bp bs)) (J:bs c=am) (CR:(aj bp c).isSome=true) (ha:(args.all fun v=>v.i7 [])=true) (aC:res.i7 []=true):
  Fn P f (.c (.one (.d (.aL (some am))))::args) [(q,.aF (.bw M))] [] res [(q,.aF (.bw M))]:=by
 obtain⟨f3,h⟩:=h;refine⟨f3,fun ρ F I w bW a2 c0 bd eG bZ dx=>?_⟩;have aP:aj [(q,ba.aF (.bw M))] q=some (.aF (.bw M)):=ax6
 have x5: ∀{d ch},aj [(q,ba.aF (.bw M))] d=some ch->d=q/\ch= .aF (.bw M):=fun {d ch} H=>by
  rw[cd] at H
  split at H
  .rename_i e;injection H with H;exact⟨e.symm,H.symm⟩
  .cases H
 have bl:fo I w M (F q):=c0 q _ aP;obtain⟨cz,cN,p,ce,cR,er,eQ,uW⟩:=bl.out ar;obtain⟨Am,b9,g1,g2,c2,jC⟩:Gk bp bs I cz w:=eQ;have fH: ∀{v:aO},v.i7 []=true-> ∀d,v.has d=true-> ∀(ρ ρ':Nat->bo),ρ' d=ρ d:=fun {v} aA d H _ _=>absurd (aO.kB aA H) List.not_mem_nil
 have K0: ∀y,(∃d ch,aj bp d=some ch/\b9 d y)-> ∃d ch,aj [(q,ba.aF (.bw M))] d=some ch/\F d y:=fun y aD=>⟨q,_,aP,(ce y).2 (.inl ((jC y).2 aD))⟩
 obtain⟨adt,oa⟩:=at5.1 CR
 match bW,bZ with
 |v0::bW,bZ=>
  have xX:v0= .pointer (some ⟨am,0,none⟩):=dx 0 _ v0 rfl rfl;refine(h Am b9 I w (v0::bW) a2 g2 (fun d ch H b O=>bd q _ aP b ((ce b).2 (.inl ((jC b).2 ⟨d,ch,H,O⟩)))) c2 (by simpa using bZ) ?_).mono ?_
  .intro i v x aA hx
   match i with
   |0=>
    simp only[ar9,aq8] at aA hx;subst aA hx;show v0= .pointer (some ⟨(Am c).bh,0,none⟩);rw[g1 c adt oa,J];exact xX
   |i+1=>
    have o0:args[i]? =some v:=ay1
    have:=as9.1 ha v (List.mem_of_getElem? o0);exact cx.mono (cj.refl _ _) v x (fun d H=>fH this d H _ _) (dx (i+1) v x ay1 hx)
  .rintro e w' ⟨x,ρ',F',rfl,cE,dr,I',jl,gL,lQ,aq,ip,sF⟩;have i6: ∀y,cN y-> ¬ ∃d ch,aj bp d=some ch/\b9 d y:=fun y aD kW=>cR y ((jC y).2 kW) aD
   have sG: ∀y,cN y->y < w.heap.size/\ ¬I y:=fun y aD=>bd q _ aP y ((ce y).2 (.inr aD))
   have mW: ∀y,cN y->w'.heap[y]? =w.heap[y]? :=fun y aD=>cE.block y (sG y aD).1 (i6 y aD)
   have tO: ∀y,(∃d ch,aj bp d=some ch/\F' d y)-> ¬cN y:=by
    rintro y ⟨d,ch,H,aD⟩ Cx;rcases(aq d ch H y aD).2.2 with h |h
    .exact i6 y Cx h
    .have:=(sG y Cx).1;omega
   have o1:=uW I' w' (.nu bp bs) (fun y=> ∃d ch,aj bp d=some ch/\F' d y) p jl cE.size mW er
    ⟨ρ',F',fun d ch H=>by rw[dr d List.not_mem_nil];exact g1 d ch H,lQ,ip,fun b=>Iff.rfl⟩ tO
   rw[x4 ar] at o1;refine⟨x,ρ,fun d=>if d=q then(fun y=>(∃d ch,aj bp d=some ch/\F' d y)\/cN y) else F' d,rfl,cE.mono fun y _ aD=>K0 y aD,fun d _=>rfl,I',jl,fun y aD=>⟨(gL y aD).1,?_⟩,?_,?_,?_,?_⟩
   .rcases(gL y aD).2 with h |h |h
    .exact .inl h
    .exact .inr (.inl (K0 y h))
    .exact .inr (.inr h)
   .intro d ch H;obtain⟨rfl,rfl⟩:=x5 H;simp only[if_true];exact o1
   .intro d ch H y aD;obtain⟨rfl,rfl⟩:=x5 H;simp only[if_true] at aD;rcases aD with⟨cT,ch',dn,aD⟩ |aD
    .obtain⟨b0,ca,a3⟩:=aq cT ch' dn y aD;exact⟨b0,ca,a3.imp (K0 y) id⟩
    .refine⟨Nat.lt_of_lt_of_le (sG y aD).1 cE.size,fun aG=>?_,.inl ⟨d,_,aP,(ce y).2 (.inr aD)⟩⟩;rcases(gL y aG).2 with h |h |h
     .exact(sG y aD).2 h
     .exact i6 y aD h
     .have:=(sG y aD).1;omega
   .intro d cT ch ch' y H dn a6;exact absurd ((x5 H).1.trans (x5 dn).1.symm) a6
   .exact cx.mono (cj.refl _ _) res x (fun d H=>fH aC d H _ _) sF
end
end
section
theorem cA.lW {P:Program} {f:FuncId} {c b:Nat} {args:List aO} {bp aI:ay} {bb:aA1} {X:Type} {res:X->aO} {dz aN:X->ay} (f4:aA1) (q:Nat)
  (h:cA P f (.c (.one (.ptr c 0))::args) (bp++aI) bb res (fun g=>dz g++aN g))
  (E:ob c f4 (.c (.one (.ptr c 0))::args) bp aI bb bb=true) (G: ∀g,oc c (mY f4 bb bb) (res g) (dz g) (aN g)=true)
  (al:(args.all fun v=> !v.has c)=true) (aW:kw c aI=true/\(aj aI q).isNone=true) (bG:(bb.contains c||bb.contains q)=false) (fP: ∀g,(kw c (aN g)&&(aj (aN g) q).isNone&& !(res g).has c)=true):
  cA P f (.c (.one (.d (.aL (some b))))::args) ((q,.aF (.bw [(b,.i9 c bp)]))::aI) bb res (fun g=>(q,.aF (.bw [(b,.i9 c (dz g))]))::aN g):=by
 have k:=cA.close (o:=.i9 c bp) (o':=fun g=>.i9 c (dz g)) f4 h (fun _ _ _ _ h=>h) (fun _ _ _ _ _ h=>h) E G;have cR:=cA.bw (L:=[(b,.i9 c bp)]) (b:=b) (q:=q) k (if_pos rfl) al aW bG fP;have e: ∀g,ff [(b,bg.i9 c bp)] b (bg.i9 c (dz g))=[(b,.i9 c (dz g))]:=fun g=>if_pos rfl
 simp only[e] at cR;exact cR
theorem Fn.lW {P:Program} {f:FuncId} {c b:Nat} {args:List aO} {bp dz:ay} {res:aO} (f4:aA1) (q:Nat)
  (h:Fn P f (.c (.one (.ptr c 0))::args) bp [] res dz)
  (E:ob c f4 (.c (.one (.ptr c 0))::args) bp [] [] []=true:=by first |rfl |decide) (G:oc c (mY f4 [] []) res dz []=true:=by first |rfl |decide)
  (al:(args.all fun v=> !v.has c)=true:=by first |rfl |decide) (aW:(!res.has c)=true:=by first |rfl |decide):
  Fn P f (.c (.one (.d (.aL (some b))))::args) [(q,.aF (.bw [(b,.i9 c bp)]))] [] res [(q,.aF (.bw [(b,.i9 c dz)]))]:=by
 refine cA.fn (cA.lW (X:=Unit) (aI:=[]) (aN:=fun _=>[]) (dz:=fun _=>dz) (res:=fun _=>res) f4 q (by rw[au0];simp only[au0];exact h.x) E (fun _=>G) al ⟨rfl,rfl⟩ rfl fun _=>?_);simp only[aW];rfl
def oh (b c d:Nat) (bp:ay) (q:bo):bg where
 bn:=fun I F w _=> ∃(ρ:Nat->bo) (b9:Nat->Nat->Prop),(ρ c).bh=b/\ρ d=q/\(∀e ch,aj bp e=some ch->Holds ρ I (b9 e) w (ρ e) ch)/\
  (∀e b6 ch ch' x,aj bp e=some ch->aj bp b6=some ch'->e≠b6->b9 e x-> ¬b9 b6 x)/\ ∀x,F x↔ ∃e ch,aj bp e=some ch/\b9 e x
 ck:=fun I F w I' w' p ⟨ρ,b9,E,av,G,al,aW⟩ U bd aR=>⟨ρ,b9,E,av,fun d ch H=>Holds.ck U (fun b O=>bd b ((aW b).2 ⟨d,ch,H,O⟩)) aR ch (fun _ _=>rfl) (G d ch H),al,aW⟩
def K1 (c d q:Nat) (args:List aO) (aI bp:ay) (res:aO) (aN dz:ay):Bool:=
 (cm bp).contains c&& !(cm bp).contains d&& !(cm bp).contains q&&((cm bp).all fun e=>kw e aI&&kw e aN&& !res.has e&&args.all fun v=> !v.has e)&&
  (aj aI q).isNone&&(aj aN q).isNone&&v' (d::cm bp) bp&&((cm dz).all fun e=>(cm bp).contains e)
theorem Fn.adu {P:Program} {f:FuncId} {c d q b:Nat} {args:List aO} {aI bp aN dz:ay} {res:aO} (h:Fn P f (.c (.one (.ptr c 0))::args) (aI++bp) [] res (aN++dz)) (Z:K1 c d q args aI bp res aN dz=true):
  Fn P f (.c (.one (.d (.aL (some b))))::args) (aI++[(q,.cg d (oh b c d bp))]) [] res (aN++[(q,.cg d (oh b c d dz))]):=by
 obtain⟨f3,h⟩:=h;simp only[K1,vj,Bool.not_eq_true',av6] at Z;obtain⟨⟨⟨⟨⟨⟨⟨b0,ca⟩,a3⟩,a4⟩,a5⟩,gD⟩,zw⟩,F2⟩:=Z;have b0:=tP b0;have ca:=wm ca;have a3:=wm a3
 have x6: ∀e,e∈cm bp->kw e aI=true/\kw e aN=true/\res.has e=false/\ ∀v,v∈args->v.has e=false:=fun e U=>by
  have:=as9.1 a4 e U;simp only[vj,Bool.not_eq_true'] at this;exact⟨this.1.1.1,this.1.1.2,this.1.2,fun v aA=>by simpa using as9.1 this.2 v aA⟩
 have adv: ∀e,e∈cm dz->e∈cm bp:=fun e U=>tP (as9.1 F2 e U)
 have one: ∀(B:ay) (ch:ba),aj B q=none->aj (B++[(q,ch)]) q=some ch:=fun B ch hn=>by rw[iQ,hn];simp[aj]
 have tS: ∀(B:ay) (x:ba) {e:Nat} {ch:ba},aj (B++[(q,x)]) e=some ch->(aj B e=some ch)\/(aj B e=none/\e=q/\ch=x):=fun B x {e ch} U=>by
  rw[iQ] at U
  cases bj:aj B e with
  |some y=>rw[bj] at U;exact .inl U
  |none=>
   rw[bj] at U;simp only[cd] at U
   split at U
   .rename_i ao;injection U with U;exact .inr ⟨rfl,ao.symm,U.symm⟩
   .cases U
 have hF: ∀(B:ay) (x:ba) {e:Nat} {ch:ba},aj B e=some ch->aj (B++[(q,x)]) e=some ch:=fun B x {e ch} U=>by rw[iQ,U]
 refine⟨f3,fun ρ F I w bW a2 c0 bd eG bZ dx=>?_⟩;have CS:=one aI (.cg d (oh b c d bp)) a5;obtain⟨o8,b9,cC,JR,cF,dD,fm⟩:(oh b c d bp (ρ d)).bn I (F q) w (ρ q):=c0 q _ CS;have e4: ∀{e ch},aj aI e=some ch->e∉cm bp/\e≠q:=fun {e ch} U=>⟨fun Z=>(by rw[(uB (x6 e Z).1).1] at U;cases U),fun ao=>(by rw[ao,a5] at U;cases U)⟩
 have iP: ∀{e ch},aj (aI++bp) e=some ch->(aj bp e=some ch/\e∈cm bp)\/(e∉cm bp/\aj aI e=some ch):=fun {e ch} U=>by
  rw[iQ] at U
  cases bj:aj aI e with
  |some ch'=>
   rw[bj] at U;exact .inr ⟨(e4 bj).1,U⟩
  |none=>
   rw[bj] at U;exact .inl ⟨U,gw.2 ⟨ch,U⟩⟩
 let uY:Nat->bo:=fun e=>if e∈cm bp then o8 e else ρ e
 let iZ:Nat->Nat->Prop:=fun e=>if e∈cm bp then b9 e else F e
 have wy: ∀e,e∉cm bp->uY e=ρ e:=fun e U=>if_neg U
 have xY: ∀e,e∈d::cm bp->uY e=o8 e:=fun e U=>by
  rcases aq7.1 U with rfl |U
  .rw[wy _ ca,JR]
  .exact if_pos U
 have mX: ∀y,(∃e ch,aj (aI++bp) e=some ch/\iZ e y)-> ∃e ch,aj (aI++[(q,ba.cg d (oh b c d bp))]) e=some ch/\F e y:=by
  rintro y ⟨e,ch,U,aD⟩;rcases iP U with⟨af,ao⟩ |⟨af,ao⟩
  .have aD:b9 e y:=by simpa only[iZ,if_pos ao] using aD
   exact⟨q,_,CS,(fm y).2 ⟨e,ch,af,aD⟩⟩
  .have aD:F e y:=by simpa only[iZ,if_neg af] using aD
   exact⟨e,ch,hF _ _ ao,aD⟩
 match bW,bZ with
 |v0::bW,bZ=>
 have xX:v0= .pointer (some ⟨b,0,none⟩):=dx 0 _ v0 rfl rfl;refine(h uY iZ I w (v0::bW) a2 ?_ ?_ ?_ (by simpa using bZ) ?_).mono ?_
 .intro e ch U;rcases iP U with⟨af,ao⟩ |⟨af,ao⟩
  .rw[xY e (aq6 _ ao)];simp only[iZ,if_pos ao];exact Holds.ck (cj.refl _ _) (fun _ _=>rfl) (aq4 _) ch (fun j V=>xY j (ba.kB (xM zw af) V)) (cF e ch af)
  .rw[wy e af];simp only[iZ,if_neg af];exact Holds.ck (cj.refl _ _) (fun _ _=>rfl) (aq4 _) ch (fun j V=>wy j (fun kZ=>by rw[(uB (x6 j kZ).1).2 e ch ao] at V;cases V)) (c0 e ch (hF _ _ ao))
 .intro e ch U x hx;rcases iP U with⟨af,ao⟩ |⟨af,ao⟩
  .simp only[iZ,if_pos ao] at hx;exact bd q _ CS x ((fm x).2 ⟨e,ch,af,hx⟩)
  .simp only[iZ,if_neg af] at hx;exact bd e ch (hF _ _ ao) x hx
 .intro e b6 ch ch' x U g0 a6 hx dM;rcases iP U with⟨af,ao⟩ |⟨af,ao⟩
  .simp only[iZ,if_pos ao] at hx;rcases iP g0 with⟨lh,jD⟩ |⟨lh,jD⟩
   .simp only[iZ,if_pos jD] at dM;exact dD e b6 ch ch' x af lh a6 hx dM
   .simp only[iZ,if_neg lh] at dM;exact eG q b6 _ ch' x CS (hF _ _ jD) (Ne.symm (e4 jD).2) ((fm x).2 ⟨e,ch,af,hx⟩) dM
  .simp only[iZ,if_neg af] at hx;rcases iP g0 with⟨lh,jD⟩ |⟨lh,jD⟩
   .simp only[iZ,if_pos jD] at dM;exact eG q e _ ch x CS (hF _ _ ao) (Ne.symm (e4 ao).2) ((fm x).2 ⟨b6,ch',lh,dM⟩) hx
   .simp only[iZ,if_neg lh] at dM;exact eG e b6 ch ch' x (hF _ _ ao) (hF _ _ jD) a6 hx dM
 .intro i v x aA hx
  match i with
  |0=>
   simp only[ar9,aq8] at aA hx;subst aA hx;show v0=_;rw[xY c (aq6 _ b0),cC];exact xX
  |i+1=>
   have o0:args[i]? =some v:=ay1
   exact cx.mono (cj.refl _ _) v x (fun j V=>wy j (fun kZ=>by rw[(x6 j kZ).2.2.2 v (List.mem_of_getElem? o0)] at V;cases V)) (dx (i+1) v x ay1 hx)
 .rintro e w' ⟨x,ρ',F',rfl,cE,dr,I',jl,gL,lQ,aq,ip,sF⟩;have adw:ρ'=uY:=funext fun e=>dr e aw2
  subst adw;have nr: ∀{e ch},aj aN e=some ch->e∉cm bp/\e≠q/\aj (aN++dz) e=some ch:=fun {e ch} U=>⟨fun Z=>(by rw[(uB (x6 e Z).2.1).1] at U;cases U),fun ao=>(by rw[ao,gD] at U;cases U),by rw[iQ,U]⟩
  have o9: ∀{e ch},aj dz e=some ch->aj aN e=none/\aj (aN++dz) e=some ch:=fun {e ch} U=>by
   have hn:=(uB (x6 e (adv e (gw.2 ⟨ch,U⟩))).2.1).1;exact⟨hn,by rw[iQ,hn];exact U⟩
  refine⟨x,ρ,fun e=>if e=q then(fun y=> ∃b6 ch',aj dz b6=some ch'/\F' b6 y) else F' e,rfl,cE.mono fun y _ aD=>mX y aD,fun _ _=>rfl,I',jl,fun y aD=>⟨(gL y aD).1,?_⟩,?_,?_,?_,?_⟩
  .rcases(gL y aD).2 with h |h |h
   .exact .inl h
   .exact .inr (.inl (mX y h))
   .exact .inr (.inr h)
  .intro e ch U;rcases tS _ _ U with U |⟨_,rfl,rfl⟩
   .obtain⟨af,ao,bm⟩:=nr U;simp only[if_neg ao];rw[<-wy e af];exact Holds.ck (cj.refl _ _) (fun _ _=>rfl) (aq4 _) ch (fun j V=>(wy j (fun kZ=>by rw[(uB (x6 j kZ).2.1).2 e ch U] at V;cases V)).symm) (lQ e ch bm)
   .simp only[if_true];refine⟨uY,F',by rw[xY c (aq6 _ b0),cC],wy d ca,fun e ch U=>lQ e ch (o9 U).2,fun e b6 ch ch' x U g0 a6=>ip e b6 ch ch' x (o9 U).2 (o9 g0).2 a6,fun _=>Iff.rfl⟩
  .intro e ch U y aD;rcases tS _ _ U with U |⟨_,rfl,rfl⟩
   .obtain⟨af,ao,bm⟩:=nr U;simp only[if_neg ao] at aD;obtain⟨cJ,cG,hP⟩:=aq e ch bm y aD;exact⟨cJ,cG,hP.imp (mX y) id⟩
   .simp only[if_true] at aD;obtain⟨b6,ch',E,G⟩:=aD;obtain⟨cJ,cG,hP⟩:=aq b6 ch' (o9 E).2 y G;exact⟨cJ,cG,hP.imp (mX y) id⟩
  .intro e b6 ch ch' y U g0 a6 aD ed;rcases tS _ _ U with ce |⟨_,rfl,rfl⟩
   .obtain⟨af,ao,bm⟩:=nr ce;simp only[if_neg ao] at aD;rcases tS _ _ g0 with cR |⟨_,rfl,rfl⟩
    .obtain⟨lh,jD,Ad⟩:=nr cR;simp only[if_neg jD] at ed;exact ip e b6 ch ch' y bm Ad a6 aD ed
    .simp only[if_true] at ed;obtain⟨hM,i3,E,G⟩:=ed;exact ip e hM ch i3 y bm (o9 E).2 (fun e=>by rw[e,(o9 E).1] at ce;cases ce) aD G
   .rcases tS _ _ g0 with cR |⟨_,rfl,rfl⟩
    .obtain⟨lh,jD,Ad⟩:=nr cR;simp only[if_true] at aD;simp only[if_neg jD] at ed;obtain⟨hM,i3,E,G⟩:=aD;exact ip hM b6 i3 ch' y (o9 E).2 Ad (fun e=>by rw[<-e,(o9 E).1] at cR;cases cR) G ed
    .exact absurd rfl a6
  .exact cx.mono (cj.refl _ _) res x (fun j V=>(wy j (fun kZ=>by rw[(x6 j kZ).2.2.1] at V;cases V)).symm) sF
end
end Go.Proofs.YtkfbeijmgggkmaaGreat
namespace Go.Proofs
open Go.Shelf
def Tryz.RK:Go.Shelf.Ren:=⟨fun |7=>207 |10=>231 |n=>n,fun |23=>115 |26=>9 |3=>119 |28=>102 |0=>0 |27=>101 |33=>118 |4=>4 |n=>n,fun |n=>n⟩
theorem Tryz.adx:Go.Proofs.SlLaysZ.n7 Tryz.prog Tryz.RK:={
 mixed:=by kernel_rfl
 f7:=⟨Tryz.f207.name,by decide,Tryz.func207.trans (congrArg some (by kernel_rfl))⟩
 f10:=⟨Tryz.f231.name,by decide,Tryz.func231.trans (congrArg some (by kernel_rfl))⟩
 t0:=Tryz.underlying0
 a0:=Tryz.isAgg0
 z0:=Tryz.sizeOf0
 v0:=Tryz.zeroValue0
 t4:=Tryz.underlying4
 a4:=Tryz.isAgg4
 z4:=Tryz.sizeOf4
 v4:=Tryz.zeroValue4
 t23:=Tryz.underlying115
 a23:=Tryz.isAgg115
 z23:=Tryz.sizeOf115
 v23:=Tryz.zeroValue115
 t26:=Tryz.underlying9
 a26:=Tryz.isAgg9
 z26:=Tryz.sizeOf9
 v26:=Tryz.zeroValue9
 t27:=Tryz.underlying101
 a27:=Tryz.isAgg101
 z27:=Tryz.sizeOf101
 v27:=Tryz.zeroValue101
 t28:=Tryz.underlying102
 a28:=Tryz.isAgg102
 z28:=Tryz.sizeOf102
 v28:=Tryz.zeroValue102
 t33:=Tryz.underlying118
 a33:=Tryz.isAgg118
 z33:=Tryz.sizeOf118
 v33:=Tryz.zeroValue118}
def Tryz.RL:Go.Shelf.Ren:=⟨fun |6=>50 |8=>93 |9=>94 |11=>148 |13=>150 |12=>149 |23=>196 |24=>197 |14=>187 |15=>188 |16=>189 |17=>190 |18=>191 |19=>192 |20=>193 |21=>194 |22=>195 |25=>220 |26=>221 |27=>222 |28=>223 |29=>224 |30=>225 |31=>248 |n=>n,fun |26=>9 |28=>102 |24=>45 |0=>0 |3=>3 |37=>225 |48=>279 |50=>281 |4=>4 |40=>271 |39=>270 |45=>276 |5=>5 |9=>9 |51=>302 |55=>306 |57=>320 |58=>321 |33=>118 |n=>n,fun |n=>n⟩
theorem Tryz.RM:Go.Proofs.SlLaysZ.n6 Tryz.prog Tryz.RL:={
 mixed:=by kernel_rfl
 f6:=⟨Tryz.f50.name,by decide,Tryz.func50.trans (congrArg some (by kernel_rfl))⟩
 f8:=⟨Tryz.f93.name,by decide,Tryz.func93.trans (congrArg some (by kernel_rfl))⟩
 f11:=⟨Tryz.f148.name,by decide,Tryz.func148.trans (congrArg some (by kernel_rfl))⟩
 t0:=Tryz.underlying0
 a0:=Tryz.isAgg0
 z0:=Tryz.sizeOf0
 v0:=Tryz.zeroValue0
 t24:=Tryz.underlying45
 a24:=Tryz.isAgg45
 z24:=Tryz.sizeOf45
 v24:=Tryz.zeroValue45
 t26:=Tryz.underlying9
 a26:=Tryz.isAgg9
 z26:=Tryz.sizeOf9
 v26:=Tryz.zeroValue9
 t28:=Tryz.underlying102
 a28:=Tryz.isAgg102
 z28:=Tryz.sizeOf102
 v28:=Tryz.zeroValue102
 i26:=by kernel_rfl}
def Tryz.ady:Go.Shelf.Ren:=⟨fun |6=>94 |8=>150 |9=>149 |19=>196 |20=>197 |21=>187 |22=>188 |23=>189 |24=>190 |25=>191 |26=>192 |27=>193 |28=>194 |29=>195 |36=>220 |31=>221 |32=>222 |37=>223 |38=>224 |39=>225 |41=>248 |n=>n,fun |27=>45 |29=>9 |3=>3 |32=>225 |26=>45 |0=>0 |44=>279 |46=>281 |4=>4 |36=>271 |35=>270 |41=>276 |5=>5 |9=>9 |53=>302 |57=>306 |63=>320 |64=>321 |n=>n,fun |n=>n⟩
theorem Tryz.RN:Go.Proofs.SlLaysM.n6 Tryz.prog Tryz.ady:={
 mixed:=by kernel_rfl
 f6:=⟨Tryz.f94.name,by decide,Tryz.func94.trans (congrArg some (by kernel_rfl))⟩
 f8:=Tryz.func150.trans (congrArg some (by kernel_rfl))
 f9:=⟨Tryz.f149.name,by decide,Tryz.func149.trans (congrArg some (by kernel_rfl))⟩
 f19:=Tryz.func196.trans (congrArg some (by kernel_rfl))
 f20:=Tryz.func197.trans (congrArg some (by kernel_rfl))
 f21:=⟨Tryz.f187.name,by decide,Tryz.func187.trans (congrArg some (by kernel_rfl))⟩
 f22:=⟨Tryz.f188.name,by decide,Tryz.func188.trans (congrArg some (by kernel_rfl))⟩
 f23:=⟨Tryz.f189.name,by decide,Tryz.func189.trans (congrArg some (by kernel_rfl))⟩
 f24:=⟨Tryz.f190.name,by decide,Tryz.func190.trans (congrArg some (by kernel_rfl))⟩
 f25:=⟨Tryz.f191.name,by decide,Tryz.func191.trans (congrArg some (by kernel_rfl))⟩
 f26:=⟨Tryz.f192.name,by decide,Tryz.func192.trans (congrArg some (by kernel_rfl))⟩
 f27:=⟨Tryz.f193.name,by decide,Tryz.func193.trans (congrArg some (by kernel_rfl))⟩
 f28:=⟨Tryz.f194.name,by decide,Tryz.func194.trans (congrArg some (by kernel_rfl))⟩
 f29:=⟨Tryz.f195.name,by decide,Tryz.func195.trans (congrArg some (by kernel_rfl))⟩
 f31:=Tryz.func221.trans (congrArg some (by kernel_rfl))
 f32:=Tryz.func222.trans (congrArg some (by kernel_rfl))
 f36:=⟨Tryz.f220.name,by decide,Tryz.func220.trans (congrArg some (by kernel_rfl))⟩
 f37:=⟨Tryz.f223.name,by decide,Tryz.func223.trans (congrArg some (by kernel_rfl))⟩
 f38:=⟨Tryz.f224.name,by decide,Tryz.func224.trans (congrArg some (by kernel_rfl))⟩
 f39:=⟨Tryz.f225.name,by decide,Tryz.func225.trans (congrArg some (by kernel_rfl))⟩
 f41:=⟨Tryz.f248.name,by decide,Tryz.func248.trans (congrArg some (by kernel_rfl))⟩
 t0:=Tryz.underlying0
 a0:=Tryz.isAgg0
 z0:=Tryz.sizeOf0
 v0:=Tryz.zeroValue0
 t3:=Tryz.underlying3
 a3:=Tryz.isAgg3
 z3:=Tryz.sizeOf3
 v3:=Tryz.zeroValue3
 t4:=Tryz.underlying4
 a4:=Tryz.isAgg4
 z4:=Tryz.sizeOf4
 v4:=Tryz.zeroValue4
 t5:=Tryz.underlying5
 a5:=Tryz.isAgg5
 z5:=Tryz.sizeOf5
 v5:=Tryz.zeroValue5
 t9:=Tryz.underlying9
 a9:=Tryz.isAgg9
 z9:=Tryz.sizeOf9
 v9:=Tryz.zeroValue9
 t26:=Tryz.underlying45
 a26:=Tryz.isAgg45
 z26:=Tryz.sizeOf45
 v26:=Tryz.zeroValue45
 t27:=Tryz.underlying45
 a27:=Tryz.isAgg45
 z27:=Tryz.sizeOf45
 v27:=Tryz.zeroValue45
 t29:=Tryz.underlying9
 a29:=Tryz.isAgg9
 z29:=Tryz.sizeOf9
 v29:=Tryz.zeroValue9
 t32:=Tryz.underlying225
 a32:=Tryz.isAgg225
 z32:=Tryz.sizeOf225
 v32:=Tryz.zeroValue225
 t35:=Tryz.underlying270
 a35:=Tryz.isAgg270
 z35:=Tryz.sizeOf270
 v35:=Tryz.zeroValue270
 t36:=Tryz.underlying271
 a36:=Tryz.isAgg271
 z36:=Tryz.sizeOf271
 v36:=Tryz.zeroValue271
 t41:=Tryz.underlying276
 a41:=Tryz.isAgg276
 z41:=Tryz.sizeOf276
 v41:=Tryz.zeroValue276
 t44:=Tryz.underlying279
 a44:=Tryz.isAgg279
 z44:=Tryz.sizeOf279
 v44:=Tryz.zeroValue279
 t46:=Tryz.underlying281
 a46:=Tryz.isAgg281
 z46:=Tryz.sizeOf281
 v46:=Tryz.zeroValue281
 t53:=Tryz.underlying302
 a53:=Tryz.isAgg302
 z53:=Tryz.sizeOf302
 v53:=Tryz.zeroValue302
 t57:=Tryz.underlying306
 a57:=Tryz.isAgg306
 z57:=Tryz.sizeOf306
 v57:=Tryz.zeroValue306
 t63:=Tryz.underlying320
 a63:=Tryz.isAgg320
 z63:=Tryz.sizeOf320
 v63:=Tryz.zeroValue320
 t64:=Tryz.underlying321
 a64:=Tryz.isAgg321
 z64:=Tryz.sizeOf321
 v64:=Tryz.zeroValue321}
def Tryz.RO:Go.Shelf.Ren:=⟨fun |7=>51 |10=>95 |n=>n,fun |23=>104 |26=>9 |3=>105 |28=>102 |0=>0 |27=>101 |33=>118 |4=>4 |n=>n,fun |n=>n⟩
theorem Tryz.adz:Go.Proofs.SlLaysZ.n7 Tryz.prog Tryz.RO:={
 mixed:=by kernel_rfl
 f7:=⟨Tryz.f51.name,by decide,Tryz.func51.trans (congrArg some (by kernel_rfl))⟩
 f10:=⟨Tryz.f95.name,by decide,Tryz.func95.trans (congrArg some (by kernel_rfl))⟩
 t0:=Tryz.underlying0
 a0:=Tryz.isAgg0
 z0:=Tryz.sizeOf0
 v0:=Tryz.zeroValue0
 t4:=Tryz.underlying4
 a4:=Tryz.isAgg4
 z4:=Tryz.sizeOf4
 v4:=Tryz.zeroValue4
 t23:=Tryz.underlying104
 a23:=Tryz.isAgg104
 z23:=Tryz.sizeOf104
 v23:=Tryz.zeroValue104
 t26:=Tryz.underlying9
 a26:=Tryz.isAgg9
 z26:=Tryz.sizeOf9
 v26:=Tryz.zeroValue9
 t27:=Tryz.underlying101
 a27:=Tryz.isAgg101
 z27:=Tryz.sizeOf101
 v27:=Tryz.zeroValue101
 t28:=Tryz.underlying102
 a28:=Tryz.isAgg102
 z28:=Tryz.sizeOf102
 v28:=Tryz.zeroValue102
 t33:=Tryz.underlying118
 a33:=Tryz.isAgg118
 z33:=Tryz.sizeOf118
 v33:=Tryz.zeroValue118}
def Tryz.adA:Go.Shelf.Ren:=⟨fun |5=>96 |7=>151 |n=>n,fun |23=>159 |25=>3 |3=>3 |4=>4 |20=>20 |n=>n,fun |n=>n⟩
theorem Tryz.adB:Go.Proofs.SlLaysW.n5 Tryz.prog Tryz.adA:={
 mixed:=by kernel_rfl
 f5:=⟨Tryz.f96.name,by decide,Tryz.func96.trans (congrArg some (by kernel_rfl))⟩
 f7:=Tryz.func151.trans (congrArg some (by kernel_rfl))
 t4:=Tryz.underlying4
 a4:=Tryz.isAgg4
 z4:=Tryz.sizeOf4
 v4:=Tryz.zeroValue4
 t20:=Tryz.underlying20
 a20:=Tryz.isAgg20
 z20:=Tryz.sizeOf20
 v20:=Tryz.zeroValue20
 t23:=Tryz.underlying159
 a23:=Tryz.isAgg159
 z23:=Tryz.sizeOf159
 v23:=Tryz.zeroValue159}
def Tryz.K2:Go.Shelf.Ren:=⟨fun |7=>155 |10=>201 |n=>n,fun |23=>159 |26=>3 |3=>3 |28=>235 |0=>0 |27=>234 |33=>156 |4=>4 |n=>n,fun |n=>n⟩
theorem Tryz.RP:Go.Proofs.SlLaysZI.n7 Tryz.prog Tryz.K2:={
 mixed:=by kernel_rfl
 f7:=⟨Tryz.f155.name,by decide,Tryz.func155.trans (congrArg some (by kernel_rfl))⟩
 f10:=⟨Tryz.f201.name,by decide,Tryz.func201.trans (congrArg some (by kernel_rfl))⟩
 t0:=Tryz.underlying0
 a0:=Tryz.isAgg0
 z0:=Tryz.sizeOf0
 v0:=Tryz.zeroValue0
 t4:=Tryz.underlying4
 a4:=Tryz.isAgg4
 z4:=Tryz.sizeOf4
 v4:=Tryz.zeroValue4
 t23:=Tryz.underlying159
 a23:=Tryz.isAgg159
 z23:=Tryz.sizeOf159
 v23:=Tryz.zeroValue159
 t26:=Tryz.underlying3
 a26:=Tryz.isAgg3
 z26:=Tryz.sizeOf3
 v26:=Tryz.zeroValue3
 t27:=Tryz.underlying234
 a27:=Tryz.isAgg234
 z27:=Tryz.sizeOf234
 v27:=Tryz.zeroValue234
 t28:=Tryz.underlying235
 a28:=Tryz.isAgg235
 z28:=Tryz.sizeOf235
 v28:=Tryz.zeroValue235
 t33:=Tryz.underlying156
 a33:=Tryz.isAgg156
 z33:=Tryz.sizeOf156
 v33:=Tryz.zeroValue156}
def Tryz.adC:Go.Shelf.Ren:=⟨fun |8=>199 |11=>226 |n=>n,fun |26=>3 |28=>235 |24=>83 |0=>0 |33=>156 |4=>4 |n=>n,fun |n=>n⟩
theorem Tryz.adD:Go.Proofs.SlLaysZI.n8 Tryz.prog Tryz.adC:={
 mixed:=by kernel_rfl
 f8:=⟨Tryz.f199.name,by decide,Tryz.func199.trans (congrArg some (by kernel_rfl))⟩
 f11:=⟨Tryz.f226.name,by decide,Tryz.func226.trans (congrArg some (by kernel_rfl))⟩
 t0:=Tryz.underlying0
 a0:=Tryz.isAgg0
 z0:=Tryz.sizeOf0
 v0:=Tryz.zeroValue0
 t24:=Tryz.underlying83
 a24:=Tryz.isAgg83
 z24:=Tryz.sizeOf83
 v24:=Tryz.zeroValue83
 t26:=Tryz.underlying3
 a26:=Tryz.isAgg3
 z26:=Tryz.sizeOf3
 v26:=Tryz.zeroValue3
 t28:=Tryz.underlying235
 a28:=Tryz.isAgg235
 z28:=Tryz.sizeOf235
 v28:=Tryz.zeroValue235
 i26:=by kernel_rfl}
def Tryz.RQ:Go.Shelf.Ren:=⟨fun |7=>168 |10=>208 |n=>n,fun |23=>169 |26=>3 |3=>31 |28=>235 |0=>0 |27=>234 |33=>156 |4=>4 |n=>n,fun |n=>n⟩
theorem Tryz.adE:Go.Proofs.SlLaysZI.n7 Tryz.prog Tryz.RQ:={
 mixed:=by kernel_rfl
 f7:=⟨Tryz.f168.name,by decide,Tryz.func168.trans (congrArg some (by kernel_rfl))⟩
 f10:=⟨Tryz.f208.name,by decide,Tryz.func208.trans (congrArg some (by kernel_rfl))⟩
 t0:=Tryz.underlying0
 a0:=Tryz.isAgg0
 z0:=Tryz.sizeOf0
 v0:=Tryz.zeroValue0
 t4:=Tryz.underlying4
 a4:=Tryz.isAgg4
 z4:=Tryz.sizeOf4
 v4:=Tryz.zeroValue4
 t23:=Tryz.underlying169
 a23:=Tryz.isAgg169
 z23:=Tryz.sizeOf169
 v23:=Tryz.zeroValue169
 t26:=Tryz.underlying3
 a26:=Tryz.isAgg3
 z26:=Tryz.sizeOf3
 v26:=Tryz.zeroValue3
 t27:=Tryz.underlying234
 a27:=Tryz.isAgg234
 z27:=Tryz.sizeOf234
 v27:=Tryz.zeroValue234
 t28:=Tryz.underlying235
 a28:=Tryz.isAgg235
 z28:=Tryz.sizeOf235
 v28:=Tryz.zeroValue235
 t33:=Tryz.underlying156
 a33:=Tryz.isAgg156
 z33:=Tryz.sizeOf156
 v33:=Tryz.zeroValue156}
def Tryz.RR:Go.Shelf.Ren:=⟨fun |6=>154 |8=>199 |9=>200 |11=>226 |13=>150 |12=>227 |23=>196 |24=>197 |14=>249 |15=>250 |16=>251 |17=>252 |18=>253 |19=>254 |20=>255 |21=>256 |22=>257 |25=>265 |26=>221 |27=>222 |28=>266 |29=>267 |30=>268 |31=>270 |n=>n,fun |26=>3 |28=>235 |24=>83 |0=>0 |3=>3 |37=>225 |48=>279 |50=>281 |4=>4 |40=>271 |39=>270 |45=>276 |5=>5 |9=>9 |51=>302 |55=>306 |57=>320 |58=>321 |33=>156 |n=>n,fun |n=>n⟩
theorem Tryz.RS:Go.Proofs.SlLaysZI.n6 Tryz.prog Tryz.RR:={
 mixed:=by kernel_rfl
 f6:=⟨Tryz.f154.name,by decide,Tryz.func154.trans (congrArg some (by kernel_rfl))⟩
 f8:=⟨Tryz.f199.name,by decide,Tryz.func199.trans (congrArg some (by kernel_rfl))⟩
 f11:=⟨Tryz.f226.name,by decide,Tryz.func226.trans (congrArg some (by kernel_rfl))⟩
 t0:=Tryz.underlying0
 a0:=Tryz.isAgg0
 z0:=Tryz.sizeOf0
 v0:=Tryz.zeroValue0
 t24:=Tryz.underlying83
 a24:=Tryz.isAgg83
 z24:=Tryz.sizeOf83
 v24:=Tryz.zeroValue83
 t26:=Tryz.underlying3
 a26:=Tryz.isAgg3
 z26:=Tryz.sizeOf3
 v26:=Tryz.zeroValue3
 t28:=Tryz.underlying235
 a28:=Tryz.isAgg235
 z28:=Tryz.sizeOf235
 v28:=Tryz.zeroValue235
 i26:=by kernel_rfl}
def Tryz.adF:Go.Shelf.Ren:=⟨fun |5=>200 |8=>150 |7=>227 |19=>196 |20=>197 |10=>249 |11=>250 |12=>251 |13=>252 |14=>253 |15=>254 |16=>255 |17=>256 |18=>257 |30=>265 |31=>221 |32=>222 |33=>266 |34=>267 |35=>268 |40=>270 |n=>n,fun |23=>83 |25=>3 |3=>3 |32=>225 |22=>83 |0=>0 |44=>279 |46=>281 |4=>4 |36=>271 |35=>270 |41=>276 |5=>5 |9=>9 |53=>302 |57=>306 |63=>320 |64=>321 |n=>n,fun |n=>n⟩
theorem Tryz.RT:Go.Proofs.SlLaysM.n5 Tryz.prog Tryz.adF:={
 mixed:=by kernel_rfl
 f5:=⟨Tryz.f200.name,by decide,Tryz.func200.trans (congrArg some (by kernel_rfl))⟩
 f7:=⟨Tryz.f227.name,by decide,Tryz.func227.trans (congrArg some (by kernel_rfl))⟩
 f8:=Tryz.func150.trans (congrArg some (by kernel_rfl))
 f10:=⟨Tryz.f249.name,by decide,Tryz.func249.trans (congrArg some (by kernel_rfl))⟩
 f11:=⟨Tryz.f250.name,by decide,Tryz.func250.trans (congrArg some (by kernel_rfl))⟩
 f12:=⟨Tryz.f251.name,by decide,Tryz.func251.trans (congrArg some (by kernel_rfl))⟩
 f13:=⟨Tryz.f252.name,by decide,Tryz.func252.trans (congrArg some (by kernel_rfl))⟩
 f14:=⟨Tryz.f253.name,by decide,Tryz.func253.trans (congrArg some (by kernel_rfl))⟩
 f15:=⟨Tryz.f254.name,by decide,Tryz.func254.trans (congrArg some (by kernel_rfl))⟩
 f16:=⟨Tryz.f255.name,by decide,Tryz.func255.trans (congrArg some (by kernel_rfl))⟩
 f17:=⟨Tryz.f256.name,by decide,Tryz.func256.trans (congrArg some (by kernel_rfl))⟩
 f18:=⟨Tryz.f257.name,by decide,Tryz.func257.trans (congrArg some (by kernel_rfl))⟩
 f19:=Tryz.func196.trans (congrArg some (by kernel_rfl))
 f20:=Tryz.func197.trans (congrArg some (by kernel_rfl))
 f30:=⟨Tryz.f265.name,by decide,Tryz.func265.trans (congrArg some (by kernel_rfl))⟩
 f31:=Tryz.func221.trans (congrArg some (by kernel_rfl))
 f32:=Tryz.func222.trans (congrArg some (by kernel_rfl))
 f33:=⟨Tryz.f266.name,by decide,Tryz.func266.trans (congrArg some (by kernel_rfl))⟩
 f34:=⟨Tryz.f267.name,by decide,Tryz.func267.trans (congrArg some (by kernel_rfl))⟩
 f35:=⟨Tryz.f268.name,by decide,Tryz.func268.trans (congrArg some (by kernel_rfl))⟩
 f40:=⟨Tryz.f270.name,by decide,Tryz.func270.trans (congrArg some (by kernel_rfl))⟩
 t0:=Tryz.underlying0
 a0:=Tryz.isAgg0
 z0:=Tryz.sizeOf0
 v0:=Tryz.zeroValue0
 t3:=Tryz.underlying3
 a3:=Tryz.isAgg3
 z3:=Tryz.sizeOf3
 v3:=Tryz.zeroValue3
 t4:=Tryz.underlying4
 a4:=Tryz.isAgg4
 z4:=Tryz.sizeOf4
 v4:=Tryz.zeroValue4
 t5:=Tryz.underlying5
 a5:=Tryz.isAgg5
 z5:=Tryz.sizeOf5
 v5:=Tryz.zeroValue5
 t9:=Tryz.underlying9
 a9:=Tryz.isAgg9
 z9:=Tryz.sizeOf9
 v9:=Tryz.zeroValue9
 t22:=Tryz.underlying83
 a22:=Tryz.isAgg83
 z22:=Tryz.sizeOf83
 v22:=Tryz.zeroValue83
 t23:=Tryz.underlying83
 a23:=Tryz.isAgg83
 z23:=Tryz.sizeOf83
 v23:=Tryz.zeroValue83
 t25:=Tryz.underlying3
 a25:=Tryz.isAgg3
 z25:=Tryz.sizeOf3
 v25:=Tryz.zeroValue3
 t32:=Tryz.underlying225
 a32:=Tryz.isAgg225
 z32:=Tryz.sizeOf225
 v32:=Tryz.zeroValue225
 t35:=Tryz.underlying270
 a35:=Tryz.isAgg270
 z35:=Tryz.sizeOf270
 v35:=Tryz.zeroValue270
 t36:=Tryz.underlying271
 a36:=Tryz.isAgg271
 z36:=Tryz.sizeOf271
 v36:=Tryz.zeroValue271
 t41:=Tryz.underlying276
 a41:=Tryz.isAgg276
 z41:=Tryz.sizeOf276
 v41:=Tryz.zeroValue276
 t44:=Tryz.underlying279
 a44:=Tryz.isAgg279
 z44:=Tryz.sizeOf279
 v44:=Tryz.zeroValue279
 t46:=Tryz.underlying281
 a46:=Tryz.isAgg281
 z46:=Tryz.sizeOf281
 v46:=Tryz.zeroValue281
 t53:=Tryz.underlying302
 a53:=Tryz.isAgg302
 z53:=Tryz.sizeOf302
 v53:=Tryz.zeroValue302
 t57:=Tryz.underlying306
 a57:=Tryz.isAgg306
 z57:=Tryz.sizeOf306
 v57:=Tryz.zeroValue306
 t63:=Tryz.underlying320
 a63:=Tryz.isAgg320
 z63:=Tryz.sizeOf320
 v63:=Tryz.zeroValue320
 t64:=Tryz.underlying321
 a64:=Tryz.isAgg321
 z64:=Tryz.sizeOf321
 v64:=Tryz.zeroValue321}
def Tryz.adG:Go.Shelf.Ren:=⟨fun |5=>179 |7=>151 |n=>n,fun |23=>252 |25=>3 |3=>257 |4=>4 |20=>20 |n=>n,fun |n=>n⟩
theorem Tryz.adH:Go.Proofs.SlLaysW.n5 Tryz.prog Tryz.adG:={
 mixed:=by kernel_rfl
 f5:=⟨Tryz.f179.name,by decide,Tryz.func179.trans (congrArg some (by kernel_rfl))⟩
 f7:=Tryz.func151.trans (congrArg some (by kernel_rfl))
 t4:=Tryz.underlying4
 a4:=Tryz.isAgg4
 z4:=Tryz.sizeOf4
 v4:=Tryz.zeroValue4
 t20:=Tryz.underlying20
 a20:=Tryz.isAgg20
 z20:=Tryz.sizeOf20
 v20:=Tryz.zeroValue20
 t23:=Tryz.underlying252
 a23:=Tryz.isAgg252
 z23:=Tryz.sizeOf252
 v23:=Tryz.zeroValue252}
end Go.Proofs
