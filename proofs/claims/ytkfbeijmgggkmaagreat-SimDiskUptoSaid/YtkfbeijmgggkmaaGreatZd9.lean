/-
A part of the proof of this claim: lemmas, with no condition beyond what each says.
-/
import Derived.Shelf.SlIter.Nil
import Derived.Shelf.SlIterI.Nil
import Derived.Shelf.SortM.Plain
import Derived.Shelf.SortM.SortNone
import Derived.Shelf.SlMaps.Clone
import Derived.Ground.GgzProg
import Derived.Ground.SlgmProg
import Derived.Ground.SlmcProg
import Derived.Test.YtkfbeijmgggkmaaGreatProg
import Derived.Test.YtkfbeijmgggkmaaGreatZd8
set_option linter.unusedVariables false
set_option linter.unusedSimpArgs false
set_option maxRecDepth 10000
set_option maxHeartbeats 4000000
namespace Go.Proofs.YtkfbeijmgggkmaaGreat
open Go.RowKit Go.Proofs
section
section
variable {P:Program} {aS:dg} {N:Nat} {ids:aC4} {o:Oper} {K:aY} {B:az} {C:fg} {ρ:Nat->bn} {F:Nat->Nat->Prop} {w w':World}
theorem Mem.split (h:Mem ids C B ρ F w) {c d:Nat} {cz i4 oR:ba} (J:ag B c=some cz) (hf:g6 ids K B d=true) (pl:bn) (cG cN:Nat->Prop) (E: ∀b,cG b->F c b) (G: ∀b,cN b->F c b) (eE: ∀b,cG b-> ¬cN b)
  (CD: ∀I,cm (bX C B F w) w I w->Holds (da ρ d pl) I cG w (ρ c) i4) (acZ: ∀I,cm (bX C B F w) w I w->Holds (da ρ d pl) I cN w pl oR):
  Mem ids C ((d,oR)::(c,i4)::B) (da ρ d pl) (da (da F c cG) d cN) w/\cm (bX C B F w) w (bX C ((d,oR)::(c,i4)::B) (da (da F c cG) d cN) w) w:=by
 obtain⟨ib,jC,f3,px⟩:=k4 hf;have sy:c≠d:=fun e=>by rw[<-e,J] at jC;cases jC
 have sz: ∀j ch,ag ((d,oR)::(c,i4)::B) j=some ch->(j=c\/j=d)->(j=c/\ch=i4)\/(j=d/\ch=oR):=fun j ch V aA=>by
  rw[cd] at V
  split at V
  .rename_i e;injection V with V;exact .inr ⟨e.symm,V.symm⟩
  .rename_i e;rw[cd] at V
   split at V
   .rename_i e;injection V with V;exact .inl ⟨e.symm,V.symm⟩
   .rename_i ao;rcases aA with aA |aA
    .exact absurd aA.symm ao
    .exact absurd aA.symm e
 have FU:da (da F c cG) d cN c=cG:=by rw[dh _ _ sy,c7]
 have FV:da (da F c cG) d cN d=cN:=by rw[c7]
 refine h.step (fun j=>j=c\/j=d) (fun j=>j=d) (cS.refl _ _) (fun j ch V aA=>?_) (fun j V=>dh _ _ V) (fun j V=>?_) (fun j V e=>px (e▸V)) (fun j V=>.inr V) (fun j ch V _ k aa e=>?_) (fun j ch V aA a1=>?_) (fun j ch V aA b O=>?_) (fun j rj ch ch' b V kG aA gu a7 O dp=>?_)
 .rw[cd,if_neg (fun e=>aA (.inr e.symm)),cd,if_neg (fun e=>aA (.inl e.symm))] at V;exact V
 .rw[dh _ _ (fun e=>V (.inr e)),dh _ _ (fun e=>V (.inl e))]
 .subst e;rw[f3 j ch V] at aa
  cases aa
 .rcases sz j ch V aA with⟨rfl,rfl⟩ |⟨rfl,rfl⟩
  .rw[FU,dh _ _ sy];exact CD _ a1
  .rw[FV,c7];exact acZ _ a1
 .have:F c b:=by
   rcases sz j ch V aA with⟨rfl,rfl⟩ |⟨rfl,rfl⟩
   .rw[FU] at O;exact E b O
   .rw[FV] at O;exact G b O
  exact⟨(h.own c _ J b this).1,.inl ⟨c,_,J,.inl rfl,this⟩⟩
 .rcases sz j ch V aA with⟨rfl,rfl⟩ |⟨rfl,rfl⟩ <;>rcases sz rj ch' kG gu with⟨rfl,rfl⟩ |⟨rfl,rfl⟩
  .exact a7 rfl
  .rw[FU] at O;rw[FV] at dp;exact eE b O dp
  .rw[FV] at O;rw[FU] at dp;exact eE b dp O
  .exact a7 rfl
theorem Mem.FW (h:Mem ids C B ρ F w) {c d:Nat} {cz i4 ch:ba} (J:ag B c=some cz) (H:ag B d=some i4) (a7:c≠d) (ce:Nat->Prop) (k5: ∀b,ce b->F c b\/F d b) (cy:cS (fun b=>F c b\/F d b) w w')
  (cZ: ∀I,cm (bX C B F w) w I w'->Holds ρ I ce w' (ρ c) ch):
  Mem ids C ((c,ch)::gS B d) ρ (da F c ce) w'/\cm (bX C B F w) w (bX C ((c,ch)::gS B d) (da F c ce) w') w':=by
 have sz: ∀j ch',ag ((c,ch)::gS B d) j=some ch'->(j=c\/j=d)->j=c/\ch'=ch:=fun j ch' V aA=>by
  rw[cd] at V
  split at V
  .rename_i e;injection V with V;exact⟨e.symm,V.symm⟩
  .rename_i e;rcases aA with aA |aA
   .exact absurd aA.symm e
   .rw[aA,hA,if_pos rfl] at V;cases V
 refine h.step (fun j=>j=c\/j=d) (fun _=>False) (cy.mono fun b _ O=>?_) (fun j ch' V aA=>?_) (fun _ _=>rfl) (fun j aA=>dh _ _ (fun e=>aA (.inl e))) (fun _ _ h=>h) (fun _ h=>h.elim) (fun _ _ _ _ _ _ h=>h) (fun j ch' V aA a1=>?_) (fun j ch' V aA b O=>?_) (fun j rj cI cE b V kG aA gu hn=>?_)
 .rcases O with O |O
  .exact⟨c,_,J,.inl rfl,O⟩
  .exact⟨d,_,H,.inr rfl,O⟩
 .rw[cd,if_neg (fun e=>aA (.inl e.symm)),hA,if_neg (fun e=>aA (.inr e.symm))] at V;exact V
 .obtain⟨rfl,rfl⟩:=sz j ch' V aA;rw[c7];exact cZ _ a1
 .obtain⟨rfl,rfl⟩:=sz j ch' V aA;rw[c7] at O;rcases k5 b O with O |O
  .exact⟨ar6 (h.own j _ J b O).1 cy.size,.inl ⟨j,_,J,.inl rfl,O⟩⟩
  .exact⟨ar6 (h.own d _ H b O).1 cy.size,.inl ⟨d,_,H,.inr rfl,O⟩⟩
 .exact absurd ((sz j cI V aA).1.trans (sz rj cE kG gu).1.symm) hn
theorem Mem.FX (h:Mem ids C B ρ F w) {c:Nat} {cz ch:ba} (J:ag B c=some cz) (ce:Nat->Prop) (k5: ∀b,ce b->F c b) (cy:cS (F c) w w') (cZ: ∀I,cm (bX C B F w) w I w'->Holds ρ I ce w' (ρ c) ch):
  Mem ids C ((c,ch)::B) ρ (da F c ce) w'/\cm (bX C B F w) w (bX C ((c,ch)::B) (da F c ce) w') w':=by
 have sz: ∀j ch',ag ((c,ch)::B) j=some ch'->j=c->ch'=ch:=fun j ch' V aA=>by
  rw[cd,if_pos aA.symm] at V;injection V with V;exact V.symm
 refine h.step (fun j=>j=c) (fun _=>False) (cy.mono fun b _ O=>⟨c,_,J,rfl,O⟩) (fun j ch' V aA=>?_) (fun _ _=>rfl) (fun j aA=>dh _ _ aA) (fun _ _ h=>h) (fun _ h=>h.elim) (fun _ _ _ _ _ _ h=>h) (fun j ch' V aA a1=>?_) (fun j ch' V aA b O=>?_) (fun j rj cI cE b V kG aA gu hn=>absurd (aA.trans gu.symm) hn)
 .rw[cd,if_neg (fun e=>aA e.symm)] at V;exact V
 .have e:=sz j ch' V aA;subst aA e;rw[c7];exact cZ _ a1
 .subst aA;rw[c7] at O;exact⟨ar6 (h.own _ _ J b (k5 b O)).1 cy.size,.inl ⟨_,_,J,rfl,k5 b O⟩⟩
end
abbrev lp:=Int->Option aC3
def jp (f:lp) (k:Int) (xs:aC3):lp:=fun j=>if j=k then some xs else f j
def CE (f:lp) (k:Int):lp:=fun j=>if j=k then none else f j
def Ky:lp:=fun _=>none
def tC (I F:Nat->Prop) (w:World) (p:bn) (xs:aC3):Prop:=Holds (fun _=>p) I F w p (.row 5 .u8 xs)
theorem tC.congr {I F F':Nat->Prop} {w:World} {p:bn} {xs:aC3} (h:tC I F w p xs) (e: ∀b,F' b↔F b):tC I F' w p xs:=
 ⟨fun b=>(e b).trans (h.1 b),h.2⟩
theorem ac0 {I F:Nat->Prop} {w:World} {p:bn} {xs:aC3} (h:tC I F w p xs): ∃x:Z .dm,p.ef=q1 x:=by
 obtain⟨_,_,cs,⟨_,h⟩,_⟩:=h;rcases h with⟨h,_⟩ |⟨g,cap,c9,h,_⟩
 .exact⟨none,h⟩
 .exact⟨some (g,_,cap),h⟩
structure FY (aw:Int->Option bn) (f:lp) (es:List (Z al×Z .dm)) (ce:Int->Nat->Prop) (I:Nat->Prop) (w:World):Prop where
 hE:e5 es
 wt: ∀k:Int,bY (aI:=al) (aK:=.dm) es k=none->f k=none/\aw k=none/\ ∀b,¬ce k b
 xW: ∀(k:Int) h,bY (aI:=al) (aK:=.dm) es k=some h->aw k=none-> ∃xs p,f k=some xs/\p.ef=q1 h/\tC I (ce k) w p xs
 Rs: ∀(k:Int) h q,bY (aI:=al) (aK:=.dm) es k=some h->aw k=some q->q.ef=q1 h/\ ∀b,¬ce k b
 fh: ∀(j k:Int) b,j≠k->ce j b-> ¬ce k b
theorem FY.cp {aw:Int->Option bn} {f:lp} {es:List (Z al×Z .dm)} {ce:Int->Nat->Prop} {I I':Nat->Prop} {w w':World} (h:FY aw f es ce I w) (U:cm I w I' w') (bh: ∀k b,ce k b->w'.heap[b]? =w.heap[b]?) (aN:w.heap.size<=w'.heap.size):FY aw f es ce I' w':=
 ⟨h.hE,h.wt,fun k x E G=>let⟨xs,p,bZ,cg,a3⟩:=h.xW k x E G;⟨xs,p,bZ,cg,Holds.cp U (fun b O=>bh k b O) aN _ (fun _ _=>rfl) a3⟩,h.Rs,h.fh⟩
def wu (aw:Int->Option bn) (f:lp) (I F:Nat->Prop) (w:World) (p:bn):Prop:=
 ∃es ce,FY aw f es ce I w/\(∀b,F b↔b=p.bk\/ ∃k,ce k b)/\(∀k,¬ce k p.bk)/\ ∃bR bS,w.heap[p.bk]? =some (.map (List.toArray bR) bS)/\ir I w al .dm es bR/\l4 bR bS
def Rt (aw:Int->Option bn) (f:lp):bc where
 bo:=wu aw f
 cp:=fun I F w I' w' p ⟨es,ce,E,G,af,bR,bS,aW,bG,fF⟩ U bh aN=>
  ⟨es,ce,E.cp U (fun k b O=>bh b ((G b).2 (.inr ⟨k,O⟩))) aN,G,af,bR,bS,(bh _ ((G _).2 (.inl rfl))).trans aW,bG.mono U,fF⟩
def mS (f:lp):bc:=Rt (fun _=>none) f
def FZ (k:Int) (q:bn):Int->Option bn:=fun j=>if j=k then some q else none
def wv (f:lp) (k:Int):bn->bc:=fun q=>Rt (FZ k q) f
theorem wu.out {f:lp} {k:Int} {xs:aC3} {I F:Nat->Prop} {w:World} {p:bn} (hf:f k=some xs) (h:(mS f).bo I F w p):
  ∃(cG cN:Nat->Prop) (q:bn) (es:List (Z al×Z .dm)) (x:Z .dm),(∀b,cG b->F b)/\(∀b,cN b->F b)/\(∀b,cG b-> ¬cN b)/\q.ef=q1 x/\bY (aI:=al) (aK:=.dm) es k=some x/\(∃bR bS,w.heap[p.bk]? =some (.map (List.toArray bR) bS)/\ir I w al .dm es bR)/\tC I cN w q xs/\(wv f k q).bo I cG w p:=by
 obtain⟨es,ce,E,G,af,bR,bS,aW,bG,fF⟩:=h
 cases e:bY (aI:=al) (aK:=.dm) es k with
 |none=>rw[(E.wt k e).1] at hf;cases hf
 |some x=>
  obtain⟨ys,q,bZ,cg,a3⟩:=E.xW k x e rfl;rw[hf] at bZ;injection bZ with bZ
  subst bZ;refine⟨fun b=>b=p.bk\/ ∃j,j≠k/\ce j b,ce k,q,es,x,fun b O=>(G b).2 (O.imp id fun⟨j,_,V⟩=>⟨j,V⟩),fun b O=>(G b).2 (.inr ⟨k,O⟩),fun b O aa=>?_,cg,e,⟨bR,bS,aW,bG⟩,a3,?_⟩
  .rcases O with rfl |⟨j,V,O⟩
   .exact af k aa
   .exact E.fh j k b V O aa
  .refine⟨es,fun j b=>j≠k/\ce j b,⟨E.hE,fun j V=>?_,fun j y V bf=>?_,fun j y aqb V bf=>?_,fun i j b gN a b=>E.fh i j _ gN a.2 b.2⟩,fun b=>Iff.rfl,fun j V=>af j V.2,bR,bS,aW,bG,fF⟩
   .obtain⟨b1,_,b3⟩:=E.wt j V;have:j≠k:=fun b7=>by rw[b7,e] at V;cases V
    exact⟨b1,if_neg this,fun b O=>b3 b O.2⟩
   .have a7:j≠k:=fun b7=>by rw[show FZ k q j=some q from if_pos b7] at bf;cases bf
    obtain⟨ys,r,b1,b2,b3⟩:=E.xW j y V rfl;exact⟨ys,r,b1,b2,b3.congr fun b=>⟨fun h=>h.2,fun h=>⟨a7,h⟩⟩⟩
   .simp only[FZ] at bf
    split at bf
    .rename_i b7;injection bf with bf
     subst b7 bf;rw[e] at V;injection V with V
     subst V;exact⟨cg,fun b O=>O.1 rfl⟩
    .cases bf
theorem wu.ac1 {f:lp} {k:Int} {xs:aC3} {I cG cN:Nat->Prop} {w:World} {p q:bn} (h:(wv f k q).bo I cG w p) (ax:tC I cN w q xs) (H: ∀b,cG b-> ¬cN b) (aa: ∃ys,f k=some ys):(mS (jp f k xs)).bo I (fun b=>cG b\/cN b) w p:=by
 obtain⟨es,ce,E,G,af,bR,bS,aW,bG,fF⟩:=h;obtain⟨ys,aa⟩:=aa;have ie:FZ k q k=some q:=if_pos rfl
 cases e:bY (aI:=al) (aK:=.dm) es k with
 |none=>rw[(E.wt k e).1] at aa;cases aa
 |some x=>
  obtain⟨bZ,cg⟩:=E.Rs k x q e ie;refine⟨es,fun j b=>if j=k then cN b else ce j b,⟨E.hE,fun j V=>?_,fun j y V _=>?_,fun _ _ _ _ bf=>(by cases bf),fun i j b gN ha O=>?_⟩,fun b=>?_,fun j V=>?_,bR,bS,aW,bG,fF⟩
  .have a7:j≠k:=fun b7=>by rw[b7,e] at V;cases V
   obtain⟨b1,_,b3⟩:=E.wt j V;exact⟨by unfold jp;rw[if_neg a7];exact b1,rfl,fun b O=>by rw[if_neg a7] at O;exact b3 b O⟩
  .by_cases a7:j=k
   .subst a7;rw[e] at V;injection V with V
    subst V;exact⟨xs,q,if_pos rfl,bZ,ax.congr fun b=>by rw[if_pos rfl]⟩
   .obtain⟨ww,r,b1,b2,b3⟩:=E.xW j y V (if_neg a7);exact⟨ww,r,(if_neg a7).trans b1,b2,b3.congr fun b=>by rw[if_neg a7]⟩
  .by_cases aF:i=k
   .rw[if_pos aF] at ha;have V:j≠k:=fun b7=>gN (aF.trans b7.symm)
    rw[if_neg V] at O;exact H b ((G b).2 (.inr ⟨j,O⟩)) ha
   .rw[if_neg aF] at ha
    by_cases V:j=k
    .rw[if_pos V] at O;exact H b ((G b).2 (.inr ⟨i,ha⟩)) O
    .rw[if_neg V] at O;exact E.fh i j b gN ha O
  .show(cG b\/cN b)↔(b=p.bk\/ ∃j,(if j=k then cN b else ce j b));rw[G];constructor
   .rintro((h |⟨j,h⟩) |h)
    .exact .inl h
    .refine .inr ⟨j,?_⟩
     by_cases V:j=k
     .subst V;exact absurd h (cg b)
     .rw[if_neg V];exact h
    .exact .inr ⟨k,by rw[if_pos rfl];exact h⟩
   .rintro(h |⟨j,h⟩)
    .exact .inl (.inl h)
    .by_cases V:j=k
     .rw[if_pos V] at h;exact .inr h
     .rw[if_neg V] at h;exact .inl (.inr ⟨j,h⟩)
  .replace V:(if j=k then cN p.bk else ce j p.bk):=V
   by_cases kG:j=k
   .rw[if_pos kG] at V;exact H _ ((G _).2 (.inl rfl)) V
   .rw[if_neg kG] at V;exact af j V
section
variable {P:Program} {aS:dg} {ids:aC4} {K:aY} {B:az}
theorem F0 {o:Oper} {T kt et:TypeId} {x i:Operand} {c d:Nat} {f:lp} {k:Int} {xs:aC3} (ah:o.op= .lookup T x i false) (b6:P.underlying T=some (.map kt et)) {dk:TypeDesc} (kq:P.underlying kt=some dk) (j3:m' al dk=true) {c8:TypeInfo} (aF:P.info? et=some c8) (aN:c8.zero=some (.slice none 0 0))
  (hx:a2 K x= .c (.one (.mp c))) (aa:a2 K i= .c (.one (.d (.int .i64 k)))) (J:ag B c=some (.aG (mS f))) (hf:f k=some xs) (N:Nat):bA P N ids o K B (.c (.one (.own d))) ⟨[c],[d],[(c,some (.b5 d (wv f k))),(d,some (.row 5 .u8 xs))]⟩:=by
 have m1:x∈o.op.operands:=az1
 have m2:i∈o.op.operands:=az1
 rintro K' B' g1 g2 cX C a w ⟨hn,mc,ρ,F,aj,ar⟩ bt fJ Q cV;have cK:=(g2 c ay6).trans J;have cy:=cX d ay6;obtain⟨ib,jC,f3,px⟩:=k4 cy;have sy:c≠d:=fun e=>by rw[<-e,cK] at jC;cases jC
 obtain⟨cG,cN,q,es,y,E,G,af,aW,bG,⟨bR,bS,fF,jZ⟩,iu,vU⟩:=wu.out hf (aj.holds c _ cK);have ae:=ar.mp ((g1 x m1).trans hx);have ao:a.eval i=gL al k:=ar.int ((g1 i m2).trans aa);have CF:(zeroValue et).run P w= .ok (.slice none 0 0) w:=by simp[zeroValue,typeInfo,aF,aN]
 obtain⟨v,ax,ay⟩:=Pe (P:=P) (aK:=.dm) b6 kq j3 fF jZ CF ⟨rfl,⟨fun _=>rfl,fun h=>by cases h⟩,rfl⟩ k false
 have tw:v=q1 y:=by
  have h:=PW (ρ:=ρ) rfl ay;rw[bG] at h;exact h
 have hx:(execOp a.eval o).run P w= .ok (.value v) w:=by simp only[execOp,ah,Sem.run_bind,ae,ao,ax,Result.andThen_ok,Sem.run_pure];rfl
 unfold Oper.wp;rw[hx,Oper.upon_value]
 obtain⟨bI,a1⟩:=aj.split (K:=K') (i4:=.b5 d (wv f k)) (oR:=.row 5 .u8 xs) cK cy q cG cN E G af
  (fun I a8=>by
   show(wv f k (da ρ d q d)).bo I cG w (ρ c);rw[c7];exact(wv f k q).cp _ _ _ _ _ _ vU a8 (fun _ _=>rfl) (aq0 _))
  (fun I a8=>Holds.cp a8 (fun _ _=>rfl) (aq0 _) _ (fun _ h=>by cases h) iu)
 refine cV _ _ ⟨ki.trans hn,kj.trans mc,_,_,bI,(ar.mono a1 fun s e U=>dh _ _ (fun b7=>by subst b7;rw[ib s] at U;cases U)).kk (fun e U=>by rw[hn];exact bt e U) ?_⟩;show v=(da ρ d q d).ef;rw[c7,tw,aW]
theorem ac.F1 (c d:Nat) {f tz:lp} {k:Int} {xs:aC3} (ac2:jp f k xs=tz) (J:ag B c=some (.b5 d (wv f k))) (H:ag B d=some (.row 5 .u8 xs)) (a7:c≠d) (aa:(f k).isSome=true):ac ids K B K ((c,.aG (mS tz))::gS B d):=by
 subst ac2;rintro N C a w ⟨hn,mc,ρ,F,aj,ar⟩;have E:(wv f k (ρ d)).bo (bX C B F w) (F c) w (ρ c):=aj.holds c _ J;have G:tC (bX C B F w) (F d) w (ρ d) xs:=aj.holds d _ H
 have aa: ∃ys,f k=some ys:=by
  cases e:f k with
  |none=>rw[e] at aa;cases aa
  |some ys=>exact⟨ys,rfl⟩
 obtain⟨bI,a1⟩:=aj.FW (w':=w) (ch:=.aG (mS (jp f k xs))) J H a7 (fun b=>F c b\/F d b) (fun _ h=>h) (cS.refl _ _) fun I a8=>
  (mS (jp f k xs)).cp _ _ _ _ _ _ (wu.ac1 E G (fun b O dp=>aj.fh c d _ _ b J H a7 O dp) aa) a8 (fun _ _=>rfl) (aq0 _)
 exact⟨hn,mc,ρ,_,bI,ar.mono a1 fun _ _ _=>rfl⟩
theorem ac3 {o:Oper} {T kt et:TypeId} {x i v:Operand} {c d:Nat} {f:lp} {k:Int} {xs:aC3} (ah:o.op= .mapUpdate T x i v) (b6:P.underlying T=some (.map kt et)) {dk:TypeDesc} (kq:P.underlying kt=some dk) (j3:m' al dk=true)
  (hx:a2 K x= .c (.one (.mp c))) (aa:a2 K i= .c (.one (.d (.int .i64 k)))) (ay:a2 K v= .c (.one (.own d))) (J:ag B c=some (.aG (mS f))) (H:ag B d=some (.row 5 .u8 xs)) (a7:c≠d) (hf:f k=none) (N:Nat):
  bA P N ids o K B .undef ⟨[c,d],[],[(d,none),(c,some (.aG (mS (jp f k xs))))]⟩:=by
 have m1:x∈o.op.operands:=az1
 have m2:i∈o.op.operands:=az1
 have m3:v∈o.op.operands:=az1
 rintro K' B' g1 g2 - C a w ⟨hn,mc,ρ,F,aj,ar⟩ bt fJ Q cV;have cK:=(g2 c ay6).trans J;have dq:=(g2 d ay6).trans H;obtain⟨es,ce,E,G,af,bR,bS,aW,bG,fF⟩:(mS f).bo (bX C B' F w) (F c) w (ρ c):=aj.holds c _ cK;have fK:tC (bX C B' F w) (F d) w (ρ d) xs:=aj.holds d _ dq;obtain⟨y,aD⟩:=ac0 fK;have ae:=ar.mp ((g1 x m1).trans hx);have ao:a.eval i=gL al k:=ar.int ((g1 i m2).trans aa);have bm:a.eval v=(ρ d).ef:=ar.ev ((g1 v m3).trans ay)
 have c0:jz (bX C B' F w) w .dm y (a.eval v):=by
  rw[bm,aD]
  have dL:(q1 y).cells= #[q1 y]:=by
   match y with
   |none=>rfl
   |some (_,_,_)=>rfl
  exact⟨by rw[dL];rfl,⟨fun _=>dL,fun h=>by cases h⟩,by rw[dL];rfl⟩
 obtain⟨eB,jX,ax,gu,qh⟩:=BD (P:=P) b6 kq j3 aW bG fF k c0;have rp:=(aw5.1 aW).1;have eE: ∀y,F c y-> ¬F d y:=fun y aD d'=>aj.fh c d _ _ y cK dq a7 aD d'
 have zX:bY (aI:=al) (aK:=.dm) es k=none:=by
  cases e:bY (aI:=al) (aK:=.dm) es k with
  |none=>rfl
  |some aB=>
   obtain⟨_,_,bZ,_⟩:=E.xW k aB e rfl;rw[hf] at bZ
   cases bZ
 obtain⟨dQ,cW⟩:=zV (aI:=al) (aK:=.dm) rq k y es;have uR: ∀aB,aB≠(ρ c).bk->({w with heap:=w.heap.setIfInBounds (ρ c).bk (.map (List.toArray eB) jX)}:World).heap[aB]? =w.heap[aB]? :=fun aB aN=>aw1 (Ne.symm aN)
 have CG:(execOp a.eval o).run P w= .ok .skip {w with heap:=w.heap.setIfInBounds (ρ c).bk (.map (List.toArray eB) jX)}:=aB3
 unfold Oper.wp;rw[CG,Oper.upon_skip]
 obtain⟨bI,a1⟩:=aj.FW (ch:=.aG (mS (jp f k xs))) (w':={w with heap:=w.heap.setIfInBounds (ρ c).bk (.map (List.toArray eB) jX)}) cK dq a7 (fun b=>F c b\/F d b) (fun _ h=>h) (uz (S:=fun b=>F c b\/F d b) (.inl ((G _).2 (.inl rfl)))) fun I a8=>by
  have h1:=E.cp a8 (fun j b O=>uR b fun e=>af j (e▸O)) ay6;have fS:tC I (F d) {w with heap:=w.heap.setIfInBounds (ρ c).bk (.map (List.toArray eB) jX)} (ρ d) xs:=Holds.cp a8 (fun b O=>uR b fun e=>eE b (e▸(G _).2 (.inl rfl)) O) ay6 _ (fun _ h=>by cases h) fK;refine⟨dx (aI:=al) (aK:=.dm) es k y,fun j b=>if j=k then F d b else ce j b,⟨e5.put rq E.hE,fun j V=>?_,fun j aB V _=>?_,fun _ _ _ _ bf=>(by cases bf),fun i j b gN ha O=>?_⟩,fun b=>?_,fun j V=>?_,eB,jX,by simp[rp],gu.mono a8,qh⟩
  .have jK:j≠k:=fun e=>by rw[e,dQ] at V;cases V
   rw[cW j jK] at V;obtain⟨b1,_,b3⟩:=h1.wt j V;exact⟨by unfold jp;rw[if_neg jK];exact b1,rfl,fun b O=>by rw[if_neg jK] at O;exact b3 b O⟩
  .by_cases jK:j=k
   .subst jK;rw[dQ] at V;injection V with V
    subst V;exact⟨xs,ρ d,if_pos rfl,aD,fS.congr fun b=>by rw[if_pos rfl]⟩
   .rw[cW j jK] at V;obtain⟨ww,r,b1,b2,b3⟩:=h1.xW j aB V rfl;exact⟨ww,r,(if_neg jK).trans b1,b2,b3.congr fun b=>by rw[if_neg jK]⟩
  .by_cases aF:i=k
   .rw[if_pos aF] at ha;have V:j≠k:=fun b7=>gN (aF.trans b7.symm)
    rw[if_neg V] at O;exact eE b ((G b).2 (.inr ⟨j,O⟩)) ha
   .rw[if_neg aF] at ha
    by_cases V:j=k
    .rw[if_pos V] at O;exact eE b ((G b).2 (.inr ⟨i,ha⟩)) O
    .rw[if_neg V] at O;exact E.fh i j b gN ha O
  .show(F c b\/F d b)↔(b=(ρ c).bk\/ ∃j,(if j=k then F d b else ce j b));rw[G];have ac4:=(E.wt k zX).2.2;constructor
   .rintro((h |⟨j,h⟩) |h)
    .exact .inl h
    .refine .inr ⟨j,?_⟩;have V:j≠k:=fun e=>ac4 b (e▸h)
     rw[if_neg V];exact h
    .exact .inr ⟨k,by rw[if_pos rfl];exact h⟩
   .rintro(h |⟨j,h⟩)
    .exact .inl (.inl h)
    .by_cases V:j=k
     .rw[if_pos V] at h;exact .inr h
     .rw[if_neg V] at h;exact .inl (.inr ⟨j,h⟩)
  .replace V:(if j=k then F d (ρ c).bk else ce j (ρ c).bk):=V
   by_cases kG:j=k
   .rw[if_pos kG] at V;exact eE _ ((G _).2 (.inl rfl)) V
   .rw[if_neg kG] at V;exact af j V
 exact cV _ _ ⟨ki.trans hn,kj.trans mc,ρ,_,bI,(ar.mono a1 fun _ _ _=>rfl).kk (fun e U=>by rw[hn];exact bt e U) rfl⟩
theorem ac5 {o:Oper} {T eJ kt et:TypeId} {x i:Operand} {c:Nat} {f:lp} {k:Int} (ah:o.op= .call {callee:=.builtin .delete,args:= #[x,i],argTypes:= #[T,eJ]}) (b6:P.underlying T=some (.map kt et)) {dk:TypeDesc} (kq:P.underlying kt=some dk) (j3:m' al dk=true)
  (hx:a2 K x= .c (.one (.mp c))) (aa:a2 K i= .c (.one (.d (.int .i64 k)))) (J:ag B c=some (.aG (mS f))) (N:Nat):
  bA P N ids o K B (.ci []) ⟨[c],[],[(c,some (.aG (mS (CE f k))))]⟩:=by
 have m1:x∈o.op.operands:=az5
 have m2:i∈o.op.operands:=az5
 rintro K' B' g1 g2 - C a w ⟨hn,mc,ρ,F,aj,ar⟩ bt fJ Q cV;have cK:=(g2 c ay6).trans J;obtain⟨es,ce,E,G,af,bR,bS,aW,bG,fF⟩:(mS f).bo (bX C B' F w) (F c) w (ρ c):=aj.holds c _ cK;have ae:=ar.mp ((g1 x m1).trans hx);have ao:a.eval i=gL al k:=ar.int ((g1 i m2).trans aa);obtain⟨eB,ax,gu,qh⟩:=Pk (P:=P) (ty:=o.type) b6 kq j3 aW bG fF k eJ;have rp:=(aw5.1 aW).1;obtain⟨dQ,cW⟩:=CC (aI:=al) (aK:=.dm) rq k es E.hE;have uR: ∀aB,aB≠(ρ c).bk->({w with heap:=w.heap.setIfInBounds (ρ c).bk (.map (List.toArray eB) bS)}:World).heap[aB]? =w.heap[aB]? :=fun aB aN=>aw1 (Ne.symm aN)
 have CG:(execOp a.eval o).run P w= .ok (.value (.tuple #[])) {w with heap:=w.heap.setIfInBounds (ρ c).bk (.map (List.toArray eB) bS)}:=by simp[execOp,ah,resolve,invoke,builtin,ae,ao,ax]
 unfold Oper.wp;rw[CG,Oper.upon_value]
 obtain⟨bI,a1⟩:=aj.FX (ch:=.aG (mS (CE f k))) (w':={w with heap:=w.heap.setIfInBounds (ρ c).bk (.map (List.toArray eB) bS)}) cK (fun b=>b=(ρ c).bk\/ ∃j,j≠k/\ce j b) (fun b O=>(G b).2 (O.imp id fun⟨j,_,h⟩=>⟨j,h⟩)) (uz (S:=F c) ((G _).2 (.inl rfl))) fun I a8=>by
  have h1:=E.cp a8 (fun j b O=>uR b fun e=>af j (e▸O)) ay6;refine⟨gM (aI:=al) (aK:=.dm) es k,fun j b=>j≠k/\ce j b,⟨e5.ng E.hE,fun j V=>?_,fun j aB V _=>?_,fun _ _ _ _ bf=>(by cases bf),fun i j b gN ha O=>E.fh i j b gN ha.2 O.2⟩,fun b=>Iff.rfl,fun j V=>af j V.2,eB,bS,by simp[rp],gu.mono a8,qh⟩
  .by_cases jK:j=k
   .exact⟨if_pos jK,rfl,fun b O=>O.1 jK⟩
   .rw[cW j jK] at V;obtain⟨b1,_,b3⟩:=h1.wt j V;exact⟨(if_neg jK).trans b1,rfl,fun b O=>b3 b O.2⟩
  .have jK:j≠k:=fun e=>by rw[e,dQ] at V;cases V
   rw[cW j jK] at V;obtain⟨ww,r,b1,b2,b3⟩:=h1.xW j aB V rfl;exact⟨ww,r,(if_neg jK).trans b1,b2,b3.congr fun b=>⟨fun h=>h.2,fun h=>⟨jK,h⟩⟩⟩
 exact cV _ _ ⟨ki.trans hn,kj.trans mc,ρ,_,bI,(ar.mono a1 fun _ _ _=>rfl).kk (fun e U=>by rw[hn];exact bt e U) ⟨[],rfl,rfl⟩⟩
theorem ac.Ru (c:Nat) {aK:bz} (J:ag B c=some (.map al aK [])):ac ids K B K ((c,.aG (mS Ky))::B):=by
 rintro N C a w ⟨hn,H,ρ,F,aj,ar⟩;obtain⟨bh,bR,bS,af,aW,fF⟩:=aj.holds c _ J;have aW:bR=[]:=aW;subst aW;obtain⟨bI,a1⟩:=aj.hI (w':=w) (ch:=.aG (mS Ky)) J (cS.refl _ _) fun I a8=>⟨[],fun _ _=>False,⟨.nil,fun _ _=>⟨rfl,rfl,fun _ h=>h⟩,fun _ _ h=>az4,fun _ _ _ h=>az4,fun _ _ _ _ h=>h.elim⟩,fun b=>by rw[bh];simp,fun _ h=>h,[],bS,af,rfl,fF⟩
 exact⟨hn,H,ρ,F,bI,ar.mono a1 fun _ _ _=>rfl⟩
end
end
section
def bc.ch (ch:ba) (h: ∀c,ch.has c=false):bc where
 bo:=fun I F w p=>Holds (fun _=>p) I F w p ch
 cp:=fun I F w I' w' p bf U bh aN=>Holds.cp U bh aN ch (fun c J=>absurd J (by rw[h c];decide)) bf
theorem bc.Rv {ch:ba} (h: ∀c,ch.has c=false) {ρ:Nat->bn} {I F:Nat->Prop} {w:World} {p:bn} (bf:Holds ρ I F w p ch):(bc.ch ch h).bo I F w p:=
 Holds.cp (cm.refl _ _) (fun _ _=>rfl) (aq0 _) ch (fun c J=>absurd J (by rw[h c];decide)) bf
section
variable {P:Program} {ids:aC4} {K:aY} {B:az}
theorem i' {o:Oper} {x:Operand} {b:Nat} (ah:o.op= .nilCheck x) (hx:a2 K x= .c (.one (.d (.aM (some b))))) (N:Nat):bA P N ids o K B (.c (.one (.d (.aM (some b))))) ⟨[],[],[]⟩:=by
 have aA:x∈o.op.operands:=az1
 refine bA.val fun K' B' g1 g2 C ρ F a w aj ar=>?_
 have ay:a.eval x= .pointer (some ⟨b,0,none⟩):=ar.ev ((g1 x aA).trans hx);exact⟨.pointer (some ⟨b,0,none⟩),by simp[execOp,ah,ay],rfl⟩
theorem jq {o:Oper} {T:TypeId} {x:Operand} {f b off:Nat} {fs:Array Field} {j0:Field} (ah:o.op= .fieldAddr T x f) (b6:P.underlying T=some (.struct fs)) (ut:fs[f]? =some j0) (sA:j0.offset=off) {i:TypeInfo} (aF:P.info? j0.type=some i) (cC:i.size≠0) (hx:a2 K x= .c (.one (.d (.aM (some b))))) (N:Nat):
  bA P N ids o K B (.c (.one (.bJ (.pointer (some ⟨b,off,none⟩))))) ⟨[],[],[]⟩:=by
 have aA:x∈o.op.operands:=az1
 refine bA.val fun K' B' g1 g2 C ρ F a w aj ar=>?_
 have ay:a.eval x= .pointer (some ⟨b,0,none⟩):=ar.ev ((g1 x aA).trans hx);have h:=E4 ay ah b6 ut sA aF cC (w:=w);rw[au1] at h;exact⟨.pointer (some ⟨b,off,none⟩),h,rfl⟩
theorem ac6 {I:Nat->Prop} {w:World} {L:List (Nat×bc)} {F:Nat->Prop} {b:Nat} {l:List bB} {h: ∀c,(ba.cells l).has c=false} (bl:fM I w L F) (cL:eu L b=some (bc.ch (.cells l) h)) {j:Nat} {x:D} (V:l[j]? =some (.d x)): ∃v,w.cell? ⟨b,j,none⟩=some v/\gK I w x v:=by
 obtain⟨cG,cN,p,cj,cT,eg,eR,uM⟩:=bl.out cL;obtain⟨E,aE,eJ,G,af⟩:=eR;obtain⟨v,ay,H⟩:=cc.get _ _ af j _ V;rw[eg] at G;exact⟨v,oS G ay,H⟩
theorem lq {o:Oper} {T:TypeId} {x:Operand} {q b j:Nat} {y:D} {L:List (Nat×bc)} {l:List bB} {h: ∀c,(ba.cells l).has c=false} {d:TypeDesc} (ah:o.op= .load T x) (b6:P.underlying T=some d) (H:d.isRow=false) (hx:a2 K x= .c (.one (.bJ (.pointer (some ⟨b,j,none⟩)))))
  (aT:ag B q=some (.aG (.bx L))) (cL:eu L b=some (bc.ch (.cells l) h)) (V:l[j]? =some (.d y)) (N:Nat):bA P N ids o K B (.c (.one (.d y))) ⟨[q],[],[]⟩:=by
 have aA:x∈o.op.operands:=az1
 refine bA.val fun K' B' g1 g2 C ρ F a w aj ar=>?_
 have bl:fM (bX C B' F w) w L (F q):=aj.holds q _ ((g2 q ay6).trans aT);have ay:a.eval x= .pointer (some ⟨b,j,none⟩):=ar.ev ((g1 x aA).trans hx);obtain⟨v,E,G⟩:=ac6 bl cL V;exact⟨v,E2 ah ay b6 H E,G⟩
theorem zY {o:Oper} {T:TypeId} {x v:Operand} {q b j:Nat} {y:D} {L:List (Nat×bc)} {l:List bB} {h: ∀c,(ba.cells l).has c=false} {h': ∀c,(ba.cells (l.set j (.d y))).has c=false} {i:TypeInfo} (ah:o.op= .store T x v) (aF:P.info? T=some i) (aN:i.size=1) (hx:a2 K x= .c (.one (.bJ (.pointer (some ⟨b,j,none⟩)))))
  (ay:a2 K v= .c (.one (.d y))) (aT:ag B q=some (.aG (.bx L))) (cL:eu L b=some (bc.ch (.cells l) h)) (V:j < l.length) (E: ∀{I:Nat->Prop} {w:World} {aB:Value},gK I w y aB->aB.cells=List.toArray [aB]/\aB.oneCell'=true) (N:Nat):
  bA P N ids o K B .undef ⟨[q],[],[(q,some (.aG (.bx (e' L b (bc.ch (.cells (l.set j (.d y))) h')))))]⟩:=by
 have m1:x∈o.op.operands:=az1
 have m2:v∈o.op.operands:=az1
 refine bA.hI aT fun K' B' g1 C ρ F a w aj ar FT=>?_
 have bl:fM (bX C B' F w) w L (F q):=aj.holds q _ FT;obtain⟨cG,cN,p,cj,cT,eg,eR,uM⟩:=bl.out cL;obtain⟨cI,aE,eJ,cE,hN⟩:=eR;have ae:a.eval x= .pointer (some ⟨b,j,none⟩):=ar.ev ((g1 x m1).trans hx);have ao:gK (bX C B' F w) w y (a.eval v):=ar.ev ((g1 v m2).trans ay);obtain⟨hJ,jj⟩:=E ao;have bV:aE.length=l.length:=cc.length _ _ hN;rw[eg] at cE;have dN:=BN (P:=P) (o:=o) (ev:=a.eval) (w:=w) (us:=[a.eval v]) ah ae hJ aF aN cE az8 (fun aB aN=>by rw[ar5] at aN;rw[aN];exact jj);have gV:(w.setRow b (List.toArray (aE.take j++[a.eval v]++aE.drop (j+ [a.eval v].length)))).heap[b]? =some (.cells (List.toArray (aE.take j++[a.eval v]++aE.drop (j+ [a.eval v].length))) eJ (0,0)):=setRow_heap w _ _ _ eJ _ cE;have gX:cG b:=(cI b).2 eg.symm;have qk:F q b:=(cj b).2 (.inl gX);refine⟨_,dN,⟨rfl,rfl,rfl,by simp[World.setRow],fun k _ aa=>setRow_other w _ k _ (fun e=>aa (e▸qk))⟩,fun I a1=>?_⟩
 have dy: ∀(l:List bB) (aE:List Value) (j:Nat),j < l.length->cc (fun _=>p) (bX C B' F w) w l aE->cc (fun _=>p) (bX C B' F w) w (l.set j (.d y)) (aE.take j++[a.eval v]++aE.drop (j+1)):=fun l=>by
  induction l with
  |nil=>intro aE j V;simp at V
  |cons s l bq=>
   rintro _ j V ⟨u,r,rfl,cA,cF⟩
   match j with
   |0=>exact⟨a.eval v,r,ay6,ao,cF⟩
   |j+1=>exact⟨u,_,rfl,cA,bq r j aA5 cF⟩
 have tD:(fun aB=>cG aB\/cN aB)=F q:=funext fun aB=>propext (cj aB).symm
 rw[<-tD]
 exact uM I _ (bc.ch (.cells (l.set j (.d y))) h') cG p a1 (by simp[World.setRow]) (fun aB aN=>setRow_other w _ aB _ (fun e=>cT b gX (e▸aN))) eg
  ⟨cI,_,eJ,by rw[eg];exact gV,cc.mono a1 _ _ (fun _ _=>rfl) (dy l aE j V hN)⟩ cT
theorem ac7 {o:Oper} {T kt et:TypeId} {x i v:Operand} {c d q:Nat} (ah:o.op= .mapUpdate T x i v) (b6:P.underlying T=some (.map kt et)) {dk:TypeDesc} (kq:P.underlying kt=some dk) {aI:bz} (j3:m' aI dk=true)
  (hx:a2 K x= .c (.one (.mp c))) {key:Z aI} (aa:xr aI (a2 K i)=some key) (ay:a2 K v= .c (.one (.ptr d 0))) {es:List (Z aI×Z .aM)} {L:List (Nat×bc)} {l:List bB} {h: ∀c,(ba.cells l).has c=false} (J:ag B c=some (.map aI .aM es)) (H:ag B d=some (.cells l)) (aT:ag B q=some (.aG (.bx L)))
  (sy:c≠d) (F2:c≠q) (Rw:d≠q) (ha: ∀p∈L,p.2.o3):
  Co P ids o K B (fun df e=> ∃b:Nat,b∉L.map (·.1)/\df= .undef/\e=⟨[c,d,q],[],[(d,none),(c,some (.map aI .aM (dx (aI:=aI) (aK:=.aM) es key (some b)))),(q,some (.aG (.bx ((b,bc.ch (.cells l) h)::L))))]⟩):=by
 rintro N C a w ⟨hn,mc,ρ,F,aj,ar⟩ bt fJ Q cV;obtain⟨mJ,bR,bS,aW,bG,fF⟩:=aj.holds c _ J;have CH:=aj.holds d _ H;have bl:fM (bX C B F w) w L (F q):=aj.holds q _ aT;have ae:=ar.mp hx;have ao:a.eval i=gL aI key:=BT aa (ar.ev rfl);have bm:a.eval v= .pointer (some ⟨(ρ d).bk,0,none⟩):=ar.ev ay
 have c0:jz (bX C B F w) w .aM (some (ρ d).bk:Z .aM) (a.eval v):=by
  rw[bm];exact⟨rfl,⟨fun _=>rfl,fun h=>by cases h⟩,rfl⟩
 obtain⟨eB,jX,ax,gu,qh⟩:=BD (P:=P) b6 kq j3 aW bG fF key c0;have rp:=(aw5.1 aW).1;have ac8:F d (ρ d).bk:=(CH.1 _).2 rfl;have F3:(ρ d).bk∉L.map (·.1):=fun O=>aj.fh d q _ _ _ H aT Rw ac8 (Ko ha bl O)
 have uR: ∀y,y≠(ρ c).bk->({w with heap:=w.heap.setIfInBounds (ρ c).bk (.map (List.toArray eB) jX)}:World).heap[y]? =w.heap[y]? :=fun y aD=>aw1 (Ne.symm aD)
 have zZ:F c (ρ c).bk:=(mJ _).2 rfl;have xA: ∀y,F d y->y≠(ρ c).bk:=fun y aD e=>aj.fh d c _ _ y H J (Ne.symm sy) aD (e▸zZ)
 have ac9: ∀y,F q y->y≠(ρ c).bk:=fun y aD e=>aj.fh q c _ _ y aT J (Ne.symm F2) aD (e▸zZ)
 have CG:(execOp a.eval o).run P w= .ok .skip {w with heap:=w.heap.setIfInBounds (ρ c).bk (.map (List.toArray eB) jX)}:=aB3
 unfold Oper.wp;rw[CG,Oper.upon_skip]
 have uP: ∀j ch,ag ((q,ba.aG (.bx (((ρ d).bk,bc.ch (.cells l) h)::L)))::(c,.map aI .aM (dx (aI:=aI) (aK:=.aM) es key (some (ρ d).bk)))::gS B d) j=some ch->(j=c\/j=d\/j=q)->(j=q/\ch= .aG (.bx (((ρ d).bk,bc.ch (.cells l) h)::L)))\/(j=c/\ch= .map aI .aM (dx (aI:=aI) (aK:=.aM) es key (some (ρ d).bk))):=fun j ch V aA=>by
  rw[cd] at V
  split at V
  .rename_i e;injection V with V;exact .inl ⟨e.symm,V.symm⟩
  .rename_i e;rw[cd] at V
   split at V
   .rename_i ao;injection V with V;exact .inr ⟨ao.symm,V.symm⟩
   .rename_i ao;rcases aA with aA |aA |aA
    .exact absurd aA.symm ao
    .rw[aA,hA,if_pos rfl] at V;cases V
    .exact absurd aA.symm e
 have F4:da F q (fun y=>F d y\/F q y) c=F c:=dh _ _ F2
 obtain⟨bI,a1⟩:=aj.step (B':=(q,.aG (.bx (((ρ d).bk,bc.ch (.cells l) h)::L)))::(c,.map aI .aM (dx (aI:=aI) (aK:=.aM) es key (some (ρ d).bk)))::gS B d) (ρ':=ρ) (F':=da F q (fun y=>F d y\/F q y)) (w':={w with heap:=w.heap.setIfInBounds (ρ c).bk (.map (List.toArray eB) jX)}) (fun j=>j=c\/j=d\/j=q) (fun _=>False)
  ((uz (S:=F c) zZ).mono fun y _ aD=>⟨c,_,J,.inl rfl,aD⟩)
  (fun j ch V aA=>by
   rw[cd,if_neg (fun e=>aA (.inr (.inr e.symm))),cd,if_neg (fun e=>aA (.inl e.symm)),hA,if_neg (fun e=>aA (.inr (.inl e.symm)))] at V;exact V)
  (fun _ _=>rfl) (fun j aA=>dh _ _ (fun e=>aA (.inr (.inr e)))) (fun _ _ h=>h) (fun _ h=>h.elim) (fun _ _ _ _ _ _ h=>h)
  (fun j ch V aA a1=>by
   rcases uP j ch V aA with⟨rfl,rfl⟩ |⟨rfl,rfl⟩
   .rw[c7];exact⟨F d,F j,ρ d,fun _=>Iff.rfl,fun y aD d'=>aj.fh d j _ _ y H aT Rw aD d',rfl,(bc.ch (.cells l) h).cp _ _ _ _ _ _ (bc.Rv h CH) a1 (fun y aD=>uR y (xA y aD)) ay6,bl.cp a1 ay6 fun y aD=>uR y (ac9 y aD)⟩
   .rw[F4];exact⟨mJ,eB,jX,by simp[rp],gu.mono a1,qh⟩)
  (fun j ch V aA y aD=>by
   rcases uP j ch V aA with⟨rfl,rfl⟩ |⟨rfl,rfl⟩
   .rw[c7] at aD;rcases aD with aD |aD
    .exact⟨by simpa using(aj.own d _ H y aD).1,.inl ⟨d,_,H,.inr (.inl rfl),aD⟩⟩
    .exact⟨by simpa using(aj.own j _ aT y aD).1,.inl ⟨j,_,aT,.inr (.inr rfl),aD⟩⟩
   .rw[F4] at aD;exact⟨by simpa using(aj.own j _ J y aD).1,.inl ⟨j,_,J,.inl rfl,aD⟩⟩)
  (fun j rj ch ch' y V kG aA gu a7 aD d'=>by
   rcases uP j ch V aA with⟨rfl,rfl⟩ |⟨rfl,rfl⟩ <;>rcases uP rj ch' kG gu with⟨rfl,rfl⟩ |⟨rfl,rfl⟩
   .exact a7 rfl
   .rw[c7] at aD;rw[F4] at d';rcases aD with aD |aD
    .exact aj.fh d rj _ _ y H J (Ne.symm sy) aD d'
    .exact aj.fh j rj _ _ y aT J (Ne.symm F2) aD d'
   .rw[c7] at d';rw[F4] at aD;rcases d' with d' |d'
    .exact aj.fh d j _ _ y H J (Ne.symm sy) d' aD
    .exact aj.fh rj j _ _ y aT J (Ne.symm F2) d' aD
   .exact a7 rfl)
 exact cV _ _ _ _ ⟨_,F3,rfl,rfl⟩ ⟨ki.trans hn,kj.trans mc,ρ,_,bI,(ar.mono a1 fun _ _ _=>rfl).kk (fun e U=>by rw[hn];exact bt e U) rfl⟩
end
end
section
def fc (b:Nat) (q:bn):bc where
 bo:=fun I F w p=>q.bk=b/\ ∀x,¬F x
 cp:=fun _ _ _ _ _ _ h _ _ _=>h
def j4 (ch:ba):Prop:= ∀(ρ ρ':Nat->bn) (I F:Nat->Prop) (w:World) (p km:bn),(∀c,ch.has c=true->(ρ' c).bk=(ρ c).bk)->km.bk=p.bk->Holds ρ I F w p ch->Holds ρ' I F w km ch
def Kz:bB->Bool
 | .own _=>false
 | .os _ _ _ _=>false
 |_=>true
theorem hW.bk {ρ ρ':Nat->bn} {I:Nat->Prop} {w:World}: ∀(l:List kZ) (aE:List Value),(∀c,l5 c l=true->(ρ' c).bk=(ρ c).bk)->hW ρ I w l aE->hW ρ' I w l aE
 | [],_,_,h=>h
 | .p b o::l,_,dn,⟨v,r,e,E,G⟩=>⟨v,r,e,(by have e:=dn b (by simp[l5]);simp only[xh] at*;rw[e];exact E),hW.bk l r (fun c J=>dn c (by simp[l5,J])) G⟩
 | .d x::l,_,dn,⟨v,r,e,E,G⟩=>⟨v,r,e,E,hW.bk l r (fun c J=>dn c (by simpa[l5] using J)) G⟩
theorem dY.bk {ρ ρ':Nat->bn} {I:Nat->Prop} {w:World} (s:bB) (v:Value) (O:Kz s=true) (dn: ∀c,s.has c=true->(ρ' c).bk=(ρ c).bk) (h:dY ρ I w s v):dY ρ' I w s v:=by
 cases s with
 |ptr c off=>
  have e:=dn c aA8;simp only[dY] at*;rw[e];exact h
 |gc c s i off=>
  have e:=dn c aA8;simp only[dY] at*;rw[e];exact h
 |mp c=>
  have e:=dn c aA8;simp only[dY] at*;rw[e];exact h
 |cY f l=>obtain⟨aE,e,h⟩:=h;exact⟨aE,e,hW.bk l aE dn h⟩
 |own c=>cases O
 |os c s off n=>cases O
 |d x=>exact h
 |el u x off=>exact h
 |dK=>exact h
 |bJ u=>exact h
 |any=>trivial
theorem cc.bk {ρ ρ':Nat->bn} {I:Nat->Prop} {w:World}: ∀(l:List bB) (aE:List Value),l.all Kz=true->(∀c,mB c l=true->(ρ' c).bk=(ρ c).bk)->cc ρ I w l aE->cc ρ' I w l aE
 | [],_,_,_,h=>h
 |s::l,_,O,dn,⟨v,r,e,E,G⟩=>by
  rw[List.all_cons,vj] at O;exact⟨v,r,e,dY.bk s v O.1 (fun c J=>dn c (by simp[mB,J])) E,cc.bk l r O.2 (fun c J=>dn c (by simp[mB,J])) G⟩
theorem j4.cells {l:List bB} (O:l.all Kz=true):j4 (.cells l):=by
 rintro ρ ρ' I F w p km dn ai ⟨E,aE,T,G,af⟩;exact⟨fun b=>by rw[ai];exact E b,aE,T,by rw[ai];exact G,cc.bk l aE O dn af⟩
theorem j4.map {aI aK:bz} {es:List (Z aI×Z aK)}:j4 (.map aI aK es):=by
 rintro ρ ρ' I F w p km dn ai ⟨E,bR,bS,G,af,aW⟩;exact⟨fun b=>by rw[ai];exact E b,bR,bS,by rw[ai];exact G,af,aW⟩
theorem j4.bx {L:List (Nat×bc)}:j4 (.aG (.bx L)):=fun _ _ _ _ _ _ _ _ _ h=>h
theorem j4.i9 {c:Nat} {bp:az} (h: ∀d ch,ag bp d=some ch->j4 ch):j4 (.aG (.i9 c bp)):=by
 rintro mC sv I F w p km _ ai ⟨ρ,ce,E,G,af,aW⟩
 have O: ∀d,(da ρ c km d).bk=(ρ d).bk:=fun d=>by
  by_cases e:d=c
  .subst e;rw[c7,ai,E]
  .rw[dh _ _ e]
 exact⟨da ρ c km,ce,c7 ..,fun d ch H=>h d ch H ρ (da ρ c km) _ _ _ (ρ d) (da ρ c km d) (fun e _=>O e) (O d) (G d ch H),af,aW⟩
def F5:az->Prop
 | []=>True
 |(_,ch)::bp=>j4 ch/\F5 bp
theorem CI: ∀{bp:az},F5 bp-> ∀d ch,ag bp d=some ch->j4 ch
 | [],_,d,ch,H=>by cases H
 |(e,x)::bp,h,d,ch,H=>by
  rw[cd] at H
  split at H
  .injection H with H;subst H;exact h.1
  .exact CI h.2 d ch H
def F6 (bp:az) (bs:Nat->Nat) (I F:Nat->Prop) (w:World):Prop:=
 ∃(ρ:Nat->bn) (ce:Nat->Nat->Prop),(∀d ch,ag bp d=some ch->(ρ d).bk=bs d)/\(∀d ch,ag bp d=some ch->Holds ρ I (ce d) w (ρ d) ch)/\
  (∀d c3 ch ch' b,ag bp d=some ch->ag bp c3=some ch'->d≠c3->ce d b-> ¬ce c3 b)/\ ∀b,F b↔ ∃d ch,ag bp d=some ch/\ce d b
def bc.nh (bp:az) (bs:Nat->Nat):bc where
 bo:=fun I F w _=>F6 bp bs I F w
 cp:=fun I F w I' w' p ⟨ρ,ce,au,G,af,aW⟩ U bh aN=>⟨ρ,ce,au,fun d ch H=>Holds.cp U (fun b O=>bh b ((aW b).2 ⟨d,ch,H,O⟩)) aN ch (fun _ _=>rfl) (G d ch H),af,aW⟩
section
variable {ids:aC4} {K:aY} {B:az}
theorem di.mark (d m:Nat) (aA:g6 ids K B m=true) (a7:d≠m):di ids K B (fun _:Nat=>K) (fun b=>(m,.b5 d (fc b))::B):=by
 rintro N C a w ⟨hn,H,ρ,F,aj,ar⟩;have cy:=k4 aA
 obtain⟨bI,a1⟩:=aj.make (ch:=.b5 d (fc (ρ d).bk)) (w':=w) aA (Below.refl _ _) ⟨0,none,0,0⟩ (fun _=>False) (fun _ h=>h.elim) (fun I _ _=>by
  show(fc (ρ d).bk (da ρ m _ d)).bo I _ w _;rw[dh _ _ a7];exact⟨rfl,fun _ h=>h⟩)
 exact⟨(ρ d).bk,hn,H,_,_,bI,ar.mono a1 fun s c J=>dh _ _ (fun e=>by subst e;rw[cy.1 s] at J;cases J)⟩
theorem ac.place (d m b:Nat) (H:g6 ids K B d=true) (aA:g6 ids K B m=true) (a7:d≠m):ac ids K B K ((m,.b5 d (fc b))::B):=by
 rintro N C a w ⟨hn,mc,ρ,F,aj,ar⟩;have ib:=k4 H;have jC:=k4 aA
 obtain⟨bI,a1⟩:=aj.step (B':=(m,.b5 d (fc b))::B) (ρ':=da ρ d ⟨b,none,0,0⟩) (F':=da F m fun _=>False) (w':=w) (fun c=>c=m\/c=d) (fun c=>c=d) (cS.refl _ _)
  (fun c ch J aA=>by
   rw[cd,if_neg (fun e=>aA (.inl e.symm))] at J;exact J)
  (fun c J=>dh _ _ J) (fun c J=>dh _ _ (fun e=>J (.inl e))) (fun c J e=>ib.2.2.2 (e▸J)) (fun c J=>.inr J)
  (fun c ch J _ j V e=>by subst e;rw[ib.2.2.1 c ch J] at V;cases V)
  (fun c ch J aA a1=>by
   rw[cd] at J
   split at J
   .rename_i e;subst e;injection J with J
    subst J;rw[c7];show(fc b (da ρ d _ d)).bo _ _ w _;rw[c7];exact⟨rfl,fun _ h=>h⟩
   .rename_i e;rcases aA with aA |aA
    .exact absurd aA.symm e
    .rw[aA,ib.2.1] at J;cases J)
  (fun c ch J aA x hx=>by
   rw[cd] at J
   split at J
   .rename_i e;subst e;rw[c7] at hx;exact hx.elim
   .rename_i e;rcases aA with aA |aA
    .exact absurd aA.symm e
    .rw[aA,ib.2.1] at J;cases J)
  (fun c b9 ch ch' x J cK aA gu Kn hx=>by
   have key: ∀c ch,ag ((m,ba.b5 d (fc b))::B) c=some ch->(c=m\/c=d)->c=m:=fun c ch J aA=>by
    rcases aA with aA |aA
    .exact aA
    .rw[cd,if_neg (fun e=>a7 (aA.symm.trans e.symm)),aA,ib.2.1] at J
     cases J
   exact absurd ((key c ch J aA).trans (key b9 ch' cK gu).symm) Kn)
 exact⟨hn,mc,_,_,bI,ar.mono a1 fun s c J=>dh _ _ (fun e=>by subst e;rw[ib.1 s] at J;cases J)⟩
def F7 (B:az) (ja bs:Nat->Nat):az->Prop
 | []=>True
 |(d,_)::bp=>ag B (ja d)=some (.b5 d (fc (bs d)))/\F7 B ja bs bp
theorem KA {ja bs:Nat->Nat}: ∀{bp:az},F7 B ja bs bp-> ∀{d ch},ag bp d=some ch->ag B (ja d)=some (.b5 d (fc (bs d)))
 | [],_,d,ch,H=>by cases H
 |(e,x)::bp,h,d,ch,H=>by
  rw[cd] at H
  split at H
  .rename_i e;subst e;exact h.1
  .exact KA h.2 H
theorem ac.KB (g:Nat) (bp:az) (ja bs:Nat->Nat) (c5:k2 B bp) (aA:F7 B ja bs bp) (aZ:ag B g=none):ac ids K B K ((g,.aG (.nh bp bs))::pD (cr bp) B):=by
 rintro N C a w ⟨hn,H,ρ,F,aj,ar⟩;have ak: ∀{d ch},ag bp d=some ch->ag B d=some ch:=fun {d ch} h=>kI c5 h
 have F8:g∉cr bp:=fun h=>by obtain⟨ch,h⟩:=gv.1 h;rw[ak h] at aZ;cases aZ
 have key: ∀d ch,ag ((g,ba.aG (.nh bp bs))::pD (cr bp) B) d=some ch->(d=g\/d∈cr bp)->d=g/\ch= .aG (.nh bp bs):=fun d ch H aA=>by
  rw[cd] at H
  split at H
  .rename_i e;injection H with H;exact⟨e.symm,H.symm⟩
  .rename_i e;rcases aA with aA |aA
   .exact absurd aA.symm e
   .rw[xT,if_pos aA] at H;cases H
 obtain⟨bI,a1⟩:=aj.step (B':=(g,.aG (.nh bp bs))::pD (cr bp) B) (ρ':=ρ) (F':=da F g (fun x=> ∃d ch,ag bp d=some ch/\F d x)) (w':=w) (fun d=>d=g\/d∈cr bp) (fun _=>False) (cS.refl _ _)
  (fun d ch H aA=>by
   rw[cd,if_neg (fun e=>aA (.inl e.symm)),xT,if_neg (fun h=>aA (.inr h))] at H;exact H)
  (fun _ _=>rfl) (fun d aA=>dh _ _ (fun e=>aA (.inl e))) (fun _ _ h=>h) (fun _ h=>h.elim) (fun _ _ _ _ _ _ h=>h)
  (fun d ch H gu a1=>by
   obtain⟨rfl,rfl⟩:=key d ch H gu;rw[c7];refine⟨ρ,F,fun d ch h=>?_,fun d ch h=>Holds.cp a1 (fun _ _=>rfl) (aq0 _) ch (fun _ _=>rfl) (aj.holds d ch (ak h)),fun d c3 ch ch' b h h' a7=>aj.fh d c3 ch ch' b (ak h) (ak h') a7,fun b=>Iff.rfl⟩;exact(aj.holds _ _ (KA aA h)).1)
  (fun d ch H gu x hx=>by
   obtain⟨rfl,rfl⟩:=key d ch H gu;rw[c7] at hx;obtain⟨c3,ch',E,G⟩:=hx;exact⟨(aj.own c3 ch' (ak E) x G).1,.inl ⟨c3,ch',ak E,.inr (gv.2 ⟨ch',E⟩),G⟩⟩)
  (fun d c3 ch ch' x H dq ac' wx a7=>absurd ((key d ch H ac').1.trans (key c3 ch' dq wx).1.symm) a7)
 exact⟨hn,H,ρ,_,bI,ar.mono a1 fun _ _ _=>rfl⟩
theorem ac.KC (g:Nat) (bp:az) (ja bs:Nat->Nat) (aZ:ag B g=some (.aG (.nh bp bs))) (aA:F7 B ja bs bp) (aa:((cr bp).all fun d=>(ag B d).isNone)=true) (ha:v8 (cr bp) bp=true) (xB: ∀d ch,ag bp d=some ch->j4 ch):ac ids K B K (bp++gS B g):=by
 rintro N C a w ⟨hn,H,ρ,F,aj,ar⟩;obtain⟨z1,ce,E,G,af,aW⟩:F6 bp bs (bX C B F w) (F g) w:=aj.holds g _ aZ
 have zX: ∀{d ch},ag bp d=some ch->ag B d=none:=fun {d ch} h=>by
  have:=as4.1 aa d (gv.2 ⟨ch,h⟩);simpa using this
 have F8:ag bp g=none:=by
  cases e:ag bp g with
  |none=>rfl
  |some ch=>rw[zX e] at aZ;cases aZ
 have jh: ∀{d ch},ag bp d=some ch->(ρ d).bk=(z1 d).bk:=fun {d ch} h=>((aj.holds _ _ (KA aA h)).1:(ρ d).bk=bs d).trans (E d ch h).symm
 have ma: ∀d ch,ag (bp++gS B g) d=some ch->ag bp d=some ch\/(ag bp d=none/\d≠g/\ag B d=some ch):=fun d ch h=>by
  rw[iN] at h
  cases e:ag bp d with
  |some x=>rw[e] at h;exact .inl h
  |none=>
   rw[e,hA] at h;simp only at h
   split at h
   .cases h
   .rename_i a7;exact .inr ⟨rfl,fun e=>a7 e.symm,h⟩
 let cN:Nat->Nat->Prop:=fun d=>if(ag bp d).isSome=true then ce d else F d
 have ae: ∀{d ch},ag bp d=some ch->cN d=ce d:=fun {d ch} h=>if_pos (by rw[h];rfl)
 have ao: ∀{d},ag bp d=none->cN d=F d:=fun {d} h=>if_neg (by rw[h];decide)
 obtain⟨bI,a1⟩:=aj.step (B':=bp++gS B g) (ρ':=ρ) (F':=cN) (w':=w) (fun d=>d=g\/(ag bp d).isSome=true) (fun _=>False) (cS.refl _ _)
  (fun d ch H aA=>by
   rcases ma d ch H with h |⟨_,_,h⟩
   .exact absurd (.inr (by rw[h];rfl)) aA
   .exact h)
  (fun _ _=>rfl) (fun d aA=>ao (by cases e:ag bp d with
   |none=>rfl
   |some x=>exact absurd (.inr (by rw[e];rfl)) aA)) (fun _ _ h=>h) (fun _ h=>h.elim) (fun _ _ _ _ _ _ h=>h)
  (fun d ch H aA a1=>by
   rcases ma d ch H with h |⟨h,a7,h'⟩
   .rw[ae h];refine xB d ch h z1 ρ _ _ w (z1 d) (ρ d) (fun c J=>?_) (jh h) (Holds.cp a1 (fun _ _=>rfl) (aq0 _) ch (fun _ _=>rfl) (G d ch h));have:=ba.kK (xG ha h) J;obtain⟨ch',h'⟩:=gv.1 this;exact jh h'
   .rcases aA with aA |aA
    .exact absurd aA a7
    .rw[h] at aA;cases aA)
  (fun d ch H aA x hx=>by
   rcases ma d ch H with h |⟨h,a7,h'⟩
   .rw[ae h] at hx;have:F g x:=(aW x).2 ⟨d,ch,h,hx⟩;exact⟨(aj.own g _ aZ x this).1,.inl ⟨g,_,aZ,.inl rfl,this⟩⟩
   .rcases aA with aA |aA
    .exact absurd aA a7
    .rw[h] at aA;cases aA)
  (fun d c3 ch ch' x H dq aA gu a7 hx dO=>by
   rcases ma d ch H with h |⟨h,hn,_⟩
   .rcases ma c3 ch' dq with h' |⟨h',uS,_⟩
    .rw[ae h] at hx;rw[ae h'] at dO;exact af d c3 ch ch' x h h' a7 hx dO
    .rcases gu with gu |gu
     .exact absurd gu uS
     .rw[h'] at gu;cases gu
   .rcases aA with aA |aA
    .exact absurd aA hn
    .rw[h] at aA;cases aA)
 exact⟨hn,H,ρ,_,bI,ar.mono a1 fun _ _ _=>rfl⟩
def bc.pE (am:Nat) (o:bc) (q:bn):bc where
 bo:=fun I F w p=>q.bk=am/\o.bo I F w p
 cp:=fun I F w I' w' p h U bh aN=>⟨h.1,o.cp I F w I' w' p h.2 U bh aN⟩
theorem ac.pE (g c am:Nat) {o sB:bc} (aZ:ag B g=some (.aG o)) (J:ag B c=some (.aG (sB.at am))) (a7:g≠c):ac ids K B K ((c,.aG sB)::(g,.b5 c (.pE am o))::B):=by
 rintro N C a w ⟨hn,H,ρ,F,aj,ar⟩;have aF:(ρ c).bk=am:=(aj.holds c _ J).1;obtain⟨kJ,ni⟩:=aj.hI (w':=w) (ch:=.b5 c (.pE am o)) aZ (cS.refl _ _) fun I a8=>⟨aF,o.cp _ _ _ _ _ _ (aj.holds g _ aZ) a8 (fun _ _=>rfl) (aq0 _)⟩
 have dL:ag ((g,ba.b5 c (.pE am o))::B) c=some (.aG (sB.at am)):=by rw[cd,if_neg a7];exact J
 obtain⟨iW,uE⟩:=kJ.hI (w':=w) (ch:=.aG sB) dL (cS.refl _ _) fun I a8=>sB.cp _ _ _ _ _ _ (kJ.holds c _ dL).2 a8 (fun _ _=>rfl) (aq0 _)
 exact⟨hn,H,ρ,F,iW,ar.mono (ni.trans uE) fun _ _ _=>rfl⟩
theorem ac.ada (g c am:Nat) {o sB:bc} (aZ:ag B g=some (.b5 c (.pE am o))) (J:ag B c=some (.aG sB)) (a7:g≠c):ac ids K B K ((c,.aG (sB.at am))::(g,.aG o)::B):=by
 rintro N C a w ⟨hn,H,ρ,F,aj,ar⟩;have bf:(bc.pE am o (ρ c)).bo (bX C B F w) (F g) w (ρ g):=aj.holds g _ aZ;obtain⟨kJ,ni⟩:=aj.hI (w':=w) (ch:=.aG o) aZ (cS.refl _ _) fun I a8=>o.cp _ _ _ _ _ _ bf.2 a8 (fun _ _=>rfl) (aq0 _)
 have dL:ag ((g,ba.aG o)::B) c=some (.aG sB):=by rw[cd,if_neg a7];exact J
 obtain⟨iW,uE⟩:=kJ.hI (w':=w) (ch:=.aG (sB.at am)) dL (cS.refl _ _) fun I a8=>⟨bf.1,sB.cp _ _ _ _ _ _ (kJ.holds c _ dL) a8 (fun _ _=>rfl) (aq0 _)⟩
 exact⟨hn,H,ρ,F,iW,ar.mono (ni.trans uE) fun _ _ _=>rfl⟩
theorem ac.adb (g c m am:Nat) {o:bc} (aZ:ag B g=some (.b5 c (.pE am o))) (aA:g6 ids K B m=true) (a7:c≠m):ac ids K B K ((m,.b5 c (fc am))::B):=by
 rintro N C a w ⟨hn,H,ρ,F,aj,ar⟩;have cy:=k4 aA;have bf:(bc.pE am o (ρ c)).bo (bX C B F w) (F g) w (ρ g):=aj.holds g _ aZ
 obtain⟨bI,a1⟩:=aj.make (ch:=.b5 c (fc am)) (w':=w) aA (Below.refl _ _) ⟨0,none,0,0⟩ (fun _=>False) (fun _ h=>h.elim) (fun I _ _=>by
  show(fc am (da ρ m _ c)).bo I _ w _;rw[dh _ _ a7];exact⟨bf.1,fun _ h=>h⟩)
 exact⟨hn,H,_,_,bI,ar.mono a1 fun s c J=>dh _ _ (fun e=>by subst e;rw[cy.1 s] at J;cases J)⟩
theorem ac.fl (g c am:Nat) {o:bc} (aZ:ag B g=some (.b5 c (.pE am o))):ac ids K B K ((g,.aG o)::B):=by
 rintro N C a w ⟨hn,H,ρ,F,aj,ar⟩;have bf:(bc.pE am o (ρ c)).bo (bX C B F w) (F g) w (ρ g):=aj.holds g _ aZ;obtain⟨kJ,ni⟩:=aj.hI (w':=w) (ch:=.aG o) aZ (cS.refl _ _) fun I a8=>o.cp _ _ _ _ _ _ bf.2 a8 (fun _ _=>rfl) (aq0 _)
 exact⟨hn,H,ρ,F,kJ,ar.mono ni fun _ _ _=>rfl⟩
theorem ac.adc (g c m am:Nat) {o:bc} (aZ:ag B g=some (.aG o)) (aA:ag B m=some (.b5 c (fc am))):ac ids K B K ((g,.b5 c (.pE am o))::B):=by
 rintro N C a w ⟨hn,H,ρ,F,aj,ar⟩;have aF:(ρ c).bk=am:=(aj.holds m _ aA).1;obtain⟨kJ,ni⟩:=aj.hI (w':=w) (ch:=.b5 c (.pE am o)) aZ (cS.refl _ _) fun I a8=>⟨aF,o.cp _ _ _ _ _ _ (aj.holds g _ aZ) a8 (fun _ _=>rfl) (aq0 _)⟩
 exact⟨hn,H,ρ,F,kJ,ar.mono ni fun _ _ _=>rfl⟩
theorem ac.ade (c b:Nat) {o:bc} (J:ag B c=some (.aG (o.at b))):ac ids K B K ((c,.aG o)::B):=by
 rintro N C a w ⟨hn,H,ρ,F,aj,ar⟩;obtain⟨kJ,ni⟩:=aj.hI (w':=w) (ch:=.aG o) J (cS.refl _ _) fun I a8=>o.cp _ _ _ _ _ _ (aj.holds c _ J).2 a8 (fun _ _=>rfl) (aq0 _)
 exact⟨hn,H,ρ,F,kJ,ar.mono ni fun _ _ _=>rfl⟩
theorem pF {N:Nat} {C:fg} {a:Act} {w:World} {ρ:Nat->bn} {F:Nat->Nat->Prop} (aj:Mem ids C B ρ F w) {m d b:Nat} (aA:ag B m=some (.b5 d (fc b))):(ρ d).bk=b:=(aj.holds m _ aA).1
theorem ac.F9 (s d m b:Nat) (aw:dI K s= .c (.one (.ptr d 0))) (aA:ag B m=some (.b5 d (fc b))):ac ids K B ((s,.c (.one (.d (.aM (some b)))))::K) B:=by
 rintro N C a w ⟨hn,H,ρ,F,aj,ar⟩;refine⟨hn,H,ρ,F,aj,fun t=>?_⟩;rw[kD]
 split
 .rename_i e;subst e;have h:=ar s;rw[aw] at h;have e:=pF (N:=N) (a:=a) aj aA;rw[<-e];exact h
 .exact ar t
theorem ac.KD (s d m b:Nat) (aw:dI K s= .c (.one (.d (.aM (some b))))) (aA:ag B m=some (.b5 d (fc b))):ac ids K B ((s,.c (.one (.ptr d 0)))::K) B:=by
 rintro N C a w ⟨hn,H,ρ,F,aj,ar⟩;refine⟨hn,H,ρ,F,aj,fun t=>?_⟩;rw[kD]
 split
 .rename_i e;subst e;have h:=ar s;rw[aw] at h;have e:=pF (N:=N) (a:=a) aj aA;rw[<-e] at h;exact h
 .exact ar t
theorem ac.Rx (s d b:Nat) {o:bc} (aw:dI K s= .c (.one (.d (.aM (some b))))) (H:ag B d=some (.aG (o.at b))):ac ids K B ((s,.c (.one (.ptr d 0)))::K) B:=by
 rintro N C a w ⟨hn,mc,ρ,F,aj,ar⟩;refine⟨hn,mc,ρ,F,aj,fun t=>?_⟩;rw[kD]
 split
 .rename_i e;subst e;have h:=ar s;rw[aw] at h;have e:(ρ d).bk=b:=(aj.holds d _ H).1;rw[<-e] at h;exact h
 .exact ar t
theorem ac.adf (s f hJ jj m1 m2 b1 b2:Nat) (aw:dI K s= .c (.one (.cY f [.p hJ 0,.p jj 0]))) (E:ag B m1=some (.b5 hJ (fc b1))) (G:ag B m2=some (.b5 jj (fc b2))):ac ids K B ((s,.c (.one (.d (.fn (f,[b1,b2])))))::K) B:=by
 rintro N C a w ⟨hn,H,ρ,F,aj,ar⟩;refine⟨hn,H,ρ,F,aj,fun t=>?_⟩;rw[kD]
 split
 .rename_i e;subst e;have h:=ar s;rw[aw] at h;obtain⟨aE,e,k1,r1,ae,g1,v2,r2,ao,g2,cX⟩:=h;have cj:=pF (N:=N) (a:=a) aj E;have cT:=pF (N:=N) (a:=a) aj G;have g1:k1= .pointer (some ⟨(ρ hJ).bk,0,none⟩):=g1;have g2:v2= .pointer (some ⟨(ρ jj).bk,0,none⟩):=g2;have cX:r2=[]:=cX;show a.tmps.getD s undef=mA (f,[b1,b2]);rw[e,ae,ao,g1,g2,cX,cj,cT];rfl
 .exact ar t
end
end
section
section
variable {P:Program} {ids:aC4} {K:aY} {B:az} {o:Oper}
abbrev CJ (T b:Nat):aP:=.c (.one (.bJ (.iface T (.pointer (some ⟨b,0,none⟩)))))
abbrev Ry:aP:=.c (.one (.bJ .nilIface))
theorem adg {T e f:Nat} {name:String} {c8:TypeInfo} {m:Method} {p:Value} {w:World} {fuel:Nat} (aF:P.info? T=some c8) (aA:c8.methods.find? (·.name == name)=some m) (ai:m.path= #[]) (ko:m.func=some (f,true)) (a6:P.underlying T=some (.pointer e)):
  (Go.method (fuel+1) T p name).run P w= .ok (f,p) w:=by
 unfold Go.method;simp[typeInfo,aF,aA,ai,ko,Go.follow,Go.receiverAt,underlying,a6,Place.get,go_sem]
theorem Ga {x:Operand} {T e b:Nat} (ah:o.op= .makeInterface T x) (a6:P.underlying T=some (.pointer e)) (hx:a2 K x= .c (.one (.d (.aM (some b))))) (N:Nat):bA P N ids o K B (CJ T b) ⟨[],[],[]⟩:=by
 have m1:x∈o.op.operands:=az1
 refine bA.val fun K' B' g1 g2 C ρ F a w aj ar=>?_
 have ae:a.eval x= .pointer (some ⟨b,0,none⟩):=ar.ev ((g1 x m1).trans hx);refine⟨.iface T (.pointer (some ⟨b,0,none⟩)),?_,rfl⟩;simp only[execOp,ah,ae];simp[Instr.makeInterface,underlying,a6,go_sem]
theorem Rz {T:Nat} {ja:Array (String×TypeId)} {v:Value} {w:World} (a6:P.underlying T=some (.interface ja)) (bz:Nat) (d:Nat):(Op.equalIn (d+1) T (.iface bz v) .nilIface).run P w= .ok false w:=by
 unfold Op.equalIn;simp[underlying,a6,go_sem]
theorem RA {T:Nat} {ja:Array (String×TypeId)} {w:World} (a6:P.underlying T=some (.interface ja)) (d:Nat):(Op.equalIn (d+1) T .nilIface .nilIface).run P w= .ok true w:=by
 unfold Op.equalIn;simp[underlying,a6,go_sem]
theorem pG {x:Operand} {T fG bz b:Nat} {ja:Array (String×TypeId)} (ah:o.op= .binOp .eql T x (.const .nilIface) fG) (a6:P.underlying T=some (.interface ja)) (hx:a2 K x=CJ bz b) (N:Nat):bA P N ids o K B (q5 false) ⟨[],[],[]⟩:=by
 have m1:x∈o.op.operands:=az1
 refine bA.val fun K' B' g1 g2 C ρ F a w aj ar=>?_
 have ae:a.eval x= .iface bz (.pointer (some ⟨b,0,none⟩)):=ar.ev ((g1 x m1).trans hx);refine⟨.bool false,?_,rfl⟩;simp only[execOp,ah,ae];have ao:(Op.equal T (.iface bz (.pointer (some ⟨b,0,none⟩))) .nilIface).run P w= .ok false w:=Rz a6 bz 9999;simp[eqGuard,binOp,ao,Act.eval,go_sem]
theorem Gb {x:Operand} {T fG bz b:Nat} {ja:Array (String×TypeId)} (ah:o.op= .binOp .neq T x (.const .nilIface) fG) (a6:P.underlying T=some (.interface ja)) (hx:a2 K x=CJ bz b) (N:Nat):bA P N ids o K B (q5 true) ⟨[],[],[]⟩:=by
 have m1:x∈o.op.operands:=az1
 refine bA.val fun K' B' g1 g2 C ρ F a w aj ar=>?_
 have ae:a.eval x= .iface bz (.pointer (some ⟨b,0,none⟩)):=ar.ev ((g1 x m1).trans hx);refine⟨.bool true,?_,rfl⟩;simp only[execOp,ah,ae];have ao:(Op.equal T (.iface bz (.pointer (some ⟨b,0,none⟩))) .nilIface).run P w= .ok false w:=Rz a6 bz 9999;simp[eqGuard,binOp,ao,Act.eval,go_sem]
theorem RB {x:Operand} {T fG:Nat} {ja:Array (String×TypeId)} (ah:o.op= .binOp .eql T x (.const .nilIface) fG) (a6:P.underlying T=some (.interface ja)) (hx:a2 K x=Ry) (N:Nat):bA P N ids o K B (q5 true) ⟨[],[],[]⟩:=by
 have m1:x∈o.op.operands:=az1
 refine bA.val fun K' B' g1 g2 C ρ F a w aj ar=>?_
 have ae:a.eval x= .nilIface:=ar.ev ((g1 x m1).trans hx);refine⟨.bool true,?_,rfl⟩;simp only[execOp,ah,ae];have ao:(Op.equal T .nilIface .nilIface).run P w= .ok true w:=RA a6 9999;simp[eqGuard,binOp,ao,Act.eval,go_sem]
theorem qs {x:Operand} {T fG:Nat} {ja:Array (String×TypeId)} (ah:o.op= .binOp .neq T x (.const .nilIface) fG) (a6:P.underlying T=some (.interface ja)) (hx:a2 K x=Ry) (N:Nat):bA P N ids o K B (q5 false) ⟨[],[],[]⟩:=by
 have m1:x∈o.op.operands:=az1
 refine bA.val fun K' B' g1 g2 C ρ F a w aj ar=>?_
 have ae:a.eval x= .nilIface:=ar.ev ((g1 x m1).trans hx);refine⟨.bool false,?_,rfl⟩;simp only[execOp,ah,ae];have ao:(Op.equal T .nilIface .nilIface).run P w= .ok true w:=RA a6 9999;simp[eqGuard,binOp,ao,Act.eval,go_sem]
theorem adh {ev:Operand->Value} {f:FuncId} {c:Call} {x:Operand} {xs:List Operand} {p:Value} {w:World} {T e:Nat} {name:String} {c8:TypeInfo} {m:Method} {fuel:Nat} (hf:jA P f=true) (ah:o.op= .call c) (E:c.callee= .invoke x name) (G:c.args.toList=xs) (uA:ev x= .iface T p)
  (hn:P.types.size+Made.depth=fuel+1) (aF:P.info? T=some c8) (aA:c8.methods.find? (·.name == name)=some m) (ai:m.path= #[]) (ko:m.func=some (f,true)) (a6:P.underlying T=some (.pointer e)):(execOp ev o).run P w= .ok (.enter f (p::xs.map ev).toArray) w:=by
 have e9:c.args=xs.toArray:=by rw[<-G]
 have adi:=adg (w:=w) (p:=p) (fuel:=fuel) aF aA ai ko a6;obtain⟨rb,args,cv⟩:=c;simp only at E e9;subst E e9;unfold jA at hf
 split at hf
 .rename_i fn adj;simp only[Bool.not_eq_true',au4,beq_eq_false_iff_ne] at hf;have G: ¬fn.body=none:=fun e=>by rw[e] at hf;simp at hf
  have adk:(Go.method (P.types.size+100) T p name).run P w= .ok (f,p) w:=by rw[show P.types.size+100=fuel+1 from hn];exact adi
  simp[execOp,ah,resolve,invoke,uA,callMethod,callFunc,go_sem,adj,adk];rw[if_neg hf.1,if_neg G,at2 (by rw[ar1];exact aq0 _)]
 .cases hf
theorem adl {f:FuncId} {c:Call} {x:Operand} {b:Nat} {xs:List Operand} {aJ:az} {res:aP} {aO:az} {T e:Nat} {name:String} {c8:TypeInfo} {m:Method} {fuel:Nat} (ah:o.op= .call c) (E:c.callee= .invoke x name) (G:c.args.toList=xs) (hx:a2 K x=CJ T b)
  (hn:P.types.size+Made.depth=fuel+1) (aF:P.info? T=some c8) (aA:c8.methods.find? (·.name == name)=some m) (ai:m.path= #[]) (ko:m.func=some (f,true)) (a6:P.underlying T=some (.pointer e))
  (hf:Fn P f (.c (.one (.d (.aM (some b))))::xs.map (a2 K)) aJ [] res aO) (hZ:k2 B aJ) (bv:mF aJ [] aO=true) (N:Nat):
  bA P N ids o K B res ⟨cr aJ,[],iI aJ aO⟩:=by
 have mem: ∀aB∈xs,aB∈o.op.operands:=fun aB aN=>by
  rw[ah];simp only[Op.operands,Call.operands,Array.mem_append];exact .inr (Array.mem_toList_iff.1 (by rw[G];exact aN))
 have xC:x∈o.op.operands:=by
  rw[ah];simp only[Op.operands,Call.operands,Array.mem_append,E];exact .inl ay6
 obtain⟨v,e,⟨rfl,rfl⟩,ap,_⟩:cH P N ids o K B (fun v e=>v=res/\e=⟨cr aJ,[],iI aJ aO⟩):=BX (args:=.c (.one (.d (.aM (some b))))::xs.map (a2 K)) mem (fun K' ρ I a w g1 ar=>by
  have e:a.eval x= .iface T (.pointer (some ⟨b,0,none⟩)):=ar.ev ((g1 x xC).trans hx);refine⟨.pointer (some ⟨b,0,none⟩)::xs.map a.eval,fun fT=>adh fT ah E G e hn aF aA ai ko a6,ay6,fun i v x ay hx=>?_⟩
  match i with
  |0=>
   simp only[ar3,aq4] at ay hx;subst ay hx;exact rfl
  |i+1=>exact zy mem g1 ar i v x aA6 aB9) ⟨aJ,[],res,aO,hf,hZ,by rw[bv];rfl,by rw[sd];exact⟨rfl,rfl⟩⟩
 exact ap
end
end
section
def kr:List (Nat×bc)->Nat->List (Nat×bc)
 | [],_=>[]
 |(a,o)::L,b=>if a=b then L else(a,o)::kr L b
theorem KE {a b c:Prop}:(a\/b\/c)↔(b\/a\/c):=⟨fun h=>by
 rcases h with h |h |h
 .exact .inr (.inl h)
 .exact .inl h
 .exact .inr (.inr h),fun h=>by
 rcases h with h |h |h
 .exact .inr (.inl h)
 .exact .inl h
 .exact .inr (.inr h)⟩
theorem fM.ng {I:Nat->Prop} {w:World} {b:Nat} {o:bc}: ∀{L:List (Nat×bc)} {F:Nat->Prop},eu L b=some o->fM I w L F-> ∃(cG cN:Nat->Prop) (p:bn),(∀x,F x↔cG x\/cN x)/\(∀x,cG x-> ¬cN x)/\p.bk=b/\o.bo I cG w p/\fM I w (kr L b) cN
 | [],F,h,_=>by cases h
 |(a,q)::L,F,h,⟨rn,tA,p,E,G,af,aW,bG⟩=>by
  unfold eu at h;unfold kr
  split at h
  .rename_i e;injection h with h
   subst h;rw[if_pos e];exact⟨rn,tA,p,E,G,af.trans e,aW,bG⟩
  .rename_i e;rw[if_neg e];obtain⟨cG,cN,dQ,g1,g2,cX,jD,Cp⟩:=fM.ng h bG;refine⟨cG,fun x=>rn x\/cN x,dQ,fun x=>by rw[E,g1];exact KE,fun x hx aD=>?_,cX,jD,rn,cN,p,fun x=>Iff.rfl,fun x hx aD=>G x hx ((g1 x).2 (.inr aD)),af,aW,Cp⟩;rcases aD with aD |aD
   .exact G x aD ((g1 x).2 (.inl hx))
   .exact g2 x hx aD
theorem fM.KF {I:Nat->Prop} {w:World} {b:Nat} {o o':bc} {cG:Nat->Prop} {p:bn} (ah:o'.bo I cG w p) (ai:p.bk=b): ∀{L:List (Nat×bc)} {F:Nat->Prop},eu L b=some o->fM I w (kr L b) F->(∀x,cG x-> ¬F x)->fM I w (e' L b o') (fun x=>cG x\/F x)
 | [],F,h,_,_=>by cases h
 |(a,q)::L,F,h,H,eE=>by
  unfold eu at h;unfold kr at H;unfold e'
  split at h
  .rename_i e;rw[if_pos e] at H⊢;exact⟨cG,F,p,fun x=>Iff.rfl,eE,ai.trans e.symm,ah,H⟩
  .rename_i e;rw[if_neg e] at H⊢;obtain⟨rn,tA,r,E,G,af,aW,bG⟩:=H
   refine⟨rn,fun x=>cG x\/tA x,r,fun x=>by
    show(cG x\/F x)↔(rn x\/(cG x\/tA x));rw[E];exact KE,fun x hx aD=>?_,af,aW,fM.KF ah ai h bG fun x hx aD=>eE x hx ((E x).2 (.inr aD))⟩
   rcases aD with aD |aD
   .exact eE x aD ((E x).2 (.inl hx))
   .exact G x hx aD
theorem xX {o:bc} {b:Nat}: ∀{L:List (Nat×bc)},eu L b=some o->e' L b o=L
 | [],h=>by cases h
 |(a,q)::L,h=>by
  unfold eu at h;unfold e'
  split at h
  .rename_i e;injection h with h
   rw[if_pos e,h]
  .rename_i e;rw[if_neg e,xX h]
section
variable {ids:aC4} {K:aY} {B:az}
theorem ac.CK (q c b:Nat) {o:bc} {L:List (Nat×bc)} (aT:ag B q=some (.aG (.bx L))) (cL:eu L b=some o) (J:g6 ids K B c=true):ac ids K B K ((c,.aG (o.at b))::(q,.aG (.bx (kr L b)))::B):=by
 rintro N C a w ⟨hn,H,ρ,F,aj,ar⟩;have f:=k4 J;obtain⟨cG,cN,p,E,G,af,aW,bG⟩:=fM.ng cL (aj.holds q _ aT:fM _ w L (F q))
 obtain⟨bI,a1⟩:=aj.split (K:=K) (i4:=.aG (.bx (kr L b))) (oR:=.aG (o.at b)) aT J p cN cG (fun x hx=>(E x).2 (.inr hx)) (fun x hx=>(E x).2 (.inl hx)) (fun x hx aD=>G x aD hx)
  (fun I a8=>bG.cp a8 (aq0 _) (fun _ _=>rfl)) (fun I a8=>⟨af,o.cp _ _ _ _ _ _ aW a8 (fun _ _=>rfl) (aq0 _)⟩)
 exact⟨hn,H,_,_,bI,ar.mono a1 fun s d H=>dh _ _ (fun e=>by subst e;rw[f.1 s] at H;cases H)⟩
theorem ac.RC (q c b:Nat) {o o':bc} {L:List (Nat×bc)} (aT:ag B q=some (.aG (.bx (kr L b)))) (J:ag B c=some (.aG (o'.at b))) (cL:eu L b=some o) (a7:q≠c):ac ids K B K ((q,.aG (.bx (e' L b o')))::gS B c):=by
 rintro N C a w ⟨hn,H,ρ,F,aj,ar⟩;have bl:fM (bX C B F w) w (kr L b) (F q):=aj.holds q _ aT;have ap:(ρ c).bk=b/\o'.bo (bX C B F w) (F c) w (ρ c):=aj.holds c _ J
 obtain⟨bI,a1⟩:=aj.FW (w':=w) (ch:=.aG (.bx (e' L b o'))) aT J a7 (fun x=>F c x\/F q x) (fun x hx=>hx.symm) (cS.refl _ _) fun I a8=>
  (fM.KF ap.2 ap.1 cL bl (fun x hx aD=>aj.fh c q _ _ x J aT (Ne.symm a7) hx aD)).cp a8 (aq0 _) fun _ _=>rfl
 exact⟨hn,H,ρ,_,bI,ar.mono a1 fun _ _ _=>rfl⟩
theorem ac.adm (q c b:Nat) {o:bc} {bp:az} {bs:Nat->Nat} {L:List (Nat×bc)} (aT:ag B q=some (.aG (.bx (kr L b)))) (J:ag B c=some (.aG (.nh bp bs))) (cL:eu L b=some o) (a7:q≠c):ac ids K B K ((q,.aG (.bx (e' L b (.nh bp bs))))::gS B c):=by
 rintro N C a w ⟨hn,H,ρ,F,aj,ar⟩;have bl:fM (bX C B F w) w (kr L b) (F q):=aj.holds q _ aT;have ap:F6 bp bs (bX C B F w) (F c) w:=aj.holds c _ J
 obtain⟨bI,a1⟩:=aj.FW (w':=w) (ch:=.aG (.bx (e' L b (.nh bp bs)))) aT J a7 (fun x=>F c x\/F q x) (fun x hx=>hx.symm) (cS.refl _ _) fun I a8=>
  (fM.KF (o':=.nh bp bs) (p:=⟨b,none,0,0⟩) ap rfl cL bl (fun x hx aD=>aj.fh c q _ _ x J aT (Ne.symm a7) hx aD)).cp a8 (aq0 _) fun _ _=>rfl
 exact⟨hn,H,ρ,_,bI,ar.mono a1 fun _ _ _=>rfl⟩
theorem Fn.adn {P:Program} {f:FuncId} {c q am:Nat} {args:List aP} {res:aP} {bp:az} {bs:Nat->Nat} {M:List (Nat×bc)} (h:Fn P f (.c (.one (.ptr c 0))::args) bp [] res bp) (aj:eu M am=some (.nh bp bs)) (J:bs c=am) (CL:(ag bp c).isSome=true) (ha:(args.all fun v=>v.i7 [])=true) (ax:res.i7 []=true):
  Fn P f (.c (.one (.d (.aM (some am))))::args) [(q,.aG (.bx M))] [] res [(q,.aG (.bx M))]:=by
 obtain⟨fT,h⟩:=h;refine⟨fT,fun ρ F I w bU a8 cZ bh eE bV dy=>?_⟩;have aT:ag [(q,ba.aG (.bx M))] q=some (.aG (.bx M)):=aA1
 have xY: ∀{d ch},ag [(q,ba.aG (.bx M))] d=some ch->d=q/\ch= .aG (.bx M):=fun {d ch} H=>by
  rw[cd] at H
  split at H
  .rename_i e;injection H with H;exact⟨e.symm,H.symm⟩
  .cases H
 have bl:fM I w M (F q):=cZ q _ aT;obtain⟨cG,cN,p,cj,cT,eg,eR,uM⟩:=bl.out aj;obtain⟨z1,ce,g1,g2,cX,jD⟩:F6 bp bs I cG w:=eR;have fU: ∀{v:aP},v.i7 []=true-> ∀d,v.has d=true-> ∀(ρ ρ':Nat->bn),ρ' d=ρ d:=fun {v} ay d H _ _=>absurd (aP.kK ay H) List.not_mem_nil
 have KG: ∀y,(∃d ch,ag bp d=some ch/\ce d y)-> ∃d ch,ag [(q,ba.aG (.bx M))] d=some ch/\F d y:=fun y aD=>⟨q,_,aT,(cj y).2 (.inl ((jD y).2 aD))⟩
 obtain⟨ado,nY⟩:=at4.1 CL
 match bU,bV with
 |v0::bU,bV=>
  have xR:v0= .pointer (some ⟨am,0,none⟩):=dy 0 _ v0 rfl rfl;refine(h z1 ce I w (v0::bU) a8 g2 (fun d ch H b O=>bh q _ aT b ((cj b).2 (.inl ((jD b).2 ⟨d,ch,H,O⟩)))) cX (by simpa using bV) ?_).mono ?_
  .intro i v x ay hx
   match i with
   |0=>
    simp only[ar3,aq4] at ay hx;subst ay hx;show v0= .pointer (some ⟨(z1 c).bk,0,none⟩);rw[g1 c ado nY,J];exact xR
   |i+1=>
    have oT:args[i]? =some v:=aA6
    have:=as4.1 ha v (au5 oT);exact cw.mono (cm.refl _ _) v x (fun d H=>fU this d H _ _) (dy (i+1) v x aA6 hx)
  .rintro e w' ⟨x,ρ',F',rfl,cy,dn,I',jk,gE,lK,ap,ic,sr⟩;have j1: ∀y,cN y-> ¬ ∃d ch,ag bp d=some ch/\ce d y:=fun y aD k5=>cT y ((jD y).2 k5) aD
   have ss: ∀y,cN y->y < w.heap.size/\ ¬I y:=fun y aD=>bh q _ aT y ((cj y).2 (.inr aD))
   have mM: ∀y,cN y->w'.heap[y]? =w.heap[y]? :=fun y aD=>cy.block y (ss y aD).1 (j1 y aD)
   have wk: ∀y,(∃d ch,ag bp d=some ch/\F' d y)-> ¬cN y:=by
    rintro y ⟨d,ch,H,aD⟩ Cs;rcases(ap d ch H y aD).2.2 with h |h
    .exact j1 y Cs h
    .have:=(ss y Cs).1;omega
   have oU:=uM I' w' (.nh bp bs) (fun y=> ∃d ch,ag bp d=some ch/\F' d y) p jk cy.size mM eg
    ⟨ρ',F',fun d ch H=>by rw[dn d List.not_mem_nil];exact g1 d ch H,lK,ic,fun b=>Iff.rfl⟩ wk
   rw[xX aj] at oU;refine⟨x,ρ,fun d=>if d=q then(fun y=>(∃d ch,ag bp d=some ch/\F' d y)\/cN y) else F' d,rfl,cy.mono fun y _ aD=>KG y aD,fun d _=>rfl,I',jk,fun y aD=>⟨(gE y aD).1,?_⟩,?_,?_,?_,?_⟩
   .rcases(gE y aD).2 with h |h |h
    .exact .inl h
    .exact .inr (.inl (KG y h))
    .exact .inr (.inr h)
   .intro d ch H;obtain⟨rfl,rfl⟩:=xY H;simp only[if_true];exact oU
   .intro d ch H y aD;obtain⟨rfl,rfl⟩:=xY H;simp only[if_true] at aD;rcases aD with⟨c3,ch',dq,aD⟩ |aD
    .obtain⟨bZ,cg,a3⟩:=ap c3 ch' dq y aD;exact⟨bZ,cg,a3.imp (KG y) id⟩
    .refine⟨ar6 (ss y aD).1 cy.size,fun aF=>?_,.inl ⟨d,_,aT,(cj y).2 (.inr aD)⟩⟩;rcases(gE y aF).2 with h |h |h
     .exact(ss y aD).2 h
     .exact j1 y aD h
     .have:=(ss y aD).1;omega
   .intro d c3 ch ch' y H dq a7;exact absurd ((xY H).1.trans (xY dq).1.symm) a7
   .exact cw.mono (cm.refl _ _) res x (fun d H=>fU ax d H _ _) sr
end
end
section
theorem cx.nj {P:Program} {f:FuncId} {c b:Nat} {args:List aP} {bp aJ:az} {bb:aC4} {X:Type} {res:X->aP} {dG aO:X->az} (fW:aC4) (q:Nat)
  (h:cx P f (.c (.one (.ptr c 0))::args) (bp++aJ) bb res (fun g=>dG g++aO g))
  (E:nZ c fW (.c (.one (.ptr c 0))::args) bp aJ bb bb=true) (G: ∀g,n0 c (mO fW bb bb) (res g) (dG g) (aO g)=true)
  (af:(args.all fun v=> !v.has c)=true) (aW:kF c aJ=true/\(ag aJ q).isNone=true) (bG:(bb.contains c||bb.contains q)=false) (fF: ∀g,(kF c (aO g)&&(ag (aO g) q).isNone&& !(res g).has c)=true):
  cx P f (.c (.one (.d (.aM (some b))))::args) ((q,.aG (.bx [(b,.i9 c bp)]))::aJ) bb res (fun g=>(q,.aG (.bx [(b,.i9 c (dG g))]))::aO g):=by
 have k:=cx.close (o:=.i9 c bp) (o':=fun g=>.i9 c (dG g)) fW h (fun _ _ _ _ h=>h) (fun _ _ _ _ _ h=>h) E G;have cT:=cx.bx (L:=[(b,.i9 c bp)]) (b:=b) (q:=q) k (if_pos rfl) af aW bG fF;have e: ∀g,e' [(b,bc.i9 c bp)] b (bc.i9 c (dG g))=[(b,.i9 c (dG g))]:=fun g=>if_pos rfl
 simp only[e] at cT;exact cT
theorem Fn.nj {P:Program} {f:FuncId} {c b:Nat} {args:List aP} {bp dG:az} {res:aP} (fW:aC4) (q:Nat)
  (h:Fn P f (.c (.one (.ptr c 0))::args) bp [] res dG)
  (E:nZ c fW (.c (.one (.ptr c 0))::args) bp [] [] []=true:=by first |rfl |decide) (G:n0 c (mO fW [] []) res dG []=true:=by first |rfl |decide)
  (af:(args.all fun v=> !v.has c)=true:=by first |rfl |decide) (aW:(!res.has c)=true:=by first |rfl |decide):
  Fn P f (.c (.one (.d (.aM (some b))))::args) [(q,.aG (.bx [(b,.i9 c bp)]))] [] res [(q,.aG (.bx [(b,.i9 c dG)]))]:=by
 refine cx.fn (cx.nj (X:=Unit) (aJ:=[]) (aO:=fun _=>[]) (dG:=fun _=>dG) (res:=fun _=>res) fW q (by rw[at6];simp only[at6];exact h.x) E (fun _=>G) af ⟨rfl,rfl⟩ rfl fun _=>?_);simp only[aW];rfl
def n3 (b c d:Nat) (bp:az) (q:bn):bc where
 bo:=fun I F w _=> ∃(ρ:Nat->bn) (ce:Nat->Nat->Prop),(ρ c).bk=b/\ρ d=q/\(∀e ch,ag bp e=some ch->Holds ρ I (ce e) w (ρ e) ch)/\
  (∀e b7 ch ch' x,ag bp e=some ch->ag bp b7=some ch'->e≠b7->ce e x-> ¬ce b7 x)/\ ∀x,F x↔ ∃e ch,ag bp e=some ch/\ce e x
 cp:=fun I F w I' w' p ⟨ρ,ce,E,au,G,af,aW⟩ U bh aN=>⟨ρ,ce,E,au,fun d ch H=>Holds.cp U (fun b O=>bh b ((aW b).2 ⟨d,ch,H,O⟩)) aN ch (fun _ _=>rfl) (G d ch H),af,aW⟩
def KH (c d q:Nat) (args:List aP) (aJ bp:az) (res:aP) (aO dG:az):Bool:=
 (cr bp).contains c&& !(cr bp).contains d&& !(cr bp).contains q&&((cr bp).all fun e=>kF e aJ&&kF e aO&& !res.has e&&args.all fun v=> !v.has e)&&
  (ag aJ q).isNone&&(ag aO q).isNone&&v8 (d::cr bp) bp&&((cr dG).all fun e=>(cr bp).contains e)
theorem Fn.adp {P:Program} {f:FuncId} {c d q b:Nat} {args:List aP} {aJ bp aO dG:az} {res:aP} (h:Fn P f (.c (.one (.ptr c 0))::args) (aJ++bp) [] res (aO++dG)) (aa:KH c d q args aJ bp res aO dG=true):
  Fn P f (.c (.one (.d (.aM (some b))))::args) (aJ++[(q,.b5 d (n3 b c d bp))]) [] res (aO++[(q,.b5 d (n3 b c d dG))]):=by
 obtain⟨fT,h⟩:=h;simp only[KH,vj,Bool.not_eq_true',ax8] at aa;obtain⟨⟨⟨⟨⟨⟨⟨bZ,cg⟩,a3⟩,a4⟩,a5⟩,gB⟩,ze⟩,FO⟩:=aa;have bZ:=tB bZ;have cg:=wl cg;have a3:=wl a3
 have xZ: ∀e,e∈cr bp->kF e aJ=true/\kF e aO=true/\res.has e=false/\ ∀v,v∈args->v.has e=false:=fun e U=>by
  have:=as4.1 a4 e U;simp only[vj,Bool.not_eq_true'] at this;exact⟨this.1.1.1,this.1.1.2,this.1.2,fun v ay=>by simpa using as4.1 this.2 v ay⟩
 have adq: ∀e,e∈cr dG->e∈cr bp:=fun e U=>tB (as4.1 FO e U)
 have one: ∀(B:az) (ch:ba),ag B q=none->ag (B++[(q,ch)]) q=some ch:=fun B ch hn=>by rw[iN,hn];simp[ag]
 have tE: ∀(B:az) (x:ba) {e:Nat} {ch:ba},ag (B++[(q,x)]) e=some ch->(ag B e=some ch)\/(ag B e=none/\e=q/\ch=x):=fun B x {e ch} U=>by
  rw[iN] at U
  cases bf:ag B e with
  |some y=>rw[bf] at U;exact .inl U
  |none=>
   rw[bf] at U;simp only[cd] at U
   split at U
   .rename_i ao;injection U with U;exact .inr ⟨rfl,ao.symm,U.symm⟩
   .cases U
 have hF: ∀(B:az) (x:ba) {e:Nat} {ch:ba},ag B e=some ch->ag (B++[(q,x)]) e=some ch:=fun B x {e ch} U=>by rw[iN,U]
 refine⟨fT,fun ρ F I w bU a8 cZ bh eE bV dy=>?_⟩;have CM:=one aJ (.b5 d (n3 b c d bp)) a5;obtain⟨o1,ce,cA,Jw,cF,dF,fj⟩:(n3 b c d bp (ρ d)).bo I (F q) w (ρ q):=cZ q _ CM;have e1: ∀{e ch},ag aJ e=some ch->e∉cr bp/\e≠q:=fun {e ch} U=>⟨fun aa=>(by rw[(ur (xZ e aa).1).1] at U;cases U),fun ao=>(by rw[ao,a5] at U;cases U)⟩
 have iM: ∀{e ch},ag (aJ++bp) e=some ch->(ag bp e=some ch/\e∈cr bp)\/(e∉cr bp/\ag aJ e=some ch):=fun {e ch} U=>by
  rw[iN] at U
  cases bf:ag aJ e with
  |some ch'=>
   rw[bf] at U;exact .inr ⟨(e1 bf).1,U⟩
  |none=>
   rw[bf] at U;exact .inl ⟨U,gv.2 ⟨ch,U⟩⟩
 let uO:Nat->bn:=fun e=>if e∈cr bp then o1 e else ρ e
 let iX:Nat->Nat->Prop:=fun e=>if e∈cr bp then ce e else F e
 have wy: ∀e,e∉cr bp->uO e=ρ e:=fun e U=>if_neg U
 have xS: ∀e,e∈d::cr bp->uO e=o1 e:=fun e U=>by
  rcases aq5.1 U with rfl |U
  .rw[wy _ cg,Jw]
  .exact if_pos U
 have mN: ∀y,(∃e ch,ag (aJ++bp) e=some ch/\iX e y)-> ∃e ch,ag (aJ++[(q,ba.b5 d (n3 b c d bp))]) e=some ch/\F e y:=by
  rintro y ⟨e,ch,U,aD⟩;rcases iM U with⟨ae,ao⟩ |⟨ae,ao⟩
  .have aD:ce e y:=by simpa only[iX,if_pos ao] using aD
   exact⟨q,_,CM,(fj y).2 ⟨e,ch,ae,aD⟩⟩
  .have aD:F e y:=by simpa only[iX,if_neg ae] using aD
   exact⟨e,ch,hF _ _ ao,aD⟩
 match bU,bV with
 |v0::bU,bV=>
 have xR:v0= .pointer (some ⟨b,0,none⟩):=dy 0 _ v0 rfl rfl;refine(h uO iX I w (v0::bU) a8 ?_ ?_ ?_ (by simpa using bV) ?_).mono ?_
 .intro e ch U;rcases iM U with⟨ae,ao⟩ |⟨ae,ao⟩
  .rw[xS e (aq2 _ ao)];simp only[iX,if_pos ao];exact Holds.cp (cm.refl _ _) (fun _ _=>rfl) (aq0 _) ch (fun j V=>xS j (ba.kK (xG ze ae) V)) (cF e ch ae)
  .rw[wy e ae];simp only[iX,if_neg ae];exact Holds.cp (cm.refl _ _) (fun _ _=>rfl) (aq0 _) ch (fun j V=>wy j (fun k8=>by rw[(ur (xZ j k8).1).2 e ch ao] at V;cases V)) (cZ e ch (hF _ _ ao))
 .intro e ch U x hx;rcases iM U with⟨ae,ao⟩ |⟨ae,ao⟩
  .simp only[iX,if_pos ao] at hx;exact bh q _ CM x ((fj x).2 ⟨e,ch,ae,hx⟩)
  .simp only[iX,if_neg ae] at hx;exact bh e ch (hF _ _ ao) x hx
 .intro e b7 ch ch' x U gW a7 hx dO;rcases iM U with⟨ae,ao⟩ |⟨ae,ao⟩
  .simp only[iX,if_pos ao] at hx;rcases iM gW with⟨ll,jE⟩ |⟨ll,jE⟩
   .simp only[iX,if_pos jE] at dO;exact dF e b7 ch ch' x ae ll a7 hx dO
   .simp only[iX,if_neg ll] at dO;exact eE q b7 _ ch' x CM (hF _ _ jE) (Ne.symm (e1 jE).2) ((fj x).2 ⟨e,ch,ae,hx⟩) dO
  .simp only[iX,if_neg ae] at hx;rcases iM gW with⟨ll,jE⟩ |⟨ll,jE⟩
   .simp only[iX,if_pos jE] at dO;exact eE q e _ ch x CM (hF _ _ ao) (Ne.symm (e1 ao).2) ((fj x).2 ⟨b7,ch',ll,dO⟩) hx
   .simp only[iX,if_neg ll] at dO;exact eE e b7 ch ch' x (hF _ _ ao) (hF _ _ jE) a7 hx dO
 .intro i v x ay hx
  match i with
  |0=>
   simp only[ar3,aq4] at ay hx;subst ay hx;show v0=_;rw[xS c (aq2 _ bZ),cA];exact xR
  |i+1=>
   have oT:args[i]? =some v:=aA6
   exact cw.mono (cm.refl _ _) v x (fun j V=>wy j (fun k8=>by rw[(xZ j k8).2.2.2 v (au5 oT)] at V;cases V)) (dy (i+1) v x aA6 hx)
 .rintro e w' ⟨x,ρ',F',rfl,cy,dn,I',jk,gE,lK,ap,ic,sr⟩;have adr:ρ'=uO:=funext fun e=>dn e ay6
  subst adr;have nf: ∀{e ch},ag aO e=some ch->e∉cr bp/\e≠q/\ag (aO++dG) e=some ch:=fun {e ch} U=>⟨fun aa=>(by rw[(ur (xZ e aa).2.1).1] at U;cases U),fun ao=>(by rw[ao,gB] at U;cases U),by rw[iN,U]⟩
  have o2: ∀{e ch},ag dG e=some ch->ag aO e=none/\ag (aO++dG) e=some ch:=fun {e ch} U=>by
   have hn:=(ur (xZ e (adq e (gv.2 ⟨ch,U⟩))).2.1).1;exact⟨hn,by rw[iN,hn];exact U⟩
  refine⟨x,ρ,fun e=>if e=q then(fun y=> ∃b7 ch',ag dG b7=some ch'/\F' b7 y) else F' e,rfl,cy.mono fun y _ aD=>mN y aD,fun _ _=>rfl,I',jk,fun y aD=>⟨(gE y aD).1,?_⟩,?_,?_,?_,?_⟩
  .rcases(gE y aD).2 with h |h |h
   .exact .inl h
   .exact .inr (.inl (mN y h))
   .exact .inr (.inr h)
  .intro e ch U;rcases tE _ _ U with U |⟨_,rfl,rfl⟩
   .obtain⟨ae,ao,bm⟩:=nf U;simp only[if_neg ao];rw[<-wy e ae];exact Holds.cp (cm.refl _ _) (fun _ _=>rfl) (aq0 _) ch (fun j V=>(wy j (fun k8=>by rw[(ur (xZ j k8).2.1).2 e ch U] at V;cases V)).symm) (lK e ch bm)
   .simp only[if_true];refine⟨uO,F',by rw[xS c (aq2 _ bZ),cA],wy d cg,fun e ch U=>lK e ch (o2 U).2,fun e b7 ch ch' x U gW a7=>ic e b7 ch ch' x (o2 U).2 (o2 gW).2 a7,fun _=>Iff.rfl⟩
  .intro e ch U y aD;rcases tE _ _ U with U |⟨_,rfl,rfl⟩
   .obtain⟨ae,ao,bm⟩:=nf U;simp only[if_neg ao] at aD;obtain⟨cI,cE,hN⟩:=ap e ch bm y aD;exact⟨cI,cE,hN.imp (mN y) id⟩
   .simp only[if_true] at aD;obtain⟨b7,ch',E,G⟩:=aD;obtain⟨cI,cE,hN⟩:=ap b7 ch' (o2 E).2 y G;exact⟨cI,cE,hN.imp (mN y) id⟩
  .intro e b7 ch ch' y U gW a7 aD d';rcases tE _ _ U with cj |⟨_,rfl,rfl⟩
   .obtain⟨ae,ao,bm⟩:=nf cj;simp only[if_neg ao] at aD;rcases tE _ _ gW with cT |⟨_,rfl,rfl⟩
    .obtain⟨ll,jE,zR⟩:=nf cT;simp only[if_neg jE] at d';exact ic e b7 ch ch' y bm zR a7 aD d'
    .simp only[if_true] at d';obtain⟨hJ,i4,E,G⟩:=d';exact ic e hJ ch i4 y bm (o2 E).2 (fun e=>by rw[e,(o2 E).1] at cj;cases cj) aD G
   .rcases tE _ _ gW with cT |⟨_,rfl,rfl⟩
    .obtain⟨ll,jE,zR⟩:=nf cT;simp only[if_true] at aD;simp only[if_neg jE] at d';obtain⟨hJ,i4,E,G⟩:=aD;exact ic hJ b7 i4 ch' y (o2 E).2 zR (fun e=>by rw[<-e,(o2 E).1] at cT;cases cT) G d'
    .exact absurd rfl a7
  .exact cw.mono (cm.refl _ _) res x (fun j V=>(wy j (fun k8=>by rw[(xZ j k8).2.2.1] at V;cases V)).symm) sr
end
end Go.Proofs.YtkfbeijmgggkmaaGreat
namespace Go.Proofs
open Go.Shelf
def Tryz.RD:Go.Shelf.Ren:=⟨fun |7=>207 |10=>231 |n=>n,fun |23=>115 |26=>9 |3=>119 |28=>102 |0=>0 |27=>101 |33=>118 |4=>4 |n=>n,fun |n=>n⟩
theorem Tryz.ads:Go.Proofs.SlLaysZ.n7 Tryz.prog Tryz.RD:={
 mixed:=by kernel_rfl
 f7:=⟨Tryz.f207.name,by decide,Tryz.func207.trans (congrArg some (by kernel_rfl))⟩
 f10:=⟨Tryz.f231.name,by decide,Tryz.func231.trans (congrArg some (by kernel_rfl))⟩
 t0:=Tryz.underlying0
 a0:=Tryz.isAgg0
 z0:=Tryz.sizeOf0
 v0:=Tryz.zeroValue0
 t4:=Tryz.underlying4
 a4:=Tryz.isAgg4
 z4:=Tryz.sizeOf4
 v4:=Tryz.zeroValue4
 t23:=Tryz.underlying115
 a23:=Tryz.isAgg115
 z23:=Tryz.sizeOf115
 v23:=Tryz.zeroValue115
 t26:=Tryz.underlying9
 a26:=Tryz.isAgg9
 z26:=Tryz.sizeOf9
 v26:=Tryz.zeroValue9
 t27:=Tryz.underlying101
 a27:=Tryz.isAgg101
 z27:=Tryz.sizeOf101
 v27:=Tryz.zeroValue101
 t28:=Tryz.underlying102
 a28:=Tryz.isAgg102
 z28:=Tryz.sizeOf102
 v28:=Tryz.zeroValue102
 t33:=Tryz.underlying118
 a33:=Tryz.isAgg118
 z33:=Tryz.sizeOf118
 v33:=Tryz.zeroValue118}
def Tryz.RE:Go.Shelf.Ren:=⟨fun |6=>50 |8=>93 |9=>94 |11=>148 |13=>150 |12=>149 |23=>196 |24=>197 |14=>187 |15=>188 |16=>189 |17=>190 |18=>191 |19=>192 |20=>193 |21=>194 |22=>195 |25=>220 |26=>221 |27=>222 |28=>223 |29=>224 |30=>225 |31=>248 |n=>n,fun |26=>9 |28=>102 |24=>45 |0=>0 |3=>3 |37=>225 |48=>279 |50=>281 |4=>4 |40=>271 |39=>270 |45=>276 |5=>5 |9=>9 |51=>302 |55=>306 |57=>320 |58=>321 |33=>118 |n=>n,fun |n=>n⟩
theorem Tryz.RF:Go.Proofs.SlLaysZ.n6 Tryz.prog Tryz.RE:={
 mixed:=by kernel_rfl
 f6:=⟨Tryz.f50.name,by decide,Tryz.func50.trans (congrArg some (by kernel_rfl))⟩
 f8:=⟨Tryz.f93.name,by decide,Tryz.func93.trans (congrArg some (by kernel_rfl))⟩
 f11:=⟨Tryz.f148.name,by decide,Tryz.func148.trans (congrArg some (by kernel_rfl))⟩
 t0:=Tryz.underlying0
 a0:=Tryz.isAgg0
 z0:=Tryz.sizeOf0
 v0:=Tryz.zeroValue0
 t24:=Tryz.underlying45
 a24:=Tryz.isAgg45
 z24:=Tryz.sizeOf45
 v24:=Tryz.zeroValue45
 t26:=Tryz.underlying9
 a26:=Tryz.isAgg9
 z26:=Tryz.sizeOf9
 v26:=Tryz.zeroValue9
 t28:=Tryz.underlying102
 a28:=Tryz.isAgg102
 z28:=Tryz.sizeOf102
 v28:=Tryz.zeroValue102
 i26:=by kernel_rfl}
def Tryz.adt:Go.Shelf.Ren:=⟨fun |6=>94 |8=>150 |9=>149 |19=>196 |20=>197 |21=>187 |22=>188 |23=>189 |24=>190 |25=>191 |26=>192 |27=>193 |28=>194 |29=>195 |36=>220 |31=>221 |32=>222 |37=>223 |38=>224 |39=>225 |41=>248 |n=>n,fun |27=>45 |29=>9 |3=>3 |32=>225 |26=>45 |0=>0 |44=>279 |46=>281 |4=>4 |36=>271 |35=>270 |41=>276 |5=>5 |9=>9 |53=>302 |57=>306 |63=>320 |64=>321 |n=>n,fun |n=>n⟩
theorem Tryz.RG:Go.Proofs.SlLaysM.n6 Tryz.prog Tryz.adt:={
 mixed:=by kernel_rfl
 f6:=⟨Tryz.f94.name,by decide,Tryz.func94.trans (congrArg some (by kernel_rfl))⟩
 f8:=Tryz.func150.trans (congrArg some (by kernel_rfl))
 f9:=⟨Tryz.f149.name,by decide,Tryz.func149.trans (congrArg some (by kernel_rfl))⟩
 f19:=Tryz.func196.trans (congrArg some (by kernel_rfl))
 f20:=Tryz.func197.trans (congrArg some (by kernel_rfl))
 f21:=⟨Tryz.f187.name,by decide,Tryz.func187.trans (congrArg some (by kernel_rfl))⟩
 f22:=⟨Tryz.f188.name,by decide,Tryz.func188.trans (congrArg some (by kernel_rfl))⟩
 f23:=⟨Tryz.f189.name,by decide,Tryz.func189.trans (congrArg some (by kernel_rfl))⟩
 f24:=⟨Tryz.f190.name,by decide,Tryz.func190.trans (congrArg some (by kernel_rfl))⟩
 f25:=⟨Tryz.f191.name,by decide,Tryz.func191.trans (congrArg some (by kernel_rfl))⟩
 f26:=⟨Tryz.f192.name,by decide,Tryz.func192.trans (congrArg some (by kernel_rfl))⟩
 f27:=⟨Tryz.f193.name,by decide,Tryz.func193.trans (congrArg some (by kernel_rfl))⟩
 f28:=⟨Tryz.f194.name,by decide,Tryz.func194.trans (congrArg some (by kernel_rfl))⟩
 f29:=⟨Tryz.f195.name,by decide,Tryz.func195.trans (congrArg some (by kernel_rfl))⟩
 f31:=Tryz.func221.trans (congrArg some (by kernel_rfl))
 f32:=Tryz.func222.trans (congrArg some (by kernel_rfl))
 f36:=⟨Tryz.f220.name,by decide,Tryz.func220.trans (congrArg some (by kernel_rfl))⟩
 f37:=⟨Tryz.f223.name,by decide,Tryz.func223.trans (congrArg some (by kernel_rfl))⟩
 f38:=⟨Tryz.f224.name,by decide,Tryz.func224.trans (congrArg some (by kernel_rfl))⟩
 f39:=⟨Tryz.f225.name,by decide,Tryz.func225.trans (congrArg some (by kernel_rfl))⟩
 f41:=⟨Tryz.f248.name,by decide,Tryz.func248.trans (congrArg some (by kernel_rfl))⟩
 t0:=Tryz.underlying0
 a0:=Tryz.isAgg0
 z0:=Tryz.sizeOf0
 v0:=Tryz.zeroValue0
 t3:=Tryz.underlying3
 a3:=Tryz.isAgg3
 z3:=Tryz.sizeOf3
 v3:=Tryz.zeroValue3
 t4:=Tryz.underlying4
 a4:=Tryz.isAgg4
 z4:=Tryz.sizeOf4
 v4:=Tryz.zeroValue4
 t5:=Tryz.underlying5
 a5:=Tryz.isAgg5
 z5:=Tryz.sizeOf5
 v5:=Tryz.zeroValue5
 t9:=Tryz.underlying9
 a9:=Tryz.isAgg9
 z9:=Tryz.sizeOf9
 v9:=Tryz.zeroValue9
 t26:=Tryz.underlying45
 a26:=Tryz.isAgg45
 z26:=Tryz.sizeOf45
 v26:=Tryz.zeroValue45
 t27:=Tryz.underlying45
 a27:=Tryz.isAgg45
 z27:=Tryz.sizeOf45
 v27:=Tryz.zeroValue45
 t29:=Tryz.underlying9
 a29:=Tryz.isAgg9
 z29:=Tryz.sizeOf9
 v29:=Tryz.zeroValue9
 t32:=Tryz.underlying225
 a32:=Tryz.isAgg225
 z32:=Tryz.sizeOf225
 v32:=Tryz.zeroValue225
 t35:=Tryz.underlying270
 a35:=Tryz.isAgg270
 z35:=Tryz.sizeOf270
 v35:=Tryz.zeroValue270
 t36:=Tryz.underlying271
 a36:=Tryz.isAgg271
 z36:=Tryz.sizeOf271
 v36:=Tryz.zeroValue271
 t41:=Tryz.underlying276
 a41:=Tryz.isAgg276
 z41:=Tryz.sizeOf276
 v41:=Tryz.zeroValue276
 t44:=Tryz.underlying279
 a44:=Tryz.isAgg279
 z44:=Tryz.sizeOf279
 v44:=Tryz.zeroValue279
 t46:=Tryz.underlying281
 a46:=Tryz.isAgg281
 z46:=Tryz.sizeOf281
 v46:=Tryz.zeroValue281
 t53:=Tryz.underlying302
 a53:=Tryz.isAgg302
 z53:=Tryz.sizeOf302
 v53:=Tryz.zeroValue302
 t57:=Tryz.underlying306
 a57:=Tryz.isAgg306
 z57:=Tryz.sizeOf306
 v57:=Tryz.zeroValue306
 t63:=Tryz.underlying320
 a63:=Tryz.isAgg320
 z63:=Tryz.sizeOf320
 v63:=Tryz.zeroValue320
 t64:=Tryz.underlying321
 a64:=Tryz.isAgg321
 z64:=Tryz.sizeOf321
 v64:=Tryz.zeroValue321}
def Tryz.RH:Go.Shelf.Ren:=⟨fun |7=>51 |10=>95 |n=>n,fun |23=>104 |26=>9 |3=>105 |28=>102 |0=>0 |27=>101 |33=>118 |4=>4 |n=>n,fun |n=>n⟩
theorem Tryz.adu:Go.Proofs.SlLaysZ.n7 Tryz.prog Tryz.RH:={
 mixed:=by kernel_rfl
 f7:=⟨Tryz.f51.name,by decide,Tryz.func51.trans (congrArg some (by kernel_rfl))⟩
 f10:=⟨Tryz.f95.name,by decide,Tryz.func95.trans (congrArg some (by kernel_rfl))⟩
 t0:=Tryz.underlying0
 a0:=Tryz.isAgg0
 z0:=Tryz.sizeOf0
 v0:=Tryz.zeroValue0
 t4:=Tryz.underlying4
 a4:=Tryz.isAgg4
 z4:=Tryz.sizeOf4
 v4:=Tryz.zeroValue4
 t23:=Tryz.underlying104
 a23:=Tryz.isAgg104
 z23:=Tryz.sizeOf104
 v23:=Tryz.zeroValue104
 t26:=Tryz.underlying9
 a26:=Tryz.isAgg9
 z26:=Tryz.sizeOf9
 v26:=Tryz.zeroValue9
 t27:=Tryz.underlying101
 a27:=Tryz.isAgg101
 z27:=Tryz.sizeOf101
 v27:=Tryz.zeroValue101
 t28:=Tryz.underlying102
 a28:=Tryz.isAgg102
 z28:=Tryz.sizeOf102
 v28:=Tryz.zeroValue102
 t33:=Tryz.underlying118
 a33:=Tryz.isAgg118
 z33:=Tryz.sizeOf118
 v33:=Tryz.zeroValue118}
def Tryz.adv:Go.Shelf.Ren:=⟨fun |5=>96 |7=>151 |n=>n,fun |23=>159 |25=>3 |3=>3 |4=>4 |20=>20 |n=>n,fun |n=>n⟩
theorem Tryz.adw:Go.Proofs.SlLaysW.n5 Tryz.prog Tryz.adv:={
 mixed:=by kernel_rfl
 f5:=⟨Tryz.f96.name,by decide,Tryz.func96.trans (congrArg some (by kernel_rfl))⟩
 f7:=Tryz.func151.trans (congrArg some (by kernel_rfl))
 t4:=Tryz.underlying4
 a4:=Tryz.isAgg4
 z4:=Tryz.sizeOf4
 v4:=Tryz.zeroValue4
 t20:=Tryz.underlying20
 a20:=Tryz.isAgg20
 z20:=Tryz.sizeOf20
 v20:=Tryz.zeroValue20
 t23:=Tryz.underlying159
 a23:=Tryz.isAgg159
 z23:=Tryz.sizeOf159
 v23:=Tryz.zeroValue159}
def Tryz.KI:Go.Shelf.Ren:=⟨fun |7=>155 |10=>201 |n=>n,fun |23=>159 |26=>3 |3=>3 |28=>235 |0=>0 |27=>234 |33=>156 |4=>4 |n=>n,fun |n=>n⟩
theorem Tryz.RI:Go.Proofs.SlLaysZI.n7 Tryz.prog Tryz.KI:={
 mixed:=by kernel_rfl
 f7:=⟨Tryz.f155.name,by decide,Tryz.func155.trans (congrArg some (by kernel_rfl))⟩
 f10:=⟨Tryz.f201.name,by decide,Tryz.func201.trans (congrArg some (by kernel_rfl))⟩
 t0:=Tryz.underlying0
 a0:=Tryz.isAgg0
 z0:=Tryz.sizeOf0
 v0:=Tryz.zeroValue0
 t4:=Tryz.underlying4
 a4:=Tryz.isAgg4
 z4:=Tryz.sizeOf4
 v4:=Tryz.zeroValue4
 t23:=Tryz.underlying159
 a23:=Tryz.isAgg159
 z23:=Tryz.sizeOf159
 v23:=Tryz.zeroValue159
 t26:=Tryz.underlying3
 a26:=Tryz.isAgg3
 z26:=Tryz.sizeOf3
 v26:=Tryz.zeroValue3
 t27:=Tryz.underlying234
 a27:=Tryz.isAgg234
 z27:=Tryz.sizeOf234
 v27:=Tryz.zeroValue234
 t28:=Tryz.underlying235
 a28:=Tryz.isAgg235
 z28:=Tryz.sizeOf235
 v28:=Tryz.zeroValue235
 t33:=Tryz.underlying156
 a33:=Tryz.isAgg156
 z33:=Tryz.sizeOf156
 v33:=Tryz.zeroValue156}
def Tryz.adx:Go.Shelf.Ren:=⟨fun |8=>199 |11=>226 |n=>n,fun |26=>3 |28=>235 |24=>83 |0=>0 |33=>156 |4=>4 |n=>n,fun |n=>n⟩
theorem Tryz.ady:Go.Proofs.SlLaysZI.n8 Tryz.prog Tryz.adx:={
 mixed:=by kernel_rfl
 f8:=⟨Tryz.f199.name,by decide,Tryz.func199.trans (congrArg some (by kernel_rfl))⟩
 f11:=⟨Tryz.f226.name,by decide,Tryz.func226.trans (congrArg some (by kernel_rfl))⟩
 t0:=Tryz.underlying0
 a0:=Tryz.isAgg0
 z0:=Tryz.sizeOf0
 v0:=Tryz.zeroValue0
 t24:=Tryz.underlying83
 a24:=Tryz.isAgg83
 z24:=Tryz.sizeOf83
 v24:=Tryz.zeroValue83
 t26:=Tryz.underlying3
 a26:=Tryz.isAgg3
 z26:=Tryz.sizeOf3
 v26:=Tryz.zeroValue3
 t28:=Tryz.underlying235
 a28:=Tryz.isAgg235
 z28:=Tryz.sizeOf235
 v28:=Tryz.zeroValue235
 i26:=by kernel_rfl}
def Tryz.RJ:Go.Shelf.Ren:=⟨fun |7=>168 |10=>208 |n=>n,fun |23=>169 |26=>3 |3=>31 |28=>235 |0=>0 |27=>234 |33=>156 |4=>4 |n=>n,fun |n=>n⟩
theorem Tryz.adz:Go.Proofs.SlLaysZI.n7 Tryz.prog Tryz.RJ:={
 mixed:=by kernel_rfl
 f7:=⟨Tryz.f168.name,by decide,Tryz.func168.trans (congrArg some (by kernel_rfl))⟩
 f10:=⟨Tryz.f208.name,by decide,Tryz.func208.trans (congrArg some (by kernel_rfl))⟩
 t0:=Tryz.underlying0
 a0:=Tryz.isAgg0
 z0:=Tryz.sizeOf0
 v0:=Tryz.zeroValue0
 t4:=Tryz.underlying4
 a4:=Tryz.isAgg4
 z4:=Tryz.sizeOf4
 v4:=Tryz.zeroValue4
 t23:=Tryz.underlying169
 a23:=Tryz.isAgg169
 z23:=Tryz.sizeOf169
 v23:=Tryz.zeroValue169
 t26:=Tryz.underlying3
 a26:=Tryz.isAgg3
 z26:=Tryz.sizeOf3
 v26:=Tryz.zeroValue3
 t27:=Tryz.underlying234
 a27:=Tryz.isAgg234
 z27:=Tryz.sizeOf234
 v27:=Tryz.zeroValue234
 t28:=Tryz.underlying235
 a28:=Tryz.isAgg235
 z28:=Tryz.sizeOf235
 v28:=Tryz.zeroValue235
 t33:=Tryz.underlying156
 a33:=Tryz.isAgg156
 z33:=Tryz.sizeOf156
 v33:=Tryz.zeroValue156}
def Tryz.RK:Go.Shelf.Ren:=⟨fun |6=>154 |8=>199 |9=>200 |11=>226 |13=>150 |12=>227 |23=>196 |24=>197 |14=>249 |15=>250 |16=>251 |17=>252 |18=>253 |19=>254 |20=>255 |21=>256 |22=>257 |25=>265 |26=>221 |27=>222 |28=>266 |29=>267 |30=>268 |31=>270 |n=>n,fun |26=>3 |28=>235 |24=>83 |0=>0 |3=>3 |37=>225 |48=>279 |50=>281 |4=>4 |40=>271 |39=>270 |45=>276 |5=>5 |9=>9 |51=>302 |55=>306 |57=>320 |58=>321 |33=>156 |n=>n,fun |n=>n⟩
theorem Tryz.RL:Go.Proofs.SlLaysZI.n6 Tryz.prog Tryz.RK:={
 mixed:=by kernel_rfl
 f6:=⟨Tryz.f154.name,by decide,Tryz.func154.trans (congrArg some (by kernel_rfl))⟩
 f8:=⟨Tryz.f199.name,by decide,Tryz.func199.trans (congrArg some (by kernel_rfl))⟩
 f11:=⟨Tryz.f226.name,by decide,Tryz.func226.trans (congrArg some (by kernel_rfl))⟩
 t0:=Tryz.underlying0
 a0:=Tryz.isAgg0
 z0:=Tryz.sizeOf0
 v0:=Tryz.zeroValue0
 t24:=Tryz.underlying83
 a24:=Tryz.isAgg83
 z24:=Tryz.sizeOf83
 v24:=Tryz.zeroValue83
 t26:=Tryz.underlying3
 a26:=Tryz.isAgg3
 z26:=Tryz.sizeOf3
 v26:=Tryz.zeroValue3
 t28:=Tryz.underlying235
 a28:=Tryz.isAgg235
 z28:=Tryz.sizeOf235
 v28:=Tryz.zeroValue235
 i26:=by kernel_rfl}
def Tryz.adA:Go.Shelf.Ren:=⟨fun |5=>200 |8=>150 |7=>227 |19=>196 |20=>197 |10=>249 |11=>250 |12=>251 |13=>252 |14=>253 |15=>254 |16=>255 |17=>256 |18=>257 |30=>265 |31=>221 |32=>222 |33=>266 |34=>267 |35=>268 |40=>270 |n=>n,fun |23=>83 |25=>3 |3=>3 |32=>225 |22=>83 |0=>0 |44=>279 |46=>281 |4=>4 |36=>271 |35=>270 |41=>276 |5=>5 |9=>9 |53=>302 |57=>306 |63=>320 |64=>321 |n=>n,fun |n=>n⟩
theorem Tryz.RM:Go.Proofs.SlLaysM.n5 Tryz.prog Tryz.adA:={
 mixed:=by kernel_rfl
 f5:=⟨Tryz.f200.name,by decide,Tryz.func200.trans (congrArg some (by kernel_rfl))⟩
 f7:=⟨Tryz.f227.name,by decide,Tryz.func227.trans (congrArg some (by kernel_rfl))⟩
 f8:=Tryz.func150.trans (congrArg some (by kernel_rfl))
 f10:=⟨Tryz.f249.name,by decide,Tryz.func249.trans (congrArg some (by kernel_rfl))⟩
 f11:=⟨Tryz.f250.name,by decide,Tryz.func250.trans (congrArg some (by kernel_rfl))⟩
 f12:=⟨Tryz.f251.name,by decide,Tryz.func251.trans (congrArg some (by kernel_rfl))⟩
 f13:=⟨Tryz.f252.name,by decide,Tryz.func252.trans (congrArg some (by kernel_rfl))⟩
 f14:=⟨Tryz.f253.name,by decide,Tryz.func253.trans (congrArg some (by kernel_rfl))⟩
 f15:=⟨Tryz.f254.name,by decide,Tryz.func254.trans (congrArg some (by kernel_rfl))⟩
 f16:=⟨Tryz.f255.name,by decide,Tryz.func255.trans (congrArg some (by kernel_rfl))⟩
 f17:=⟨Tryz.f256.name,by decide,Tryz.func256.trans (congrArg some (by kernel_rfl))⟩
 f18:=⟨Tryz.f257.name,by decide,Tryz.func257.trans (congrArg some (by kernel_rfl))⟩
 f19:=Tryz.func196.trans (congrArg some (by kernel_rfl))
 f20:=Tryz.func197.trans (congrArg some (by kernel_rfl))
 f30:=⟨Tryz.f265.name,by decide,Tryz.func265.trans (congrArg some (by kernel_rfl))⟩
 f31:=Tryz.func221.trans (congrArg some (by kernel_rfl))
 f32:=Tryz.func222.trans (congrArg some (by kernel_rfl))
 f33:=⟨Tryz.f266.name,by decide,Tryz.func266.trans (congrArg some (by kernel_rfl))⟩
 f34:=⟨Tryz.f267.name,by decide,Tryz.func267.trans (congrArg some (by kernel_rfl))⟩
 f35:=⟨Tryz.f268.name,by decide,Tryz.func268.trans (congrArg some (by kernel_rfl))⟩
 f40:=⟨Tryz.f270.name,by decide,Tryz.func270.trans (congrArg some (by kernel_rfl))⟩
 t0:=Tryz.underlying0
 a0:=Tryz.isAgg0
 z0:=Tryz.sizeOf0
 v0:=Tryz.zeroValue0
 t3:=Tryz.underlying3
 a3:=Tryz.isAgg3
 z3:=Tryz.sizeOf3
 v3:=Tryz.zeroValue3
 t4:=Tryz.underlying4
 a4:=Tryz.isAgg4
 z4:=Tryz.sizeOf4
 v4:=Tryz.zeroValue4
 t5:=Tryz.underlying5
 a5:=Tryz.isAgg5
 z5:=Tryz.sizeOf5
 v5:=Tryz.zeroValue5
 t9:=Tryz.underlying9
 a9:=Tryz.isAgg9
 z9:=Tryz.sizeOf9
 v9:=Tryz.zeroValue9
 t22:=Tryz.underlying83
 a22:=Tryz.isAgg83
 z22:=Tryz.sizeOf83
 v22:=Tryz.zeroValue83
 t23:=Tryz.underlying83
 a23:=Tryz.isAgg83
 z23:=Tryz.sizeOf83
 v23:=Tryz.zeroValue83
 t25:=Tryz.underlying3
 a25:=Tryz.isAgg3
 z25:=Tryz.sizeOf3
 v25:=Tryz.zeroValue3
 t32:=Tryz.underlying225
 a32:=Tryz.isAgg225
 z32:=Tryz.sizeOf225
 v32:=Tryz.zeroValue225
 t35:=Tryz.underlying270
 a35:=Tryz.isAgg270
 z35:=Tryz.sizeOf270
 v35:=Tryz.zeroValue270
 t36:=Tryz.underlying271
 a36:=Tryz.isAgg271
 z36:=Tryz.sizeOf271
 v36:=Tryz.zeroValue271
 t41:=Tryz.underlying276
 a41:=Tryz.isAgg276
 z41:=Tryz.sizeOf276
 v41:=Tryz.zeroValue276
 t44:=Tryz.underlying279
 a44:=Tryz.isAgg279
 z44:=Tryz.sizeOf279
 v44:=Tryz.zeroValue279
 t46:=Tryz.underlying281
 a46:=Tryz.isAgg281
 z46:=Tryz.sizeOf281
 v46:=Tryz.zeroValue281
 t53:=Tryz.underlying302
 a53:=Tryz.isAgg302
 z53:=Tryz.sizeOf302
 v53:=Tryz.zeroValue302
 t57:=Tryz.underlying306
 a57:=Tryz.isAgg306
 z57:=Tryz.sizeOf306
 v57:=Tryz.zeroValue306
 t63:=Tryz.underlying320
 a63:=Tryz.isAgg320
 z63:=Tryz.sizeOf320
 v63:=Tryz.zeroValue320
 t64:=Tryz.underlying321
 a64:=Tryz.isAgg321
 z64:=Tryz.sizeOf321
 v64:=Tryz.zeroValue321}
def Tryz.adB:Go.Shelf.Ren:=⟨fun |5=>179 |7=>151 |n=>n,fun |23=>252 |25=>3 |3=>257 |4=>4 |20=>20 |n=>n,fun |n=>n⟩
theorem Tryz.adC:Go.Proofs.SlLaysW.n5 Tryz.prog Tryz.adB:={
 mixed:=by kernel_rfl
 f5:=⟨Tryz.f179.name,by decide,Tryz.func179.trans (congrArg some (by kernel_rfl))⟩
 f7:=Tryz.func151.trans (congrArg some (by kernel_rfl))
 t4:=Tryz.underlying4
 a4:=Tryz.isAgg4
 z4:=Tryz.sizeOf4
 v4:=Tryz.zeroValue4
 t20:=Tryz.underlying20
 a20:=Tryz.isAgg20
 z20:=Tryz.sizeOf20
 v20:=Tryz.zeroValue20
 t23:=Tryz.underlying252
 a23:=Tryz.isAgg252
 z23:=Tryz.sizeOf252
 v23:=Tryz.zeroValue252}
end Go.Proofs
