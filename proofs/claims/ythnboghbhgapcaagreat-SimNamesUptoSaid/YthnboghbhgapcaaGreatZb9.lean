/-
A part of the proof of this claim: lemmas, with no condition beyond what each says.
-/
import Derived.Shelf.SlIter.Nil
import Derived.Shelf.SlIterI.Nil
import Derived.Shelf.SortM.Plain
import Derived.Shelf.SortM.SortNone
import Derived.Shelf.SlMaps.Clone
import Derived.Ground.GgzProg
import Derived.Ground.SlgmProg
import Derived.Ground.SlmcProg
import Derived.Test.YthnboghbhgapcaaGreatProg
import Derived.Test.YthnboghbhgapcaaGreatZb8
set_option linter.unusedVariables false
set_option linter.unusedSimpArgs false
set_option maxRecDepth 10000
set_option maxHeartbeats 4000000
namespace Go.Proofs.YthnboghbhgapcaaGreat
open Go.RowKit Go.Proofs
section
section
variable {P:Program} {aS:dc} {N:Nat} {ids:ay5} {o:Oper} {K:aY} {B:aw} {C:e9} {ρ:Nat->bn} {F:Nat->Nat->Prop} {w w':World}
theorem Mem.split (h:Mem ids C B ρ F w) {c d:Nat} {cw iU oE:bb} (H:ag B c=some cw) (hf:gX ids K B d=true) (pl:bn) (ct cJ:Nat->Prop) (E: ∀b,ct b->F c b) (G: ∀b,cJ b->F c b) (ep: ∀b,ct b-> ¬cJ b)
  (B6: ∀I,ce (bZ C B F w) w I w->Holds (c5 ρ d pl) I ct w (ρ c) iU) (acb: ∀I,ce (bZ C B F w) w I w->Holds (c5 ρ d pl) I cJ w pl oE):
  Mem ids C ((d,oE)::(c,iU)::B) (c5 ρ d pl) (c5 (c5 F c ct) d cJ) w/\ce (bZ C B F w) w (bZ C ((d,oE)::(c,iU)::B) (c5 (c5 F c ct) d cJ) w) w:=by
 obtain⟨h2,jn,po,f4⟩:=kM hf;have sj:c≠d:=fun e=>by rw[<-e,H] at jn;cases jn
 have sk: ∀j ch,ag ((d,oE)::(c,iU)::B) j=some ch->(j=c\/j=d)->(j=c/\ch=iU)\/(j=d/\ch=oE):=fun j ch Z az=>by
  rw[ca] at Z
  split at Z
  .rename_i e;injection Z with Z;exact .inr ⟨e.symm,Z.symm⟩
  .rename_i e;rw[ca] at Z
   split at Z
   .rename_i e;injection Z with Z;exact .inl ⟨e.symm,Z.symm⟩
   .rename_i ao;rcases az with az |az
    .exact absurd az.symm ao
    .exact absurd az.symm e
 have Fk:c5 (c5 F c ct) d cJ c=ct:=by rw[dd _ _ sj,c6]
 have Fl:c5 (c5 F c ct) d cJ d=cJ:=by rw[c6]
 refine h.step (fun j=>j=c\/j=d) (fun j=>j=d) (cK.refl _ _) (fun j ch Z az=>?_) (fun j Z=>dd _ _ Z) (fun j Z=>?_) (fun j Z e=>f4 (e▸Z)) (fun j Z=>.inr Z) (fun j ch Z _ k ab e=>?_) (fun j ch Z az aW=>?_) (fun j ch Z az b O=>?_) (fun j q7 ch ch' b Z kj az gl a2 O dm=>?_)
 .rw[ca,if_neg (fun e=>az (.inr e.symm)),ca,if_neg (fun e=>az (.inl e.symm))] at Z;exact Z
 .rw[dd _ _ (fun e=>Z (.inr e)),dd _ _ (fun e=>Z (.inl e))]
 .subst e;rw[po j ch Z] at ab
  cases ab
 .rcases sk j ch Z az with⟨rfl,rfl⟩ |⟨rfl,rfl⟩
  .rw[Fk,dd _ _ sj];exact B6 _ aW
  .rw[Fl,c6];exact acb _ aW
 .have:F c b:=by
   rcases sk j ch Z az with⟨rfl,rfl⟩ |⟨rfl,rfl⟩
   .rw[Fk] at O;exact E b O
   .rw[Fl] at O;exact G b O
  exact⟨(h.own c _ H b this).1,.inl ⟨c,_,H,.inl rfl,this⟩⟩
 .rcases sk j ch Z az with⟨rfl,rfl⟩ |⟨rfl,rfl⟩ <;>rcases sk q7 ch' kj gl with⟨rfl,rfl⟩ |⟨rfl,rfl⟩
  .exact a2 rfl
  .rw[Fk] at O;rw[Fl] at dm;exact ep b O dm
  .rw[Fl] at O;rw[Fk] at dm;exact ep b dm O
  .exact a2 rfl
theorem Mem.Fm (h:Mem ids C B ρ F w) {c d:Nat} {cw iU ch:bb} (H:ag B c=some cw) (J:ag B d=some iU) (a2:c≠d) (b8:Nat->Prop) (kN: ∀b,b8 b->F c b\/F d b) (cz:cK (fun b=>F c b\/F d b) w w')
  (cX: ∀I,ce (bZ C B F w) w I w'->Holds ρ I b8 w' (ρ c) ch):
  Mem ids C ((c,ch)::gM B d) ρ (c5 F c b8) w'/\ce (bZ C B F w) w (bZ C ((c,ch)::gM B d) (c5 F c b8) w') w':=by
 have sk: ∀j ch',ag ((c,ch)::gM B d) j=some ch'->(j=c\/j=d)->j=c/\ch'=ch:=fun j ch' Z az=>by
  rw[ca] at Z
  split at Z
  .rename_i e;injection Z with Z;exact⟨e.symm,Z.symm⟩
  .rename_i e;rcases az with az |az
   .exact absurd az.symm e
   .rw[az,hl,if_pos rfl] at Z;cases Z
 refine h.step (fun j=>j=c\/j=d) (fun _=>False) (cz.mono fun b _ O=>?_) (fun j ch' Z az=>?_) (fun _ _=>rfl) (fun j az=>dd _ _ (fun e=>az (.inl e))) (fun _ _ h=>h) (fun _ h=>h.elim) (fun _ _ _ _ _ _ h=>h) (fun j ch' Z az aW=>?_) (fun j ch' Z az b O=>?_) (fun j q7 cC cG b Z kj az gl hn=>?_)
 .rcases O with O |O
  .exact⟨c,_,H,.inl rfl,O⟩
  .exact⟨d,_,J,.inr rfl,O⟩
 .rw[ca,if_neg (fun e=>az (.inl e.symm)),hl,if_neg (fun e=>az (.inr e.symm))] at Z;exact Z
 .obtain⟨rfl,rfl⟩:=sk j ch' Z az;rw[c6];exact cX _ aW
 .obtain⟨rfl,rfl⟩:=sk j ch' Z az;rw[c6] at O;rcases kN b O with O |O
  .exact⟨Nat.lt_of_lt_of_le (h.own j _ H b O).1 cz.size,.inl ⟨j,_,H,.inl rfl,O⟩⟩
  .exact⟨Nat.lt_of_lt_of_le (h.own d _ J b O).1 cz.size,.inl ⟨d,_,J,.inr rfl,O⟩⟩
 .exact absurd ((sk j cC Z az).1.trans (sk q7 cG kj gl).1.symm) hn
theorem Mem.Fo (h:Mem ids C B ρ F w) {c:Nat} {cw ch:bb} (H:ag B c=some cw) (b8:Nat->Prop) (kN: ∀b,b8 b->F c b) (cz:cK (F c) w w') (cX: ∀I,ce (bZ C B F w) w I w'->Holds ρ I b8 w' (ρ c) ch):
  Mem ids C ((c,ch)::B) ρ (c5 F c b8) w'/\ce (bZ C B F w) w (bZ C ((c,ch)::B) (c5 F c b8) w') w':=by
 have sk: ∀j ch',ag ((c,ch)::B) j=some ch'->j=c->ch'=ch:=fun j ch' Z az=>by
  rw[ca,if_pos az.symm] at Z;injection Z with Z;exact Z.symm
 refine h.step (fun j=>j=c) (fun _=>False) (cz.mono fun b _ O=>⟨c,_,H,rfl,O⟩) (fun j ch' Z az=>?_) (fun _ _=>rfl) (fun j az=>dd _ _ az) (fun _ _ h=>h) (fun _ h=>h.elim) (fun _ _ _ _ _ _ h=>h) (fun j ch' Z az aW=>?_) (fun j ch' Z az b O=>?_) (fun j q7 cC cG b Z kj az gl hn=>absurd (az.trans gl.symm) hn)
 .rw[ca,if_neg (fun e=>az e.symm)] at Z;exact Z
 .have e:=sk j ch' Z az;subst az e;rw[c6];exact cX _ aW
 .subst az;rw[c6] at O;exact⟨Nat.lt_of_lt_of_le (h.own _ _ H b (kN b O)).1 cz.size,.inl ⟨_,_,H,rfl,kN b O⟩⟩
end
abbrev k8:=Int->Option ay4
def i' (f:k8) (k:Int) (xs:ay4):k8:=fun j=>if j=k then some xs else f j
def B7 (f:k8) (k:Int):k8:=fun j=>if j=k then none else f j
def J0:k8:=fun _=>none
def tq (I F:Nat->Prop) (w:World) (p:bn) (xs:ay4):Prop:=Holds (fun _=>p) I F w p (.row 5 .u8 xs)
theorem tq.congr {I F F':Nat->Prop} {w:World} {p:bn} {xs:ay4} (h:tq I F w p xs) (e: ∀b,F' b↔F b):tq I F' w p xs:=
 ⟨fun b=>(e b).trans (h.1 b),h.2⟩
theorem acd {I F:Nat->Prop} {w:World} {p:bn} {xs:ay4} (h:tq I F w p xs): ∃x:aa .dC,p.ey=qR x:=by
 obtain⟨_,_,cs,⟨_,h⟩,_⟩:=h;rcases h with⟨h,_⟩ |⟨g,cap,c9,h,_⟩
 .exact⟨none,h⟩
 .exact⟨some (g,_,cap),h⟩
structure Fp (ax:Int->Option bn) (f:k8) (es:List (aa ak×aa .dC)) (b8:Int->Nat->Prop) (I:Nat->Prop) (w:World):Prop where
 fN:eZ es
 v7: ∀k:Int,b0 (aI:=ak) (aK:=.dC) es k=none->f k=none/\ax k=none/\ ∀b,¬b8 k b
 xF: ∀(k:Int) h,b0 (aI:=ak) (aK:=.dC) es k=some h->ax k=none-> ∃xs p,f k=some xs/\p.ey=qR h/\tq I (b8 k) w p xs
 QC: ∀(k:Int) h q,b0 (aI:=ak) (aK:=.dC) es k=some h->ax k=some q->q.ey=qR h/\ ∀b,¬b8 k b
 e': ∀(j k:Int) b,j≠k->b8 j b-> ¬b8 k b
theorem Fp.cj {ax:Int->Option bn} {f:k8} {es:List (aa ak×aa .dC)} {b8:Int->Nat->Prop} {I I':Nat->Prop} {w w':World} (h:Fp ax f es b8 I w) (V:ce I w I' w') (bh: ∀k b,b8 k b->w'.heap[b]? =w.heap[b]?) (aR:w.heap.size<=w'.heap.size):Fp ax f es b8 I' w':=
 ⟨h.fN,h.v7,fun k x E G=>let⟨xs,p,b4,cg,a3⟩:=h.xF k x E G;⟨xs,p,b4,cg,Holds.cj V (fun b O=>bh k b O) aR _ (fun _ _=>rfl) a3⟩,h.QC,h.e'⟩
def v8 (ax:Int->Option bn) (f:k8) (I F:Nat->Prop) (w:World) (p:bn):Prop:=
 ∃es b8,Fp ax f es b8 I w/\(∀b,F b↔b=p.bj\/ ∃k,b8 k b)/\(∀k,¬b8 k p.bj)/\ ∃bT bV,w.heap[p.bj]? =some (.map (List.toArray bT) bV)/\ie I w ak .dC es bT/\lZ bT bV
def QD (ax:Int->Option bn) (f:k8):bf where
 R:=v8 ax f
 cj:=fun I F w I' w' p ⟨es,b8,E,G,aj,bT,bV,aX,bH,fF⟩ V bh aR=>
  ⟨es,b8,E.cj V (fun k b O=>bh b ((G b).2 (.inr ⟨k,O⟩))) aR,G,aj,bT,bV,(bh _ ((G _).2 (.inl rfl))).trans aX,bH.mono V,fF⟩
def mJ (f:k8):bf:=QD (fun _=>none) f
def Fq (k:Int) (q:bn):Int->Option bn:=fun j=>if j=k then some q else none
def v' (f:k8) (k:Int):bn->bf:=fun q=>QD (Fq k q) f
theorem v8.out {f:k8} {k:Int} {xs:ay4} {I F:Nat->Prop} {w:World} {p:bn} (hf:f k=some xs) (h:(mJ f).R I F w p):
  ∃(ct cJ:Nat->Prop) (q:bn) (es:List (aa ak×aa .dC)) (x:aa .dC),(∀b,ct b->F b)/\(∀b,cJ b->F b)/\(∀b,ct b-> ¬cJ b)/\q.ey=qR x/\b0 (aI:=ak) (aK:=.dC) es k=some x/\(∃bT bV,w.heap[p.bj]? =some (.map (List.toArray bT) bV)/\ie I w ak .dC es bT)/\tq I cJ w q xs/\(v' f k q).R I ct w p:=by
 obtain⟨es,b8,E,G,aj,bT,bV,aX,bH,fF⟩:=h
 cases e:b0 (aI:=ak) (aK:=.dC) es k with
 |none=>rw[(E.v7 k e).1] at hf;cases hf
 |some x=>
  obtain⟨ys,q,b4,cg,a3⟩:=E.xF k x e rfl;rw[hf] at b4;injection b4 with b4
  subst b4;refine⟨fun b=>b=p.bj\/ ∃j,j≠k/\b8 j b,b8 k,q,es,x,fun b O=>(G b).2 (O.imp id fun⟨j,_,Z⟩=>⟨j,Z⟩),fun b O=>(G b).2 (.inr ⟨k,O⟩),fun b O ab=>?_,cg,e,⟨bT,bV,aX,bH⟩,a3,?_⟩
  .rcases O with rfl |⟨j,Z,O⟩
   .exact aj k ab
   .exact E.e' j k b Z O ab
  .refine⟨es,fun j b=>j≠k/\b8 j b,⟨E.fN,fun j Z=>?_,fun j y Z bk=>?_,fun j y ao0 Z bk=>?_,fun i j b gI a b=>E.e' i j _ gI a.2 b.2⟩,fun b=>Iff.rfl,fun j Z=>aj j Z.2,bT,bV,aX,bH,fF⟩
   .obtain⟨b1,_,b3⟩:=E.v7 j Z;have:j≠k:=fun b5=>by rw[b5,e] at Z;cases Z
    exact⟨b1,if_neg this,fun b O=>b3 b O.2⟩
   .have a2:j≠k:=fun b5=>by rw[show Fq k q j=some q from if_pos b5] at bk;cases bk
    obtain⟨ys,r,b1,b2,b3⟩:=E.xF j y Z rfl;exact⟨ys,r,b1,b2,b3.congr fun b=>⟨fun h=>h.2,fun h=>⟨a2,h⟩⟩⟩
   .simp only[Fq] at bk
    split at bk
    .rename_i b5;injection bk with bk
     subst b5 bk;rw[e] at Z;injection Z with Z
     subst Z;exact⟨cg,fun b O=>O.1 rfl⟩
    .cases bk
theorem v8.ace {f:k8} {k:Int} {xs:ay4} {I ct cJ:Nat->Prop} {w:World} {p q:bn} (h:(v' f k q).R I ct w p) (aF:tq I cJ w q xs) (J: ∀b,ct b-> ¬cJ b) (ab: ∃ys,f k=some ys):(mJ (i' f k xs)).R I (fun b=>ct b\/cJ b) w p:=by
 obtain⟨es,b8,E,G,aj,bT,bV,aX,bH,fF⟩:=h;obtain⟨ys,ab⟩:=ab;have h4:Fq k q k=some q:=if_pos rfl
 cases e:b0 (aI:=ak) (aK:=.dC) es k with
 |none=>rw[(E.v7 k e).1] at ab;cases ab
 |some x=>
  obtain⟨b4,cg⟩:=E.QC k x q e h4;refine⟨es,fun j b=>if j=k then cJ b else b8 j b,⟨E.fN,fun j Z=>?_,fun j y Z _=>?_,fun _ _ _ _ bk=>(by cases bk),fun i j b gI ha O=>?_⟩,fun b=>?_,fun j Z=>?_,bT,bV,aX,bH,fF⟩
  .have a2:j≠k:=fun b5=>by rw[b5,e] at Z;cases Z
   obtain⟨b1,_,b3⟩:=E.v7 j Z;exact⟨by unfold i';rw[if_neg a2];exact b1,rfl,fun b O=>by rw[if_neg a2] at O;exact b3 b O⟩
  .by_cases a2:j=k
   .subst a2;rw[e] at Z;injection Z with Z
    subst Z;exact⟨xs,q,if_pos rfl,b4,aF.congr fun b=>by rw[if_pos rfl]⟩
   .obtain⟨wa,r,b1,b2,b3⟩:=E.xF j y Z (if_neg a2);exact⟨wa,r,(if_neg a2).trans b1,b2,b3.congr fun b=>by rw[if_neg a2]⟩
  .by_cases aH:i=k
   .rw[if_pos aH] at ha;have Z:j≠k:=fun b5=>gI (aH.trans b5.symm)
    rw[if_neg Z] at O;exact J b ((G b).2 (.inr ⟨j,O⟩)) ha
   .rw[if_neg aH] at ha
    by_cases Z:j=k
    .rw[if_pos Z] at O;exact J b ((G b).2 (.inr ⟨i,ha⟩)) O
    .rw[if_neg Z] at O;exact E.e' i j b gI ha O
  .show(ct b\/cJ b)↔(b=p.bj\/ ∃j,(if j=k then cJ b else b8 j b));rw[G];constructor
   .rintro((h |⟨j,h⟩) |h)
    .exact .inl h
    .refine .inr ⟨j,?_⟩
     by_cases Z:j=k
     .subst Z;exact absurd h (cg b)
     .rw[if_neg Z];exact h
    .exact .inr ⟨k,by rw[if_pos rfl];exact h⟩
   .rintro(h |⟨j,h⟩)
    .exact .inl (.inl h)
    .by_cases Z:j=k
     .rw[if_pos Z] at h;exact .inr h
     .rw[if_neg Z] at h;exact .inl (.inr ⟨j,h⟩)
  .replace Z:(if j=k then cJ p.bj else b8 j p.bj):=Z
   by_cases kj:j=k
   .rw[if_pos kj] at Z;exact J _ ((G _).2 (.inl rfl)) Z
   .rw[if_neg kj] at Z;exact aj j Z
section
variable {P:Program} {aS:dc} {ids:ay5} {K:aY} {B:aw}
theorem Fr {o:Oper} {T kt et:TypeId} {x i:Operand} {c d:Nat} {f:k8} {k:Int} {xs:ay4} (ah:o.op= .lookup T x i false) (cd:P.underlying T=some (.map kt et)) {dk:TypeDesc} (j3:P.underlying kt=some dk) (jK:m0 ak dk=true) {c7:TypeInfo} (aH:P.info? et=some c7) (aR:c7.zero=some (.slice none 0 0))
  (hx:a6 K x= .c (.one (.mp c))) (ab:a6 K i= .c (.one (.d (.int .i64 k)))) (H:ag B c=some (.aG (mJ f))) (hf:f k=some xs) (N:Nat):bB P N ids o K B (.c (.one (.own d))) ⟨[c],[d],[(c,some (.cn d (v' f k))),(d,some (.row 5 .u8 xs))]⟩:=by
 have m1:x∈o.op.operands:=av2
 have m2:i∈o.op.operands:=av2
 rintro K' B' g1 g2 cZ C a w ⟨hn,l7,ρ,F,aq,au⟩ bw fE Q di;have cF:=(g2 c au7).trans H;have cz:=cZ d au7;obtain⟨h2,jn,po,f4⟩:=kM cz;have sj:c≠d:=fun e=>by rw[<-e,cF] at jn;cases jn
 obtain⟨ct,cJ,q,es,y,E,G,aj,aX,bH,⟨bT,bV,fF,jF⟩,iA,vD⟩:=v8.out hf (aq.holds c _ cF);have ai:=au.mp ((g1 x m1).trans hx);have ao:a.eval i=gG ak k:=au.int ((g1 i m2).trans ab);have B8:(zeroValue et).run P w= .ok (.slice none 0 0) w:=by simp[zeroValue,typeInfo,aH,aR]
 obtain⟨v,aF,ay⟩:=Ok (P:=P) (aK:=.dC) cd j3 jK fF jF B8 ⟨rfl,⟨fun _=>rfl,fun h=>by cases h⟩,rfl⟩ k false
 have up:v=qR y:=by
  have h:=O6 (ρ:=ρ) rfl ay;rw[bH] at h;exact h
 have hx:(execOp a.eval o).run P w= .ok (.value v) w:=by simp only[execOp,ah,Sem.run_bind,ai,ao,aF,Result.andThen_ok,Sem.run_pure];rfl
 unfold Oper.wp;rw[hx,Oper.upon_value]
 obtain⟨bN,aW⟩:=aq.split (K:=K') (iU:=.cn d (v' f k)) (oE:=.row 5 .u8 xs) cF cz q ct cJ E G aj
  (fun I ba=>by
   show(v' f k (c5 ρ d q d)).R I ct w (ρ c);rw[c6];exact(v' f k q).cj _ _ _ _ _ _ vD ba (fun _ _=>rfl) (ap0 _))
  (fun I ba=>Holds.cj ba (fun _ _=>rfl) (ap0 _) _ (fun _ h=>by cases h) iA)
 refine di _ _ ⟨kf.trans hn,kg.trans l7,_,_,bN,(au.mono aW fun s e V=>dd _ _ (fun b5=>by subst b5;rw[h2 s] at V;cases V)).kh (fun e V=>by rw[hn];exact bw e V) ?_⟩;show v=(c5 ρ d q d).ey;rw[c6,up,aX]
theorem ae.Fs (c d:Nat) {f tm:k8} {k:Int} {xs:ay4} (acf:i' f k xs=tm) (H:ag B c=some (.cn d (v' f k))) (J:ag B d=some (.row 5 .u8 xs)) (a2:c≠d) (ab:(f k).isSome=true):ae ids K B K ((c,.aG (mJ tm))::gM B d):=by
 subst acf;rintro N C a w ⟨hn,l7,ρ,F,aq,au⟩;have E:(v' f k (ρ d)).R (bZ C B F w) (F c) w (ρ c):=aq.holds c _ H;have G:tq (bZ C B F w) (F d) w (ρ d) xs:=aq.holds d _ J
 have ab: ∃ys,f k=some ys:=by
  cases e:f k with
  |none=>rw[e] at ab;cases ab
  |some ys=>exact⟨ys,rfl⟩
 obtain⟨bN,aW⟩:=aq.Fm (w':=w) (ch:=.aG (mJ (i' f k xs))) H J a2 (fun b=>F c b\/F d b) (fun _ h=>h) (cK.refl _ _) fun I ba=>
  (mJ (i' f k xs)).cj _ _ _ _ _ _ (v8.ace E G (fun b O dm=>aq.e' c d _ _ b H J a2 O dm) ab) ba (fun _ _=>rfl) (ap0 _)
 exact⟨hn,l7,ρ,_,bN,au.mono aW fun _ _ _=>rfl⟩
theorem acg {o:Oper} {T kt et:TypeId} {x i v:Operand} {c d:Nat} {f:k8} {k:Int} {xs:ay4} (ah:o.op= .mapUpdate T x i v) (cd:P.underlying T=some (.map kt et)) {dk:TypeDesc} (j3:P.underlying kt=some dk) (jK:m0 ak dk=true)
  (hx:a6 K x= .c (.one (.mp c))) (ab:a6 K i= .c (.one (.d (.int .i64 k)))) (ay:a6 K v= .c (.one (.own d))) (H:ag B c=some (.aG (mJ f))) (J:ag B d=some (.row 5 .u8 xs)) (a2:c≠d) (hf:f k=none) (N:Nat):
  bB P N ids o K B .undef ⟨[c,d],[],[(d,none),(c,some (.aG (mJ (i' f k xs))))]⟩:=by
 have m1:x∈o.op.operands:=av2
 have m2:i∈o.op.operands:=av2
 have m3:v∈o.op.operands:=av2
 rintro K' B' g1 g2 - C a w ⟨hn,l7,ρ,F,aq,au⟩ bw fE Q di;have cF:=(g2 c au7).trans H;have dK:=(g2 d au7).trans J;obtain⟨es,b8,E,G,aj,bT,bV,aX,bH,fF⟩:(mJ f).R (bZ C B' F w) (F c) w (ρ c):=aq.holds c _ cF;have fX:tq (bZ C B' F w) (F d) w (ρ d) xs:=aq.holds d _ dK;obtain⟨y,aB⟩:=acd fX;have ai:=au.mp ((g1 x m1).trans hx);have ao:a.eval i=gG ak k:=au.int ((g1 i m2).trans ab);have bl:a.eval v=(ρ d).ey:=au.ev ((g1 v m3).trans ay)
 have c2:jk (bZ C B' F w) w .dC y (a.eval v):=by
  rw[bl,aB]
  have dP:(qR y).cells= #[qR y]:=by
   match y with
   |none=>rfl
   |some (_,_,_)=>rfl
  exact⟨by rw[dP];rfl,⟨fun _=>dP,fun h=>by cases h⟩,by rw[dP];rfl⟩
 obtain⟨en,jD,aF,gl,p6⟩:=A9 (P:=P) cd j3 jK aX bH fF k c2;have ra:=(Array.getElem?_eq_some_iff.1 aX).1;have ep: ∀y,F c y-> ¬F d y:=fun y aB d4=>aq.e' c d _ _ y cF dK a2 aB d4
 have zB:b0 (aI:=ak) (aK:=.dC) es k=none:=by
  cases e:b0 (aI:=ak) (aK:=.dC) es k with
  |none=>rfl
  |some aC=>
   obtain⟨_,_,b4,_⟩:=E.xF k aC e rfl;rw[hf] at b4
   cases b4
 obtain⟨dY,cS⟩:=zz (aI:=ak) (aK:=.dC) rb k y es;have uF: ∀aC,aC≠(ρ c).bj->({w with heap:=w.heap.setIfInBounds (ρ c).bj (.map (List.toArray en) jD)}:World).heap[aC]? =w.heap[aC]? :=fun aC aR=>Array.getElem?_setIfInBounds_ne (Ne.symm aR)
 have B9:(execOp a.eval o).run P w= .ok .skip {w with heap:=w.heap.setIfInBounds (ρ c).bj (.map (List.toArray en) jD)}:=ax3
 unfold Oper.wp;rw[B9,Oper.upon_skip]
 obtain⟨bN,aW⟩:=aq.Fm (ch:=.aG (mJ (i' f k xs))) (w':={w with heap:=w.heap.setIfInBounds (ρ c).bj (.map (List.toArray en) jD)}) cF dK a2 (fun b=>F c b\/F d b) (fun _ h=>h) (ul (S:=fun b=>F c b\/F d b) (.inl ((G _).2 (.inl rfl)))) fun I ba=>by
  have iG:=E.cj ba (fun j b O=>uF b fun e=>aj j (e▸O)) au7;have f':tq I (F d) {w with heap:=w.heap.setIfInBounds (ρ c).bj (.map (List.toArray en) jD)} (ρ d) xs:=Holds.cj ba (fun b O=>uF b fun e=>ep b (e▸(G _).2 (.inl rfl)) O) au7 _ (fun _ h=>by cases h) fX;refine⟨dr (aI:=ak) (aK:=.dC) es k y,fun j b=>if j=k then F d b else b8 j b,⟨eZ.put rb E.fN,fun j Z=>?_,fun j aC Z _=>?_,fun _ _ _ _ bk=>(by cases bk),fun i j b gI ha O=>?_⟩,fun b=>?_,fun j Z=>?_,en,jD,by simp[ra],gl.mono ba,p6⟩
  .have lG:j≠k:=fun e=>by rw[e,dY] at Z;cases Z
   rw[cS j lG] at Z;obtain⟨b1,_,b3⟩:=iG.v7 j Z;exact⟨by unfold i';rw[if_neg lG];exact b1,rfl,fun b O=>by rw[if_neg lG] at O;exact b3 b O⟩
  .by_cases lG:j=k
   .subst lG;rw[dY] at Z;injection Z with Z
    subst Z;exact⟨xs,ρ d,if_pos rfl,aB,f'.congr fun b=>by rw[if_pos rfl]⟩
   .rw[cS j lG] at Z;obtain⟨wa,r,b1,b2,b3⟩:=iG.xF j aC Z rfl;exact⟨wa,r,(if_neg lG).trans b1,b2,b3.congr fun b=>by rw[if_neg lG]⟩
  .by_cases aH:i=k
   .rw[if_pos aH] at ha;have Z:j≠k:=fun b5=>gI (aH.trans b5.symm)
    rw[if_neg Z] at O;exact ep b ((G b).2 (.inr ⟨j,O⟩)) ha
   .rw[if_neg aH] at ha
    by_cases Z:j=k
    .rw[if_pos Z] at O;exact ep b ((G b).2 (.inr ⟨i,ha⟩)) O
    .rw[if_neg Z] at O;exact E.e' i j b gI ha O
  .show(F c b\/F d b)↔(b=(ρ c).bj\/ ∃j,(if j=k then F d b else b8 j b));rw[G];have ach:=(E.v7 k zB).2.2;constructor
   .rintro((h |⟨j,h⟩) |h)
    .exact .inl h
    .refine .inr ⟨j,?_⟩;have Z:j≠k:=fun e=>ach b (e▸h)
     rw[if_neg Z];exact h
    .exact .inr ⟨k,by rw[if_pos rfl];exact h⟩
   .rintro(h |⟨j,h⟩)
    .exact .inl (.inl h)
    .by_cases Z:j=k
     .rw[if_pos Z] at h;exact .inr h
     .rw[if_neg Z] at h;exact .inl (.inr ⟨j,h⟩)
  .replace Z:(if j=k then F d (ρ c).bj else b8 j (ρ c).bj):=Z
   by_cases kj:j=k
   .rw[if_pos kj] at Z;exact ep _ ((G _).2 (.inl rfl)) Z
   .rw[if_neg kj] at Z;exact aj j Z
 exact di _ _ ⟨kf.trans hn,kg.trans l7,ρ,_,bN,(au.mono aW fun _ _ _=>rfl).kh (fun e V=>by rw[hn];exact bw e V) rfl⟩
theorem aci {o:Oper} {T eS kt et:TypeId} {x i:Operand} {c:Nat} {f:k8} {k:Int} (ah:o.op= .call {callee:=.builtin .delete,args:= #[x,i],argTypes:= #[T,eS]}) (cd:P.underlying T=some (.map kt et)) {dk:TypeDesc} (j3:P.underlying kt=some dk) (jK:m0 ak dk=true)
  (hx:a6 K x= .c (.one (.mp c))) (ab:a6 K i= .c (.one (.d (.int .i64 k)))) (H:ag B c=some (.aG (mJ f))) (N:Nat):
  bB P N ids o K B (.cf []) ⟨[c],[],[(c,some (.aG (mJ (B7 f k))))]⟩:=by
 have m1:x∈o.op.operands:=av6
 have m2:i∈o.op.operands:=av6
 rintro K' B' g1 g2 - C a w ⟨hn,l7,ρ,F,aq,au⟩ bw fE Q di;have cF:=(g2 c au7).trans H;obtain⟨es,b8,E,G,aj,bT,bV,aX,bH,fF⟩:(mJ f).R (bZ C B' F w) (F c) w (ρ c):=aq.holds c _ cF;have ai:=au.mp ((g1 x m1).trans hx);have ao:a.eval i=gG ak k:=au.int ((g1 i m2).trans ab);obtain⟨en,aF,gl,p6⟩:=Ot (P:=P) (ty:=o.type) cd j3 jK aX bH fF k eS;have ra:=(Array.getElem?_eq_some_iff.1 aX).1;obtain⟨dY,cS⟩:=B5 (aI:=ak) (aK:=.dC) rb k es E.fN;have uF: ∀aC,aC≠(ρ c).bj->({w with heap:=w.heap.setIfInBounds (ρ c).bj (.map (List.toArray en) bV)}:World).heap[aC]? =w.heap[aC]? :=fun aC aR=>Array.getElem?_setIfInBounds_ne (Ne.symm aR)
 have B9:(execOp a.eval o).run P w= .ok (.value (.tuple #[])) {w with heap:=w.heap.setIfInBounds (ρ c).bj (.map (List.toArray en) bV)}:=by simp[execOp,ah,resolve,invoke,builtin,ai,ao,aF]
 unfold Oper.wp;rw[B9,Oper.upon_value]
 obtain⟨bN,aW⟩:=aq.Fo (ch:=.aG (mJ (B7 f k))) (w':={w with heap:=w.heap.setIfInBounds (ρ c).bj (.map (List.toArray en) bV)}) cF (fun b=>b=(ρ c).bj\/ ∃j,j≠k/\b8 j b) (fun b O=>(G b).2 (O.imp id fun⟨j,_,h⟩=>⟨j,h⟩)) (ul (S:=F c) ((G _).2 (.inl rfl))) fun I ba=>by
  have iG:=E.cj ba (fun j b O=>uF b fun e=>aj j (e▸O)) au7;refine⟨gH (aI:=ak) (aK:=.dC) es k,fun j b=>j≠k/\b8 j b,⟨eZ.k7 E.fN,fun j Z=>?_,fun j aC Z _=>?_,fun _ _ _ _ bk=>(by cases bk),fun i j b gI ha O=>E.e' i j b gI ha.2 O.2⟩,fun b=>Iff.rfl,fun j Z=>aj j Z.2,en,bV,by simp[ra],gl.mono ba,p6⟩
  .by_cases lG:j=k
   .exact⟨if_pos lG,rfl,fun b O=>O.1 lG⟩
   .rw[cS j lG] at Z;obtain⟨b1,_,b3⟩:=iG.v7 j Z;exact⟨(if_neg lG).trans b1,rfl,fun b O=>b3 b O.2⟩
  .have lG:j≠k:=fun e=>by rw[e,dY] at Z;cases Z
   rw[cS j lG] at Z;obtain⟨wa,r,b1,b2,b3⟩:=iG.xF j aC Z rfl;exact⟨wa,r,(if_neg lG).trans b1,b2,b3.congr fun b=>⟨fun h=>h.2,fun h=>⟨lG,h⟩⟩⟩
 exact di _ _ ⟨kf.trans hn,kg.trans l7,ρ,_,bN,(au.mono aW fun _ _ _=>rfl).kh (fun e V=>by rw[hn];exact bw e V) ⟨[],rfl,rfl⟩⟩
theorem ae.QE (c:Nat) {aK:bx} (H:ag B c=some (.map ak aK [])):ae ids K B K ((c,.aG (mJ J0))::B):=by
 rintro N C a w ⟨hn,J,ρ,F,aq,au⟩;obtain⟨bh,bT,bV,aj,aX,fF⟩:=aq.holds c _ H;have aX:bT=[]:=aX;subst aX;obtain⟨bN,aW⟩:=aq.hP (w':=w) (ch:=.aG (mJ J0)) H (cK.refl _ _) fun I ba=>⟨[],fun _ _=>False,⟨.nil,fun _ _=>⟨rfl,rfl,fun _ h=>h⟩,fun _ _ h=>av5,fun _ _ _ h=>av5,fun _ _ _ _ h=>h.elim⟩,fun b=>by rw[bh];simp,fun _ h=>h,[],bV,aj,rfl,fF⟩
 exact⟨hn,J,ρ,F,bN,au.mono aW fun _ _ _=>rfl⟩
end
end
section
def bf.ch (ch:bb) (h: ∀c,ch.has c=false):bf where
 R:=fun I F w p=>Holds (fun _=>p) I F w p ch
 cj:=fun I F w I' w' p bk V bh aR=>Holds.cj V bh aR ch (fun c H=>absurd H (by rw[h c];decide)) bk
theorem bf.QF {ch:bb} (h: ∀c,ch.has c=false) {ρ:Nat->bn} {I F:Nat->Prop} {w:World} {p:bn} (bk:Holds ρ I F w p ch):(bf.ch ch h).R I F w p:=
 Holds.cj (ce.refl _ _) (fun _ _=>rfl) (ap0 _) ch (fun c H=>absurd H (by rw[h c];decide)) bk
section
variable {P:Program} {ids:ay5} {K:aY} {B:aw}
theorem iY {o:Oper} {x:Operand} {b:Nat} (ah:o.op= .nilCheck x) (hx:a6 K x= .c (.one (.d (.aL (some b))))) (N:Nat):bB P N ids o K B (.c (.one (.d (.aL (some b))))) ⟨[],[],[]⟩:=by
 have az:x∈o.op.operands:=av2
 refine bB.val fun K' B' g1 g2 C ρ F a w aq au=>?_
 have ay:a.eval x= .pointer (some ⟨b,0,none⟩):=au.ev ((g1 x az).trans hx);exact⟨.pointer (some ⟨b,0,none⟩),by simp[execOp,ah,ay],rfl⟩
theorem ja {o:Oper} {T:TypeId} {x:Operand} {f b off:Nat} {fs:Array Field} {jG:Field} (ah:o.op= .fieldAddr T x f) (cd:P.underlying T=some (.struct fs)) (uf:fs[f]? =some jG) (Ca:jG.offset=off) {i:TypeInfo} (aH:P.info? jG.type=some i) (cM:i.size≠0) (hx:a6 K x= .c (.one (.d (.aL (some b))))) (N:Nat):
  bB P N ids o K B (.c (.one (.bJ (.pointer (some ⟨b,off,none⟩))))) ⟨[],[],[]⟩:=by
 have az:x∈o.op.operands:=av2
 refine bB.val fun K' B' g1 g2 C ρ F a w aq au=>?_
 have ay:a.eval x= .pointer (some ⟨b,0,none⟩):=au.ev ((g1 x az).trans hx);have h:=EB ay ah cd uf Ca aH cM (w:=w);rw[Nat.zero_add] at h;exact⟨.pointer (some ⟨b,off,none⟩),h,rfl⟩
theorem acj {I:Nat->Prop} {w:World} {L:List (Nat×bf)} {F:Nat->Prop} {b:Nat} {l:List bC} {h: ∀c,(bb.cells l).has c=false} (bm:fc I w L F) (cY:eg L b=some (bf.ch (.cells l) h)) {j:Nat} {x:D} (Z:l[j]? =some (.d x)): ∃v,w.cell? ⟨b,j,none⟩=some v/\gF I w x v:=by
 obtain⟨ct,cJ,p,ci,cN,ec,eG,uA⟩:=bm.out cY;obtain⟨E,aE,eS,G,aj⟩:=eG;obtain⟨v,ay,J⟩:=b'.get _ _ aj j _ Z;rw[ec] at G;exact⟨v,oF G ay,J⟩
theorem k9 {o:Oper} {T:TypeId} {x:Operand} {q b j:Nat} {y:D} {L:List (Nat×bf)} {l:List bC} {h: ∀c,(bb.cells l).has c=false} {d:TypeDesc} (ah:o.op= .load T x) (cd:P.underlying T=some d) (J:d.isRow=false) (hx:a6 K x= .c (.one (.bJ (.pointer (some ⟨b,j,none⟩)))))
  (aT:ag B q=some (.aG (.bA L))) (cY:eg L b=some (bf.ch (.cells l) h)) (Z:l[j]? =some (.d y)) (N:Nat):bB P N ids o K B (.c (.one (.d y))) ⟨[q],[],[]⟩:=by
 have az:x∈o.op.operands:=av2
 refine bB.val fun K' B' g1 g2 C ρ F a w aq au=>?_
 have bm:fc (bZ C B' F w) w L (F q):=aq.holds q _ ((g2 q au7).trans aT);have ay:a.eval x= .pointer (some ⟨b,j,none⟩):=au.ev ((g1 x az).trans hx);obtain⟨v,E,G⟩:=acj bm cY Z;exact⟨v,Ez ah ay cd J E,G⟩
theorem zC {o:Oper} {T:TypeId} {x v:Operand} {q b j:Nat} {y:D} {L:List (Nat×bf)} {l:List bC} {h: ∀c,(bb.cells l).has c=false} {h': ∀c,(bb.cells (l.set j (.d y))).has c=false} {i:TypeInfo} (ah:o.op= .store T x v) (aH:P.info? T=some i) (aR:i.size=1) (hx:a6 K x= .c (.one (.bJ (.pointer (some ⟨b,j,none⟩)))))
  (ay:a6 K v= .c (.one (.d y))) (aT:ag B q=some (.aG (.bA L))) (cY:eg L b=some (bf.ch (.cells l) h)) (Z:j < l.length) (E: ∀{I:Nat->Prop} {w:World} {aC:Value},gF I w y aC->aC.cells=List.toArray [aC]/\aC.oneCell'=true) (N:Nat):
  bB P N ids o K B .undef ⟨[q],[],[(q,some (.aG (.bA (e4 L b (bf.ch (.cells (l.set j (.d y))) h')))))]⟩:=by
 have m1:x∈o.op.operands:=av2
 have m2:v∈o.op.operands:=av2
 refine bB.hP aT fun K' B' g1 C ρ F a w aq au Fj=>?_
 have bm:fc (bZ C B' F w) w L (F q):=aq.holds q _ Fj;obtain⟨ct,cJ,p,ci,cN,ec,eG,uA⟩:=bm.out cY;obtain⟨cC,aE,eS,cG,hF⟩:=eG;have ai:a.eval x= .pointer (some ⟨b,j,none⟩):=au.ev ((g1 x m1).trans hx);have ao:gF (bZ C B' F w) w y (a.eval v):=au.ev ((g1 v m2).trans ay);obtain⟨hB,iB⟩:=E ao;have b6:aE.length=l.length:=b'.length _ _ hF;rw[ec] at cG;have dO:=Bi (P:=P) (o:=o) (ev:=a.eval) (w:=w) (us:=[a.eval v]) ah ai hB aH aR cG av9 (fun aC aR=>by rw[aq2] at aR;rw[aR];exact iB);have gO:(w.setRow b (List.toArray (aE.take j++[a.eval v]++aE.drop (j+ [a.eval v].length)))).heap[b]? =some (.cells (List.toArray (aE.take j++[a.eval v]++aE.drop (j+ [a.eval v].length))) eS (0,0)):=setRow_heap w _ _ _ eS _ cG;have gQ:ct b:=(cC b).2 ec.symm;have p9:F q b:=(ci b).2 (.inl gQ);refine⟨_,dO,⟨rfl,rfl,rfl,by simp[World.setRow],fun k _ ab=>setRow_other w _ k _ (fun e=>ab (e▸p9))⟩,fun I aW=>?_⟩
 have dt: ∀(l:List bC) (aE:List Value) (j:Nat),j < l.length->b' (fun _=>p) (bZ C B' F w) w l aE->b' (fun _=>p) (bZ C B' F w) w (l.set j (.d y)) (aE.take j++[a.eval v]++aE.drop (j+1)):=fun l=>by
  induction l with
  |nil=>intro aE j Z;simp at Z
  |cons s l br=>
   rintro _ j Z ⟨u,r,rfl,cx,cA⟩
   match j with
   |0=>exact⟨a.eval v,r,au7,ao,cA⟩
   |j+1=>exact⟨u,_,rfl,cx,br r j aw4 cA⟩
 have tr:(fun aC=>ct aC\/cJ aC)=F q:=funext fun aC=>propext (ci aC).symm
 rw[<-tr]
 exact uA I _ (bf.ch (.cells (l.set j (.d y))) h') ct p aW (by simp[World.setRow]) (fun aC aR=>setRow_other w _ aC _ (fun e=>cN b gQ (e▸aR))) ec
  ⟨cC,_,eS,by rw[ec];exact gO,b'.mono aW _ _ (fun _ _=>rfl) (dt l aE j Z hF)⟩ cN
theorem ack {o:Oper} {T kt et:TypeId} {x i v:Operand} {c d q:Nat} (ah:o.op= .mapUpdate T x i v) (cd:P.underlying T=some (.map kt et)) {dk:TypeDesc} (j3:P.underlying kt=some dk) {aI:bx} (jK:m0 aI dk=true)
  (hx:a6 K x= .c (.one (.mp c))) {key:aa aI} (ab:w9 aI (a6 K i)=some key) (ay:a6 K v= .c (.one (.ptr d 0))) {es:List (aa aI×aa .aL)} {L:List (Nat×bf)} {l:List bC} {h: ∀c,(bb.cells l).has c=false} (H:ag B c=some (.map aI .aL es)) (J:ag B d=some (.cells l)) (aT:ag B q=some (.aG (.bA L)))
  (sj:c≠d) (Ft:c≠q) (QG:d≠q) (ha: ∀p∈L,p.2.oS):
  xv P ids o K B (fun cW e=> ∃b:Nat,b∉L.map (·.1)/\cW= .undef/\e=⟨[c,d,q],[],[(d,none),(c,some (.map aI .aL (dr (aI:=aI) (aK:=.aL) es key (some b)))),(q,some (.aG (.bA ((b,bf.ch (.cells l) h)::L))))]⟩):=by
 rintro N C a w ⟨hn,l7,ρ,F,aq,au⟩ bw fE Q di;obtain⟨mA,bT,bV,aX,bH,fF⟩:=aq.holds c _ H;have Cb:=aq.holds d _ J;have bm:fc (bZ C B F w) w L (F q):=aq.holds q _ aT;have ai:=au.mp hx;have ao:a.eval i=gG aI key:=Bo ab (au.ev rfl);have bl:a.eval v= .pointer (some ⟨(ρ d).bj,0,none⟩):=au.ev ay
 have c2:jk (bZ C B F w) w .aL (some (ρ d).bj:aa .aL) (a.eval v):=by
  rw[bl];exact⟨rfl,⟨fun _=>rfl,fun h=>by cases h⟩,rfl⟩
 obtain⟨en,jD,aF,gl,p6⟩:=A9 (P:=P) cd j3 jK aX bH fF key c2;have ra:=(Array.getElem?_eq_some_iff.1 aX).1;have acl:F d (ρ d).bj:=(Cb.1 _).2 rfl;have Fu:(ρ d).bj∉L.map (·.1):=fun O=>aq.e' d q _ _ _ J aT QG acl (JQ ha bm O)
 have uF: ∀y,y≠(ρ c).bj->({w with heap:=w.heap.setIfInBounds (ρ c).bj (.map (List.toArray en) jD)}:World).heap[y]? =w.heap[y]? :=fun y aB=>Array.getElem?_setIfInBounds_ne (Ne.symm aB)
 have zD:F c (ρ c).bj:=(mA _).2 rfl;have xg: ∀y,F d y->y≠(ρ c).bj:=fun y aB e=>aq.e' d c _ _ y J H (Ne.symm sj) aB (e▸zD)
 have acm: ∀y,F q y->y≠(ρ c).bj:=fun y aB e=>aq.e' q c _ _ y aT H (Ne.symm Ft) aB (e▸zD)
 have B9:(execOp a.eval o).run P w= .ok .skip {w with heap:=w.heap.setIfInBounds (ρ c).bj (.map (List.toArray en) jD)}:=ax3
 unfold Oper.wp;rw[B9,Oper.upon_skip]
 have uD: ∀j ch,ag ((q,bb.aG (.bA (((ρ d).bj,bf.ch (.cells l) h)::L)))::(c,.map aI .aL (dr (aI:=aI) (aK:=.aL) es key (some (ρ d).bj)))::gM B d) j=some ch->(j=c\/j=d\/j=q)->(j=q/\ch= .aG (.bA (((ρ d).bj,bf.ch (.cells l) h)::L)))\/(j=c/\ch= .map aI .aL (dr (aI:=aI) (aK:=.aL) es key (some (ρ d).bj))):=fun j ch Z az=>by
  rw[ca] at Z
  split at Z
  .rename_i e;injection Z with Z;exact .inl ⟨e.symm,Z.symm⟩
  .rename_i e;rw[ca] at Z
   split at Z
   .rename_i ao;injection Z with Z;exact .inr ⟨ao.symm,Z.symm⟩
   .rename_i ao;rcases az with az |az |az
    .exact absurd az.symm ao
    .rw[az,hl,if_pos rfl] at Z;cases Z
    .exact absurd az.symm e
 have Fv:c5 F q (fun y=>F d y\/F q y) c=F c:=dd _ _ Ft
 obtain⟨bN,aW⟩:=aq.step (B':=(q,.aG (.bA (((ρ d).bj,bf.ch (.cells l) h)::L)))::(c,.map aI .aL (dr (aI:=aI) (aK:=.aL) es key (some (ρ d).bj)))::gM B d) (ρ':=ρ) (F':=c5 F q (fun y=>F d y\/F q y)) (w':={w with heap:=w.heap.setIfInBounds (ρ c).bj (.map (List.toArray en) jD)}) (fun j=>j=c\/j=d\/j=q) (fun _=>False)
  ((ul (S:=F c) zD).mono fun y _ aB=>⟨c,_,H,.inl rfl,aB⟩)
  (fun j ch Z az=>by
   rw[ca,if_neg (fun e=>az (.inr (.inr e.symm))),ca,if_neg (fun e=>az (.inl e.symm)),hl,if_neg (fun e=>az (.inr (.inl e.symm)))] at Z;exact Z)
  (fun _ _=>rfl) (fun j az=>dd _ _ (fun e=>az (.inr (.inr e)))) (fun _ _ h=>h) (fun _ h=>h.elim) (fun _ _ _ _ _ _ h=>h)
  (fun j ch Z az aW=>by
   rcases uD j ch Z az with⟨rfl,rfl⟩ |⟨rfl,rfl⟩
   .rw[c6];exact⟨F d,F j,ρ d,fun _=>Iff.rfl,fun y aB d4=>aq.e' d j _ _ y J aT QG aB d4,rfl,(bf.ch (.cells l) h).cj _ _ _ _ _ _ (bf.QF h Cb) aW (fun y aB=>uF y (xg y aB)) au7,bm.cj aW au7 fun y aB=>uF y (acm y aB)⟩
   .rw[Fv];exact⟨mA,en,jD,by simp[ra],gl.mono aW,p6⟩)
  (fun j ch Z az y aB=>by
   rcases uD j ch Z az with⟨rfl,rfl⟩ |⟨rfl,rfl⟩
   .rw[c6] at aB;rcases aB with aB |aB
    .exact⟨by simpa using(aq.own d _ J y aB).1,.inl ⟨d,_,J,.inr (.inl rfl),aB⟩⟩
    .exact⟨by simpa using(aq.own j _ aT y aB).1,.inl ⟨j,_,aT,.inr (.inr rfl),aB⟩⟩
   .rw[Fv] at aB;exact⟨by simpa using(aq.own j _ H y aB).1,.inl ⟨j,_,H,.inl rfl,aB⟩⟩)
  (fun j q7 ch ch' y Z kj az gl a2 aB d4=>by
   rcases uD j ch Z az with⟨rfl,rfl⟩ |⟨rfl,rfl⟩ <;>rcases uD q7 ch' kj gl with⟨rfl,rfl⟩ |⟨rfl,rfl⟩
   .exact a2 rfl
   .rw[c6] at aB;rw[Fv] at d4;rcases aB with aB |aB
    .exact aq.e' d q7 _ _ y J H (Ne.symm sj) aB d4
    .exact aq.e' j q7 _ _ y aT H (Ne.symm Ft) aB d4
   .rw[c6] at d4;rw[Fv] at aB;rcases d4 with d4 |d4
    .exact aq.e' d j _ _ y J H (Ne.symm sj) d4 aB
    .exact aq.e' q7 j _ _ y aT H (Ne.symm Ft) d4 aB
   .exact a2 rfl)
 exact di _ _ _ _ ⟨_,Fu,rfl,rfl⟩ ⟨kf.trans hn,kg.trans l7,ρ,_,bN,(au.mono aW fun _ _ _=>rfl).kh (fun e V=>by rw[hn];exact bw e V) rfl⟩
end
end
section
def e6 (b:Nat) (q:bn):bf where
 R:=fun I F w p=>q.bj=b/\ ∀x,¬F x
 cj:=fun _ _ _ _ _ _ h _ _ _=>h
def jL (ch:bb):Prop:= ∀(ρ ρ':Nat->bn) (I F:Nat->Prop) (w:World) (p jX:bn),(∀c,ch.has c=true->(ρ' c).bj=(ρ c).bj)->jX.bj=p.bj->Holds ρ I F w p ch->Holds ρ' I F w jX ch
def J1:bC->Bool
 | .own _=>false
 | .os _ _ _ _=>false
 |_=>true
theorem hO.bj {ρ ρ':Nat->bn} {I:Nat->Prop} {w:World}: ∀(l:List kH) (aE:List Value),(∀c,l0 c l=true->(ρ' c).bj=(ρ c).bj)->hO ρ I w l aE->hO ρ' I w l aE
 | [],_,_,h=>h
 | .p b o::l,_,dl,⟨v,r,e,E,G⟩=>⟨v,r,e,(by have e:=dl b (by simp[l0]);simp only[wZ] at*;rw[e];exact E),hO.bj l r (fun c H=>dl c (by simp[l0,H])) G⟩
 | .d x::l,_,dl,⟨v,r,e,E,G⟩=>⟨v,r,e,E,hO.bj l r (fun c H=>dl c (by simpa[l0] using H)) G⟩
theorem dU.bj {ρ ρ':Nat->bn} {I:Nat->Prop} {w:World} (s:bC) (v:Value) (O:J1 s=true) (dl: ∀c,s.has c=true->(ρ' c).bj=(ρ c).bj) (h:dU ρ I w s v):dU ρ' I w s v:=by
 cases s with
 |ptr c off=>
  have e:=dl c aw8;simp only[dU] at*;rw[e];exact h
 |f2 c s i off=>
  have e:=dl c aw8;simp only[dU] at*;rw[e];exact h
 |mp c=>
  have e:=dl c aw8;simp only[dU] at*;rw[e];exact h
 |cU f l=>obtain⟨aE,e,h⟩:=h;exact⟨aE,e,hO.bj l aE dl h⟩
 |own c=>cases O
 |os c s off n=>cases O
 |d x=>exact h
 |el u x off=>exact h
 |dD=>exact h
 |bJ u=>exact h
 |any=>trivial
theorem b'.bj {ρ ρ':Nat->bn} {I:Nat->Prop} {w:World}: ∀(l:List bC) (aE:List Value),l.all J1=true->(∀c,mr c l=true->(ρ' c).bj=(ρ c).bj)->b' ρ I w l aE->b' ρ' I w l aE
 | [],_,_,_,h=>h
 |s::l,_,O,dl,⟨v,r,e,E,G⟩=>by
  rw[List.all_cons,vj] at O;exact⟨v,r,e,dU.bj s v O.1 (fun c H=>dl c (by simp[mr,H])) E,b'.bj l r O.2 (fun c H=>dl c (by simp[mr,H])) G⟩
theorem jL.cells {l:List bC} (O:l.all J1=true):jL (.cells l):=by
 rintro ρ ρ' I F w p jX dl af ⟨E,aE,T,G,aj⟩;exact⟨fun b=>by rw[af];exact E b,aE,T,by rw[af];exact G,b'.bj l aE O dl aj⟩
theorem jL.map {aI aK:bx} {es:List (aa aI×aa aK)}:jL (.map aI aK es):=by
 rintro ρ ρ' I F w p jX dl af ⟨E,bT,bV,G,aj,aX⟩;exact⟨fun b=>by rw[af];exact E b,bT,bV,by rw[af];exact G,aj,aX⟩
theorem jL.bA {L:List (Nat×bf)}:jL (.aG (.bA L)):=fun _ _ _ _ _ _ _ _ _ h=>h
theorem jL.iX {c:Nat} {bo:aw} (h: ∀d ch,ag bo d=some ch->jL ch):jL (.aG (.iX c bo)):=by
 rintro ms sh I F w p jX _ af ⟨ρ,b8,E,G,aj,aX⟩
 have O: ∀d,(c5 ρ c jX d).bj=(ρ d).bj:=fun d=>by
  by_cases e:d=c
  .subst e;rw[c6,af,E]
  .rw[dd _ _ e]
 exact⟨c5 ρ c jX,b8,c6 ..,fun d ch J=>h d ch J ρ (c5 ρ c jX) _ _ _ (ρ d) (c5 ρ c jX d) (fun e _=>O e) (O d) (G d ch J),aj,aX⟩
def Fw:aw->Prop
 | []=>True
 |(_,ch)::bo=>jL ch/\Fw bo
theorem Cc: ∀{bo:aw},Fw bo-> ∀d ch,ag bo d=some ch->jL ch
 | [],_,d,ch,J=>by cases J
 |(e,x)::bo,h,d,ch,J=>by
  rw[ca] at J
  split at J
  .injection J with J;subst J;exact h.1
  .exact Cc h.2 d ch J
def Fx (bo:aw) (bs:Nat->Nat) (I F:Nat->Prop) (w:World):Prop:=
 ∃(ρ:Nat->bn) (b8:Nat->Nat->Prop),(∀d ch,ag bo d=some ch->(ρ d).bj=bs d)/\(∀d ch,ag bo d=some ch->Holds ρ I (b8 d) w (ρ d) ch)/\
  (∀d c1 ch ch' b,ag bo d=some ch->ag bo c1=some ch'->d≠c1->b8 d b-> ¬b8 c1 b)/\ ∀b,F b↔ ∃d ch,ag bo d=some ch/\b8 d b
def bf.m8 (bo:aw) (bs:Nat->Nat):bf where
 R:=fun I F w _=>Fx bo bs I F w
 cj:=fun I F w I' w' p ⟨ρ,b8,av,G,aj,aX⟩ V bh aR=>⟨ρ,b8,av,fun d ch J=>Holds.cj V (fun b O=>bh b ((aX b).2 ⟨d,ch,J,O⟩)) aR ch (fun _ _=>rfl) (G d ch J),aj,aX⟩
section
variable {ids:ay5} {K:aY} {B:aw}
theorem de.mark (d m:Nat) (az:gX ids K B m=true) (a2:d≠m):de ids K B (fun _:Nat=>K) (fun b=>(m,.cn d (e6 b))::B):=by
 rintro N C a w ⟨hn,J,ρ,F,aq,au⟩;have cz:=kM az
 obtain⟨bN,aW⟩:=aq.make (ch:=.cn d (e6 (ρ d).bj)) (w':=w) az (Below.refl _ _) ⟨0,none,0,0⟩ (fun _=>False) (fun _ h=>h.elim) (fun I _ _=>by
  show(e6 (ρ d).bj (c5 ρ m _ d)).R I _ w _;rw[dd _ _ a2];exact⟨rfl,fun _ h=>h⟩)
 exact⟨(ρ d).bj,hn,J,_,_,bN,au.mono aW fun s c H=>dd _ _ (fun e=>by subst e;rw[cz.1 s] at H;cases H)⟩
theorem ae.place (d m b:Nat) (J:gX ids K B d=true) (az:gX ids K B m=true) (a2:d≠m):ae ids K B K ((m,.cn d (e6 b))::B):=by
 rintro N C a w ⟨hn,l7,ρ,F,aq,au⟩;have h2:=kM J;have jn:=kM az
 obtain⟨bN,aW⟩:=aq.step (B':=(m,.cn d (e6 b))::B) (ρ':=c5 ρ d ⟨b,none,0,0⟩) (F':=c5 F m fun _=>False) (w':=w) (fun c=>c=m\/c=d) (fun c=>c=d) (cK.refl _ _)
  (fun c ch H az=>by
   rw[ca,if_neg (fun e=>az (.inl e.symm))] at H;exact H)
  (fun c H=>dd _ _ H) (fun c H=>dd _ _ (fun e=>H (.inl e))) (fun c H e=>h2.2.2.2 (e▸H)) (fun c H=>.inr H)
  (fun c ch H _ j Z e=>by subst e;rw[h2.2.2.1 c ch H] at Z;cases Z)
  (fun c ch H az aW=>by
   rw[ca] at H
   split at H
   .rename_i e;subst e;injection H with H
    subst H;rw[c6];show(e6 b (c5 ρ d _ d)).R _ _ w _;rw[c6];exact⟨rfl,fun _ h=>h⟩
   .rename_i e;rcases az with az |az
    .exact absurd az.symm e
    .rw[az,h2.2.1] at H;cases H)
  (fun c ch H az x hx=>by
   rw[ca] at H
   split at H
   .rename_i e;subst e;rw[c6] at hx;exact hx.elim
   .rename_i e;rcases az with az |az
    .exact absurd az.symm e
    .rw[az,h2.2.1] at H;cases H)
  (fun c bX ch ch' x H cF az gl JP hx=>by
   have key: ∀c ch,ag ((m,bb.cn d (e6 b))::B) c=some ch->(c=m\/c=d)->c=m:=fun c ch H az=>by
    rcases az with az |az
    .exact az
    .rw[ca,if_neg (fun e=>a2 (az.symm.trans e.symm)),az,h2.2.1] at H
     cases H
   exact absurd ((key c ch H az).trans (key bX ch' cF gl).symm) JP)
 exact⟨hn,l7,_,_,bN,au.mono aW fun s c H=>dd _ _ (fun e=>by subst e;rw[h2.1 s] at H;cases H)⟩
def Fy (B:aw) (k' bs:Nat->Nat):aw->Prop
 | []=>True
 |(d,_)::bo=>ag B (k' d)=some (.cn d (e6 (bs d)))/\Fy B k' bs bo
theorem J2 {k' bs:Nat->Nat}: ∀{bo:aw},Fy B k' bs bo-> ∀{d ch},ag bo d=some ch->ag B (k' d)=some (.cn d (e6 (bs d)))
 | [],_,d,ch,J=>by cases J
 |(e,x)::bo,h,d,ch,J=>by
  rw[ca] at J
  split at J
  .rename_i e;subst e;exact h.1
  .exact J2 h.2 J
theorem ae.J3 (g:Nat) (bo:aw) (k' bs:Nat->Nat) (da:kK B bo) (az:Fy B k' bs bo) (a1:ag B g=none):ae ids K B K ((g,.aG (.m8 bo bs))::pw (cl bo) B):=by
 rintro N C a w ⟨hn,J,ρ,F,aq,au⟩;have al: ∀{d ch},ag bo d=some ch->ag B d=some ch:=fun {d ch} h=>kl da h
 have Fz:g∉cl bo:=fun h=>by obtain⟨ch,h⟩:=gm.1 h;rw[al h] at a1;cases a1
 have key: ∀d ch,ag ((g,bb.aG (.m8 bo bs))::pw (cl bo) B) d=some ch->(d=g\/d∈cl bo)->d=g/\ch= .aG (.m8 bo bs):=fun d ch J az=>by
  rw[ca] at J
  split at J
  .rename_i e;injection J with J;exact⟨e.symm,J.symm⟩
  .rename_i e;rcases az with az |az
   .exact absurd az.symm e
   .rw[xB,if_pos az] at J;cases J
 obtain⟨bN,aW⟩:=aq.step (B':=(g,.aG (.m8 bo bs))::pw (cl bo) B) (ρ':=ρ) (F':=c5 F g (fun x=> ∃d ch,ag bo d=some ch/\F d x)) (w':=w) (fun d=>d=g\/d∈cl bo) (fun _=>False) (cK.refl _ _)
  (fun d ch J az=>by
   rw[ca,if_neg (fun e=>az (.inl e.symm)),xB,if_neg (fun h=>az (.inr h))] at J;exact J)
  (fun _ _=>rfl) (fun d az=>dd _ _ (fun e=>az (.inl e))) (fun _ _ h=>h) (fun _ h=>h.elim) (fun _ _ _ _ _ _ h=>h)
  (fun d ch J gl aW=>by
   obtain⟨rfl,rfl⟩:=key d ch J gl;rw[c6];refine⟨ρ,F,fun d ch h=>?_,fun d ch h=>Holds.cj aW (fun _ _=>rfl) (ap0 _) ch (fun _ _=>rfl) (aq.holds d ch (al h)),fun d c1 ch ch' b h h' a2=>aq.e' d c1 ch ch' b (al h) (al h') a2,fun b=>Iff.rfl⟩;exact(aq.holds _ _ (J2 az h)).1)
  (fun d ch J gl x hx=>by
   obtain⟨rfl,rfl⟩:=key d ch J gl;rw[c6] at hx;obtain⟨c1,ch',E,G⟩:=hx;exact⟨(aq.own c1 ch' (al E) x G).1,.inl ⟨c1,ch',al E,.inr (gm.2 ⟨ch',E⟩),G⟩⟩)
  (fun d c1 ch ch' x J dK acn wb a2=>absurd ((key d ch J acn).1.trans (key c1 ch' dK wb).1.symm) a2)
 exact⟨hn,J,ρ,_,bN,au.mono aW fun _ _ _=>rfl⟩
theorem ae.J4 (g:Nat) (bo:aw) (k' bs:Nat->Nat) (a1:ag B g=some (.aG (.m8 bo bs))) (az:Fy B k' bs bo) (ab:((cl bo).all fun d=>(ag B d).isNone)=true) (ha:vL (cl bo) bo=true) (xh: ∀d ch,ag bo d=some ch->jL ch):ae ids K B K (bo++gM B g):=by
 rintro N C a w ⟨hn,J,ρ,F,aq,au⟩;obtain⟨zE,b8,E,G,aj,aX⟩:Fx bo bs (bZ C B F w) (F g) w:=aq.holds g _ a1
 have zB: ∀{d ch},ag bo d=some ch->ag B d=none:=fun {d ch} h=>by
  have:=ar4.1 ab d (gm.2 ⟨ch,h⟩);simpa using this
 have Fz:ag bo g=none:=by
  cases e:ag bo g with
  |none=>rfl
  |some ch=>rw[zB e] at a1;cases a1
 have jH: ∀{d ch},ag bo d=some ch->(ρ d).bj=(zE d).bj:=fun {d ch} h=>((aq.holds _ _ (J2 az h)).1:(ρ d).bj=bs d).trans (E d ch h).symm
 have l5: ∀d ch,ag (bo++gM B g) d=some ch->ag bo d=some ch\/(ag bo d=none/\d≠g/\ag B d=some ch):=fun d ch h=>by
  rw[iF] at h
  cases e:ag bo d with
  |some x=>rw[e] at h;exact .inl h
  |none=>
   rw[e,hl] at h;simp only at h
   split at h
   .cases h
   .rename_i a2;exact .inr ⟨rfl,fun e=>a2 e.symm,h⟩
 let cJ:Nat->Nat->Prop:=fun d=>if(ag bo d).isSome=true then b8 d else F d
 have ai: ∀{d ch},ag bo d=some ch->cJ d=b8 d:=fun {d ch} h=>if_pos (by rw[h];rfl)
 have ao: ∀{d},ag bo d=none->cJ d=F d:=fun {d} h=>if_neg (by rw[h];decide)
 obtain⟨bN,aW⟩:=aq.step (B':=bo++gM B g) (ρ':=ρ) (F':=cJ) (w':=w) (fun d=>d=g\/(ag bo d).isSome=true) (fun _=>False) (cK.refl _ _)
  (fun d ch J az=>by
   rcases l5 d ch J with h |⟨_,_,h⟩
   .exact absurd (.inr (by rw[h];rfl)) az
   .exact h)
  (fun _ _=>rfl) (fun d az=>ao (by cases e:ag bo d with
   |none=>rfl
   |some x=>exact absurd (.inr (by rw[e];rfl)) az)) (fun _ _ h=>h) (fun _ h=>h.elim) (fun _ _ _ _ _ _ h=>h)
  (fun d ch J az aW=>by
   rcases l5 d ch J with h |⟨h,a2,h'⟩
   .rw[ai h];refine xh d ch h zE ρ _ _ w (zE d) (ρ d) (fun c H=>?_) (jH h) (Holds.cj aW (fun _ _=>rfl) (ap0 _) ch (fun _ _=>rfl) (G d ch h));have:=bb.kn (xn ha h) H;obtain⟨ch',h'⟩:=gm.1 this;exact jH h'
   .rcases az with az |az
    .exact absurd az a2
    .rw[h] at az;cases az)
  (fun d ch J az x hx=>by
   rcases l5 d ch J with h |⟨h,a2,h'⟩
   .rw[ai h] at hx;have:F g x:=(aX x).2 ⟨d,ch,h,hx⟩;exact⟨(aq.own g _ a1 x this).1,.inl ⟨g,_,a1,.inl rfl,this⟩⟩
   .rcases az with az |az
    .exact absurd az a2
    .rw[h] at az;cases az)
  (fun d c1 ch ch' x J dK az gl a2 hx dE=>by
   rcases l5 d ch J with h |⟨h,hn,_⟩
   .rcases l5 c1 ch' dK with h' |⟨h',uG,_⟩
    .rw[ai h] at hx;rw[ai h'] at dE;exact aj d c1 ch ch' x h h' a2 hx dE
    .rcases gl with gl |gl
     .exact absurd gl uG
     .rw[h'] at gl;cases gl
   .rcases az with az |az
    .exact absurd az hn
    .rw[h] at az;cases az)
 exact⟨hn,J,ρ,_,bN,au.mono aW fun _ _ _=>rfl⟩
def bf.px (am:Nat) (o:bf) (q:bn):bf where
 R:=fun I F w p=>q.bj=am/\o.R I F w p
 cj:=fun I F w I' w' p h V bh aR=>⟨h.1,o.cj I F w I' w' p h.2 V bh aR⟩
theorem ae.px (g c am:Nat) {o sl:bf} (a1:ag B g=some (.aG o)) (H:ag B c=some (.aG (sl.at am))) (a2:g≠c):ae ids K B K ((c,.aG sl)::(g,.cn c (.px am o))::B):=by
 rintro N C a w ⟨hn,J,ρ,F,aq,au⟩;have aH:(ρ c).bj=am:=(aq.holds c _ H).1;obtain⟨km,m9⟩:=aq.hP (w':=w) (ch:=.cn c (.px am o)) a1 (cK.refl _ _) fun I ba=>⟨aH,o.cj _ _ _ _ _ _ (aq.holds g _ a1) ba (fun _ _=>rfl) (ap0 _)⟩
 have dP:ag ((g,bb.cn c (.px am o))::B) c=some (.aG (sl.at am)):=by rw[ca,if_neg a2];exact H
 obtain⟨iN,ur⟩:=km.hP (w':=w) (ch:=.aG sl) dP (cK.refl _ _) fun I ba=>sl.cj _ _ _ _ _ _ (km.holds c _ dP).2 ba (fun _ _=>rfl) (ap0 _)
 exact⟨hn,J,ρ,F,iN,au.mono (m9.trans ur) fun _ _ _=>rfl⟩
theorem ae.aco (g c am:Nat) {o sl:bf} (a1:ag B g=some (.cn c (.px am o))) (H:ag B c=some (.aG sl)) (a2:g≠c):ae ids K B K ((c,.aG (sl.at am))::(g,.aG o)::B):=by
 rintro N C a w ⟨hn,J,ρ,F,aq,au⟩;have bk:(bf.px am o (ρ c)).R (bZ C B F w) (F g) w (ρ g):=aq.holds g _ a1;obtain⟨km,m9⟩:=aq.hP (w':=w) (ch:=.aG o) a1 (cK.refl _ _) fun I ba=>o.cj _ _ _ _ _ _ bk.2 ba (fun _ _=>rfl) (ap0 _)
 have dP:ag ((g,bb.aG o)::B) c=some (.aG sl):=by rw[ca,if_neg a2];exact H
 obtain⟨iN,ur⟩:=km.hP (w':=w) (ch:=.aG (sl.at am)) dP (cK.refl _ _) fun I ba=>⟨bk.1,sl.cj _ _ _ _ _ _ (km.holds c _ dP) ba (fun _ _=>rfl) (ap0 _)⟩
 exact⟨hn,J,ρ,F,iN,au.mono (m9.trans ur) fun _ _ _=>rfl⟩
theorem ae.acp (g c m am:Nat) {o:bf} (a1:ag B g=some (.cn c (.px am o))) (az:gX ids K B m=true) (a2:c≠m):ae ids K B K ((m,.cn c (e6 am))::B):=by
 rintro N C a w ⟨hn,J,ρ,F,aq,au⟩;have cz:=kM az;have bk:(bf.px am o (ρ c)).R (bZ C B F w) (F g) w (ρ g):=aq.holds g _ a1
 obtain⟨bN,aW⟩:=aq.make (ch:=.cn c (e6 am)) (w':=w) az (Below.refl _ _) ⟨0,none,0,0⟩ (fun _=>False) (fun _ h=>h.elim) (fun I _ _=>by
  show(e6 am (c5 ρ m _ c)).R I _ w _;rw[dd _ _ a2];exact⟨bk.1,fun _ h=>h⟩)
 exact⟨hn,J,_,_,bN,au.mono aW fun s c H=>dd _ _ (fun e=>by subst e;rw[cz.1 s] at H;cases H)⟩
theorem ae.eU (g c am:Nat) {o:bf} (a1:ag B g=some (.cn c (.px am o))):ae ids K B K ((g,.aG o)::B):=by
 rintro N C a w ⟨hn,J,ρ,F,aq,au⟩;have bk:(bf.px am o (ρ c)).R (bZ C B F w) (F g) w (ρ g):=aq.holds g _ a1;obtain⟨km,m9⟩:=aq.hP (w':=w) (ch:=.aG o) a1 (cK.refl _ _) fun I ba=>o.cj _ _ _ _ _ _ bk.2 ba (fun _ _=>rfl) (ap0 _)
 exact⟨hn,J,ρ,F,km,au.mono m9 fun _ _ _=>rfl⟩
theorem ae.acq (g c m am:Nat) {o:bf} (a1:ag B g=some (.aG o)) (az:ag B m=some (.cn c (e6 am))):ae ids K B K ((g,.cn c (.px am o))::B):=by
 rintro N C a w ⟨hn,J,ρ,F,aq,au⟩;have aH:(ρ c).bj=am:=(aq.holds m _ az).1;obtain⟨km,m9⟩:=aq.hP (w':=w) (ch:=.cn c (.px am o)) a1 (cK.refl _ _) fun I ba=>⟨aH,o.cj _ _ _ _ _ _ (aq.holds g _ a1) ba (fun _ _=>rfl) (ap0 _)⟩
 exact⟨hn,J,ρ,F,km,au.mono m9 fun _ _ _=>rfl⟩
theorem ae.acr (c b:Nat) {o:bf} (H:ag B c=some (.aG (o.at b))):ae ids K B K ((c,.aG o)::B):=by
 rintro N C a w ⟨hn,J,ρ,F,aq,au⟩;obtain⟨km,m9⟩:=aq.hP (w':=w) (ch:=.aG o) H (cK.refl _ _) fun I ba=>o.cj _ _ _ _ _ _ (aq.holds c _ H).2 ba (fun _ _=>rfl) (ap0 _)
 exact⟨hn,J,ρ,F,km,au.mono m9 fun _ _ _=>rfl⟩
theorem py {N:Nat} {C:e9} {a:Act} {w:World} {ρ:Nat->bn} {F:Nat->Nat->Prop} (aq:Mem ids C B ρ F w) {m d b:Nat} (az:ag B m=some (.cn d (e6 b))):(ρ d).bj=b:=(aq.holds m _ az).1
theorem ae.FA (s d m b:Nat) (ax:dA K s= .c (.one (.ptr d 0))) (az:ag B m=some (.cn d (e6 b))):ae ids K B ((s,.c (.one (.d (.aL (some b)))))::K) B:=by
 rintro N C a w ⟨hn,J,ρ,F,aq,au⟩;refine⟨hn,J,ρ,F,aq,fun t=>?_⟩;rw[ke]
 split
 .rename_i e;subst e;have h:=au s;rw[ax] at h;have e:=py (N:=N) (a:=a) aq az;rw[<-e];exact h
 .exact au t
theorem ae.J5 (s d m b:Nat) (ax:dA K s= .c (.one (.d (.aL (some b))))) (az:ag B m=some (.cn d (e6 b))):ae ids K B ((s,.c (.one (.ptr d 0)))::K) B:=by
 rintro N C a w ⟨hn,J,ρ,F,aq,au⟩;refine⟨hn,J,ρ,F,aq,fun t=>?_⟩;rw[ke]
 split
 .rename_i e;subst e;have h:=au s;rw[ax] at h;have e:=py (N:=N) (a:=a) aq az;rw[<-e] at h;exact h
 .exact au t
theorem ae.QH (s d b:Nat) {o:bf} (ax:dA K s= .c (.one (.d (.aL (some b))))) (J:ag B d=some (.aG (o.at b))):ae ids K B ((s,.c (.one (.ptr d 0)))::K) B:=by
 rintro N C a w ⟨hn,l7,ρ,F,aq,au⟩;refine⟨hn,l7,ρ,F,aq,fun t=>?_⟩;rw[ke]
 split
 .rename_i e;subst e;have h:=au s;rw[ax] at h;have e:(ρ d).bj=b:=(aq.holds d _ J).1;rw[<-e] at h;exact h
 .exact au t
theorem ae.acs (s f hB iB m1 m2 b1 b2:Nat) (ax:dA K s= .c (.one (.cU f [.p hB 0,.p iB 0]))) (E:ag B m1=some (.cn hB (e6 b1))) (G:ag B m2=some (.cn iB (e6 b2))):ae ids K B ((s,.c (.one (.d (.fn (f,[b1,b2])))))::K) B:=by
 rintro N C a w ⟨hn,J,ρ,F,aq,au⟩;refine⟨hn,J,ρ,F,aq,fun t=>?_⟩;rw[ke]
 split
 .rename_i e;subst e;have h:=au s;rw[ax] at h;obtain⟨aE,e,kJ,r1,ai,g1,v2,r2,ao,g2,cZ⟩:=h;have ci:=py (N:=N) (a:=a) aq E;have cN:=py (N:=N) (a:=a) aq G;have g1:kJ= .pointer (some ⟨(ρ hB).bj,0,none⟩):=g1;have g2:v2= .pointer (some ⟨(ρ iB).bj,0,none⟩):=g2;have cZ:r2=[]:=cZ;show a.tmps.getD s undef=mq (f,[b1,b2]);rw[e,ai,ao,g1,g2,cZ,ci,cN];rfl
 .exact au t
end
end
section
section
variable {P:Program} {ids:ay5} {K:aY} {B:aw} {o:Oper}
abbrev Cd (T b:Nat):aP:=.c (.one (.bJ (.iface T (.pointer (some ⟨b,0,none⟩)))))
abbrev QI:aP:=.c (.one (.bJ .nilIface))
theorem acu {T e f:Nat} {name:String} {c7:TypeInfo} {m:Method} {p:Value} {w:World} {fuel:Nat} (aH:P.info? T=some c7) (az:c7.methods.find? (·.name == name)=some m) (af:m.path= #[]) (j0:m.func=some (f,true)) (a7:P.underlying T=some (.pointer e)):
  (Go.method (fuel+1) T p name).run P w= .ok (f,p) w:=by
 unfold Go.method;simp[typeInfo,aH,az,af,j0,Go.follow,Go.receiverAt,underlying,a7,Place.get,go_sem]
theorem FB {x:Operand} {T e b:Nat} (ah:o.op= .makeInterface T x) (a7:P.underlying T=some (.pointer e)) (hx:a6 K x= .c (.one (.d (.aL (some b))))) (N:Nat):bB P N ids o K B (Cd T b) ⟨[],[],[]⟩:=by
 have m1:x∈o.op.operands:=av2
 refine bB.val fun K' B' g1 g2 C ρ F a w aq au=>?_
 have ai:a.eval x= .pointer (some ⟨b,0,none⟩):=au.ev ((g1 x m1).trans hx);refine⟨.iface T (.pointer (some ⟨b,0,none⟩)),?_,rfl⟩;simp only[execOp,ah,ai];simp[Instr.makeInterface,underlying,a7,go_sem]
theorem QJ {T:Nat} {k':Array (String×TypeId)} {v:Value} {w:World} (a7:P.underlying T=some (.interface k')) (bx:Nat) (d:Nat):(Op.equalIn (d+1) T (.iface bx v) .nilIface).run P w= .ok false w:=by
 unfold Op.equalIn;simp[underlying,a7,go_sem]
theorem QK {T:Nat} {k':Array (String×TypeId)} {w:World} (a7:P.underlying T=some (.interface k')) (d:Nat):(Op.equalIn (d+1) T .nilIface .nilIface).run P w= .ok true w:=by
 unfold Op.equalIn;simp[underlying,a7,go_sem]
theorem pz {x:Operand} {T fG bx b:Nat} {k':Array (String×TypeId)} (ah:o.op= .binOp .eql T x (.const .nilIface) fG) (a7:P.underlying T=some (.interface k')) (hx:a6 K x=Cd bx b) (N:Nat):bB P N ids o K B (qV false) ⟨[],[],[]⟩:=by
 have m1:x∈o.op.operands:=av2
 refine bB.val fun K' B' g1 g2 C ρ F a w aq au=>?_
 have ai:a.eval x= .iface bx (.pointer (some ⟨b,0,none⟩)):=au.ev ((g1 x m1).trans hx);refine⟨.bool false,?_,rfl⟩;simp only[execOp,ah,ai];have ao:(Op.equal T (.iface bx (.pointer (some ⟨b,0,none⟩))) .nilIface).run P w= .ok false w:=QJ a7 bx 9999;simp[eqGuard,binOp,ao,Act.eval,go_sem]
theorem FC {x:Operand} {T fG bx b:Nat} {k':Array (String×TypeId)} (ah:o.op= .binOp .neq T x (.const .nilIface) fG) (a7:P.underlying T=some (.interface k')) (hx:a6 K x=Cd bx b) (N:Nat):bB P N ids o K B (qV true) ⟨[],[],[]⟩:=by
 have m1:x∈o.op.operands:=av2
 refine bB.val fun K' B' g1 g2 C ρ F a w aq au=>?_
 have ai:a.eval x= .iface bx (.pointer (some ⟨b,0,none⟩)):=au.ev ((g1 x m1).trans hx);refine⟨.bool true,?_,rfl⟩;simp only[execOp,ah,ai];have ao:(Op.equal T (.iface bx (.pointer (some ⟨b,0,none⟩))) .nilIface).run P w= .ok false w:=QJ a7 bx 9999;simp[eqGuard,binOp,ao,Act.eval,go_sem]
theorem QL {x:Operand} {T fG:Nat} {k':Array (String×TypeId)} (ah:o.op= .binOp .eql T x (.const .nilIface) fG) (a7:P.underlying T=some (.interface k')) (hx:a6 K x=QI) (N:Nat):bB P N ids o K B (qV true) ⟨[],[],[]⟩:=by
 have m1:x∈o.op.operands:=av2
 refine bB.val fun K' B' g1 g2 C ρ F a w aq au=>?_
 have ai:a.eval x= .nilIface:=au.ev ((g1 x m1).trans hx);refine⟨.bool true,?_,rfl⟩;simp only[execOp,ah,ai];have ao:(Op.equal T .nilIface .nilIface).run P w= .ok true w:=QK a7 9999;simp[eqGuard,binOp,ao,Act.eval,go_sem]
theorem qg {x:Operand} {T fG:Nat} {k':Array (String×TypeId)} (ah:o.op= .binOp .neq T x (.const .nilIface) fG) (a7:P.underlying T=some (.interface k')) (hx:a6 K x=QI) (N:Nat):bB P N ids o K B (qV false) ⟨[],[],[]⟩:=by
 have m1:x∈o.op.operands:=av2
 refine bB.val fun K' B' g1 g2 C ρ F a w aq au=>?_
 have ai:a.eval x= .nilIface:=au.ev ((g1 x m1).trans hx);refine⟨.bool false,?_,rfl⟩;simp only[execOp,ah,ai];have ao:(Op.equal T .nilIface .nilIface).run P w= .ok true w:=QK a7 9999;simp[eqGuard,binOp,ao,Act.eval,go_sem]
theorem acv {ev:Operand->Value} {f:FuncId} {c:Call} {x:Operand} {xs:List Operand} {p:Value} {w:World} {T e:Nat} {name:String} {c7:TypeInfo} {m:Method} {fuel:Nat} (hf:jl P f=true) (ah:o.op= .call c) (E:c.callee= .invoke x name) (G:c.args.toList=xs) (um:ev x= .iface T p)
  (hn:P.types.size+Made.depth=fuel+1) (aH:P.info? T=some c7) (az:c7.methods.find? (·.name == name)=some m) (af:m.path= #[]) (j0:m.func=some (f,true)) (a7:P.underlying T=some (.pointer e)):(execOp ev o).run P w= .ok (.enter f (p::xs.map ev).toArray) w:=by
 have fu:c.args=xs.toArray:=by rw[<-G]
 have acw:=acu (w:=w) (p:=p) (fuel:=fuel) aH az af j0 a7;obtain⟨r7,args,cp⟩:=c;simp only at E fu;subst E fu;unfold jl at hf
 split at hf
 .rename_i fn acx;simp only[Bool.not_eq_true',Bool.or_eq_false_iff,beq_eq_false_iff_ne] at hf;have G: ¬fn.body=none:=fun e=>by rw[e] at hf;simp at hf
  have acy:(Go.method (P.types.size+100) T p name).run P w= .ok (f,p) w:=by rw[show P.types.size+100=fuel+1 from hn];exact acw
  simp[execOp,ah,resolve,invoke,um,callMethod,callFunc,go_sem,acx,acy];rw[if_neg hf.1,if_neg G,List.take_of_length_le (by rw[aq3];exact ap0 _)]
 .cases hf
theorem acz {f:FuncId} {c:Call} {x:Operand} {b:Nat} {xs:List Operand} {aJ:aw} {res:aP} {aO:aw} {T e:Nat} {name:String} {c7:TypeInfo} {m:Method} {fuel:Nat} (ah:o.op= .call c) (E:c.callee= .invoke x name) (G:c.args.toList=xs) (hx:a6 K x=Cd T b)
  (hn:P.types.size+Made.depth=fuel+1) (aH:P.info? T=some c7) (az:c7.methods.find? (·.name == name)=some m) (af:m.path= #[]) (j0:m.func=some (f,true)) (a7:P.underlying T=some (.pointer e))
  (hf:Fn P f (.c (.one (.d (.aL (some b))))::xs.map (a6 K)) aJ [] res aO) (hR:kK B aJ) (bu:mw aJ [] aO=true) (N:Nat):
  bB P N ids o K B res ⟨cl aJ,[],iy aJ aO⟩:=by
 have mem: ∀aC∈xs,aC∈o.op.operands:=fun aC aR=>by
  rw[ah];simp only[Op.operands,Call.operands,Array.mem_append];exact .inr (Array.mem_toList_iff.1 (by rw[G];exact aR))
 have xi:x∈o.op.operands:=by
  rw[ah];simp only[Op.operands,Call.operands,Array.mem_append,E];exact .inl au7
 obtain⟨v,e,⟨rfl,rfl⟩,aD,_⟩:cB P N ids o K B (fun v e=>v=res/\e=⟨cl aJ,[],iy aJ aO⟩):=Br (args:=.c (.one (.d (.aL (some b))))::xs.map (a6 K)) mem (fun K' ρ I a w g1 au=>by
  have e:a.eval x= .iface T (.pointer (some ⟨b,0,none⟩)):=au.ev ((g1 x xi).trans hx);refine⟨.pointer (some ⟨b,0,none⟩)::xs.map a.eval,fun fT=>acv fT ah E G e hn aH az af j0 a7,au7,fun i v x ay hx=>?_⟩
  match i with
  |0=>
   simp only[aq5,ap4] at ay hx;subst ay hx;exact rfl
  |i+1=>exact zc mem g1 au i v x aw6 ax7) ⟨aJ,[],res,aO,hf,hR,by rw[bu];rfl,by rw[rW];exact⟨rfl,rfl⟩⟩
 exact aD
end
end
section
def j4:List (Nat×bf)->Nat->List (Nat×bf)
 | [],_=>[]
 |(a,o)::L,b=>if a=b then L else(a,o)::j4 L b
theorem J6 {a b c:Prop}:(a\/b\/c)↔(b\/a\/c):=⟨fun h=>by
 rcases h with h |h |h
 .exact .inr (.inl h)
 .exact .inl h
 .exact .inr (.inr h),fun h=>by
 rcases h with h |h |h
 .exact .inr (.inl h)
 .exact .inl h
 .exact .inr (.inr h)⟩
theorem fc.k7 {I:Nat->Prop} {w:World} {b:Nat} {o:bf}: ∀{L:List (Nat×bf)} {F:Nat->Prop},eg L b=some o->fc I w L F-> ∃(ct cJ:Nat->Prop) (p:bn),(∀x,F x↔ct x\/cJ x)/\(∀x,ct x-> ¬cJ x)/\p.bj=b/\o.R I ct w p/\fc I w (j4 L b) cJ
 | [],F,h,_=>by cases h
 |(a,q)::L,F,h,⟨oP,qc,p,E,G,aj,aX,bH⟩=>by
  unfold eg at h;unfold j4
  split at h
  .rename_i e;injection h with h
   subst h;rw[if_pos e];exact⟨oP,qc,p,E,G,aj.trans e,aX,bH⟩
  .rename_i e;rw[if_neg e];obtain⟨ct,cJ,dY,g1,g2,cZ,jo,BT⟩:=fc.k7 h bH;refine⟨ct,fun x=>oP x\/cJ x,dY,fun x=>by rw[E,g1];exact J6,fun x hx aB=>?_,cZ,jo,oP,cJ,p,fun x=>Iff.rfl,fun x hx aB=>G x hx ((g1 x).2 (.inr aB)),aj,aX,BT⟩;rcases aB with aB |aB
   .exact G x aB ((g1 x).2 (.inl hx))
   .exact g2 x hx aB
theorem fc.J7 {I:Nat->Prop} {w:World} {b:Nat} {o o':bf} {ct:Nat->Prop} {p:bn} (ah:o'.R I ct w p) (af:p.bj=b): ∀{L:List (Nat×bf)} {F:Nat->Prop},eg L b=some o->fc I w (j4 L b) F->(∀x,ct x-> ¬F x)->fc I w (e4 L b o') (fun x=>ct x\/F x)
 | [],F,h,_,_=>by cases h
 |(a,q)::L,F,h,J,ep=>by
  unfold eg at h;unfold j4 at J;unfold e4
  split at h
  .rename_i e;rw[if_pos e] at J⊢;exact⟨ct,F,p,fun x=>Iff.rfl,ep,af.trans e.symm,ah,J⟩
  .rename_i e;rw[if_neg e] at J⊢;obtain⟨oP,qc,r,E,G,aj,aX,bH⟩:=J
   refine⟨oP,fun x=>ct x\/qc x,r,fun x=>by
    show(ct x\/F x)↔(oP x\/(ct x\/qc x));rw[E];exact J6,fun x hx aB=>?_,aj,aX,fc.J7 ah af h bH fun x hx aB=>ep x hx ((E x).2 (.inr aB))⟩
   rcases aB with aB |aB
   .exact ep x aB ((E x).2 (.inl hx))
   .exact G x hx aB
theorem xG {o:bf} {b:Nat}: ∀{L:List (Nat×bf)},eg L b=some o->e4 L b o=L
 | [],h=>by cases h
 |(a,q)::L,h=>by
  unfold eg at h;unfold e4
  split at h
  .rename_i e;injection h with h
   rw[if_pos e,h]
  .rename_i e;rw[if_neg e,xG h]
section
variable {ids:ay5} {K:aY} {B:aw}
theorem ae.Ce (q c b:Nat) {o:bf} {L:List (Nat×bf)} (aT:ag B q=some (.aG (.bA L))) (cY:eg L b=some o) (H:gX ids K B c=true):ae ids K B K ((c,.aG (o.at b))::(q,.aG (.bA (j4 L b)))::B):=by
 rintro N C a w ⟨hn,J,ρ,F,aq,au⟩;have f:=kM H;obtain⟨ct,cJ,p,E,G,aj,aX,bH⟩:=fc.k7 cY (aq.holds q _ aT:fc _ w L (F q))
 obtain⟨bN,aW⟩:=aq.split (K:=K) (iU:=.aG (.bA (j4 L b))) (oE:=.aG (o.at b)) aT H p cJ ct (fun x hx=>(E x).2 (.inr hx)) (fun x hx=>(E x).2 (.inl hx)) (fun x hx aB=>G x aB hx)
  (fun I ba=>bH.cj ba (ap0 _) (fun _ _=>rfl)) (fun I ba=>⟨aj,o.cj _ _ _ _ _ _ aX ba (fun _ _=>rfl) (ap0 _)⟩)
 exact⟨hn,J,_,_,bN,au.mono aW fun s d J=>dd _ _ (fun e=>by subst e;rw[f.1 s] at J;cases J)⟩
theorem ae.QM (q c b:Nat) {o o':bf} {L:List (Nat×bf)} (aT:ag B q=some (.aG (.bA (j4 L b)))) (H:ag B c=some (.aG (o'.at b))) (cY:eg L b=some o) (a2:q≠c):ae ids K B K ((q,.aG (.bA (e4 L b o')))::gM B c):=by
 rintro N C a w ⟨hn,J,ρ,F,aq,au⟩;have bm:fc (bZ C B F w) w (j4 L b) (F q):=aq.holds q _ aT;have aD:(ρ c).bj=b/\o'.R (bZ C B F w) (F c) w (ρ c):=aq.holds c _ H
 obtain⟨bN,aW⟩:=aq.Fm (w':=w) (ch:=.aG (.bA (e4 L b o'))) aT H a2 (fun x=>F c x\/F q x) (fun x hx=>hx.symm) (cK.refl _ _) fun I ba=>
  (fc.J7 aD.2 aD.1 cY bm (fun x hx aB=>aq.e' c q _ _ x H aT (Ne.symm a2) hx aB)).cj ba (ap0 _) fun _ _=>rfl
 exact⟨hn,J,ρ,_,bN,au.mono aW fun _ _ _=>rfl⟩
theorem ae.acA (q c b:Nat) {o:bf} {bo:aw} {bs:Nat->Nat} {L:List (Nat×bf)} (aT:ag B q=some (.aG (.bA (j4 L b)))) (H:ag B c=some (.aG (.m8 bo bs))) (cY:eg L b=some o) (a2:q≠c):ae ids K B K ((q,.aG (.bA (e4 L b (.m8 bo bs))))::gM B c):=by
 rintro N C a w ⟨hn,J,ρ,F,aq,au⟩;have bm:fc (bZ C B F w) w (j4 L b) (F q):=aq.holds q _ aT;have aD:Fx bo bs (bZ C B F w) (F c) w:=aq.holds c _ H
 obtain⟨bN,aW⟩:=aq.Fm (w':=w) (ch:=.aG (.bA (e4 L b (.m8 bo bs)))) aT H a2 (fun x=>F c x\/F q x) (fun x hx=>hx.symm) (cK.refl _ _) fun I ba=>
  (fc.J7 (o':=.m8 bo bs) (p:=⟨b,none,0,0⟩) aD rfl cY bm (fun x hx aB=>aq.e' c q _ _ x H aT (Ne.symm a2) hx aB)).cj ba (ap0 _) fun _ _=>rfl
 exact⟨hn,J,ρ,_,bN,au.mono aW fun _ _ _=>rfl⟩
theorem Fn.acB {P:Program} {f:FuncId} {c q am:Nat} {args:List aP} {res:aP} {bo:aw} {bs:Nat->Nat} {M:List (Nat×bf)} (h:Fn P f (.c (.one (.ptr c 0))::args) bo [] res bo) (aq:eg M am=some (.m8 bo bs)) (H:bs c=am) (Cf:(ag bo c).isSome=true) (ha:(args.all fun v=>v.iW [])=true) (aF:res.iW []=true):
  Fn P f (.c (.one (.d (.aL (some am))))::args) [(q,.aG (.bA M))] [] res [(q,.aG (.bA M))]:=by
 obtain⟨fT,h⟩:=h;refine⟨fT,fun ρ F I w bW ba cX bh ep b6 dt=>?_⟩;have aT:ag [(q,bb.aG (.bA M))] q=some (.aG (.bA M)):=aw1
 have xH: ∀{d ch},ag [(q,bb.aG (.bA M))] d=some ch->d=q/\ch= .aG (.bA M):=fun {d ch} J=>by
  rw[ca] at J
  split at J
  .rename_i e;injection J with J;exact⟨e.symm,J.symm⟩
  .cases J
 have bm:fc I w M (F q):=cX q _ aT;obtain⟨ct,cJ,p,ci,cN,ec,eG,uA⟩:=bm.out aq;obtain⟨zE,b8,g1,g2,cZ,jo⟩:Fx bo bs I ct w:=eG;have fv: ∀{v:aP},v.iW []=true-> ∀d,v.has d=true-> ∀(ρ ρ':Nat->bn),ρ' d=ρ d:=fun {v} ay d J _ _=>absurd (aP.kn ay J) List.not_mem_nil
 have J8: ∀y,(∃d ch,ag bo d=some ch/\b8 d y)-> ∃d ch,ag [(q,bb.aG (.bA M))] d=some ch/\F d y:=fun y aB=>⟨q,_,aT,(ci y).2 (.inl ((jo y).2 aB))⟩
 obtain⟨acC,sd⟩:=as7.1 Cf
 match bW,b6 with
 |v0::bW,b6=>
  have xz:v0= .pointer (some ⟨am,0,none⟩):=dt 0 _ v0 rfl rfl;refine(h zE b8 I w (v0::bW) ba g2 (fun d ch J b O=>bh q _ aT b ((ci b).2 (.inl ((jo b).2 ⟨d,ch,J,O⟩)))) cZ (by simpa using b6) ?_).mono ?_
  .intro i v x ay hx
   match i with
   |0=>
    simp only[aq5,ap4] at ay hx;subst ay hx;show v0= .pointer (some ⟨(zE c).bj,0,none⟩);rw[g1 c acC sd,H];exact xz
   |i+1=>
    have oG:args[i]? =some v:=aw6
    have:=ar4.1 ha v (List.mem_of_getElem? oG);exact cr.mono (ce.refl _ _) v x (fun d J=>fv this d J _ _) (dt (i+1) v x aw6 hx)
  .rintro e w' ⟨x,ρ',F',rfl,cz,dl,I',i5,gn,lB,aD,h3,se⟩;have jZ: ∀y,cJ y-> ¬ ∃d ch,ag bo d=some ch/\b8 d y:=fun y aB kN=>cN y ((jo y).2 kN) aB
   have sf: ∀y,cJ y->y < w.heap.size/\ ¬I y:=fun y aB=>bh q _ aT y ((ci y).2 (.inr aB))
   have mD: ∀y,cJ y->w'.heap[y]? =w.heap[y]? :=fun y aB=>cz.block y (sf y aB).1 (jZ y aB)
   have tn: ∀y,(∃d ch,ag bo d=some ch/\F' d y)-> ¬cJ y:=by
    rintro y ⟨d,ch,J,aB⟩ BV;rcases(aD d ch J y aB).2.2 with h |h
    .exact jZ y BV h
    .have:=(sf y BV).1;omega
   have oH:=uA I' w' (.m8 bo bs) (fun y=> ∃d ch,ag bo d=some ch/\F' d y) p i5 cz.size mD ec
    ⟨ρ',F',fun d ch J=>by rw[dl d List.not_mem_nil];exact g1 d ch J,lB,h3,fun b=>Iff.rfl⟩ tn
   rw[xG aq] at oH;refine⟨x,ρ,fun d=>if d=q then(fun y=>(∃d ch,ag bo d=some ch/\F' d y)\/cJ y) else F' d,rfl,cz.mono fun y _ aB=>J8 y aB,fun d _=>rfl,I',i5,fun y aB=>⟨(gn y aB).1,?_⟩,?_,?_,?_,?_⟩
   .rcases(gn y aB).2 with h |h |h
    .exact .inl h
    .exact .inr (.inl (J8 y h))
    .exact .inr (.inr h)
   .intro d ch J;obtain⟨rfl,rfl⟩:=xH J;simp only[if_true];exact oH
   .intro d ch J y aB;obtain⟨rfl,rfl⟩:=xH J;simp only[if_true] at aB;rcases aB with⟨c1,ch',dK,aB⟩ |aB
    .obtain⟨b4,cg,a3⟩:=aD c1 ch' dK y aB;exact⟨b4,cg,a3.imp (J8 y) id⟩
    .refine⟨Nat.lt_of_lt_of_le (sf y aB).1 cz.size,fun aH=>?_,.inl ⟨d,_,aT,(ci y).2 (.inr aB)⟩⟩;rcases(gn y aH).2 with h |h |h
     .exact(sf y aB).2 h
     .exact jZ y aB h
     .have:=(sf y aB).1;omega
   .intro d c1 ch ch' y J dK a2;exact absurd ((xH J).1.trans (xH dK).1.symm) a2
   .exact cr.mono (ce.refl _ _) res x (fun d J=>fv aF d J _ _) se
end
end
section
theorem cu.m' {P:Program} {f:FuncId} {c b:Nat} {args:List aP} {bo aJ:aw} {bc:ay5} {X:Type} {res:X->aP} {dv aO:X->aw} (fU:ay5) (q:Nat)
  (h:cu P f (.c (.one (.ptr c 0))::args) (bo++aJ) bc res (fun g=>dv g++aO g))
  (E:nO c fU (.c (.one (.ptr c 0))::args) bo aJ bc bc=true) (G: ∀g,nP c (mF fU bc bc) (res g) (dv g) (aO g)=true)
  (aj:(args.all fun v=> !v.has c)=true) (aX:ki c aJ=true/\(ag aJ q).isNone=true) (bH:(bc.contains c||bc.contains q)=false) (fF: ∀g,(ki c (aO g)&&(ag (aO g) q).isNone&& !(res g).has c)=true):
  cu P f (.c (.one (.d (.aL (some b))))::args) ((q,.aG (.bA [(b,.iX c bo)]))::aJ) bc res (fun g=>(q,.aG (.bA [(b,.iX c (dv g))]))::aO g):=by
 have k:=cu.close (o:=.iX c bo) (o':=fun g=>.iX c (dv g)) fU h (fun _ _ _ _ h=>h) (fun _ _ _ _ _ h=>h) E G;have cN:=cu.bA (L:=[(b,.iX c bo)]) (b:=b) (q:=q) k (if_pos rfl) aj aX bH fF;have e: ∀g,e4 [(b,bf.iX c bo)] b (bf.iX c (dv g))=[(b,.iX c (dv g))]:=fun g=>if_pos rfl
 simp only[e] at cN;exact cN
theorem Fn.m' {P:Program} {f:FuncId} {c b:Nat} {args:List aP} {bo dv:aw} {res:aP} (fU:ay5) (q:Nat)
  (h:Fn P f (.c (.one (.ptr c 0))::args) bo [] res dv)
  (E:nO c fU (.c (.one (.ptr c 0))::args) bo [] [] []=true:=by first |rfl |decide) (G:nP c (mF fU [] []) res dv []=true:=by first |rfl |decide)
  (aj:(args.all fun v=> !v.has c)=true:=by first |rfl |decide) (aX:(!res.has c)=true:=by first |rfl |decide):
  Fn P f (.c (.one (.d (.aL (some b))))::args) [(q,.aG (.bA [(b,.iX c bo)]))] [] res [(q,.aG (.bA [(b,.iX c dv)]))]:=by
 refine cu.fn (cu.m' (X:=Unit) (aJ:=[]) (aO:=fun _=>[]) (dv:=fun _=>dv) (res:=fun _=>res) fU q (by rw[as6];simp only[as6];exact h.x) E (fun _=>G) aj ⟨rfl,rfl⟩ rfl fun _=>?_);simp only[aX];rfl
def nT (b c d:Nat) (bo:aw) (q:bn):bf where
 R:=fun I F w _=> ∃(ρ:Nat->bn) (b8:Nat->Nat->Prop),(ρ c).bj=b/\ρ d=q/\(∀e ch,ag bo e=some ch->Holds ρ I (b8 e) w (ρ e) ch)/\
  (∀e b5 ch ch' x,ag bo e=some ch->ag bo b5=some ch'->e≠b5->b8 e x-> ¬b8 b5 x)/\ ∀x,F x↔ ∃e ch,ag bo e=some ch/\b8 e x
 cj:=fun I F w I' w' p ⟨ρ,b8,E,av,G,aj,aX⟩ V bh aR=>⟨ρ,b8,E,av,fun d ch J=>Holds.cj V (fun b O=>bh b ((aX b).2 ⟨d,ch,J,O⟩)) aR ch (fun _ _=>rfl) (G d ch J),aj,aX⟩
def J9 (c d q:Nat) (args:List aP) (aJ bo:aw) (res:aP) (aO dv:aw):Bool:=
 (cl bo).contains c&& !(cl bo).contains d&& !(cl bo).contains q&&((cl bo).all fun e=>ki e aJ&&ki e aO&& !res.has e&&args.all fun v=> !v.has e)&&
  (ag aJ q).isNone&&(ag aO q).isNone&&vL (d::cl bo) bo&&((cl dv).all fun e=>(cl bo).contains e)
theorem Fn.acD {P:Program} {f:FuncId} {c d q b:Nat} {args:List aP} {aJ bo aO dv:aw} {res:aP} (h:Fn P f (.c (.one (.ptr c 0))::args) (aJ++bo) [] res (aO++dv)) (ab:J9 c d q args aJ bo res aO dv=true):
  Fn P f (.c (.one (.d (.aL (some b))))::args) (aJ++[(q,.cn d (nT b c d bo))]) [] res (aO++[(q,.cn d (nT b c d dv))]):=by
 obtain⟨fT,h⟩:=h;simp only[J9,vj,Bool.not_eq_true',au1] at ab;obtain⟨⟨⟨⟨⟨⟨⟨b4,cg⟩,a3⟩,a4⟩,a5⟩,gy⟩,yS⟩,Fe⟩:=ab;have b4:=tp b4;have cg:=vW cg;have a3:=vW a3
 have xI: ∀e,e∈cl bo->ki e aJ=true/\ki e aO=true/\res.has e=false/\ ∀v,v∈args->v.has e=false:=fun e V=>by
  have:=ar4.1 a4 e V;simp only[vj,Bool.not_eq_true'] at this;exact⟨this.1.1.1,this.1.1.2,this.1.2,fun v ay=>by simpa using ar4.1 this.2 v ay⟩
 have acE: ∀e,e∈cl dv->e∈cl bo:=fun e V=>tp (ar4.1 Fe e V)
 have one: ∀(B:aw) (ch:bb),ag B q=none->ag (B++[(q,ch)]) q=some ch:=fun B ch hn=>by rw[iF,hn];simp[ag]
 have ts: ∀(B:aw) (x:bb) {e:Nat} {ch:bb},ag (B++[(q,x)]) e=some ch->(ag B e=some ch)\/(ag B e=none/\e=q/\ch=x):=fun B x {e ch} V=>by
  rw[iF] at V
  cases bk:ag B e with
  |some y=>rw[bk] at V;exact .inl V
  |none=>
   rw[bk] at V;simp only[ca] at V
   split at V
   .rename_i ao;injection V with V;exact .inr ⟨rfl,ao.symm,V.symm⟩
   .cases V
 have hs: ∀(B:aw) (x:bb) {e:Nat} {ch:bb},ag B e=some ch->ag (B++[(q,x)]) e=some ch:=fun B x {e ch} V=>by rw[iF,V]
 refine⟨fT,fun ρ F I w bW ba cX bh ep b6 dt=>?_⟩;have Cg:=one aJ (.cn d (nT b c d bo)) a5;obtain⟨oQ,b8,cx,IY,cA,dy,fb⟩:(nT b c d bo (ρ d)).R I (F q) w (ρ q):=cX q _ Cg;have eT: ∀{e ch},ag aJ e=some ch->e∉cl bo/\e≠q:=fun {e ch} V=>⟨fun ab=>(by rw[(ue (xI e ab).1).1] at V;cases V),fun ao=>(by rw[ao,a5] at V;cases V)⟩
 have iE: ∀{e ch},ag (aJ++bo) e=some ch->(ag bo e=some ch/\e∈cl bo)\/(e∉cl bo/\ag aJ e=some ch):=fun {e ch} V=>by
  rw[iF] at V
  cases bk:ag aJ e with
  |some ch'=>
   rw[bk] at V;exact .inr ⟨(eT bk).1,V⟩
  |none=>
   rw[bk] at V;exact .inl ⟨V,gm.2 ⟨ch,V⟩⟩
 let uC:Nat->bn:=fun e=>if e∈cl bo then oQ e else ρ e
 let iO:Nat->Nat->Prop:=fun e=>if e∈cl bo then b8 e else F e
 have wc: ∀e,e∉cl bo->uC e=ρ e:=fun e V=>if_neg V
 have xA: ∀e,e∈d::cl bo->uC e=oQ e:=fun e V=>by
  rcases ap3.1 V with rfl |V
  .rw[wc _ cg,IY]
  .exact if_pos V
 have mE: ∀y,(∃e ch,ag (aJ++bo) e=some ch/\iO e y)-> ∃e ch,ag (aJ++[(q,bb.cn d (nT b c d bo))]) e=some ch/\F e y:=by
  rintro y ⟨e,ch,V,aB⟩;rcases iE V with⟨ai,ao⟩ |⟨ai,ao⟩
  .have aB:b8 e y:=by simpa only[iO,if_pos ao] using aB
   exact⟨q,_,Cg,(fb y).2 ⟨e,ch,ai,aB⟩⟩
  .have aB:F e y:=by simpa only[iO,if_neg ai] using aB
   exact⟨e,ch,hs _ _ ao,aB⟩
 match bW,b6 with
 |v0::bW,b6=>
 have xz:v0= .pointer (some ⟨b,0,none⟩):=dt 0 _ v0 rfl rfl;refine(h uC iO I w (v0::bW) ba ?_ ?_ ?_ (by simpa using b6) ?_).mono ?_
 .intro e ch V;rcases iE V with⟨ai,ao⟩ |⟨ai,ao⟩
  .rw[xA e (ap2 _ ao)];simp only[iO,if_pos ao];exact Holds.cj (ce.refl _ _) (fun _ _=>rfl) (ap0 _) ch (fun j Z=>xA j (bb.kn (xn yS ai) Z)) (cA e ch ai)
  .rw[wc e ai];simp only[iO,if_neg ai];exact Holds.cj (ce.refl _ _) (fun _ _=>rfl) (ap0 _) ch (fun j Z=>wc j (fun kP=>by rw[(ue (xI j kP).1).2 e ch ao] at Z;cases Z)) (cX e ch (hs _ _ ao))
 .intro e ch V x hx;rcases iE V with⟨ai,ao⟩ |⟨ai,ao⟩
  .simp only[iO,if_pos ao] at hx;exact bh q _ Cg x ((fb x).2 ⟨e,ch,ai,hx⟩)
  .simp only[iO,if_neg ai] at hx;exact bh e ch (hs _ _ ao) x hx
 .intro e b5 ch ch' x V gP a2 hx dE;rcases iE V with⟨ai,ao⟩ |⟨ai,ao⟩
  .simp only[iO,if_pos ao] at hx;rcases iE gP with⟨k3,jp⟩ |⟨k3,jp⟩
   .simp only[iO,if_pos jp] at dE;exact dy e b5 ch ch' x ai k3 a2 hx dE
   .simp only[iO,if_neg k3] at dE;exact ep q b5 _ ch' x Cg (hs _ _ jp) (Ne.symm (eT jp).2) ((fb x).2 ⟨e,ch,ai,hx⟩) dE
  .simp only[iO,if_neg ai] at hx;rcases iE gP with⟨k3,jp⟩ |⟨k3,jp⟩
   .simp only[iO,if_pos jp] at dE;exact ep q e _ ch x Cg (hs _ _ ao) (Ne.symm (eT ao).2) ((fb x).2 ⟨b5,ch',k3,dE⟩) hx
   .simp only[iO,if_neg k3] at dE;exact ep e b5 ch ch' x (hs _ _ ao) (hs _ _ jp) a2 hx dE
 .intro i v x ay hx
  match i with
  |0=>
   simp only[aq5,ap4] at ay hx;subst ay hx;show v0=_;rw[xA c (ap2 _ b4),cx];exact xz
  |i+1=>
   have oG:args[i]? =some v:=aw6
   exact cr.mono (ce.refl _ _) v x (fun j Z=>wc j (fun kP=>by rw[(xI j kP).2.2.2 v (List.mem_of_getElem? oG)] at Z;cases Z)) (dt (i+1) v x aw6 hx)
 .rintro e w' ⟨x,ρ',F',rfl,cz,dl,I',i5,gn,lB,aD,h3,se⟩;have acF:ρ'=uC:=funext fun e=>dl e au7
  subst acF;have m7: ∀{e ch},ag aO e=some ch->e∉cl bo/\e≠q/\ag (aO++dv) e=some ch:=fun {e ch} V=>⟨fun ab=>(by rw[(ue (xI e ab).2.1).1] at V;cases V),fun ao=>(by rw[ao,gy] at V;cases V),by rw[iF,V]⟩
  have oR: ∀{e ch},ag dv e=some ch->ag aO e=none/\ag (aO++dv) e=some ch:=fun {e ch} V=>by
   have hn:=(ue (xI e (acE e (gm.2 ⟨ch,V⟩))).2.1).1;exact⟨hn,by rw[iF,hn];exact V⟩
  refine⟨x,ρ,fun e=>if e=q then(fun y=> ∃b5 ch',ag dv b5=some ch'/\F' b5 y) else F' e,rfl,cz.mono fun y _ aB=>mE y aB,fun _ _=>rfl,I',i5,fun y aB=>⟨(gn y aB).1,?_⟩,?_,?_,?_,?_⟩
  .rcases(gn y aB).2 with h |h |h
   .exact .inl h
   .exact .inr (.inl (mE y h))
   .exact .inr (.inr h)
  .intro e ch V;rcases ts _ _ V with V |⟨_,rfl,rfl⟩
   .obtain⟨ai,ao,bl⟩:=m7 V;simp only[if_neg ao];rw[<-wc e ai];exact Holds.cj (ce.refl _ _) (fun _ _=>rfl) (ap0 _) ch (fun j Z=>(wc j (fun kP=>by rw[(ue (xI j kP).2.1).2 e ch V] at Z;cases Z)).symm) (lB e ch bl)
   .simp only[if_true];refine⟨uC,F',by rw[xA c (ap2 _ b4),cx],wc d cg,fun e ch V=>lB e ch (oR V).2,fun e b5 ch ch' x V gP a2=>h3 e b5 ch ch' x (oR V).2 (oR gP).2 a2,fun _=>Iff.rfl⟩
  .intro e ch V y aB;rcases ts _ _ V with V |⟨_,rfl,rfl⟩
   .obtain⟨ai,ao,bl⟩:=m7 V;simp only[if_neg ao] at aB;obtain⟨cC,cG,hF⟩:=aD e ch bl y aB;exact⟨cC,cG,hF.imp (mE y) id⟩
   .simp only[if_true] at aB;obtain⟨b5,ch',E,G⟩:=aB;obtain⟨cC,cG,hF⟩:=aD b5 ch' (oR E).2 y G;exact⟨cC,cG,hF.imp (mE y) id⟩
  .intro e b5 ch ch' y V gP a2 aB d4;rcases ts _ _ V with ci |⟨_,rfl,rfl⟩
   .obtain⟨ai,ao,bl⟩:=m7 ci;simp only[if_neg ao] at aB;rcases ts _ _ gP with cN |⟨_,rfl,rfl⟩
    .obtain⟨k3,jp,zv⟩:=m7 cN;simp only[if_neg jp] at d4;exact h3 e b5 ch ch' y bl zv a2 aB d4
    .simp only[if_true] at d4;obtain⟨hB,iU,E,G⟩:=d4;exact h3 e hB ch iU y bl (oR E).2 (fun e=>by rw[e,(oR E).1] at ci;cases ci) aB G
   .rcases ts _ _ gP with cN |⟨_,rfl,rfl⟩
    .obtain⟨k3,jp,zv⟩:=m7 cN;simp only[if_true] at aB;simp only[if_neg jp] at d4;obtain⟨hB,iU,E,G⟩:=aB;exact h3 hB b5 iU ch' y (oR E).2 zv (fun e=>by rw[<-e,(oR E).1] at cN;cases cN) G d4
    .exact absurd rfl a2
  .exact cr.mono (ce.refl _ _) res x (fun j Z=>(wc j (fun kP=>by rw[(xI j kP).2.2.1] at Z;cases Z)).symm) se
end
end Go.Proofs.YthnboghbhgapcaaGreat
namespace Go.Proofs
open Go.Shelf
def Tryz.QN:Go.Shelf.Ren:=⟨fun |7=>185 |10=>207 |n=>n,fun |23=>82 |26=>9 |3=>81 |28=>252 |0=>0 |27=>251 |33=>95 |4=>4 |n=>n,fun |n=>n⟩
theorem Tryz.acG:Go.Proofs.SlLaysZ.n7 Tryz.prog Tryz.QN:={
 mixed:=by kernel_rfl
 f7:=⟨Tryz.f185.name,by decide,Tryz.func185.trans (congrArg some (by kernel_rfl))⟩
 f10:=⟨Tryz.f207.name,by decide,Tryz.func207.trans (congrArg some (by kernel_rfl))⟩
 t0:=Tryz.underlying0
 a0:=Tryz.isAgg0
 z0:=Tryz.sizeOf0
 v0:=Tryz.zeroValue0
 t4:=Tryz.underlying4
 a4:=Tryz.isAgg4
 z4:=Tryz.sizeOf4
 v4:=Tryz.zeroValue4
 t23:=Tryz.underlying82
 a23:=Tryz.isAgg82
 z23:=Tryz.sizeOf82
 v23:=Tryz.zeroValue82
 t26:=Tryz.underlying9
 a26:=Tryz.isAgg9
 z26:=Tryz.sizeOf9
 v26:=Tryz.zeroValue9
 t27:=Tryz.underlying251
 a27:=Tryz.isAgg251
 z27:=Tryz.sizeOf251
 v27:=Tryz.zeroValue251
 t28:=Tryz.underlying252
 a28:=Tryz.isAgg252
 z28:=Tryz.sizeOf252
 v28:=Tryz.zeroValue252
 t33:=Tryz.underlying95
 a33:=Tryz.isAgg95
 z33:=Tryz.sizeOf95
 v33:=Tryz.zeroValue95}
def Tryz.QO:Go.Shelf.Ren:=⟨fun |6=>167 |8=>193 |9=>194 |11=>211 |13=>203 |12=>212 |23=>235 |24=>236 |14=>241 |15=>242 |16=>243 |17=>244 |18=>245 |19=>246 |20=>247 |21=>248 |22=>249 |25=>260 |26=>254 |27=>255 |28=>261 |29=>262 |30=>263 |31=>265 |n=>n,fun |26=>9 |28=>252 |24=>96 |0=>0 |3=>3 |37=>248 |48=>305 |50=>307 |4=>4 |40=>298 |39=>297 |45=>302 |5=>5 |9=>9 |51=>320 |55=>324 |57=>328 |58=>318 |33=>95 |n=>n,fun |n=>n⟩
theorem Tryz.QP:Go.Proofs.SlLaysZ.n6 Tryz.prog Tryz.QO:={
 mixed:=by kernel_rfl
 f6:=⟨Tryz.f167.name,by decide,Tryz.func167.trans (congrArg some (by kernel_rfl))⟩
 f8:=⟨Tryz.f193.name,by decide,Tryz.func193.trans (congrArg some (by kernel_rfl))⟩
 f11:=⟨Tryz.f211.name,by decide,Tryz.func211.trans (congrArg some (by kernel_rfl))⟩
 t0:=Tryz.underlying0
 a0:=Tryz.isAgg0
 z0:=Tryz.sizeOf0
 v0:=Tryz.zeroValue0
 t24:=Tryz.underlying96
 a24:=Tryz.isAgg96
 z24:=Tryz.sizeOf96
 v24:=Tryz.zeroValue96
 t26:=Tryz.underlying9
 a26:=Tryz.isAgg9
 z26:=Tryz.sizeOf9
 v26:=Tryz.zeroValue9
 t28:=Tryz.underlying252
 a28:=Tryz.isAgg252
 z28:=Tryz.sizeOf252
 v28:=Tryz.zeroValue252
 i26:=by kernel_rfl}
def Tryz.acH:Go.Shelf.Ren:=⟨fun |6=>194 |8=>203 |9=>212 |19=>235 |20=>236 |21=>241 |22=>242 |23=>243 |24=>244 |25=>245 |26=>246 |27=>247 |28=>248 |29=>249 |36=>260 |31=>254 |32=>255 |37=>261 |38=>262 |39=>263 |41=>265 |n=>n,fun |27=>96 |29=>9 |3=>3 |32=>248 |26=>96 |0=>0 |44=>305 |46=>307 |4=>4 |36=>298 |35=>297 |41=>302 |5=>5 |9=>9 |53=>320 |57=>324 |63=>328 |64=>318 |n=>n,fun |n=>n⟩
theorem Tryz.QQ:Go.Proofs.SlLaysM.n6 Tryz.prog Tryz.acH:={
 mixed:=by kernel_rfl
 f6:=⟨Tryz.f194.name,by decide,Tryz.func194.trans (congrArg some (by kernel_rfl))⟩
 f8:=Tryz.func203.trans (congrArg some (by kernel_rfl))
 f9:=⟨Tryz.f212.name,by decide,Tryz.func212.trans (congrArg some (by kernel_rfl))⟩
 f19:=Tryz.func235.trans (congrArg some (by kernel_rfl))
 f20:=Tryz.func236.trans (congrArg some (by kernel_rfl))
 f21:=⟨Tryz.f241.name,by decide,Tryz.func241.trans (congrArg some (by kernel_rfl))⟩
 f22:=⟨Tryz.f242.name,by decide,Tryz.func242.trans (congrArg some (by kernel_rfl))⟩
 f23:=⟨Tryz.f243.name,by decide,Tryz.func243.trans (congrArg some (by kernel_rfl))⟩
 f24:=⟨Tryz.f244.name,by decide,Tryz.func244.trans (congrArg some (by kernel_rfl))⟩
 f25:=⟨Tryz.f245.name,by decide,Tryz.func245.trans (congrArg some (by kernel_rfl))⟩
 f26:=⟨Tryz.f246.name,by decide,Tryz.func246.trans (congrArg some (by kernel_rfl))⟩
 f27:=⟨Tryz.f247.name,by decide,Tryz.func247.trans (congrArg some (by kernel_rfl))⟩
 f28:=⟨Tryz.f248.name,by decide,Tryz.func248.trans (congrArg some (by kernel_rfl))⟩
 f29:=⟨Tryz.f249.name,by decide,Tryz.func249.trans (congrArg some (by kernel_rfl))⟩
 f31:=Tryz.func254.trans (congrArg some (by kernel_rfl))
 f32:=Tryz.func255.trans (congrArg some (by kernel_rfl))
 f36:=⟨Tryz.f260.name,by decide,Tryz.func260.trans (congrArg some (by kernel_rfl))⟩
 f37:=⟨Tryz.f261.name,by decide,Tryz.func261.trans (congrArg some (by kernel_rfl))⟩
 f38:=⟨Tryz.f262.name,by decide,Tryz.func262.trans (congrArg some (by kernel_rfl))⟩
 f39:=⟨Tryz.f263.name,by decide,Tryz.func263.trans (congrArg some (by kernel_rfl))⟩
 f41:=⟨Tryz.f265.name,by decide,Tryz.func265.trans (congrArg some (by kernel_rfl))⟩
 t0:=Tryz.underlying0
 a0:=Tryz.isAgg0
 z0:=Tryz.sizeOf0
 v0:=Tryz.zeroValue0
 t3:=Tryz.underlying3
 a3:=Tryz.isAgg3
 z3:=Tryz.sizeOf3
 v3:=Tryz.zeroValue3
 t4:=Tryz.underlying4
 a4:=Tryz.isAgg4
 z4:=Tryz.sizeOf4
 v4:=Tryz.zeroValue4
 t5:=Tryz.underlying5
 a5:=Tryz.isAgg5
 z5:=Tryz.sizeOf5
 v5:=Tryz.zeroValue5
 t9:=Tryz.underlying9
 a9:=Tryz.isAgg9
 z9:=Tryz.sizeOf9
 v9:=Tryz.zeroValue9
 t26:=Tryz.underlying96
 a26:=Tryz.isAgg96
 z26:=Tryz.sizeOf96
 v26:=Tryz.zeroValue96
 t27:=Tryz.underlying96
 a27:=Tryz.isAgg96
 z27:=Tryz.sizeOf96
 v27:=Tryz.zeroValue96
 t29:=Tryz.underlying9
 a29:=Tryz.isAgg9
 z29:=Tryz.sizeOf9
 v29:=Tryz.zeroValue9
 t32:=Tryz.underlying248
 a32:=Tryz.isAgg248
 z32:=Tryz.sizeOf248
 v32:=Tryz.zeroValue248
 t35:=Tryz.underlying297
 a35:=Tryz.isAgg297
 z35:=Tryz.sizeOf297
 v35:=Tryz.zeroValue297
 t36:=Tryz.underlying298
 a36:=Tryz.isAgg298
 z36:=Tryz.sizeOf298
 v36:=Tryz.zeroValue298
 t41:=Tryz.underlying302
 a41:=Tryz.isAgg302
 z41:=Tryz.sizeOf302
 v41:=Tryz.zeroValue302
 t44:=Tryz.underlying305
 a44:=Tryz.isAgg305
 z44:=Tryz.sizeOf305
 v44:=Tryz.zeroValue305
 t46:=Tryz.underlying307
 a46:=Tryz.isAgg307
 z46:=Tryz.sizeOf307
 v46:=Tryz.zeroValue307
 t53:=Tryz.underlying320
 a53:=Tryz.isAgg320
 z53:=Tryz.sizeOf320
 v53:=Tryz.zeroValue320
 t57:=Tryz.underlying324
 a57:=Tryz.isAgg324
 z57:=Tryz.sizeOf324
 v57:=Tryz.zeroValue324
 t63:=Tryz.underlying328
 a63:=Tryz.isAgg328
 z63:=Tryz.sizeOf328
 v63:=Tryz.zeroValue328
 t64:=Tryz.underlying318
 a64:=Tryz.isAgg318
 z64:=Tryz.sizeOf318
 v64:=Tryz.zeroValue318}
def Tryz.QR:Go.Shelf.Ren:=⟨fun |7=>168 |10=>195 |n=>n,fun |23=>101 |26=>9 |3=>162 |28=>252 |0=>0 |27=>251 |33=>95 |4=>4 |n=>n,fun |n=>n⟩
theorem Tryz.acI:Go.Proofs.SlLaysZ.n7 Tryz.prog Tryz.QR:={
 mixed:=by kernel_rfl
 f7:=⟨Tryz.f168.name,by decide,Tryz.func168.trans (congrArg some (by kernel_rfl))⟩
 f10:=⟨Tryz.f195.name,by decide,Tryz.func195.trans (congrArg some (by kernel_rfl))⟩
 t0:=Tryz.underlying0
 a0:=Tryz.isAgg0
 z0:=Tryz.sizeOf0
 v0:=Tryz.zeroValue0
 t4:=Tryz.underlying4
 a4:=Tryz.isAgg4
 z4:=Tryz.sizeOf4
 v4:=Tryz.zeroValue4
 t23:=Tryz.underlying101
 a23:=Tryz.isAgg101
 z23:=Tryz.sizeOf101
 v23:=Tryz.zeroValue101
 t26:=Tryz.underlying9
 a26:=Tryz.isAgg9
 z26:=Tryz.sizeOf9
 v26:=Tryz.zeroValue9
 t27:=Tryz.underlying251
 a27:=Tryz.isAgg251
 z27:=Tryz.sizeOf251
 v27:=Tryz.zeroValue251
 t28:=Tryz.underlying252
 a28:=Tryz.isAgg252
 z28:=Tryz.sizeOf252
 v28:=Tryz.zeroValue252
 t33:=Tryz.underlying95
 a33:=Tryz.isAgg95
 z33:=Tryz.sizeOf95
 v33:=Tryz.zeroValue95}
def Tryz.acJ:Go.Shelf.Ren:=⟨fun |5=>146 |7=>184 |n=>n,fun |23=>159 |25=>3 |3=>3 |4=>4 |20=>20 |n=>n,fun |n=>n⟩
theorem Tryz.acK:Go.Proofs.SlLaysW.n5 Tryz.prog Tryz.acJ:={
 mixed:=by kernel_rfl
 f5:=⟨Tryz.f146.name,by decide,Tryz.func146.trans (congrArg some (by kernel_rfl))⟩
 f7:=Tryz.func184.trans (congrArg some (by kernel_rfl))
 t4:=Tryz.underlying4
 a4:=Tryz.isAgg4
 z4:=Tryz.sizeOf4
 v4:=Tryz.zeroValue4
 t20:=Tryz.underlying20
 a20:=Tryz.isAgg20
 z20:=Tryz.sizeOf20
 v20:=Tryz.zeroValue20
 t23:=Tryz.underlying159
 a23:=Tryz.isAgg159
 z23:=Tryz.sizeOf159
 v23:=Tryz.zeroValue159}
def Tryz.J':Go.Shelf.Ren:=⟨fun |7=>136 |10=>178 |n=>n,fun |23=>159 |26=>3 |3=>3 |28=>216 |0=>0 |27=>215 |33=>158 |4=>4 |n=>n,fun |n=>n⟩
theorem Tryz.QS:Go.Proofs.SlLaysZI.n7 Tryz.prog Tryz.J':={
 mixed:=by kernel_rfl
 f7:=⟨Tryz.f136.name,by decide,Tryz.func136.trans (congrArg some (by kernel_rfl))⟩
 f10:=⟨Tryz.f178.name,by decide,Tryz.func178.trans (congrArg some (by kernel_rfl))⟩
 t0:=Tryz.underlying0
 a0:=Tryz.isAgg0
 z0:=Tryz.sizeOf0
 v0:=Tryz.zeroValue0
 t4:=Tryz.underlying4
 a4:=Tryz.isAgg4
 z4:=Tryz.sizeOf4
 v4:=Tryz.zeroValue4
 t23:=Tryz.underlying159
 a23:=Tryz.isAgg159
 z23:=Tryz.sizeOf159
 v23:=Tryz.zeroValue159
 t26:=Tryz.underlying3
 a26:=Tryz.isAgg3
 z26:=Tryz.sizeOf3
 v26:=Tryz.zeroValue3
 t27:=Tryz.underlying215
 a27:=Tryz.isAgg215
 z27:=Tryz.sizeOf215
 v27:=Tryz.zeroValue215
 t28:=Tryz.underlying216
 a28:=Tryz.isAgg216
 z28:=Tryz.sizeOf216
 v28:=Tryz.zeroValue216
 t33:=Tryz.underlying158
 a33:=Tryz.isAgg158
 z33:=Tryz.sizeOf158
 v33:=Tryz.zeroValue158}
def Tryz.acL:Go.Shelf.Ren:=⟨fun |8=>176 |11=>201 |n=>n,fun |26=>3 |28=>216 |24=>71 |0=>0 |33=>158 |4=>4 |n=>n,fun |n=>n⟩
theorem Tryz.acM:Go.Proofs.SlLaysZI.n8 Tryz.prog Tryz.acL:={
 mixed:=by kernel_rfl
 f8:=⟨Tryz.f176.name,by decide,Tryz.func176.trans (congrArg some (by kernel_rfl))⟩
 f11:=⟨Tryz.f201.name,by decide,Tryz.func201.trans (congrArg some (by kernel_rfl))⟩
 t0:=Tryz.underlying0
 a0:=Tryz.isAgg0
 z0:=Tryz.sizeOf0
 v0:=Tryz.zeroValue0
 t24:=Tryz.underlying71
 a24:=Tryz.isAgg71
 z24:=Tryz.sizeOf71
 v24:=Tryz.zeroValue71
 t26:=Tryz.underlying3
 a26:=Tryz.isAgg3
 z26:=Tryz.sizeOf3
 v26:=Tryz.zeroValue3
 t28:=Tryz.underlying216
 a28:=Tryz.isAgg216
 z28:=Tryz.sizeOf216
 v28:=Tryz.zeroValue216
 i26:=by kernel_rfl}
def Tryz.QT:Go.Shelf.Ren:=⟨fun |7=>151 |10=>186 |n=>n,fun |23=>89 |26=>3 |3=>25 |28=>216 |0=>0 |27=>215 |33=>158 |4=>4 |n=>n,fun |n=>n⟩
theorem Tryz.acN:Go.Proofs.SlLaysZI.n7 Tryz.prog Tryz.QT:={
 mixed:=by kernel_rfl
 f7:=⟨Tryz.f151.name,by decide,Tryz.func151.trans (congrArg some (by kernel_rfl))⟩
 f10:=⟨Tryz.f186.name,by decide,Tryz.func186.trans (congrArg some (by kernel_rfl))⟩
 t0:=Tryz.underlying0
 a0:=Tryz.isAgg0
 z0:=Tryz.sizeOf0
 v0:=Tryz.zeroValue0
 t4:=Tryz.underlying4
 a4:=Tryz.isAgg4
 z4:=Tryz.sizeOf4
 v4:=Tryz.zeroValue4
 t23:=Tryz.underlying89
 a23:=Tryz.isAgg89
 z23:=Tryz.sizeOf89
 v23:=Tryz.zeroValue89
 t26:=Tryz.underlying3
 a26:=Tryz.isAgg3
 z26:=Tryz.sizeOf3
 v26:=Tryz.zeroValue3
 t27:=Tryz.underlying215
 a27:=Tryz.isAgg215
 z27:=Tryz.sizeOf215
 v27:=Tryz.zeroValue215
 t28:=Tryz.underlying216
 a28:=Tryz.isAgg216
 z28:=Tryz.sizeOf216
 v28:=Tryz.zeroValue216
 t33:=Tryz.underlying158
 a33:=Tryz.isAgg158
 z33:=Tryz.sizeOf158
 v33:=Tryz.zeroValue158}
def Tryz.QU:Go.Shelf.Ren:=⟨fun |6=>135 |8=>176 |9=>177 |11=>201 |13=>203 |12=>202 |23=>235 |24=>236 |14=>226 |15=>227 |16=>228 |17=>229 |18=>230 |19=>231 |20=>232 |21=>233 |22=>234 |25=>253 |26=>254 |27=>255 |28=>256 |29=>257 |30=>258 |31=>264 |n=>n,fun |26=>3 |28=>216 |24=>71 |0=>0 |3=>3 |37=>248 |48=>305 |50=>307 |4=>4 |40=>298 |39=>297 |45=>302 |5=>5 |9=>9 |51=>320 |55=>324 |57=>328 |58=>318 |33=>158 |n=>n,fun |n=>n⟩
theorem Tryz.QV:Go.Proofs.SlLaysZI.n6 Tryz.prog Tryz.QU:={
 mixed:=by kernel_rfl
 f6:=⟨Tryz.f135.name,by decide,Tryz.func135.trans (congrArg some (by kernel_rfl))⟩
 f8:=⟨Tryz.f176.name,by decide,Tryz.func176.trans (congrArg some (by kernel_rfl))⟩
 f11:=⟨Tryz.f201.name,by decide,Tryz.func201.trans (congrArg some (by kernel_rfl))⟩
 t0:=Tryz.underlying0
 a0:=Tryz.isAgg0
 z0:=Tryz.sizeOf0
 v0:=Tryz.zeroValue0
 t24:=Tryz.underlying71
 a24:=Tryz.isAgg71
 z24:=Tryz.sizeOf71
 v24:=Tryz.zeroValue71
 t26:=Tryz.underlying3
 a26:=Tryz.isAgg3
 z26:=Tryz.sizeOf3
 v26:=Tryz.zeroValue3
 t28:=Tryz.underlying216
 a28:=Tryz.isAgg216
 z28:=Tryz.sizeOf216
 v28:=Tryz.zeroValue216
 i26:=by kernel_rfl}
def Tryz.acO:Go.Shelf.Ren:=⟨fun |5=>177 |8=>203 |7=>202 |19=>235 |20=>236 |10=>226 |11=>227 |12=>228 |13=>229 |14=>230 |15=>231 |16=>232 |17=>233 |18=>234 |30=>253 |31=>254 |32=>255 |33=>256 |34=>257 |35=>258 |40=>264 |n=>n,fun |23=>71 |25=>3 |3=>3 |32=>248 |22=>71 |0=>0 |44=>305 |46=>307 |4=>4 |36=>298 |35=>297 |41=>302 |5=>5 |9=>9 |53=>320 |57=>324 |63=>328 |64=>318 |n=>n,fun |n=>n⟩
theorem Tryz.QW:Go.Proofs.SlLaysM.n5 Tryz.prog Tryz.acO:={
 mixed:=by kernel_rfl
 f5:=⟨Tryz.f177.name,by decide,Tryz.func177.trans (congrArg some (by kernel_rfl))⟩
 f7:=⟨Tryz.f202.name,by decide,Tryz.func202.trans (congrArg some (by kernel_rfl))⟩
 f8:=Tryz.func203.trans (congrArg some (by kernel_rfl))
 f10:=⟨Tryz.f226.name,by decide,Tryz.func226.trans (congrArg some (by kernel_rfl))⟩
 f11:=⟨Tryz.f227.name,by decide,Tryz.func227.trans (congrArg some (by kernel_rfl))⟩
 f12:=⟨Tryz.f228.name,by decide,Tryz.func228.trans (congrArg some (by kernel_rfl))⟩
 f13:=⟨Tryz.f229.name,by decide,Tryz.func229.trans (congrArg some (by kernel_rfl))⟩
 f14:=⟨Tryz.f230.name,by decide,Tryz.func230.trans (congrArg some (by kernel_rfl))⟩
 f15:=⟨Tryz.f231.name,by decide,Tryz.func231.trans (congrArg some (by kernel_rfl))⟩
 f16:=⟨Tryz.f232.name,by decide,Tryz.func232.trans (congrArg some (by kernel_rfl))⟩
 f17:=⟨Tryz.f233.name,by decide,Tryz.func233.trans (congrArg some (by kernel_rfl))⟩
 f18:=⟨Tryz.f234.name,by decide,Tryz.func234.trans (congrArg some (by kernel_rfl))⟩
 f19:=Tryz.func235.trans (congrArg some (by kernel_rfl))
 f20:=Tryz.func236.trans (congrArg some (by kernel_rfl))
 f30:=⟨Tryz.f253.name,by decide,Tryz.func253.trans (congrArg some (by kernel_rfl))⟩
 f31:=Tryz.func254.trans (congrArg some (by kernel_rfl))
 f32:=Tryz.func255.trans (congrArg some (by kernel_rfl))
 f33:=⟨Tryz.f256.name,by decide,Tryz.func256.trans (congrArg some (by kernel_rfl))⟩
 f34:=⟨Tryz.f257.name,by decide,Tryz.func257.trans (congrArg some (by kernel_rfl))⟩
 f35:=⟨Tryz.f258.name,by decide,Tryz.func258.trans (congrArg some (by kernel_rfl))⟩
 f40:=⟨Tryz.f264.name,by decide,Tryz.func264.trans (congrArg some (by kernel_rfl))⟩
 t0:=Tryz.underlying0
 a0:=Tryz.isAgg0
 z0:=Tryz.sizeOf0
 v0:=Tryz.zeroValue0
 t3:=Tryz.underlying3
 a3:=Tryz.isAgg3
 z3:=Tryz.sizeOf3
 v3:=Tryz.zeroValue3
 t4:=Tryz.underlying4
 a4:=Tryz.isAgg4
 z4:=Tryz.sizeOf4
 v4:=Tryz.zeroValue4
 t5:=Tryz.underlying5
 a5:=Tryz.isAgg5
 z5:=Tryz.sizeOf5
 v5:=Tryz.zeroValue5
 t9:=Tryz.underlying9
 a9:=Tryz.isAgg9
 z9:=Tryz.sizeOf9
 v9:=Tryz.zeroValue9
 t22:=Tryz.underlying71
 a22:=Tryz.isAgg71
 z22:=Tryz.sizeOf71
 v22:=Tryz.zeroValue71
 t23:=Tryz.underlying71
 a23:=Tryz.isAgg71
 z23:=Tryz.sizeOf71
 v23:=Tryz.zeroValue71
 t25:=Tryz.underlying3
 a25:=Tryz.isAgg3
 z25:=Tryz.sizeOf3
 v25:=Tryz.zeroValue3
 t32:=Tryz.underlying248
 a32:=Tryz.isAgg248
 z32:=Tryz.sizeOf248
 v32:=Tryz.zeroValue248
 t35:=Tryz.underlying297
 a35:=Tryz.isAgg297
 z35:=Tryz.sizeOf297
 v35:=Tryz.zeroValue297
 t36:=Tryz.underlying298
 a36:=Tryz.isAgg298
 z36:=Tryz.sizeOf298
 v36:=Tryz.zeroValue298
 t41:=Tryz.underlying302
 a41:=Tryz.isAgg302
 z41:=Tryz.sizeOf302
 v41:=Tryz.zeroValue302
 t44:=Tryz.underlying305
 a44:=Tryz.isAgg305
 z44:=Tryz.sizeOf305
 v44:=Tryz.zeroValue305
 t46:=Tryz.underlying307
 a46:=Tryz.isAgg307
 z46:=Tryz.sizeOf307
 v46:=Tryz.zeroValue307
 t53:=Tryz.underlying320
 a53:=Tryz.isAgg320
 z53:=Tryz.sizeOf320
 v53:=Tryz.zeroValue320
 t57:=Tryz.underlying324
 a57:=Tryz.isAgg324
 z57:=Tryz.sizeOf324
 v57:=Tryz.zeroValue324
 t63:=Tryz.underlying328
 a63:=Tryz.isAgg328
 z63:=Tryz.sizeOf328
 v63:=Tryz.zeroValue328
 t64:=Tryz.underlying318
 a64:=Tryz.isAgg318
 z64:=Tryz.sizeOf318
 v64:=Tryz.zeroValue318}
def Tryz.acP:Go.Shelf.Ren:=⟨fun |5=>162 |7=>184 |n=>n,fun |23=>236 |25=>3 |3=>241 |4=>4 |20=>20 |n=>n,fun |n=>n⟩
theorem Tryz.acQ:Go.Proofs.SlLaysW.n5 Tryz.prog Tryz.acP:={
 mixed:=by kernel_rfl
 f5:=⟨Tryz.f162.name,by decide,Tryz.func162.trans (congrArg some (by kernel_rfl))⟩
 f7:=Tryz.func184.trans (congrArg some (by kernel_rfl))
 t4:=Tryz.underlying4
 a4:=Tryz.isAgg4
 z4:=Tryz.sizeOf4
 v4:=Tryz.zeroValue4
 t20:=Tryz.underlying20
 a20:=Tryz.isAgg20
 z20:=Tryz.sizeOf20
 v20:=Tryz.zeroValue20
 t23:=Tryz.underlying236
 a23:=Tryz.isAgg236
 z23:=Tryz.sizeOf236
 v23:=Tryz.zeroValue236}
end Go.Proofs
