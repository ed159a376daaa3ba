/-
A part of the proof of this claim: lemmas, with no condition beyond what each says.
-/
import Derived.Shelf.SlIter.Nil
import Derived.Shelf.SlIterI.Nil
import Derived.Shelf.SortM.Plain
import Derived.Shelf.SortM.SortNone
import Derived.Shelf.SlMaps.Clone
import Derived.Ground.GgzProg
import Derived.Ground.SlgmProg
import Derived.Ground.SlmcProg
import Derived.Test.YthnboghbhgapcaaGreatProg
import Derived.Test.YthnboghbhgapcaaGreatZa8
set_option linter.unusedVariables false
set_option linter.unusedSimpArgs false
set_option maxRecDepth 10000
namespace Go.Proofs.YthnboghbhgapcaaGreat
open Go.RowKit Go.Proofs
section
def bh.ch (ch:bd) (h: ∀c,ch.has c=false):bh where
 R:=fun I F w p=>Holds (fun _=>p) I F w p ch
 cg:=fun I F w I' w' p bl V bj aR=>Holds.cg V bj aR ch (fun c H=>absurd H (by rw[h c];decide)) bl
theorem bh.Qx {ch:bd} (h: ∀c,ch.has c=false) {ρ:Nat->bo} {I F:Nat->Prop} {w:World} {p:bo} (bl:Holds ρ I F w p ch):(bh.ch ch h).R I F w p:=
 Holds.cg (cd.refl _ _) (fun _ _=>rfl) (ap0 _) ch (fun c H=>absurd H (by rw[h c];decide)) bl
section
variable {P:Program} {ids:List Nat} {K:a1} {B:ay}
theorem iY {o:Oper} {x:Operand} {b:Nat} (ai:o.op= .nilCheck x) (hx:a7 K x= .c (.one (.d (.aM (some b))))) (N:Nat):bB P N ids o K B (.c (.one (.d (.aM (some b))))) ⟨[],[],[]⟩:=by
 have aA:x∈o.op.operands:=by rw[ai];simp[Op.operands]
 refine bB.val fun K' B' g1 g2 C ρ F a w ar av=>?_
 have az:a.eval x= .pointer (some ⟨b,0,none⟩):=av.ev ((g1 x aA).trans hx);exact⟨.pointer (some ⟨b,0,none⟩),by simp[execOp,ai,az],rfl⟩
theorem jb {o:Oper} {T:TypeId} {x:Operand} {f b off:Nat} {fs:Array Field} {jH:Field} (ai:o.op= .fieldAddr T x f) (cc:P.underlying T=some (.struct fs)) (t':fs[f]? =some jH) (B2:jH.offset=off) {i:TypeInfo} (aI:P.info? jH.type=some i) (cQ:i.size≠0) (hx:a7 K x= .c (.one (.d (.aM (some b))))) (N:Nat):
  bB P N ids o K B (.c (.one (.bI (.pointer (some ⟨b,off,none⟩))))) ⟨[],[],[]⟩:=by
 have aA:x∈o.op.operands:=by rw[ai];simp[Op.operands]
 refine bB.val fun K' B' g1 g2 C ρ F a w ar av=>?_
 have az:a.eval x= .pointer (some ⟨b,0,none⟩):=av.ev ((g1 x aA).trans hx);have h:=Es az ai cc t' B2 aI cQ (w:=w);rw[Nat.zero_add] at h;exact⟨.pointer (some ⟨b,off,none⟩),h,rfl⟩
theorem aca {I:Nat->Prop} {w:World} {L:List (Nat×bh)} {F:Nat->Prop} {b:Nat} {l:List bC} {h: ∀c,(bd.cells l).has c=false} (bn:fb I w L F) (cW:eg L b=some (bh.ch (.cells l) h)) {j:Nat} {x:D} (aa:l[j]? =some (.d x)): ∃v,w.cell? ⟨b,j,none⟩=some v/\gE I w x v:=by
 obtain⟨cu,cI,p,cf,cM,eb,eA,uu⟩:=bn.out cW;obtain⟨E,aD,eT,G,al⟩:=eA;obtain⟨v,az,J⟩:=b'.get _ _ al j _ aa;rw[eb] at G;exact⟨v,oD G az,J⟩
theorem k8 {o:Oper} {T:TypeId} {x:Operand} {q b j:Nat} {y:D} {L:List (Nat×bh)} {l:List bC} {h: ∀c,(bd.cells l).has c=false} {d:TypeDesc} (ai:o.op= .load T x) (cc:P.underlying T=some d) (J:d.isRow=false) (hx:a7 K x= .c (.one (.bI (.pointer (some ⟨b,j,none⟩)))))
  (aV:ah B q=some (.aG (.bA L))) (cW:eg L b=some (bh.ch (.cells l) h)) (aa:l[j]? =some (.d y)) (N:Nat):bB P N ids o K B (.c (.one (.d y))) ⟨[q],[],[]⟩:=by
 have aA:x∈o.op.operands:=by rw[ai];simp[Op.operands]
 refine bB.val fun K' B' g1 g2 C ρ F a w ar av=>?_
 have bn:fb (bZ C B' F w) w L (F q):=ar.holds q _ ((g2 q au7).trans aV);have az:a.eval x= .pointer (some ⟨b,j,none⟩):=av.ev ((g1 x aA).trans hx);obtain⟨v,E,G⟩:=aca bn cW aa;exact⟨v,Ep ai az cc J E,G⟩
theorem zu {o:Oper} {T:TypeId} {x v:Operand} {q b j:Nat} {y:D} {L:List (Nat×bh)} {l:List bC} {h: ∀c,(bd.cells l).has c=false} {h': ∀c,(bd.cells (l.set j (.d y))).has c=false} {i:TypeInfo} (ai:o.op= .store T x v) (aI:P.info? T=some i) (aR:i.size=1) (hx:a7 K x= .c (.one (.bI (.pointer (some ⟨b,j,none⟩)))))
  (az:a7 K v= .c (.one (.d y))) (aV:ah B q=some (.aG (.bA L))) (cW:eg L b=some (bh.ch (.cells l) h)) (aa:j < l.length) (E: ∀{I:Nat->Prop} {w:World} {aB:Value},gE I w y aB->aB.cells=List.toArray [aB]/\aB.oneCell'=true) (N:Nat):
  bB P N ids o K B .undef ⟨[q],[],[(q,some (.aG (.bA (e5 L b (bh.ch (.cells (l.set j (.d y))) h')))))]⟩:=by
 have m1:x∈o.op.operands:=by rw[ai];simp[Op.operands]
 have m2:v∈o.op.operands:=by rw[ai];simp[Op.operands]
 refine bB.hN aV fun K' B' g1 C ρ F a w ar av Fa=>?_
 have bn:fb (bZ C B' F w) w L (F q):=ar.holds q _ Fa;obtain⟨cu,cI,p,cf,cM,eb,eA,uu⟩:=bn.out cW;obtain⟨cB,aD,eT,cL,gP⟩:=eA;have aj:a.eval x= .pointer (some ⟨b,j,none⟩):=av.ev ((g1 x m1).trans hx);have ap:gE (bZ C B' F w) w y (a.eval v):=av.ev ((g1 v m2).trans az);obtain⟨hz,i5⟩:=E ap;have b6:aD.length=l.length:=b'.length _ _ gP;rw[eb] at cL;have dO:=Ba (P:=P) (o:=o) (ev:=a.eval) (w:=w) (us:=[a.eval v]) ai aj hz aI aR cL (by simp;omega) (fun aB aR=>by rw[aq0] at aR;rw[aR];exact i5);have gN:(w.setRow b (List.toArray (aD.take j++[a.eval v]++aD.drop (j+ [a.eval v].length)))).heap[b]? =some (.cells (List.toArray (aD.take j++[a.eval v]++aD.drop (j+ [a.eval v].length))) eT (0,0)):=setRow_heap w _ _ _ eT _ cL;have gQ:cu b:=(cB b).2 eb.symm;have p7:F q b:=(cf b).2 (.inl gQ);refine⟨_,dO,⟨rfl,rfl,rfl,by simp[World.setRow],fun k _ ab=>setRow_other w _ k _ (fun e=>ab (e▸p7))⟩,fun I aY=>?_⟩
 have dt: ∀(l:List bC) (aD:List Value) (j:Nat),j < l.length->b' (fun _=>p) (bZ C B' F w) w l aD->b' (fun _=>p) (bZ C B' F w) w (l.set j (.d y)) (aD.take j++[a.eval v]++aD.drop (j+1)):=fun l=>by
  induction l with
  |nil=>intro aD j aa;simp at aa
  |cons s l br=>
   rintro _ j aa ⟨u,r,rfl,cx,cA⟩
   match j with
   |0=>exact⟨a.eval v,r,au7,ap,cA⟩
   |j+1=>exact⟨u,_,rfl,cx,br r j (by simpa using aa) cA⟩
 have tk:(fun aB=>cu aB\/cI aB)=F q:=funext fun aB=>propext (cf aB).symm
 rw[<-tk]
 exact uu I _ (bh.ch (.cells (l.set j (.d y))) h') cu p aY (by simp[World.setRow]) (fun aB aR=>setRow_other w _ aB _ (fun e=>cM b gQ (e▸aR))) eb
  ⟨cB,_,eT,by rw[eb];exact gN,b'.mono aY _ _ (fun _ _=>rfl) (dt l aD j aa gP)⟩ cM
theorem acb {o:Oper} {T kt et:TypeId} {x i v:Operand} {c d q:Nat} (ai:o.op= .mapUpdate T x i v) (cc:P.underlying T=some (.map kt et)) {dk:TypeDesc} (j3:P.underlying kt=some dk) {aJ:bx} (jL:mX aJ dk=true)
  (hx:a7 K x= .c (.one (.mp c))) {key:Z aJ} (ab:w2 aJ (a7 K i)=some key) (az:a7 K v= .c (.one (.ptr d 0))) {es:List (Z aJ×Z .aM)} {L:List (Nat×bh)} {l:List bC} {h: ∀c,(bd.cells l).has c=false} (H:ah B c=some (.map aJ .aM es)) (J:ah B d=some (.cells l)) (aV:ah B q=some (.aG (.bA L)))
  (se:c≠d) (Fj:c≠q) (Qy:d≠q) (ha: ∀p∈L,p.2.oP):
  xn P ids o K B (fun cU e=> ∃b:Nat,b∉L.map (·.1)/\cU= .undef/\e=⟨[c,d,q],[],[(d,none),(c,some (.map aJ .aM (dr (aJ:=aJ) (aL:=.aM) es key (some b)))),(q,some (.aG (.bA ((b,bh.ch (.cells l) h)::L))))]⟩):=by
 rintro N C a w ⟨hn,l5,ρ,F,ar,av⟩ bw fC Q di;obtain⟨mz,bT,bU,aZ,bK,fD⟩:=ar.holds c _ H;have B3:=ar.holds d _ J;have bn:fb (bZ C B F w) w L (F q):=ar.holds q _ aV;have aj:=av.mp hx;have ap:a.eval i=gF aJ key:=Bg ab (av.ev rfl);have bm:a.eval v= .pointer (some ⟨(ρ d).bk,0,none⟩):=av.ev az
 have c0:jk (bZ C B F w) w .aM (some (ρ d).bk:Z .aM) (a.eval v):=by
  rw[bm];exact⟨rfl,⟨fun _=>rfl,fun h=>by cases h⟩,rfl⟩
 obtain⟨ek,jE,aF,gk,p4⟩:=A1 (P:=P) cc j3 jL aZ bK fD key c0;have q9:=(Array.getElem?_eq_some_iff.1 aZ).1;have acd:F d (ρ d).bk:=(B3.1 _).2 rfl;have Fk:(ρ d).bk∉L.map (·.1):=fun O=>ar.e9 d q _ _ _ J aV Qy acd (JH ha bn O)
 have uz: ∀y,y≠(ρ c).bk->({w with heap:=w.heap.setIfInBounds (ρ c).bk (.map (List.toArray ek) jE)}:World).heap[y]? =w.heap[y]? :=fun y aC=>Array.getElem?_setIfInBounds_ne (Ne.symm aC)
 have zv:F c (ρ c).bk:=(mz _).2 rfl;have xa: ∀y,F d y->y≠(ρ c).bk:=fun y aC e=>ar.e9 d c _ _ y J H (Ne.symm se) aC (e▸zv)
 have ace: ∀y,F q y->y≠(ρ c).bk:=fun y aC e=>ar.e9 q c _ _ y aV H (Ne.symm Fj) aC (e▸zv)
 have B1:(execOp a.eval o).run P w= .ok .skip {w with heap:=w.heap.setIfInBounds (ρ c).bk (.map (List.toArray ek) jE)}:=by simp only[execOp,ai,Sem.run_bind,aj,ap,aF,Result.andThen_ok,Sem.run_pure]
 unfold Oper.wp;rw[B1,Oper.upon_skip]
 have ux: ∀j ch,ah ((q,bd.aG (.bA (((ρ d).bk,bh.ch (.cells l) h)::L)))::(c,.map aJ .aM (dr (aJ:=aJ) (aL:=.aM) es key (some (ρ d).bk)))::gL B d) j=some ch->(j=c\/j=d\/j=q)->(j=q/\ch= .aG (.bA (((ρ d).bk,bh.ch (.cells l) h)::L)))\/(j=c/\ch= .map aJ .aM (dr (aJ:=aJ) (aL:=.aM) es key (some (ρ d).bk))):=fun j ch aa aA=>by
  rw[ca] at aa
  split at aa
  .rename_i e;injection aa with aa;exact .inl ⟨e.symm,aa.symm⟩
  .rename_i e;rw[ca] at aa
   split at aa
   .rename_i ap;injection aa with aa;exact .inr ⟨ap.symm,aa.symm⟩
   .rename_i ap;rcases aA with aA |aA |aA
    .exact absurd aA.symm ap
    .rw[aA,hk,if_pos rfl] at aa;cases aa
    .exact absurd aA.symm e
 have Fl:c5 F q (fun y=>F d y\/F q y) c=F c:=de _ _ Fj
 obtain⟨bN,aY⟩:=ar.step (B':=(q,.aG (.bA (((ρ d).bk,bh.ch (.cells l) h)::L)))::(c,.map aJ .aM (dr (aJ:=aJ) (aL:=.aM) es key (some (ρ d).bk)))::gL B d) (ρ':=ρ) (F':=c5 F q (fun y=>F d y\/F q y)) (w':={w with heap:=w.heap.setIfInBounds (ρ c).bk (.map (List.toArray ek) jE)}) (fun j=>j=c\/j=d\/j=q) (fun _=>False)
  ((uf (S:=F c) zv).mono fun y _ aC=>⟨c,_,H,.inl rfl,aC⟩)
  (fun j ch aa aA=>by
   rw[ca,if_neg (fun e=>aA (.inr (.inr e.symm))),ca,if_neg (fun e=>aA (.inl e.symm)),hk,if_neg (fun e=>aA (.inr (.inl e.symm)))] at aa;exact aa)
  (fun _ _=>rfl) (fun j aA=>de _ _ (fun e=>aA (.inr (.inr e)))) (fun _ _ h=>h) (fun _ h=>h.elim) (fun _ _ _ _ _ _ h=>h)
  (fun j ch aa aA aY=>by
   rcases ux j ch aa aA with⟨rfl,rfl⟩ |⟨rfl,rfl⟩
   .rw[c6];refine⟨F d,F j,ρ d,fun _=>Iff.rfl,fun y aC d4=>ar.e9 d j _ _ y J aV Qy aC d4,rfl,?_,bn.cg aY au7 fun y aC=>uz y (ace y aC)⟩;exact(bh.ch (.cells l) h).cg _ _ _ _ _ _ (bh.Qx h B3) aY (fun y aC=>uz y (xa y aC)) au7
   .rw[Fl];exact⟨mz,ek,jE,by simp[q9],gk.mono aY,p4⟩)
  (fun j ch aa aA y aC=>by
   rcases ux j ch aa aA with⟨rfl,rfl⟩ |⟨rfl,rfl⟩
   .rw[c6] at aC;rcases aC with aC |aC
    .exact⟨by simpa using(ar.own d _ J y aC).1,.inl ⟨d,_,J,.inr (.inl rfl),aC⟩⟩
    .exact⟨by simpa using(ar.own j _ aV y aC).1,.inl ⟨j,_,aV,.inr (.inr rfl),aC⟩⟩
   .rw[Fl] at aC;exact⟨by simpa using(ar.own j _ H y aC).1,.inl ⟨j,_,H,.inl rfl,aC⟩⟩)
  (fun j q5 ch ch' y aa ki aA gk ba aC d4=>by
   rcases ux j ch aa aA with⟨rfl,rfl⟩ |⟨rfl,rfl⟩ <;>rcases ux q5 ch' ki gk with⟨rfl,rfl⟩ |⟨rfl,rfl⟩
   .exact ba rfl
   .rw[c6] at aC;rw[Fl] at d4;rcases aC with aC |aC
    .exact ar.e9 d q5 _ _ y J H (Ne.symm se) aC d4
    .exact ar.e9 j q5 _ _ y aV H (Ne.symm Fj) aC d4
   .rw[c6] at d4;rw[Fl] at aC;rcases d4 with d4 |d4
    .exact ar.e9 d j _ _ y J H (Ne.symm se) d4 aC
    .exact ar.e9 q5 j _ _ y aV H (Ne.symm Fj) d4 aC
   .exact ba rfl)
 exact di _ _ _ _ ⟨_,Fk,rfl,rfl⟩ ⟨ke.trans hn,kf.trans l5,ρ,_,bN,(av.mono aY fun _ _ _=>rfl).kg (fun e V=>by rw[hn];exact bw e V) rfl⟩
end
end
section
def e6 (b:Nat) (q:bo):bh where
 R:=fun I F w p=>q.bk=b/\ ∀x,¬F x
 cg:=fun _ _ _ _ _ _ h _ _ _=>h
def jM (ch:bd):Prop:= ∀(ρ ρ':Nat->bo) (I F:Nat->Prop) (w:World) (p jY:bo),(∀c,ch.has c=true->(ρ' c).bk=(ρ c).bk)->jY.bk=p.bk->Holds ρ I F w p ch->Holds ρ' I F w jY ch
def JT:bC->Bool
 | .own _=>false
 | .os _ _ _ _=>false
 |_=>true
theorem hM.bk {ρ ρ':Nat->bo} {I:Nat->Prop} {w:World}: ∀(l:List kF) (aD:List Value),(∀c,lY c l=true->(ρ' c).bk=(ρ c).bk)->hM ρ I w l aD->hM ρ' I w l aD
 | [],_,_,h=>h
 | .p b o::l,_,dl,⟨v,r,e,E,G⟩=>⟨v,r,e,(by have e:=dl b (by simp[lY]);simp only[wS] at*;rw[e];exact E),hM.bk l r (fun c H=>dl c (by simp[lY,H])) G⟩
 | .d x::l,_,dl,⟨v,r,e,E,G⟩=>⟨v,r,e,E,hM.bk l r (fun c H=>dl c (by simpa[lY] using H)) G⟩
theorem dS.bk {ρ ρ':Nat->bo} {I:Nat->Prop} {w:World} (s:bC) (v:Value) (O:JT s=true) (dl: ∀c,s.has c=true->(ρ' c).bk=(ρ c).bk) (h:dS ρ I w s v):dS ρ' I w s v:=by
 cases s with
 |ptr c off=>
  have e:=dl c (by simp[bC.has,Nat.beq_eq]);simp only[dS] at*;rw[e];exact h
 |f1 c s i off=>
  have e:=dl c (by simp[bC.has,Nat.beq_eq]);simp only[dS] at*;rw[e];exact h
 |mp c=>
  have e:=dl c (by simp[bC.has,Nat.beq_eq]);simp only[dS] at*;rw[e];exact h
 |cT f l=>obtain⟨aD,e,h⟩:=h;exact⟨aD,e,hM.bk l aD dl h⟩
 |own c=>cases O
 |os c s off n=>cases O
 |d x=>exact h
 |el u x off=>exact h
 |dD=>exact h
 |bI u=>exact h
 |any=>trivial
theorem b'.bk {ρ ρ':Nat->bo} {I:Nat->Prop} {w:World}: ∀(l:List bC) (aD:List Value),l.all JT=true->(∀c,mq c l=true->(ρ' c).bk=(ρ c).bk)->b' ρ I w l aD->b' ρ' I w l aD
 | [],_,_,_,h=>h
 |s::l,_,O,dl,⟨v,r,e,E,G⟩=>by
  rw[List.all_cons,vj] at O;exact⟨v,r,e,dS.bk s v O.1 (fun c H=>dl c (by simp[mq,H])) E,b'.bk l r O.2 (fun c H=>dl c (by simp[mq,H])) G⟩
theorem jM.cells {l:List bC} (O:l.all JT=true):jM (.cells l):=by
 rintro ρ ρ' I F w p jY dl ag ⟨E,aD,T,G,al⟩;exact⟨fun b=>by rw[ag];exact E b,aD,T,by rw[ag];exact G,b'.bk l aD O dl al⟩
theorem jM.map {aJ aL:bx} {es:List (Z aJ×Z aL)}:jM (.map aJ aL es):=by
 rintro ρ ρ' I F w p jY dl ag ⟨E,bT,bU,G,al,aZ⟩;exact⟨fun b=>by rw[ag];exact E b,bT,bU,by rw[ag];exact G,al,aZ⟩
theorem jM.bA {L:List (Nat×bh)}:jM (.aG (.bA L)):=fun _ _ _ _ _ _ _ _ _ h=>h
theorem jM.iX {c:Nat} {bp:ay} (h: ∀d ch,ah bp d=some ch->jM ch):jM (.aG (.iX c bp)):=by
 rintro mr sd I F w p jY _ ag ⟨ρ,b8,E,G,al,aZ⟩
 have O: ∀d,(c5 ρ c jY d).bk=(ρ d).bk:=fun d=>by
  by_cases e:d=c
  .subst e;rw[c6,ag,E]
  .rw[de _ _ e]
 exact⟨c5 ρ c jY,b8,c6 ..,fun d ch J=>h d ch J ρ (c5 ρ c jY) _ _ _ (ρ d) (c5 ρ c jY d) (fun e _=>O e) (O d) (G d ch J),al,aZ⟩
def Fm:ay->Prop
 | []=>True
 |(_,ch)::bp=>jM ch/\Fm bp
theorem B4: ∀{bp:ay},Fm bp-> ∀d ch,ah bp d=some ch->jM ch
 | [],_,d,ch,J=>by cases J
 |(e,x)::bp,h,d,ch,J=>by
  rw[ca] at J
  split at J
  .injection J with J;subst J;exact h.1
  .exact B4 h.2 d ch J
def Fo (bp:ay) (bs:Nat->Nat) (I F:Nat->Prop) (w:World):Prop:=
 ∃(ρ:Nat->bo) (b8:Nat->Nat->Prop),(∀d ch,ah bp d=some ch->(ρ d).bk=bs d)/\(∀d ch,ah bp d=some ch->Holds ρ I (b8 d) w (ρ d) ch)/\
  (∀d cZ ch ch' b,ah bp d=some ch->ah bp cZ=some ch'->d≠cZ->b8 d b-> ¬b8 cZ b)/\ ∀b,F b↔ ∃d ch,ah bp d=some ch/\b8 d b
def bh.m6 (bp:ay) (bs:Nat->Nat):bh where
 R:=fun I F w _=>Fo bp bs I F w
 cg:=fun I F w I' w' p ⟨ρ,b8,aw,G,al,aZ⟩ V bj aR=>⟨ρ,b8,aw,fun d ch J=>Holds.cg V (fun b O=>bj b ((aZ b).2 ⟨d,ch,J,O⟩)) aR ch (fun _ _=>rfl) (G d ch J),al,aZ⟩
section
variable {ids:List Nat} {K:a1} {B:ay}
theorem df.mark (d m:Nat) (aA:gW ids K B m=true) (ba:d≠m):df ids K B (fun _:Nat=>K) (fun b=>(m,.co d (e6 b))::B):=by
 rintro N C a w ⟨hn,J,ρ,F,ar,av⟩;have cz:=kK aA
 obtain⟨bN,aY⟩:=ar.make (ch:=.co d (e6 (ρ d).bk)) (w':=w) aA (Below.refl _ _) ⟨0,none,0,0⟩ (fun _=>False) (fun _ h=>h.elim) (fun I _ _=>by
  show(e6 (ρ d).bk (c5 ρ m _ d)).R I _ w _;rw[de _ _ ba];exact⟨rfl,fun _ h=>h⟩)
 exact⟨(ρ d).bk,hn,J,_,_,bN,av.mono aY fun s c H=>de _ _ (fun e=>by subst e;rw[cz.1 s] at H;cases H)⟩
theorem af.place (d m b:Nat) (J:gW ids K B d=true) (aA:gW ids K B m=true) (ba:d≠m):af ids K B K ((m,.co d (e6 b))::B):=by
 rintro N C a w ⟨hn,l5,ρ,F,ar,av⟩;have h1:=kK J;have jn:=kK aA
 obtain⟨bN,aY⟩:=ar.step (B':=(m,.co d (e6 b))::B) (ρ':=c5 ρ d ⟨b,none,0,0⟩) (F':=c5 F m fun _=>False) (w':=w) (fun c=>c=m\/c=d) (fun c=>c=d) (cJ.refl _ _)
  (fun c ch H aA=>by
   rw[ca,if_neg (fun e=>aA (.inl e.symm))] at H;exact H)
  (fun c H=>de _ _ H) (fun c H=>de _ _ (fun e=>H (.inl e))) (fun c H e=>h1.2.2.2 (e▸H)) (fun c H=>.inr H)
  (fun c ch H _ j aa e=>by subst e;rw[h1.2.2.1 c ch H] at aa;cases aa)
  (fun c ch H aA aY=>by
   rw[ca] at H
   split at H
   .rename_i e;subst e;injection H with H
    subst H;rw[c6];show(e6 b (c5 ρ d _ d)).R _ _ w _;rw[c6];exact⟨rfl,fun _ h=>h⟩
   .rename_i e;rcases aA with aA |aA
    .exact absurd aA.symm e
    .rw[aA,h1.2.1] at H;cases H)
  (fun c ch H aA x hx=>by
   rw[ca] at H
   split at H
   .rename_i e;subst e;rw[c6] at hx;exact hx.elim
   .rename_i e;rcases aA with aA |aA
    .exact absurd aA.symm e
    .rw[aA,h1.2.1] at H;cases H)
  (fun c bX ch ch' x H cF aA gk JG hx=>by
   have key: ∀c ch,ah ((m,bd.co d (e6 b))::B) c=some ch->(c=m\/c=d)->c=m:=fun c ch H aA=>by
    rcases aA with aA |aA
    .exact aA
    .rw[ca,if_neg (fun e=>ba (aA.symm.trans e.symm)),aA,h1.2.1] at H
     cases H
   exact absurd ((key c ch H aA).trans (key bX ch' cF gk).symm) JG)
 exact⟨hn,l5,_,_,bN,av.mono aY fun s c H=>de _ _ (fun e=>by subst e;rw[h1.1 s] at H;cases H)⟩
def Fp (B:ay) (k9 bs:Nat->Nat):ay->Prop
 | []=>True
 |(d,_)::bp=>ah B (k9 d)=some (.co d (e6 (bs d)))/\Fp B k9 bs bp
theorem JU {k9 bs:Nat->Nat}: ∀{bp:ay},Fp B k9 bs bp-> ∀{d ch},ah bp d=some ch->ah B (k9 d)=some (.co d (e6 (bs d)))
 | [],_,d,ch,J=>by cases J
 |(e,x)::bp,h,d,ch,J=>by
  rw[ca] at J
  split at J
  .rename_i e;subst e;exact h.1
  .exact JU h.2 J
theorem af.JV (g:Nat) (bp:ay) (k9 bs:Nat->Nat) (c':kI B bp) (aA:Fp B k9 bs bp) (a6:ah B g=none):af ids K B K ((g,.aG (.m6 bp bs))::pq (cl bp) B):=by
 rintro N C a w ⟨hn,J,ρ,F,ar,av⟩;have aq: ∀{d ch},ah bp d=some ch->ah B d=some ch:=fun {d ch} h=>kk c' h
 have Fq:g∉cl bp:=fun h=>by obtain⟨ch,h⟩:=gl.1 h;rw[aq h] at a6;cases a6
 have key: ∀d ch,ah ((g,bd.aG (.m6 bp bs))::pq (cl bp) B) d=some ch->(d=g\/d∈cl bp)->d=g/\ch= .aG (.m6 bp bs):=fun d ch J aA=>by
  rw[ca] at J
  split at J
  .rename_i e;injection J with J;exact⟨e.symm,J.symm⟩
  .rename_i e;rcases aA with aA |aA
   .exact absurd aA.symm e
   .rw[xu,if_pos aA] at J;cases J
 obtain⟨bN,aY⟩:=ar.step (B':=(g,.aG (.m6 bp bs))::pq (cl bp) B) (ρ':=ρ) (F':=c5 F g (fun x=> ∃d ch,ah bp d=some ch/\F d x)) (w':=w) (fun d=>d=g\/d∈cl bp) (fun _=>False) (cJ.refl _ _)
  (fun d ch J aA=>by
   rw[ca,if_neg (fun e=>aA (.inl e.symm)),xu,if_neg (fun h=>aA (.inr h))] at J;exact J)
  (fun _ _=>rfl) (fun d aA=>de _ _ (fun e=>aA (.inl e))) (fun _ _ h=>h) (fun _ h=>h.elim) (fun _ _ _ _ _ _ h=>h)
  (fun d ch J gk aY=>by
   obtain⟨rfl,rfl⟩:=key d ch J gk;rw[c6];refine⟨ρ,F,fun d ch h=>?_,fun d ch h=>Holds.cg aY (fun _ _=>rfl) (ap0 _) ch (fun _ _=>rfl) (ar.holds d ch (aq h)),fun d cZ ch ch' b h h' ba=>ar.e9 d cZ ch ch' b (aq h) (aq h') ba,fun b=>Iff.rfl⟩;exact(ar.holds _ _ (JU aA h)).1)
  (fun d ch J gk x hx=>by
   obtain⟨rfl,rfl⟩:=key d ch J gk;rw[c6] at hx;obtain⟨cZ,ch',E,G⟩:=hx;exact⟨(ar.own cZ ch' (aq E) x G).1,.inl ⟨cZ,ch',aq E,.inr (gl.2 ⟨ch',E⟩),G⟩⟩)
  (fun d cZ ch ch' x J dK acf vX ba=>absurd ((key d ch J acf).1.trans (key cZ ch' dK vX).1.symm) ba)
 exact⟨hn,J,ρ,_,bN,av.mono aY fun _ _ _=>rfl⟩
theorem af.JW (g:Nat) (bp:ay) (k9 bs:Nat->Nat) (a6:ah B g=some (.aG (.m6 bp bs))) (aA:Fp B k9 bs bp) (ab:((cl bp).all fun d=>(ah B d).isNone)=true) (ha:vD (cl bp) bp=true) (xb: ∀d ch,ah bp d=some ch->jM ch):af ids K B K (bp++gL B g):=by
 rintro N C a w ⟨hn,J,ρ,F,ar,av⟩;obtain⟨zw,b8,E,G,al,aZ⟩:Fo bp bs (bZ C B F w) (F g) w:=ar.holds g _ a6
 have zt: ∀{d ch},ah bp d=some ch->ah B d=none:=fun {d ch} h=>by
  have:=ar4.1 ab d (gl.2 ⟨ch,h⟩);simpa using this
 have Fq:ah bp g=none:=by
  cases e:ah bp g with
  |none=>rfl
  |some ch=>rw[zt e] at a6;cases a6
 have jI: ∀{d ch},ah bp d=some ch->(ρ d).bk=(zw d).bk:=fun {d ch} h=>((ar.holds _ _ (JU aA h)).1:(ρ d).bk=bs d).trans (E d ch h).symm
 have l3: ∀d ch,ah (bp++gL B g) d=some ch->ah bp d=some ch\/(ah bp d=none/\d≠g/\ah B d=some ch):=fun d ch h=>by
  rw[iC] at h
  cases e:ah bp d with
  |some x=>rw[e] at h;exact .inl h
  |none=>
   rw[e,hk] at h;simp only at h
   split at h
   .cases h
   .rename_i ba;exact .inr ⟨rfl,fun e=>ba e.symm,h⟩
 let cI:Nat->Nat->Prop:=fun d=>if(ah bp d).isSome=true then b8 d else F d
 have aj: ∀{d ch},ah bp d=some ch->cI d=b8 d:=fun {d ch} h=>if_pos (by rw[h];rfl)
 have ap: ∀{d},ah bp d=none->cI d=F d:=fun {d} h=>if_neg (by rw[h];decide)
 obtain⟨bN,aY⟩:=ar.step (B':=bp++gL B g) (ρ':=ρ) (F':=cI) (w':=w) (fun d=>d=g\/(ah bp d).isSome=true) (fun _=>False) (cJ.refl _ _)
  (fun d ch J aA=>by
   rcases l3 d ch J with h |⟨_,_,h⟩
   .exact absurd (.inr (by rw[h];rfl)) aA
   .exact h)
  (fun _ _=>rfl) (fun d aA=>ap (by cases e:ah bp d with
   |none=>rfl
   |some x=>exact absurd (.inr (by rw[e];rfl)) aA)) (fun _ _ h=>h) (fun _ h=>h.elim) (fun _ _ _ _ _ _ h=>h)
  (fun d ch J aA aY=>by
   rcases l3 d ch J with h |⟨h,ba,h'⟩
   .rw[aj h];refine xb d ch h zw ρ _ _ w (zw d) (ρ d) (fun c H=>?_) (jI h) (Holds.cg aY (fun _ _=>rfl) (ap0 _) ch (fun _ _=>rfl) (G d ch h));have:=bd.km (xg ha h) H;obtain⟨ch',h'⟩:=gl.1 this;exact jI h'
   .rcases aA with aA |aA
    .exact absurd aA ba
    .rw[h] at aA;cases aA)
  (fun d ch J aA x hx=>by
   rcases l3 d ch J with h |⟨h,ba,h'⟩
   .rw[aj h] at hx;have:F g x:=(aZ x).2 ⟨d,ch,h,hx⟩;exact⟨(ar.own g _ a6 x this).1,.inl ⟨g,_,a6,.inl rfl,this⟩⟩
   .rcases aA with aA |aA
    .exact absurd aA ba
    .rw[h] at aA;cases aA)
  (fun d cZ ch ch' x J dK aA gk ba hx dE=>by
   rcases l3 d ch J with h |⟨h,hn,_⟩
   .rcases l3 cZ ch' dK with h' |⟨h',uA,_⟩
    .rw[aj h] at hx;rw[aj h'] at dE;exact al d cZ ch ch' x h h' ba hx dE
    .rcases gk with gk |gk
     .exact absurd gk uA
     .rw[h'] at gk;cases gk
   .rcases aA with aA |aA
    .exact absurd aA hn
    .rw[h] at aA;cases aA)
 exact⟨hn,J,ρ,_,bN,av.mono aY fun _ _ _=>rfl⟩
def bh.pr (am:Nat) (o:bh) (q:bo):bh where
 R:=fun I F w p=>q.bk=am/\o.R I F w p
 cg:=fun I F w I' w' p h V bj aR=>⟨h.1,o.cg I F w I' w' p h.2 V bj aR⟩
theorem af.pr (g c am:Nat) {o sg:bh} (a6:ah B g=some (.aG o)) (H:ah B c=some (.aG (sg.at am))) (ba:g≠c):af ids K B K ((c,.aG sg)::(g,.co c (.pr am o))::B):=by
 rintro N C a w ⟨hn,J,ρ,F,ar,av⟩;have aI:(ρ c).bk=am:=(ar.holds c _ H).1;obtain⟨kl,m7⟩:=ar.hN (w':=w) (ch:=.co c (.pr am o)) a6 (cJ.refl _ _) fun I bb=>⟨aI,o.cg _ _ _ _ _ _ (ar.holds g _ a6) bb (fun _ _=>rfl) (ap0 _)⟩
 have dP:ah ((g,bd.co c (.pr am o))::B) c=some (.aG (sg.at am)):=by rw[ca,if_neg ba];exact H
 obtain⟨iK,ul⟩:=kl.hN (w':=w) (ch:=.aG sg) dP (cJ.refl _ _) fun I bb=>sg.cg _ _ _ _ _ _ (kl.holds c _ dP).2 bb (fun _ _=>rfl) (ap0 _)
 exact⟨hn,J,ρ,F,iK,av.mono (m7.trans ul) fun _ _ _=>rfl⟩
theorem af.acg (g c am:Nat) {o sg:bh} (a6:ah B g=some (.co c (.pr am o))) (H:ah B c=some (.aG sg)) (ba:g≠c):af ids K B K ((c,.aG (sg.at am))::(g,.aG o)::B):=by
 rintro N C a w ⟨hn,J,ρ,F,ar,av⟩;have bl:(bh.pr am o (ρ c)).R (bZ C B F w) (F g) w (ρ g):=ar.holds g _ a6;obtain⟨kl,m7⟩:=ar.hN (w':=w) (ch:=.aG o) a6 (cJ.refl _ _) fun I bb=>o.cg _ _ _ _ _ _ bl.2 bb (fun _ _=>rfl) (ap0 _)
 have dP:ah ((g,bd.aG o)::B) c=some (.aG sg):=by rw[ca,if_neg ba];exact H
 obtain⟨iK,ul⟩:=kl.hN (w':=w) (ch:=.aG (sg.at am)) dP (cJ.refl _ _) fun I bb=>⟨bl.1,sg.cg _ _ _ _ _ _ (kl.holds c _ dP) bb (fun _ _=>rfl) (ap0 _)⟩
 exact⟨hn,J,ρ,F,iK,av.mono (m7.trans ul) fun _ _ _=>rfl⟩
theorem af.ach (g c m am:Nat) {o:bh} (a6:ah B g=some (.co c (.pr am o))) (aA:gW ids K B m=true) (ba:c≠m):af ids K B K ((m,.co c (e6 am))::B):=by
 rintro N C a w ⟨hn,J,ρ,F,ar,av⟩;have cz:=kK aA;have bl:(bh.pr am o (ρ c)).R (bZ C B F w) (F g) w (ρ g):=ar.holds g _ a6
 obtain⟨bN,aY⟩:=ar.make (ch:=.co c (e6 am)) (w':=w) aA (Below.refl _ _) ⟨0,none,0,0⟩ (fun _=>False) (fun _ h=>h.elim) (fun I _ _=>by
  show(e6 am (c5 ρ m _ c)).R I _ w _;rw[de _ _ ba];exact⟨bl.1,fun _ h=>h⟩)
 exact⟨hn,J,_,_,bN,av.mono aY fun s c H=>de _ _ (fun e=>by subst e;rw[cz.1 s] at H;cases H)⟩
theorem af.eV (g c am:Nat) {o:bh} (a6:ah B g=some (.co c (.pr am o))):af ids K B K ((g,.aG o)::B):=by
 rintro N C a w ⟨hn,J,ρ,F,ar,av⟩;have bl:(bh.pr am o (ρ c)).R (bZ C B F w) (F g) w (ρ g):=ar.holds g _ a6;obtain⟨kl,m7⟩:=ar.hN (w':=w) (ch:=.aG o) a6 (cJ.refl _ _) fun I bb=>o.cg _ _ _ _ _ _ bl.2 bb (fun _ _=>rfl) (ap0 _)
 exact⟨hn,J,ρ,F,kl,av.mono m7 fun _ _ _=>rfl⟩
theorem af.aci (g c m am:Nat) {o:bh} (a6:ah B g=some (.aG o)) (aA:ah B m=some (.co c (e6 am))):af ids K B K ((g,.co c (.pr am o))::B):=by
 rintro N C a w ⟨hn,J,ρ,F,ar,av⟩;have aI:(ρ c).bk=am:=(ar.holds m _ aA).1;obtain⟨kl,m7⟩:=ar.hN (w':=w) (ch:=.co c (.pr am o)) a6 (cJ.refl _ _) fun I bb=>⟨aI,o.cg _ _ _ _ _ _ (ar.holds g _ a6) bb (fun _ _=>rfl) (ap0 _)⟩
 exact⟨hn,J,ρ,F,kl,av.mono m7 fun _ _ _=>rfl⟩
theorem af.acj (c b:Nat) {o:bh} (H:ah B c=some (.aG (o.at b))):af ids K B K ((c,.aG o)::B):=by
 rintro N C a w ⟨hn,J,ρ,F,ar,av⟩;obtain⟨kl,m7⟩:=ar.hN (w':=w) (ch:=.aG o) H (cJ.refl _ _) fun I bb=>o.cg _ _ _ _ _ _ (ar.holds c _ H).2 bb (fun _ _=>rfl) (ap0 _)
 exact⟨hn,J,ρ,F,kl,av.mono m7 fun _ _ _=>rfl⟩
theorem ps {N:Nat} {C:e8} {a:Act} {w:World} {ρ:Nat->bo} {F:Nat->Nat->Prop} (ar:Mem ids C B ρ F w) {m d b:Nat} (aA:ah B m=some (.co d (e6 b))):(ρ d).bk=b:=(ar.holds m _ aA).1
theorem af.Fr (s d m b:Nat) (ax:dA K s= .c (.one (.ptr d 0))) (aA:ah B m=some (.co d (e6 b))):af ids K B ((s,.c (.one (.d (.aM (some b)))))::K) B:=by
 rintro N C a w ⟨hn,J,ρ,F,ar,av⟩;refine⟨hn,J,ρ,F,ar,fun t=>?_⟩;rw[kc]
 split
 .rename_i e;subst e;have h:=av s;rw[ax] at h;have e:=ps (N:=N) (a:=a) ar aA;rw[<-e];exact h
 .exact av t
theorem af.JX (s d m b:Nat) (ax:dA K s= .c (.one (.d (.aM (some b))))) (aA:ah B m=some (.co d (e6 b))):af ids K B ((s,.c (.one (.ptr d 0)))::K) B:=by
 rintro N C a w ⟨hn,J,ρ,F,ar,av⟩;refine⟨hn,J,ρ,F,ar,fun t=>?_⟩;rw[kc]
 split
 .rename_i e;subst e;have h:=av s;rw[ax] at h;have e:=ps (N:=N) (a:=a) ar aA;rw[<-e] at h;exact h
 .exact av t
theorem af.Qz (s d b:Nat) {o:bh} (ax:dA K s= .c (.one (.d (.aM (some b))))) (J:ah B d=some (.aG (o.at b))):af ids K B ((s,.c (.one (.ptr d 0)))::K) B:=by
 rintro N C a w ⟨hn,l5,ρ,F,ar,av⟩;refine⟨hn,l5,ρ,F,ar,fun t=>?_⟩;rw[kc]
 split
 .rename_i e;subst e;have h:=av s;rw[ax] at h;have e:(ρ d).bk=b:=(ar.holds d _ J).1;rw[<-e] at h;exact h
 .exact av t
theorem af.ack (s f hz i5 m1 m2 b1 b2:Nat) (ax:dA K s= .c (.one (.cT f [.p hz 0,.p i5 0]))) (E:ah B m1=some (.co hz (e6 b1))) (G:ah B m2=some (.co i5 (e6 b2))):af ids K B ((s,.c (.one (.d (.fn (f,[b1,b2])))))::K) B:=by
 rintro N C a w ⟨hn,J,ρ,F,ar,av⟩;refine⟨hn,J,ρ,F,ar,fun t=>?_⟩;rw[kc]
 split
 .rename_i e;subst e;have h:=av s;rw[ax] at h;obtain⟨aD,e,kH,r1,aj,g1,v2,r2,ap,g2,cX⟩:=h;have cf:=ps (N:=N) (a:=a) ar E;have cM:=ps (N:=N) (a:=a) ar G;have g1:kH= .pointer (some ⟨(ρ hz).bk,0,none⟩):=g1;have g2:v2= .pointer (some ⟨(ρ i5).bk,0,none⟩):=g2;have cX:r2=[]:=cX;show a.tmps.getD s undef=mo (f,[b1,b2]);rw[e,aj,ap,g1,g2,cX,cf,cM];rfl
 .exact av t
end
end
section
section
variable {P:Program} {ids:List Nat} {K:a1} {B:ay} {o:Oper}
abbrev B5 (T b:Nat):aQ:=.c (.one (.bI (.iface T (.pointer (some ⟨b,0,none⟩)))))
abbrev QA:aQ:=.c (.one (.bI .nilIface))
theorem acl {T e f:Nat} {name:String} {c7:TypeInfo} {m:Method} {p:Value} {w:World} {fuel:Nat} (aI:P.info? T=some c7) (aA:c7.methods.find? (·.name == name)=some m) (ag:m.path= #[]) (j0:m.func=some (f,true)) (a8:P.underlying T=some (.pointer e)):
  (Go.method (fuel+1) T p name).run P w= .ok (f,p) w:=by
 unfold Go.method;simp[typeInfo,aI,aA,ag,j0,Go.follow,Go.receiverAt,underlying,a8,Place.get,go_sem]
theorem Fs {x:Operand} {T e b:Nat} (ai:o.op= .makeInterface T x) (a8:P.underlying T=some (.pointer e)) (hx:a7 K x= .c (.one (.d (.aM (some b))))) (N:Nat):bB P N ids o K B (B5 T b) ⟨[],[],[]⟩:=by
 have m1:x∈o.op.operands:=by rw[ai];simp[Op.operands]
 refine bB.val fun K' B' g1 g2 C ρ F a w ar av=>?_
 have aj:a.eval x= .pointer (some ⟨b,0,none⟩):=av.ev ((g1 x m1).trans hx);refine⟨.iface T (.pointer (some ⟨b,0,none⟩)),?_,rfl⟩;simp only[execOp,ai,aj];simp[Instr.makeInterface,underlying,a8,go_sem]
theorem QB {T:Nat} {k9:Array (String×TypeId)} {v:Value} {w:World} (a8:P.underlying T=some (.interface k9)) (bx:Nat) (d:Nat):(Op.equalIn (d+1) T (.iface bx v) .nilIface).run P w= .ok false w:=by
 unfold Op.equalIn;simp[underlying,a8,go_sem]
theorem QC {T:Nat} {k9:Array (String×TypeId)} {w:World} (a8:P.underlying T=some (.interface k9)) (d:Nat):(Op.equalIn (d+1) T .nilIface .nilIface).run P w= .ok true w:=by
 unfold Op.equalIn;simp[underlying,a8,go_sem]
theorem pt {x:Operand} {T fE bx b:Nat} {k9:Array (String×TypeId)} (ai:o.op= .binOp .eql T x (.const .nilIface) fE) (a8:P.underlying T=some (.interface k9)) (hx:a7 K x=B5 bx b) (N:Nat):bB P N ids o K B (qT false) ⟨[],[],[]⟩:=by
 have m1:x∈o.op.operands:=by rw[ai];simp[Op.operands]
 refine bB.val fun K' B' g1 g2 C ρ F a w ar av=>?_
 have aj:a.eval x= .iface bx (.pointer (some ⟨b,0,none⟩)):=av.ev ((g1 x m1).trans hx);refine⟨.bool false,?_,rfl⟩;simp only[execOp,ai,aj];have ap:(Op.equal T (.iface bx (.pointer (some ⟨b,0,none⟩))) .nilIface).run P w= .ok false w:=QB a8 bx 9999;simp[eqGuard,binOp,ap,Act.eval,go_sem]
theorem Ft {x:Operand} {T fE bx b:Nat} {k9:Array (String×TypeId)} (ai:o.op= .binOp .neq T x (.const .nilIface) fE) (a8:P.underlying T=some (.interface k9)) (hx:a7 K x=B5 bx b) (N:Nat):bB P N ids o K B (qT true) ⟨[],[],[]⟩:=by
 have m1:x∈o.op.operands:=by rw[ai];simp[Op.operands]
 refine bB.val fun K' B' g1 g2 C ρ F a w ar av=>?_
 have aj:a.eval x= .iface bx (.pointer (some ⟨b,0,none⟩)):=av.ev ((g1 x m1).trans hx);refine⟨.bool true,?_,rfl⟩;simp only[execOp,ai,aj];have ap:(Op.equal T (.iface bx (.pointer (some ⟨b,0,none⟩))) .nilIface).run P w= .ok false w:=QB a8 bx 9999;simp[eqGuard,binOp,ap,Act.eval,go_sem]
theorem QD {x:Operand} {T fE:Nat} {k9:Array (String×TypeId)} (ai:o.op= .binOp .eql T x (.const .nilIface) fE) (a8:P.underlying T=some (.interface k9)) (hx:a7 K x=QA) (N:Nat):bB P N ids o K B (qT true) ⟨[],[],[]⟩:=by
 have m1:x∈o.op.operands:=by rw[ai];simp[Op.operands]
 refine bB.val fun K' B' g1 g2 C ρ F a w ar av=>?_
 have aj:a.eval x= .nilIface:=av.ev ((g1 x m1).trans hx);refine⟨.bool true,?_,rfl⟩;simp only[execOp,ai,aj];have ap:(Op.equal T .nilIface .nilIface).run P w= .ok true w:=QC a8 9999;simp[eqGuard,binOp,ap,Act.eval,go_sem]
theorem qe {x:Operand} {T fE:Nat} {k9:Array (String×TypeId)} (ai:o.op= .binOp .neq T x (.const .nilIface) fE) (a8:P.underlying T=some (.interface k9)) (hx:a7 K x=QA) (N:Nat):bB P N ids o K B (qT false) ⟨[],[],[]⟩:=by
 have m1:x∈o.op.operands:=by rw[ai];simp[Op.operands]
 refine bB.val fun K' B' g1 g2 C ρ F a w ar av=>?_
 have aj:a.eval x= .nilIface:=av.ev ((g1 x m1).trans hx);refine⟨.bool false,?_,rfl⟩;simp only[execOp,ai,aj];have ap:(Op.equal T .nilIface .nilIface).run P w= .ok true w:=QC a8 9999;simp[eqGuard,binOp,ap,Act.eval,go_sem]
theorem acm {ev:Operand->Value} {f:FuncId} {c:Call} {x:Operand} {xs:List Operand} {p:Value} {w:World} {T e:Nat} {name:String} {c7:TypeInfo} {m:Method} {fuel:Nat} (hf:jl P f=true) (ai:o.op= .call c) (E:c.callee= .invoke x name) (G:c.args.toList=xs) (ug:ev x= .iface T p)
  (hn:P.types.size+Made.depth=fuel+1) (aI:P.info? T=some c7) (aA:c7.methods.find? (·.name == name)=some m) (ag:m.path= #[]) (j0:m.func=some (f,true)) (a8:P.underlying T=some (.pointer e)):(execOp ev o).run P w= .ok (.enter f (p::xs.map ev).toArray) w:=by
 have ft:c.args=xs.toArray:=by rw[<-G]
 have acn:=acl (w:=w) (p:=p) (fuel:=fuel) aI aA ag j0 a8;obtain⟨r3,args,cq⟩:=c;simp only at E ft;subst E ft;unfold jl at hf
 split at hf
 .rename_i fn aco;simp only[Bool.not_eq_true',Bool.or_eq_false_iff,beq_eq_false_iff_ne] at hf;have G: ¬fn.body=none:=fun e=>by rw[e] at hf;simp at hf
  have acp:(Go.method (P.types.size+100) T p name).run P w= .ok (f,p) w:=by rw[show P.types.size+100=fuel+1 from hn];exact acn
  simp[execOp,ai,resolve,invoke,ug,callMethod,callFunc,go_sem,aco,acp];rw[if_neg hf.1,if_neg G,List.take_of_length_le (by rw[aq3];exact ap0 _)]
 .cases hf
theorem acq {f:FuncId} {c:Call} {x:Operand} {b:Nat} {xs:List Operand} {aK:ay} {res:aQ} {aP:ay} {T e:Nat} {name:String} {c7:TypeInfo} {m:Method} {fuel:Nat} (ai:o.op= .call c) (E:c.callee= .invoke x name) (G:c.args.toList=xs) (hx:a7 K x=B5 T b)
  (hn:P.types.size+Made.depth=fuel+1) (aI:P.info? T=some c7) (aA:c7.methods.find? (·.name == name)=some m) (ag:m.path= #[]) (j0:m.func=some (f,true)) (a8:P.underlying T=some (.pointer e))
  (hf:Fn P f (.c (.one (.d (.aM (some b))))::xs.map (a7 K)) aK [] res aP) (hP:kI B aK) (bu:mv aK [] aP=true) (N:Nat):
  bB P N ids o K B res ⟨cl aK,[],iy aK aP⟩:=by
 have mem: ∀aB∈xs,aB∈o.op.operands:=fun aB aR=>by
  rw[ai];simp only[Op.operands,Call.operands,Array.mem_append];exact .inr (Array.mem_toList_iff.1 (by rw[G];exact aR))
 have xc:x∈o.op.operands:=by
  rw[ai];simp only[Op.operands,Call.operands,Array.mem_append,E];exact .inl au7
 obtain⟨v,e,⟨rfl,rfl⟩,aE,_⟩:cC P N ids o K B (fun v e=>v=res/\e=⟨cl aK,[],iy aK aP⟩):=Bj (args:=.c (.one (.d (.aM (some b))))::xs.map (a7 K)) mem (fun K' ρ I a w g1 av=>by
  have e:a.eval x= .iface T (.pointer (some ⟨b,0,none⟩)):=av.ev ((g1 x xc).trans hx);refine⟨.pointer (some ⟨b,0,none⟩)::xs.map a.eval,fun fR=>acm fR ai E G e hn aI aA ag j0 a8,au7,fun i v x az hx=>?_⟩
  match i with
  |0=>
   simp only[aq5,ap4] at az hx;subst az hx;exact rfl
  |i+1=>exact y4 mem g1 av i v x (by simpa using az) (by simpa using hx)) ⟨aK,[],res,aP,hf,hP,by rw[bu];rfl,by rw[rT];exact⟨rfl,rfl⟩⟩
 exact aE
end
end
section
def j4:List (Nat×bh)->Nat->List (Nat×bh)
 | [],_=>[]
 |(a,o)::L,b=>if a=b then L else(a,o)::j4 L b
theorem JY {a b c:Prop}:(a\/b\/c)↔(b\/a\/c):=⟨fun h=>by
 rcases h with h |h |h
 .exact .inr (.inl h)
 .exact .inl h
 .exact .inr (.inr h),fun h=>by
 rcases h with h |h |h
 .exact .inr (.inl h)
 .exact .inl h
 .exact .inr (.inr h)⟩
theorem fb.k6 {I:Nat->Prop} {w:World} {b:Nat} {o:bh}: ∀{L:List (Nat×bh)} {F:Nat->Prop},eg L b=some o->fb I w L F-> ∃(cu cI:Nat->Prop) (p:bo),(∀x,F x↔cu x\/cI x)/\(∀x,cu x-> ¬cI x)/\p.bk=b/\o.R I cu w p/\fb I w (j4 L b) cI
 | [],F,h,_=>by cases h
 |(a,q)::L,F,h,⟨oM,qa,p,E,G,al,aZ,bK⟩=>by
  unfold eg at h;unfold j4
  split at h
  .rename_i e;injection h with h
   subst h;rw[if_pos e];exact⟨oM,qa,p,E,G,al.trans e,aZ,bK⟩
  .rename_i e;rw[if_neg e];obtain⟨cu,cI,dY,g1,g2,cX,jo,BL⟩:=fb.k6 h bK;refine⟨cu,fun x=>oM x\/cI x,dY,fun x=>by rw[E,g1];exact JY,fun x hx aC=>?_,cX,jo,oM,cI,p,fun x=>Iff.rfl,fun x hx aC=>G x hx ((g1 x).2 (.inr aC)),al,aZ,BL⟩;rcases aC with aC |aC
   .exact G x aC ((g1 x).2 (.inl hx))
   .exact g2 x hx aC
theorem fb.JZ {I:Nat->Prop} {w:World} {b:Nat} {o o':bh} {cu:Nat->Prop} {p:bo} (ai:o'.R I cu w p) (ag:p.bk=b): ∀{L:List (Nat×bh)} {F:Nat->Prop},eg L b=some o->fb I w (j4 L b) F->(∀x,cu x-> ¬F x)->fb I w (e5 L b o') (fun x=>cu x\/F x)
 | [],F,h,_,_=>by cases h
 |(a,q)::L,F,h,J,eo=>by
  unfold eg at h;unfold j4 at J;unfold e5
  split at h
  .rename_i e;rw[if_pos e] at J⊢;exact⟨cu,F,p,fun x=>Iff.rfl,eo,ag.trans e.symm,ai,J⟩
  .rename_i e;rw[if_neg e] at J⊢;obtain⟨oM,qa,r,E,G,al,aZ,bK⟩:=J
   refine⟨oM,fun x=>cu x\/qa x,r,fun x=>by
    show(cu x\/F x)↔(oM x\/(cu x\/qa x));rw[E];exact JY,fun x hx aC=>?_,al,aZ,fb.JZ ai ag h bK fun x hx aC=>eo x hx ((E x).2 (.inr aC))⟩
   rcases aC with aC |aC
   .exact eo x aC ((E x).2 (.inl hx))
   .exact G x hx aC
theorem xz {o:bh} {b:Nat}: ∀{L:List (Nat×bh)},eg L b=some o->e5 L b o=L
 | [],h=>by cases h
 |(a,q)::L,h=>by
  unfold eg at h;unfold e5
  split at h
  .rename_i e;injection h with h
   rw[if_pos e,h]
  .rename_i e;rw[if_neg e,xz h]
section
variable {ids:List Nat} {K:a1} {B:ay}
theorem af.B6 (q c b:Nat) {o:bh} {L:List (Nat×bh)} (aV:ah B q=some (.aG (.bA L))) (cW:eg L b=some o) (H:gW ids K B c=true):af ids K B K ((c,.aG (o.at b))::(q,.aG (.bA (j4 L b)))::B):=by
 rintro N C a w ⟨hn,J,ρ,F,ar,av⟩;have f:=kK H;obtain⟨cu,cI,p,E,G,al,aZ,bK⟩:=fb.k6 cW (ar.holds q _ aV:fb _ w L (F q))
 obtain⟨bN,aY⟩:=ar.split (K:=K) (iT:=.aG (.bA (j4 L b))) (oC:=.aG (o.at b)) aV H p cI cu (fun x hx=>(E x).2 (.inr hx)) (fun x hx=>(E x).2 (.inl hx)) (fun x hx aC=>G x aC hx)
  (fun I bb=>bK.cg bb (ap0 _) (fun _ _=>rfl)) (fun I bb=>⟨al,o.cg _ _ _ _ _ _ aZ bb (fun _ _=>rfl) (ap0 _)⟩)
 exact⟨hn,J,_,_,bN,av.mono aY fun s d J=>de _ _ (fun e=>by subst e;rw[f.1 s] at J;cases J)⟩
theorem af.QE (q c b:Nat) {o o':bh} {L:List (Nat×bh)} (aV:ah B q=some (.aG (.bA (j4 L b)))) (H:ah B c=some (.aG (o'.at b))) (cW:eg L b=some o) (ba:q≠c):af ids K B K ((q,.aG (.bA (e5 L b o')))::gL B c):=by
 rintro N C a w ⟨hn,J,ρ,F,ar,av⟩;have bn:fb (bZ C B F w) w (j4 L b) (F q):=ar.holds q _ aV;have aE:(ρ c).bk=b/\o'.R (bZ C B F w) (F c) w (ρ c):=ar.holds c _ H
 obtain⟨bN,aY⟩:=ar.Fd (w':=w) (ch:=.aG (.bA (e5 L b o'))) aV H ba (fun x=>F c x\/F q x) (fun x hx=>hx.symm) (cJ.refl _ _) fun I bb=>
  (fb.JZ aE.2 aE.1 cW bn (fun x hx aC=>ar.e9 c q _ _ x H aV (Ne.symm ba) hx aC)).cg bb (ap0 _) fun _ _=>rfl
 exact⟨hn,J,ρ,_,bN,av.mono aY fun _ _ _=>rfl⟩
theorem af.acr (q c b:Nat) {o:bh} {bp:ay} {bs:Nat->Nat} {L:List (Nat×bh)} (aV:ah B q=some (.aG (.bA (j4 L b)))) (H:ah B c=some (.aG (.m6 bp bs))) (cW:eg L b=some o) (ba:q≠c):af ids K B K ((q,.aG (.bA (e5 L b (.m6 bp bs))))::gL B c):=by
 rintro N C a w ⟨hn,J,ρ,F,ar,av⟩;have bn:fb (bZ C B F w) w (j4 L b) (F q):=ar.holds q _ aV;have aE:Fo bp bs (bZ C B F w) (F c) w:=ar.holds c _ H
 obtain⟨bN,aY⟩:=ar.Fd (w':=w) (ch:=.aG (.bA (e5 L b (.m6 bp bs)))) aV H ba (fun x=>F c x\/F q x) (fun x hx=>hx.symm) (cJ.refl _ _) fun I bb=>
  (fb.JZ (o':=.m6 bp bs) (p:=⟨b,none,0,0⟩) aE rfl cW bn (fun x hx aC=>ar.e9 c q _ _ x H aV (Ne.symm ba) hx aC)).cg bb (ap0 _) fun _ _=>rfl
 exact⟨hn,J,ρ,_,bN,av.mono aY fun _ _ _=>rfl⟩
theorem Fn.acs {P:Program} {f:FuncId} {c q am:Nat} {args:List aQ} {res:aQ} {bp:ay} {bs:Nat->Nat} {M:List (Nat×bh)} (h:Fn P f (.c (.one (.ptr c 0))::args) bp [] res bp) (ar:eg M am=some (.m6 bp bs)) (H:bs c=am) (B7:(ah bp c).isSome=true) (ha:(args.all fun v=>v.iW [])=true) (aF:res.iW []=true):
  Fn P f (.c (.one (.d (.aM (some am))))::args) [(q,.aG (.bA M))] [] res [(q,.aG (.bA M))]:=by
 obtain⟨fR,h⟩:=h;refine⟨fR,fun ρ F I w bW bb cV bj eo b6 dt=>?_⟩;have aV:ah [(q,bd.aG (.bA M))] q=some (.aG (.bA M)):=by rw[ca,if_pos rfl]
 have xA: ∀{d ch},ah [(q,bd.aG (.bA M))] d=some ch->d=q/\ch= .aG (.bA M):=fun {d ch} J=>by
  rw[ca] at J
  split at J
  .rename_i e;injection J with J;exact⟨e.symm,J.symm⟩
  .cases J
 have bn:fb I w M (F q):=cV q _ aV;obtain⟨cu,cI,p,cf,cM,eb,eA,uu⟩:=bn.out ar;obtain⟨zw,b8,g1,g2,cX,jo⟩:Fo bp bs I cu w:=eA;have e4: ∀{v:aQ},v.iW []=true-> ∀d,v.has d=true-> ∀(ρ ρ':Nat->bo),ρ' d=ρ d:=fun {v} az d J _ _=>absurd (aQ.km az J) List.not_mem_nil
 have J0: ∀y,(∃d ch,ah bp d=some ch/\b8 d y)-> ∃d ch,ah [(q,bd.aG (.bA M))] d=some ch/\F d y:=fun y aC=>⟨q,_,aV,(cf y).2 (.inl ((jo y).2 aC))⟩
 obtain⟨acu,r'⟩:=as8.1 B7
 match bW,b6 with
 |v0::bW,b6=>
  have xr:v0= .pointer (some ⟨am,0,none⟩):=dt 0 _ v0 rfl rfl;refine(h zw b8 I w (v0::bW) bb g2 (fun d ch J b O=>bj q _ aV b ((cf b).2 (.inl ((jo b).2 ⟨d,ch,J,O⟩)))) cX (by simpa using b6) ?_).mono ?_
  .intro i v x az hx
   match i with
   |0=>
    simp only[aq5,ap4] at az hx;subst az hx;show v0= .pointer (some ⟨(zw c).bk,0,none⟩);rw[g1 c acu r',H];exact xr
   |i+1=>
    have oE:args[i]? =some v:=by simpa using az
    have:=ar4.1 ha v (List.mem_of_getElem? oE);exact ct.mono (cd.refl _ _) v x (fun d J=>e4 this d J _ _) (dt (i+1) v x (by simpa using az) hx)
  .rintro e w' ⟨x,ρ',F',rfl,cz,dl,I',i6,gA,lz,aE,h2,sa⟩;have iV: ∀y,cI y-> ¬ ∃d ch,ah bp d=some ch/\b8 d y:=fun y aC kL=>cM y ((jo y).2 kL) aC
   have sb: ∀y,cI y->y < w.heap.size/\ ¬I y:=fun y aC=>bj q _ aV y ((cf y).2 (.inr aC))
   have mC: ∀y,cI y->w'.heap[y]? =w.heap[y]? :=fun y aC=>cz.block y (sb y aC).1 (iV y aC)
   have tg: ∀y,(∃d ch,ah bp d=some ch/\F' d y)-> ¬cI y:=by
    rintro y ⟨d,ch,J,aC⟩ BN;rcases(aE d ch J y aC).2.2 with h |h
    .exact iV y BN h
    .have:=(sb y BN).1;omega
   have oF:=uu I' w' (.m6 bp bs) (fun y=> ∃d ch,ah bp d=some ch/\F' d y) p i6 cz.size mC eb
    ⟨ρ',F',fun d ch J=>by rw[dl d List.not_mem_nil];exact g1 d ch J,lz,h2,fun b=>Iff.rfl⟩ tg
   rw[xz ar] at oF;refine⟨x,ρ,fun d=>if d=q then(fun y=>(∃d ch,ah bp d=some ch/\F' d y)\/cI y) else F' d,rfl,cz.mono fun y _ aC=>J0 y aC,fun d _=>rfl,I',i6,fun y aC=>⟨(gA y aC).1,?_⟩,?_,?_,?_,?_⟩
   .rcases(gA y aC).2 with h |h |h
    .exact .inl h
    .exact .inr (.inl (J0 y h))
    .exact .inr (.inr h)
   .intro d ch J;obtain⟨rfl,rfl⟩:=xA J;simp only[if_true];exact oF
   .intro d ch J y aC;obtain⟨rfl,rfl⟩:=xA J;simp only[if_true] at aC;rcases aC with⟨cZ,ch',dK,aC⟩ |aC
    .obtain⟨b4,ci,a3⟩:=aE cZ ch' dK y aC;exact⟨b4,ci,a3.imp (J0 y) id⟩
    .refine⟨Nat.lt_of_lt_of_le (sb y aC).1 cz.size,fun aI=>?_,.inl ⟨d,_,aV,(cf y).2 (.inr aC)⟩⟩;rcases(gA y aI).2 with h |h |h
     .exact(sb y aC).2 h
     .exact iV y aC h
     .have:=(sb y aC).1;omega
   .intro d cZ ch ch' y J dK ba;exact absurd ((xA J).1.trans (xA dK).1.symm) ba
   .exact ct.mono (cd.refl _ _) res x (fun d J=>e4 aF d J _ _) sa
end
end
section
theorem cv.m8 {P:Program} {f:FuncId} {c b:Nat} {args:List aQ} {bp aK:ay} {bf:List Nat} {X:Type} {res:X->aQ} {dv aP:X->ay} (fS:List Nat) (q:Nat)
  (h:cv P f (.c (.one (.ptr c 0))::args) (bp++aK) bf res (fun g=>dv g++aP g))
  (E:nO c fS (.c (.one (.ptr c 0))::args) bp aK bf bf=true) (G: ∀g,nP c (mE fS bf bf) (res g) (dv g) (aP g)=true)
  (al:(args.all fun v=> !v.has c)=true) (aZ:kh c aK=true/\(ah aK q).isNone=true) (bK:(bf.contains c||bf.contains q)=false) (fD: ∀g,(kh c (aP g)&&(ah (aP g) q).isNone&& !(res g).has c)=true):
  cv P f (.c (.one (.d (.aM (some b))))::args) ((q,.aG (.bA [(b,.iX c bp)]))::aK) bf res (fun g=>(q,.aG (.bA [(b,.iX c (dv g))]))::aP g):=by
 have k:=cv.close (o:=.iX c bp) (o':=fun g=>.iX c (dv g)) fS h (fun _ _ _ _ h=>h) (fun _ _ _ _ _ h=>h) E G;have cM:=cv.bA (L:=[(b,.iX c bp)]) (b:=b) (q:=q) k (if_pos rfl) al aZ bK fD;have e: ∀g,e5 [(b,bh.iX c bp)] b (bh.iX c (dv g))=[(b,.iX c (dv g))]:=fun g=>if_pos rfl
 simp only[e] at cM;exact cM
theorem Fn.m8 {P:Program} {f:FuncId} {c b:Nat} {args:List aQ} {bp dv:ay} {res:aQ} (fS:List Nat) (q:Nat)
  (h:Fn P f (.c (.one (.ptr c 0))::args) bp [] res dv)
  (E:nO c fS (.c (.one (.ptr c 0))::args) bp [] [] []=true:=by first |rfl |decide) (G:nP c (mE fS [] []) res dv []=true:=by first |rfl |decide)
  (al:(args.all fun v=> !v.has c)=true:=by first |rfl |decide) (aZ:(!res.has c)=true:=by first |rfl |decide):
  Fn P f (.c (.one (.d (.aM (some b))))::args) [(q,.aG (.bA [(b,.iX c bp)]))] [] res [(q,.aG (.bA [(b,.iX c dv)]))]:=by
 refine cv.fn (cv.m8 (X:=Unit) (aK:=[]) (aP:=fun _=>[]) (dv:=fun _=>dv) (res:=fun _=>res) fS q (by rw[as5];simp only[as5];exact h.x) E (fun _=>G) al ⟨rfl,rfl⟩ rfl fun _=>?_);simp only[aZ];rfl
def nT (b c d:Nat) (bp:ay) (q:bo):bh where
 R:=fun I F w _=> ∃(ρ:Nat->bo) (b8:Nat->Nat->Prop),(ρ c).bk=b/\ρ d=q/\(∀e ch,ah bp e=some ch->Holds ρ I (b8 e) w (ρ e) ch)/\
  (∀e b5 ch ch' x,ah bp e=some ch->ah bp b5=some ch'->e≠b5->b8 e x-> ¬b8 b5 x)/\ ∀x,F x↔ ∃e ch,ah bp e=some ch/\b8 e x
 cg:=fun I F w I' w' p ⟨ρ,b8,E,aw,G,al,aZ⟩ V bj aR=>⟨ρ,b8,E,aw,fun d ch J=>Holds.cg V (fun b O=>bj b ((aZ b).2 ⟨d,ch,J,O⟩)) aR ch (fun _ _=>rfl) (G d ch J),al,aZ⟩
def J1 (c d q:Nat) (args:List aQ) (aK bp:ay) (res:aQ) (aP dv:ay):Bool:=
 (cl bp).contains c&& !(cl bp).contains d&& !(cl bp).contains q&&((cl bp).all fun e=>kh e aK&&kh e aP&& !res.has e&&args.all fun v=> !v.has e)&&
  (ah aK q).isNone&&(ah aP q).isNone&&vD (d::cl bp) bp&&((cl dv).all fun e=>(cl bp).contains e)
theorem Fn.acv {P:Program} {f:FuncId} {c d q b:Nat} {args:List aQ} {aK bp aP dv:ay} {res:aQ} (h:Fn P f (.c (.one (.ptr c 0))::args) (aK++bp) [] res (aP++dv)) (ab:J1 c d q args aK bp res aP dv=true):
  Fn P f (.c (.one (.d (.aM (some b))))::args) (aK++[(q,.co d (nT b c d bp))]) [] res (aP++[(q,.co d (nT b c d dv))]):=by
 obtain⟨fR,h⟩:=h;simp only[J1,vj,Bool.not_eq_true',au1] at ab;obtain⟨⟨⟨⟨⟨⟨⟨b4,ci⟩,a3⟩,a4⟩,a5⟩,gw⟩,yK⟩,E6⟩:=ab;have b4:=th b4;have ci:=vO ci;have a3:=vO a3
 have xB: ∀e,e∈cl bp->kh e aK=true/\kh e aP=true/\res.has e=false/\ ∀v,v∈args->v.has e=false:=fun e V=>by
  have:=ar4.1 a4 e V;simp only[vj,Bool.not_eq_true'] at this;exact⟨this.1.1.1,this.1.1.2,this.1.2,fun v az=>by simpa using ar4.1 this.2 v az⟩
 have acw: ∀e,e∈cl dv->e∈cl bp:=fun e V=>th (ar4.1 E6 e V)
 have one: ∀(B:ay) (ch:bd),ah B q=none->ah (B++[(q,ch)]) q=some ch:=fun B ch hn=>by rw[iC,hn];simp[ah]
 have tl: ∀(B:ay) (x:bd) {e:Nat} {ch:bd},ah (B++[(q,x)]) e=some ch->(ah B e=some ch)\/(ah B e=none/\e=q/\ch=x):=fun B x {e ch} V=>by
  rw[iC] at V
  cases bl:ah B e with
  |some y=>rw[bl] at V;exact .inl V
  |none=>
   rw[bl] at V;simp only[ca] at V
   split at V
   .rename_i ap;injection V with V;exact .inr ⟨rfl,ap.symm,V.symm⟩
   .cases V
 have hr: ∀(B:ay) (x:bd) {e:Nat} {ch:bd},ah B e=some ch->ah (B++[(q,x)]) e=some ch:=fun B x {e ch} V=>by rw[iC,V]
 refine⟨fR,fun ρ F I w bW bb cV bj eo b6 dt=>?_⟩;have B8:=one aK (.co d (nT b c d bp)) a5;obtain⟨oN,b8,cx,IP,cA,dy,fa⟩:(nT b c d bp (ρ d)).R I (F q) w (ρ q):=cV q _ B8;have eU: ∀{e ch},ah aK e=some ch->e∉cl bp/\e≠q:=fun {e ch} V=>⟨fun ab=>(by rw[(t8 (xB e ab).1).1] at V;cases V),fun ap=>(by rw[ap,a5] at V;cases V)⟩
 have iB: ∀{e ch},ah (aK++bp) e=some ch->(ah bp e=some ch/\e∈cl bp)\/(e∉cl bp/\ah aK e=some ch):=fun {e ch} V=>by
  rw[iC] at V
  cases bl:ah aK e with
  |some ch'=>
   rw[bl] at V;exact .inr ⟨(eU bl).1,V⟩
  |none=>
   rw[bl] at V;exact .inl ⟨V,gl.2 ⟨ch,V⟩⟩
 let uw:Nat->bo:=fun e=>if e∈cl bp then oN e else ρ e
 let iL:Nat->Nat->Prop:=fun e=>if e∈cl bp then b8 e else F e
 have vY: ∀e,e∉cl bp->uw e=ρ e:=fun e V=>if_neg V
 have xt: ∀e,e∈d::cl bp->uw e=oN e:=fun e V=>by
  rcases ap3.1 V with rfl |V
  .rw[vY _ ci,IP]
  .exact if_pos V
 have mD: ∀y,(∃e ch,ah (aK++bp) e=some ch/\iL e y)-> ∃e ch,ah (aK++[(q,bd.co d (nT b c d bp))]) e=some ch/\F e y:=by
  rintro y ⟨e,ch,V,aC⟩;rcases iB V with⟨aj,ap⟩ |⟨aj,ap⟩
  .have aC:b8 e y:=by simpa only[iL,if_pos ap] using aC
   exact⟨q,_,B8,(fa y).2 ⟨e,ch,aj,aC⟩⟩
  .have aC:F e y:=by simpa only[iL,if_neg aj] using aC
   exact⟨e,ch,hr _ _ ap,aC⟩
 match bW,b6 with
 |v0::bW,b6=>
 have xr:v0= .pointer (some ⟨b,0,none⟩):=dt 0 _ v0 rfl rfl;refine(h uw iL I w (v0::bW) bb ?_ ?_ ?_ (by simpa using b6) ?_).mono ?_
 .intro e ch V;rcases iB V with⟨aj,ap⟩ |⟨aj,ap⟩
  .rw[xt e (ap2 _ ap)];simp only[iL,if_pos ap];exact Holds.cg (cd.refl _ _) (fun _ _=>rfl) (ap0 _) ch (fun j aa=>xt j (bd.km (xg yK aj) aa)) (cA e ch aj)
  .rw[vY e aj];simp only[iL,if_neg aj];exact Holds.cg (cd.refl _ _) (fun _ _=>rfl) (ap0 _) ch (fun j aa=>vY j (fun kO=>by rw[(t8 (xB j kO).1).2 e ch ap] at aa;cases aa)) (cV e ch (hr _ _ ap))
 .intro e ch V x hx;rcases iB V with⟨aj,ap⟩ |⟨aj,ap⟩
  .simp only[iL,if_pos ap] at hx;exact bj q _ B8 x ((fa x).2 ⟨e,ch,aj,hx⟩)
  .simp only[iL,if_neg aj] at hx;exact bj e ch (hr _ _ ap) x hx
 .intro e b5 ch ch' x V gO ba hx dE;rcases iB V with⟨aj,ap⟩ |⟨aj,ap⟩
  .simp only[iL,if_pos ap] at hx;rcases iB gO with⟨k2,jp⟩ |⟨k2,jp⟩
   .simp only[iL,if_pos jp] at dE;exact dy e b5 ch ch' x aj k2 ba hx dE
   .simp only[iL,if_neg k2] at dE;exact eo q b5 _ ch' x B8 (hr _ _ jp) (Ne.symm (eU jp).2) ((fa x).2 ⟨e,ch,aj,hx⟩) dE
  .simp only[iL,if_neg aj] at hx;rcases iB gO with⟨k2,jp⟩ |⟨k2,jp⟩
   .simp only[iL,if_pos jp] at dE;exact eo q e _ ch x B8 (hr _ _ ap) (Ne.symm (eU ap).2) ((fa x).2 ⟨b5,ch',k2,dE⟩) hx
   .simp only[iL,if_neg k2] at dE;exact eo e b5 ch ch' x (hr _ _ ap) (hr _ _ jp) ba hx dE
 .intro i v x az hx
  match i with
  |0=>
   simp only[aq5,ap4] at az hx;subst az hx;show v0=_;rw[xt c (ap2 _ b4),cx];exact xr
  |i+1=>
   have oE:args[i]? =some v:=by simpa using az
   exact ct.mono (cd.refl _ _) v x (fun j aa=>vY j (fun kO=>by rw[(xB j kO).2.2.2 v (List.mem_of_getElem? oE)] at aa;cases aa)) (dt (i+1) v x (by simpa using az) hx)
 .rintro e w' ⟨x,ρ',F',rfl,cz,dl,I',i6,gA,lz,aE,h2,sa⟩;have acx:ρ'=uw:=funext fun e=>dl e au7
  subst acx;have m4: ∀{e ch},ah aP e=some ch->e∉cl bp/\e≠q/\ah (aP++dv) e=some ch:=fun {e ch} V=>⟨fun ab=>(by rw[(t8 (xB e ab).2.1).1] at V;cases V),fun ap=>(by rw[ap,gw] at V;cases V),by rw[iC,V]⟩
  have oO: ∀{e ch},ah dv e=some ch->ah aP e=none/\ah (aP++dv) e=some ch:=fun {e ch} V=>by
   have hn:=(t8 (xB e (acw e (gl.2 ⟨ch,V⟩))).2.1).1;exact⟨hn,by rw[iC,hn];exact V⟩
  refine⟨x,ρ,fun e=>if e=q then(fun y=> ∃b5 ch',ah dv b5=some ch'/\F' b5 y) else F' e,rfl,cz.mono fun y _ aC=>mD y aC,fun _ _=>rfl,I',i6,fun y aC=>⟨(gA y aC).1,?_⟩,?_,?_,?_,?_⟩
  .rcases(gA y aC).2 with h |h |h
   .exact .inl h
   .exact .inr (.inl (mD y h))
   .exact .inr (.inr h)
  .intro e ch V;rcases tl _ _ V with V |⟨_,rfl,rfl⟩
   .obtain⟨aj,ap,bm⟩:=m4 V;simp only[if_neg ap];rw[<-vY e aj];exact Holds.cg (cd.refl _ _) (fun _ _=>rfl) (ap0 _) ch (fun j aa=>(vY j (fun kO=>by rw[(t8 (xB j kO).2.1).2 e ch V] at aa;cases aa)).symm) (lz e ch bm)
   .simp only[if_true];refine⟨uw,F',by rw[xt c (ap2 _ b4),cx],vY d ci,fun e ch V=>lz e ch (oO V).2,fun e b5 ch ch' x V gO ba=>h2 e b5 ch ch' x (oO V).2 (oO gO).2 ba,fun _=>Iff.rfl⟩
  .intro e ch V y aC;rcases tl _ _ V with V |⟨_,rfl,rfl⟩
   .obtain⟨aj,ap,bm⟩:=m4 V;simp only[if_neg ap] at aC;obtain⟨cB,cL,gP⟩:=aE e ch bm y aC;exact⟨cB,cL,gP.imp (mD y) id⟩
   .simp only[if_true] at aC;obtain⟨b5,ch',E,G⟩:=aC;obtain⟨cB,cL,gP⟩:=aE b5 ch' (oO E).2 y G;exact⟨cB,cL,gP.imp (mD y) id⟩
  .intro e b5 ch ch' y V gO ba aC d4;rcases tl _ _ V with cf |⟨_,rfl,rfl⟩
   .obtain⟨aj,ap,bm⟩:=m4 cf;simp only[if_neg ap] at aC;rcases tl _ _ gO with cM |⟨_,rfl,rfl⟩
    .obtain⟨k2,jp,zn⟩:=m4 cM;simp only[if_neg jp] at d4;exact h2 e b5 ch ch' y bm zn ba aC d4
    .simp only[if_true] at d4;obtain⟨hz,iT,E,G⟩:=d4;exact h2 e hz ch iT y bm (oO E).2 (fun e=>by rw[e,(oO E).1] at cf;cases cf) aC G
   .rcases tl _ _ gO with cM |⟨_,rfl,rfl⟩
    .obtain⟨k2,jp,zn⟩:=m4 cM;simp only[if_true] at aC;simp only[if_neg jp] at d4;obtain⟨hz,iT,E,G⟩:=aC;exact h2 hz b5 iT ch' y (oO E).2 zn (fun e=>by rw[<-e,(oO E).1] at cM;cases cM) G d4
    .exact absurd rfl ba
  .exact ct.mono (cd.refl _ _) res x (fun j aa=>(vY j (fun kO=>by rw[(xB j kO).2.2.1] at aa;cases aa)).symm) sa
end
section
abbrev cY (n:Int):Prop:= -9223372036854775808<=n/\n<=9223372036854775807
theorem ac {P:Prop} (h:P:=by repeat' (first |exact trivial |exact rfl |refine⟨?_,?_⟩)):P:=h
theorem au {p:ay->List Nat->aQ->ay->Prop} {q:ay->Prop} {r:ay->List Nat->ay->Prop} {k:ay->List Nat->aQ->ay->Prop} {a:ay} {b:List Nat} {c:aQ} {d:ay} (s:p a b c d) (al:k a b c d) (E:q a:=by repeat' (first |exact trivial |exact rfl |refine⟨?_,?_⟩)) (G:r a b d:=by rfl): ∃a b c d,p a b c d/\q a/\r a b d/\k a b c d:=⟨_,_,_,_,s,E,G,al⟩
theorem iE {p: ∀(X:Type),ay->List Nat->(X->aQ)->(X->ay)->Prop} {q:ay->Prop} {r:List Nat->Prop} {s: ∀(X:Type),ay->List Nat->(X->ay)->X->Prop} {k: ∀(X:Type),ay->List Nat->(X->aQ)->(X->ay)->X->Prop} {X:Type} {a:ay} {b:List Nat} {c:X->aQ} {d:X->ay} (h:p X a b c d) (aZ: ∀g,k X a b c d g)
 (E:q a:=by repeat' (first |exact trivial |exact rfl |refine⟨?_,?_⟩)) (G:r b:=by rfl) (al: ∀g,s X a b d g:=by exact fun _=>rfl): ∃(X:Type) (a:ay) (b:List Nat) (c:X->aQ) (d:X->ay),p X a b c d/\q a/\r b/\(∀g,s X a b d g)/\ ∀g,k X a b c d g:=⟨_,_,_,_,_,h,E,G,al,aZ⟩
theorem vZ {P:Program} {ids:List Nat} {K:a1} {B:ay} {o:Oper} {f:FuncId} {c:Call} {xs:List Operand} {aK:ay} {res:aQ} {aP:ay} {q:fP->Prop} {k:aQ->fP->Prop} (ai:o.op= .call c) (E:c.callee= .value (.func f)) (G:c.args.toList=xs) (hf:Fn P f (xs.map (a7 K)) aK [] res aP) (ab:k res ⟨cl aK,[],[]⟩)
 (hP:kI B aK:=by repeat' (first |exact trivial |exact rfl |refine⟨?_,?_⟩)) (bu:mv aK [] aP=true:=by rfl) (nS: ∀c,ah aP c=ah aK c:=by exact fun _=>rfl) (aV:q ⟨cl aK,[],[]⟩:=by rfl): ∃v e,(∀N,bB P N ids o K B v e)/\q e/\k v e:=⟨_,_,fun N=>abZ ai E G hf hP bu nS N,aV,ab⟩
theorem aW (stops:List Nat) {N:Nat} {f:FuncId} {fn:Func} {c:Code} {args:List aQ} {aK:ay} {bf:List Nat} {res:aQ} {aP:ay} {i7:List ResultVar} (hf:Tryz.prog.funcs[f]? =some fn) (O:fn.body=some c) (hn:fn.ntmps=N) (ft:Nat.ble args.length N=true) (xh:fn.results.toList=i7)
 (h:jm Tryz.prog vL.types N (cl aK) stops c (oJ 0 args) aK (EI vL.types (cl aK) bf i7 res aP)) (fR:jl Tryz.prog f=true:=by kernel_rfl) (H:jr Tryz.prog N c=true:=by kernel_rfl):Fn Tryz.prog f args aK bf res aP:=Fn.of eN stops args aK bf res aP hf O hn fR H ft (zh eN) xh h
theorem hD (stops:List Nat) {N:Nat} {f:FuncId} {fn:Func} {c:Code} {args:List aQ} {aK:ay} {bf:List Nat} {X:Type} {res:X->aQ} {aP:X->ay} {i7:List ResultVar} (hf:Tryz.prog.funcs[f]? =some fn) (O:fn.body=some c) (hn:fn.ntmps=N) (ft:Nat.ble args.length N=true) (xh:fn.results.toList=i7)
 (h:jm Tryz.prog vL.types N (cl aK) stops c (oJ 0 args) aK (fun e K B=> ∃g,EI vL.types (cl aK) bf i7 (res g) (aP g) e K B)) (fR:jl Tryz.prog f=true:=by kernel_rfl) (H:jr Tryz.prog N c=true:=by kernel_rfl):cv Tryz.prog f args aK bf res aP:=cv.of eN stops args aK bf res aP hf O hn fR H ft (zh eN) xh h
theorem bz (stops:List Nat) {N:Nat} {ids:List Nat} {K K':a1} {B B':ay} {Q:nG->a1->ay->Prop} {c:Code} (h:af ids K B K' B') (cr:jm Tryz.prog vL.types N ids stops c K' B' Q) (H:jr Tryz.prog N c=true:=by kernel_rfl):bt Tryz.prog N ids c K B Q:=bt.go eN (zh eN) stops H h cr
theorem dX (stops:List Nat) {N:Nat} {ids:List Nat} {b:Code} {X:Type} (kP:X->a1) (gZ:X->ay) (inv:X->Prop) (ui:X->Nat) (hQ:X) {K:a1} {B:ay} {Q:nG->a1->ay->Prop} (aw:inv hQ) (gY:af ids K B (kP hQ) (gZ hQ))
 (h: ∀x,inv x->jm Tryz.prog vL.types N ids stops b (kP x) (gZ x) (fun e K B=>match e with
  | .gX=> ∃y,inv y/\ui y < ui x/\af ids K B (kP y) (gZ y)
  | .ex i=>Q (.ex i) K B
  | .ret=>Q .ret K B)) (H:jr Tryz.prog N b=true:=by kernel_rfl):bt Tryz.prog N ids (.loop b) K B Q:=bt.loop eN (zh eN) stops H kP gZ inv ui hQ aw gY h
theorem cG {ids:List Nat} {K:a1} {B:ay} (K':a1) (B':ay) (E:zb K K':=by repeat' (first |exact trivial |exact rfl |refine⟨?_,?_⟩)) (G:kI B B':=by repeat' (first |exact trivial |exact rfl |refine⟨?_,?_⟩)):af ids K B K' B':=af.sub E G
theorem aH {ids:List Nat} {K:a1} {B:ay}:af ids K B K B:=af.refl _ _
theorem aT {p:a1->ay->Prop} {R:Type} {q:a1->ay->R->Prop} {s:R->Prop} {t:ay->Prop} {u:Prop} {K:a1} {B:ay} {r:R} (E:p K B) (G:q K B r) (al:s r) (aZ:t B) (bK:u): ∃K B r,p K B/\q K B r/\s r/\t B/\u:=⟨K,B,r,E,G,al,aZ,bK⟩
theorem da {p q A B:Prop} (k:B) (h: ¬p:=by decide):(p->A)/\(q->B):=⟨fun x=>absurd x h,fun _=>k⟩
theorem eO {p q A B:Prop} (k:A) (h: ¬q:=by decide):(p->A)/\(q->B):=⟨fun _=>k,fun x=>absurd x h⟩
end
end Go.Proofs.YthnboghbhgapcaaGreat
namespace Go.Proofs
open Go.Shelf
def Tryz.QF:Go.Shelf.Ren:=⟨fun |7=>185 |10=>207 |n=>n,fun |23=>82 |26=>9 |3=>81 |28=>252 |0=>0 |27=>251 |33=>95 |4=>4 |n=>n,fun |n=>n⟩
theorem Tryz.acy:Go.Proofs.SlLaysZ.n7 Tryz.prog Tryz.QF:={
 mixed:=by kernel_rfl
 f7:=⟨Tryz.f185.name,by decide,Tryz.func185.trans (congrArg some (by kernel_rfl))⟩
 f10:=⟨Tryz.f207.name,by decide,Tryz.func207.trans (congrArg some (by kernel_rfl))⟩
 t0:=Tryz.underlying0
 a0:=Tryz.isAgg0
 z0:=Tryz.sizeOf0
 v0:=Tryz.zeroValue0
 t4:=Tryz.underlying4
 a4:=Tryz.isAgg4
 z4:=Tryz.sizeOf4
 v4:=Tryz.zeroValue4
 t23:=Tryz.underlying82
 a23:=Tryz.isAgg82
 z23:=Tryz.sizeOf82
 v23:=Tryz.zeroValue82
 t26:=Tryz.underlying9
 a26:=Tryz.isAgg9
 z26:=Tryz.sizeOf9
 v26:=Tryz.zeroValue9
 t27:=Tryz.underlying251
 a27:=Tryz.isAgg251
 z27:=Tryz.sizeOf251
 v27:=Tryz.zeroValue251
 t28:=Tryz.underlying252
 a28:=Tryz.isAgg252
 z28:=Tryz.sizeOf252
 v28:=Tryz.zeroValue252
 t33:=Tryz.underlying95
 a33:=Tryz.isAgg95
 z33:=Tryz.sizeOf95
 v33:=Tryz.zeroValue95}
def Tryz.QG:Go.Shelf.Ren:=⟨fun |6=>167 |8=>193 |9=>194 |11=>211 |13=>203 |12=>212 |23=>235 |24=>236 |14=>241 |15=>242 |16=>243 |17=>244 |18=>245 |19=>246 |20=>247 |21=>248 |22=>249 |25=>260 |26=>254 |27=>255 |28=>261 |29=>262 |30=>263 |31=>265 |n=>n,fun |26=>9 |28=>252 |24=>96 |0=>0 |3=>3 |37=>248 |48=>305 |50=>307 |4=>4 |40=>298 |39=>297 |45=>302 |5=>5 |9=>9 |51=>320 |55=>324 |57=>328 |58=>318 |33=>95 |n=>n,fun |n=>n⟩
theorem Tryz.QH:Go.Proofs.SlLaysZ.n6 Tryz.prog Tryz.QG:={
 mixed:=by kernel_rfl
 f6:=⟨Tryz.f167.name,by decide,Tryz.func167.trans (congrArg some (by kernel_rfl))⟩
 f8:=⟨Tryz.f193.name,by decide,Tryz.func193.trans (congrArg some (by kernel_rfl))⟩
 f11:=⟨Tryz.f211.name,by decide,Tryz.func211.trans (congrArg some (by kernel_rfl))⟩
 t0:=Tryz.underlying0
 a0:=Tryz.isAgg0
 z0:=Tryz.sizeOf0
 v0:=Tryz.zeroValue0
 t24:=Tryz.underlying96
 a24:=Tryz.isAgg96
 z24:=Tryz.sizeOf96
 v24:=Tryz.zeroValue96
 t26:=Tryz.underlying9
 a26:=Tryz.isAgg9
 z26:=Tryz.sizeOf9
 v26:=Tryz.zeroValue9
 t28:=Tryz.underlying252
 a28:=Tryz.isAgg252
 z28:=Tryz.sizeOf252
 v28:=Tryz.zeroValue252
 i26:=by kernel_rfl}
def Tryz.acz:Go.Shelf.Ren:=⟨fun |6=>194 |8=>203 |9=>212 |19=>235 |20=>236 |21=>241 |22=>242 |23=>243 |24=>244 |25=>245 |26=>246 |27=>247 |28=>248 |29=>249 |36=>260 |31=>254 |32=>255 |37=>261 |38=>262 |39=>263 |41=>265 |n=>n,fun |27=>96 |29=>9 |3=>3 |32=>248 |26=>96 |0=>0 |44=>305 |46=>307 |4=>4 |36=>298 |35=>297 |41=>302 |5=>5 |9=>9 |53=>320 |57=>324 |63=>328 |64=>318 |n=>n,fun |n=>n⟩
theorem Tryz.QI:Go.Proofs.SlLaysM.n6 Tryz.prog Tryz.acz:={
 mixed:=by kernel_rfl
 f6:=⟨Tryz.f194.name,by decide,Tryz.func194.trans (congrArg some (by kernel_rfl))⟩
 f8:=Tryz.func203.trans (congrArg some (by kernel_rfl))
 f9:=⟨Tryz.f212.name,by decide,Tryz.func212.trans (congrArg some (by kernel_rfl))⟩
 f19:=Tryz.func235.trans (congrArg some (by kernel_rfl))
 f20:=Tryz.func236.trans (congrArg some (by kernel_rfl))
 f21:=⟨Tryz.f241.name,by decide,Tryz.func241.trans (congrArg some (by kernel_rfl))⟩
 f22:=⟨Tryz.f242.name,by decide,Tryz.func242.trans (congrArg some (by kernel_rfl))⟩
 f23:=⟨Tryz.f243.name,by decide,Tryz.func243.trans (congrArg some (by kernel_rfl))⟩
 f24:=⟨Tryz.f244.name,by decide,Tryz.func244.trans (congrArg some (by kernel_rfl))⟩
 f25:=⟨Tryz.f245.name,by decide,Tryz.func245.trans (congrArg some (by kernel_rfl))⟩
 f26:=⟨Tryz.f246.name,by decide,Tryz.func246.trans (congrArg some (by kernel_rfl))⟩
 f27:=⟨Tryz.f247.name,by decide,Tryz.func247.trans (congrArg some (by kernel_rfl))⟩
 f28:=⟨Tryz.f248.name,by decide,Tryz.func248.trans (congrArg some (by kernel_rfl))⟩
 f29:=⟨Tryz.f249.name,by decide,Tryz.func249.trans (congrArg some (by kernel_rfl))⟩
 f31:=Tryz.func254.trans (congrArg some (by kernel_rfl))
 f32:=Tryz.func255.trans (congrArg some (by kernel_rfl))
 f36:=⟨Tryz.f260.name,by decide,Tryz.func260.trans (congrArg some (by kernel_rfl))⟩
 f37:=⟨Tryz.f261.name,by decide,Tryz.func261.trans (congrArg some (by kernel_rfl))⟩
 f38:=⟨Tryz.f262.name,by decide,Tryz.func262.trans (congrArg some (by kernel_rfl))⟩
 f39:=⟨Tryz.f263.name,by decide,Tryz.func263.trans (congrArg some (by kernel_rfl))⟩
 f41:=⟨Tryz.f265.name,by decide,Tryz.func265.trans (congrArg some (by kernel_rfl))⟩
 t0:=Tryz.underlying0
 a0:=Tryz.isAgg0
 z0:=Tryz.sizeOf0
 v0:=Tryz.zeroValue0
 t3:=Tryz.underlying3
 a3:=Tryz.isAgg3
 z3:=Tryz.sizeOf3
 v3:=Tryz.zeroValue3
 t4:=Tryz.underlying4
 a4:=Tryz.isAgg4
 z4:=Tryz.sizeOf4
 v4:=Tryz.zeroValue4
 t5:=Tryz.underlying5
 a5:=Tryz.isAgg5
 z5:=Tryz.sizeOf5
 v5:=Tryz.zeroValue5
 t9:=Tryz.underlying9
 a9:=Tryz.isAgg9
 z9:=Tryz.sizeOf9
 v9:=Tryz.zeroValue9
 t26:=Tryz.underlying96
 a26:=Tryz.isAgg96
 z26:=Tryz.sizeOf96
 v26:=Tryz.zeroValue96
 t27:=Tryz.underlying96
 a27:=Tryz.isAgg96
 z27:=Tryz.sizeOf96
 v27:=Tryz.zeroValue96
 t29:=Tryz.underlying9
 a29:=Tryz.isAgg9
 z29:=Tryz.sizeOf9
 v29:=Tryz.zeroValue9
 t32:=Tryz.underlying248
 a32:=Tryz.isAgg248
 z32:=Tryz.sizeOf248
 v32:=Tryz.zeroValue248
 t35:=Tryz.underlying297
 a35:=Tryz.isAgg297
 z35:=Tryz.sizeOf297
 v35:=Tryz.zeroValue297
 t36:=Tryz.underlying298
 a36:=Tryz.isAgg298
 z36:=Tryz.sizeOf298
 v36:=Tryz.zeroValue298
 t41:=Tryz.underlying302
 a41:=Tryz.isAgg302
 z41:=Tryz.sizeOf302
 v41:=Tryz.zeroValue302
 t44:=Tryz.underlying305
 a44:=Tryz.isAgg305
 z44:=Tryz.sizeOf305
 v44:=Tryz.zeroValue305
 t46:=Tryz.underlying307
 a46:=Tryz.isAgg307
 z46:=Tryz.sizeOf307
 v46:=Tryz.zeroValue307
 t53:=Tryz.underlying320
 a53:=Tryz.isAgg320
 z53:=Tryz.sizeOf320
 v53:=Tryz.zeroValue320
 t57:=Tryz.underlying324
 a57:=Tryz.isAgg324
 z57:=Tryz.sizeOf324
 v57:=Tryz.zeroValue324
 t63:=Tryz.underlying328
 a63:=Tryz.isAgg328
 z63:=Tryz.sizeOf328
 v63:=Tryz.zeroValue328
 t64:=Tryz.underlying318
 a64:=Tryz.isAgg318
 z64:=Tryz.sizeOf318
 v64:=Tryz.zeroValue318}
def Tryz.QJ:Go.Shelf.Ren:=⟨fun |7=>168 |10=>195 |n=>n,fun |23=>101 |26=>9 |3=>162 |28=>252 |0=>0 |27=>251 |33=>95 |4=>4 |n=>n,fun |n=>n⟩
theorem Tryz.acA:Go.Proofs.SlLaysZ.n7 Tryz.prog Tryz.QJ:={
 mixed:=by kernel_rfl
 f7:=⟨Tryz.f168.name,by decide,Tryz.func168.trans (congrArg some (by kernel_rfl))⟩
 f10:=⟨Tryz.f195.name,by decide,Tryz.func195.trans (congrArg some (by kernel_rfl))⟩
 t0:=Tryz.underlying0
 a0:=Tryz.isAgg0
 z0:=Tryz.sizeOf0
 v0:=Tryz.zeroValue0
 t4:=Tryz.underlying4
 a4:=Tryz.isAgg4
 z4:=Tryz.sizeOf4
 v4:=Tryz.zeroValue4
 t23:=Tryz.underlying101
 a23:=Tryz.isAgg101
 z23:=Tryz.sizeOf101
 v23:=Tryz.zeroValue101
 t26:=Tryz.underlying9
 a26:=Tryz.isAgg9
 z26:=Tryz.sizeOf9
 v26:=Tryz.zeroValue9
 t27:=Tryz.underlying251
 a27:=Tryz.isAgg251
 z27:=Tryz.sizeOf251
 v27:=Tryz.zeroValue251
 t28:=Tryz.underlying252
 a28:=Tryz.isAgg252
 z28:=Tryz.sizeOf252
 v28:=Tryz.zeroValue252
 t33:=Tryz.underlying95
 a33:=Tryz.isAgg95
 z33:=Tryz.sizeOf95
 v33:=Tryz.zeroValue95}
def Tryz.acB:Go.Shelf.Ren:=⟨fun |5=>146 |7=>184 |n=>n,fun |23=>159 |25=>3 |3=>3 |4=>4 |20=>20 |n=>n,fun |n=>n⟩
theorem Tryz.acC:Go.Proofs.SlLaysW.n5 Tryz.prog Tryz.acB:={
 mixed:=by kernel_rfl
 f5:=⟨Tryz.f146.name,by decide,Tryz.func146.trans (congrArg some (by kernel_rfl))⟩
 f7:=Tryz.func184.trans (congrArg some (by kernel_rfl))
 t4:=Tryz.underlying4
 a4:=Tryz.isAgg4
 z4:=Tryz.sizeOf4
 v4:=Tryz.zeroValue4
 t20:=Tryz.underlying20
 a20:=Tryz.isAgg20
 z20:=Tryz.sizeOf20
 v20:=Tryz.zeroValue20
 t23:=Tryz.underlying159
 a23:=Tryz.isAgg159
 z23:=Tryz.sizeOf159
 v23:=Tryz.zeroValue159}
def Tryz.J2:Go.Shelf.Ren:=⟨fun |7=>136 |10=>178 |n=>n,fun |23=>159 |26=>3 |3=>3 |28=>216 |0=>0 |27=>215 |33=>158 |4=>4 |n=>n,fun |n=>n⟩
theorem Tryz.QK:Go.Proofs.SlLaysZI.n7 Tryz.prog Tryz.J2:={
 mixed:=by kernel_rfl
 f7:=⟨Tryz.f136.name,by decide,Tryz.func136.trans (congrArg some (by kernel_rfl))⟩
 f10:=⟨Tryz.f178.name,by decide,Tryz.func178.trans (congrArg some (by kernel_rfl))⟩
 t0:=Tryz.underlying0
 a0:=Tryz.isAgg0
 z0:=Tryz.sizeOf0
 v0:=Tryz.zeroValue0
 t4:=Tryz.underlying4
 a4:=Tryz.isAgg4
 z4:=Tryz.sizeOf4
 v4:=Tryz.zeroValue4
 t23:=Tryz.underlying159
 a23:=Tryz.isAgg159
 z23:=Tryz.sizeOf159
 v23:=Tryz.zeroValue159
 t26:=Tryz.underlying3
 a26:=Tryz.isAgg3
 z26:=Tryz.sizeOf3
 v26:=Tryz.zeroValue3
 t27:=Tryz.underlying215
 a27:=Tryz.isAgg215
 z27:=Tryz.sizeOf215
 v27:=Tryz.zeroValue215
 t28:=Tryz.underlying216
 a28:=Tryz.isAgg216
 z28:=Tryz.sizeOf216
 v28:=Tryz.zeroValue216
 t33:=Tryz.underlying158
 a33:=Tryz.isAgg158
 z33:=Tryz.sizeOf158
 v33:=Tryz.zeroValue158}
def Tryz.acD:Go.Shelf.Ren:=⟨fun |8=>176 |11=>201 |n=>n,fun |26=>3 |28=>216 |24=>71 |0=>0 |33=>158 |4=>4 |n=>n,fun |n=>n⟩
theorem Tryz.acE:Go.Proofs.SlLaysZI.n8 Tryz.prog Tryz.acD:={
 mixed:=by kernel_rfl
 f8:=⟨Tryz.f176.name,by decide,Tryz.func176.trans (congrArg some (by kernel_rfl))⟩
 f11:=⟨Tryz.f201.name,by decide,Tryz.func201.trans (congrArg some (by kernel_rfl))⟩
 t0:=Tryz.underlying0
 a0:=Tryz.isAgg0
 z0:=Tryz.sizeOf0
 v0:=Tryz.zeroValue0
 t24:=Tryz.underlying71
 a24:=Tryz.isAgg71
 z24:=Tryz.sizeOf71
 v24:=Tryz.zeroValue71
 t26:=Tryz.underlying3
 a26:=Tryz.isAgg3
 z26:=Tryz.sizeOf3
 v26:=Tryz.zeroValue3
 t28:=Tryz.underlying216
 a28:=Tryz.isAgg216
 z28:=Tryz.sizeOf216
 v28:=Tryz.zeroValue216
 i26:=by kernel_rfl}
def Tryz.QL:Go.Shelf.Ren:=⟨fun |7=>151 |10=>186 |n=>n,fun |23=>89 |26=>3 |3=>25 |28=>216 |0=>0 |27=>215 |33=>158 |4=>4 |n=>n,fun |n=>n⟩
theorem Tryz.acF:Go.Proofs.SlLaysZI.n7 Tryz.prog Tryz.QL:={
 mixed:=by kernel_rfl
 f7:=⟨Tryz.f151.name,by decide,Tryz.func151.trans (congrArg some (by kernel_rfl))⟩
 f10:=⟨Tryz.f186.name,by decide,Tryz.func186.trans (congrArg some (by kernel_rfl))⟩
 t0:=Tryz.underlying0
 a0:=Tryz.isAgg0
 z0:=Tryz.sizeOf0
 v0:=Tryz.zeroValue0
 t4:=Tryz.underlying4
 a4:=Tryz.isAgg4
 z4:=Tryz.sizeOf4
 v4:=Tryz.zeroValue4
 t23:=Tryz.underlying89
 a23:=Tryz.isAgg89
 z23:=Tryz.sizeOf89
 v23:=Tryz.zeroValue89
 t26:=Tryz.underlying3
 a26:=Tryz.isAgg3
 z26:=Tryz.sizeOf3
 v26:=Tryz.zeroValue3
 t27:=Tryz.underlying215
 a27:=Tryz.isAgg215
 z27:=Tryz.sizeOf215
 v27:=Tryz.zeroValue215
 t28:=Tryz.underlying216
 a28:=Tryz.isAgg216
 z28:=Tryz.sizeOf216
 v28:=Tryz.zeroValue216
 t33:=Tryz.underlying158
 a33:=Tryz.isAgg158
 z33:=Tryz.sizeOf158
 v33:=Tryz.zeroValue158}
def Tryz.QM:Go.Shelf.Ren:=⟨fun |6=>135 |8=>176 |9=>177 |11=>201 |13=>203 |12=>202 |23=>235 |24=>236 |14=>226 |15=>227 |16=>228 |17=>229 |18=>230 |19=>231 |20=>232 |21=>233 |22=>234 |25=>253 |26=>254 |27=>255 |28=>256 |29=>257 |30=>258 |31=>264 |n=>n,fun |26=>3 |28=>216 |24=>71 |0=>0 |3=>3 |37=>248 |48=>305 |50=>307 |4=>4 |40=>298 |39=>297 |45=>302 |5=>5 |9=>9 |51=>320 |55=>324 |57=>328 |58=>318 |33=>158 |n=>n,fun |n=>n⟩
theorem Tryz.QN:Go.Proofs.SlLaysZI.n6 Tryz.prog Tryz.QM:={
 mixed:=by kernel_rfl
 f6:=⟨Tryz.f135.name,by decide,Tryz.func135.trans (congrArg some (by kernel_rfl))⟩
 f8:=⟨Tryz.f176.name,by decide,Tryz.func176.trans (congrArg some (by kernel_rfl))⟩
 f11:=⟨Tryz.f201.name,by decide,Tryz.func201.trans (congrArg some (by kernel_rfl))⟩
 t0:=Tryz.underlying0
 a0:=Tryz.isAgg0
 z0:=Tryz.sizeOf0
 v0:=Tryz.zeroValue0
 t24:=Tryz.underlying71
 a24:=Tryz.isAgg71
 z24:=Tryz.sizeOf71
 v24:=Tryz.zeroValue71
 t26:=Tryz.underlying3
 a26:=Tryz.isAgg3
 z26:=Tryz.sizeOf3
 v26:=Tryz.zeroValue3
 t28:=Tryz.underlying216
 a28:=Tryz.isAgg216
 z28:=Tryz.sizeOf216
 v28:=Tryz.zeroValue216
 i26:=by kernel_rfl}
def Tryz.acG:Go.Shelf.Ren:=⟨fun |5=>177 |8=>203 |7=>202 |19=>235 |20=>236 |10=>226 |11=>227 |12=>228 |13=>229 |14=>230 |15=>231 |16=>232 |17=>233 |18=>234 |30=>253 |31=>254 |32=>255 |33=>256 |34=>257 |35=>258 |40=>264 |n=>n,fun |23=>71 |25=>3 |3=>3 |32=>248 |22=>71 |0=>0 |44=>305 |46=>307 |4=>4 |36=>298 |35=>297 |41=>302 |5=>5 |9=>9 |53=>320 |57=>324 |63=>328 |64=>318 |n=>n,fun |n=>n⟩
theorem Tryz.QO:Go.Proofs.SlLaysM.n5 Tryz.prog Tryz.acG:={
 mixed:=by kernel_rfl
 f5:=⟨Tryz.f177.name,by decide,Tryz.func177.trans (congrArg some (by kernel_rfl))⟩
 f7:=⟨Tryz.f202.name,by decide,Tryz.func202.trans (congrArg some (by kernel_rfl))⟩
 f8:=Tryz.func203.trans (congrArg some (by kernel_rfl))
 f10:=⟨Tryz.f226.name,by decide,Tryz.func226.trans (congrArg some (by kernel_rfl))⟩
 f11:=⟨Tryz.f227.name,by decide,Tryz.func227.trans (congrArg some (by kernel_rfl))⟩
 f12:=⟨Tryz.f228.name,by decide,Tryz.func228.trans (congrArg some (by kernel_rfl))⟩
 f13:=⟨Tryz.f229.name,by decide,Tryz.func229.trans (congrArg some (by kernel_rfl))⟩
 f14:=⟨Tryz.f230.name,by decide,Tryz.func230.trans (congrArg some (by kernel_rfl))⟩
 f15:=⟨Tryz.f231.name,by decide,Tryz.func231.trans (congrArg some (by kernel_rfl))⟩
 f16:=⟨Tryz.f232.name,by decide,Tryz.func232.trans (congrArg some (by kernel_rfl))⟩
 f17:=⟨Tryz.f233.name,by decide,Tryz.func233.trans (congrArg some (by kernel_rfl))⟩
 f18:=⟨Tryz.f234.name,by decide,Tryz.func234.trans (congrArg some (by kernel_rfl))⟩
 f19:=Tryz.func235.trans (congrArg some (by kernel_rfl))
 f20:=Tryz.func236.trans (congrArg some (by kernel_rfl))
 f30:=⟨Tryz.f253.name,by decide,Tryz.func253.trans (congrArg some (by kernel_rfl))⟩
 f31:=Tryz.func254.trans (congrArg some (by kernel_rfl))
 f32:=Tryz.func255.trans (congrArg some (by kernel_rfl))
 f33:=⟨Tryz.f256.name,by decide,Tryz.func256.trans (congrArg some (by kernel_rfl))⟩
 f34:=⟨Tryz.f257.name,by decide,Tryz.func257.trans (congrArg some (by kernel_rfl))⟩
 f35:=⟨Tryz.f258.name,by decide,Tryz.func258.trans (congrArg some (by kernel_rfl))⟩
 f40:=⟨Tryz.f264.name,by decide,Tryz.func264.trans (congrArg some (by kernel_rfl))⟩
 t0:=Tryz.underlying0
 a0:=Tryz.isAgg0
 z0:=Tryz.sizeOf0
 v0:=Tryz.zeroValue0
 t3:=Tryz.underlying3
 a3:=Tryz.isAgg3
 z3:=Tryz.sizeOf3
 v3:=Tryz.zeroValue3
 t4:=Tryz.underlying4
 a4:=Tryz.isAgg4
 z4:=Tryz.sizeOf4
 v4:=Tryz.zeroValue4
 t5:=Tryz.underlying5
 a5:=Tryz.isAgg5
 z5:=Tryz.sizeOf5
 v5:=Tryz.zeroValue5
 t9:=Tryz.underlying9
 a9:=Tryz.isAgg9
 z9:=Tryz.sizeOf9
 v9:=Tryz.zeroValue9
 t22:=Tryz.underlying71
 a22:=Tryz.isAgg71
 z22:=Tryz.sizeOf71
 v22:=Tryz.zeroValue71
 t23:=Tryz.underlying71
 a23:=Tryz.isAgg71
 z23:=Tryz.sizeOf71
 v23:=Tryz.zeroValue71
 t25:=Tryz.underlying3
 a25:=Tryz.isAgg3
 z25:=Tryz.sizeOf3
 v25:=Tryz.zeroValue3
 t32:=Tryz.underlying248
 a32:=Tryz.isAgg248
 z32:=Tryz.sizeOf248
 v32:=Tryz.zeroValue248
 t35:=Tryz.underlying297
 a35:=Tryz.isAgg297
 z35:=Tryz.sizeOf297
 v35:=Tryz.zeroValue297
 t36:=Tryz.underlying298
 a36:=Tryz.isAgg298
 z36:=Tryz.sizeOf298
 v36:=Tryz.zeroValue298
 t41:=Tryz.underlying302
 a41:=Tryz.isAgg302
 z41:=Tryz.sizeOf302
 v41:=Tryz.zeroValue302
 t44:=Tryz.underlying305
 a44:=Tryz.isAgg305
 z44:=Tryz.sizeOf305
 v44:=Tryz.zeroValue305
 t46:=Tryz.underlying307
 a46:=Tryz.isAgg307
 z46:=Tryz.sizeOf307
 v46:=Tryz.zeroValue307
 t53:=Tryz.underlying320
 a53:=Tryz.isAgg320
 z53:=Tryz.sizeOf320
 v53:=Tryz.zeroValue320
 t57:=Tryz.underlying324
 a57:=Tryz.isAgg324
 z57:=Tryz.sizeOf324
 v57:=Tryz.zeroValue324
 t63:=Tryz.underlying328
 a63:=Tryz.isAgg328
 z63:=Tryz.sizeOf328
 v63:=Tryz.zeroValue328
 t64:=Tryz.underlying318
 a64:=Tryz.isAgg318
 z64:=Tryz.sizeOf318
 v64:=Tryz.zeroValue318}
def Tryz.acH:Go.Shelf.Ren:=⟨fun |5=>162 |7=>184 |n=>n,fun |23=>236 |25=>3 |3=>241 |4=>4 |20=>20 |n=>n,fun |n=>n⟩
theorem Tryz.acI:Go.Proofs.SlLaysW.n5 Tryz.prog Tryz.acH:={
 mixed:=by kernel_rfl
 f5:=⟨Tryz.f162.name,by decide,Tryz.func162.trans (congrArg some (by kernel_rfl))⟩
 f7:=Tryz.func184.trans (congrArg some (by kernel_rfl))
 t4:=Tryz.underlying4
 a4:=Tryz.isAgg4
 z4:=Tryz.sizeOf4
 v4:=Tryz.zeroValue4
 t20:=Tryz.underlying20
 a20:=Tryz.isAgg20
 z20:=Tryz.sizeOf20
 v20:=Tryz.zeroValue20
 t23:=Tryz.underlying236
 a23:=Tryz.isAgg236
 z23:=Tryz.sizeOf236
 v23:=Tryz.zeroValue236}
end Go.Proofs
