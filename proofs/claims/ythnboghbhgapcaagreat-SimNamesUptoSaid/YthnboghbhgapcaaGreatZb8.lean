/-
A part of the proof of this claim: lemmas, with no condition beyond what each says.
-/
import Derived.Maps.RangeRun
import Derived.Test.YthnboghbhgapcaaGreatZb7
set_option linter.unusedVariables false
set_option linter.unusedSimpArgs false
set_option maxRecDepth 10000
set_option maxHeartbeats 4000000
namespace Go.Proofs.YthnboghbhgapcaaGreat
open Go.RowKit Go.Proofs
section
def iD (c:Nat) (bo:aw) (I F:Nat->Prop) (w:World) (p:bn):Prop:=
 ∃(ρ:Nat->bn) (b8:Nat->Nat->Prop),ρ c=p/\(∀d ch,ag bo d=some ch->Holds ρ I (b8 d) w (ρ d) ch)/\
  (∀d c1 ch ch' b,ag bo d=some ch->ag bo c1=some ch'->d≠c1->b8 d b-> ¬b8 c1 b)/\ ∀b,F b↔ ∃d ch,ag bo d=some ch/\b8 d b
def bf.iX (c:Nat) (bo:aw):bf where
 R:=iD c bo
 cj:=fun I F w I' w' p ⟨ρ,b8,E,G,aj,aX⟩ V bh aR=>⟨ρ,b8,E,fun d ch J=>Holds.cj V (fun b O=>bh b ((aX b).2 ⟨d,ch,J,O⟩)) aR ch (fun _ _=>rfl) (G d ch J),aj,aX⟩
def bf.at (o:bf) (b:Nat):bf where
 R:=fun I F w p=>p.bj=b/\o.R I F w p
 cj:=fun I F w I' w' p h V bh aR=>⟨h.1,o.cj I F w I' w' p h.2 V bh aR⟩
def bf.le (o o':bf):Prop:= ∀I F w p,o.R I F w p->o'.R I F w p
def fc (I:Nat->Prop) (w:World):List (Nat×bf)->(Nat->Prop)->Prop
 | [],F=> ∀b,¬F b
 |(a,o)::L,F=> ∃(ct cJ:Nat->Prop) (p:bn),(∀b,F b↔ct b\/cJ b)/\(∀b,ct b-> ¬cJ b)/\p.bj=a/\o.R I ct w p/\fc I w L cJ
theorem fc.cj {I I':Nat->Prop} {w w':World} (V:ce I w I' w') (aR:w.heap.size<=w'.heap.size): ∀{L:List (Nat×bf)} {F:Nat->Prop},(∀b,F b->w'.heap[b]? =w.heap[b]?)->fc I w L F->fc I' w' L F
 | [],_,_,h=>h
 |(a,o)::L,F,bh,⟨ct,cJ,p,E,G,aj,aX,bH⟩=>⟨ct,cJ,p,E,G,aj,o.cj _ _ _ _ _ _ aX V (fun b O=>bh b ((E b).2 (.inl O))) aR,bH.cj V aR (fun b O=>bh b ((E b).2 (.inr O)))⟩
def bf.bA (L:List (Nat×bf)):bf where
 R:=fun I F w _=>fc I w L F
 cj:=fun I F w I' w' p h V bh aR=>h.cj V aR bh
def eg:List (Nat×bf)->Nat->Option bf
 | [],_=>none
 |(a,o)::L,b=>if a=b then some o else eg L b
def e4:List (Nat×bf)->Nat->bf->List (Nat×bf)
 | [],_,_=>[]
 |(a,o)::L,b,o'=>if a=b then(a,o')::L else(a,o)::e4 L b o'
theorem fc.out {I:Nat->Prop} {w:World} {b:Nat} {o:bf}: ∀{L:List (Nat×bf)} {F:Nat->Prop},eg L b=some o->fc I w L F-> ∃(ct cJ:Nat->Prop) (p:bn),(∀x,F x↔ct x\/cJ x)/\(∀x,ct x-> ¬cJ x)/\p.bj=b/\o.R I ct w p/\
  ∀(I':Nat->Prop) (w':World) (o':bf) (vV:Nat->Prop) (jX:bn),ce I w I' w'->w.heap.size<=w'.heap.size->(∀x,cJ x->w'.heap[x]? =w.heap[x]?)->jX.bj=b->o'.R I' vV w' jX->(∀x,vV x-> ¬cJ x)->fc I' w' (e4 L b o') (fun x=>vV x\/cJ x)
 | [],F,h,_=>by cases h
 |(a,q)::L,F,h,⟨oP,qc,p,E,G,aj,aX,bH⟩=>by
  unfold eg at h
  split at h
  .rename_i e;injection h with h
   subst h;refine⟨oP,qc,p,E,G,aj.trans e,aX,fun I' w' o' vV jX V aR hf af ah J=>?_⟩;unfold e4;rw[if_pos e];exact⟨vV,qc,jX,fun x=>Iff.rfl,J,af.trans e.symm,ah,bH.cj V aR hf⟩
  .rename_i e;obtain⟨ct,cJ,dY,g1,g2,cZ,jo,BT⟩:=fc.out h bH;refine⟨ct,fun x=>oP x\/cJ x,dY,fun x=>?_,fun x hx=>?_,cZ,jo,fun I' w' o' vV jX V aR hf af ah J=>?_⟩
   .rw[E,g1];constructor
    .rintro(h |h |h)
     .exact .inr (.inl h)
     .exact .inl h
     .exact .inr (.inr h)
    .rintro(h |h |h)
     .exact .inr (.inl h)
     .exact .inl h
     .exact .inr (.inr h)
   .rintro(h |h)
    .exact G x h ((g1 x).2 (.inl hx))
    .exact g2 x hx h
   .unfold e4;rw[if_neg e];refine⟨oP,fun x=>vV x\/cJ x,p,fun x=>?_,fun x hx=>?_,aj,q.cj _ _ _ _ _ _ aX V (fun x hx=>hf x (.inl hx)) aR,BT I' w' o' vV jX V aR (fun x hx=>hf x (.inr hx)) af ah (fun x hx h=>J x hx (.inr h))⟩
    .constructor
     .rintro(h |h |h)
      .exact .inr (.inl h)
      .exact .inl h
      .exact .inr (.inr h)
     .rintro(h |h |h)
      .exact .inr (.inl h)
      .exact .inl h
      .exact .inr (.inr h)
    .rintro(h |h)
     .exact J x h (.inl hx)
     .exact G x hx ((g1 x).2 (.inr h))
theorem fc.add {I:Nat->Prop} {w:World} {L:List (Nat×bf)} {F ct:Nat->Prop} {o:bf} {p:bn} (h:fc I w L F) (ah:o.R I ct w p) (J: ∀x,ct x-> ¬F x):fc I w ((p.bj,o)::L) (fun x=>ct x\/F x):=
 ⟨ct,F,p,fun _=>Iff.rfl,J,rfl,ah,h⟩
theorem cu.fn {P:Program} {f:FuncId} {args:List aP} {aJ:aw} {bc:ay5} {res:aP} {aO:aw} (h:cu P f args aJ bc (fun _:Unit=>res) (fun _=>aO)):Fn P f args aJ bc res aO:=
 ⟨h.1,fun ρ F I w bW b4 cg a3 a4 a5 gy=>(h.2 ρ F I w bW b4 cg a3 a4 a5 gy).mono fun e w' ⟨_,q⟩=>q⟩
theorem cu.bA {P:Program} {f:FuncId} {c q b:Nat} {args:List aP} {aJ:aw} {bc:ay5} {X:Type} {res:X->aP} {aO:X->aw} {o:bf} {o':X->bf} {L:List (Nat×bf)}
  (h:cu P f (.c (.one (.ptr c 0))::args) ((c,.aG o)::aJ) bc res (fun g=>(c,.aG (o' g))::aO g)) (cY:eg L b=some o)
  (E:(args.all fun v=> !v.has c)=true) (G:ki c aJ=true/\(ag aJ q).isNone=true) (aj:(bc.contains c||bc.contains q)=false) (aX: ∀g,(ki c (aO g)&&(ag (aO g) q).isNone&& !(res g).has c)=true):
  cu P f (.c (.one (.d (.aL (some b))))::args) ((q,.aG (.bA L))::aJ) bc res (fun g=>(q,.aG (.bA (e4 L b (o' g))))::aO g):=by
 obtain⟨fT,h⟩:=h;refine⟨fT,fun ρ F I w bW ba cX bh ep b6 dt=>?_⟩;have aT:ag ((q,bb.aG (.bA L))::aJ) q=some (.aG (.bA L)):=aw1
 have bm:fc I w L (F q):=cX q _ aT;obtain⟨ct,cJ,p,ci,cN,ec,eG,uA⟩:=bm.out cY;obtain⟨abO,abP⟩:=ue G.1;have uB:ag aJ q=none:=by simpa using G.2
 have eT: ∀{d ch},ag aJ d=some ch->d≠q/\d≠c/\ag ((q,bb.aG (.bA L))::aJ) d=some ch:=fun {d ch} J=>by
  have ai:d≠q:=fun e=>by rw[e,uB] at J;cases J
  exact⟨ai,fun e=>(by rw[e,abO] at J;cases J),by rw[ca,if_neg (Ne.symm ai)];exact J⟩
 have abQ: ∀(v:aP),v.has c=false-> ∀d,v.has d=true->c5 ρ c p d=ρ d:=fun v ay d J=>dd _ _ (fun e=>by rw[e,ay] at J;cases J)
 match bW,b6 with
 |v0::bW,b6=>
  have xz:v0= .pointer (some ⟨b,0,none⟩):=dt 0 _ v0 rfl rfl
  have iE: ∀{d ch},ag ((c,bb.aG o)::aJ) d=some ch->(d=c/\ch= .aG o)\/(d≠c/\ag aJ d=some ch):=fun {d ch} J=>by
   rw[ca] at J
   split at J
   .rename_i e;injection J with J;exact .inl ⟨e.symm,J.symm⟩
   .rename_i e;exact .inr ⟨Ne.symm e,J⟩
  refine(h (c5 ρ c p) (c5 F c ct) I w (v0::bW) ba ?_ ?_ ?_ (by simpa using b6) ?_).mono ?_
  .intro d ch J;rcases iE J with⟨rfl,rfl⟩ |⟨e,J⟩
   .rw[c6,c6];exact eG
   .rw[dd _ _ e,dd _ _ e];exact Holds.cj (ce.refl _ _) (fun _ _=>rfl) (ap0 _) ch (fun j Z=>dd _ _ (fun b5=>by rw[b5,abP d ch J] at Z;cases Z)) (cX d ch (eT J).2.2)
  .intro d ch J x hx;rcases iE J with⟨rfl,rfl⟩ |⟨e,J⟩
   .rw[c6] at hx;exact bh q _ aT x ((ci x).2 (.inl hx))
   .rw[dd _ _ e] at hx;exact bh d ch (eT J).2.2 x hx
  .intro d c1 ch ch' x J dK a2 hx dE;rcases iE J with⟨I2,_⟩ |⟨e,JK⟩
   .rcases iE dK with⟨JL,_⟩ |⟨b5,Fd⟩
    .exact a2 (I2.trans JL.symm)
    .rw[I2,c6] at hx;rw[dd _ _ b5] at dE;exact ep q c1 _ ch' x aT (eT Fd).2.2 (Ne.symm (eT Fd).1) ((ci x).2 (.inl hx)) dE
   .rw[dd _ _ e] at hx;rcases iE dK with⟨JL,_⟩ |⟨b5,Fd⟩
    .rw[JL,c6] at dE;exact ep q d _ ch x aT (eT JK).2.2 (Ne.symm (eT JK).1) ((ci x).2 (.inl dE)) hx
    .rw[dd _ _ b5] at dE;exact ep d c1 ch ch' x (eT JK).2.2 (eT Fd).2.2 a2 hx dE
  .intro i v x ay hx
   match i with
   |0=>
    simp only[aq5,ap4] at ay hx;subst ay hx;show v0=_;rw[c6,ec];exact xz
   |i+1=>
    have oG:args[i]? =some v:=aw6
    have:=ar4.1 E v (List.mem_of_getElem? oG);exact cr.mono (ce.refl _ _) v x (abQ v (by simpa using this)) (dt (i+1) v x aw6 hx)
  .rintro e w' ⟨g,x,ρ',F',rfl,cz,dl,I',i5,gn,lB,aD,h3,se⟩;have a1:=aX g;simp only[vj,Bool.not_eq_true'] at a1;obtain⟨⟨g1,g2⟩,cZ⟩:=a1;obtain⟨m1,m2⟩:=ue g1;have BU:ag (aO g) q=none:=by simpa using g2
   simp only[Bool.or_eq_false_iff] at aj;have lv:c∉bc:=fun bk=>by have:=ar6.2 bk;rw[aj.1] at this;cases this
   have aoV:q∉bc:=fun bk=>by have:=ar6.2 bk;rw[aj.2] at this;cases this
   have sd:ag ((c,bb.aG (o' g))::aO g) c=some (.aG (o' g)):=aw1
   have m7: ∀{d ch},ag (aO g) d=some ch->d≠c/\d≠q/\ag ((c,bb.aG (o' g))::aO g) d=some ch:=fun {d ch} J=>by
    have ai:d≠c:=fun e=>by rw[e,m1] at J;cases J
    exact⟨ai,fun e=>(by rw[e,BU] at J;cases J),by rw[ca,if_neg (Ne.symm ai)];exact J⟩
   have mE: ∀y,(∃d ch,ag ((c,bb.aG o)::aJ) d=some ch/\c5 F c ct d y)-> ∃d ch,ag ((q,bb.aG (.bA L))::aJ) d=some ch/\F d y:=by
    rintro y ⟨d,ch,J,aB⟩;rcases iE J with⟨rfl,rfl⟩ |⟨e,J⟩
    .rw[c6] at aB;exact⟨q,_,aT,(ci y).2 (.inl aB)⟩
    .rw[dd _ _ e] at aB;exact⟨d,ch,(eT J).2.2,aB⟩
   have jZ: ∀y,cJ y-> ¬ ∃d ch,ag ((c,bb.aG o)::aJ) d=some ch/\c5 F c ct d y:=by
    rintro y aB ⟨d,ch,J,d4⟩;rcases iE J with⟨rfl,rfl⟩ |⟨e,J⟩
    .rw[c6] at d4;exact cN y d4 aB
    .rw[dd _ _ e] at d4;exact ep q d _ ch y aT (eT J).2.2 (Ne.symm (eT J).1) ((ci y).2 (.inr aB)) d4
   have sf: ∀y,cJ y->y < w.heap.size/\ ¬I y:=fun y aB=>bh q _ aT y ((ci y).2 (.inr aB))
   have mD: ∀y,cJ y->w'.heap[y]? =w.heap[y]? :=fun y aB=>cz.block y (sf y aB).1 (jZ y aB)
   have tn: ∀d ch y,ag ((c,bb.aG (o' g))::aO g) d=some ch->F' d y-> ¬cJ y:=fun d ch y J aB BV=>by
    rcases(aD d ch J y aB).2.2 with h |h
    .exact jZ y BV h
    .have:=(sf y BV).1;omega
   have abR:ρ' c=p:=by rw[dl c lv,c6]
   have oH:=uA I' w' (o' g) (F' c) (ρ' c) i5 cz.size mD (by rw[abR];exact ec) (lB c _ sd) (fun y aB=>tn c _ y sd aB);refine⟨g,x,c5 ρ' c (ρ c),fun d=>if d=q then(fun y=>F' c y\/cJ y) else F' d,rfl,cz.mono fun y _ aB=>mE y aB,fun d J=>?_,I',i5,fun y aB=>⟨(gn y aB).1,?_⟩,?_,?_,?_,?_⟩
   .by_cases e:d=c
    .subst e;rw[c6]
    .rw[dd _ _ e,dl d J,dd _ _ e]
   .rcases(gn y aB).2 with h |h |h
    .exact .inl h
    .exact .inr (.inl (mE y h))
    .exact .inr (.inr h)
   .intro d ch J;rw[ca] at J
    split at J
    .rename_i e;injection J with J
     subst J e;simp only[if_true];exact oH
    .rename_i e;obtain⟨ai,ao,bl⟩:=m7 J;simp only[if_neg ao];rw[dd _ _ ai];exact Holds.cj (ce.refl _ _) (fun _ _=>rfl) (ap0 _) ch (fun j Z=>dd _ _ (fun b5=>by rw[b5,m2 d ch J] at Z;cases Z)) (lB d ch bl)
   .intro d ch J y aB;rw[ca] at J
    split at J
    .rename_i e;subst e;simp only[if_true] at aB;rcases aB with aB |aB
     .obtain⟨b4,cg,a3⟩:=aD c _ sd y aB;exact⟨b4,cg,a3.imp (mE y) id⟩
     .refine⟨Nat.lt_of_lt_of_le (sf y aB).1 cz.size,fun aH=>?_,.inl ⟨q,_,aT,(ci y).2 (.inr aB)⟩⟩;rcases(gn y aH).2 with h |h |h
      .exact(sf y aB).2 h
      .exact jZ y aB h
      .have:=(sf y aB).1;omega
    .obtain⟨ai,ao,bl⟩:=m7 J;simp only[if_neg ao] at aB;obtain⟨b4,cg,a3⟩:=aD d ch bl y aB;exact⟨b4,cg,a3.imp (mE y) id⟩
   .intro d c1 ch ch' y J dK a2 aB d4;rw[ca] at J dK
    split at J
    .rename_i e;subst e;rw[if_neg a2] at dK;obtain⟨ai,ao,bl⟩:=m7 dK;simp only[if_true] at aB;simp only[if_neg ao] at d4;rcases aB with aB |aB
     .exact h3 c c1 _ ch' y sd bl (Ne.symm ai) aB d4
     .exact tn c1 ch' y bl d4 aB
    .obtain⟨ai,ao,bl⟩:=m7 J;simp only[if_neg ao] at aB
     split at dK
     .rename_i e;subst e;simp only[if_true] at d4;rcases d4 with d4 |d4
      .exact h3 d c ch _ y bl sd ai aB d4
      .exact tn d ch y bl aB d4
     .obtain⟨k3,jp,zv⟩:=m7 dK;simp only[if_neg jp] at d4;exact h3 d c1 ch ch' y bl zv a2 aB d4
   .exact cr.mono (ce.refl _ _) (res g) x (fun j Z=>dd _ _ (fun b5=>by rw[b5,cZ] at Z;cases Z)) se
theorem iF: ∀(B B':aw) (c:Nat),ag (B++B') c=(match ag B c with
  |some ch=>some ch
  |none=>ag B' c)
 | [],B',c=>rfl
 |(d,ch)::B,B',c=>by
  rw[List.cons_append,ca,ca,iF B B' c]
  split <;>rfl
def BW (l:ay5):aw->Bool
 | []=>true
 |(c,ch)::B=> !l.contains c&&(l.all fun d=> !ch.has d)&&BW l B
theorem BX {l:ay5}: ∀{B:aw},BW l B=true-> ∀{c ch},ag B c=some ch->c∉l/\ ∀d,d∈l->ch.has d=false
 |(c,ch)::B,h,d,ch',J=>by
  simp only[BW,vj,Bool.not_eq_true'] at h;rw[ca] at J
  split at J
  .rename_i e;subst e;injection J with J
   subst J;refine⟨fun bk=>?_,fun x hx=>?_⟩
   .have:=ar6.2 bk;rw[h.1.1] at this
    cases this
   .have:=ar4.1 h.1.2 x hx;simpa using this
  .exact BX h.2 J
def mF (fU bc i9:ay5):ay5:=fU++bc.filter fun d=> !i9.contains d
theorem tp {l:ay5} {d:Nat} (h:l.contains d=true):d∈l:=ar6.1 h
theorem vW {l:ay5} {d:Nat} (h:l.contains d=false):d∉l:=fun bk=>by rw[ar6.2 bk] at h;cases h
def nO (c:Nat) (fU:ay5) (args:List aP) (bo aJ:aw) (bc i9:ay5):Bool:=
 (cl bo).contains c&&(cl bo).all (fun d=>(c::fU).contains d)&&vL (c::fU) bo&& !bc.contains c&& !fU.contains c&&i9.all (fun d=>bc.contains d&& !fU.contains d)&&(args.all fun v=>fU.all fun d=> !v.has d)&&BW fU aJ&&(ag aJ c).isNone
def nP (c:Nat) (hid:ay5) (res:aP) (dv aO:aw):Bool:=
 (cl dv).contains c&&(cl dv).all (fun d=>(c::hid).contains d)&&BW hid aO&&(ag aO c).isNone&&(hid.all fun d=> !res.has d)
theorem cu.close {P:Program} {f:FuncId} {c:Nat} {args:List aP} {bo aJ:aw} {bc i9:ay5} {X:Type} {res:X->aP} {dv aO:X->aw} {o:bf} {o':X->bf} (fU:ay5)
  (h:cu P f args (bo++aJ) bc res (fun g=>dv g++aO g)) (ft: ∀I F w p,o.R I F w p->iD c bo I F w p) (nM: ∀g I F w p,iD c (dv g) I F w p->(o' g).R I F w p)
  (E:nO c fU args bo aJ bc i9=true) (G: ∀g,nP c (mF fU bc i9) (res g) (dv g) (aO g)=true):
  cu P f args ((c,.aG o)::aJ) i9 res (fun g=>(c,.aG (o' g))::aO g):=by
 obtain⟨fT,h⟩:=h;simp only[nO,vj,Bool.not_eq_true',au1] at E;obtain⟨⟨⟨⟨⟨⟨⟨⟨b4,cg⟩,a3⟩,a4⟩,a5⟩,gy⟩,yS⟩,Fe⟩,a9⟩:=E;have b4:=tp b4;have a4:=vW a4;have a5:=vW a5
 have Ql: ∀d,d∈cl bo->d=c\/d∈fU:=fun d J=>by
  have:=tp (ar4.1 cg d J);exact ap3.1 this
 have aoW: ∀d,d∈i9->d∈bc/\d∉fU:=fun d J=>by
  have:=ar4.1 gy d J;simp only[vj,Bool.not_eq_true'] at this;exact⟨tp this.1,vW this.2⟩
 refine⟨fT,fun ρ F I w bW ba cX bh ep b6 dt=>?_⟩;have dJ:ag ((c,bb.aG o)::aJ) c=some (.aG o):=aw1
 obtain⟨oQ,b8,cx,cA,dy,fb⟩:=ft _ _ _ _ (cX c _ dJ)
 have eT: ∀{d ch},ag aJ d=some ch->d≠c/\d∉fU/\ag ((c,bb.aG o)::aJ) d=some ch:=fun {d ch} J=>by
  have ai:d≠c:=fun e=>by rw[e,a9] at J;cases J
  exact⟨ai,(BX Fe J).1,by rw[ca,if_neg (Ne.symm ai)];exact J⟩
 have iE: ∀{d ch},ag (bo++aJ) d=some ch->(ag bo d=some ch/\d∈cl bo)\/(d∉cl bo/\ag aJ d=some ch):=fun {d ch} J=>by
  rw[iF] at J
  cases e:ag bo d with
  |some ch'=>
   rw[e] at J;exact .inl ⟨J,gm.2 ⟨ch',e⟩⟩
  |none=>
   rw[e] at J;exact .inr ⟨fun ab=>(by obtain⟨ch',ab⟩:=gm.1 ab;rw[e] at ab;cases ab),J⟩
 let uC:Nat->bn:=fun d=>if d∈fU then oQ d else ρ d
 let iO:Nat->Nat->Prop:=fun d=>if d∈cl bo then b8 d else F d
 have BY: ∀d,d∉fU->uC d=ρ d:=fun d J=>if_neg J
 have xA: ∀d,d∈c::fU->uC d=oQ d:=fun d J=>by
  rcases ap3.1 J with rfl |J
  .rw[BY _ a5,cx]
  .exact if_pos J
 have mE: ∀y,(∃d ch,ag (bo++aJ) d=some ch/\iO d y)-> ∃d ch,ag ((c,bb.aG o)::aJ) d=some ch/\F d y:=by
  rintro y ⟨d,ch,J,aB⟩;rcases iE J with⟨ai,ao⟩ |⟨ai,ao⟩
  .have aB:b8 d y:=by simpa only[iO,if_pos ao] using aB
   exact⟨c,_,dJ,(fb y).2 ⟨d,ch,ai,aB⟩⟩
  .have aB:F d y:=by simpa only[iO,if_neg ai] using aB
   exact⟨d,ch,(eT ao).2.2,aB⟩
 refine(h uC iO I w bW ba ?_ ?_ ?_ b6 ?_).mono ?_
 .intro d ch J;rcases iE J with⟨ai,ao⟩ |⟨ai,ao⟩
  .have ab:d∈c::fU:=ap3.2 (Ql d ao);rw[xA d ab];simp only[iO,if_pos ao];exact Holds.cj (ce.refl _ _) (fun _ _=>rfl) (ap0 _) ch (fun j Z=>xA j (bb.kn (xn a3 ai) Z)) (cA d ch ai)
  .rw[BY d (eT ao).2.1];simp only[iO,if_neg ai];exact Holds.cj (ce.refl _ _) (fun _ _=>rfl) (ap0 _) ch (fun j Z=>BY j (fun kP=>by rw[(BX Fe ao).2 j kP] at Z;cases Z)) (cX d ch (eT ao).2.2)
 .intro d ch J x hx;rcases iE J with⟨ai,ao⟩ |⟨ai,ao⟩
  .simp only[iO,if_pos ao] at hx;exact bh c _ dJ x ((fb x).2 ⟨d,ch,ai,hx⟩)
  .simp only[iO,if_neg ai] at hx;exact bh d ch (eT ao).2.2 x hx
 .intro d c1 ch ch' x J dK a2 hx dE;rcases iE J with⟨ai,ao⟩ |⟨ai,ao⟩
  .simp only[iO,if_pos ao] at hx;rcases iE dK with⟨k3,jp⟩ |⟨k3,jp⟩
   .simp only[iO,if_pos jp] at dE;exact dy d c1 ch ch' x ai k3 a2 hx dE
   .simp only[iO,if_neg k3] at dE;exact ep c c1 _ ch' x dJ (eT jp).2.2 (Ne.symm (eT jp).1) ((fb x).2 ⟨d,ch,ai,hx⟩) dE
  .simp only[iO,if_neg ai] at hx;rcases iE dK with⟨k3,jp⟩ |⟨k3,jp⟩
   .simp only[iO,if_pos jp] at dE;exact ep c d _ ch x dJ (eT ao).2.2 (Ne.symm (eT ao).1) ((fb x).2 ⟨c1,ch',k3,dE⟩) hx
   .simp only[iO,if_neg k3] at dE;exact ep d c1 ch ch' x (eT ao).2.2 (eT jp).2.2 a2 hx dE
 .intro i v x ay hx;have JM:=ar4.1 yS v (List.mem_of_getElem? ay)
  exact cr.mono (ce.refl _ _) v x (fun j Z=>BY j (fun kP=>by
   have:=ar4.1 JM j kP;rw[Z] at this
   cases this)) (dt i v x ay hx)
 .rintro e w' ⟨g,x,ρ',F',rfl,cz,dl,I',i5,gn,lB,aD,h3,se⟩;have a1:=G g;simp only[nP,vj,au1] at a1;obtain⟨⟨⟨⟨b1,b2⟩,b3⟩,ef⟩,fd⟩:=a1;have b1:=tp b1
  have abS: ∀d,d∉mF fU bc i9->d∉fU/\(d∈bc->d∈i9):=fun d J=>by
   refine⟨fun bk=>J (aq8.2 (.inl bk)),fun bk=>?_⟩;rcases Decidable.em (d∈i9) with h |h
   .exact h
   .exact absurd (aq8.2 (.inr (at5.2 ⟨bk,by simpa using h⟩))) J
  have JN:c∉mF fU bc i9:=fun bk=>by
   rcases aq8.1 bk with h |h
   .exact a5 h
   .exact a4 (at5.1 h).1
  let uq:Nat->bn:=fun d=>if d∈i9 then ρ' d else ρ d
  have q6: ∀d,d∉mF fU bc i9->uq d=ρ' d:=fun d J=>by
   obtain⟨ai,ao⟩:=abS d J;show(if d∈i9 then ρ' d else ρ d)=ρ' d
   split
   .rfl
   .rename_i hn;rw[dl d (fun bk=>hn (ao bk)),BY d ai]
  have oR: ∀{d ch},ag (dv g) d=some ch->ag (dv g++aO g) d=some ch:=fun {d ch} J=>by rw[iF,J]
  have m7: ∀{d ch},ag (aO g) d=some ch->d≠c/\d∉mF fU bc i9/\ag (dv g) d=none/\ag (dv g++aO g) d=some ch:=fun {d ch} J=>by
   have ai:d≠c:=fun e=>by rw[e,ef] at J;cases J
   have ao:=(BX b3 J).1
   have bl:ag (dv g) d=none:=by
    cases e:ag (dv g) d with
    |none=>rfl
    |some ch'=>
     have:=tp (ar4.1 b2 d (gm.2 ⟨ch',e⟩));rcases ap3.1 this with h |h
     .exact absurd h ai
     .exact absurd h ao
   exact⟨ai,ao,bl,by rw[iF,bl];exact J⟩
  refine⟨g,x,uq,fun d=>if d=c then(fun y=> ∃c1 ch',ag (dv g) c1=some ch'/\F' c1 y) else F' d,rfl,cz.mono fun y _ aB=>mE y aB,fun d J=>if_neg J,I',i5,fun y aB=>⟨(gn y aB).1,?_⟩,?_,?_,?_,?_⟩
  .rcases(gn y aB).2 with h |h |h
   .exact .inl h
   .exact .inr (.inl (mE y h))
   .exact .inr (.inr h)
  .intro d ch J;rw[ca] at J
   split at J
   .rename_i e;injection J with J
    subst J e;simp only[if_true];rw[q6 _ JN];exact nM g _ _ _ _ ⟨ρ',F',rfl,fun d ch J=>lB d ch (oR J),fun d c1 ch ch' b J dK a2=>h3 d c1 ch ch' b (oR J) (oR dK) a2,fun b=>Iff.rfl⟩
   .obtain⟨ai,ao,bl,c2⟩:=m7 J;simp only[if_neg ai];rw[q6 d ao];exact Holds.cj (ce.refl _ _) (fun _ _=>rfl) (ap0 _) ch (fun j Z=>q6 j (fun kP=>by rw[(BX b3 J).2 j kP] at Z;cases Z)) (lB d ch c2)
  .intro d ch J y aB;rw[ca] at J
   split at J
   .rename_i e;subst e;simp only[if_true] at aB;obtain⟨c1,ch',E,G⟩:=aB;obtain⟨cC,cG,hF⟩:=aD c1 ch' (oR E) y G;exact⟨cC,cG,hF.imp (mE y) id⟩
   .obtain⟨ai,ao,bl,c2⟩:=m7 J;simp only[if_neg ai] at aB;obtain⟨cC,cG,hF⟩:=aD d ch c2 y aB;exact⟨cC,cG,hF.imp (mE y) id⟩
  .intro d c1 ch ch' y J dK a2 aB d4;rw[ca] at J dK
   split at J
   .rename_i e;subst e;rw[if_neg a2] at dK;obtain⟨ai,ao,bl,c2⟩:=m7 dK;simp only[if_true] at aB;simp only[if_neg ai] at d4;obtain⟨hB,iU,E,G⟩:=aB;exact h3 hB c1 iU ch' y (oR E) c2 (fun e=>by rw[e,bl] at E;cases E) G d4
   .obtain⟨ai,ao,bl,c2⟩:=m7 J;simp only[if_neg ai] at aB
    split at dK
    .rename_i e;subst e;simp only[if_true] at d4;obtain⟨hB,iU,E,G⟩:=d4;exact h3 d hB ch iU y c2 (oR E) (fun e=>by rw[<-e,bl] at E;cases E) aB G
    .obtain⟨k3,jp,zv,abT⟩:=m7 dK;simp only[if_neg k3] at d4;exact h3 d c1 ch ch' y c2 abT a2 aB d4
  .exact cr.mono (ce.refl _ _) (res g) x (fun j Z=>q6 j (fun kP=>by
    have:=ar4.1 fd j kP;rw[Z] at this
    cases this)) se
theorem iD.abU {f g:Nat->Nat} (BZ: ∀c,g (f c)=c) (JO: ∀c,f (g c)=c) {c:Nat} {bo:aw} {I F:Nat->Prop} {w:World} {p:bn} (h:iD c bo I F w p):iD (f c) (j1 f bo) I F w p:=by
 obtain⟨ρ,b8,E,G,aj,aX⟩:=h
 have al: ∀{d ch},ag (j1 f bo) d=some ch-> ∃cw,ag bo (g d)=some cw/\ch=cw.eo f:=fun {d ch} J=>by
  rw[<-JO d,BM BZ] at J;obtain⟨cw,ai,ao⟩:=as0.1 J;exact⟨cw,ai,ao.symm⟩
 refine⟨fun d=>ρ (g d),fun d=>b8 (g d),by simp only[BZ];exact E,fun d ch J=>?_,fun d c1 ch ch' b J dK a2=>?_,fun b=>?_⟩
 .obtain⟨cw,ai,rfl⟩:=al J;rw[BL];simp only[BZ];exact G _ _ ai
 .obtain⟨cw,ai,_⟩:=al J;obtain⟨iU,ao,_⟩:=al dK;exact aj _ _ _ _ b ai ao (fun e=>a2 (by rw[<-JO d,<-JO c1,e]))
 .rw[aX];constructor
  .rintro⟨d,ch,ai,ao⟩;exact⟨f d,ch.eo f,by rw[BM BZ,ai];rfl,by simp only[BZ];exact ao⟩
  .rintro⟨d,ch,ai,ao⟩;obtain⟨cw,bl,_⟩:=al ai;exact⟨g d,cw,bl,ao⟩
theorem iD.aV (l:List (Nat×Nat)) {c:Nat} {bo:aw} {I F:Nat->Prop} {w:World} {p:bn} (h:iD c bo I F w p):iD (eo (k6 l []) c) (j1 (eo (k6 l [])) bo) I F w p:=
 h.abU (g:=zq (k6 l [])) (E4 _) (E5 _)
theorem iD.sub {c:Nat} {bo dv:aw} {I F:Nat->Prop} {w:World} {p:bn} (h:iD c bo I F w p) (E: ∀d ch,ag bo d=some ch↔ag dv d=some ch):iD c dv I F w p:=by
 obtain⟨ρ,b8,ai,ao,bl,c2⟩:=h;exact⟨ρ,b8,ai,fun d ch J=>ao d ch ((E d ch).2 J),fun d c1 ch ch' b J dK=>bl d c1 ch ch' b ((E d ch).2 J) ((E c1 ch').2 dK),fun b=>(c2 b).trans ⟨fun⟨d,ch,a,b⟩=>⟨d,ch,(E d ch).1 a,b⟩,fun⟨d,ch,a,b⟩=>⟨d,ch,(E d ch).2 a,b⟩⟩⟩
section
variable {ids:ay5} {K:aY} {B:aw}
theorem de.name (s c:Nat) {o:bf} (ax:dA K s= .c (.one (.ptr c 0))) (H:ag B c=some (.aG o)):de ids K B (fun b:Nat=>(s,.c (.one (.d (.aL (some b)))))::K) (fun b=>(c,.aG (o.at b))::B):=by
 rintro N C a w ⟨hn,J,ρ,F,aq,au⟩;obtain⟨bN,aW⟩:=aq.hP (w':=w) (ch:=.aG (o.at (ρ c).bj)) H (cK.refl _ _) fun I ba=>⟨rfl,Holds.cj (ρ':=ρ) ba (fun _ _=>rfl) (ap0 _) (.aG o) (fun _ _=>rfl) (aq.holds c _ H)⟩
 refine⟨(ρ c).bj,hn,J,ρ,F,bN,fun t=>?_⟩;rw[ke]
 split
 .rename_i e;subst e;have:=au s;rw[ax] at this;exact this
 .exact au.mono aW (fun _ _ _=>rfl) t
theorem ae.put (q c:Nat) {o:bf} {b:Nat} {L:List (Nat×bf)} (a2:c≠q) (aT:ag B q=some (.aG (.bA L))) (H:ag B c=some (.aG (o.at b))):ae ids K B K ((q,.aG (.bA ((b,o)::L)))::gM B c):=by
 rintro N C a w ⟨hn,J,ρ,F,aq,au⟩;have bm:fc _ _ L (F q):=aq.holds q _ aT;have aD:(ρ c).bj=b/\o.R _ (F c) w (ρ c):=aq.holds c _ H;obtain⟨rfl,aD⟩:=aD;have ep: ∀x,F c x-> ¬F q x:=fun x hx dE=>aq.e' c q _ _ x H aT a2 hx dE
 obtain⟨bN,aW⟩:=aq.step (B':=(q,.aG (.bA (((ρ c).bj,o)::L)))::gM B c) (ρ':=ρ) (F':=c5 F q (fun x=>F c x\/F q x)) (w':=w) (fun d=>d=c\/d=q) (fun _=>False) (cK.refl _ _)
  (fun d ch J az=>by
   rw[ca,if_neg (fun e=>az (.inr e.symm)),hl,if_neg (fun e=>az (.inl e.symm))] at J;exact J)
  (fun _ _=>rfl) (fun d az=>dd _ _ (fun e=>az (.inr e))) (fun _ _ h=>h) (fun _ h=>h.elim) (fun _ _ _ _ _ _ h=>h)
  (fun d ch J az aW=>by
   rw[ca] at J
   split at J
   .rename_i e;subst e;injection J with J
    subst J;rw[c6];exact fc.add (bm.cj aW (ap0 _) (fun _ _=>rfl)) (o.cj _ _ _ _ _ _ aD aW (fun _ _=>rfl) (ap0 _)) ep
   .rename_i e;rcases az with rfl |rfl
    .rw[hl,if_pos rfl] at J;cases J
    .exact absurd rfl e)
  (fun d ch J az x hx=>by
   rw[ca] at J
   split at J
   .rename_i e;subst e;rw[c6] at hx;rcases hx with hx |hx
    .exact⟨(aq.own c _ H x hx).1,.inl ⟨c,_,H,.inl rfl,hx⟩⟩
    .exact⟨(aq.own q _ aT x hx).1,.inl ⟨q,_,aT,.inr rfl,hx⟩⟩
   .rename_i e;rcases az with rfl |rfl
    .rw[hl,if_pos rfl] at J;cases J
    .exact absurd rfl e)
  (fun d c1 ch ch' x J dK az gl JP=>by
   have key: ∀d ch,ag ((q,bb.aG (.bA (((ρ c).bj,o)::L)))::gM B c) d=some ch->(d=c\/d=q)->d=q:=fun d ch J az=>by
    rcases az with rfl |rfl
    .rw[ca,if_neg (Ne.symm a2),hl,if_pos rfl] at J;cases J
    .rfl
   exact absurd ((key d ch J az).trans (key c1 ch' dK gl).symm) JP)
 exact⟨hn,J,ρ,_,bN,au.mono aW fun _ _ _=>rfl⟩
def pw:ay5->aw->aw
 | [],B=>B
 |c::l,B=>pw l (gM B c)
theorem xB: ∀(l:ay5) (B:aw) (d:Nat),ag (pw l B) d=if d∈l then none else ag B d
 | [],B,d=>by simp[pw]
 |c::l,B,d=>by
  rw[pw,xB l,hl]
  by_cases h:d∈l
  .rw[if_pos h,if_pos (ap2 _ h)]
  .rw[if_neg h]
   by_cases e:c=d
   .subst e;rw[if_pos rfl,if_pos (aq0 ..)]
   .rw[if_neg e,if_neg];intro bk;rcases ap3.1 bk with rfl |bk
    .exact e rfl
    .exact h bk
theorem ae.close (c:Nat) (bo:aw) {o:bf} (da:kK B bo) (H:(cl bo).contains c=true) (ah: ∀I F w p,iD c bo I F w p->o.R I F w p):ae ids K B K ((c,.aG o)::pw (cl bo) B):=by
 rintro N C a w ⟨hn,J,ρ,F,aq,au⟩;have H:=tp H;have al: ∀{d ch},ag bo d=some ch->ag B d=some ch:=fun {d ch} h=>kl da h
 have vX: ∀{d ch},ag ((c,bb.aG o)::pw (cl bo) B) d=some ch->d∈cl bo->d=c/\ch= .aG o:=fun {d ch} J az=>by
  rw[ca] at J
  split at J
  .rename_i e;injection J with J;exact⟨e.symm,J.symm⟩
  .rw[xB,if_pos az] at J;cases J
 obtain⟨bN,aW⟩:=aq.step (B':=(c,.aG o)::pw (cl bo) B) (ρ':=ρ) (F':=fun d=>if d∈cl bo then(fun x=> ∃d ch,ag bo d=some ch/\F d x) else F d) (w':=w) (fun d=>d∈cl bo) (fun _=>False) (cK.refl _ _)
  (fun d ch J az=>by
   have a2:c≠d:=fun e=>az (by rw[<-e];exact H)
   rw[ca,if_neg a2,xB,if_neg az] at J;exact J)
  (fun _ _=>rfl) (fun d az=>if_neg az) (fun _ _ h=>h) (fun _ h=>h.elim) (fun _ _ _ _ _ _ h=>h)
  (fun d ch J az aW=>by
   obtain⟨rfl,rfl⟩:=vX J az;simp only[if_pos az];exact ah _ _ _ _ ⟨ρ,F,rfl,fun d ch h=>Holds.cj aW (fun _ _=>rfl) (ap0 _) ch (fun _ _=>rfl) (aq.holds d ch (al h)),fun d c1 ch ch' b h h' a2=>aq.e' d c1 ch ch' b (al h) (al h') a2,fun b=>Iff.rfl⟩)
  (fun d ch J az x hx=>by
   simp only[if_pos az] at hx;obtain⟨c1,ch',E,G⟩:=hx;exact⟨(aq.own c1 ch' (al E) x G).1,.inl ⟨c1,ch',al E,gm.2 ⟨ch',E⟩,G⟩⟩)
  (fun d c1 ch ch' x J dK az gl a2=>absurd ((vX J az).1.trans (vX dK gl).1.symm) a2)
 exact⟨hn,J,ρ,_,bN,au.mono aW fun _ _ _=>rfl⟩
theorem ae.q' (q:Nat) (hf:gX ids K B q=true):ae ids K B K ((q,.aG (.bA []))::B):=by
 rintro N C a w ⟨hn,J,ρ,F,aq,au⟩;have cz:=kM hf;obtain⟨bN,aW⟩:=aq.make hf (Below.refl _ w) (ρ q) (fun _=>False) (fun _ h=>h.elim) (ch:=.aG (.bA [])) fun I _ _=>fun b h=>h
 exact⟨hn,J,_,_,bN,au.mono aW fun s d J=>dd _ _ (fun e=>by subst e;rw[cz.1 s] at J;cases J)⟩
end
end
section
abbrev ak:bx:=.int .i64
abbrev mG:dI:=.one (.bJ (.pointer none))
abbrev dw (n:Int):dI:=.one (.d (.int .i64 n))
abbrev gJ:aP:=.cf []
abbrev dn (b:Nat):aP:=.c (.one (.d (.aL (some b))))
abbrev Qm (x:Option Nat):dI:=.one (.d (.aL x))
theorem jv {α:Type} {L:List α} {n:Nat} (h:n < L.length):fD L n=some L[n]:=oj h
theorem Fn.close {P:Program} {f:FuncId} {c:Nat} {args:List aP} {bo aJ:aw} {bc i9:ay5} {res:aP} {dv aO:aw} {o o':bf} (fU:ay5)
  (h:Fn P f args (bo++aJ) bc res (dv++aO)) (ft: ∀I F w p,o.R I F w p->iD c bo I F w p) (nM: ∀I F w p,iD c dv I F w p->o'.R I F w p)
  (E:nO c fU args bo aJ bc i9=true) (G:nP c (mF fU bc i9) res dv aO=true):
  Fn P f args ((c,.aG o)::aJ) i9 res ((c,.aG o')::aO):=
 (cu.close (bo:=bo) (dv:=fun _:Unit=>dv) (aO:=fun _=>aO) (o:=o) (o':=fun _=>o') fU h.x ft (fun _=>nM) E (fun _=>G)).fn
theorem Fn.Ff {P:Program} {f:FuncId} {args:List aP} {c:Nat} {aJ:aw} {bc:ay5} {res:aP} {aO:aw} {o:bf} {Y:Type} {sg:Y->bf} (H:jl P f=true) (ah: ∀I F w p,o.R I F w p-> ∃y,(sg y).R I F w p)
  (h: ∀y,Fn P f args ((c,.aG (sg y))::aJ) bc res aO):Fn P f args ((c,.aG o)::aJ) bc res aO:=by
 refine⟨H,fun ρ F I w bW b4 cg a3 a4 a5 gy=>?_⟩;have al:ag ((c,bb.aG o)::aJ) c=some (.aG o):=aw1
 obtain⟨y,aB⟩:=ah _ _ _ _ (cg c _ al)
 have key: ∀d ch,ag ((c,bb.aG (sg y))::aJ) d=some ch->(d=c/\ch= .aG (sg y))\/ag ((c,bb.aG o)::aJ) d=some ch:=fun d ch J=>by
  rw[ca] at J
  split at J
  .rename_i e;injection J with J;exact .inl ⟨e.symm,J.symm⟩
  .rename_i e;exact .inr (by rw[ca,if_neg e];exact J)
 have uD: ∀d ch,ag ((c,bb.aG (sg y))::aJ) d=some ch-> ∃cw,ag ((c,bb.aG o)::aJ) d=some cw:=fun d ch J=>by
  rcases key d ch J with⟨e,_⟩ |h
  .rw[e];exact⟨_,al⟩
  .exact⟨_,h⟩
 have abV: ∀d ch,ag ((c,bb.aG o)::aJ) d=some ch-> ∃cw,ag ((c,bb.aG (sg y))::aJ) d=some cw:=fun d ch J=>by
  rw[ca] at J⊢
  split at J
  .rename_i e;exact⟨_,by rw[if_pos e]⟩
  .rename_i e;exact⟨ch,by rw[if_neg e];exact J⟩
 have bh: ∀b,(∃d ch,ag ((c,bb.aG (sg y))::aJ) d=some ch/\F d b)↔ ∃d ch,ag ((c,bb.aG o)::aJ) d=some ch/\F d b:=fun b=>
  ⟨fun⟨d,ch,E,G⟩=>let⟨cw,h⟩:=uD d ch E;⟨d,cw,h,G⟩,fun⟨d,ch,E,G⟩=>let⟨cw,h⟩:=abV d ch E;⟨d,cw,h,G⟩⟩
 refine((h y).2 ρ F I w bW b4 (fun d ch J=>?_) (fun d ch J b O=>?_) (fun d c1 ch ch' b E G=>?_) a5 gy).mono ?_
 .rcases key d ch J with⟨rfl,rfl⟩ |h
  .exact aB
  .exact cg d ch h
 .obtain⟨cw,h⟩:=uD d ch J;exact a3 d cw h b O
 .obtain⟨gW,g1⟩:=uD d ch E;obtain⟨cC,g2⟩:=uD c1 ch' G;exact a4 d c1 gW cC b g1 g2
 .rintro e w' ⟨x,ρ',F',r1,r2,ga,I',jJ,lC,l6,lD,mH,nQ⟩;refine⟨x,ρ',F',r1,r2.mono fun b _ O=>(bh b).1 O,ga,I',jJ,fun b O=>⟨(lC b O).1,(lC b O).2.imp id (Or.imp (bh b).1 id)⟩,l6,fun d ch J b O=>?_,mH,nQ⟩;obtain⟨g1,g2,cZ⟩:=lD d ch J b O;exact⟨g1,g2,cZ.imp (bh b).1 id⟩
end
section
theorem cu.Jy {P:Program} {fn:FuncId} {f g:Nat->Nat} (a1: ∀c,g (f c)=c) (hf: ∀c,f (g c)=c) {args:List aP} {aJ:aw} {bc:ay5} {X:Type} {res:X->aP} {aO:X->aw} (h:cu P fn args aJ bc res aO):
  cu P fn (xr f args) (j1 f aJ) (zt f bc) (fun x=>(res x).eo f) (fun x=>j1 f (aO x)):=by
 refine⟨h.1,?_⟩;intro ρ F I w bW ba cX bh ep b6 dt;have l5: ∀(B:aw) c,ag (j1 f B) (f c)=(ag B c).map (·.eo f):=BM a1;have oN: ∀{B:aw} {c ch},ag B c=some ch->ag (j1 f B) (f c)=some (ch.eo f):=fun {B c ch} h=>by rw[l5,h];rfl
 have uv: ∀{B:aw} {c ch},ag (j1 f B) c=some ch-> ∃cw,ag B (g c)=some cw/\ch=cw.eo f:=fun {B c ch} h=>by
  have e:=l5 B (g c);rw[hf,h] at e;obtain⟨cw,E,G⟩:=as0.1 e.symm;exact⟨cw,E,G.symm⟩
 rw[Jw] at b6 dt
 have H:=h.2 (fun c=>ρ (f c)) (fun c=>F (f c)) I w bW ba
  (fun c ch H=>by rw[<-BL];exact cX _ _ (oN H))
  (fun c ch H=>bh _ _ (oN H))
  (fun c bX ch ch' b E G a2=>ep _ _ _ _ b (oN E) (oN G) fun e=>a2 (by rw[<-a1 c,e,a1]))
  (by simpa using b6)
  (fun i v x ay hx=>by rw[<-E7];exact dt i _ x (by rw[ar0,ay];rfl) hx)
 refine H.mono ?_;rintro e w' ⟨y,x,ρ',F',rfl,cz,dl,I',i5,gn,lB,aD,h3,hx⟩;have xt:(fun c=>ρ' (g (f c)))=ρ':=funext fun c=>by rw[a1]
 refine⟨y,x,fun c=>ρ' (g c),fun c=>F' (g c),rfl,?_,?_,I',i5,?_,?_,?_,?_,?_⟩
 .exact cz.mono fun b _ ⟨c,ch,E,G⟩=>⟨f c,_,oN E,G⟩
 .intro c H;show ρ' (g c)=ρ c;rw[dl (g c) (fun az=>H (by have:=Jx (f:=f) _ _ az;rwa[hf] at this)),hf]
 .intro b O;obtain⟨E,G⟩:=gn b O;refine⟨E,?_⟩;rcases G with G |⟨c,ch,G,aj⟩ |G
  .exact .inl G
  .exact .inr (.inl ⟨f c,_,oN G,aj⟩)
  .exact .inr (.inr G)
 .intro c ch H;obtain⟨cw,E,rfl⟩:=uv H;rw[BL,xt];exact lB _ _ E
 .intro c ch H b O;obtain⟨cw,E,rfl⟩:=uv H;obtain⟨cx,cA,dy⟩:=aD _ _ E b O;refine⟨cx,cA,?_⟩;rcases dy with⟨gW,cw,dy,fb⟩ |dy
  .exact .inl ⟨f gW,_,oN dy,fb⟩
  .exact .inr dy
 .intro c bX ch ch' b H cF a2;obtain⟨cw,E,rfl⟩:=uv H;obtain⟨iU,G,rfl⟩:=uv cF;exact h3 _ _ _ _ b E G fun e=>a2 (by rw[<-hf c,e,hf])
 .rw[E7,xt];exact hx
theorem cu.aV {P:Program} {fn:FuncId} (l:List (Nat×Nat)) {args:List aP} {aJ:aw} {bc:ay5} {X:Type} {res:X->aP} {aO:X->aw} (h:cu P fn args aJ bc res aO):
  cu P fn (xr (eo (k6 l [])) args) (j1 (eo (k6 l [])) aJ) (zt (eo (k6 l [])) bc) (fun x=>(res x).eo (eo (k6 l []))) (fun x=>j1 (eo (k6 l [])) (aO x)):=
 cu.Jy (E4 _) (E5 _) h
theorem cu.arg {P:Program} {f:FuncId} {args args':List aP} {aJ:aw} {bc:ay5} {X:Type} {res:X->aP} {aO:X->aw} (h:cu P f args' aJ bc res aO) (al:Ef args args'):cu P f args aJ bc res aO:=by
 obtain⟨E,G⟩:=Jj al;refine⟨h.1,fun ρ F I w bW b4 cg a3 a4 a5 gy=>h.2 ρ F I w bW b4 cg a3 a4 (a5.trans E) fun i v x ay hx=>?_⟩;obtain⟨s,g1,g2⟩:=G i v ay;exact vM g2 (gy i s x g1 hx)
def bf.oS (o:bf):Prop:= ∀I F w p,o.R I F w p->F p.bj
theorem JQ {I:Nat->Prop} {w:World} {b:Nat}: ∀{L:List (Nat×bf)} {F:Nat->Prop},(∀p∈L,p.2.oS)->fc I w L F->b∈L.map (·.1)->F b
 | [],_,_,_,h=>by cases h
 |p::L,F,ha,⟨ct,cJ,q,E,G,aj,aX,bH⟩,h=>by
  rcases ap3.1 h with h |h
  .exact(E b).2 (.inl (by rw[h];have:=ha p (aq0 ..) _ _ _ _ aX;rwa[aj] at this))
  .exact(E b).2 (.inr (JQ (fun p af=>ha p (ap2 _ af)) bH h))
theorem Qn {I:Nat->Prop} {w:World}: ∀{L:List (Nat×bf)} {F:Nat->Prop},(∀p∈L,p.2.oS)->fc I w L F->(L.map (·.1)).Nodup
 | [],_,_,_=>at0
 |p::L,F,ha,⟨ct,cJ,q,E,G,aj,aX,bH⟩=>by
  have Qo: ∀p∈L,p.2.oS:=fun p af=>ha p (ap2 _ af)
  rw[aq4];refine aq7.2 ⟨fun az=>?_,Qn Qo bH⟩;have ai:=ha p (aq0 ..) _ _ _ _ aX;rw[aj] at ai;exact G _ ai (JQ Qo bH az)
theorem de.B0 {ids:ay5} {K:aY} {B:aw} (q:Nat) {L:List (Nat×bf)} (ha: ∀p∈L,p.2.oS) (aT:ag B q=some (.aG (.bA L))):de ids K B (X:=PLift ((L.map (·.1)).Nodup)) (fun _=>K) (fun _=>B):=by
 rintro N C a w ⟨hn,J,ρ,F,aq,au⟩;have bm:fc (bZ C B F w) w L (F q):=aq.holds q _ aT;exact⟨⟨Qn ha bm⟩,hn,J,ρ,F,aq,au⟩
end
section
theorem Fn.via {P:Program} {f:FuncId} {args:List aP} {aJ:aw} {bc:ay5} {res:aP} {aO:aw} {X:Type} {args':X->List aP} {uE:X->aw} {m6:X->aw} {i9:X->ay5} {res':X->aP} {nR:X->aw} (fT:jl P f=true) (n:Nat) (hn:args.length=n)
  (ft:de (cl aJ) (oM 0 args) aJ (fun x=>oM 0 (args' x)) uE) (h: ∀x,Fn P f (args' x) (m6 x) (i9 x) (res' x) (nR x)) (hR: ∀x,kK (uE x) (m6 x)) (cz: ∀x,(rX (cl aJ) (oM 0 (args' x)) (uE x) (i9 x)&&mw (m6 x) (i9 x) (nR x))=true) (b6: ∀x,(args' x).length=n)
  (nM: ∀x,∃(r:aP) (js:aw),ae (cl aJ) ((n,res' x)::oM 0 (args' x)) (hb (iy (m6 x) (nR x)) (uE x)) [(n,r)] js/\s5 r res/\kK js aO/\(res.iW (cl aJ++bc)&&vL (cl aJ++bc) aO&&(cl aO).all (fun c=>(cl aJ++bc).contains c))=true):Fn P f args aJ bc res aO:=by
 refine⟨fT,fun ρ F I w bW ba cX bh ep q4 dt=>?_⟩
 let C:e9:=⟨w,I,fun b=> ∃c ch,ag aJ c=some ch/\F c b,ρ,[]⟩
 let a:Act:={tmps:=(bW++[undef]).toArray,defers:=[]}
 have sc:ce I w (bZ C aJ F w) w:=fun b O=>⟨⟨ba b O,.inl O,fun c ch H p9=>(bh c ch H b p9).2 O⟩,rfl⟩
 have abW:Mem (cl aJ) C aJ ρ F w:=⟨cK.refl _ _,fun c ch H=>Holds.cj sc (fun _ _=>rfl) (ap0 _) ch (fun _ _=>rfl) (cX c ch H),fun c ch H b O=>⟨(bh c ch H b O).1,.inl ⟨c,ch,H,O⟩⟩,ep,fun c _=>rfl,at0,fun b O=>O.elim (ba b) fun⟨c,ch,H,BC⟩=>(bh c ch H b BC).1,fun D b9=>by cases b9⟩
 have jq: ∀(i:Nat) (aH:i < bW.length),a.tmps.getD i undef=bW[i]:=fun i aH=>by
  show(bW++[undef]).toArray.getD i undef=_;rw[Array.getD_eq_getD_getElem?,List.getElem?_toArray,ar7 aH,oj aH];rfl
 have abX:eW (n+1) (cl aJ) C (oM 0 args) aJ a w:=by
  refine⟨by show(bW++[undef]).toArray.size=n+1;simp[q4,hn],rfl,ρ,F,abW,fun s=>?_⟩;rw[Bz];simp only[ap7,if_true,Nat.sub_zero]
  cases ax:args[s]? with
  |none=>trivial
  |some v=>
   have bw:s < bW.length:=by rw[q4];exact(ap5.1 ax).1
   simp only[Option.getD_some];have hx:bW[s]? =some bW[s]:=oj bw;have:=cr.mono sc v _ (fun _ _=>rfl) (dt s v _ ax hx);rw[jq s bw];exact this
 obtain⟨x,jY,xf,sh,ct,aq,au⟩:=ft (n+1) C a w abX;have qd: ∀{c ch},ag (m6 x) c=some ch->ag (uE x) c=some ch:=fun {c ch} H=>kl (hR x) H
 have cz:=cz x;rw[vj] at cz
 have H:=(h x).2 sh ct (bZ C (uE x) ct w) w bW (fun b O=>O.1) (fun c ch H=>aq.holds c ch (qd H)) (fun c ch H b O=>⟨(aq.own c ch (qd H) b O).1,fun ba=>ba.2.2 c ch (qd H) O⟩)
  (fun c bX ch ch' b E G=>aq.e' c bX ch ch' b (qd E) (qd G)) (by rw[q4,hn,b6 x]) (fun i v y ay aB=>by
   have aH:i < bW.length:=(ap5.1 aB).1;have E:=au i;rw[Bz] at E;simp only[ap7,if_true,Nat.sub_zero,ay,Option.getD_some] at E;rw[jq i aH] at E;rw[oj aH] at aB;injection aB with aB
   rw[<-aB];exact E)
 refine H.mono ?_;rintro e w' ⟨y,uq,cJ,rfl,cx,cA,I',dy,fb,xC,vY,xD,JR⟩;have xt:=eW.back (dst:=some n) (hR x) cz.1 cz.2 jY xf aq au (fun d J=>by injection J with J;omega) cx cA fb xC vY xD JR;obtain⟨r,js,gZ,abY,Fg,ps⟩:=nM x;obtain⟨Fh,aoX,ρ',F',bN,BD⟩:=gZ _ _ _ _ xt;simp only[vj] at ps
 let zw:Nat->bn:=fun c=>if c∈bc then ρ' c else ρ c
 have JS: ∀c,c∈cl aJ++bc->zw c=ρ' c:=fun c H=>by
  show(if c∈bc then ρ' c else ρ c)=ρ' c
  split
  .rfl
  .rename_i hn;rcases aq8.1 H with h |h
   .exact(bN.d' c h).symm
   .exact absurd h hn
 have r':cr ρ' (bZ C js F' w') w' res y:=by
  have E:=BD n;rw[ke,if_pos rfl] at E;have G:(a.put (some n) y).tmps.getD n undef=y:=Oh (by show n < (bW++[undef]).toArray.size;simp[q4,hn]);rw[G] at E;exact vM abY E
 refine⟨y,zw,F',rfl,bN.fr,fun c H=>if_neg H,bZ C js F' w',?_,fun b O=>⟨O.1,?_⟩,?_,?_,?_,?_⟩
 .intro b O;have vN: ¬C.p3 b:=fun⟨c,ch,E,G⟩=>(bh c ch E b G).2 O
  refine⟨⟨Nat.lt_of_lt_of_le (ba b O) bN.fr.size,.inl O,fun c ch H p9=>?_⟩,bN.fr.block b (ba b O) vN⟩;rcases(bN.own c ch H b p9).2 with h |h
  .exact vN h
  .have:=ba b O;exact absurd h.1 (Nat.not_le.2 this)
 .rcases O.2.1 with h |h |h
  .exact .inl h
  .exact .inr (.inl h)
  .exact .inr (.inr h.1)
 .intro c ch H
  have ab:c∈cl aJ++bc:=by
   have:=ar4.1 ps.2 c (gm.2 ⟨ch,H⟩);simpa only[ar6] using this
  rw[JS c ab];exact Holds.cj (ce.refl _ _) (fun _ _=>rfl) (ap0 _) ch (fun d J=>JS d (bb.kn (xn ps.1.2 H) J)) (bN.holds c ch (kl Fg H))
 .intro c ch H b O;have cF:=kl Fg H;exact⟨(bN.own c ch cF b O).1,fun aH=>aH.2.2 c ch cF O,(bN.own c ch cF b O).2.imp id fun x=>x.1⟩
 .exact fun c bX ch ch' b E G=>bN.e' c bX ch ch' b (kl Fg E) (kl Fg G)
 .exact cr.mono (ce.refl _ _) res y (fun c H=>JS c (aP.kn ps.1.1 H)) r'
end
section
open Go.ChangeMaps (setBlock map_eraseIdx)
def Fi:(u:bx)->aa u->dI
 | .int k,n=>.one (.d (.int k n))
 | .str,s=>.one (.d (.str s))
 |_,_=>.one .any
def B1 (b:Nat) (aI aK:bx) (l:List (Nat×(aa aI×aa aK))) (bV:Nat) (I F:Nat->Prop) (w:World) (p:bn):Prop:=
 p.bj=b/\(∀x,F x↔x=p.bj)/\ ∃bT,w.heap[p.bj]? =some (.map (List.toArray bT) bV)/\ie I w aI aK (l.map (·.2)) bT/\bT.map (·.born)=l.map (·.1)/\lZ bT bV
def bf.vZ (b:Nat) (aI aK:bx) (l:List (Nat×(aa aI×aa aK))) (bV:Nat):bf where
 R:=B1 b aI aK l bV
 cj:=fun I F w I' w' p ⟨E,G,bT,aj,aX,bH,fF⟩ V bh aR=>⟨E,G,bT,(bh _ ((G _).2 rfl)).trans aj,aX.mono V,bH,fF⟩
def JT (b ko:Nat) (bF:ay5) (at_:Nat) (I F:Nat->Prop) (w:World) (p:bn):Prop:=(∀x,F x↔x=p.bj)/\w.heap[p.bj]? =some (.mapIter (some b) ko (List.toArray bF) at_)
def bf.v1 (b ko:Nat) (bF:ay5) (at_:Nat):bf where
 R:=JT b ko bF at_
 cj:=fun I F w I' w' p ⟨E,G⟩ V bh aR=>⟨E,(bh _ ((E _).2 rfl)).trans G⟩
section
variable {P:Program} {ids:ay5} {K:aY} {B:aw}
theorem abZ {bT:List MapEntry} {bV:Nat} (h:lZ bT bV):(bT.map (·.born)).Pairwise (· < ·)/\ ∀x∈bT.map (·.born),x < bV:=⟨h.1,fun x hx=>by
 obtain⟨e,V,rfl⟩:=ar2.1 hx;exact h.2 e V⟩
theorem Qp {α lE:Type}: ∀{l:List α} {m:List lE},l.length=m.length->(l.zip m).map (·.1)=l/\(l.zip m).map (·.2)=m
 | [],[],_=>⟨rfl,rfl⟩
 |a::l,b::m,h=>by
  obtain⟨E,G⟩:=Qp (l:=l) (m:=m) av4;simp[E,G]
structure Qq (aI aK:bx) (es:List (aa aI×aa aK)) where
 b:Nat
 l:List (Nat×(aa aI×aa aK))
 bV:Nat
 snd:l.map (·.2)=es
 aoY:(l.map (·.1)).Pairwise (· < ·)
 lt: ∀x∈l.map (·.1),x < bV
theorem de.Qr (c:Nat) {aI aK:bx} {es:List (aa aI×aa aK)} (H:ag B c=some (.map aI aK es)):de ids K B (X:=Qq aI aK es) (fun _=>K) (fun x=>(c,.aG (.vZ x.b aI aK x.l x.bV))::B):=by
 rintro N C a w ⟨hn,J,ρ,F,aq,au⟩;obtain⟨bh,bT,bV,O,az,da⟩:=aq.holds c _ H;have b6:(bT.map (·.born)).length=es.length:=by rw[aq3,A7 az]
 obtain⟨kk,q1⟩:=Qp b6;obtain⟨r1,r2⟩:=abZ da
 let x:Qq aI aK es:=⟨(ρ c).bj,(bT.map (·.born)).zip es,bV,q1,by rw[kk];exact r1,by rw[kk];exact r2⟩
 obtain⟨bN,aW⟩:=aq.hP (w':=w) (ch:=.aG (.vZ x.b aI aK x.l x.bV)) H (cK.refl _ _) fun I ba=>⟨rfl,bh,bT,O,by
  show ie I w aI aK (((bT.map (·.born)).zip es).map (·.2)) bT;rw[q1];exact az.mono ba,kk.symm,da⟩
 exact⟨x,hn,J,ρ,F,bN,au.mono aW fun _ _ _=>rfl⟩
theorem ae.Qs (c:Nat) {b:Nat} {aI aK:bx} {l:List (Nat×(aa aI×aa aK))} {bV:Nat} (H:ag B c=some (.aG (.vZ b aI aK l bV))):ae ids K B K ((c,.map aI aK (l.map (·.2)))::B):=by
 rintro N C a w ⟨hn,J,ρ,F,aq,au⟩;obtain⟨O,bh,bT,aj,aX,bH,fF⟩:B1 b aI aK l bV _ (F c) w (ρ c):=aq.holds c _ H;obtain⟨bN,aW⟩:=aq.hP (w':=w) (ch:=.map aI aK (l.map (·.2))) H (cK.refl _ _) fun I ba=>⟨bh,bT,bV,aj,aX.mono ba,fF⟩
 exact⟨hn,J,ρ,F,bN,au.mono aW fun _ _ _=>rfl⟩
theorem Qt {o:Oper} {T kt et:TypeId} {x:Operand} {c d:Nat} (ah:o.op= .range T x) (cd:P.underlying T=some (.map kt et)) (hx:a6 K x= .c (.one (.mp c))) {b:Nat} {aI aK:bx} {l:List (Nat×(aa aI×aa aK))} {bV:Nat}
  (H:ag B c=some (.aG (.vZ b aI aK l bV))) (N:Nat):bB P N ids o K B (.c (.one (.ptr d 0))) ⟨[c],[d],[(d,some (.aG (.v1 b bV [] bV)))]⟩:=by
 have az:x∈o.op.operands:=av2
 refine bB.make (fun e V=>(ap6 V).symm) fun K' B' g1 g2 C ρ F a w aq au _=>?_
 have cF:=(g2 c au7).trans H;obtain⟨O,bh,bT,aj,aX,bH,fF⟩:B1 b aI aK l bV _ (F c) w (ρ c):=aq.holds c _ cF;have ai:=au.mp ((g1 x az).trans hx);refine⟨.pointer (some ⟨w.heap.size,0,none⟩),w.alloc (.mapIter (some (ρ c).bj) bV #[] bV),⟨w.heap.size,none,0,0⟩,fun y=>y=w.heap.size,?_,(Below.refl _ _).alloc (ap0 _) _,fun y aB=>?_,fun I aW ba=>⟨⟨fun y=>Iff.rfl,?_⟩,?_⟩⟩
 .simp[execOp,ah,ai,run_range_map w T kt et (ρ c).bj _ bV cd aj,Result.andThen]
 .subst aB;simp
 .rw[<-O];exact heap_alloc_new w _
 .show _=Value.pointer (some ⟨(c5 ρ d _ d).bj,0,none⟩);rw[c6]
theorem JU {I:Nat->Prop} {w:World} {aI aK:bx}: ∀{l:List (aa aI×aa aK)} {es:List MapEntry},ie I w aI aK l es-> ∀{j:Nat} {e:MapEntry},es[j]? =some e-> ∃p,l[j]? =some p/\e.key=gG aI p.1/\jk I w aK p.2 e.val
 | [],_,h,j,e,V=>by rw[show _=[] from h] at V;simp at V
 |p::l,_,⟨b5,r,h,E,G,aj⟩,0,e,V=>by
  rw[h] at V;simp only[aq5,ap4] at V;subst V;exact⟨p,rfl,E,G⟩
 |p::l,_,⟨b5,r,h,E,G,aj⟩,j+1,e,V=>by
  rw[h] at V;simp only[au2] at V⊢;exact JU aj V
theorem Qu {b:Nat} {aI aK:bx} {l:List (Nat×(aa aI×aa aK))} {I:Nat->Prop} {w:World} {bT:List MapEntry} (az:ie I w aI aK (l.map (·.2)) bT) (O:bT.map (·.born)=l.map (·.1)) {e:MapEntry} (V:e∈bT): ∃p∈l,p.1=e.born/\e.key=gG aI p.2.1/\jk I w aK p.2.2 e.val:=by
 obtain⟨j,Z,rfl⟩:=List.getElem_of_mem V;have kj:bT[j]? =some bT[j]:=oj Z;obtain⟨q,aT,E,G⟩:=JU az kj;rw[ar0] at aT;obtain⟨p,af,rfl⟩:=as0.1 aT;have B2:(bT.map (·.born))[j]? =(l.map (·.1))[j]? :=by rw[O]
 rw[ar0,ar0,kj,af] at B2;exact⟨p,List.mem_of_getElem? af,by simpa using B2.symm,E,G⟩
theorem Qv {aI aK:bx} {l:List (Nat×(aa aI×aa aK))} {I:Nat->Prop} {w:World} {bT:List MapEntry} (az:ie I w aI aK (l.map (·.2)) bT) (O:bT.map (·.born)=l.map (·.1)) {p:Nat×(aa aI×aa aK)} (af:p∈l): ∃e∈bT,e.born=p.1/\e.key=gG aI p.2.1/\jk I w aK p.2.2 e.val:=by
 obtain⟨j,Z,rfl⟩:=List.getElem_of_mem af;have kj:l[j]? =some l[j]:=oj Z;have b6:bT.length=l.length:=by have:=congrArg List.length O;simpa using this
 have V:bT[j]? =some (bT[j]'au5):=oj au5;obtain⟨q,aT,E,G⟩:=JU az V;rw[ar0,kj] at aT;simp only[at2,ap4] at aT;subst aT;have B2:(bT.map (·.born))[j]? =(l.map (·.1))[j]? :=by rw[O]
 rw[ar0,ar0,kj,V] at B2;exact⟨_,ar3 _,by simpa using B2,E,G⟩
theorem Qw {ρ:Nat->bn} {I:Nat->Prop} {w:World}: ∀(u:bx) (x:aa u),gA ρ I w (Fi u x) (gG u x)
 | .int _,_=>rfl
 | .str,_=>rfl
 | .u8,_=>trivial
 | .bool,_=>trivial
 | .aL,_=>trivial
 | .dC,_=>trivial
 | .fn,_=>trivial
 | .b7 _,_=>trivial
 | .bQ _ _,_=>trivial
 | .arr _ _,_=>trivial
def ab0 (r b ko:Nat) (bF:ay5) (aI aK:bx) (l:List (Nat×(aa aI×aa aK))) (bV c:Nat) (v:aP) (e:fR):Prop:=
 (∃p∈l,p.1∉bF/\v= .cf [.one (.d (.lit true)),Fi aI p.2.1,y0 aK p.2.2]/\e=⟨[c,r],[],[(r,some (.aG (.v1 b ko (bF++[p.1]) bV)))]⟩)\/
 ((∀p∈l,p.1∈bF)/\v= .cf [.one (.d (.lit false))]/\e=bG)
theorem Qx {o:Oper} {it:Operand} {c r:Nat} (ah:o.op= .next it false) (hx:a6 K it= .c (.one (.ptr r 0))) {b ko:Nat} {bF:ay5} {at_:Nat} {aI aK:bx} {l:List (Nat×(aa aI×aa aK))} {bV:Nat}
  (aF:ag B r=some (.aG (.v1 b ko bF at_))) (H:ag B c=some (.aG (.vZ b aI aK l bV))) (mD: ∀p∈l,p.1 < ko) (ab1:ko<=at_):xv P ids o K B (ab0 r b ko bF aI aK l bV c):=by
 rintro N C a w ax bw fE Q di;have aoZ:=ax;obtain⟨hn,J,ρ,F,aq,au⟩:=ax;obtain⟨O,bh,bT,aj,aX,bH,fF⟩:B1 b aI aK l bV _ (F c) w (ρ c):=aq.holds c _ H;obtain⟨jZ,jF⟩:JT b ko bF at_ (bZ C B F w) (F r) w (ρ r):=aq.holds r _ aF;have ai:a.eval it= .pointer (some ⟨(ρ r).bj,0,none⟩):=au.ev hx
 have ab2: ∀x∈(List.toArray bT).toList,x.born < ko:=fun x hx=>by
  obtain⟨p,af,h,_⟩:=Qu (b:=b) aX bH (e:=x) ax7;rw[<-h];exact mD p af
 rw[O] at aj;rcases run_next_at (P:=P) w o.type (ρ r).bj b ko at_ (List.toArray bF) (List.toArray bT) bV jF aj ab2 ab1 with⟨aR,dO⟩ |⟨e,V,dz,xE,dO⟩
 .unfold Oper.wp;have hx:(execOp a.eval o).run P w= .ok (.value (.tuple #[.bool false])) w:=by simp[execOp,ah,ai,dO,Result.andThen]
  rw[hx,Oper.upon_value];refine di (.cf [.one (.d (.lit false))]) bG _ _ (.inr ⟨fun p af=>?_,rfl,rfl⟩) ⟨kf.trans hn,kg.trans J,ρ,F,aq,au.kh (fun e V=>by rw[hn];exact bw e V) ⟨[.bool false],rfl,_,_,rfl,rfl,rfl⟩⟩;obtain⟨e,V,E,_⟩:=Qv aX bH af;rw[<-E];have JV:leftOf (List.toArray bT) (List.toArray bF)= #[]:=Array.eq_empty_of_size_eq_zero aR;unfold leftOf at JV;rw[Array.filter_eq_empty_iff] at JV;have:=JV e (by simpa using V);simpa using this
 .obtain⟨JW,qe⟩:=mem_left V;have JW:e∈bT:=by simpa using JW
  have qe:e.born∉bF:=by
   intro bk;have:(List.toArray bF).contains e.born=true:=by simpa using bk
   rw[this] at qe;cases qe
  obtain⟨p,af,cx,cA,dy⟩:=Qu (b:=b) aX bH JW;unfold Oper.wp;have hx:(execOp a.eval o).run P w= .ok (.value (.tuple #[.bool true,e.key,e.val])) (setBlock dz (ρ r).bj (.mapIter (some b) ko ((List.toArray bF).push e.born) bV)):=by simp[execOp,ah,ai,dO,Result.andThen]
  rw[hx,Oper.upon_value];have ra:(ρ r).bj < w.heap.size:=k1 jF
  have zx:dz.heap=w.heap/\dz.os=w.os/\dz.tape=w.tape/\dz.output=w.output:=by
   rcases xE with rfl |rfl <;>exact⟨rfl,rfl,rfl,rfl⟩
  have cz:cK (F r) w (setBlock dz (ρ r).bj (.mapIter (some b) ko ((List.toArray bF).push e.born) bV)):=by
   refine⟨zx.2.1,zx.2.2.1,zx.2.2.2,by simp[setBlock,zx.1],fun k ab zy=>?_⟩;have a2:k≠(ρ r).bj:=fun h=>zy ((jZ k).2 h)
   simp[setBlock,zx.1,Array.getElem?_setIfInBounds_ne (Ne.symm a2)]
  obtain⟨bN,aW⟩:=aq.hP (w':=setBlock dz (ρ r).bj (.mapIter (some b) ko ((List.toArray bF).push e.born) bV)) (ch:=.aG (.v1 b ko (bF++[p.1]) bV)) aF cz fun I ba=>⟨jZ,by
   simp[setBlock,zx.1,ra,cx]⟩
  refine di (.cf [.one (.d (.lit true)),Fi aI p.2.1,y0 aK p.2.2]) ⟨[c,r],[],[(r,some (.aG (.v1 b ko (bF++[p.1]) bV)))]⟩ _ _ (.inl ⟨p,af,by rw[cx];exact qe,rfl,rfl⟩)
   ⟨kf.trans hn,kg.trans J,ρ,F,bN,(au.mono aW fun _ _ _=>rfl).kh (fun e V=>by rw[hn];exact bw e V) ⟨[.bool true,e.key,e.val],rfl,_,_,rfl,rfl,_,_,rfl,?_,_,_,rfl,EL (dy.mono aW),rfl⟩⟩
  rw[cA];exact Qw aI _
theorem Qy {o:Oper} {it:Operand} {c r:Nat} (ah:o.op= .entry it) (hx:a6 K it= .c (.one (.ptr r 0))) {b ko:Nat} {bF:ay5} {aI aK:bx} {l:List (Nat×(aa aI×aa aK))} {bV:Nat} {p:Nat×(aa aI×aa aK)}
  (aF:ag B r=some (.aG (.v1 b ko (bF++[p.1]) bV))) (H:ag B c=some (.aG (.vZ b aI aK l bV))) (af:p∈l) (N:Nat):bB P N ids o K B (.cf [Fi aI p.2.1,y0 aK p.2.2]) ⟨[c,r],[],[]⟩:=by
 have az:it∈o.op.operands:=av2
 refine bB.val fun K' B' g1 g2 C ρ F a w aq au=>?_
 have cF:=(g2 c au7).trans H;have Jb:=(g2 r au7).trans aF;obtain⟨O,bh,bT,aj,aX,bH,fF⟩:B1 b aI aK l bV _ (F c) w (ρ c):=aq.holds c _ cF;obtain⟨jZ,jF⟩:JT b ko (bF++[p.1]) bV (bZ C B' F w) (F r) w (ρ r):=aq.holds r _ Jb;have ai:a.eval it= .pointer (some ⟨(ρ r).bj,0,none⟩):=au.ev ((g1 it az).trans hx);obtain⟨e,V,cx,cA,dy⟩:=Qv aX bH af;rw[O] at aj
 have d0:((List.toArray bT).toList.map (·.born)).Nodup:=by
  show(bT.map (·.born)).Nodup;exact fF.1.imp fun h=>by omega
 have ab3:w.heap[(ρ r).bj]? =some (.mapIter (some b) ko ((List.toArray bF).push e.born) bV):=by rw[jF,cx];simp
 have dO:=run_entry_at (P:=P) w (ρ r).bj b ko (List.toArray bF) (List.toArray bT) bV e ab3 aj (by simpa using V) d0;refine⟨_,by simp[execOp,ah,ai,dO,Result.andThen],[e.key,e.val],rfl,_,_,rfl,?_,_,_,rfl,EL dy,rfl⟩;rw[cA];exact Qw aI _
theorem xv.of {o:Oper} {v:aP} {ig:ay5} {hA:List (Nat×Option bb)} (h: ∀N,bB P N ids o K B v ⟨ig,[],hA⟩):xv P ids o K B (fun cW b5=>cW=v/\b5=⟨ig,[],hA⟩):=fun N C a w ax bw fE Q di=>
 h N K B (fun _ _=>rfl) (fun _ _=>rfl) (fun c H=>by cases H) C a w ax bw fE Q fun a' w' d1=>di v ⟨ig,[],hA⟩ a' w' ⟨rfl,rfl⟩ d1
theorem ab4 {o:Oper} {T fG b5:TypeId} {x:Operand} {c:Nat} (ah:o.op= .binOp .eql T x (.const (.slice none 0 0)) fG) (hx:a6 K x= .c (.one (.own c))) {e:TypeId} {u:bx} {xs:List (aa u)} (H:ag B c=some (.row e u xs)) (cd:P.underlying T=some (.slice b5)):
  xv P ids o K B (fun v JX=> ∃b:Bool,(b=true->xs=[])/\v= .c (.one (.d (.lit b)))/\JX=⟨[c],[],[]⟩):=by
 rintro N C a w ⟨hn,J,ρ,F,aq,au⟩ bw fE Q di;obtain⟨bh,k4,cs,du,jI⟩:=aq.holds c _ H;have ai:a.eval x=(ρ c).ey:=au.ev hx
 have dO:(execOp a.eval o).run P w= .ok (.value (.bool (ρ c).A.isNone)) w:=by
  simp only[execOp,ah,ai,bn.ey];have ao:a.eval (.const (.slice none 0 0))= .slice none 0 0:=rfl;have h:=Lib.run_eql_slice_nil (P:=P) w T b5 (ρ c).A (ρ c).n (ρ c).cap 0 0 cd;simp[ao,h,Result.andThen,eqGuard]
 unfold Oper.wp;rw[dO,Oper.upon_value];refine di (.c (.one (.d (.lit (ρ c).A.isNone)))) ⟨[c],[],[]⟩ _ _ ⟨_,fun O=>?_,rfl,rfl⟩ ⟨kf.trans hn,kg.trans J,ρ,F,aq,au.kh (fun e V=>by rw[hn];exact bw e V) rfl⟩;rcases du.2 with⟨_,h⟩ |⟨g,cap,c9,h,_⟩
 .exact List.eq_nil_of_length_eq_zero h
 .have E:(ρ c).A=some ⟨g,0,none⟩:=by simp only[bn.ey] at h;injection h
  rw[E] at O
  cases O
end
end
section
def hg (x:D):bf where
 R:=fun I F w p=>Holds (fun _=>p) I F w p (.cells [.d x])
 cj:=fun I F w I' w' p h V bh aR=>Holds.cj V bh aR (.cells [.d x]) (fun _ _=>rfl) h
theorem ab5 {c:Nat} {x:D}: ∀I F w p,iD c [(c,.cells [.d x])] I F w p->(hg x).R I F w p:=by
 rintro I F w p ⟨ρ,b8,E,G,aj,aX⟩;have h:=G c _ aw1;rw[E] at h
 have kN:F=b8 c:=by
  funext b
  refine propext ((aX b).trans ⟨?_,fun g=>⟨c,_,by rw[ca,if_pos rfl],g⟩⟩);rintro⟨d,ch,e,g⟩;rw[ca] at e
  split at e
  .rename_i ao;rw[<-ao] at g;exact g
  .cases e
 rw[kN];exact Holds.cj (ce.refl _ _) (fun _ _=>rfl) (ap0 _) (.cells [.d x]) (fun d J=>by cases J) h
section
variable {P:Program} {ids:ay5} {K:aY} {B:aw}
theorem B3 {o:Oper} {T:TypeId} {x:Operand} {q b:Nat} {y:D} {L:List (Nat×bf)} {d:TypeDesc} (ah:o.op= .load T x) (cd:P.underlying T=some d) (J:d.isRow=false) (hx:a6 K x= .c (.one (.d (.aL (some b)))))
  (aT:ag B q=some (.aG (.bA L))) (cY:eg L b=some (hg y)) (N:Nat):bB P N ids o K B (.c (.one (.d y))) ⟨[q],[],[]⟩:=by
 have az:x∈o.op.operands:=av2
 refine bB.val fun K' B' g1 g2 C ρ F a w aq au=>?_
 have Fj:=(g2 q au7).trans aT;have bm:fc (bZ C B' F w) w L (F q):=aq.holds q _ Fj;obtain⟨ct,cJ,p,ci,cN,ec,eG,uA⟩:=bm.out cY;have ay:a.eval x= .pointer (some ⟨b,0,none⟩):=au.ev ((g1 x az).trans hx);obtain⟨E,aE,eS,G,aj⟩:=eG;obtain⟨v,r,e,aX,bH⟩:=aj;have bH:r=[]:=bH;subst bH e;rw[ec] at G;exact⟨v,Ez ah ay cd J (oF G rfl),aX⟩
theorem Qz {o:Oper} {T fG b5:TypeId} {x:Operand} {u:bx} {xs:List (aa u)} (ah:o.op= .binOp .eql T x (.const (.slice none 0 0)) fG) (hx:a6 K x= .c (.one (.d (.ck u xs)))) (cd:P.underlying T=some (.slice b5)):
  xv P ids o K B (fun v JX=> ∃b:Bool,(b=true->xs=[])/\v= .c (.one (.d (.lit b)))/\JX=⟨[],[],[]⟩):=by
 rintro N C a w ⟨hn,J,ρ,F,aq,au⟩ bw fE Q di;obtain⟨A,cap,ai,G,aj,aX⟩:gF (bZ C B F w) w (.ck u xs) (a.eval x):=au.ev hx;injection ai with ai
 have dO:(execOp a.eval o).run P w= .ok (.value (.bool A.isNone)) w:=by
  simp only[execOp,ah,ai];have ao:a.eval (.const (.slice none 0 0))= .slice none 0 0:=rfl;have h:=Lib.run_eql_slice_nil (P:=P) w T b5 A (List.length xs) cap 0 0 cd;simp[ao,h,Result.andThen,eqGuard]
 unfold Oper.wp;rw[dO,Oper.upon_value];refine di (.c (.one (.d (.lit A.isNone)))) ⟨[],[],[]⟩ _ _ ⟨_,fun O=>?_,rfl,rfl⟩ ⟨kf.trans hn,kg.trans J,ρ,F,aq,au.kh (fun e V=>by rw[hn];exact bw e V) rfl⟩;rcases Nat.eq_zero_or_pos (List.length xs) with h |h
 .exact List.eq_nil_of_length_eq_zero h
 .obtain⟨b,q,ek,_⟩:=aX h;rw[ek] at O
  cases O
theorem ab6 {aS:dc} (bm:d6 P aS) {o:Oper} {T et:TypeId} {te:cb} {x y aC:Operand} {u:bx} {xs:List (aa u)} {n:Int} (ah:o.op= .slice T x none (some y) (some aC)) (V:elemOf aS T=some (et,te)) (aR:te.size=aQ u)
  (hx:a6 K x= .c (.one (.d (.ck u xs)))) (aB:a6 K y= .c (.one (.d (.int .i64 n)))) (tg:a6 K aC= .c (.one (.d (.int .i64 n)))) (av:0<=n) (E:n<=List.length xs) (N:Nat):
  bB P N ids o K B (.c (.one (.d (.ck u (xs.take n.toNat))))) ⟨[],[],[]⟩:=by
 have m1:x∈o.op.operands:=av2
 have m2:y∈o.op.operands:=av2
 have m3:aC∈o.op.operands:=av2
 refine bB.val fun K' B' g1 g2 C ρ F a w aq au=>?_
 obtain⟨A,cap,bl,c2,fS,hQ⟩:=au.ck ((g1 x m1).trans hx);injection bl with bl
 have ai:=au.int ((g1 y m2).trans aB);have ao:=au.int ((g1 aC m3).trans tg);obtain⟨cd,c7,ds,bu⟩:=pq bm V;have cM:(sizeOf et).run P w= .ok (aQ u) w:=by simp[sizeOf,typeInfo,bu.jE,bu.size,aR]
 have q:n<=(cap:Int):=av3
 have O:(Instr.sliceBounds true (List.length xs) cap none (some (a.eval y)) (some (a.eval aC))).run P w= .ok (0,n.toNat,n.toNat) w:=by
  simp[Instr.sliceBounds,Instr.sliceBound,asIntOf,ai,ao,av,q];intro bw;omega
 have b6:List.length (xs.take n.toNat)=n.toNat:=aw5
 refine⟨.slice (if n.toNat=0 then A else A.map (·.add (0*aQ u))) (n.toNat - 0) (n.toNat - 0),?_,?_⟩
 .simp only[execOp,ah,Sem.run_bind,Instr.sliceAt,Instr.slice,run_underlying cd,Result.andThen_ok,bl,Option.map_none,at2,O,cM,Sem.run_pure]
 .refine⟨_,n.toNat,by rw[b6];rfl,by rw[b6];exact ap0 _,au5,fun nK=>?_⟩;rw[b6] at nK;obtain⟨b,cA,rfl,ba,J⟩:=hQ au5;refine⟨b,cA,by rw[if_neg au5,Nat.zero_mul];rfl,ba,fun i x pp=>?_⟩
  have I0:fD (α:=aa u) xs i=some x:=by
   unfold fD at pp⊢;rw[List.getElem?_take] at pp
   split at pp
   .exact pp
   .cases pp
  exact J i x I0
theorem de.box (s c q:Nat) {x:D} {L:List (Nat×bf)} (ax:dA K s= .c (.one (.ptr c 0))) (H:ag B c=some (.cells [.d x])) (a2:c≠q) (aT:ag B q=some (.aG (.bA L))):
  de ids K B (fun b:Nat=>(s,.c (.one (.d (.aL (some b)))))::K) (fun b=>(q,.aG (.bA ((b,hg x)::L)))::gM ((c,.aG ((hg x).at b))::(c,.aG (hg x))::gM B c) c):=by
 intro N C a w h;have E:=ae.close (ids:=ids) (K:=K) (B:=B) c [(c,.cells [.d x])] (o:=hg x) ⟨H,trivial⟩ (by simp[cl]) ab5 N C a w h;obtain⟨b,G⟩:=de.name (ids:=ids) s c (o:=hg x) ax aw1 N C a w E;refine⟨b,?_⟩
 have JY:ag ((c,bb.aG ((hg x).at b))::(c,.aG (hg x))::pw (cl [(c,bb.cells [.d x])]) B) q=some (.aG (.bA L)):=by
  rw[ca,if_neg a2,ca,if_neg a2];show ag (gM B c) q=_;rw[hl,if_neg a2];exact aT
 exact ae.put (ids:=ids) q c (o:=hg x) (b:=b) (L:=L) a2 JY aw1 N C a w G
end
theorem bt.mI {P:Program} {N:Nat} {ids:ay5} {K:aY} {B:aw} {c:Code} {Q:Bd} (f:Nat) (eJ:N<=1000000) (h:bt P N ids c ((1000000+f,.undef)::K) B Q):bt P N ids c K B Q:=by
 intro r aF C h1 aT a w ax;refine h r aF C h1 aT a w ?_;obtain⟨hn,J,ρ,F,aq,au⟩:=ax;refine⟨hn,J,ρ,F,aq,fun s=>?_⟩;rw[ke]
 split
 .rename_i e;subst e;show a.tmps.getD (1000000+f) undef=undef;rw[Array.getD_eq_getD_getElem?,Array.getElem?_eq_none au5];rfl
 .exact au s
theorem ab7 {P:Program} {ids:ay5} {K:aY} {B:aw} {o:Oper} {f:FuncId} {c:Call} {xs:List Operand} {aJ:aw} {res:aP} {aO:aw} (ah:o.op= .call c) (E:c.callee= .value (.func f)) (G:c.args.toList=xs) (hf:Fn P f (xs.map (a6 K)) aJ [] res aO) (hR:kK B aJ) (bu:mw aJ [] aO=true) (nS: ∀c,ag aO c=ag aJ c) (N:Nat):
  bB P N ids o K B res ⟨cl aJ,[],[]⟩:=by
 obtain⟨v,e,⟨rfl,rfl⟩,aD,_⟩:cB P N ids o K B (fun v e=>v=res/\e=⟨cl aJ,[],iy aJ aO⟩):=Pj ah E G ⟨aJ,[],res,aO,hf,hR,by rw[bu];rfl,by rw[rW];exact⟨rfl,rfl⟩⟩;intro K' B' g1 g2 cZ C a w ax bw fE Q di;refine aD K' B' g1 g2 cZ C a w ax bw fE Q fun a' w' d1=>di a' w' (d1.congr (fun _=>rfl) fun d=>?_)
 show ag B' d=ag (hb (iy aJ aO) B') d;rw[EN aJ aJ [] aO B' bu,nS]
 cases J:ag aJ d with
 |none=>
  simp only;rw[if_neg fun ab=>by obtain⟨ch,h⟩:=gm.1 ab;rw[J] at h;cases h]
 |some ch=>exact(g2 d (gm.2 ⟨ch,J⟩)).trans (kl hR J)
theorem bt.ab8 {P:Program} {N:Nat} {ids:ay5} {K:aY} {B:aw} {c:Code} {Q:Bd} (d:Nat) (eJ:N<=1000000) (h:bt P N ids c ((1000000+(1000000+d),.undef)::K) B Q):bt P N ids c K B Q:=bt.mI (1000000+d) eJ h
theorem ab9 {P:Program} {ids:ay5} {K:aY} {B:aw} {o:Oper} {T e d:Nat} {x:Operand} {s:ay4} {c7:TypeInfo} (ah:o.op= .buildSlice T 1 #[(0,x)]) (cd:P.underlying T=some (.slice e)) (aH:P.info? e=some c7) (aR:c7.zero=some (.string ⟨#[]⟩)) (ax:c7.size=1)
  (hx:a6 K x= .c (.one (.d (.str s)))) (N:Nat):bB P N ids o K B (.c (.one (.own d))) ⟨[],[d],[(d,some (.row e .str [s]))]⟩:=by
 have m1:x∈o.op.operands:=av2
 refine bB.make (fun d h=>Bn h) fun K' B' g1 g2 C ρ F a w aq au hn=>?_
 have ai:a.eval x= .string ⟨List.toArray s⟩:=au.ev ((g1 x m1).trans hx);refine⟨.slice (some ⟨w.heap.size,0,none⟩) 1 1,w.alloc (.cells (List.toArray [.string ⟨List.toArray s⟩]) e),⟨w.heap.size,some ⟨w.heap.size,0,none⟩,1,1⟩,fun b=>b=w.heap.size,?_,s0 w _,fun b O=>(by subst O;exact⟨ap0 _,au7⟩),fun I V O=>⟨⟨?_,?_,[.string ⟨List.toArray s⟩],?_,fun i y aB=>?_⟩,?_⟩⟩
 .have dO:=run_buildSlice (P:=P) w T e 1 (#[(0,x)].map fun p=>(p.1,a.eval p.2)) (List.toArray [.string ⟨List.toArray s⟩]) c7 (.string ⟨#[]⟩) cd aH aR (by rw[ax];decide)
   (by rw[ax];decide) (by
    rw[ax];have ev:(Value.string ⟨List.toArray s⟩).cells= #[.string ⟨List.toArray s⟩]:=rfl;simp[ai,Instr.fill,ev];rw[show Array.range 1= #[0] from rfl];simp)
  unfold execOp;simp only[ah,Sem.run_bind,dO,Result.andThen_ok];rfl
 .intro b;show b=w.heap.size↔some w.heap.size=some b;rw[ap4];exact eq_comm
 .intro b O;have O:some w.heap.size=some b:=O;injection O with O
  exact O.symm
 .exact EH w e 1 1 [.string ⟨List.toArray s⟩] rfl au6
 .match i with
  |0=>
   have aB:some s=some y:=aB;injection aB with aB
   subst aB;rfl
  |i+1=>
   have aB:(none:Option ay4)=some y:=aB
   cases aB
 .simp only[cr,gA,dU,c6];rfl
end
section
abbrev c0 (n:Int):Prop:= -9223372036854775808<=n/\n<=9223372036854775807
theorem aA {P:Prop} (h:P:=by repeat' (first |exact trivial |exact rfl |refine⟨?_,?_⟩)):P:=h
theorem ar {p:aw->ay5->aP->aw->Prop} {q:aw->Prop} {r:aw->ay5->aw->Prop} {k:aw->ay5->aP->aw->Prop} {a:aw} {b:ay5} {c:aP} {d:aw} (s:p a b c d) (aj:k a b c d) (E:q a:=by repeat' (first |exact trivial |exact rfl |refine⟨?_,?_⟩)) (G:r a b d:=by rfl): ∃a b c d,p a b c d/\q a/\r a b d/\k a b c d:=⟨_,_,_,_,s,E,G,aj⟩
theorem lF {p: ∀(X:Type),aw->ay5->(X->aP)->(X->aw)->Prop} {q:aw->Prop} {r:ay5->Prop} {s: ∀(X:Type),aw->ay5->(X->aw)->X->Prop} {k: ∀(X:Type),aw->ay5->(X->aP)->(X->aw)->X->Prop} {X:Type} {a:aw} {b:ay5} {c:X->aP} {d:X->aw} (h:p X a b c d) (aX: ∀g,k X a b c d g)
 (E:q a:=by repeat' (first |exact trivial |exact rfl |refine⟨?_,?_⟩)) (G:r b:=by rfl) (aj: ∀g,s X a b d g:=by exact fun _=>rfl): ∃(X:Type) (a:aw) (b:ay5) (c:X->aP) (d:X->aw),p X a b c d/\q a/\r b/\(∀g,s X a b d g)/\ ∀g,k X a b c d g:=⟨_,_,_,_,_,h,E,G,aj,aX⟩
theorem v6 {P:Program} {ids:ay5} {K:aY} {B:aw} {o:Oper} {f:FuncId} {c:Call} {xs:List Operand} {aJ:aw} {res:aP} {aO:aw} {q:fR->Prop} {k:aP->fR->Prop} (ah:o.op= .call c) (E:c.callee= .value (.func f)) (G:c.args.toList=xs) (hf:Fn P f (xs.map (a6 K)) aJ [] res aO) (ab:k res ⟨cl aJ,[],[]⟩)
 (hR:kK B aJ:=by repeat' (first |exact trivial |exact rfl |refine⟨?_,?_⟩)) (bu:mw aJ [] aO=true:=by rfl) (nS: ∀c,ag aO c=ag aJ c:=by exact fun _=>rfl) (aT:q ⟨cl aJ,[],[]⟩:=by rfl): ∃v e,(∀N,bB P N ids o K B v e)/\q e/\k v e:=⟨_,_,fun N=>ab7 ah E G hf hR bu nS N,aT,ab⟩
theorem aU (stops:ay5) {N:Nat} {f:FuncId} {fn:Func} {c:Code} {args:List aP} {aJ:aw} {bc:ay5} {res:aP} {aO:aw} {i6:List ResultVar} (hf:Tryz.prog.funcs[f]? =some fn) (h:jm Tryz.prog vT.types N (cl aJ) stops c (oM 0 args) aJ (ER vT.types (cl aJ) bc i6 res aO))
 (O:fn.body=some c:=by exact rfl) (hn:fn.ntmps=N:=by exact rfl) (fu:Nat.ble args.length N=true:=by exact rfl) (xo:fn.results.toList=i6:=by exact rfl) (fT:jl Tryz.prog f=true:=by kernel_rfl) (H:jr Tryz.prog N c=true:=by kernel_rfl):Fn Tryz.prog f args aJ bc res aO:=Fn.of eX stops args aJ bc res aO hf O hn fT H fu (zp eX) xo h
theorem hG (stops:ay5) {N:Nat} {f:FuncId} {fn:Func} {c:Code} {args:List aP} {aJ:aw} {bc:ay5} {X:Type} {res:X->aP} {aO:X->aw} {i6:List ResultVar} (hf:Tryz.prog.funcs[f]? =some fn) (h:jm Tryz.prog vT.types N (cl aJ) stops c (oM 0 args) aJ (fun e K B=> ∃g,ER vT.types (cl aJ) bc i6 (res g) (aO g) e K B))
 (O:fn.body=some c:=by exact rfl) (hn:fn.ntmps=N:=by exact rfl) (fu:Nat.ble args.length N=true:=by exact rfl) (xo:fn.results.toList=i6:=by exact rfl) (fT:jl Tryz.prog f=true:=by kernel_rfl) (H:jr Tryz.prog N c=true:=by kernel_rfl):cu Tryz.prog f args aJ bc res aO:=cu.of eX stops args aJ bc res aO hf O hn fT H fu (zp eX) xo h
theorem bz (stops:ay5) {N:Nat} {ids:ay5} {K K':aY} {B B':aw} {Q:nG->aY->aw->Prop} {c:Code} (h:ae ids K B K' B') (cq:jm Tryz.prog vT.types N ids stops c K' B' Q) (H:jr Tryz.prog N c=true:=by kernel_rfl):bt Tryz.prog N ids c K B Q:=bt.go eX (zp eX) stops H h cq
theorem dQ (stops:ay5) {N:Nat} {ids:ay5} {b:Code} {X:Type} (kQ:X->aY) (g0:X->aw) (inv:X->Prop) (uo:X->Nat) (hS:X) {K:aY} {B:aw} {Q:nG->aY->aw->Prop} (av:inv hS) (gZ:ae ids K B (kQ hS) (g0 hS))
 (h: ∀x,inv x->jm Tryz.prog vT.types N ids stops b (kQ x) (g0 x) (fun e K B=>match e with
  | .gY=> ∃y,inv y/\uo y < uo x/\ae ids K B (kQ y) (g0 y)
  | .ex i=>Q (.ex i) K B
  | .ret=>Q .ret K B)) (H:jr Tryz.prog N b=true:=by kernel_rfl):bt Tryz.prog N ids (.loop b) K B Q:=bt.loop eX (zp eX) stops H kQ g0 inv uo hS av gZ h
theorem cH {ids:ay5} {K:aY} {B:aw} (K':aY) (B':aw) (E:zj K K':=by repeat' (first |exact trivial |exact rfl |refine⟨?_,?_⟩)) (G:kK B B':=by repeat' (first |exact trivial |exact rfl |refine⟨?_,?_⟩)):ae ids K B K' B':=ae.sub E G
theorem bp {ids:ay5} {K:aY} {B:aw}:ae ids K B K B:=ae.refl _ _
theorem si {p:aY->aw->Prop} {R:Type} {q:aY->aw->R->Prop} {s:R->Prop} {t:aw->Prop} {u:Prop} {K:aY} {B:aw} {r:R} (E:p K B) (G:q K B r) (aj:s r) (aX:t B) (bH:u): ∃K B r,p K B/\q K B r/\s r/\t B/\u:=⟨K,B,r,E,G,aj,aX,bH⟩
theorem eq {p:aY->aw->Prop} {R:Type} {q:aY->aw->R->Prop} {s:R->Prop} {t:aw->Prop} {u:Prop} {K:aY} {B:aw} {r:R} (E:p K B) (G:q K B r) (aj:s r) (aX:t B:=by repeat' (first |exact trivial |exact rfl |refine⟨?_,?_⟩)) (bH:u:=by exact rfl): ∃K B r,p K B/\q K B r/\s r/\t B/\u:=⟨K,B,r,E,G,aj,aX,bH⟩
theorem bg {p:aY->aw->Prop} {R:Type} {q:aY->aw->R->Prop} {s:R->Prop} {t:aw->Prop} {u:Prop} {K:aY} {B:aw} {r:R} (E:p K B:=by exact ae.refl _ _) (G:q K B r:=by exact rfl) (aj:s r:=by repeat' (first |exact trivial |exact rfl |refine⟨?_,?_⟩)) (aX:t B:=by repeat' (first |exact trivial |exact rfl |refine⟨?_,?_⟩)) (bH:u:=by exact rfl): ∃K B r,p K B/\q K B r/\s r/\t B/\u:=⟨K,B,r,E,G,aj,aX,bH⟩
theorem df {p q A B:Prop} (k:B) (h: ¬p:=by decide):(p->A)/\(q->B):=⟨fun x=>absurd x h,fun _=>k⟩
theorem e5 {p q A B:Prop} (k:A) (h: ¬q:=by decide):(p->A)/\(q->B):=⟨fun _=>k,fun x=>absurd x h⟩
end
section
def eZ {aI aK:bx} (es:List (aa aI×aa aK)):Prop:=es.Pairwise fun p q=>fW aI p.1 q.1=false
theorem ab' (a b:Int):yQ a b=true↔a=b:=decide_eq_true_iff
theorem aca (a b:ay4):yR a b=true↔a=b:=decide_eq_true_iff
theorem rb {k:IntKind} (a b:aa (.int k)):fW (.int k) a b=true↔a=b:=ab' a b
theorem qf (a b:aa .str):fW .str a b=true↔a=b:=aca a b
section
variable {aI aK:bx} (cY: ∀a b:aa aI,fW aI a b=true↔a=b)
include cY
theorem rc {a b:aa aI} (h:a≠b):fW aI a b=false:=by
 cases e:fW aI a b with
 |false=>rfl
 |true=>exact absurd ((cY a b).1 e) h
theorem B4 (a:aa aI):fW aI a a=true:=(cY a a).2 rfl
theorem zz (k:aa aI) (x:aa aK): ∀(es:List (aa aI×aa aK)),b0 (dr es k x) k=some x/\ ∀j,j≠k->b0 (dr es k x) j=b0 es j
 | []=>by
  refine⟨?_,fun j Z=>?_⟩
  .simp only[dr,b0,B4 cY]
  .simp only[dr,b0,rc cY Z]
 |p::es=>by
  obtain⟨E,G⟩:=zz k x es;unfold dr
  cases e:fW aI k p.1 with
  |true=>
   have ai:=(cY _ _).1 e;simp only;refine⟨by simp only[b0,B4 cY],fun j Z=>?_⟩;simp only[b0,rc cY Z,rc cY (fun h=>Z (h.trans ai.symm))]
  |false=>
   simp only;refine⟨by simp only[b0,e,E],fun j Z=>?_⟩;simp only[b0,G j Z]
theorem QA {k:aa aI}: ∀{es:List (aa aI×aa aK)},(∀p,p∈es->fW aI p.1 k=false)->b0 es k=none
 | [],_=>rfl
 |p::es,h=>by
  have E:=h p (aq0 ..);have:fW aI k p.1=false:=rc cY fun e=>by rw[e,B4 cY] at E;cases E
  simp only[b0,this];exact QA fun q aT=>h q (ap2 _ aT)
theorem B5 (k:aa aI): ∀(es:List (aa aI×aa aK)),eZ es->b0 (gH es k) k=none/\ ∀j,j≠k->b0 (gH es k) j=b0 es j
 | [],_=>⟨rfl,fun _ _=>rfl⟩
 |p::es,hn=>by
  obtain⟨cI,dF⟩:=List.pairwise_cons.1 hn;obtain⟨E,G⟩:=B5 k es dF;unfold gH
  cases e:fW aI k p.1 with
  |true=>
   have ai:=(cY _ _).1 e;subst ai;simp only;refine⟨QA cY fun q aT=>?_,fun j Z=>?_⟩
   .have:=cI q aT;exact rc cY fun e=>by rw[<-e,B4 cY] at this;cases this
   .simp only[b0,rc cY Z]
  |false=>
   simp only;refine⟨by simp only[b0,e,E],fun j Z=>?_⟩;simp only[b0,G j Z]
omit cY in
theorem JZ {k:aa aI} {x:aa aK}: ∀{es:List (aa aI×aa aK)} {q:aa aI×aa aK},q∈dr es k x->q=(k,x)\/q∈es
 | [],q,h=>by
  unfold dr at h;exact .inl (aq2.1 h)
 |p::es,q,h=>by
  unfold dr at h
  split at h
  .rcases ap3.1 h with h |h
   .exact .inl h
   .exact .inr (ap2 _ h)
  .rcases ap3.1 h with h |h
   .exact .inr (by rw[h];exact aq0 ..)
   .exact(JZ h).imp id (ap2 _)
omit cY in
theorem zA {k:aa aI}: ∀{es:List (aa aI×aa aK)} {q:aa aI×aa aK},q∈gH es k->q∈es
 | [],q,h=>by cases h
 |p::es,q,h=>by
  unfold gH at h
  split at h
  .exact ap2 _ h
  .rcases ap3.1 h with h |h
   .rw[h];exact aq0 ..
   .exact ap2 _ (zA h)
theorem eZ.put {k:aa aI} {x:aa aK}: ∀{es:List (aa aI×aa aK)},eZ es->eZ (dr es k x)
 | [],_=>List.pairwise_singleton _ _
 |p::es,hn=>by
  obtain⟨cI,dF⟩:=List.pairwise_cons.1 hn;unfold dr
  split
  .rename_i e;have ai:=(cY _ _).1 e;refine List.pairwise_cons.2 ⟨fun q aT=>?_,dF⟩;have:=cI q aT;simp only;rw[ai];exact this
  .rename_i e;refine List.pairwise_cons.2 ⟨fun q aT=>?_,eZ.put dF⟩;rcases JZ aT with rfl |aT
   .simp only;exact rc cY fun h=>by rw[h,B4 cY] at e;cases e
   .exact cI q aT
omit cY in
theorem eZ.k7 {k:aa aI}: ∀{es:List (aa aI×aa aK)},eZ es->eZ (gH es k)
 | [],h=>h
 |p::es,hn=>by
  obtain⟨cI,dF⟩:=List.pairwise_cons.1 hn;unfold gH
  split
  .exact dF
  .exact List.pairwise_cons.2 ⟨fun q aT=>cI q (zA aT),eZ.k7 dF⟩
theorem QB {k:aa aI} {x:aa aK}: ∀{es:List (aa aI×aa aK)},b0 es k=some x->(k,x)∈es
 | [],h=>by cases h
 |p::es,h=>by
  unfold b0 at h
  split at h
  .rename_i e;injection h with h
   have ai:=(cY _ _).1 e;subst h ai;exact aq0 ..
  .exact ap2 _ (QB h)
end
end
end Go.Proofs.YthnboghbhgapcaaGreat
