/-
A part of the proof of this claim: lemmas, with no condition beyond what each says.
-/
import Derived.Maps.RangeRun
import Derived.Test.YtkfbeijmgggkmaaGreatZd7
set_option linter.unusedVariables false
set_option linter.unusedSimpArgs false
set_option maxRecDepth 10000
set_option maxHeartbeats 4000000
namespace Go.Proofs.YtkfbeijmgggkmaaGreat
open Go.RowKit Go.Proofs
section
def jn (c:Nat) (bp:az) (I F:Nat->Prop) (w:World) (p:bn):Prop:=
 ∃(ρ:Nat->bn) (ce:Nat->Nat->Prop),ρ c=p/\(∀d ch,ag bp d=some ch->Holds ρ I (ce d) w (ρ d) ch)/\
  (∀d c3 ch ch' b,ag bp d=some ch->ag bp c3=some ch'->d≠c3->ce d b-> ¬ce c3 b)/\ ∀b,F b↔ ∃d ch,ag bp d=some ch/\ce d b
def bc.i9 (c:Nat) (bp:az):bc where
 bo:=jn c bp
 cp:=fun I F w I' w' p ⟨ρ,ce,E,G,af,aW⟩ U bh aN=>⟨ρ,ce,E,fun d ch H=>Holds.cp U (fun b O=>bh b ((aW b).2 ⟨d,ch,H,O⟩)) aN ch (fun _ _=>rfl) (G d ch H),af,aW⟩
def bc.at (o:bc) (b:Nat):bc where
 bo:=fun I F w p=>p.bk=b/\o.bo I F w p
 cp:=fun I F w I' w' p h U bh aN=>⟨h.1,o.cp I F w I' w' p h.2 U bh aN⟩
def fM (I:Nat->Prop) (w:World):List (Nat×bc)->(Nat->Prop)->Prop
 | [],F=> ∀b,¬F b
 |(a,o)::L,F=> ∃(cG cN:Nat->Prop) (p:bn),(∀b,F b↔cG b\/cN b)/\(∀b,cG b-> ¬cN b)/\p.bk=a/\o.bo I cG w p/\fM I w L cN
theorem fM.cp {I I':Nat->Prop} {w w':World} (U:cm I w I' w') (aN:w.heap.size<=w'.heap.size): ∀{L:List (Nat×bc)} {F:Nat->Prop},(∀b,F b->w'.heap[b]? =w.heap[b]?)->fM I w L F->fM I' w' L F
 | [],_,_,h=>h
 |(a,o)::L,F,bh,⟨cG,cN,p,E,G,af,aW,bG⟩=>⟨cG,cN,p,E,G,af,o.cp _ _ _ _ _ _ aW U (fun b O=>bh b ((E b).2 (.inl O))) aN,bG.cp U aN (fun b O=>bh b ((E b).2 (.inr O)))⟩
def bc.bx (L:List (Nat×bc)):bc where
 bo:=fun I F w _=>fM I w L F
 cp:=fun I F w I' w' p h U bh aN=>h.cp U aN bh
def eu:List (Nat×bc)->Nat->Option bc
 | [],_=>none
 |(a,o)::L,b=>if a=b then some o else eu L b
def e':List (Nat×bc)->Nat->bc->List (Nat×bc)
 | [],_,_=>[]
 |(a,o)::L,b,o'=>if a=b then(a,o')::L else(a,o)::e' L b o'
theorem fM.out {I:Nat->Prop} {w:World} {b:Nat} {o:bc}: ∀{L:List (Nat×bc)} {F:Nat->Prop},eu L b=some o->fM I w L F-> ∃(cG cN:Nat->Prop) (p:bn),(∀x,F x↔cG x\/cN x)/\(∀x,cG x-> ¬cN x)/\p.bk=b/\o.bo I cG w p/\
  ∀(I':Nat->Prop) (w':World) (o':bc) (wj:Nat->Prop) (km:bn),cm I w I' w'->w.heap.size<=w'.heap.size->(∀x,cN x->w'.heap[x]? =w.heap[x]?)->km.bk=b->o'.bo I' wj w' km->(∀x,wj x-> ¬cN x)->fM I' w' (e' L b o') (fun x=>wj x\/cN x)
 | [],F,h,_=>by cases h
 |(a,q)::L,F,h,⟨rn,tA,p,E,G,af,aW,bG⟩=>by
  unfold eu at h
  split at h
  .rename_i e;injection h with h
   subst h;refine⟨rn,tA,p,E,G,af.trans e,aW,fun I' w' o' wj km U aN hf ai ah H=>?_⟩;unfold e';rw[if_pos e];exact⟨wj,tA,km,fun x=>Iff.rfl,H,ai.trans e.symm,ah,bG.cp U aN hf⟩
  .rename_i e;obtain⟨cG,cN,dQ,g1,g2,cX,jD,Cp⟩:=fM.out h bG;refine⟨cG,fun x=>rn x\/cN x,dQ,fun x=>?_,fun x hx=>?_,cX,jD,fun I' w' o' wj km U aN hf ai ah H=>?_⟩
   .rw[E,g1];constructor
    .rintro(h |h |h)
     .exact .inr (.inl h)
     .exact .inl h
     .exact .inr (.inr h)
    .rintro(h |h |h)
     .exact .inr (.inl h)
     .exact .inl h
     .exact .inr (.inr h)
   .rintro(h |h)
    .exact G x h ((g1 x).2 (.inl hx))
    .exact g2 x hx h
   .unfold e';rw[if_neg e];refine⟨rn,fun x=>wj x\/cN x,p,fun x=>?_,fun x hx=>?_,af,q.cp _ _ _ _ _ _ aW U (fun x hx=>hf x (.inl hx)) aN,Cp I' w' o' wj km U aN (fun x hx=>hf x (.inr hx)) ai ah (fun x hx h=>H x hx (.inr h))⟩
    .constructor
     .rintro(h |h |h)
      .exact .inr (.inl h)
      .exact .inl h
      .exact .inr (.inr h)
     .rintro(h |h |h)
      .exact .inr (.inl h)
      .exact .inl h
      .exact .inr (.inr h)
    .rintro(h |h)
     .exact H x h (.inl hx)
     .exact G x hx ((g1 x).2 (.inr h))
theorem fM.add {I:Nat->Prop} {w:World} {L:List (Nat×bc)} {F cG:Nat->Prop} {o:bc} {p:bn} (h:fM I w L F) (ah:o.bo I cG w p) (H: ∀x,cG x-> ¬F x):fM I w ((p.bk,o)::L) (fun x=>cG x\/F x):=
 ⟨cG,F,p,fun _=>Iff.rfl,H,rfl,ah,h⟩
theorem cx.fn {P:Program} {f:FuncId} {args:List aP} {aJ:az} {bb:aC4} {res:aP} {aO:az} (h:cx P f args aJ bb (fun _:Unit=>res) (fun _=>aO)):Fn P f args aJ bb res aO:=
 ⟨h.1,fun ρ F I w bU bZ cg a3 a4 a5 gB=>(h.2 ρ F I w bU bZ cg a3 a4 a5 gB).mono fun e w' ⟨_,q⟩=>q⟩
theorem cx.bx {P:Program} {f:FuncId} {c q b:Nat} {args:List aP} {aJ:az} {bb:aC4} {X:Type} {res:X->aP} {aO:X->az} {o:bc} {o':X->bc} {L:List (Nat×bc)}
  (h:cx P f (.c (.one (.ptr c 0))::args) ((c,.aG o)::aJ) bb res (fun g=>(c,.aG (o' g))::aO g)) (cL:eu L b=some o)
  (E:(args.all fun v=> !v.has c)=true) (G:kF c aJ=true/\(ag aJ q).isNone=true) (af:(bb.contains c||bb.contains q)=false) (aW: ∀g,(kF c (aO g)&&(ag (aO g) q).isNone&& !(res g).has c)=true):
  cx P f (.c (.one (.d (.aM (some b))))::args) ((q,.aG (.bx L))::aJ) bb res (fun g=>(q,.aG (.bx (e' L b (o' g))))::aO g):=by
 obtain⟨fT,h⟩:=h;refine⟨fT,fun ρ F I w bU a8 cZ bh eE bV dy=>?_⟩;have aT:ag ((q,ba.aG (.bx L))::aJ) q=some (.aG (.bx L)):=aA1
 have bl:fM I w L (F q):=cZ q _ aT;obtain⟨cG,cN,p,cj,cT,eg,eR,uM⟩:=bl.out cL;obtain⟨acB,acC⟩:=ur G.1;have uN:ag aJ q=none:=by simpa using G.2
 have e1: ∀{d ch},ag aJ d=some ch->d≠q/\d≠c/\ag ((q,ba.aG (.bx L))::aJ) d=some ch:=fun {d ch} H=>by
  have ae:d≠q:=fun e=>by rw[e,uN] at H;cases H
  exact⟨ae,fun e=>(by rw[e,acB] at H;cases H),by rw[cd,if_neg (Ne.symm ae)];exact H⟩
 have acD: ∀(v:aP),v.has c=false-> ∀d,v.has d=true->da ρ c p d=ρ d:=fun v ay d H=>dh _ _ (fun e=>by rw[e,ay] at H;cases H)
 match bU,bV with
 |v0::bU,bV=>
  have xR:v0= .pointer (some ⟨b,0,none⟩):=dy 0 _ v0 rfl rfl
  have iM: ∀{d ch},ag ((c,ba.aG o)::aJ) d=some ch->(d=c/\ch= .aG o)\/(d≠c/\ag aJ d=some ch):=fun {d ch} H=>by
   rw[cd] at H
   split at H
   .rename_i e;injection H with H;exact .inl ⟨e.symm,H.symm⟩
   .rename_i e;exact .inr ⟨Ne.symm e,H⟩
  refine(h (da ρ c p) (da F c cG) I w (v0::bU) a8 ?_ ?_ ?_ (by simpa using bV) ?_).mono ?_
  .intro d ch H;rcases iM H with⟨rfl,rfl⟩ |⟨e,H⟩
   .rw[c7,c7];exact eR
   .rw[dh _ _ e,dh _ _ e];exact Holds.cp (cm.refl _ _) (fun _ _=>rfl) (aq0 _) ch (fun j V=>dh _ _ (fun b7=>by rw[b7,acC d ch H] at V;cases V)) (cZ d ch (e1 H).2.2)
  .intro d ch H x hx;rcases iM H with⟨rfl,rfl⟩ |⟨e,H⟩
   .rw[c7] at hx;exact bh q _ aT x ((cj x).2 (.inl hx))
   .rw[dh _ _ e] at hx;exact bh d ch (e1 H).2.2 x hx
  .intro d c3 ch ch' x H dq a7 hx dO;rcases iM H with⟨JA,_⟩ |⟨e,Cq⟩
   .rcases iM dq with⟨Kj,_⟩ |⟨b7,FN⟩
    .exact a7 (JA.trans Kj.symm)
    .rw[JA,c7] at hx;rw[dh _ _ b7] at dO;exact eE q c3 _ ch' x aT (e1 FN).2.2 (Ne.symm (e1 FN).1) ((cj x).2 (.inl hx)) dO
   .rw[dh _ _ e] at hx;rcases iM dq with⟨Kj,_⟩ |⟨b7,FN⟩
    .rw[Kj,c7] at dO;exact eE q d _ ch x aT (e1 Cq).2.2 (Ne.symm (e1 Cq).1) ((cj x).2 (.inl dO)) hx
    .rw[dh _ _ b7] at dO;exact eE d c3 ch ch' x (e1 Cq).2.2 (e1 FN).2.2 a7 hx dO
  .intro i v x ay hx
   match i with
   |0=>
    simp only[ar3,aq4] at ay hx;subst ay hx;show v0=_;rw[c7,eg];exact xR
   |i+1=>
    have oT:args[i]? =some v:=aA6
    have:=as4.1 E v (au5 oT);exact cw.mono (cm.refl _ _) v x (acD v (by simpa using this)) (dy (i+1) v x aA6 hx)
  .rintro e w' ⟨g,x,ρ',F',rfl,cy,dn,I',jk,gE,lK,ap,ic,sr⟩;have aZ:=aW g;simp only[vj,Bool.not_eq_true'] at aZ;obtain⟨⟨g1,g2⟩,cX⟩:=aZ;obtain⟨m1,m2⟩:=ur g1;have Cr:ag (aO g) q=none:=by simpa using g2
   simp only[au4] at af;have lH:c∉bb:=fun bf=>by have:=as7.2 bf;rw[af.1] at this;cases this
   have ap7:q∉bb:=fun bf=>by have:=as7.2 bf;rw[af.2] at this;cases this
   have nY:ag ((c,ba.aG (o' g))::aO g) c=some (.aG (o' g)):=aA1
   have nf: ∀{d ch},ag (aO g) d=some ch->d≠c/\d≠q/\ag ((c,ba.aG (o' g))::aO g) d=some ch:=fun {d ch} H=>by
    have ae:d≠c:=fun e=>by rw[e,m1] at H;cases H
    exact⟨ae,fun e=>(by rw[e,Cr] at H;cases H),by rw[cd,if_neg (Ne.symm ae)];exact H⟩
   have mN: ∀y,(∃d ch,ag ((c,ba.aG o)::aJ) d=some ch/\da F c cG d y)-> ∃d ch,ag ((q,ba.aG (.bx L))::aJ) d=some ch/\F d y:=by
    rintro y ⟨d,ch,H,aD⟩;rcases iM H with⟨rfl,rfl⟩ |⟨e,H⟩
    .rw[c7] at aD;exact⟨q,_,aT,(cj y).2 (.inl aD)⟩
    .rw[dh _ _ e] at aD;exact⟨d,ch,(e1 H).2.2,aD⟩
   have j1: ∀y,cN y-> ¬ ∃d ch,ag ((c,ba.aG o)::aJ) d=some ch/\da F c cG d y:=by
    rintro y aD ⟨d,ch,H,d'⟩;rcases iM H with⟨rfl,rfl⟩ |⟨e,H⟩
    .rw[c7] at d';exact cT y d' aD
    .rw[dh _ _ e] at d';exact eE q d _ ch y aT (e1 H).2.2 (Ne.symm (e1 H).1) ((cj y).2 (.inr aD)) d'
   have ss: ∀y,cN y->y < w.heap.size/\ ¬I y:=fun y aD=>bh q _ aT y ((cj y).2 (.inr aD))
   have mM: ∀y,cN y->w'.heap[y]? =w.heap[y]? :=fun y aD=>cy.block y (ss y aD).1 (j1 y aD)
   have wk: ∀d ch y,ag ((c,ba.aG (o' g))::aO g) d=some ch->F' d y-> ¬cN y:=fun d ch y H aD Cs=>by
    rcases(ap d ch H y aD).2.2 with h |h
    .exact j1 y Cs h
    .have:=(ss y Cs).1;omega
   have acE:ρ' c=p:=by rw[dn c lH,c7]
   have oU:=uM I' w' (o' g) (F' c) (ρ' c) jk cy.size mM (by rw[acE];exact eg) (lK c _ nY) (fun y aD=>wk c _ y nY aD);refine⟨g,x,da ρ' c (ρ c),fun d=>if d=q then(fun y=>F' c y\/cN y) else F' d,rfl,cy.mono fun y _ aD=>mN y aD,fun d H=>?_,I',jk,fun y aD=>⟨(gE y aD).1,?_⟩,?_,?_,?_,?_⟩
   .by_cases e:d=c
    .subst e;rw[c7]
    .rw[dh _ _ e,dn d H,dh _ _ e]
   .rcases(gE y aD).2 with h |h |h
    .exact .inl h
    .exact .inr (.inl (mN y h))
    .exact .inr (.inr h)
   .intro d ch H;rw[cd] at H
    split at H
    .rename_i e;injection H with H
     subst H e;simp only[if_true];exact oU
    .rename_i e;obtain⟨ae,ao,bm⟩:=nf H;simp only[if_neg ao];rw[dh _ _ ae];exact Holds.cp (cm.refl _ _) (fun _ _=>rfl) (aq0 _) ch (fun j V=>dh _ _ (fun b7=>by rw[b7,m2 d ch H] at V;cases V)) (lK d ch bm)
   .intro d ch H y aD;rw[cd] at H
    split at H
    .rename_i e;subst e;simp only[if_true] at aD;rcases aD with aD |aD
     .obtain⟨bZ,cg,a3⟩:=ap c _ nY y aD;exact⟨bZ,cg,a3.imp (mN y) id⟩
     .refine⟨ar6 (ss y aD).1 cy.size,fun aF=>?_,.inl ⟨q,_,aT,(cj y).2 (.inr aD)⟩⟩;rcases(gE y aF).2 with h |h |h
      .exact(ss y aD).2 h
      .exact j1 y aD h
      .have:=(ss y aD).1;omega
    .obtain⟨ae,ao,bm⟩:=nf H;simp only[if_neg ao] at aD;obtain⟨bZ,cg,a3⟩:=ap d ch bm y aD;exact⟨bZ,cg,a3.imp (mN y) id⟩
   .intro d c3 ch ch' y H dq a7 aD d';rw[cd] at H dq
    split at H
    .rename_i e;subst e;rw[if_neg a7] at dq;obtain⟨ae,ao,bm⟩:=nf dq;simp only[if_true] at aD;simp only[if_neg ao] at d';rcases aD with aD |aD
     .exact ic c c3 _ ch' y nY bm (Ne.symm ae) aD d'
     .exact wk c3 ch' y bm d' aD
    .obtain⟨ae,ao,bm⟩:=nf H;simp only[if_neg ao] at aD
     split at dq
     .rename_i e;subst e;simp only[if_true] at d';rcases d' with d' |d'
      .exact ic d c ch _ y bm nY ae aD d'
      .exact wk d ch y bm aD d'
     .obtain⟨ll,jE,zR⟩:=nf dq;simp only[if_neg jE] at d';exact ic d c3 ch ch' y bm zR a7 aD d'
   .exact cw.mono (cm.refl _ _) (res g) x (fun j V=>dh _ _ (fun b7=>by rw[b7,cX] at V;cases V)) sr
theorem iN: ∀(B B':az) (c:Nat),ag (B++B') c=(match ag B c with
  |some ch=>some ch
  |none=>ag B' c)
 | [],B',c=>rfl
 |(d,ch)::B,B',c=>by
  rw[List.cons_append,cd,cd,iN B B' c]
  split <;>rfl
def Ct (l:aC4):az->Bool
 | []=>true
 |(c,ch)::B=> !l.contains c&&(l.all fun d=> !ch.has d)&&Ct l B
theorem Cu {l:aC4}: ∀{B:az},Ct l B=true-> ∀{c ch},ag B c=some ch->c∉l/\ ∀d,d∈l->ch.has d=false
 |(c,ch)::B,h,d,ch',H=>by
  simp only[Ct,vj,Bool.not_eq_true'] at h;rw[cd] at H
  split at H
  .rename_i e;subst e;injection H with H
   subst H;refine⟨fun bf=>?_,fun x hx=>?_⟩
   .have:=as7.2 bf;rw[h.1.1] at this
    cases this
   .have:=as4.1 h.1.2 x hx;simpa using this
  .exact Cu h.2 H
def mO (fW bb jo:aC4):aC4:=fW++bb.filter fun d=> !jo.contains d
theorem tB {l:aC4} {d:Nat} (h:l.contains d=true):d∈l:=as7.1 h
theorem wl {l:aC4} {d:Nat} (h:l.contains d=false):d∉l:=fun bf=>by rw[as7.2 bf] at h;cases h
def nZ (c:Nat) (fW:aC4) (args:List aP) (bp aJ:az) (bb jo:aC4):Bool:=
 (cr bp).contains c&&(cr bp).all (fun d=>(c::fW).contains d)&&v8 (c::fW) bp&& !bb.contains c&& !fW.contains c&&jo.all (fun d=>bb.contains d&& !fW.contains d)&&(args.all fun v=>fW.all fun d=> !v.has d)&&Ct fW aJ&&(ag aJ c).isNone
def n0 (c:Nat) (hid:aC4) (res:aP) (dG aO:az):Bool:=
 (cr dG).contains c&&(cr dG).all (fun d=>(c::hid).contains d)&&Ct hid aO&&(ag aO c).isNone&&(hid.all fun d=> !res.has d)
theorem cx.close {P:Program} {f:FuncId} {c:Nat} {args:List aP} {bp aJ:az} {bb jo:aC4} {X:Type} {res:X->aP} {dG aO:X->az} {o:bc} {o':X->bc} (fW:aC4)
  (h:cx P f args (bp++aJ) bb res (fun g=>dG g++aO g)) (eb: ∀I F w p,o.bo I F w p->jn c bp I F w p) (nW: ∀g I F w p,jn c (dG g) I F w p->(o' g).bo I F w p)
  (E:nZ c fW args bp aJ bb jo=true) (G: ∀g,n0 c (mO fW bb jo) (res g) (dG g) (aO g)=true):
  cx P f args ((c,.aG o)::aJ) jo res (fun g=>(c,.aG (o' g))::aO g):=by
 obtain⟨fT,h⟩:=h;simp only[nZ,vj,Bool.not_eq_true',ax8] at E;obtain⟨⟨⟨⟨⟨⟨⟨⟨bZ,cg⟩,a3⟩,a4⟩,a5⟩,gB⟩,ze⟩,FO⟩,a9⟩:=E;have bZ:=tB bZ;have a4:=wl a4;have a5:=wl a5
 have Rb: ∀d,d∈cr bp->d=c\/d∈fW:=fun d H=>by
  have:=tB (as4.1 cg d H);exact aq5.1 this
 have ap8: ∀d,d∈jo->d∈bb/\d∉fW:=fun d H=>by
  have:=as4.1 gB d H;simp only[vj,Bool.not_eq_true'] at this;exact⟨tB this.1,wl this.2⟩
 refine⟨fT,fun ρ F I w bU a8 cZ bh eE bV dy=>?_⟩;have dH:ag ((c,ba.aG o)::aJ) c=some (.aG o):=aA1
 obtain⟨o1,ce,cA,cF,dF,fj⟩:=eb _ _ _ _ (cZ c _ dH)
 have e1: ∀{d ch},ag aJ d=some ch->d≠c/\d∉fW/\ag ((c,ba.aG o)::aJ) d=some ch:=fun {d ch} H=>by
  have ae:d≠c:=fun e=>by rw[e,a9] at H;cases H
  exact⟨ae,(Cu FO H).1,by rw[cd,if_neg (Ne.symm ae)];exact H⟩
 have iM: ∀{d ch},ag (bp++aJ) d=some ch->(ag bp d=some ch/\d∈cr bp)\/(d∉cr bp/\ag aJ d=some ch):=fun {d ch} H=>by
  rw[iN] at H
  cases e:ag bp d with
  |some ch'=>
   rw[e] at H;exact .inl ⟨H,gv.2 ⟨ch',e⟩⟩
  |none=>
   rw[e] at H;exact .inr ⟨fun aa=>(by obtain⟨ch',aa⟩:=gv.1 aa;rw[e] at aa;cases aa),H⟩
 let uO:Nat->bn:=fun d=>if d∈fW then o1 d else ρ d
 let iX:Nat->Nat->Prop:=fun d=>if d∈cr bp then ce d else F d
 have Cv: ∀d,d∉fW->uO d=ρ d:=fun d H=>if_neg H
 have xS: ∀d,d∈c::fW->uO d=o1 d:=fun d H=>by
  rcases aq5.1 H with rfl |H
  .rw[Cv _ a5,cA]
  .exact if_pos H
 have mN: ∀y,(∃d ch,ag (bp++aJ) d=some ch/\iX d y)-> ∃d ch,ag ((c,ba.aG o)::aJ) d=some ch/\F d y:=by
  rintro y ⟨d,ch,H,aD⟩;rcases iM H with⟨ae,ao⟩ |⟨ae,ao⟩
  .have aD:ce d y:=by simpa only[iX,if_pos ao] using aD
   exact⟨c,_,dH,(fj y).2 ⟨d,ch,ae,aD⟩⟩
  .have aD:F d y:=by simpa only[iX,if_neg ae] using aD
   exact⟨d,ch,(e1 ao).2.2,aD⟩
 refine(h uO iX I w bU a8 ?_ ?_ ?_ bV ?_).mono ?_
 .intro d ch H;rcases iM H with⟨ae,ao⟩ |⟨ae,ao⟩
  .have aa:d∈c::fW:=aq5.2 (Rb d ao);rw[xS d aa];simp only[iX,if_pos ao];exact Holds.cp (cm.refl _ _) (fun _ _=>rfl) (aq0 _) ch (fun j V=>xS j (ba.kK (xG a3 ae) V)) (cF d ch ae)
  .rw[Cv d (e1 ao).2.1];simp only[iX,if_neg ae];exact Holds.cp (cm.refl _ _) (fun _ _=>rfl) (aq0 _) ch (fun j V=>Cv j (fun k8=>by rw[(Cu FO ao).2 j k8] at V;cases V)) (cZ d ch (e1 ao).2.2)
 .intro d ch H x hx;rcases iM H with⟨ae,ao⟩ |⟨ae,ao⟩
  .simp only[iX,if_pos ao] at hx;exact bh c _ dH x ((fj x).2 ⟨d,ch,ae,hx⟩)
  .simp only[iX,if_neg ae] at hx;exact bh d ch (e1 ao).2.2 x hx
 .intro d c3 ch ch' x H dq a7 hx dO;rcases iM H with⟨ae,ao⟩ |⟨ae,ao⟩
  .simp only[iX,if_pos ao] at hx;rcases iM dq with⟨ll,jE⟩ |⟨ll,jE⟩
   .simp only[iX,if_pos jE] at dO;exact dF d c3 ch ch' x ae ll a7 hx dO
   .simp only[iX,if_neg ll] at dO;exact eE c c3 _ ch' x dH (e1 jE).2.2 (Ne.symm (e1 jE).1) ((fj x).2 ⟨d,ch,ae,hx⟩) dO
  .simp only[iX,if_neg ae] at hx;rcases iM dq with⟨ll,jE⟩ |⟨ll,jE⟩
   .simp only[iX,if_pos jE] at dO;exact eE c d _ ch x dH (e1 ao).2.2 (Ne.symm (e1 ao).1) ((fj x).2 ⟨c3,ch',ll,dO⟩) hx
   .simp only[iX,if_neg ll] at dO;exact eE d c3 ch ch' x (e1 ao).2.2 (e1 jE).2.2 a7 hx dO
 .intro i v x ay hx;have Kk:=as4.1 ze v (au5 ay)
  exact cw.mono (cm.refl _ _) v x (fun j V=>Cv j (fun k8=>by
   have:=as4.1 Kk j k8;rw[V] at this
   cases this)) (dy i v x ay hx)
 .rintro e w' ⟨g,x,ρ',F',rfl,cy,dn,I',jk,gE,lK,ap,ic,sr⟩;have aZ:=G g;simp only[n0,vj,ax8] at aZ;obtain⟨⟨⟨⟨b1,b2⟩,b3⟩,er⟩,fk⟩:=aZ;have b1:=tB b1
  have acF: ∀d,d∉mO fW bb jo->d∉fW/\(d∈bb->d∈jo):=fun d H=>by
   refine⟨fun bf=>H (as1.2 (.inl bf)),fun bf=>?_⟩;rcases Decidable.em (d∈jo) with h |h
   .exact h
   .exact absurd (as1.2 (.inr (ax3.2 ⟨bf,by simpa using h⟩))) H
  have Kl:c∉mO fW bb jo:=fun bf=>by
   rcases as1.1 bf with h |h
   .exact a5 h
   .exact a4 (ax3.1 h).1
  let uD:Nat->bn:=fun d=>if d∈jo then ρ' d else ρ d
  have ri: ∀d,d∉mO fW bb jo->uD d=ρ' d:=fun d H=>by
   obtain⟨ae,ao⟩:=acF d H;show(if d∈jo then ρ' d else ρ d)=ρ' d
   split
   .rfl
   .rename_i hn;rw[dn d (fun bf=>hn (ao bf)),Cv d ae]
  have o2: ∀{d ch},ag (dG g) d=some ch->ag (dG g++aO g) d=some ch:=fun {d ch} H=>by rw[iN,H]
  have nf: ∀{d ch},ag (aO g) d=some ch->d≠c/\d∉mO fW bb jo/\ag (dG g) d=none/\ag (dG g++aO g) d=some ch:=fun {d ch} H=>by
   have ae:d≠c:=fun e=>by rw[e,er] at H;cases H
   have ao:=(Cu b3 H).1
   have bm:ag (dG g) d=none:=by
    cases e:ag (dG g) d with
    |none=>rfl
    |some ch'=>
     have:=tB (as4.1 b2 d (gv.2 ⟨ch',e⟩));rcases aq5.1 this with h |h
     .exact absurd h ae
     .exact absurd h ao
   exact⟨ae,ao,bm,by rw[iN,bm];exact H⟩
  refine⟨g,x,uD,fun d=>if d=c then(fun y=> ∃c3 ch',ag (dG g) c3=some ch'/\F' c3 y) else F' d,rfl,cy.mono fun y _ aD=>mN y aD,fun d H=>if_neg H,I',jk,fun y aD=>⟨(gE y aD).1,?_⟩,?_,?_,?_,?_⟩
  .rcases(gE y aD).2 with h |h |h
   .exact .inl h
   .exact .inr (.inl (mN y h))
   .exact .inr (.inr h)
  .intro d ch H;rw[cd] at H
   split at H
   .rename_i e;injection H with H
    subst H e;simp only[if_true];rw[ri _ Kl];exact nW g _ _ _ _ ⟨ρ',F',rfl,fun d ch H=>lK d ch (o2 H),fun d c3 ch ch' b H dq a7=>ic d c3 ch ch' b (o2 H) (o2 dq) a7,fun b=>Iff.rfl⟩
   .obtain⟨ae,ao,bm,c0⟩:=nf H;simp only[if_neg ae];rw[ri d ao];exact Holds.cp (cm.refl _ _) (fun _ _=>rfl) (aq0 _) ch (fun j V=>ri j (fun k8=>by rw[(Cu b3 H).2 j k8] at V;cases V)) (lK d ch c0)
  .intro d ch H y aD;rw[cd] at H
   split at H
   .rename_i e;subst e;simp only[if_true] at aD;obtain⟨c3,ch',E,G⟩:=aD;obtain⟨cI,cE,hN⟩:=ap c3 ch' (o2 E) y G;exact⟨cI,cE,hN.imp (mN y) id⟩
   .obtain⟨ae,ao,bm,c0⟩:=nf H;simp only[if_neg ae] at aD;obtain⟨cI,cE,hN⟩:=ap d ch c0 y aD;exact⟨cI,cE,hN.imp (mN y) id⟩
  .intro d c3 ch ch' y H dq a7 aD d';rw[cd] at H dq
   split at H
   .rename_i e;subst e;rw[if_neg a7] at dq;obtain⟨ae,ao,bm,c0⟩:=nf dq;simp only[if_true] at aD;simp only[if_neg ae] at d';obtain⟨hJ,i4,E,G⟩:=aD;exact ic hJ c3 i4 ch' y (o2 E) c0 (fun e=>by rw[e,bm] at E;cases E) G d'
   .obtain⟨ae,ao,bm,c0⟩:=nf H;simp only[if_neg ae] at aD
    split at dq
    .rename_i e;subst e;simp only[if_true] at d';obtain⟨hJ,i4,E,G⟩:=d';exact ic d hJ ch i4 y c0 (o2 E) (fun e=>by rw[<-e,bm] at E;cases E) aD G
    .obtain⟨ll,jE,zR,acG⟩:=nf dq;simp only[if_neg ll] at d';exact ic d c3 ch ch' y c0 acG a7 aD d'
  .exact cw.mono (cm.refl _ _) (res g) x (fun j V=>ri j (fun k8=>by
    have:=as4.1 fk j k8;rw[V] at this
    cases this)) sr
theorem jn.acH {f g:Nat->Nat} (Cw: ∀c,g (f c)=c) (Km: ∀c,f (g c)=c) {c:Nat} {bp:az} {I F:Nat->Prop} {w:World} {p:bn} (h:jn c bp I F w p):jn (f c) (kp f bp) I F w p:=by
 obtain⟨ρ,ce,E,G,af,aW⟩:=h
 have ak: ∀{d ch},ag (kp f bp) d=some ch-> ∃cz,ag bp (g d)=some cz/\ch=cz.eC f:=fun {d ch} H=>by
  rw[<-Km d,Ch Cw] at H;obtain⟨cz,ae,ao⟩:=at3.1 H;exact⟨cz,ae,ao.symm⟩
 refine⟨fun d=>ρ (g d),fun d=>ce (g d),by simp only[Cw];exact E,fun d ch H=>?_,fun d c3 ch ch' b H dq a7=>?_,fun b=>?_⟩
 .obtain⟨cz,ae,rfl⟩:=ak H;rw[Cg];simp only[Cw];exact G _ _ ae
 .obtain⟨cz,ae,_⟩:=ak H;obtain⟨i4,ao,_⟩:=ak dq;exact af _ _ _ _ b ae ao (fun e=>a7 (by rw[<-Km d,<-Km c3,e]))
 .rw[aW];constructor
  .rintro⟨d,ch,ae,ao⟩;exact⟨f d,ch.eC f,by rw[Ch Cw,ae];rfl,by simp only[Cw];exact ao⟩
  .rintro⟨d,ch,ae,ao⟩;obtain⟨cz,bm,_⟩:=ak ae;exact⟨g d,cz,bm,ao⟩
theorem jn.aV (l:List (Nat×Nat)) {c:Nat} {bp:az} {I F:Nat->Prop} {w:World} {p:bn} (h:jn c bp I F w p):jn (eC (ln l []) c) (kp (eC (ln l [])) bp) I F w p:=
 h.acH (g:=zM (ln l [])) (FD _) (FE _)
section
variable {ids:aC4} {K:aY} {B:az}
theorem di.name (s c:Nat) {o:bc} (aw:dI K s= .c (.one (.ptr c 0))) (J:ag B c=some (.aG o)):di ids K B (fun b:Nat=>(s,.c (.one (.d (.aM (some b)))))::K) (fun b=>(c,.aG (o.at b))::B):=by
 rintro N C a w ⟨hn,H,ρ,F,aj,ar⟩;obtain⟨bI,a1⟩:=aj.hI (w':=w) (ch:=.aG (o.at (ρ c).bk)) J (cS.refl _ _) fun I a8=>⟨rfl,Holds.cp (ρ':=ρ) a8 (fun _ _=>rfl) (aq0 _) (.aG o) (fun _ _=>rfl) (aj.holds c _ J)⟩
 refine⟨(ρ c).bk,hn,H,ρ,F,bI,fun t=>?_⟩;rw[kD]
 split
 .rename_i e;subst e;have:=ar s;rw[aw] at this;exact this
 .exact ar.mono a1 (fun _ _ _=>rfl) t
theorem ac.put (q c:Nat) {o:bc} {b:Nat} {L:List (Nat×bc)} (a7:c≠q) (aT:ag B q=some (.aG (.bx L))) (J:ag B c=some (.aG (o.at b))):ac ids K B K ((q,.aG (.bx ((b,o)::L)))::gS B c):=by
 rintro N C a w ⟨hn,H,ρ,F,aj,ar⟩;have bl:fM _ _ L (F q):=aj.holds q _ aT;have ap:(ρ c).bk=b/\o.bo _ (F c) w (ρ c):=aj.holds c _ J;obtain⟨rfl,ap⟩:=ap;have eE: ∀x,F c x-> ¬F q x:=fun x hx dO=>aj.fh c q _ _ x J aT a7 hx dO
 obtain⟨bI,a1⟩:=aj.step (B':=(q,.aG (.bx (((ρ c).bk,o)::L)))::gS B c) (ρ':=ρ) (F':=da F q (fun x=>F c x\/F q x)) (w':=w) (fun d=>d=c\/d=q) (fun _=>False) (cS.refl _ _)
  (fun d ch H aA=>by
   rw[cd,if_neg (fun e=>aA (.inr e.symm)),hA,if_neg (fun e=>aA (.inl e.symm))] at H;exact H)
  (fun _ _=>rfl) (fun d aA=>dh _ _ (fun e=>aA (.inr e))) (fun _ _ h=>h) (fun _ h=>h.elim) (fun _ _ _ _ _ _ h=>h)
  (fun d ch H aA a1=>by
   rw[cd] at H
   split at H
   .rename_i e;subst e;injection H with H
    subst H;rw[c7];exact fM.add (bl.cp a1 (aq0 _) (fun _ _=>rfl)) (o.cp _ _ _ _ _ _ ap a1 (fun _ _=>rfl) (aq0 _)) eE
   .rename_i e;rcases aA with rfl |rfl
    .rw[hA,if_pos rfl] at H;cases H
    .exact absurd rfl e)
  (fun d ch H aA x hx=>by
   rw[cd] at H
   split at H
   .rename_i e;subst e;rw[c7] at hx;rcases hx with hx |hx
    .exact⟨(aj.own c _ J x hx).1,.inl ⟨c,_,J,.inl rfl,hx⟩⟩
    .exact⟨(aj.own q _ aT x hx).1,.inl ⟨q,_,aT,.inr rfl,hx⟩⟩
   .rename_i e;rcases aA with rfl |rfl
    .rw[hA,if_pos rfl] at H;cases H
    .exact absurd rfl e)
  (fun d c3 ch ch' x H dq aA gu Kn=>by
   have key: ∀d ch,ag ((q,ba.aG (.bx (((ρ c).bk,o)::L)))::gS B c) d=some ch->(d=c\/d=q)->d=q:=fun d ch H aA=>by
    rcases aA with rfl |rfl
    .rw[cd,if_neg (Ne.symm a7),hA,if_pos rfl] at H;cases H
    .rfl
   exact absurd ((key d ch H aA).trans (key c3 ch' dq gu).symm) Kn)
 exact⟨hn,H,ρ,_,bI,ar.mono a1 fun _ _ _=>rfl⟩
def pD:aC4->az->az
 | [],B=>B
 |c::l,B=>pD l (gS B c)
theorem xT: ∀(l:aC4) (B:az) (d:Nat),ag (pD l B) d=if d∈l then none else ag B d
 | [],B,d=>by simp[pD]
 |c::l,B,d=>by
  rw[pD,xT l,hA]
  by_cases h:d∈l
  .rw[if_pos h,if_pos (aq2 _ h)]
  .rw[if_neg h]
   by_cases e:c=d
   .subst e;rw[if_pos rfl,if_pos (ar2 ..)]
   .rw[if_neg e,if_neg];intro bf;rcases aq5.1 bf with rfl |bf
    .exact e rfl
    .exact h bf
theorem ac.close (c:Nat) (bp:az) {o:bc} (c5:k2 B bp) (J:(cr bp).contains c=true) (ah: ∀I F w p,jn c bp I F w p->o.bo I F w p):ac ids K B K ((c,.aG o)::pD (cr bp) B):=by
 rintro N C a w ⟨hn,H,ρ,F,aj,ar⟩;have J:=tB J;have ak: ∀{d ch},ag bp d=some ch->ag B d=some ch:=fun {d ch} h=>kI c5 h
 have wm: ∀{d ch},ag ((c,ba.aG o)::pD (cr bp) B) d=some ch->d∈cr bp->d=c/\ch= .aG o:=fun {d ch} H aA=>by
  rw[cd] at H
  split at H
  .rename_i e;injection H with H;exact⟨e.symm,H.symm⟩
  .rw[xT,if_pos aA] at H;cases H
 obtain⟨bI,a1⟩:=aj.step (B':=(c,.aG o)::pD (cr bp) B) (ρ':=ρ) (F':=fun d=>if d∈cr bp then(fun x=> ∃d ch,ag bp d=some ch/\F d x) else F d) (w':=w) (fun d=>d∈cr bp) (fun _=>False) (cS.refl _ _)
  (fun d ch H aA=>by
   have a7:c≠d:=fun e=>aA (by rw[<-e];exact J)
   rw[cd,if_neg a7,xT,if_neg aA] at H;exact H)
  (fun _ _=>rfl) (fun d aA=>if_neg aA) (fun _ _ h=>h) (fun _ h=>h.elim) (fun _ _ _ _ _ _ h=>h)
  (fun d ch H aA a1=>by
   obtain⟨rfl,rfl⟩:=wm H aA;simp only[if_pos aA];exact ah _ _ _ _ ⟨ρ,F,rfl,fun d ch h=>Holds.cp a1 (fun _ _=>rfl) (aq0 _) ch (fun _ _=>rfl) (aj.holds d ch (ak h)),fun d c3 ch ch' b h h' a7=>aj.fh d c3 ch ch' b (ak h) (ak h') a7,fun b=>Iff.rfl⟩)
  (fun d ch H aA x hx=>by
   simp only[if_pos aA] at hx;obtain⟨c3,ch',E,G⟩:=hx;exact⟨(aj.own c3 ch' (ak E) x G).1,.inl ⟨c3,ch',ak E,gv.2 ⟨ch',E⟩,G⟩⟩)
  (fun d c3 ch ch' x H dq aA gu a7=>absurd ((wm H aA).1.trans (wm dq gu).1.symm) a7)
 exact⟨hn,H,ρ,_,bI,ar.mono a1 fun _ _ _=>rfl⟩
theorem ac.ro (q:Nat) (hf:g6 ids K B q=true):ac ids K B K ((q,.aG (.bx []))::B):=by
 rintro N C a w ⟨hn,H,ρ,F,aj,ar⟩;have cy:=k4 hf;obtain⟨bI,a1⟩:=aj.make hf (Below.refl _ w) (ρ q) (fun _=>False) (fun _ h=>h.elim) (ch:=.aG (.bx [])) fun I _ _=>fun b h=>h
 exact⟨hn,H,_,_,bI,ar.mono a1 fun s d H=>dh _ _ (fun e=>by subst e;rw[cy.1 s] at H;cases H)⟩
end
end
section
abbrev al:bz:=.int .i64
abbrev mP:dP:=.one (.bJ (.pointer none))
abbrev dz (n:Int):dP:=.one (.d (.int .i64 n))
abbrev gO:aP:=.ci []
abbrev dr (b:Nat):aP:=.c (.one (.d (.aM (some b))))
abbrev Rc (x:Option Nat):dP:=.one (.d (.aM x))
theorem jJ {α:Type} {L:List α} {n:Nat} (h:n < L.length):fE L n=some L[n]:=oj h
theorem Fn.close {P:Program} {f:FuncId} {c:Nat} {args:List aP} {bp aJ:az} {bb jo:aC4} {res:aP} {dG aO:az} {o o':bc} (fW:aC4)
  (h:Fn P f args (bp++aJ) bb res (dG++aO)) (eb: ∀I F w p,o.bo I F w p->jn c bp I F w p) (nW: ∀I F w p,jn c dG I F w p->o'.bo I F w p)
  (E:nZ c fW args bp aJ bb jo=true) (G:n0 c (mO fW bb jo) res dG aO=true):
  Fn P f args ((c,.aG o)::aJ) jo res ((c,.aG o')::aO):=
 (cx.close (bp:=bp) (dG:=fun _:Unit=>dG) (aO:=fun _=>aO) (o:=o) (o':=fun _=>o') fW h.x eb (fun _=>nW) E (fun _=>G)).fn
theorem Fn.FP {P:Program} {f:FuncId} {args:List aP} {c:Nat} {aJ:az} {bb:aC4} {res:aP} {aO:az} {o:bc} {Y:Type} {su:Y->bc} (J:jA P f=true) (ah: ∀I F w p,o.bo I F w p-> ∃y,(su y).bo I F w p)
  (h: ∀y,Fn P f args ((c,.aG (su y))::aJ) bb res aO):Fn P f args ((c,.aG o)::aJ) bb res aO:=by
 refine⟨J,fun ρ F I w bU bZ cg a3 a4 a5 gB=>?_⟩;have ak:ag ((c,ba.aG o)::aJ) c=some (.aG o):=aA1
 obtain⟨y,aD⟩:=ah _ _ _ _ (cg c _ ak)
 have key: ∀d ch,ag ((c,ba.aG (su y))::aJ) d=some ch->(d=c/\ch= .aG (su y))\/ag ((c,ba.aG o)::aJ) d=some ch:=fun d ch H=>by
  rw[cd] at H
  split at H
  .rename_i e;injection H with H;exact .inl ⟨e.symm,H.symm⟩
  .rename_i e;exact .inr (by rw[cd,if_neg e];exact H)
 have uP: ∀d ch,ag ((c,ba.aG (su y))::aJ) d=some ch-> ∃cz,ag ((c,ba.aG o)::aJ) d=some cz:=fun d ch H=>by
  rcases key d ch H with⟨e,_⟩ |h
  .rw[e];exact⟨_,ak⟩
  .exact⟨_,h⟩
 have acI: ∀d ch,ag ((c,ba.aG o)::aJ) d=some ch-> ∃cz,ag ((c,ba.aG (su y))::aJ) d=some cz:=fun d ch H=>by
  rw[cd] at H⊢
  split at H
  .rename_i e;exact⟨_,by rw[if_pos e]⟩
  .rename_i e;exact⟨ch,by rw[if_neg e];exact H⟩
 have bh: ∀b,(∃d ch,ag ((c,ba.aG (su y))::aJ) d=some ch/\F d b)↔ ∃d ch,ag ((c,ba.aG o)::aJ) d=some ch/\F d b:=fun b=>
  ⟨fun⟨d,ch,E,G⟩=>let⟨cz,h⟩:=uP d ch E;⟨d,cz,h,G⟩,fun⟨d,ch,E,G⟩=>let⟨cz,h⟩:=acI d ch E;⟨d,cz,h,G⟩⟩
 refine((h y).2 ρ F I w bU bZ (fun d ch H=>?_) (fun d ch H b O=>?_) (fun d c3 ch ch' b E G=>?_) a5 gB).mono ?_
 .rcases key d ch H with⟨rfl,rfl⟩ |h
  .exact aD
  .exact cg d ch h
 .obtain⟨cz,h⟩:=uP d ch H;exact a3 d cz h b O
 .obtain⟨gT,g1⟩:=uP d ch E;obtain⟨cI,g2⟩:=uP c3 ch' G;exact a4 d c3 gT cI b g1 g2
 .rintro e w' ⟨x,ρ',F',r1,r2,gg,I',j2,lL,mb,lM,mQ,n1⟩;refine⟨x,ρ',F',r1,r2.mono fun b _ O=>(bh b).1 O,gg,I',j2,fun b O=>⟨(lL b O).1,(lL b O).2.imp id (Or.imp (bh b).1 id)⟩,mb,fun d ch H b O=>?_,mQ,n1⟩;obtain⟨g1,g2,cX⟩:=lM d ch H b O;exact⟨g1,g2,cX.imp (bh b).1 id⟩
end
section
theorem cx.J7 {P:Program} {fn:FuncId} {f g:Nat->Nat} (aZ: ∀c,g (f c)=c) (hf: ∀c,f (g c)=c) {args:List aP} {aJ:az} {bb:aC4} {X:Type} {res:X->aP} {aO:X->az} (h:cx P fn args aJ bb res aO):
  cx P fn (xK f args) (kp f aJ) (zP f bb) (fun x=>(res x).eC f) (fun x=>kp f (aO x)):=by
 refine⟨h.1,?_⟩;intro ρ F I w bU a8 cZ bh eE bV dy;have ma: ∀(B:az) c,ag (kp f B) (f c)=(ag B c).map (·.eC f):=Ch aZ;have oZ: ∀{B:az} {c ch},ag B c=some ch->ag (kp f B) (f c)=some (ch.eC f):=fun {B c ch} h=>by rw[ma,h];rfl
 have uH: ∀{B:az} {c ch},ag (kp f B) c=some ch-> ∃cz,ag B (g c)=some cz/\ch=cz.eC f:=fun {B c ch} h=>by
  have e:=ma B (g c);rw[hf,h] at e;obtain⟨cz,E,G⟩:=at3.1 e.symm;exact⟨cz,E,G.symm⟩
 rw[J5] at bV dy
 have J:=h.2 (fun c=>ρ (f c)) (fun c=>F (f c)) I w bU a8
  (fun c ch J=>by rw[<-Cg];exact cZ _ _ (oZ J))
  (fun c ch J=>bh _ _ (oZ J))
  (fun c b9 ch ch' b E G a7=>eE _ _ _ _ b (oZ E) (oZ G) fun e=>a7 (by rw[<-aZ c,e,aZ]))
  (by simpa using bV)
  (fun i v x ay hx=>by rw[<-FG];exact dy i _ x (by rw[as0,ay];rfl) hx)
 refine J.mono ?_;rintro e w' ⟨y,x,ρ',F',rfl,cy,dn,I',jk,gE,lK,ap,ic,hx⟩;have xL:(fun c=>ρ' (g (f c)))=ρ':=funext fun c=>by rw[aZ]
 refine⟨y,x,fun c=>ρ' (g c),fun c=>F' (g c),rfl,?_,?_,I',jk,?_,?_,?_,?_,?_⟩
 .exact cy.mono fun b _ ⟨c,ch,E,G⟩=>⟨f c,_,oZ E,G⟩
 .intro c J;show ρ' (g c)=ρ c;rw[dn (g c) (fun aA=>J (by have:=J6 (f:=f) _ _ aA;rwa[hf] at this)),hf]
 .intro b O;obtain⟨E,G⟩:=gE b O;refine⟨E,?_⟩;rcases G with G |⟨c,ch,G,af⟩ |G
  .exact .inl G
  .exact .inr (.inl ⟨f c,_,oZ G,af⟩)
  .exact .inr (.inr G)
 .intro c ch J;obtain⟨cz,E,rfl⟩:=uH J;rw[Cg,xL];exact lK _ _ E
 .intro c ch J b O;obtain⟨cz,E,rfl⟩:=uH J;obtain⟨cA,cF,dF⟩:=ap _ _ E b O;refine⟨cA,cF,?_⟩;rcases dF with⟨gT,cz,dF,fj⟩ |dF
  .exact .inl ⟨f gT,_,oZ dF,fj⟩
  .exact .inr dF
 .intro c b9 ch ch' b J cK a7;obtain⟨cz,E,rfl⟩:=uH J;obtain⟨i4,G,rfl⟩:=uH cK;exact ic _ _ _ _ b E G fun e=>a7 (by rw[<-hf c,e,hf])
 .rw[FG,xL];exact hx
theorem cx.aV {P:Program} {fn:FuncId} (l:List (Nat×Nat)) {args:List aP} {aJ:az} {bb:aC4} {X:Type} {res:X->aP} {aO:X->az} (h:cx P fn args aJ bb res aO):
  cx P fn (xK (eC (ln l [])) args) (kp (eC (ln l [])) aJ) (zP (eC (ln l [])) bb) (fun x=>(res x).eC (eC (ln l []))) (fun x=>kp (eC (ln l [])) (aO x)):=
 cx.J7 (FD _) (FE _) h
theorem cx.arg {P:Program} {f:FuncId} {args args':List aP} {aJ:az} {bb:aC4} {X:Type} {res:X->aP} {aO:X->az} (h:cx P f args' aJ bb res aO) (ak:EK args args'):cx P f args aJ bb res aO:=by
 obtain⟨E,G⟩:=JS ak;refine⟨h.1,fun ρ F I w bU bZ cg a3 a4 a5 gB=>h.2 ρ F I w bU bZ cg a3 a4 (a5.trans E) fun i v x ay hx=>?_⟩;obtain⟨s,g1,g2⟩:=G i v ay;exact v' g2 (gB i s x g1 hx)
def bc.o3 (o:bc):Prop:= ∀I F w p,o.bo I F w p->F p.bk
theorem Ko {I:Nat->Prop} {w:World} {b:Nat}: ∀{L:List (Nat×bc)} {F:Nat->Prop},(∀p∈L,p.2.o3)->fM I w L F->b∈L.map (·.1)->F b
 | [],_,_,_,h=>by cases h
 |p::L,F,ha,⟨cG,cN,q,E,G,af,aW,bG⟩,h=>by
  rcases aq5.1 h with h |h
  .exact(E b).2 (.inl (by rw[h];have:=ha p (ar2 ..) _ _ _ _ aW;rwa[af] at this))
  .exact(E b).2 (.inr (Ko (fun p ai=>ha p (aq2 _ ai)) bG h))
theorem Rd {I:Nat->Prop} {w:World}: ∀{L:List (Nat×bc)} {F:Nat->Prop},(∀p∈L,p.2.o3)->fM I w L F->(L.map (·.1)).Nodup
 | [],_,_,_=>av8
 |p::L,F,ha,⟨cG,cN,q,E,G,af,aW,bG⟩=>by
  have Re: ∀p∈L,p.2.o3:=fun p ai=>ha p (aq2 _ ai)
  rw[ar4];refine as8.2 ⟨fun aA=>?_,Rd Re bG⟩;have ae:=ha p (ar2 ..) _ _ _ _ aW;rw[af] at ae;exact G _ ae (Ko Re bG aA)
theorem di.Cx {ids:aC4} {K:aY} {B:az} (q:Nat) {L:List (Nat×bc)} (ha: ∀p∈L,p.2.o3) (aT:ag B q=some (.aG (.bx L))):di ids K B (X:=PLift ((L.map (·.1)).Nodup)) (fun _=>K) (fun _=>B):=by
 rintro N C a w ⟨hn,H,ρ,F,aj,ar⟩;have bl:fM (bX C B F w) w L (F q):=aj.holds q _ aT;exact⟨⟨Rd ha bl⟩,hn,H,ρ,F,aj,ar⟩
end
section
theorem Fn.via {P:Program} {f:FuncId} {args:List aP} {aJ:az} {bb:aC4} {res:aP} {aO:az} {X:Type} {args':X->List aP} {uQ:X->az} {nc:X->az} {jo:X->aC4} {res':X->aP} {n2:X->az} (fT:jA P f=true) (n:Nat) (hn:args.length=n)
  (eb:di (cr aJ) (oY 0 args) aJ (fun x=>oY 0 (args' x)) uQ) (h: ∀x,Fn P f (args' x) (nc x) (jo x) (res' x) (n2 x)) (hZ: ∀x,k2 (uQ x) (nc x)) (cy: ∀x,(se (cr aJ) (oY 0 (args' x)) (uQ x) (jo x)&&mF (nc x) (jo x) (n2 x))=true) (bV: ∀x,(args' x).length=n)
  (nW: ∀x,∃(r:aP) (jG:az),ac (cr aJ) ((n,res' x)::oY 0 (args' x)) (hk (iI (nc x) (n2 x)) (uQ x)) [(n,r)] jG/\tg r res/\k2 jG aO/\(res.i7 (cr aJ++bb)&&v8 (cr aJ++bb) aO&&(cr aO).all (fun c=>(cr aJ++bb).contains c))=true):Fn P f args aJ bb res aO:=by
 refine⟨fT,fun ρ F I w bU a8 cZ bh eE rf dy=>?_⟩
 let C:fg:=⟨w,I,fun b=> ∃c ch,ag aJ c=some ch/\F c b,ρ,[]⟩
 let a:Act:={tmps:=(bU++[undef]).toArray,defers:=[]}
 have sq:cm I w (bX C aJ F w) w:=fun b O=>⟨⟨a8 b O,.inl O,fun c ch J qk=>(bh c ch J b qk).2 O⟩,rfl⟩
 have acJ:Mem (cr aJ) C aJ ρ F w:=⟨cS.refl _ _,fun c ch J=>Holds.cp sq (fun _ _=>rfl) (aq0 _) ch (fun _ _=>rfl) (cZ c ch J),fun c ch J b O=>⟨(bh c ch J b O).1,.inl ⟨c,ch,J,O⟩⟩,eE,fun c _=>rfl,av8,fun b O=>O.elim (a8 b) fun⟨c,ch,J,B7⟩=>(bh c ch J b B7).1,fun D cf=>by cases cf⟩
 have iV: ∀(i:Nat) (aF:i < bU.length),a.tmps.getD i undef=bU[i]:=fun i aF=>by
  show(bU++[undef]).toArray.getD i undef=_;rw[Array.getD_eq_getD_getElem?,List.getElem?_toArray,as6 aF,oj aF];rfl
 have acK:e2 (n+1) (cr aJ) C (oY 0 args) aJ a w:=by
  refine⟨by show(bU++[undef]).toArray.size=n+1;simp[rf,hn],rfl,ρ,F,acJ,fun s=>?_⟩;rw[B5];simp only[aq8,if_true,Nat.sub_zero]
  cases aw:args[s]? with
  |none=>trivial
  |some v=>
   have bt:s < bU.length:=by rw[rf];exact(aq7.1 aw).1
   simp only[av9];have hx:bU[s]? =some bU[s]:=oj bt;have:=cw.mono sq v _ (fun _ _=>rfl) (dy s v _ aw hx);rw[iV s bt];exact this
 obtain⟨x,kn,xz,sv,cG,aj,ar⟩:=eb (n+1) C a w acK;have qp: ∀{c ch},ag (nc x) c=some ch->ag (uQ x) c=some ch:=fun {c ch} J=>kI (hZ x) J
 have cy:=cy x;rw[vj] at cy
 have J:=(h x).2 sv cG (bX C (uQ x) cG w) w bU (fun b O=>O.1) (fun c ch J=>aj.holds c ch (qp J)) (fun c ch J b O=>⟨(aj.own c ch (qp J) b O).1,fun a8=>a8.2.2 c ch (qp J) O⟩)
  (fun c b9 ch ch' b E G=>aj.fh c b9 ch ch' b (qp E) (qp G)) (by rw[rf,hn,bV x]) (fun i v y ay aD=>by
   have aF:i < bU.length:=(aq7.1 aD).1;have E:=ar i;rw[B5] at E;simp only[aq8,if_true,Nat.sub_zero,ay,av9] at E;rw[iV i aF] at E;rw[oj aF] at aD;injection aD with aD
   rw[<-aD];exact E)
 refine J.mono ?_;rintro e w' ⟨y,uD,cN,rfl,cA,cF,I',dF,fj,xU,wn,xV,Kp⟩;have xL:=e2.back (dst:=some n) (hZ x) cy.1 cy.2 kn xz aj ar (fun d H=>by injection H with H;omega) cA cF fj xU wn xV Kp;obtain⟨r,jG,g8,acL,FQ,pB⟩:=nW x;obtain⟨FR,ap9,ρ',F',bI,B8⟩:=g8 _ _ _ _ xL;simp only[vj] at pB
 let zS:Nat->bn:=fun c=>if c∈bb then ρ' c else ρ c
 have Kq: ∀c,c∈cr aJ++bb->zS c=ρ' c:=fun c J=>by
  show(if c∈bb then ρ' c else ρ c)=ρ' c
  split
  .rfl
  .rename_i hn;rcases as1.1 J with h |h
   .exact(bI.eI c h).symm
   .exact absurd h hn
 have qi:cw ρ' (bX C jG F' w') w' res y:=by
  have E:=B8 n;rw[kD,if_pos rfl] at E;have G:(a.put (some n) y).tmps.getD n undef=y:=Pb (by show n < (bU++[undef]).toArray.size;simp[rf,hn]);rw[G] at E;exact v' acL E
 refine⟨y,zS,F',rfl,bI.fr,fun c J=>if_neg J,bX C jG F' w',?_,fun b O=>⟨O.1,?_⟩,?_,?_,?_,?_⟩
 .intro b O;have wa: ¬C.qd b:=fun⟨c,ch,E,G⟩=>(bh c ch E b G).2 O
  refine⟨⟨ar6 (a8 b O) bI.fr.size,.inl O,fun c ch J qk=>?_⟩,bI.fr.block b (a8 b O) wa⟩;rcases(bI.own c ch J b qk).2 with h |h
  .exact wa h
  .have:=a8 b O;exact absurd h.1 (Nat.not_le.2 this)
 .rcases O.2.1 with h |h |h
  .exact .inl h
  .exact .inr (.inl h)
  .exact .inr (.inr h.1)
 .intro c ch J
  have aa:c∈cr aJ++bb:=by
   have:=as4.1 pB.2 c (gv.2 ⟨ch,J⟩);simpa only[as7] using this
  rw[Kq c aa];exact Holds.cp (cm.refl _ _) (fun _ _=>rfl) (aq0 _) ch (fun d H=>Kq d (ba.kK (xG pB.1.2 J) H)) (bI.holds c ch (kI FQ J))
 .intro c ch J b O;have cK:=kI FQ J;exact⟨(bI.own c ch cK b O).1,fun aF=>aF.2.2 c ch cK O,(bI.own c ch cK b O).2.imp id fun x=>x.1⟩
 .exact fun c b9 ch ch' b E G=>bI.fh c b9 ch ch' b (kI FQ E) (kI FQ G)
 .exact cw.mono (cm.refl _ _) res y (fun c J=>Kq c (aP.kK pB.1.1 J)) qi
end
section
open Go.ChangeMaps (setBlock map_eraseIdx)
def fSz:(u:bz)->Z u->dP
 | .int k,n=>.one (.d (.int k n))
 | .str,s=>.one (.d (.str s))
 |_,_=>.one .any
def Cy (b:Nat) (aI aK:bz) (l:List (Nat×(Z aI×Z aK))) (bS:Nat) (I F:Nat->Prop) (w:World) (p:bn):Prop:=
 p.bk=b/\(∀x,F x↔x=p.bk)/\ ∃bR,w.heap[p.bk]? =some (.map (List.toArray bR) bS)/\ir I w aI aK (l.map (·.2)) bR/\bR.map (·.born)=l.map (·.1)/\l4 bR bS
def bc.wo (b:Nat) (aI aK:bz) (l:List (Nat×(Z aI×Z aK))) (bS:Nat):bc where
 bo:=Cy b aI aK l bS
 cp:=fun I F w I' w' p ⟨E,G,bR,af,aW,bG,fF⟩ U bh aN=>⟨E,G,bR,(bh _ ((G _).2 rfl)).trans af,aW.mono U,bG,fF⟩
def Kr (b kL:Nat) (bK:aC4) (at_:Nat) (I F:Nat->Prop) (w:World) (p:bn):Prop:=(∀x,F x↔x=p.bk)/\w.heap[p.bk]? =some (.mapIter (some b) kL (List.toArray bK) at_)
def bc.wq (b kL:Nat) (bK:aC4) (at_:Nat):bc where
 bo:=Kr b kL bK at_
 cp:=fun I F w I' w' p ⟨E,G⟩ U bh aN=>⟨E,(bh _ ((E _).2 rfl)).trans G⟩
section
variable {P:Program} {ids:aC4} {K:aY} {B:az}
theorem acM {bR:List MapEntry} {bS:Nat} (h:l4 bR bS):(bR.map (·.born)).Pairwise (· < ·)/\ ∀x∈bR.map (·.born),x < bS:=⟨h.1,fun x hx=>by
 obtain⟨e,U,rfl⟩:=as9.1 hx;exact h.2 e U⟩
theorem Rf {α lN:Type}: ∀{l:List α} {m:List lN},l.length=m.length->(l.zip m).map (·.1)=l/\(l.zip m).map (·.2)=m
 | [],[],_=>⟨rfl,rfl⟩
 |a::l,b::m,h=>by
  obtain⟨E,G⟩:=Rf (l:=l) (m:=m) az3;simp[E,G]
structure Rg (aI aK:bz) (es:List (Z aI×Z aK)) where
 b:Nat
 l:List (Nat×(Z aI×Z aK))
 bS:Nat
 snd:l.map (·.2)=es
 ap':(l.map (·.1)).Pairwise (· < ·)
 lt: ∀x∈l.map (·.1),x < bS
theorem di.Rh (c:Nat) {aI aK:bz} {es:List (Z aI×Z aK)} (J:ag B c=some (.map aI aK es)):di ids K B (X:=Rg aI aK es) (fun _=>K) (fun x=>(c,.aG (.wo x.b aI aK x.l x.bS))::B):=by
 rintro N C a w ⟨hn,H,ρ,F,aj,ar⟩;obtain⟨bh,bR,bS,O,aA,c5⟩:=aj.holds c _ J;have bV:(bR.map (·.born)).length=es.length:=by rw[ar1,BB aA]
 obtain⟨kH,q'⟩:=Rf bV;obtain⟨r1,r2⟩:=acM c5
 let x:Rg aI aK es:=⟨(ρ c).bk,(bR.map (·.born)).zip es,bS,q',by rw[kH];exact r1,by rw[kH];exact r2⟩
 obtain⟨bI,a1⟩:=aj.hI (w':=w) (ch:=.aG (.wo x.b aI aK x.l x.bS)) J (cS.refl _ _) fun I a8=>⟨rfl,bh,bR,O,by
  show ir I w aI aK (((bR.map (·.born)).zip es).map (·.2)) bR;rw[q'];exact aA.mono a8,kH.symm,c5⟩
 exact⟨x,hn,H,ρ,F,bI,ar.mono a1 fun _ _ _=>rfl⟩
theorem ac.Ri (c:Nat) {b:Nat} {aI aK:bz} {l:List (Nat×(Z aI×Z aK))} {bS:Nat} (J:ag B c=some (.aG (.wo b aI aK l bS))):ac ids K B K ((c,.map aI aK (l.map (·.2)))::B):=by
 rintro N C a w ⟨hn,H,ρ,F,aj,ar⟩;obtain⟨O,bh,bR,af,aW,bG,fF⟩:Cy b aI aK l bS _ (F c) w (ρ c):=aj.holds c _ J;obtain⟨bI,a1⟩:=aj.hI (w':=w) (ch:=.map aI aK (l.map (·.2))) J (cS.refl _ _) fun I a8=>⟨bh,bR,bS,af,aW.mono a8,fF⟩
 exact⟨hn,H,ρ,F,bI,ar.mono a1 fun _ _ _=>rfl⟩
theorem Rj {o:Oper} {T kt et:TypeId} {x:Operand} {c d:Nat} (ah:o.op= .range T x) (b6:P.underlying T=some (.map kt et)) (hx:a2 K x= .c (.one (.mp c))) {b:Nat} {aI aK:bz} {l:List (Nat×(Z aI×Z aK))} {bS:Nat}
  (J:ag B c=some (.aG (.wo b aI aK l bS))) (N:Nat):bA P N ids o K B (.c (.one (.ptr d 0))) ⟨[c],[d],[(d,some (.aG (.wq b bS [] bS)))]⟩:=by
 have aA:x∈o.op.operands:=az1
 refine bA.make (fun e U=>(aq6 U).symm) fun K' B' g1 g2 C ρ F a w aj ar _=>?_
 have cK:=(g2 c ay6).trans J;obtain⟨O,bh,bR,af,aW,bG,fF⟩:Cy b aI aK l bS _ (F c) w (ρ c):=aj.holds c _ cK;have ae:=ar.mp ((g1 x aA).trans hx);refine⟨.pointer (some ⟨w.heap.size,0,none⟩),w.alloc (.mapIter (some (ρ c).bk) bS #[] bS),⟨w.heap.size,none,0,0⟩,fun y=>y=w.heap.size,?_,(Below.refl _ _).alloc (aq0 _) _,fun y aD=>?_,fun I a1 a8=>⟨⟨fun y=>Iff.rfl,?_⟩,?_⟩⟩
 .simp[execOp,ah,ae,run_range_map w T kt et (ρ c).bk _ bS b6 af,Result.andThen]
 .subst aD;simp
 .rw[<-O];exact heap_alloc_new w _
 .show _=Value.pointer (some ⟨(da ρ d _ d).bk,0,none⟩);rw[c7]
theorem Ks {I:Nat->Prop} {w:World} {aI aK:bz}: ∀{l:List (Z aI×Z aK)} {es:List MapEntry},ir I w aI aK l es-> ∀{j:Nat} {e:MapEntry},es[j]? =some e-> ∃p,l[j]? =some p/\e.key=gL aI p.1/\jz I w aK p.2 e.val
 | [],_,h,j,e,U=>by rw[show _=[] from h] at U;simp at U
 |p::l,_,⟨b7,r,h,E,G,af⟩,0,e,U=>by
  rw[h] at U;simp only[ar3,aq4] at U;subst U;exact⟨p,rfl,E,G⟩
 |p::l,_,⟨b7,r,h,E,G,af⟩,j+1,e,U=>by
  rw[h] at U;simp only[ax9] at U⊢;exact Ks af U
theorem Rk {b:Nat} {aI aK:bz} {l:List (Nat×(Z aI×Z aK))} {I:Nat->Prop} {w:World} {bR:List MapEntry} (aA:ir I w aI aK (l.map (·.2)) bR) (O:bR.map (·.born)=l.map (·.1)) {e:MapEntry} (U:e∈bR): ∃p∈l,p.1=e.born/\e.key=gL aI p.2.1/\jz I w aK p.2.2 e.val:=by
 obtain⟨j,V,rfl⟩:=aw0 U;have kG:bR[j]? =some bR[j]:=oj V;obtain⟨q,aT,E,G⟩:=Ks aA kG;rw[as0] at aT;obtain⟨p,ai,rfl⟩:=at3.1 aT;have Cz:(bR.map (·.born))[j]? =(l.map (·.1))[j]? :=by rw[O]
 rw[as0,as0,kG,ai] at Cz;exact⟨p,au5 ai,by simpa using Cz.symm,E,G⟩
theorem Rl {aI aK:bz} {l:List (Nat×(Z aI×Z aK))} {I:Nat->Prop} {w:World} {bR:List MapEntry} (aA:ir I w aI aK (l.map (·.2)) bR) (O:bR.map (·.born)=l.map (·.1)) {p:Nat×(Z aI×Z aK)} (ai:p∈l): ∃e∈bR,e.born=p.1/\e.key=gL aI p.2.1/\jz I w aK p.2.2 e.val:=by
 obtain⟨j,V,rfl⟩:=aw0 ai;have kG:l[j]? =some l[j]:=oj V;have bV:bR.length=l.length:=by have:=congrArg List.length O;simpa using this
 have U:bR[j]? =some (bR[j]'ay4):=oj ay4;obtain⟨q,aT,E,G⟩:=Ks aA U;rw[as0,kG] at aT;simp only[av4,aq4] at aT;subst aT;have Cz:(bR.map (·.born))[j]? =(l.map (·.1))[j]? :=by rw[O]
 rw[as0,as0,kG,U] at Cz;exact⟨_,as3 _,by simpa using Cz,E,G⟩
theorem Rm {ρ:Nat->bn} {I:Nat->Prop} {w:World}: ∀(u:bz) (x:Z u),gC ρ I w (fSz u x) (gL u x)
 | .int _,_=>rfl
 | .str,_=>rfl
 | .u8,_=>trivial
 | .bool,_=>trivial
 | .aM,_=>trivial
 | .dm,_=>trivial
 | .fn,_=>trivial
 | .b' _,_=>trivial
 | .bP _ _,_=>trivial
 | .arr _ _,_=>trivial
def acN (r b kL:Nat) (bK:aC4) (aI aK:bz) (l:List (Nat×(Z aI×Z aK))) (bS c:Nat) (v:aP) (e:fP):Prop:=
 (∃p∈l,p.1∉bK/\v= .ci [.one (.d (.lit true)),fSz aI p.2.1,zm aK p.2.2]/\e=⟨[c,r],[],[(r,some (.aG (.wq b kL (bK++[p.1]) bS)))]⟩)\/
 ((∀p∈l,p.1∈bK)/\v= .ci [.one (.d (.lit false))]/\e=bF)
theorem Rn {o:Oper} {it:Operand} {c r:Nat} (ah:o.op= .next it false) (hx:a2 K it= .c (.one (.ptr r 0))) {b kL:Nat} {bK:aC4} {at_:Nat} {aI aK:bz} {l:List (Nat×(Z aI×Z aK))} {bS:Nat}
  (ax:ag B r=some (.aG (.wq b kL bK at_))) (J:ag B c=some (.aG (.wo b aI aK l bS))) (mM: ∀p∈l,p.1 < kL) (acO:kL<=at_):Co P ids o K B (acN r b kL bK aI aK l bS c):=by
 rintro N C a w aw bt fJ Q cV;have aqa:=aw;obtain⟨hn,H,ρ,F,aj,ar⟩:=aw;obtain⟨O,bh,bR,af,aW,bG,fF⟩:Cy b aI aK l bS _ (F c) w (ρ c):=aj.holds c _ J;obtain⟨j1,jZ⟩:Kr b kL bK at_ (bX C B F w) (F r) w (ρ r):=aj.holds r _ ax;have ae:a.eval it= .pointer (some ⟨(ρ r).bk,0,none⟩):=ar.ev hx
 have acP: ∀x∈(List.toArray bR).toList,x.born < kL:=fun x hx=>by
  obtain⟨p,ai,h,_⟩:=Rk (b:=b) aW bG (e:=x) aB9;rw[<-h];exact mM p ai
 rw[O] at af;rcases run_next_at (P:=P) w o.type (ρ r).bk b kL at_ (List.toArray bK) (List.toArray bR) bS jZ af acP acO with⟨aN,dN⟩ |⟨e,U,dX,sw,dN⟩
 .unfold Oper.wp;have hx:(execOp a.eval o).run P w= .ok (.value (.tuple #[.bool false])) w:=by simp[execOp,ah,ae,dN,Result.andThen]
  rw[hx,Oper.upon_value];refine cV (.ci [.one (.d (.lit false))]) bF _ _ (.inr ⟨fun p ai=>?_,rfl,rfl⟩) ⟨ki.trans hn,kj.trans H,ρ,F,aj,ar.kk (fun e U=>by rw[hn];exact bt e U) ⟨[.bool false],rfl,_,_,rfl,rfl,rfl⟩⟩;obtain⟨e,U,E,_⟩:=Rl aW bG ai;rw[<-E];have Kt:leftOf (List.toArray bR) (List.toArray bK)= #[]:=Array.eq_empty_of_size_eq_zero aN;unfold leftOf at Kt;rw[Array.filter_eq_empty_iff] at Kt;have:=Kt e (by simpa using U);simpa using this
 .obtain⟨Ku,qq⟩:=mem_left U;have Ku:e∈bR:=by simpa using Ku
  have qq:e.born∉bK:=by
   intro bf;have:(List.toArray bK).contains e.born=true:=by simpa using bf
   rw[this] at qq;cases qq
  obtain⟨p,ai,cA,cF,dF⟩:=Rk (b:=b) aW bG Ku;unfold Oper.wp;have hx:(execOp a.eval o).run P w= .ok (.value (.tuple #[.bool true,e.key,e.val])) (setBlock dX (ρ r).bk (.mapIter (some b) kL ((List.toArray bK).push e.born) bS)):=by simp[execOp,ah,ae,dN,Result.andThen]
  rw[hx,Oper.upon_value];have rp:(ρ r).bk < w.heap.size:=l3 jZ
  have zT:dX.heap=w.heap/\dX.os=w.os/\dX.tape=w.tape/\dX.output=w.output:=by
   rcases sw with rfl |rfl <;>exact⟨rfl,rfl,rfl,rfl⟩
  have cy:cS (F r) w (setBlock dX (ρ r).bk (.mapIter (some b) kL ((List.toArray bK).push e.born) bS)):=by
   refine⟨zT.2.1,zT.2.2.1,zT.2.2.2,by simp[setBlock,zT.1],fun k aa zU=>?_⟩;have a7:k≠(ρ r).bk:=fun h=>zU ((j1 k).2 h)
   simp[setBlock,zT.1,aw1 (Ne.symm a7)]
  obtain⟨bI,a1⟩:=aj.hI (w':=setBlock dX (ρ r).bk (.mapIter (some b) kL ((List.toArray bK).push e.born) bS)) (ch:=.aG (.wq b kL (bK++[p.1]) bS)) ax cy fun I a8=>⟨j1,by
   simp[setBlock,zT.1,rp,cA]⟩
  refine cV (.ci [.one (.d (.lit true)),fSz aI p.2.1,zm aK p.2.2]) ⟨[c,r],[],[(r,some (.aG (.wq b kL (bK++[p.1]) bS)))]⟩ _ _ (.inl ⟨p,ai,by rw[cA];exact qq,rfl,rfl⟩)
   ⟨ki.trans hn,kj.trans H,ρ,F,bI,(ar.mono a1 fun _ _ _=>rfl).kk (fun e U=>by rw[hn];exact bt e U) ⟨[.bool true,e.key,e.val],rfl,_,_,rfl,rfl,_,_,rfl,?_,_,_,rfl,Fe (dF.mono a1),rfl⟩⟩
  rw[cF];exact Rm aI _
theorem Ro {o:Oper} {it:Operand} {c r:Nat} (ah:o.op= .entry it) (hx:a2 K it= .c (.one (.ptr r 0))) {b kL:Nat} {bK:aC4} {aI aK:bz} {l:List (Nat×(Z aI×Z aK))} {bS:Nat} {p:Nat×(Z aI×Z aK)}
  (ax:ag B r=some (.aG (.wq b kL (bK++[p.1]) bS))) (J:ag B c=some (.aG (.wo b aI aK l bS))) (ai:p∈l) (N:Nat):bA P N ids o K B (.ci [fSz aI p.2.1,zm aK p.2.2]) ⟨[c,r],[],[]⟩:=by
 have aA:it∈o.op.operands:=az1
 refine bA.val fun K' B' g1 g2 C ρ F a w aj ar=>?_
 have cK:=(g2 c ay6).trans J;have JK:=(g2 r ay6).trans ax;obtain⟨O,bh,bR,af,aW,bG,fF⟩:Cy b aI aK l bS _ (F c) w (ρ c):=aj.holds c _ cK;obtain⟨j1,jZ⟩:Kr b kL (bK++[p.1]) bS (bX C B' F w) (F r) w (ρ r):=aj.holds r _ JK;have ae:a.eval it= .pointer (some ⟨(ρ r).bk,0,none⟩):=ar.ev ((g1 it aA).trans hx);obtain⟨e,U,cA,cF,dF⟩:=Rl aW bG ai;rw[O] at af
 have dC:((List.toArray bR).toList.map (·.born)).Nodup:=by
  show(bR.map (·.born)).Nodup;exact fF.1.imp fun h=>by omega
 have acQ:w.heap[(ρ r).bk]? =some (.mapIter (some b) kL ((List.toArray bK).push e.born) bS):=by rw[jZ,cA];simp
 have dN:=run_entry_at (P:=P) w (ρ r).bk b kL (List.toArray bK) (List.toArray bR) bS e acQ af (by simpa using U) dC;refine⟨_,by simp[execOp,ah,ae,dN,Result.andThen],[e.key,e.val],rfl,_,_,rfl,?_,_,_,rfl,Fe dF,rfl⟩;rw[cF];exact Rm aI _
theorem acR {o:Oper} {T fG b7:TypeId} {x:Operand} {c:Nat} (ah:o.op= .binOp .eql T x (.const (.slice none 0 0)) fG) (hx:a2 K x= .c (.one (.own c))) {e:TypeId} {u:bz} {xs:List (Z u)} (J:ag B c=some (.row e u xs)) (b6:P.underlying T=some (.slice b7)):
  Co P ids o K B (fun v Kv=> ∃b:Bool,(b=true->xs=[])/\v= .c (.one (.d (.lit b)))/\Kv=⟨[c],[],[]⟩):=by
 rintro N C a w ⟨hn,H,ρ,F,aj,ar⟩ bt fJ Q cV;obtain⟨bh,i6,cs,dw,ji⟩:=aj.holds c _ J;have ae:a.eval x=(ρ c).ef:=ar.ev hx
 have dN:(execOp a.eval o).run P w= .ok (.value (.bool (ρ c).A.isNone)) w:=by
  simp only[execOp,ah,ae,bn.ef];have ao:a.eval (.const (.slice none 0 0))= .slice none 0 0:=rfl;have h:=Lib.run_eql_slice_nil (P:=P) w T b7 (ρ c).A (ρ c).n (ρ c).cap 0 0 b6;simp[ao,h,Result.andThen,eqGuard]
 unfold Oper.wp;rw[dN,Oper.upon_value];refine cV (.c (.one (.d (.lit (ρ c).A.isNone)))) ⟨[c],[],[]⟩ _ _ ⟨_,fun O=>?_,rfl,rfl⟩ ⟨ki.trans hn,kj.trans H,ρ,F,aj,ar.kk (fun e U=>by rw[hn];exact bt e U) rfl⟩;rcases dw.2 with⟨_,h⟩ |⟨g,cap,c9,h,_⟩
 .exact at9 h
 .have E:(ρ c).A=some ⟨g,0,none⟩:=by simp only[bn.ef] at h;injection h
  rw[E] at O
  cases O
end
end
section
def ho (x:D):bc where
 bo:=fun I F w p=>Holds (fun _=>p) I F w p (.cells [.d x])
 cp:=fun I F w I' w' p h U bh aN=>Holds.cp U bh aN (.cells [.d x]) (fun _ _=>rfl) h
theorem acS {c:Nat} {x:D}: ∀I F w p,jn c [(c,.cells [.d x])] I F w p->(ho x).bo I F w p:=by
 rintro I F w p ⟨ρ,ce,E,G,af,aW⟩;have h:=G c _ aA1;rw[E] at h
 have k5:F=ce c:=by
  funext b
  refine propext ((aW b).trans ⟨?_,fun g=>⟨c,_,by rw[cd,if_pos rfl],g⟩⟩);rintro⟨d,ch,e,g⟩;rw[cd] at e
  split at e
  .rename_i ao;rw[<-ao] at g;exact g
  .cases e
 rw[k5];exact Holds.cp (cm.refl _ _) (fun _ _=>rfl) (aq0 _) (.cells [.d x]) (fun d H=>by cases H) h
section
variable {P:Program} {ids:aC4} {K:aY} {B:az}
theorem CA {o:Oper} {T:TypeId} {x:Operand} {q b:Nat} {y:D} {L:List (Nat×bc)} {d:TypeDesc} (ah:o.op= .load T x) (b6:P.underlying T=some d) (H:d.isRow=false) (hx:a2 K x= .c (.one (.d (.aM (some b)))))
  (aT:ag B q=some (.aG (.bx L))) (cL:eu L b=some (ho y)) (N:Nat):bA P N ids o K B (.c (.one (.d y))) ⟨[q],[],[]⟩:=by
 have aA:x∈o.op.operands:=az1
 refine bA.val fun K' B' g1 g2 C ρ F a w aj ar=>?_
 have FT:=(g2 q ay6).trans aT;have bl:fM (bX C B' F w) w L (F q):=aj.holds q _ FT;obtain⟨cG,cN,p,cj,cT,eg,eR,uM⟩:=bl.out cL;have ay:a.eval x= .pointer (some ⟨b,0,none⟩):=ar.ev ((g1 x aA).trans hx);obtain⟨E,aE,eJ,G,af⟩:=eR;obtain⟨v,r,e,aW,bG⟩:=af;have bG:r=[]:=bG;subst bG e;rw[eg] at G;exact⟨v,E2 ah ay b6 H (oS G rfl),aW⟩
theorem Rp {o:Oper} {T fG b7:TypeId} {x:Operand} {u:bz} {xs:List (Z u)} (ah:o.op= .binOp .eql T x (.const (.slice none 0 0)) fG) (hx:a2 K x= .c (.one (.d (.co u xs)))) (b6:P.underlying T=some (.slice b7)):
  Co P ids o K B (fun v Kv=> ∃b:Bool,(b=true->xs=[])/\v= .c (.one (.d (.lit b)))/\Kv=⟨[],[],[]⟩):=by
 rintro N C a w ⟨hn,H,ρ,F,aj,ar⟩ bt fJ Q cV;obtain⟨A,cap,ae,G,af,aW⟩:gK (bX C B F w) w (.co u xs) (a.eval x):=ar.ev hx;injection ae with ae
 have dN:(execOp a.eval o).run P w= .ok (.value (.bool A.isNone)) w:=by
  simp only[execOp,ah,ae];have ao:a.eval (.const (.slice none 0 0))= .slice none 0 0:=rfl;have h:=Lib.run_eql_slice_nil (P:=P) w T b7 A (List.length xs) cap 0 0 b6;simp[ao,h,Result.andThen,eqGuard]
 unfold Oper.wp;rw[dN,Oper.upon_value];refine cV (.c (.one (.d (.lit A.isNone)))) ⟨[],[],[]⟩ _ _ ⟨_,fun O=>?_,rfl,rfl⟩ ⟨ki.trans hn,kj.trans H,ρ,F,aj,ar.kk (fun e U=>by rw[hn];exact bt e U) rfl⟩;rcases Nat.eq_zero_or_pos (List.length xs) with h |h
 .exact at9 h
 .obtain⟨b,q,eQ,_⟩:=aW h;rw[eQ] at O
  cases O
theorem acT {aS:dg} (bl:ec P aS) {o:Oper} {T et:TypeId} {te:ca} {x y aB:Operand} {u:bz} {xs:List (Z u)} {n:Int} (ah:o.op= .slice T x none (some y) (some aB)) (U:elemOf aS T=some (et,te)) (aN:te.size=aQ u)
  (hx:a2 K x= .c (.one (.d (.co u xs)))) (aD:a2 K y= .c (.one (.d (.int .i64 n)))) (ts:a2 K aB= .c (.one (.d (.int .i64 n)))) (au:0<=n) (E:n<=List.length xs) (N:Nat):
  bA P N ids o K B (.c (.one (.d (.co u (xs.take n.toNat))))) ⟨[],[],[]⟩:=by
 have m1:x∈o.op.operands:=az1
 have m2:y∈o.op.operands:=az1
 have m3:aB∈o.op.operands:=az1
 refine bA.val fun K' B' g1 g2 C ρ F a w aj ar=>?_
 obtain⟨A,cap,bm,c0,fQ,hY⟩:=ar.co ((g1 x m1).trans hx);injection bm with bm
 have ae:=ar.int ((g1 y m2).trans aD);have ao:=ar.int ((g1 aB m3).trans ts);obtain⟨b6,c8,ds,bv⟩:=pz bl U;have cC:(sizeOf et).run P w= .ok (aQ u) w:=by simp[sizeOf,typeInfo,bv.jY,bv.size,aN]
 have q:n<=(cap:Int):=az2
 have O:(Instr.sliceBounds true (List.length xs) cap none (some (a.eval y)) (some (a.eval aB))).run P w= .ok (0,n.toNat,n.toNat) w:=by
  simp[Instr.sliceBounds,Instr.sliceBound,asIntOf,ae,ao,au,q];intro bt;omega
 have bV:List.length (xs.take n.toNat)=n.toNat:=aA2
 refine⟨.slice (if n.toNat=0 then A else A.map (·.add (0*aQ u))) (n.toNat - 0) (n.toNat - 0),?_,?_⟩
 .simp only[execOp,ah,Sem.run_bind,Instr.sliceAt,Instr.slice,run_underlying b6,Result.andThen_ok,bm,Option.map_none,av4,O,cC,Sem.run_pure]
 .refine⟨_,n.toNat,by rw[bV];rfl,by rw[bV];exact aq0 _,ay4,fun k9=>?_⟩;rw[bV] at k9;obtain⟨b,cF,rfl,a8,H⟩:=hY ay4;refine⟨b,cF,by rw[if_neg ay4,Nat.zero_mul];rfl,a8,fun i x py=>?_⟩
  have Jy:fE (α:=Z u) xs i=some x:=by
   unfold fE at py⊢;rw[au6] at py
   split at py
   .exact py
   .cases py
  exact H i x Jy
theorem di.box (s c q:Nat) {x:D} {L:List (Nat×bc)} (aw:dI K s= .c (.one (.ptr c 0))) (J:ag B c=some (.cells [.d x])) (a7:c≠q) (aT:ag B q=some (.aG (.bx L))):
  di ids K B (fun b:Nat=>(s,.c (.one (.d (.aM (some b)))))::K) (fun b=>(q,.aG (.bx ((b,ho x)::L)))::gS ((c,.aG ((ho x).at b))::(c,.aG (ho x))::gS B c) c):=by
 intro N C a w h;have E:=ac.close (ids:=ids) (K:=K) (B:=B) c [(c,.cells [.d x])] (o:=ho x) ⟨J,trivial⟩ (by simp[cr]) acS N C a w h;obtain⟨b,G⟩:=di.name (ids:=ids) s c (o:=ho x) aw aA1 N C a w E;refine⟨b,?_⟩
 have Kw:ag ((c,ba.aG ((ho x).at b))::(c,.aG (ho x))::pD (cr [(c,ba.cells [.d x])]) B) q=some (.aG (.bx L)):=by
  rw[cd,if_neg a7,cd,if_neg a7];show ag (gS B c) q=_;rw[hA,if_neg a7];exact aT
 exact ac.put (ids:=ids) q c (o:=ho x) (b:=b) (L:=L) a7 Kw aA1 N C a w G
end
theorem bw.mR {P:Program} {N:Nat} {ids:aC4} {K:aY} {B:az} {c:Code} {Q:BI} (f:Nat) (fa:N<=1000000) (h:bw P N ids c ((1000000+f,.undef)::K) B Q):bw P N ids c K B Q:=by
 intro r ax C iK aT a w aw;refine h r ax C iK aT a w ?_;obtain⟨hn,H,ρ,F,aj,ar⟩:=aw;refine⟨hn,H,ρ,F,aj,fun s=>?_⟩;rw[kD]
 split
 .rename_i e;subst e;show a.tmps.getD (1000000+f) undef=undef;rw[Array.getD_eq_getD_getElem?,Array.getElem?_eq_none ay4];rfl
 .exact ar s
theorem acU {P:Program} {ids:aC4} {K:aY} {B:az} {o:Oper} {f:FuncId} {c:Call} {xs:List Operand} {aJ:az} {res:aP} {aO:az} (ah:o.op= .call c) (E:c.callee= .value (.func f)) (G:c.args.toList=xs) (hf:Fn P f (xs.map (a2 K)) aJ [] res aO) (hZ:k2 B aJ) (bv:mF aJ [] aO=true) (lO: ∀c,ag aO c=ag aJ c) (N:Nat):
  bA P N ids o K B res ⟨cr aJ,[],[]⟩:=by
 obtain⟨v,e,⟨rfl,rfl⟩,ap,_⟩:cH P N ids o K B (fun v e=>v=res/\e=⟨cr aJ,[],iI aJ aO⟩):=Qa ah E G ⟨aJ,[],res,aO,hf,hZ,by rw[bv];rfl,by rw[sd];exact⟨rfl,rfl⟩⟩;intro K' B' g1 g2 cX C a w aw bt fJ Q cV;refine ap K' B' g1 g2 cX C a w aw bt fJ Q fun a' w' d6=>cV a' w' (d6.congr (fun _=>rfl) fun d=>?_)
 show ag B' d=ag (hk (iI aJ aO) B') d;rw[Fj aJ aJ [] aO B' bv,lO]
 cases H:ag aJ d with
 |none=>
  simp only;rw[if_neg fun aa=>by obtain⟨ch,h⟩:=gv.1 aa;rw[H] at h;cases h]
 |some ch=>exact(g2 d (gv.2 ⟨ch,H⟩)).trans (kI hZ H)
theorem bw.acV {P:Program} {N:Nat} {ids:aC4} {K:aY} {B:az} {c:Code} {Q:BI} (d:Nat) (fa:N<=1000000) (h:bw P N ids c ((1000000+(1000000+d),.undef)::K) B Q):bw P N ids c K B Q:=bw.mR (1000000+d) fa h
theorem acW {P:Program} {ids:aC4} {K:aY} {B:az} {o:Oper} {T e d:Nat} {x:Operand} {s:aC3} {c8:TypeInfo} (ah:o.op= .buildSlice T 1 #[(0,x)]) (b6:P.underlying T=some (.slice e)) (aF:P.info? e=some c8) (aN:c8.zero=some (.string ⟨#[]⟩)) (aw:c8.size=1)
  (hx:a2 K x= .c (.one (.d (.str s)))) (N:Nat):bA P N ids o K B (.c (.one (.own d))) ⟨[],[d],[(d,some (.row e .str [s]))]⟩:=by
 have m1:x∈o.op.operands:=az1
 refine bA.make (fun d h=>BS h) fun K' B' g1 g2 C ρ F a w aj ar hn=>?_
 have ae:a.eval x= .string ⟨List.toArray s⟩:=ar.ev ((g1 x m1).trans hx);refine⟨.slice (some ⟨w.heap.size,0,none⟩) 1 1,w.alloc (.cells (List.toArray [.string ⟨List.toArray s⟩]) e),⟨w.heap.size,some ⟨w.heap.size,0,none⟩,1,1⟩,fun b=>b=w.heap.size,?_,tb w _,fun b O=>(by subst O;exact⟨aq0 _,ay6⟩),fun I U O=>⟨⟨?_,?_,[.string ⟨List.toArray s⟩],?_,fun i y aD=>?_⟩,?_⟩⟩
 .have dN:=run_buildSlice (P:=P) w T e 1 (#[(0,x)].map fun p=>(p.1,a.eval p.2)) (List.toArray [.string ⟨List.toArray s⟩]) c8 (.string ⟨#[]⟩) b6 aF aN (by rw[aw];decide)
   (by rw[aw];decide) (by
    rw[aw];have ev:(Value.string ⟨List.toArray s⟩).cells= #[.string ⟨List.toArray s⟩]:=rfl;simp[ae,Instr.fill,ev];rw[show Array.range 1= #[0] from rfl];simp)
  unfold execOp;simp only[ah,Sem.run_bind,dN,Result.andThen_ok];rfl
 .intro b;show b=w.heap.size↔some w.heap.size=some b;rw[aq4];exact eq_comm
 .intro b O;have O:some w.heap.size=some b:=O;injection O with O
  exact O.symm
 .exact Fa w e 1 1 [.string ⟨List.toArray s⟩] rfl ay5
 .match i with
  |0=>
   have aD:some s=some y:=aD;injection aD with aD
   subst aD;rfl
  |i+1=>
   have aD:(none:Option aC3)=some y:=aD
   cases aD
 .simp only[cw,gC,dY,c7];rfl
end
section
abbrev c1 (n:Int):Prop:= -9223372036854775808<=n/\n<=9223372036854775807
theorem aC {P:Prop} (h:P:=by repeat' (first |exact trivial |exact rfl |refine⟨?_,?_⟩)):P:=h
theorem av {p:az->aC4->aP->az->Prop} {q:az->Prop} {r:az->aC4->az->Prop} {k:az->aC4->aP->az->Prop} {a:az} {b:aC4} {c:aP} {d:az} (s:p a b c d) (af:k a b c d) (E:q a:=by repeat' (first |exact trivial |exact rfl |refine⟨?_,?_⟩)) (G:r a b d:=by rfl): ∃a b c d,p a b c d/\q a/\r a b d/\k a b c d:=⟨_,_,_,_,s,E,G,af⟩
theorem lP {p: ∀(X:Type),az->aC4->(X->aP)->(X->az)->Prop} {q:az->Prop} {r:aC4->Prop} {s: ∀(X:Type),az->aC4->(X->az)->X->Prop} {k: ∀(X:Type),az->aC4->(X->aP)->(X->az)->X->Prop} {X:Type} {a:az} {b:aC4} {c:X->aP} {d:X->az} (h:p X a b c d) (aW: ∀g,k X a b c d g)
 (E:q a:=by repeat' (first |exact trivial |exact rfl |refine⟨?_,?_⟩)) (G:r b:=by rfl) (af: ∀g,s X a b d g:=by exact fun _=>rfl): ∃(X:Type) (a:az) (b:aC4) (c:X->aP) (d:X->az),p X a b c d/\q a/\r b/\(∀g,s X a b d g)/\ ∀g,k X a b c d g:=⟨_,_,_,_,_,h,E,G,af,aW⟩
theorem ws {P:Program} {ids:aC4} {K:aY} {B:az} {o:Oper} {f:FuncId} {c:Call} {xs:List Operand} {aJ:az} {res:aP} {aO:az} {q:fP->Prop} {k:aP->fP->Prop} (ah:o.op= .call c) (E:c.callee= .value (.func f)) (G:c.args.toList=xs) (hf:Fn P f (xs.map (a2 K)) aJ [] res aO) (aa:k res ⟨cr aJ,[],[]⟩)
 (hZ:k2 B aJ:=by repeat' (first |exact trivial |exact rfl |refine⟨?_,?_⟩)) (bv:mF aJ [] aO=true:=by rfl) (lO: ∀c,ag aO c=ag aJ c:=by exact fun _=>rfl) (aT:q ⟨cr aJ,[],[]⟩:=by rfl): ∃v e,(∀N,bA P N ids o K B v e)/\q e/\k v e:=⟨_,_,fun N=>acU ah E G hf hZ bv lO N,aT,aa⟩
theorem aU (stops:aC4) {N:Nat} {f:FuncId} {fn:Func} {c:Code} {args:List aP} {aJ:az} {bb:aC4} {res:aP} {aO:az} {jl:List ResultVar} (hf:Tryz.prog.funcs[f]? =some fn) (h:jB Tryz.prog wh.types N (cr aJ) stops c (oY 0 args) aJ (Fq wh.types (cr aJ) bb jl res aO))
 (O:fn.body=some c:=by exact rfl) (hn:fn.ntmps=N:=by exact rfl) (e9:Nat.ble args.length N=true:=by exact rfl) (xH:fn.results.toList=jl:=by exact rfl) (fT:jA Tryz.prog f=true:=by kernel_rfl) (J:jF Tryz.prog N c=true:=by kernel_rfl):Fn Tryz.prog f args aJ bb res aO:=Fn.of e3 stops args aJ bb res aO hf O hn fT J e9 (zL e3) xH h
theorem hO (stops:aC4) {N:Nat} {f:FuncId} {fn:Func} {c:Code} {args:List aP} {aJ:az} {bb:aC4} {X:Type} {res:X->aP} {aO:X->az} {jl:List ResultVar} (hf:Tryz.prog.funcs[f]? =some fn) (h:jB Tryz.prog wh.types N (cr aJ) stops c (oY 0 args) aJ (fun e K B=> ∃g,Fq wh.types (cr aJ) bb jl (res g) (aO g) e K B))
 (O:fn.body=some c:=by exact rfl) (hn:fn.ntmps=N:=by exact rfl) (e9:Nat.ble args.length N=true:=by exact rfl) (xH:fn.results.toList=jl:=by exact rfl) (fT:jA Tryz.prog f=true:=by kernel_rfl) (J:jF Tryz.prog N c=true:=by kernel_rfl):cx Tryz.prog f args aJ bb res aO:=cx.of e3 stops args aJ bb res aO hf O hn fT J e9 (zL e3) xH h
theorem bu (stops:aC4) {N:Nat} {ids:aC4} {K K':aY} {B B':az} {Q:oP->aY->az->Prop} {c:Code} (h:ac ids K B K' B') (cq:jB Tryz.prog wh.types N ids stops c K' B' Q) (J:jF Tryz.prog N c=true:=by kernel_rfl):bw Tryz.prog N ids c K B Q:=bw.go e3 (zL e3) stops J h cq
theorem d2 (stops:aC4) {N:Nat} {ids:aC4} {b:Code} {X:Type} (la:X->aY) (g9:X->az) (inv:X->Prop) (uC:X->Nat) (h0:X) {K:aY} {B:az} {Q:oP->aY->az->Prop} (au:inv h0) (g8:ac ids K B (la h0) (g9 h0))
 (h: ∀x,inv x->jB Tryz.prog wh.types N ids stops b (la x) (g9 x) (fun e K B=>match e with
  | .g7=> ∃y,inv y/\uC y < uC x/\ac ids K B (la y) (g9 y)
  | .ex i=>Q (.ex i) K B
  | .ret=>Q .ret K B)) (J:jF Tryz.prog N b=true:=by kernel_rfl):bw Tryz.prog N ids (.loop b) K B Q:=bw.loop e3 (zL e3) stops J la g9 inv uC h0 au g8 h
theorem cM {ids:aC4} {K:aY} {B:az} (K':aY) (B':az) (E:zF K K':=by repeat' (first |exact trivial |exact rfl |refine⟨?_,?_⟩)) (G:k2 B B':=by repeat' (first |exact trivial |exact rfl |refine⟨?_,?_⟩)):ac ids K B K' B':=ac.sub E G
theorem br {ids:aC4} {K:aY} {B:az}:ac ids K B K B:=ac.refl _ _
theorem sx {p:aY->az->Prop} {bo:Type} {q:aY->az->bo->Prop} {s:bo->Prop} {t:az->Prop} {u:Prop} {K:aY} {B:az} {r:bo} (E:p K B) (G:q K B r) (af:s r) (aW:t B) (bG:u): ∃K B r,p K B/\q K B r/\s r/\t B/\u:=⟨K,B,r,E,G,af,aW,bG⟩
theorem eG {p:aY->az->Prop} {bo:Type} {q:aY->az->bo->Prop} {s:bo->Prop} {t:az->Prop} {u:Prop} {K:aY} {B:az} {r:bo} (E:p K B) (G:q K B r) (af:s r) (aW:t B:=by repeat' (first |exact trivial |exact rfl |refine⟨?_,?_⟩)) (bG:u:=by exact rfl): ∃K B r,p K B/\q K B r/\s r/\t B/\u:=⟨K,B,r,E,G,af,aW,bG⟩
theorem bg {p:aY->az->Prop} {bo:Type} {q:aY->az->bo->Prop} {s:bo->Prop} {t:az->Prop} {u:Prop} {K:aY} {B:az} {r:bo} (E:p K B:=by exact ac.refl _ _) (G:q K B r:=by exact rfl) (af:s r:=by repeat' (first |exact trivial |exact rfl |refine⟨?_,?_⟩)) (aW:t B:=by repeat' (first |exact trivial |exact rfl |refine⟨?_,?_⟩)) (bG:u:=by exact rfl): ∃K B r,p K B/\q K B r/\s r/\t B/\u:=⟨K,B,r,E,G,af,aW,bG⟩
theorem dt {p q A B:Prop} (k:B) (h: ¬p:=by decide):(p->A)/\(q->B):=⟨fun x=>absurd x h,fun _=>k⟩
theorem fb {p q A B:Prop} (k:A) (h: ¬q:=by decide):(p->A)/\(q->B):=⟨fun _=>k,fun x=>absurd x h⟩
end
section
def e5 {aI aK:bz} (es:List (Z aI×Z aK)):Prop:=es.Pairwise fun p q=>f0 aI p.1 q.1=false
theorem acX (a b:Int):zc a b=true↔a=b:=decide_eq_true_iff
theorem acY (a b:aC3):zd a b=true↔a=b:=decide_eq_true_iff
theorem rq {k:IntKind} (a b:Z (.int k)):f0 (.int k) a b=true↔a=b:=acX a b
theorem qr (a b:Z .str):f0 .str a b=true↔a=b:=acY a b
section
variable {aI aK:bz} (cL: ∀a b:Z aI,f0 aI a b=true↔a=b)
include cL
theorem rr {a b:Z aI} (h:a≠b):f0 aI a b=false:=by
 cases e:f0 aI a b with
 |false=>rfl
 |true=>exact absurd ((cL a b).1 e) h
theorem CB (a:Z aI):f0 aI a a=true:=(cL a a).2 rfl
theorem zV (k:Z aI) (x:Z aK): ∀(es:List (Z aI×Z aK)),bY (dx es k x) k=some x/\ ∀j,j≠k->bY (dx es k x) j=bY es j
 | []=>by
  refine⟨?_,fun j V=>?_⟩
  .simp only[dx,bY,CB cL]
  .simp only[dx,bY,rr cL V]
 |p::es=>by
  obtain⟨E,G⟩:=zV k x es;unfold dx
  cases e:f0 aI k p.1 with
  |true=>
   have ae:=(cL _ _).1 e;simp only;refine⟨by simp only[bY,CB cL],fun j V=>?_⟩;simp only[bY,rr cL V,rr cL (fun h=>V (h.trans ae.symm))]
  |false=>
   simp only;refine⟨by simp only[bY,e,E],fun j V=>?_⟩;simp only[bY,G j V]
theorem Rq {k:Z aI}: ∀{es:List (Z aI×Z aK)},(∀p,p∈es->f0 aI p.1 k=false)->bY es k=none
 | [],_=>rfl
 |p::es,h=>by
  have E:=h p (ar2 ..);have:f0 aI k p.1=false:=rr cL fun e=>by rw[e,CB cL] at E;cases E
  simp only[bY,this];exact Rq fun q aT=>h q (aq2 _ aT)
theorem CC (k:Z aI): ∀(es:List (Z aI×Z aK)),e5 es->bY (gM es k) k=none/\ ∀j,j≠k->bY (gM es k) j=bY es j
 | [],_=>⟨rfl,fun _ _=>rfl⟩
 |p::es,hn=>by
  obtain⟨cU,dU⟩:=List.pairwise_cons.1 hn;obtain⟨E,G⟩:=CC k es dU;unfold gM
  cases e:f0 aI k p.1 with
  |true=>
   have ae:=(cL _ _).1 e;subst ae;simp only;refine⟨Rq cL fun q aT=>?_,fun j V=>?_⟩
   .have:=cU q aT;exact rr cL fun e=>by rw[<-e,CB cL] at this;cases this
   .simp only[bY,rr cL V]
  |false=>
   simp only;refine⟨by simp only[bY,e,E],fun j V=>?_⟩;simp only[bY,G j V]
omit cL in
theorem Kx {k:Z aI} {x:Z aK}: ∀{es:List (Z aI×Z aK)} {q:Z aI×Z aK},q∈dx es k x->q=(k,x)\/q∈es
 | [],q,h=>by
  unfold dx at h;exact .inl (ar5.1 h)
 |p::es,q,h=>by
  unfold dx at h
  split at h
  .rcases aq5.1 h with h |h
   .exact .inl h
   .exact .inr (aq2 _ h)
  .rcases aq5.1 h with h |h
   .exact .inr (by rw[h];exact ar2 ..)
   .exact(Kx h).imp id (aq2 _)
omit cL in
theorem zW {k:Z aI}: ∀{es:List (Z aI×Z aK)} {q:Z aI×Z aK},q∈gM es k->q∈es
 | [],q,h=>by cases h
 |p::es,q,h=>by
  unfold gM at h
  split at h
  .exact aq2 _ h
  .rcases aq5.1 h with h |h
   .rw[h];exact ar2 ..
   .exact aq2 _ (zW h)
theorem e5.put {k:Z aI} {x:Z aK}: ∀{es:List (Z aI×Z aK)},e5 es->e5 (dx es k x)
 | [],_=>List.pairwise_singleton _ _
 |p::es,hn=>by
  obtain⟨cU,dU⟩:=List.pairwise_cons.1 hn;unfold dx
  split
  .rename_i e;have ae:=(cL _ _).1 e;refine List.pairwise_cons.2 ⟨fun q aT=>?_,dU⟩;have:=cU q aT;simp only;rw[ae];exact this
  .rename_i e;refine List.pairwise_cons.2 ⟨fun q aT=>?_,e5.put dU⟩;rcases Kx aT with rfl |aT
   .simp only;exact rr cL fun h=>by rw[h,CB cL] at e;cases e
   .exact cU q aT
omit cL in
theorem e5.ng {k:Z aI}: ∀{es:List (Z aI×Z aK)},e5 es->e5 (gM es k)
 | [],h=>h
 |p::es,hn=>by
  obtain⟨cU,dU⟩:=List.pairwise_cons.1 hn;unfold gM
  split
  .exact dU
  .exact List.pairwise_cons.2 ⟨fun q aT=>cU q (zW aT),e5.ng dU⟩
theorem Rr {k:Z aI} {x:Z aK}: ∀{es:List (Z aI×Z aK)},bY es k=some x->(k,x)∈es
 | [],h=>by cases h
 |p::es,h=>by
  unfold bY at h
  split at h
  .rename_i e;injection h with h
   have ae:=(cL _ _).1 e;subst h ae;exact ar2 ..
  .exact aq2 _ (Rr h)
end
end
end Go.Proofs.YtkfbeijmgggkmaaGreat
