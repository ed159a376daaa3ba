/-
A part of the proof of this claim: lemmas, with no condition beyond what each says.
-/
import Derived.Maps.RangeRun
import Derived.Test.YtkfbeijmgggkmaaGreatZc7
set_option linter.unusedVariables false
set_option linter.unusedSimpArgs false
set_option maxRecDepth 10000
set_option maxHeartbeats 4000000
namespace Go.Proofs.YtkfbeijmgggkmaaGreat
open Go.RowKit Go.Proofs
section
def iO (c:Nat) (bp:ay) (I F:Nat->Prop) (w:World) (p:bo):Prop:=
 ∃(ρ:Nat->bo) (b9:Nat->Nat->Prop),ρ c=p/\(∀d ch,aj bp d=some ch->Holds ρ I (b9 d) w (ρ d) ch)/\
  (∀d cT ch ch' b,aj bp d=some ch->aj bp cT=some ch'->d≠cT->b9 d b-> ¬b9 cT b)/\ ∀b,F b↔ ∃d ch,aj bp d=some ch/\b9 d b
def bg.i9 (c:Nat) (bp:ay):bg where
 bn:=iO c bp
 ck:=fun I F w I' w' p ⟨ρ,b9,E,G,al,aW⟩ U bd aR=>⟨ρ,b9,E,fun d ch H=>Holds.ck U (fun b O=>bd b ((aW b).2 ⟨d,ch,H,O⟩)) aR ch (fun _ _=>rfl) (G d ch H),al,aW⟩
def bg.at (o:bg) (b:Nat):bg where
 bn:=fun I F w p=>p.bh=b/\o.bn I F w p
 ck:=fun I F w I' w' p h U bd aR=>⟨h.1,o.ck I F w I' w' p h.2 U bd aR⟩
def fo (I:Nat->Prop) (w:World):List (Nat×bg)->(Nat->Prop)->Prop
 | [],F=> ∀b,¬F b
 |(a,o)::L,F=> ∃(cz cN:Nat->Prop) (p:bo),(∀b,F b↔cz b\/cN b)/\(∀b,cz b-> ¬cN b)/\p.bh=a/\o.bn I cz w p/\fo I w L cN
theorem fo.ck {I I':Nat->Prop} {w w':World} (U:cj I w I' w') (aR:w.heap.size<=w'.heap.size): ∀{L:List (Nat×bg)} {F:Nat->Prop},(∀b,F b->w'.heap[b]? =w.heap[b]?)->fo I w L F->fo I' w' L F
 | [],_,_,h=>h
 |(a,o)::L,F,bd,⟨cz,cN,p,E,G,al,aW,bG⟩=>⟨cz,cN,p,E,G,al,o.ck _ _ _ _ _ _ aW U (fun b O=>bd b ((E b).2 (.inl O))) aR,bG.ck U aR (fun b O=>bd b ((E b).2 (.inr O)))⟩
def bg.bw (L:List (Nat×bg)):bg where
 bn:=fun I F w _=>fo I w L F
 ck:=fun I F w I' w' p h U bd aR=>h.ck U aR bd
def eB:List (Nat×bg)->Nat->Option bg
 | [],_=>none
 |(a,o)::L,b=>if a=b then some o else eB L b
def ff:List (Nat×bg)->Nat->bg->List (Nat×bg)
 | [],_,_=>[]
 |(a,o)::L,b,o'=>if a=b then(a,o')::L else(a,o)::ff L b o'
theorem fo.out {I:Nat->Prop} {w:World} {b:Nat} {o:bg}: ∀{L:List (Nat×bg)} {F:Nat->Prop},eB L b=some o->fo I w L F-> ∃(cz cN:Nat->Prop) (p:bo),(∀x,F x↔cz x\/cN x)/\(∀x,cz x-> ¬cN x)/\p.bh=b/\o.bn I cz w p/\
  ∀(I':Nat->Prop) (w':World) (o':bg) (wl:Nat->Prop) (i5:bo),cj I w I' w'->w.heap.size<=w'.heap.size->(∀x,cN x->w'.heap[x]? =w.heap[x]?)->i5.bh=b->o'.bn I' wl w' i5->(∀x,wl x-> ¬cN x)->fo I' w' (ff L b o') (fun x=>wl x\/cN x)
 | [],F,h,_=>by cases h
 |(a,q)::L,F,h,⟨o7,qz,p,E,G,al,aW,bG⟩=>by
  unfold eB at h
  split at h
  .rename_i e;injection h with h
   subst h;refine⟨o7,qz,p,E,G,al.trans e,aW,fun I' w' o' wl i5 U aR hf ae ag H=>?_⟩;unfold ff;rw[if_pos e];exact⟨wl,qz,i5,fun x=>Iff.rfl,H,ae.trans e.symm,ag,bG.ck U aR hf⟩
  .rename_i e;obtain⟨cz,cN,d6,g1,g2,c2,jC,Cv⟩:=fo.out h bG;refine⟨cz,fun x=>o7 x\/cN x,d6,fun x=>?_,fun x hx=>?_,c2,jC,fun I' w' o' wl i5 U aR hf ae ag H=>?_⟩
   .rw[E,g1];constructor
    .rintro(h |h |h)
     .exact .inr (.inl h)
     .exact .inl h
     .exact .inr (.inr h)
    .rintro(h |h |h)
     .exact .inr (.inl h)
     .exact .inl h
     .exact .inr (.inr h)
   .rintro(h |h)
    .exact G x h ((g1 x).2 (.inl hx))
    .exact g2 x hx h
   .unfold ff;rw[if_neg e];refine⟨o7,fun x=>wl x\/cN x,p,fun x=>?_,fun x hx=>?_,al,q.ck _ _ _ _ _ _ aW U (fun x hx=>hf x (.inl hx)) aR,Cv I' w' o' wl i5 U aR (fun x hx=>hf x (.inr hx)) ae ag (fun x hx h=>H x hx (.inr h))⟩
    .constructor
     .rintro(h |h |h)
      .exact .inr (.inl h)
      .exact .inl h
      .exact .inr (.inr h)
     .rintro(h |h |h)
      .exact .inr (.inl h)
      .exact .inl h
      .exact .inr (.inr h)
    .rintro(h |h)
     .exact H x h (.inl hx)
     .exact G x hx ((g1 x).2 (.inr h))
theorem fo.add {I:Nat->Prop} {w:World} {L:List (Nat×bg)} {F cz:Nat->Prop} {o:bg} {p:bo} (h:fo I w L F) (ag:o.bn I cz w p) (H: ∀x,cz x-> ¬F x):fo I w ((p.bh,o)::L) (fun x=>cz x\/F x):=
 ⟨cz,F,p,fun _=>Iff.rfl,H,rfl,ag,h⟩
theorem cA.fn {P:Program} {f:FuncId} {args:List aO} {aI:ay} {bb:aA1} {res:aO} {aN:ay} (h:cA P f args aI bb (fun _:Unit=>res) (fun _=>aN)):Fn P f args aI bb res aN:=
 ⟨h.1,fun ρ F I w bW b0 ca a3 a4 a5 gD=>(h.2 ρ F I w bW b0 ca a3 a4 a5 gD).mono fun e w' ⟨_,q⟩=>q⟩
theorem cA.bw {P:Program} {f:FuncId} {c q b:Nat} {args:List aO} {aI:ay} {bb:aA1} {X:Type} {res:X->aO} {aN:X->ay} {o:bg} {o':X->bg} {L:List (Nat×bg)}
  (h:cA P f (.c (.one (.ptr c 0))::args) ((c,.aF o)::aI) bb res (fun g=>(c,.aF (o' g))::aN g)) (cH:eB L b=some o)
  (E:(args.all fun v=> !v.has c)=true) (G:kw c aI=true/\(aj aI q).isNone=true) (al:(bb.contains c||bb.contains q)=false) (aW: ∀g,(kw c (aN g)&&(aj (aN g) q).isNone&& !(res g).has c)=true):
  cA P f (.c (.one (.d (.aL (some b))))::args) ((q,.aF (.bw L))::aI) bb res (fun g=>(q,.aF (.bw (ff L b (o' g))))::aN g):=by
 obtain⟨f3,h⟩:=h;refine⟨f3,fun ρ F I w bW a2 c0 bd eG bZ dx=>?_⟩;have aP:aj ((q,ba.aF (.bw L))::aI) q=some (.aF (.bw L)):=ax6
 have bl:fo I w L (F q):=c0 q _ aP;obtain⟨cz,cN,p,ce,cR,er,eQ,uW⟩:=bl.out cH;obtain⟨acG,acH⟩:=uB G.1;have uX:aj aI q=none:=by simpa using G.2
 have e4: ∀{d ch},aj aI d=some ch->d≠q/\d≠c/\aj ((q,ba.aF (.bw L))::aI) d=some ch:=fun {d ch} H=>by
  have af:d≠q:=fun e=>by rw[e,uX] at H;cases H
  exact⟨af,fun e=>(by rw[e,acG] at H;cases H),by rw[cd,if_neg (Ne.symm af)];exact H⟩
 have acI: ∀(v:aO),v.has c=false-> ∀d,v.has d=true->dc ρ c p d=ρ d:=fun v aA d H=>dm _ _ (fun e=>by rw[e,aA] at H;cases H)
 match bW,bZ with
 |v0::bW,bZ=>
  have xX:v0= .pointer (some ⟨b,0,none⟩):=dx 0 _ v0 rfl rfl
  have iP: ∀{d ch},aj ((c,ba.aF o)::aI) d=some ch->(d=c/\ch= .aF o)\/(d≠c/\aj aI d=some ch):=fun {d ch} H=>by
   rw[cd] at H
   split at H
   .rename_i e;injection H with H;exact .inl ⟨e.symm,H.symm⟩
   .rename_i e;exact .inr ⟨Ne.symm e,H⟩
  refine(h (dc ρ c p) (dc F c cz) I w (v0::bW) a2 ?_ ?_ ?_ (by simpa using bZ) ?_).mono ?_
  .intro d ch H;rcases iP H with⟨rfl,rfl⟩ |⟨e,H⟩
   .rw[dd,dd];exact eQ
   .rw[dm _ _ e,dm _ _ e];exact Holds.ck (cj.refl _ _) (fun _ _=>rfl) (aq4 _) ch (fun j V=>dm _ _ (fun b6=>by rw[b6,acH d ch H] at V;cases V)) (c0 d ch (e4 H).2.2)
  .intro d ch H x hx;rcases iP H with⟨rfl,rfl⟩ |⟨e,H⟩
   .rw[dd] at hx;exact bd q _ aP x ((ce x).2 (.inl hx))
   .rw[dm _ _ e] at hx;exact bd d ch (e4 H).2.2 x hx
  .intro d cT ch ch' x H dn a6 hx dM;rcases iP H with⟨JV,_⟩ |⟨e,KC⟩
   .rcases iP dn with⟨KD,_⟩ |⟨b6,F1⟩
    .exact a6 (JV.trans KD.symm)
    .rw[JV,dd] at hx;rw[dm _ _ b6] at dM;exact eG q cT _ ch' x aP (e4 F1).2.2 (Ne.symm (e4 F1).1) ((ce x).2 (.inl hx)) dM
   .rw[dm _ _ e] at hx;rcases iP dn with⟨KD,_⟩ |⟨b6,F1⟩
    .rw[KD,dd] at dM;exact eG q d _ ch x aP (e4 KC).2.2 (Ne.symm (e4 KC).1) ((ce x).2 (.inl dM)) hx
    .rw[dm _ _ b6] at dM;exact eG d cT ch ch' x (e4 KC).2.2 (e4 F1).2.2 a6 hx dM
  .intro i v x aA hx
   match i with
   |0=>
    simp only[ar9,aq8] at aA hx;subst aA hx;show v0=_;rw[dd,er];exact xX
   |i+1=>
    have o0:args[i]? =some v:=ay1
    have:=as9.1 E v (List.mem_of_getElem? o0);exact cx.mono (cj.refl _ _) v x (acI v (by simpa using this)) (dx (i+1) v x ay1 hx)
  .rintro e w' ⟨g,x,ρ',F',rfl,cE,dr,I',jl,gL,lQ,aq,ip,sF⟩;have aY:=aW g;simp only[vj,Bool.not_eq_true'] at aY;obtain⟨⟨g1,g2⟩,c2⟩:=aY;obtain⟨m1,m2⟩:=uB g1;have Cw:aj (aN g) q=none:=by simpa using g2
   simp only[Bool.or_eq_false_iff] at al;have j0:c∉bb:=fun bj=>by have:=at2.2 bj;rw[al.1] at this;cases this
   have aqd:q∉bb:=fun bj=>by have:=at2.2 bj;rw[al.2] at this;cases this
   have oa:aj ((c,ba.aF (o' g))::aN g) c=some (.aF (o' g)):=ax6
   have nr: ∀{d ch},aj (aN g) d=some ch->d≠c/\d≠q/\aj ((c,ba.aF (o' g))::aN g) d=some ch:=fun {d ch} H=>by
    have af:d≠c:=fun e=>by rw[e,m1] at H;cases H
    exact⟨af,fun e=>(by rw[e,Cw] at H;cases H),by rw[cd,if_neg (Ne.symm af)];exact H⟩
   have mX: ∀y,(∃d ch,aj ((c,ba.aF o)::aI) d=some ch/\dc F c cz d y)-> ∃d ch,aj ((q,ba.aF (.bw L))::aI) d=some ch/\F d y:=by
    rintro y ⟨d,ch,H,aD⟩;rcases iP H with⟨rfl,rfl⟩ |⟨e,H⟩
    .rw[dd] at aD;exact⟨q,_,aP,(ce y).2 (.inl aD)⟩
    .rw[dm _ _ e] at aD;exact⟨d,ch,(e4 H).2.2,aD⟩
   have i6: ∀y,cN y-> ¬ ∃d ch,aj ((c,ba.aF o)::aI) d=some ch/\dc F c cz d y:=by
    rintro y aD ⟨d,ch,H,ed⟩;rcases iP H with⟨rfl,rfl⟩ |⟨e,H⟩
    .rw[dd] at ed;exact cR y ed aD
    .rw[dm _ _ e] at ed;exact eG q d _ ch y aP (e4 H).2.2 (Ne.symm (e4 H).1) ((ce y).2 (.inr aD)) ed
   have sG: ∀y,cN y->y < w.heap.size/\ ¬I y:=fun y aD=>bd q _ aP y ((ce y).2 (.inr aD))
   have mW: ∀y,cN y->w'.heap[y]? =w.heap[y]? :=fun y aD=>cE.block y (sG y aD).1 (i6 y aD)
   have tO: ∀d ch y,aj ((c,ba.aF (o' g))::aN g) d=some ch->F' d y-> ¬cN y:=fun d ch y H aD Cx=>by
    rcases(aq d ch H y aD).2.2 with h |h
    .exact i6 y Cx h
    .have:=(sG y Cx).1;omega
   have acJ:ρ' c=p:=by rw[dr c j0,dd]
   have o1:=uW I' w' (o' g) (F' c) (ρ' c) jl cE.size mW (by rw[acJ];exact er) (lQ c _ oa) (fun y aD=>tO c _ y oa aD);refine⟨g,x,dc ρ' c (ρ c),fun d=>if d=q then(fun y=>F' c y\/cN y) else F' d,rfl,cE.mono fun y _ aD=>mX y aD,fun d H=>?_,I',jl,fun y aD=>⟨(gL y aD).1,?_⟩,?_,?_,?_,?_⟩
   .by_cases e:d=c
    .subst e;rw[dd]
    .rw[dm _ _ e,dr d H,dm _ _ e]
   .rcases(gL y aD).2 with h |h |h
    .exact .inl h
    .exact .inr (.inl (mX y h))
    .exact .inr (.inr h)
   .intro d ch H;rw[cd] at H
    split at H
    .rename_i e;injection H with H
     subst H e;simp only[if_true];exact o1
    .rename_i e;obtain⟨af,ao,bm⟩:=nr H;simp only[if_neg ao];rw[dm _ _ af];exact Holds.ck (cj.refl _ _) (fun _ _=>rfl) (aq4 _) ch (fun j V=>dm _ _ (fun b6=>by rw[b6,m2 d ch H] at V;cases V)) (lQ d ch bm)
   .intro d ch H y aD;rw[cd] at H
    split at H
    .rename_i e;subst e;simp only[if_true] at aD;rcases aD with aD |aD
     .obtain⟨b0,ca,a3⟩:=aq c _ oa y aD;exact⟨b0,ca,a3.imp (mX y) id⟩
     .refine⟨Nat.lt_of_lt_of_le (sG y aD).1 cE.size,fun aG=>?_,.inl ⟨q,_,aP,(ce y).2 (.inr aD)⟩⟩;rcases(gL y aG).2 with h |h |h
      .exact(sG y aD).2 h
      .exact i6 y aD h
      .have:=(sG y aD).1;omega
    .obtain⟨af,ao,bm⟩:=nr H;simp only[if_neg ao] at aD;obtain⟨b0,ca,a3⟩:=aq d ch bm y aD;exact⟨b0,ca,a3.imp (mX y) id⟩
   .intro d cT ch ch' y H dn a6 aD ed;rw[cd] at H dn
    split at H
    .rename_i e;subst e;rw[if_neg a6] at dn;obtain⟨af,ao,bm⟩:=nr dn;simp only[if_true] at aD;simp only[if_neg ao] at ed;rcases aD with aD |aD
     .exact ip c cT _ ch' y oa bm (Ne.symm af) aD ed
     .exact tO cT ch' y bm ed aD
    .obtain⟨af,ao,bm⟩:=nr H;simp only[if_neg ao] at aD
     split at dn
     .rename_i e;subst e;simp only[if_true] at ed;rcases ed with ed |ed
      .exact ip d c ch _ y bm oa af aD ed
      .exact tO d ch y bm aD ed
     .obtain⟨lh,jD,Ad⟩:=nr dn;simp only[if_neg jD] at ed;exact ip d cT ch ch' y bm Ad a6 aD ed
   .exact cx.mono (cj.refl _ _) (res g) x (fun j V=>dm _ _ (fun b6=>by rw[b6,c2] at V;cases V)) sF
theorem iQ: ∀(B B':ay) (c:Nat),aj (B++B') c=(match aj B c with
  |some ch=>some ch
  |none=>aj B' c)
 | [],B',c=>rfl
 |(d,ch)::B,B',c=>by
  rw[List.cons_append,cd,cd,iQ B B' c]
  split <;>rfl
def Cy (l:aA1):ay->Bool
 | []=>true
 |(c,ch)::B=> !l.contains c&&(l.all fun d=> !ch.has d)&&Cy l B
theorem Cz {l:aA1}: ∀{B:ay},Cy l B=true-> ∀{c ch},aj B c=some ch->c∉l/\ ∀d,d∈l->ch.has d=false
 |(c,ch)::B,h,d,ch',H=>by
  simp only[Cy,vj,Bool.not_eq_true'] at h;rw[cd] at H
  split at H
  .rename_i e;subst e;injection H with H
   subst H;refine⟨fun bj=>?_,fun x hx=>?_⟩
   .have:=at2.2 bj;rw[h.1.1] at this
    cases this
   .have:=as9.1 h.1.2 x hx;simpa using this
  .exact Cz h.2 H
def mY (f4 bb jp:aA1):aA1:=f4++bb.filter fun d=> !jp.contains d
theorem tP {l:aA1} {d:Nat} (h:l.contains d=true):d∈l:=at2.1 h
theorem wm {l:aA1} {d:Nat} (h:l.contains d=false):d∉l:=fun bj=>by rw[at2.2 bj] at h;cases h
def ob (c:Nat) (f4:aA1) (args:List aO) (bp aI:ay) (bb jp:aA1):Bool:=
 (cm bp).contains c&&(cm bp).all (fun d=>(c::f4).contains d)&&v' (c::f4) bp&& !bb.contains c&& !f4.contains c&&jp.all (fun d=>bb.contains d&& !f4.contains d)&&(args.all fun v=>f4.all fun d=> !v.has d)&&Cy f4 aI&&(aj aI c).isNone
def oc (c:Nat) (hid:aA1) (res:aO) (dz aN:ay):Bool:=
 (cm dz).contains c&&(cm dz).all (fun d=>(c::hid).contains d)&&Cy hid aN&&(aj aN c).isNone&&(hid.all fun d=> !res.has d)
theorem cA.close {P:Program} {f:FuncId} {c:Nat} {args:List aO} {bp aI:ay} {bb jp:aA1} {X:Type} {res:X->aO} {dz aN:X->ay} {o:bg} {o':X->bg} (f4:aA1)
  (h:cA P f args (bp++aI) bb res (fun g=>dz g++aN g)) (eD: ∀I F w p,o.bn I F w p->iO c bp I F w p) (n4: ∀g I F w p,iO c (dz g) I F w p->(o' g).bn I F w p)
  (E:ob c f4 args bp aI bb jp=true) (G: ∀g,oc c (mY f4 bb jp) (res g) (dz g) (aN g)=true):
  cA P f args ((c,.aF o)::aI) jp res (fun g=>(c,.aF (o' g))::aN g):=by
 obtain⟨f3,h⟩:=h;simp only[ob,vj,Bool.not_eq_true',av6] at E;obtain⟨⟨⟨⟨⟨⟨⟨⟨b0,ca⟩,a3⟩,a4⟩,a5⟩,gD⟩,zw⟩,F2⟩,a9⟩:=E;have b0:=tP b0;have a4:=wm a4;have a5:=wm a5
 have Ri: ∀d,d∈cm bp->d=c\/d∈f4:=fun d H=>by
  have:=tP (as9.1 ca d H);exact aq7.1 this
 have aqe: ∀d,d∈jp->d∈bb/\d∉f4:=fun d H=>by
  have:=as9.1 gD d H;simp only[vj,Bool.not_eq_true'] at this;exact⟨tP this.1,wm this.2⟩
 refine⟨f3,fun ρ F I w bW a2 c0 bd eG bZ dx=>?_⟩;have dF:aj ((c,ba.aF o)::aI) c=some (.aF o):=ax6
 obtain⟨o8,b9,cC,cF,dD,fm⟩:=eD _ _ _ _ (c0 c _ dF)
 have e4: ∀{d ch},aj aI d=some ch->d≠c/\d∉f4/\aj ((c,ba.aF o)::aI) d=some ch:=fun {d ch} H=>by
  have af:d≠c:=fun e=>by rw[e,a9] at H;cases H
  exact⟨af,(Cz F2 H).1,by rw[cd,if_neg (Ne.symm af)];exact H⟩
 have iP: ∀{d ch},aj (bp++aI) d=some ch->(aj bp d=some ch/\d∈cm bp)\/(d∉cm bp/\aj aI d=some ch):=fun {d ch} H=>by
  rw[iQ] at H
  cases e:aj bp d with
  |some ch'=>
   rw[e] at H;exact .inl ⟨H,gw.2 ⟨ch',e⟩⟩
  |none=>
   rw[e] at H;exact .inr ⟨fun Z=>(by obtain⟨ch',Z⟩:=gw.1 Z;rw[e] at Z;cases Z),H⟩
 let uY:Nat->bo:=fun d=>if d∈f4 then o8 d else ρ d
 let iZ:Nat->Nat->Prop:=fun d=>if d∈cm bp then b9 d else F d
 have CA: ∀d,d∉f4->uY d=ρ d:=fun d H=>if_neg H
 have xY: ∀d,d∈c::f4->uY d=o8 d:=fun d H=>by
  rcases aq7.1 H with rfl |H
  .rw[CA _ a5,cC]
  .exact if_pos H
 have mX: ∀y,(∃d ch,aj (bp++aI) d=some ch/\iZ d y)-> ∃d ch,aj ((c,ba.aF o)::aI) d=some ch/\F d y:=by
  rintro y ⟨d,ch,H,aD⟩;rcases iP H with⟨af,ao⟩ |⟨af,ao⟩
  .have aD:b9 d y:=by simpa only[iZ,if_pos ao] using aD
   exact⟨c,_,dF,(fm y).2 ⟨d,ch,af,aD⟩⟩
  .have aD:F d y:=by simpa only[iZ,if_neg af] using aD
   exact⟨d,ch,(e4 ao).2.2,aD⟩
 refine(h uY iZ I w bW a2 ?_ ?_ ?_ bZ ?_).mono ?_
 .intro d ch H;rcases iP H with⟨af,ao⟩ |⟨af,ao⟩
  .have Z:d∈c::f4:=aq7.2 (Ri d ao);rw[xY d Z];simp only[iZ,if_pos ao];exact Holds.ck (cj.refl _ _) (fun _ _=>rfl) (aq4 _) ch (fun j V=>xY j (ba.kB (xM a3 af) V)) (cF d ch af)
  .rw[CA d (e4 ao).2.1];simp only[iZ,if_neg af];exact Holds.ck (cj.refl _ _) (fun _ _=>rfl) (aq4 _) ch (fun j V=>CA j (fun kZ=>by rw[(Cz F2 ao).2 j kZ] at V;cases V)) (c0 d ch (e4 ao).2.2)
 .intro d ch H x hx;rcases iP H with⟨af,ao⟩ |⟨af,ao⟩
  .simp only[iZ,if_pos ao] at hx;exact bd c _ dF x ((fm x).2 ⟨d,ch,af,hx⟩)
  .simp only[iZ,if_neg af] at hx;exact bd d ch (e4 ao).2.2 x hx
 .intro d cT ch ch' x H dn a6 hx dM;rcases iP H with⟨af,ao⟩ |⟨af,ao⟩
  .simp only[iZ,if_pos ao] at hx;rcases iP dn with⟨lh,jD⟩ |⟨lh,jD⟩
   .simp only[iZ,if_pos jD] at dM;exact dD d cT ch ch' x af lh a6 hx dM
   .simp only[iZ,if_neg lh] at dM;exact eG c cT _ ch' x dF (e4 jD).2.2 (Ne.symm (e4 jD).1) ((fm x).2 ⟨d,ch,af,hx⟩) dM
  .simp only[iZ,if_neg af] at hx;rcases iP dn with⟨lh,jD⟩ |⟨lh,jD⟩
   .simp only[iZ,if_pos jD] at dM;exact eG c d _ ch x dF (e4 ao).2.2 (Ne.symm (e4 ao).1) ((fm x).2 ⟨cT,ch',lh,dM⟩) hx
   .simp only[iZ,if_neg lh] at dM;exact eG d cT ch ch' x (e4 ao).2.2 (e4 jD).2.2 a6 hx dM
 .intro i v x aA hx;have KE:=as9.1 zw v (List.mem_of_getElem? aA)
  exact cx.mono (cj.refl _ _) v x (fun j V=>CA j (fun kZ=>by
   have:=as9.1 KE j kZ;rw[V] at this
   cases this)) (dx i v x aA hx)
 .rintro e w' ⟨g,x,ρ',F',rfl,cE,dr,I',jl,gL,lQ,aq,ip,sF⟩;have aY:=G g;simp only[oc,vj,av6] at aY;obtain⟨⟨⟨⟨b1,b2⟩,b3⟩,eA⟩,fp⟩:=aY;have b1:=tP b1
  have acK: ∀d,d∉mY f4 bb jp->d∉f4/\(d∈bb->d∈jp):=fun d H=>by
   refine⟨fun bj=>H (as4.2 (.inl bj)),fun bj=>?_⟩;rcases Decidable.em (d∈jp) with h |h
   .exact h
   .exact absurd (as4.2 (.inr (av0.2 ⟨bj,by simpa using h⟩))) H
  have KF:c∉mY f4 bb jp:=fun bj=>by
   rcases as4.1 bj with h |h
   .exact a5 h
   .exact a4 (av0.1 h).1
  let uN:Nat->bo:=fun d=>if d∈jp then ρ' d else ρ d
  have rA: ∀d,d∉mY f4 bb jp->uN d=ρ' d:=fun d H=>by
   obtain⟨af,ao⟩:=acK d H;show(if d∈jp then ρ' d else ρ d)=ρ' d
   split
   .rfl
   .rename_i hn;rw[dr d (fun bj=>hn (ao bj)),CA d af]
  have o9: ∀{d ch},aj (dz g) d=some ch->aj (dz g++aN g) d=some ch:=fun {d ch} H=>by rw[iQ,H]
  have nr: ∀{d ch},aj (aN g) d=some ch->d≠c/\d∉mY f4 bb jp/\aj (dz g) d=none/\aj (dz g++aN g) d=some ch:=fun {d ch} H=>by
   have af:d≠c:=fun e=>by rw[e,eA] at H;cases H
   have ao:=(Cz b3 H).1
   have bm:aj (dz g) d=none:=by
    cases e:aj (dz g) d with
    |none=>rfl
    |some ch'=>
     have:=tP (as9.1 b2 d (gw.2 ⟨ch',e⟩));rcases aq7.1 this with h |h
     .exact absurd h af
     .exact absurd h ao
   exact⟨af,ao,bm,by rw[iQ,bm];exact H⟩
  refine⟨g,x,uN,fun d=>if d=c then(fun y=> ∃cT ch',aj (dz g) cT=some ch'/\F' cT y) else F' d,rfl,cE.mono fun y _ aD=>mX y aD,fun d H=>if_neg H,I',jl,fun y aD=>⟨(gL y aD).1,?_⟩,?_,?_,?_,?_⟩
  .rcases(gL y aD).2 with h |h |h
   .exact .inl h
   .exact .inr (.inl (mX y h))
   .exact .inr (.inr h)
  .intro d ch H;rw[cd] at H
   split at H
   .rename_i e;injection H with H
    subst H e;simp only[if_true];rw[rA _ KF];exact n4 g _ _ _ _ ⟨ρ',F',rfl,fun d ch H=>lQ d ch (o9 H),fun d cT ch ch' b H dn a6=>ip d cT ch ch' b (o9 H) (o9 dn) a6,fun b=>Iff.rfl⟩
   .obtain⟨af,ao,bm,c6⟩:=nr H;simp only[if_neg af];rw[rA d ao];exact Holds.ck (cj.refl _ _) (fun _ _=>rfl) (aq4 _) ch (fun j V=>rA j (fun kZ=>by rw[(Cz b3 H).2 j kZ] at V;cases V)) (lQ d ch c6)
  .intro d ch H y aD;rw[cd] at H
   split at H
   .rename_i e;subst e;simp only[if_true] at aD;obtain⟨cT,ch',E,G⟩:=aD;obtain⟨cJ,cG,hP⟩:=aq cT ch' (o9 E) y G;exact⟨cJ,cG,hP.imp (mX y) id⟩
   .obtain⟨af,ao,bm,c6⟩:=nr H;simp only[if_neg af] at aD;obtain⟨cJ,cG,hP⟩:=aq d ch c6 y aD;exact⟨cJ,cG,hP.imp (mX y) id⟩
  .intro d cT ch ch' y H dn a6 aD ed;rw[cd] at H dn
   split at H
   .rename_i e;subst e;rw[if_neg a6] at dn;obtain⟨af,ao,bm,c6⟩:=nr dn;simp only[if_true] at aD;simp only[if_neg af] at ed;obtain⟨hM,i3,E,G⟩:=aD;exact ip hM cT i3 ch' y (o9 E) c6 (fun e=>by rw[e,bm] at E;cases E) G ed
   .obtain⟨af,ao,bm,c6⟩:=nr H;simp only[if_neg af] at aD
    split at dn
    .rename_i e;subst e;simp only[if_true] at ed;obtain⟨hM,i3,E,G⟩:=ed;exact ip d hM ch i3 y c6 (o9 E) (fun e=>by rw[<-e,bm] at E;cases E) aD G
    .obtain⟨lh,jD,Ad,acL⟩:=nr dn;simp only[if_neg lh] at ed;exact ip d cT ch ch' y c6 acL a6 aD ed
  .exact cx.mono (cj.refl _ _) (res g) x (fun j V=>rA j (fun kZ=>by
    have:=as9.1 fp j kZ;rw[V] at this
    cases this)) sF
theorem iO.acM {f g:Nat->Nat} (CB: ∀c,g (f c)=c) (KG: ∀c,f (g c)=c) {c:Nat} {bp:ay} {I F:Nat->Prop} {w:World} {p:bo} (h:iO c bp I F w p):iO (f c) (kf f bp) I F w p:=by
 obtain⟨ρ,b9,E,G,al,aW⟩:=h
 have ap: ∀{d ch},aj (kf f bp) d=some ch-> ∃cB,aj bp (g d)=some cB/\ch=cB.eF f:=fun {d ch} H=>by
  rw[<-KG d,Cn CB] at H;obtain⟨cB,af,ao⟩:=at6.1 H;exact⟨cB,af,ao.symm⟩
 refine⟨fun d=>ρ (g d),fun d=>b9 (g d),by simp only[CB];exact E,fun d ch H=>?_,fun d cT ch ch' b H dn a6=>?_,fun b=>?_⟩
 .obtain⟨cB,af,rfl⟩:=ap H;rw[Cm];simp only[CB];exact G _ _ af
 .obtain⟨cB,af,_⟩:=ap H;obtain⟨i3,ao,_⟩:=ap dn;exact al _ _ _ _ b af ao (fun e=>a6 (by rw[<-KG d,<-KG cT,e]))
 .rw[aW];constructor
  .rintro⟨d,ch,af,ao⟩;exact⟨f d,ch.eF f,by rw[Cn CB,af];rfl,by simp only[CB];exact ao⟩
  .rintro⟨d,ch,af,ao⟩;obtain⟨cB,bm,_⟩:=ap af;exact⟨g d,cB,bm,ao⟩
theorem iO.aV (l:List (Nat×Nat)) {c:Nat} {bp:ay} {I F:Nat->Prop} {w:World} {p:bo} (h:iO c bp I F w p):iO (eF (lj l []) c) (kf (eF (lj l [])) bp) I F w p:=
 h.acM (g:=z7 (lj l [])) (FJ _) (FK _)
theorem iO.sub {c:Nat} {bp dz:ay} {I F:Nat->Prop} {w:World} {p:bo} (h:iO c bp I F w p) (E: ∀d ch,aj bp d=some ch↔aj dz d=some ch):iO c dz I F w p:=by
 obtain⟨ρ,b9,af,ao,bm,c6⟩:=h;exact⟨ρ,b9,af,fun d ch H=>ao d ch ((E d ch).2 H),fun d cT ch ch' b H dn=>bm d cT ch ch' b ((E d ch).2 H) ((E cT ch').2 dn),fun b=>(c6 b).trans ⟨fun⟨d,ch,a,b⟩=>⟨d,ch,(E d ch).1 a,b⟩,fun⟨d,ch,a,b⟩=>⟨d,ch,(E d ch).2 a,b⟩⟩⟩
section
variable {ids:aA1} {K:aX} {B:ay}
theorem c5.name (s c:Nat) {o:bg} (ax:dI K s= .c (.one (.ptr c 0))) (J:aj B c=some (.aF o)):c5 ids K B (fun b:Nat=>(s,.c (.one (.d (.aL (some b)))))::K) (fun b=>(c,.aF (o.at b))::B):=by
 rintro N C a w ⟨hn,H,ρ,F,ar,au⟩;obtain⟨bP,aZ⟩:=ar.h0 (w':=w) (ch:=.aF (o.at (ρ c).bh)) J (cP.refl _ _) fun I a2=>⟨rfl,Holds.ck (ρ':=ρ) a2 (fun _ _=>rfl) (aq4 _) (.aF o) (fun _ _=>rfl) (ar.holds c _ J)⟩
 refine⟨(ρ c).bh,hn,H,ρ,F,bP,fun t=>?_⟩;rw[kp]
 split
 .rename_i e;subst e;have:=au s;rw[ax] at this;exact this
 .exact au.mono aZ (fun _ _ _=>rfl) t
theorem ab.put (q c:Nat) {o:bg} {b:Nat} {L:List (Nat×bg)} (a6:c≠q) (aP:aj B q=some (.aF (.bw L))) (J:aj B c=some (.aF (o.at b))):ab ids K B K ((q,.aF (.bw ((b,o)::L)))::gY B c):=by
 rintro N C a w ⟨hn,H,ρ,F,ar,au⟩;have bl:fo _ _ L (F q):=ar.holds q _ aP;have aq:(ρ c).bh=b/\o.bn _ (F c) w (ρ c):=ar.holds c _ J;obtain⟨rfl,aq⟩:=aq;have eG: ∀x,F c x-> ¬F q x:=fun x hx dM=>ar.fj c q _ _ x J aP a6 hx dM
 obtain⟨bP,aZ⟩:=ar.step (B':=(q,.aF (.bw (((ρ c).bh,o)::L)))::gY B c) (ρ':=ρ) (F':=dc F q (fun x=>F c x\/F q x)) (w':=w) (fun d=>d=c\/d=q) (fun _=>False) (cP.refl _ _)
  (fun d ch H aw=>by
   rw[cd,if_neg (fun e=>aw (.inr e.symm)),hv,if_neg (fun e=>aw (.inl e.symm))] at H;exact H)
  (fun _ _=>rfl) (fun d aw=>dm _ _ (fun e=>aw (.inr e))) (fun _ _ h=>h) (fun _ h=>h.elim) (fun _ _ _ _ _ _ h=>h)
  (fun d ch H aw aZ=>by
   rw[cd] at H
   split at H
   .rename_i e;subst e;injection H with H
    subst H;rw[dd];exact fo.add (bl.ck aZ (aq4 _) (fun _ _=>rfl)) (o.ck _ _ _ _ _ _ aq aZ (fun _ _=>rfl) (aq4 _)) eG
   .rename_i e;rcases aw with rfl |rfl
    .rw[hv,if_pos rfl] at H;cases H
    .exact absurd rfl e)
  (fun d ch H aw x hx=>by
   rw[cd] at H
   split at H
   .rename_i e;subst e;rw[dd] at hx;rcases hx with hx |hx
    .exact⟨(ar.own c _ J x hx).1,.inl ⟨c,_,J,.inl rfl,hx⟩⟩
    .exact⟨(ar.own q _ aP x hx).1,.inl ⟨q,_,aP,.inr rfl,hx⟩⟩
   .rename_i e;rcases aw with rfl |rfl
    .rw[hv,if_pos rfl] at H;cases H
    .exact absurd rfl e)
  (fun d cT ch ch' x H dn aw gv KH=>by
   have key: ∀d ch,aj ((q,ba.aF (.bw (((ρ c).bh,o)::L)))::gY B c) d=some ch->(d=c\/d=q)->d=q:=fun d ch H aw=>by
    rcases aw with rfl |rfl
    .rw[cd,if_neg (Ne.symm a6),hv,if_pos rfl] at H;cases H
    .rfl
   exact absurd ((key d ch H aw).trans (key cT ch' dn gv).symm) KH)
 exact⟨hn,H,ρ,_,bP,au.mono aZ fun _ _ _=>rfl⟩
def pT:aA1->ay->ay
 | [],B=>B
 |c::l,B=>pT l (gY B c)
theorem xZ: ∀(l:aA1) (B:ay) (d:Nat),aj (pT l B) d=if d∈l then none else aj B d
 | [],B,d=>by simp[pT]
 |c::l,B,d=>by
  rw[pT,xZ l,hv]
  by_cases h:d∈l
  .rw[if_pos h,if_pos (aq6 _ h)]
  .rw[if_neg h]
   by_cases e:c=d
   .subst e;rw[if_pos rfl,if_pos (ar4 ..)]
   .rw[if_neg e,if_neg];intro bj;rcases aq7.1 bj with rfl |bj
    .exact e rfl
    .exact h bj
theorem ab.close (c:Nat) (bp:ay) {o:bg} (dy:kT B bp) (J:(cm bp).contains c=true) (ag: ∀I F w p,iO c bp I F w p->o.bn I F w p):ab ids K B K ((c,.aF o)::pT (cm bp) B):=by
 rintro N C a w ⟨hn,H,ρ,F,ar,au⟩;have J:=tP J;have ap: ∀{d ch},aj bp d=some ch->aj B d=some ch:=fun {d ch} h=>kz dy h
 have wn: ∀{d ch},aj ((c,ba.aF o)::pT (cm bp) B) d=some ch->d∈cm bp->d=c/\ch= .aF o:=fun {d ch} H aw=>by
  rw[cd] at H
  split at H
  .rename_i e;injection H with H;exact⟨e.symm,H.symm⟩
  .rw[xZ,if_pos aw] at H;cases H
 obtain⟨bP,aZ⟩:=ar.step (B':=(c,.aF o)::pT (cm bp) B) (ρ':=ρ) (F':=fun d=>if d∈cm bp then(fun x=> ∃d ch,aj bp d=some ch/\F d x) else F d) (w':=w) (fun d=>d∈cm bp) (fun _=>False) (cP.refl _ _)
  (fun d ch H aw=>by
   have a6:c≠d:=fun e=>aw (by rw[<-e];exact J)
   rw[cd,if_neg a6,xZ,if_neg aw] at H;exact H)
  (fun _ _=>rfl) (fun d aw=>if_neg aw) (fun _ _ h=>h) (fun _ h=>h.elim) (fun _ _ _ _ _ _ h=>h)
  (fun d ch H aw aZ=>by
   obtain⟨rfl,rfl⟩:=wn H aw;simp only[if_pos aw];exact ag _ _ _ _ ⟨ρ,F,rfl,fun d ch h=>Holds.ck aZ (fun _ _=>rfl) (aq4 _) ch (fun _ _=>rfl) (ar.holds d ch (ap h)),fun d cT ch ch' b h h' a6=>ar.fj d cT ch ch' b (ap h) (ap h') a6,fun b=>Iff.rfl⟩)
  (fun d ch H aw x hx=>by
   simp only[if_pos aw] at hx;obtain⟨cT,ch',E,G⟩:=hx;exact⟨(ar.own cT ch' (ap E) x G).1,.inl ⟨cT,ch',ap E,gw.2 ⟨ch',E⟩,G⟩⟩)
  (fun d cT ch ch' x H dn aw gv a6=>absurd ((wn H aw).1.trans (wn dn gv).1.symm) a6)
 exact⟨hn,H,ρ,_,bP,au.mono aZ fun _ _ _=>rfl⟩
theorem ab.ll (q:Nat) (hf:g9 ids K B q=true):ab ids K B K ((q,.aF (.bw []))::B):=by
 rintro N C a w ⟨hn,H,ρ,F,ar,au⟩;have cE:=kV hf;obtain⟨bP,aZ⟩:=ar.make hf (Below.refl _ w) (ρ q) (fun _=>False) (fun _ h=>h.elim) (ch:=.aF (.bw [])) fun I _ _=>fun b h=>h
 exact⟨hn,H,_,_,bP,au.mono aZ fun s d H=>dm _ _ (fun e=>by subst e;rw[cE.1 s] at H;cases H)⟩
end
end
section
abbrev ai:bA:=.int .i64
abbrev mZ:dQ:=.one (.bM (.pointer none))
abbrev dp (n:Int):dQ:=.one (.d (.int .i64 n))
abbrev gV:aO:=.cb []
abbrev c8 (b:Nat):aO:=.c (.one (.d (.aL (some b))))
abbrev Rj (x:Option Nat):dQ:=.one (.d (.aL x))
theorem iR {α:Type} {L:List α} {n:Nat} (h:n < L.length):fz L n=some L[n]:=oj h
theorem Fn.close {P:Program} {f:FuncId} {c:Nat} {args:List aO} {bp aI:ay} {bb jp:aA1} {res:aO} {dz aN:ay} {o o':bg} (f4:aA1)
  (h:Fn P f args (bp++aI) bb res (dz++aN)) (eD: ∀I F w p,o.bn I F w p->iO c bp I F w p) (n4: ∀I F w p,iO c dz I F w p->o'.bn I F w p)
  (E:ob c f4 args bp aI bb jp=true) (G:oc c (mY f4 bb jp) res dz aN=true):
  Fn P f args ((c,.aF o)::aI) jp res ((c,.aF o')::aN):=
 (cA.close (bp:=bp) (dz:=fun _:Unit=>dz) (aN:=fun _=>aN) (o:=o) (o':=fun _=>o') f4 h.x eD (fun _=>n4) E (fun _=>G)).fn
theorem Fn.F3 {P:Program} {f:FuncId} {args:List aO} {c:Nat} {aI:ay} {bb:aA1} {res:aO} {aN:ay} {o:bg} {Y:Type} {sH:Y->bg} (J:jz P f=true) (ag: ∀I F w p,o.bn I F w p-> ∃y,(sH y).bn I F w p)
  (h: ∀y,Fn P f args ((c,.aF (sH y))::aI) bb res aN):Fn P f args ((c,.aF o)::aI) bb res aN:=by
 refine⟨J,fun ρ F I w bW b0 ca a3 a4 a5 gD=>?_⟩;have ap:aj ((c,ba.aF o)::aI) c=some (.aF o):=ax6
 obtain⟨y,aD⟩:=ag _ _ _ _ (ca c _ ap)
 have key: ∀d ch,aj ((c,ba.aF (sH y))::aI) d=some ch->(d=c/\ch= .aF (sH y))\/aj ((c,ba.aF o)::aI) d=some ch:=fun d ch H=>by
  rw[cd] at H
  split at H
  .rename_i e;injection H with H;exact .inl ⟨e.symm,H.symm⟩
  .rename_i e;exact .inr (by rw[cd,if_neg e];exact H)
 have uZ: ∀d ch,aj ((c,ba.aF (sH y))::aI) d=some ch-> ∃cB,aj ((c,ba.aF o)::aI) d=some cB:=fun d ch H=>by
  rcases key d ch H with⟨e,_⟩ |h
  .rw[e];exact⟨_,ap⟩
  .exact⟨_,h⟩
 have acN: ∀d ch,aj ((c,ba.aF o)::aI) d=some ch-> ∃cB,aj ((c,ba.aF (sH y))::aI) d=some cB:=fun d ch H=>by
  rw[cd] at H⊢
  split at H
  .rename_i e;exact⟨_,by rw[if_pos e]⟩
  .rename_i e;exact⟨ch,by rw[if_neg e];exact H⟩
 have bd: ∀b,(∃d ch,aj ((c,ba.aF (sH y))::aI) d=some ch/\F d b)↔ ∃d ch,aj ((c,ba.aF o)::aI) d=some ch/\F d b:=fun b=>
  ⟨fun⟨d,ch,E,G⟩=>let⟨cB,h⟩:=uZ d ch E;⟨d,cB,h,G⟩,fun⟨d,ch,E,G⟩=>let⟨cB,h⟩:=acN d ch E;⟨d,cB,h,G⟩⟩
 refine((h y).2 ρ F I w bW b0 (fun d ch H=>?_) (fun d ch H b O=>?_) (fun d cT ch ch' b E G=>?_) a5 gD).mono ?_
 .rcases key d ch H with⟨rfl,rfl⟩ |h
  .exact aD
  .exact ca d ch h
 .obtain⟨cB,h⟩:=uZ d ch H;exact a3 d cB h b O
 .obtain⟨hy,g1⟩:=uZ d ch E;obtain⟨cJ,g2⟩:=uZ cT ch' G;exact a4 d cT hy cJ b g1 g2
 .rintro e w' ⟨x,ρ',F',r1,r2,fV,I',j1,lR,mq,lS,m0,od⟩;refine⟨x,ρ',F',r1,r2.mono fun b _ O=>(bd b).1 O,fV,I',j1,fun b O=>⟨(lR b O).1,(lR b O).2.imp id (Or.imp (bd b).1 id)⟩,mq,fun d ch H b O=>?_,m0,od⟩;obtain⟨g1,g2,c2⟩:=lS d ch H b O;exact⟨g1,g2,c2.imp (bd b).1 id⟩
end
section
theorem cA.Kq {P:Program} {fn:FuncId} {f g:Nat->Nat} (aY: ∀c,g (f c)=c) (hf: ∀c,f (g c)=c) {args:List aO} {aI:ay} {bb:aA1} {X:Type} {res:X->aO} {aN:X->ay} (h:cA P fn args aI bb res aN):
  cA P fn (xQ f args) (kf f aI) (Ab f bb) (fun x=>(res x).eF f) (fun x=>kf f (aN x)):=by
 refine⟨h.1,?_⟩;intro ρ F I w bW a2 c0 bd eG bZ dx;have mo: ∀(B:ay) c,aj (kf f B) (f c)=(aj B c).map (·.eF f):=Cn aY;have o6: ∀{B:ay} {c ch},aj B c=some ch->aj (kf f B) (f c)=some (ch.eF f):=fun {B c ch} h=>by rw[mo,h];rfl
 have uR: ∀{B:ay} {c ch},aj (kf f B) c=some ch-> ∃cB,aj B (g c)=some cB/\ch=cB.eF f:=fun {B c ch} h=>by
  have e:=mo B (g c);rw[hf,h] at e;obtain⟨cB,E,G⟩:=at6.1 e.symm;exact⟨cB,E,G.symm⟩
 rw[Ko] at bZ dx
 have J:=h.2 (fun c=>ρ (f c)) (fun c=>F (f c)) I w bW a2
  (fun c ch J=>by rw[<-Cm];exact c0 _ _ (o6 J))
  (fun c ch J=>bd _ _ (o6 J))
  (fun c b7 ch ch' b E G a6=>eG _ _ _ _ b (o6 E) (o6 G) fun e=>a6 (by rw[<-aY c,e,aY]))
  (by simpa using bZ)
  (fun i v x aA hx=>by rw[<-FM];exact dx i _ x (by rw[as6,aA];rfl) hx)
 refine J.mono ?_;rintro e w' ⟨y,x,ρ',F',rfl,cE,dr,I',jl,gL,lQ,aq,ip,hx⟩;have xR:(fun c=>ρ' (g (f c)))=ρ':=funext fun c=>by rw[aY]
 refine⟨y,x,fun c=>ρ' (g c),fun c=>F' (g c),rfl,?_,?_,I',jl,?_,?_,?_,?_,?_⟩
 .exact cE.mono fun b _ ⟨c,ch,E,G⟩=>⟨f c,_,o6 E,G⟩
 .intro c J;show ρ' (g c)=ρ c;rw[dr (g c) (fun aw=>J (by have:=Kp (f:=f) _ _ aw;rwa[hf] at this)),hf]
 .intro b O;obtain⟨E,G⟩:=gL b O;refine⟨E,?_⟩;rcases G with G |⟨c,ch,G,al⟩ |G
  .exact .inl G
  .exact .inr (.inl ⟨f c,_,o6 G,al⟩)
  .exact .inr (.inr G)
 .intro c ch J;obtain⟨cB,E,rfl⟩:=uR J;rw[Cm,xR];exact lQ _ _ E
 .intro c ch J b O;obtain⟨cB,E,rfl⟩:=uR J;obtain⟨cC,cF,dD⟩:=aq _ _ E b O;refine⟨cC,cF,?_⟩;rcases dD with⟨hy,cB,dD,fm⟩ |dD
  .exact .inl ⟨f hy,_,o6 dD,fm⟩
  .exact .inr dD
 .intro c b7 ch ch' b J cQ a6;obtain⟨cB,E,rfl⟩:=uR J;obtain⟨i3,G,rfl⟩:=uR cQ;exact ip _ _ _ _ b E G fun e=>a6 (by rw[<-hf c,e,hf])
 .rw[FM,xR];exact hx
theorem cA.aV {P:Program} {fn:FuncId} (l:List (Nat×Nat)) {args:List aO} {aI:ay} {bb:aA1} {X:Type} {res:X->aO} {aN:X->ay} (h:cA P fn args aI bb res aN):
  cA P fn (xQ (eF (lj l [])) args) (kf (eF (lj l [])) aI) (Ab (eF (lj l [])) bb) (fun x=>(res x).eF (eF (lj l []))) (fun x=>kf (eF (lj l [])) (aN x)):=
 cA.Kq (FJ _) (FK _) h
theorem cA.arg {P:Program} {f:FuncId} {args args':List aO} {aI:ay} {bb:aA1} {X:Type} {res:X->aO} {aN:X->ay} (h:cA P f args' aI bb res aN) (ap:EV args args'):cA P f args aI bb res aN:=by
 obtain⟨E,G⟩:=Kb ap;refine⟨h.1,fun ρ F I w bW b0 ca a3 a4 a5 gD=>h.2 ρ F I w bW b0 ca a3 a4 (a5.trans E) fun i v x aA hx=>?_⟩;obtain⟨s,g1,g2⟩:=G i v aA;exact wa g2 (gD i s x g1 hx)
def bg.pb (o:bg):Prop:= ∀I F w p,o.bn I F w p->F p.bh
theorem KI {I:Nat->Prop} {w:World} {b:Nat}: ∀{L:List (Nat×bg)} {F:Nat->Prop},(∀p∈L,p.2.pb)->fo I w L F->b∈L.map (·.1)->F b
 | [],_,_,_,h=>by cases h
 |p::L,F,ha,⟨cz,cN,q,E,G,al,aW,bG⟩,h=>by
  rcases aq7.1 h with h |h
  .exact(E b).2 (.inl (by rw[h];have:=ha p (ar4 ..) _ _ _ _ aW;rwa[al] at this))
  .exact(E b).2 (.inr (KI (fun p ae=>ha p (aq6 _ ae)) bG h))
theorem Rk {I:Nat->Prop} {w:World}: ∀{L:List (Nat×bg)} {F:Nat->Prop},(∀p∈L,p.2.pb)->fo I w L F->(L.map (·.1)).Nodup
 | [],_,_,_=>au7
 |p::L,F,ha,⟨cz,cN,q,E,G,al,aW,bG⟩=>by
  have Rl: ∀p∈L,p.2.pb:=fun p ae=>ha p (aq6 _ ae)
  rw[ar8];refine at0.2 ⟨fun aw=>?_,Rk Rl bG⟩;have af:=ha p (ar4 ..) _ _ _ _ aW;rw[al] at af;exact G _ af (KI Rl bG aw)
theorem c5.CC {ids:aA1} {K:aX} {B:ay} (q:Nat) {L:List (Nat×bg)} (ha: ∀p∈L,p.2.pb) (aP:aj B q=some (.aF (.bw L))):c5 ids K B (X:=PLift ((L.map (·.1)).Nodup)) (fun _=>K) (fun _=>B):=by
 rintro N C a w ⟨hn,H,ρ,F,ar,au⟩;have bl:fo (b5 C B F w) w L (F q):=ar.holds q _ aP;exact⟨⟨Rk ha bl⟩,hn,H,ρ,F,ar,au⟩
end
section
theorem Fn.via {P:Program} {f:FuncId} {args:List aO} {aI:ay} {bb:aA1} {res:aO} {aN:ay} {X:Type} {args':X->List aO} {u0:X->ay} {nq:X->ay} {jp:X->aA1} {res':X->aO} {oe:X->ay} (f3:jz P f=true) (n:Nat) (hn:args.length=n)
  (eD:c5 (cm aI) (o5 0 args) aI (fun x=>o5 0 (args' x)) u0) (h: ∀x,Fn P f (args' x) (nq x) (jp x) (res' x) (oe x)) (h2: ∀x,kT (u0 x) (nq x)) (cE: ∀x,(sr (cm aI) (o5 0 (args' x)) (u0 x) (jp x)&&mQ (nq x) (jp x) (oe x))=true) (bZ: ∀x,(args' x).length=n)
  (n4: ∀x,∃(r:aO) (jG:ay),ab (cm aI) ((n,res' x)::o5 0 (args' x)) (hl (iL (nq x) (oe x)) (u0 x)) [(n,r)] jG/\tw r res/\kT jG aN/\(res.i7 (cm aI++bb)&&v' (cm aI++bb) aN&&(cm aN).all (fun c=>(cm aI++bb).contains c))=true):Fn P f args aI bb res aN:=by
 refine⟨f3,fun ρ F I w bW a2 c0 bd eG ry dx=>?_⟩
 let C:fi:=⟨w,I,fun b=> ∃c ch,aj aI c=some ch/\F c b,ρ,[]⟩
 let a:Act:={tmps:=(bW++[undef]).toArray,defers:=[]}
 have sE:cj I w (b5 C aI F w) w:=fun b O=>⟨⟨a2 b O,.inl O,fun c ch J qv=>(bd c ch J b qv).2 O⟩,rfl⟩
 have acO:Mem (cm aI) C aI ρ F w:=⟨cP.refl _ _,fun c ch J=>Holds.ck sE (fun _ _=>rfl) (aq4 _) ch (fun _ _=>rfl) (c0 c ch J),fun c ch J b O=>⟨(bd c ch J b O).1,.inl ⟨c,ch,J,O⟩⟩,eG,fun c _=>rfl,au7,fun b O=>O.elim (a2 b) fun⟨c,ch,J,Ce⟩=>(bd c ch J b Ce).1,fun D cp=>by cases cp⟩
 have jE: ∀(i:Nat) (aG:i < bW.length),a.tmps.getD i undef=bW[i]:=fun i aG=>by
  show(bW++[undef]).toArray.getD i undef=_;rw[Array.getD_eq_getD_getElem?,List.getElem?_toArray,as8 aG,oj aG];rfl
 have acP:fa (n+1) (cm aI) C (o5 0 args) aI a w:=by
  refine⟨by show(bW++[undef]).toArray.size=n+1;simp[ry,hn],rfl,ρ,F,acO,fun s=>?_⟩;rw[Cb];simp only[aq9,if_true,Nat.sub_zero]
  cases ax:args[s]? with
  |none=>trivial
  |some v=>
   have bx:s < bW.length:=by rw[ry];exact(ar1.1 ax).1
   simp only[Option.getD_some];have hx:bW[s]? =some bW[s]:=oj bx;have:=cx.mono sE v _ (fun _ _=>rfl) (dx s v _ ax hx);rw[jE s bx];exact this
 obtain⟨x,ke,xF,sI,cz,ar,au⟩:=eD (n+1) C a w acP;have qA: ∀{c ch},aj (nq x) c=some ch->aj (u0 x) c=some ch:=fun {c ch} J=>kz (h2 x) J
 have cE:=cE x;rw[vj] at cE
 have J:=(h x).2 sI cz (b5 C (u0 x) cz w) w bW (fun b O=>O.1) (fun c ch J=>ar.holds c ch (qA J)) (fun c ch J b O=>⟨(ar.own c ch (qA J) b O).1,fun a2=>a2.2.2 c ch (qA J) O⟩)
  (fun c b7 ch ch' b E G=>ar.fj c b7 ch ch' b (qA E) (qA G)) (by rw[ry,hn,bZ x]) (fun i v y aA aD=>by
   have aG:i < bW.length:=(ar1.1 aD).1;have E:=au i;rw[Cb] at E;simp only[aq9,if_true,Nat.sub_zero,aA,Option.getD_some] at E;rw[jE i aG] at E;rw[oj aG] at aD;injection aD with aD
   rw[<-aD];exact E)
 refine J.mono ?_;rintro e w' ⟨y,uN,cN,rfl,cC,cF,I',dD,fm,x0,wo,x1,KJ⟩;have xR:=fa.back (dst:=some n) (h2 x) cE.1 cE.2 ke xF ar au (fun d H=>by injection H with H;omega) cC cF fm x0 wo x1 KJ;obtain⟨r,jG,fZ,acQ,F4,pR⟩:=n4 x;obtain⟨F5,aqf,ρ',F',bP,Cf⟩:=fZ _ _ _ _ xR;simp only[vj] at pR
 let Ae:Nat->bo:=fun c=>if c∈bb then ρ' c else ρ c
 have KK: ∀c,c∈cm aI++bb->Ae c=ρ' c:=fun c J=>by
  show(if c∈bb then ρ' c else ρ c)=ρ' c
  split
  .rfl
  .rename_i hn;rcases as4.1 J with h |h
   .exact(bP.dZ c h).symm
   .exact absurd h hn
 have sC:cx ρ' (b5 C jG F' w') w' res y:=by
  have E:=Cf n;rw[kp,if_pos rfl] at E;have G:(a.put (some n) y).tmps.getD n undef=y:=Pi (by show n < (bW++[undef]).toArray.size;simp[ry,hn]);rw[G] at E;exact wa acQ E
 refine⟨y,Ae,F',rfl,bP.fr,fun c J=>if_neg J,b5 C jG F' w',?_,fun b O=>⟨O.1,?_⟩,?_,?_,?_,?_⟩
 .intro b O;have wb: ¬C.qn b:=fun⟨c,ch,E,G⟩=>(bd c ch E b G).2 O
  refine⟨⟨Nat.lt_of_lt_of_le (a2 b O) bP.fr.size,.inl O,fun c ch J qv=>?_⟩,bP.fr.block b (a2 b O) wb⟩;rcases(bP.own c ch J b qv).2 with h |h
  .exact wb h
  .have:=a2 b O;exact absurd h.1 (Nat.not_le.2 this)
 .rcases O.2.1 with h |h |h
  .exact .inl h
  .exact .inr (.inl h)
  .exact .inr (.inr h.1)
 .intro c ch J
  have Z:c∈cm aI++bb:=by
   have:=as9.1 pR.2 c (gw.2 ⟨ch,J⟩);simpa only[at2] using this
  rw[KK c Z];exact Holds.ck (cj.refl _ _) (fun _ _=>rfl) (aq4 _) ch (fun d H=>KK d (ba.kB (xM pR.1.2 J) H)) (bP.holds c ch (kz F4 J))
 .intro c ch J b O;have cQ:=kz F4 J;exact⟨(bP.own c ch cQ b O).1,fun aG=>aG.2.2 c ch cQ O,(bP.own c ch cQ b O).2.imp id fun x=>x.1⟩
 .exact fun c b7 ch ch' b E G=>bP.fj c b7 ch ch' b (kz F4 E) (kz F4 G)
 .exact cx.mono (cj.refl _ _) res y (fun c J=>KK c (aO.kB pR.1.1 J)) sC
end
section
open Go.ChangeMaps (setBlock map_eraseIdx)
def F6:(u:bA)->aa u->dQ
 | .int k,n=>.one (.d (.int k n))
 | .str,s=>.one (.d (.str s))
 |_,_=>.one .any
def CD (b:Nat) (aH aJ:bA) (l:List (Nat×(aa aH×aa aJ))) (bV:Nat) (I F:Nat->Prop) (w:World) (p:bo):Prop:=
 p.bh=b/\(∀x,F x↔x=p.bh)/\ ∃bU,w.heap[p.bh]? =some (.map (List.toArray bU) bV)/\iw I w aH aJ (l.map (·.2)) bU/\bU.map (·.born)=l.map (·.1)/\mg bU bV
def bg.wq (b:Nat) (aH aJ:bA) (l:List (Nat×(aa aH×aa aJ))) (bV:Nat):bg where
 bn:=CD b aH aJ l bV
 ck:=fun I F w I' w' p ⟨E,G,bU,al,aW,bG,fP⟩ U bd aR=>⟨E,G,bU,(bd _ ((G _).2 rfl)).trans al,aW.mono U,bG,fP⟩
def KL (b kC:Nat) (bH:aA1) (at_:Nat) (I F:Nat->Prop) (w:World) (p:bo):Prop:=(∀x,F x↔x=p.bh)/\w.heap[p.bh]? =some (.mapIter (some b) kC (List.toArray bH) at_)
def bg.ws (b kC:Nat) (bH:aA1) (at_:Nat):bg where
 bn:=KL b kC bH at_
 ck:=fun I F w I' w' p ⟨E,G⟩ U bd aR=>⟨E,(bd _ ((E _).2 rfl)).trans G⟩
section
variable {P:Program} {ids:aA1} {K:aX} {B:ay}
theorem acR {bU:List MapEntry} {bV:Nat} (h:mg bU bV):(bU.map (·.born)).Pairwise (· < ·)/\ ∀x∈bU.map (·.born),x < bV:=⟨h.1,fun x hx=>by
 obtain⟨e,U,rfl⟩:=as5.1 hx;exact h.2 e U⟩
theorem Rm {α lT:Type}: ∀{l:List α} {m:List lT},l.length=m.length->(l.zip m).map (·.1)=l/\(l.zip m).map (·.2)=m
 | [],[],_=>⟨rfl,rfl⟩
 |a::l,b::m,h=>by
  obtain⟨E,G⟩:=Rm (l:=l) (m:=m) aw9;simp[E,G]
structure Rn (aH aJ:bA) (es:List (aa aH×aa aJ)) where
 b:Nat
 l:List (Nat×(aa aH×aa aJ))
 bV:Nat
 snd:l.map (·.2)=es
 aqg:(l.map (·.1)).Pairwise (· < ·)
 lt: ∀x∈l.map (·.1),x < bV
theorem c5.Ro (c:Nat) {aH aJ:bA} {es:List (aa aH×aa aJ)} (J:aj B c=some (.map aH aJ es)):c5 ids K B (X:=Rn aH aJ es) (fun _=>K) (fun x=>(c,.aF (.wq x.b aH aJ x.l x.bV))::B):=by
 rintro N C a w ⟨hn,H,ρ,F,ar,au⟩;obtain⟨bd,bU,bV,O,aw,dy⟩:=ar.holds c _ J;have bZ:(bU.map (·.born)).length=es.length:=by rw[ar7,BJ aw]
 obtain⟨ky,rv⟩:=Rm bZ;obtain⟨r1,r2⟩:=acR dy
 let x:Rn aH aJ es:=⟨(ρ c).bh,(bU.map (·.born)).zip es,bV,rv,by rw[ky];exact r1,by rw[ky];exact r2⟩
 obtain⟨bP,aZ⟩:=ar.h0 (w':=w) (ch:=.aF (.wq x.b aH aJ x.l x.bV)) J (cP.refl _ _) fun I a2=>⟨rfl,bd,bU,O,by
  show iw I w aH aJ (((bU.map (·.born)).zip es).map (·.2)) bU;rw[rv];exact aw.mono a2,ky.symm,dy⟩
 exact⟨x,hn,H,ρ,F,bP,au.mono aZ fun _ _ _=>rfl⟩
theorem ab.Rp (c:Nat) {b:Nat} {aH aJ:bA} {l:List (Nat×(aa aH×aa aJ))} {bV:Nat} (J:aj B c=some (.aF (.wq b aH aJ l bV))):ab ids K B K ((c,.map aH aJ (l.map (·.2)))::B):=by
 rintro N C a w ⟨hn,H,ρ,F,ar,au⟩;obtain⟨O,bd,bU,al,aW,bG,fP⟩:CD b aH aJ l bV _ (F c) w (ρ c):=ar.holds c _ J;obtain⟨bP,aZ⟩:=ar.h0 (w':=w) (ch:=.map aH aJ (l.map (·.2))) J (cP.refl _ _) fun I a2=>⟨bd,bU,bV,al,aW.mono a2,fP⟩
 exact⟨hn,H,ρ,F,bP,au.mono aZ fun _ _ _=>rfl⟩
theorem Rq {o:Oper} {T kt et:TypeId} {x:Operand} {c d:Nat} (ag:o.op= .range T x) (ci:P.underlying T=some (.map kt et)) (hx:a7 K x= .c (.one (.mp c))) {b:Nat} {aH aJ:bA} {l:List (Nat×(aa aH×aa aJ))} {bV:Nat}
  (J:aj B c=some (.aF (.wq b aH aJ l bV))) (N:Nat):bB P N ids o K B (.c (.one (.ptr d 0))) ⟨[c],[d],[(d,some (.aF (.ws b bV [] bV)))]⟩:=by
 have aw:x∈o.op.operands:=aw7
 refine bB.make (fun e U=>(ar0 U).symm) fun K' B' g1 g2 C ρ F a w ar au _=>?_
 have cQ:=(g2 c aw2).trans J;obtain⟨O,bd,bU,al,aW,bG,fP⟩:CD b aH aJ l bV _ (F c) w (ρ c):=ar.holds c _ cQ;have af:=au.mp ((g1 x aw).trans hx);refine⟨.pointer (some ⟨w.heap.size,0,none⟩),w.alloc (.mapIter (some (ρ c).bh) bV #[] bV),⟨w.heap.size,none,0,0⟩,fun y=>y=w.heap.size,?_,(Below.refl _ _).alloc (aq4 _) _,fun y aD=>?_,fun I aZ a2=>⟨⟨fun y=>Iff.rfl,?_⟩,?_⟩⟩
 .simp[execOp,ag,af,run_range_map w T kt et (ρ c).bh _ bV ci al,Result.andThen]
 .subst aD;simp
 .rw[<-O];exact heap_alloc_new w _
 .show _=Value.pointer (some ⟨(dc ρ d _ d).bh,0,none⟩);rw[dd]
theorem KM {I:Nat->Prop} {w:World} {aH aJ:bA}: ∀{l:List (aa aH×aa aJ)} {es:List MapEntry},iw I w aH aJ l es-> ∀{j:Nat} {e:MapEntry},es[j]? =some e-> ∃p,l[j]? =some p/\e.key=gQ aH p.1/\jy I w aJ p.2 e.val
 | [],_,h,j,e,U=>by rw[show _=[] from h] at U;simp at U
 |p::l,_,⟨b6,r,h,E,G,al⟩,0,e,U=>by
  rw[h] at U;simp only[ar9,aq8] at U;subst U;exact⟨p,rfl,E,G⟩
 |p::l,_,⟨b6,r,h,E,G,al⟩,j+1,e,U=>by
  rw[h] at U;simp only[av7] at U⊢;exact KM al U
theorem Rr {b:Nat} {aH aJ:bA} {l:List (Nat×(aa aH×aa aJ))} {I:Nat->Prop} {w:World} {bU:List MapEntry} (aw:iw I w aH aJ (l.map (·.2)) bU) (O:bU.map (·.born)=l.map (·.1)) {e:MapEntry} (U:e∈bU): ∃p∈l,p.1=e.born/\e.key=gQ aH p.2.1/\jy I w aJ p.2.2 e.val:=by
 obtain⟨j,V,rfl⟩:=List.getElem_of_mem U;have kx:bU[j]? =some bU[j]:=oj V;obtain⟨q,aP,E,G⟩:=KM aw kx;rw[as6] at aP;obtain⟨p,ae,rfl⟩:=at6.1 aP;have CE:(bU.map (·.born))[j]? =(l.map (·.1))[j]? :=by rw[O]
 rw[as6,as6,kx,ae] at CE;exact⟨p,List.mem_of_getElem? ae,by simpa using CE.symm,E,G⟩
theorem Rs {aH aJ:bA} {l:List (Nat×(aa aH×aa aJ))} {I:Nat->Prop} {w:World} {bU:List MapEntry} (aw:iw I w aH aJ (l.map (·.2)) bU) (O:bU.map (·.born)=l.map (·.1)) {p:Nat×(aa aH×aa aJ)} (ae:p∈l): ∃e∈bU,e.born=p.1/\e.key=gQ aH p.2.1/\jy I w aJ p.2.2 e.val:=by
 obtain⟨j,V,rfl⟩:=List.getElem_of_mem ae;have kx:l[j]? =some l[j]:=oj V;have bZ:bU.length=l.length:=by have:=congrArg List.length O;simpa using this
 have U:bU[j]? =some (bU[j]'aw0):=oj aw0;obtain⟨q,aP,E,G⟩:=KM aw U;rw[as6,kx] at aP;simp only[au5,aq8] at aP;subst aP;have CE:(bU.map (·.born))[j]? =(l.map (·.1))[j]? :=by rw[O]
 rw[as6,as6,kx,U] at CE;exact⟨_,as3 _,by simpa using CE,E,G⟩
theorem Rt {ρ:Nat->bo} {I:Nat->Prop} {w:World}: ∀(u:bA) (x:aa u),gI ρ I w (F6 u x) (gQ u x)
 | .int _,_=>rfl
 | .str,_=>rfl
 | .u8,_=>trivial
 | .bool,_=>trivial
 | .aL,_=>trivial
 | .dL,_=>trivial
 | .fn,_=>trivial
 | .b4 _,_=>trivial
 | .bK _ _,_=>trivial
 | .arr _ _,_=>trivial
def acS (r b kC:Nat) (bH:aA1) (aH aJ:bA) (l:List (Nat×(aa aH×aa aJ))) (bV c:Nat) (v:aO) (e:fY):Prop:=
 (∃p∈l,p.1∉bH/\v= .cb [.one (.d (.lit true)),F6 aH p.2.1,zE aJ p.2.2]/\e=⟨[c,r],[],[(r,some (.aF (.ws b kC (bH++[p.1]) bV)))]⟩)\/
 ((∀p∈l,p.1∈bH)/\v= .cb [.one (.d (.lit false))]/\e=bJ)
theorem Ru {o:Oper} {it:Operand} {c r:Nat} (ag:o.op= .next it false) (hx:a7 K it= .c (.one (.ptr r 0))) {b kC:Nat} {bH:aA1} {at_:Nat} {aH aJ:bA} {l:List (Nat×(aa aH×aa aJ))} {bV:Nat}
  (aC:aj B r=some (.aF (.ws b kC bH at_))) (J:aj B c=some (.aF (.wq b aH aJ l bV))) (mW: ∀p∈l,p.1 < kC) (acT:kC<=at_):xT P ids o K B (acS r b kC bH aH aJ l bV c):=by
 rintro N C a w ax bx fO Q dq;have aqh:=ax;obtain⟨hn,H,ρ,F,ar,au⟩:=ax;obtain⟨O,bd,bU,al,aW,bG,fP⟩:CD b aH aJ l bV _ (F c) w (ρ c):=ar.holds c _ J;obtain⟨i6,ji⟩:KL b kC bH at_ (b5 C B F w) (F r) w (ρ r):=ar.holds r _ aC;have af:a.eval it= .pointer (some ⟨(ρ r).bh,0,none⟩):=au.ev hx
 have acU: ∀x∈(List.toArray bU).toList,x.born < kC:=fun x hx=>by
  obtain⟨p,ae,h,_⟩:=Rr (b:=b) aW bG (e:=x) az5;rw[<-h];exact mW p ae
 rw[O] at al;rcases run_next_at (P:=P) w o.type (ρ r).bh b kC at_ (List.toArray bH) (List.toArray bU) bV ji al acU acT with⟨aR,dW⟩ |⟨e,U,d0,x2,dW⟩
 .unfold Oper.wp;have hx:(execOp a.eval o).run P w= .ok (.value (.tuple #[.bool false])) w:=by simp[execOp,ag,af,dW,Result.andThen]
  rw[hx,Oper.upon_value];refine dq (.cb [.one (.d (.lit false))]) bJ _ _ (.inr ⟨fun p ae=>?_,rfl,rfl⟩) ⟨kq.trans hn,kr.trans H,ρ,F,ar,au.ku (fun e U=>by rw[hn];exact bx e U) ⟨[.bool false],rfl,_,_,rfl,rfl,rfl⟩⟩;obtain⟨e,U,E,_⟩:=Rs aW bG ae;rw[<-E];have KN:leftOf (List.toArray bU) (List.toArray bH)= #[]:=Array.eq_empty_of_size_eq_zero aR;unfold leftOf at KN;rw[Array.filter_eq_empty_iff] at KN;have:=KN e (by simpa using U);simpa using this
 .obtain⟨KO,nt⟩:=mem_left U;have KO:e∈bU:=by simpa using KO
  have nt:e.born∉bH:=by
   intro bj;have:(List.toArray bH).contains e.born=true:=by simpa using bj
   rw[this] at nt;cases nt
  obtain⟨p,ae,cC,cF,dD⟩:=Rr (b:=b) aW bG KO;unfold Oper.wp;have hx:(execOp a.eval o).run P w= .ok (.value (.tuple #[.bool true,e.key,e.val])) (setBlock d0 (ρ r).bh (.mapIter (some b) kC ((List.toArray bH).push e.born) bV)):=by simp[execOp,ag,af,dW,Result.andThen]
  rw[hx,Oper.upon_value];have rE:(ρ r).bh < w.heap.size:=me ji
  have Af:d0.heap=w.heap/\d0.os=w.os/\d0.tape=w.tape/\d0.output=w.output:=by
   rcases x2 with rfl |rfl <;>exact⟨rfl,rfl,rfl,rfl⟩
  have cE:cP (F r) w (setBlock d0 (ρ r).bh (.mapIter (some b) kC ((List.toArray bH).push e.born) bV)):=by
   refine⟨Af.2.1,Af.2.2.1,Af.2.2.2,by simp[setBlock,Af.1],fun k Z Ag=>?_⟩;have a6:k≠(ρ r).bh:=fun h=>Ag ((i6 k).2 h)
   simp[setBlock,Af.1,Array.getElem?_setIfInBounds_ne (Ne.symm a6)]
  obtain⟨bP,aZ⟩:=ar.h0 (w':=setBlock d0 (ρ r).bh (.mapIter (some b) kC ((List.toArray bH).push e.born) bV)) (ch:=.aF (.ws b kC (bH++[p.1]) bV)) aC cE fun I a2=>⟨i6,by
   simp[setBlock,Af.1,rE,cC]⟩
  refine dq (.cb [.one (.d (.lit true)),F6 aH p.2.1,zE aJ p.2.2]) ⟨[c,r],[],[(r,some (.aF (.ws b kC (bH++[p.1]) bV)))]⟩ _ _ (.inl ⟨p,ae,by rw[cC];exact nt,rfl,rfl⟩)
   ⟨kq.trans hn,kr.trans H,ρ,F,bP,(au.mono aZ fun _ _ _=>rfl).ku (fun e U=>by rw[hn];exact bx e U) ⟨[.bool true,e.key,e.val],rfl,_,_,rfl,rfl,_,_,rfl,?_,_,_,rfl,Fq (dD.mono aZ),rfl⟩⟩
  rw[cF];exact Rt aH _
theorem Rv {o:Oper} {it:Operand} {c r:Nat} (ag:o.op= .entry it) (hx:a7 K it= .c (.one (.ptr r 0))) {b kC:Nat} {bH:aA1} {aH aJ:bA} {l:List (Nat×(aa aH×aa aJ))} {bV:Nat} {p:Nat×(aa aH×aa aJ)}
  (aC:aj B r=some (.aF (.ws b kC (bH++[p.1]) bV))) (J:aj B c=some (.aF (.wq b aH aJ l bV))) (ae:p∈l) (N:Nat):bB P N ids o K B (.cb [F6 aH p.2.1,zE aJ p.2.2]) ⟨[c,r],[],[]⟩:=by
 have aw:it∈o.op.operands:=aw7
 refine bB.val fun K' B' g1 g2 C ρ F a w ar au=>?_
 have cQ:=(g2 c aw2).trans J;have J4:=(g2 r aw2).trans aC;obtain⟨O,bd,bU,al,aW,bG,fP⟩:CD b aH aJ l bV _ (F c) w (ρ c):=ar.holds c _ cQ;obtain⟨i6,ji⟩:KL b kC (bH++[p.1]) bV (b5 C B' F w) (F r) w (ρ r):=ar.holds r _ J4;have af:a.eval it= .pointer (some ⟨(ρ r).bh,0,none⟩):=au.ev ((g1 it aw).trans hx);obtain⟨e,U,cC,cF,dD⟩:=Rs aW bG ae;rw[O] at al
 have dR:((List.toArray bU).toList.map (·.born)).Nodup:=by
  show(bU.map (·.born)).Nodup;exact fP.1.imp fun h=>by omega
 have acV:w.heap[(ρ r).bh]? =some (.mapIter (some b) kC ((List.toArray bH).push e.born) bV):=by rw[ji,cC];simp
 have dW:=run_entry_at (P:=P) w (ρ r).bh b kC (List.toArray bH) (List.toArray bU) bV e acV al (by simpa using U) dR;refine⟨_,by simp[execOp,ag,af,dW,Result.andThen],[e.key,e.val],rfl,_,_,rfl,?_,_,_,rfl,Fq dD,rfl⟩;rw[cF];exact Rt aH _
theorem xT.of {o:Oper} {v:aO} {ix:aA1} {hL:List (Nat×Option ba)} (h: ∀N,bB P N ids o K B v ⟨ix,[],hL⟩):xT P ids o K B (fun da b6=>da=v/\b6=⟨ix,[],hL⟩):=fun N C a w ax bx fO Q dq=>
 h N K B (fun _ _=>rfl) (fun _ _=>rfl) (fun c J=>by cases J) C a w ax bx fO Q fun a' w' eb=>dq v ⟨ix,[],hL⟩ a' w' ⟨rfl,rfl⟩ eb
theorem acW {o:Oper} {T fQ b6:TypeId} {x:Operand} {c:Nat} (ag:o.op= .binOp .eql T x (.const (.slice none 0 0)) fQ) (hx:a7 K x= .c (.one (.own c))) {e:TypeId} {u:bA} {xs:List (aa u)} (J:aj B c=some (.row e u xs)) (ci:P.underlying T=some (.slice b6)):
  xT P ids o K B (fun v KP=> ∃b:Bool,(b=true->xs=[])/\v= .c (.one (.d (.lit b)))/\KP=⟨[c],[],[]⟩):=by
 rintro N C a w ⟨hn,H,ρ,F,ar,au⟩ bx fO Q dq;obtain⟨bd,li,cs,dC,jZ⟩:=ar.holds c _ J;have af:a.eval x=(ρ c).eK:=au.ev hx
 have dW:(execOp a.eval o).run P w= .ok (.value (.bool (ρ c).A.isNone)) w:=by
  simp only[execOp,ag,af,bo.eK];have ao:a.eval (.const (.slice none 0 0))= .slice none 0 0:=rfl;have h:=Lib.run_eql_slice_nil (P:=P) w T b6 (ρ c).A (ρ c).n (ρ c).cap 0 0 ci;simp[ao,h,Result.andThen,eqGuard]
 unfold Oper.wp;rw[dW,Oper.upon_value];refine dq (.c (.one (.d (.lit (ρ c).A.isNone)))) ⟨[c],[],[]⟩ _ _ ⟨_,fun O=>?_,rfl,rfl⟩ ⟨kq.trans hn,kr.trans H,ρ,F,ar,au.ku (fun e U=>by rw[hn];exact bx e U) rfl⟩;rcases dC.2 with⟨_,h⟩ |⟨g,cap,df,h,_⟩
 .exact List.eq_nil_of_length_eq_zero h
 .have E:(ρ c).A=some ⟨g,0,none⟩:=by simp only[bo.eK] at h;injection h
  rw[E] at O
  cases O
end
end
section
def ho (x:D):bg where
 bn:=fun I F w p=>Holds (fun _=>p) I F w p (.cells [.d x])
 ck:=fun I F w I' w' p h U bd aR=>Holds.ck U bd aR (.cells [.d x]) (fun _ _=>rfl) h
theorem acX {c:Nat} {x:D}: ∀I F w p,iO c [(c,.cells [.d x])] I F w p->(ho x).bn I F w p:=by
 rintro I F w p ⟨ρ,b9,E,G,al,aW⟩;have h:=G c _ ax6;rw[E] at h
 have kW:F=b9 c:=by
  funext b
  refine propext ((aW b).trans ⟨?_,fun g=>⟨c,_,by rw[cd,if_pos rfl],g⟩⟩);rintro⟨d,ch,e,g⟩;rw[cd] at e
  split at e
  .rename_i ao;rw[<-ao] at g;exact g
  .cases e
 rw[kW];exact Holds.ck (cj.refl _ _) (fun _ _=>rfl) (aq4 _) (.cells [.d x]) (fun d H=>by cases H) h
section
variable {P:Program} {ids:aA1} {K:aX} {B:ay}
theorem CF {o:Oper} {T:TypeId} {x:Operand} {q b:Nat} {y:D} {L:List (Nat×bg)} {d:TypeDesc} (ag:o.op= .load T x) (ci:P.underlying T=some d) (H:d.isRow=false) (hx:a7 K x= .c (.one (.d (.aL (some b)))))
  (aP:aj B q=some (.aF (.bw L))) (cH:eB L b=some (ho y)) (N:Nat):bB P N ids o K B (.c (.one (.d y))) ⟨[q],[],[]⟩:=by
 have aw:x∈o.op.operands:=aw7
 refine bB.val fun K' B' g1 g2 C ρ F a w ar au=>?_
 have F7:=(g2 q aw2).trans aP;have bl:fo (b5 C B' F w) w L (F q):=ar.holds q _ F7;obtain⟨cz,cN,p,ce,cR,er,eQ,uW⟩:=bl.out cH;have aA:a.eval x= .pointer (some ⟨b,0,none⟩):=au.ev ((g1 x aw).trans hx);obtain⟨E,aE,e3,G,al⟩:=eQ;obtain⟨v,r,e,aW,bG⟩:=al;have bG:r=[]:=bG;subst bG e;rw[er] at G;exact⟨v,Fd ag aA ci H (oZ G rfl),aW⟩
theorem Rw {o:Oper} {T fQ b6:TypeId} {x:Operand} {u:bA} {xs:List (aa u)} (ag:o.op= .binOp .eql T x (.const (.slice none 0 0)) fQ) (hx:a7 K x= .c (.one (.d (.cf u xs)))) (ci:P.underlying T=some (.slice b6)):
  xT P ids o K B (fun v KP=> ∃b:Bool,(b=true->xs=[])/\v= .c (.one (.d (.lit b)))/\KP=⟨[],[],[]⟩):=by
 rintro N C a w ⟨hn,H,ρ,F,ar,au⟩ bx fO Q dq;obtain⟨A,cap,af,G,al,aW⟩:gP (b5 C B F w) w (.cf u xs) (a.eval x):=au.ev hx;injection af with af
 have dW:(execOp a.eval o).run P w= .ok (.value (.bool A.isNone)) w:=by
  simp only[execOp,ag,af];have ao:a.eval (.const (.slice none 0 0))= .slice none 0 0:=rfl;have h:=Lib.run_eql_slice_nil (P:=P) w T b6 A (List.length xs) cap 0 0 ci;simp[ao,h,Result.andThen,eqGuard]
 unfold Oper.wp;rw[dW,Oper.upon_value];refine dq (.c (.one (.d (.lit A.isNone)))) ⟨[],[],[]⟩ _ _ ⟨_,fun O=>?_,rfl,rfl⟩ ⟨kq.trans hn,kr.trans H,ρ,F,ar,au.ku (fun e U=>by rw[hn];exact bx e U) rfl⟩;rcases Nat.eq_zero_or_pos (List.length xs) with h |h
 .exact List.eq_nil_of_length_eq_zero h
 .obtain⟨b,q,d5,_⟩:=aW h;rw[d5] at O
  cases O
theorem acY {aU:dl} (bl:eh P aU) {o:Oper} {T et:TypeId} {te:b8} {x y aB:Operand} {u:bA} {xs:List (aa u)} {n:Int} (ag:o.op= .slice T x none (some y) (some aB)) (U:elemOf aU T=some (et,te)) (aR:te.size=aS u)
  (hx:a7 K x= .c (.one (.d (.cf u xs)))) (aD:a7 K y= .c (.one (.d (.int .i64 n)))) (tH:a7 K aB= .c (.one (.d (.int .i64 n)))) (av:0<=n) (E:n<=List.length xs) (N:Nat):
  bB P N ids o K B (.c (.one (.d (.cf u (xs.take n.toNat))))) ⟨[],[],[]⟩:=by
 have m1:x∈o.op.operands:=aw7
 have m2:y∈o.op.operands:=aw7
 have m3:aB∈o.op.operands:=aw7
 refine bB.val fun K' B' g1 g2 C ρ F a w ar au=>?_
 obtain⟨A,cap,bm,c6,f2,h1⟩:=au.cf ((g1 x m1).trans hx);injection bm with bm
 have af:=au.int ((g1 y m2).trans aD);have ao:=au.int ((g1 aB m3).trans tH);obtain⟨ci,de,ds,bz⟩:=pO bl U;have cu:(sizeOf et).run P w= .ok (aS u) w:=by simp[sizeOf,typeInfo,bz.jW,bz.size,aR]
 have q:n<=(cap:Int):=aw8
 have O:(Instr.sliceBounds true (List.length xs) cap none (some (a.eval y)) (some (a.eval aB))).run P w= .ok (0,n.toNat,n.toNat) w:=by
  simp[Instr.sliceBounds,Instr.sliceBound,asIntOf,af,ao,av,q];intro bx;omega
 have bZ:List.length (xs.take n.toNat)=n.toNat:=ax7
 refine⟨.slice (if n.toNat=0 then A else A.map (·.add (0*aS u))) (n.toNat - 0) (n.toNat - 0),?_,?_⟩
 .simp only[execOp,ag,Sem.run_bind,Instr.sliceAt,Instr.slice,run_underlying ci,Result.andThen_ok,bm,Option.map_none,au5,O,cu,Sem.run_pure]
 .refine⟨_,n.toNat,by rw[bZ];rfl,by rw[bZ];exact aq4 _,aw0,fun mm=>?_⟩;rw[bZ] at mm;obtain⟨b,cF,rfl,a2,H⟩:=h1 aw0;refine⟨b,cF,by rw[if_neg aw0,Nat.zero_mul];rfl,a2,fun i x pN=>?_⟩
  have JT:fz (α:=aa u) xs i=some x:=by
   unfold fz at pN⊢;rw[List.getElem?_take] at pN
   split at pN
   .exact pN
   .cases pN
  exact H i x JT
theorem c5.box (s c q:Nat) {x:D} {L:List (Nat×bg)} (ax:dI K s= .c (.one (.ptr c 0))) (J:aj B c=some (.cells [.d x])) (a6:c≠q) (aP:aj B q=some (.aF (.bw L))):
  c5 ids K B (fun b:Nat=>(s,.c (.one (.d (.aL (some b)))))::K) (fun b=>(q,.aF (.bw ((b,ho x)::L)))::gY ((c,.aF ((ho x).at b))::(c,.aF (ho x))::gY B c) c):=by
 intro N C a w h;have E:=ab.close (ids:=ids) (K:=K) (B:=B) c [(c,.cells [.d x])] (o:=ho x) ⟨J,trivial⟩ (by simp[cm]) acX N C a w h;obtain⟨b,G⟩:=c5.name (ids:=ids) s c (o:=ho x) ax ax6 N C a w E;refine⟨b,?_⟩
 have KQ:aj ((c,ba.aF ((ho x).at b))::(c,.aF (ho x))::pT (cm [(c,ba.cells [.d x])]) B) q=some (.aF (.bw L)):=by
  rw[cd,if_neg a6,cd,if_neg a6];show aj (gY B c) q=_;rw[hv,if_neg a6];exact aP
 exact ab.put (ids:=ids) q c (o:=ho x) (b:=b) (L:=L) a6 KQ ax6 N C a w G
end
theorem bk.m4 {P:Program} {N:Nat} {ids:aA1} {K:aX} {B:ay} {c:Code} {Q:BP} (f:Nat) (e5:N<=1000000) (h:bk P N ids c ((1000000+f,.undef)::K) B Q):bk P N ids c K B Q:=by
 intro r aC C il aP a w ax;refine h r aC C il aP a w ?_;obtain⟨hn,H,ρ,F,ar,au⟩:=ax;refine⟨hn,H,ρ,F,ar,fun s=>?_⟩;rw[kp]
 split
 .rename_i e;subst e;show a.tmps.getD (1000000+f) undef=undef;rw[Array.getD_eq_getD_getElem?,Array.getElem?_eq_none aw0];rfl
 .exact au s
theorem acZ {P:Program} {ids:aA1} {K:aX} {B:ay} {o:Oper} {f:FuncId} {c:Call} {xs:List Operand} {aI:ay} {res:aO} {aN:ay} (ag:o.op= .call c) (E:c.callee= .value (.func f)) (G:c.args.toList=xs) (hf:Fn P f (xs.map (a7 K)) aI [] res aN) (h2:kT B aI) (bz:mQ aI [] aN=true) (og: ∀c,aj aN c=aj aI c) (N:Nat):
  bB P N ids o K B res ⟨cm aI,[],[]⟩:=by
 obtain⟨v,e,⟨rfl,rfl⟩,aq,_⟩:cI P N ids o K B (fun v e=>v=res/\e=⟨cm aI,[],iL aI aN⟩):=Qh ag E G ⟨aI,[],res,aN,hf,h2,by rw[bz];rfl,by rw[sq];exact⟨rfl,rfl⟩⟩;intro K' B' g1 g2 c2 C a w ax bx fO Q dq;refine aq K' B' g1 g2 c2 C a w ax bx fO Q fun a' w' eb=>dq a' w' (eb.congr (fun _=>rfl) fun d=>?_)
 show aj B' d=aj (hl (iL aI aN) B') d;rw[Fs aI aI [] aN B' bz,og]
 cases H:aj aI d with
 |none=>
  simp only;rw[if_neg fun Z=>by obtain⟨ch,h⟩:=gw.1 Z;rw[H] at h;cases h]
 |some ch=>exact(g2 d (gw.2 ⟨ch,H⟩)).trans (kz h2 H)
theorem bk.ac0 {P:Program} {N:Nat} {ids:aA1} {K:aX} {B:ay} {c:Code} {Q:BP} (d:Nat) (e5:N<=1000000) (h:bk P N ids c ((1000000+(1000000+d),.undef)::K) B Q):bk P N ids c K B Q:=bk.m4 (1000000+d) e5 h
theorem ac1 {P:Program} {ids:aA1} {K:aX} {B:ay} {o:Oper} {T e d:Nat} {x:Operand} {s:aA0} {de:TypeInfo} (ag:o.op= .buildSlice T 1 #[(0,x)]) (ci:P.underlying T=some (.slice e)) (aG:P.info? e=some de) (aR:de.zero=some (.string ⟨#[]⟩)) (ax:de.size=1)
  (hx:a7 K x= .c (.one (.d (.str s)))) (N:Nat):bB P N ids o K B (.c (.one (.own d))) ⟨[],[d],[(d,some (.row e .str [s]))]⟩:=by
 have m1:x∈o.op.operands:=aw7
 refine bB.make (fun d h=>BZ h) fun K' B' g1 g2 C ρ F a w ar au hn=>?_
 have af:a.eval x= .string ⟨List.toArray s⟩:=au.ev ((g1 x m1).trans hx);refine⟨.slice (some ⟨w.heap.size,0,none⟩) 1 1,w.alloc (.cells (List.toArray [.string ⟨List.toArray s⟩]) e),⟨w.heap.size,some ⟨w.heap.size,0,none⟩,1,1⟩,fun b=>b=w.heap.size,?_,ts w _,fun b O=>(by subst O;exact⟨aq4 _,aw2⟩),fun I U O=>⟨⟨?_,?_,[.string ⟨List.toArray s⟩],?_,fun i y aD=>?_⟩,?_⟩⟩
 .have dW:=run_buildSlice (P:=P) w T e 1 (#[(0,x)].map fun p=>(p.1,a.eval p.2)) (List.toArray [.string ⟨List.toArray s⟩]) de (.string ⟨#[]⟩) ci aG aR (by rw[ax];decide)
   (by rw[ax];decide) (by
    rw[ax];have ev:(Value.string ⟨List.toArray s⟩).cells= #[.string ⟨List.toArray s⟩]:=rfl;simp[af,Instr.fill,ev];rw[show Array.range 1= #[0] from rfl];simp)
  unfold execOp;simp only[ag,Sem.run_bind,dW,Result.andThen_ok];rfl
 .intro b;show b=w.heap.size↔some w.heap.size=some b;rw[aq8];exact eq_comm
 .intro b O;have O:some w.heap.size=some b:=O;injection O with O
  exact O.symm
 .exact Fl w e 1 1 [.string ⟨List.toArray s⟩] rfl aw1
 .match i with
  |0=>
   have aD:some s=some y:=aD;injection aD with aD
   subst aD;rfl
  |i+1=>
   have aD:(none:Option aA0)=some y:=aD
   cases aD
 .simp only[cx,gI,d1,dd];rfl
end
section
abbrev c3 (n:Int):Prop:= -9223372036854775808<=n/\n<=9223372036854775807
theorem az {P:Prop} (h:P:=by repeat' (first |exact trivial |exact rfl |refine⟨?_,?_⟩)):P:=h
theorem ak {p:ay->aA1->aO->ay->Prop} {q:ay->Prop} {r:ay->aA1->ay->Prop} {k:ay->aA1->aO->ay->Prop} {a:ay} {b:aA1} {c:aO} {d:ay} (s:p a b c d) (al:k a b c d) (E:q a:=by repeat' (first |exact trivial |exact rfl |refine⟨?_,?_⟩)) (G:r a b d:=by rfl): ∃a b c d,p a b c d/\q a/\r a b d/\k a b c d:=⟨_,_,_,_,s,E,G,al⟩
theorem hp {p: ∀(X:Type),ay->aA1->(X->aO)->(X->ay)->Prop} {q:ay->Prop} {r:aA1->Prop} {s: ∀(X:Type),ay->aA1->(X->ay)->X->Prop} {k: ∀(X:Type),ay->aA1->(X->aO)->(X->ay)->X->Prop} {X:Type} {a:ay} {b:aA1} {c:X->aO} {d:X->ay} (h:p X a b c d) (aW: ∀g,k X a b c d g)
 (E:q a:=by repeat' (first |exact trivial |exact rfl |refine⟨?_,?_⟩)) (G:r b:=by rfl) (al: ∀g,s X a b d g:=by exact fun _=>rfl): ∃(X:Type) (a:ay) (b:aA1) (c:X->aO) (d:X->ay),p X a b c d/\q a/\r b/\(∀g,s X a b d g)/\ ∀g,k X a b c d g:=⟨_,_,_,_,_,h,E,G,al,aW⟩
theorem wt {P:Program} {ids:aA1} {K:aX} {B:ay} {o:Oper} {f:FuncId} {c:Call} {xs:List Operand} {aI:ay} {res:aO} {aN:ay} {q:fY->Prop} {k:aO->fY->Prop} (ag:o.op= .call c) (E:c.callee= .value (.func f)) (G:c.args.toList=xs) (hf:Fn P f (xs.map (a7 K)) aI [] res aN) (Z:k res ⟨cm aI,[],[]⟩)
 (h2:kT B aI:=by repeat' (first |exact trivial |exact rfl |refine⟨?_,?_⟩)) (bz:mQ aI [] aN=true:=by rfl) (og: ∀c,aj aN c=aj aI c:=by exact fun _=>rfl) (aP:q ⟨cm aI,[],[]⟩:=by rfl): ∃v e,(∀N,bB P N ids o K B v e)/\q e/\k v e:=⟨_,_,fun N=>acZ ag E G hf h2 bz og N,aP,Z⟩
theorem aT (stops:aA1) {N:Nat} {f:FuncId} {fn:Func} {c:Code} {args:List aO} {aI:ay} {bb:aA1} {res:aO} {aN:ay} {jm:List ResultVar} (hf:Tryz.prog.funcs[f]? =some fn) (h:jA Tryz.prog wj.types N (cm aI) stops c (o5 0 args) aI (Fw wj.types (cm aI) bb jm res aN))
 (O:fn.body=some c:=by exact rfl) (hn:fn.ntmps=N:=by exact rfl) (fG:Nat.ble args.length N=true:=by exact rfl) (xN:fn.results.toList=jm:=by exact rfl) (f3:jz Tryz.prog f=true:=by kernel_rfl) (J:jF Tryz.prog N c=true:=by kernel_rfl):Fn Tryz.prog f args aI bb res aN:=Fn.of ee stops args aI bb res aN hf O hn f3 J fG (z6 ee) xN h
theorem hQ (stops:aA1) {N:Nat} {f:FuncId} {fn:Func} {c:Code} {args:List aO} {aI:ay} {bb:aA1} {X:Type} {res:X->aO} {aN:X->ay} {jm:List ResultVar} (hf:Tryz.prog.funcs[f]? =some fn) (h:jA Tryz.prog wj.types N (cm aI) stops c (o5 0 args) aI (fun e K B=> ∃g,Fw wj.types (cm aI) bb jm (res g) (aN g) e K B))
 (O:fn.body=some c:=by exact rfl) (hn:fn.ntmps=N:=by exact rfl) (fG:Nat.ble args.length N=true:=by exact rfl) (xN:fn.results.toList=jm:=by exact rfl) (f3:jz Tryz.prog f=true:=by kernel_rfl) (J:jF Tryz.prog N c=true:=by kernel_rfl):cA Tryz.prog f args aI bb res aN:=cA.of ee stops args aI bb res aN hf O hn f3 J fG (z6 ee) xN h
theorem br (stops:aA1) {N:Nat} {ids:aA1} {K K':aX} {B B':ay} {Q:nY->aX->ay->Prop} {c:Code} (h:ab ids K B K' B') (cn:jA Tryz.prog wj.types N ids stops c K' B' Q) (J:jF Tryz.prog N c=true:=by kernel_rfl):bk Tryz.prog N ids c K B Q:=bk.go ee (z6 ee) stops J h cn
theorem dG (stops:aA1) {N:Nat} {ids:aA1} {b:Code} {X:Type} (k0:X->aX) (hb:X->ay) (inv:X->Prop) (uL:X->Nat) (h3:X) {K:aX} {B:ay} {Q:nY->aX->ay->Prop} (av:inv h3) (fZ:ab ids K B (k0 h3) (hb h3))
 (h: ∀x,inv x->jA Tryz.prog wj.types N ids stops b (k0 x) (hb x) (fun e K B=>match e with
  | .g'=> ∃y,inv y/\uL y < uL x/\ab ids K B (k0 y) (hb y)
  | .ex i=>Q (.ex i) K B
  | .ret=>Q .ret K B)) (J:jF Tryz.prog N b=true:=by kernel_rfl):bk Tryz.prog N ids (.loop b) K B Q:=bk.loop ee (z6 ee) stops J k0 hb inv uL h3 av fZ h
theorem cw {ids:aA1} {K:aX} {B:ay} (K':aX) (B':ay) (E:zW K K':=by repeat' (first |exact trivial |exact rfl |refine⟨?_,?_⟩)) (G:kT B B':=by repeat' (first |exact trivial |exact rfl |refine⟨?_,?_⟩)):ab ids K B K' B':=ab.sub E G
theorem bq {ids:aA1} {K:aX} {B:ay}:ab ids K B K B:=ab.refl _ _
theorem sJ {p:aX->ay->Prop} {bn:Type} {q:aX->ay->bn->Prop} {s:bn->Prop} {t:ay->Prop} {u:Prop} {K:aX} {B:ay} {r:bn} (E:p K B) (G:q K B r) (al:s r) (aW:t B) (bG:u): ∃K B r,p K B/\q K B r/\s r/\t B/\u:=⟨K,B,r,E,G,al,aW,bG⟩
theorem ej {p:aX->ay->Prop} {bn:Type} {q:aX->ay->bn->Prop} {s:bn->Prop} {t:ay->Prop} {u:Prop} {K:aX} {B:ay} {r:bn} (E:p K B) (G:q K B r) (al:s r) (aW:t B:=by repeat' (first |exact trivial |exact rfl |refine⟨?_,?_⟩)) (bG:u:=by exact rfl): ∃K B r,p K B/\q K B r/\s r/\t B/\u:=⟨K,B,r,E,G,al,aW,bG⟩
theorem bc {p:aX->ay->Prop} {bn:Type} {q:aX->ay->bn->Prop} {s:bn->Prop} {t:ay->Prop} {u:Prop} {K:aX} {B:ay} {r:bn} (E:p K B:=by exact ab.refl _ _) (G:q K B r:=by exact rfl) (al:s r:=by repeat' (first |exact trivial |exact rfl |refine⟨?_,?_⟩)) (aW:t B:=by repeat' (first |exact trivial |exact rfl |refine⟨?_,?_⟩)) (bG:u:=by exact rfl): ∃K B r,p K B/\q K B r/\s r/\t B/\u:=⟨K,B,r,E,G,al,aW,bG⟩
theorem cX {p q A B:Prop} (k:B) (h: ¬p:=by decide):(p->A)/\(q->B):=⟨fun x=>absurd x h,fun _=>k⟩
theorem d7 {p q A B:Prop} (k:A) (h: ¬q:=by decide):(p->A)/\(q->B):=⟨fun _=>k,fun x=>absurd x h⟩
end
section
def fb {aH aJ:bA} (es:List (aa aH×aa aJ)):Prop:=es.Pairwise fun p q=>fN aH p.1 q.1=false
theorem ac2 (a b:Int):zu a b=true↔a=b:=decide_eq_true_iff
theorem ac3 (a b:aA0):zv a b=true↔a=b:=decide_eq_true_iff
theorem rF {k:IntKind} (a b:aa (.int k)):fN (.int k) a b=true↔a=b:=ac2 a b
theorem qB (a b:aa .str):fN .str a b=true↔a=b:=ac3 a b
section
variable {aH aJ:bA} (cH: ∀a b:aa aH,fN aH a b=true↔a=b)
include cH
theorem rG {a b:aa aH} (h:a≠b):fN aH a b=false:=by
 cases e:fN aH a b with
 |false=>rfl
 |true=>exact absurd ((cH a b).1 e) h
theorem CG (a:aa aH):fN aH a a=true:=(cH a a).2 rfl
theorem Ah (k:aa aH) (x:aa aJ): ∀(es:List (aa aH×aa aJ)),bY (dw es k x) k=some x/\ ∀j,j≠k->bY (dw es k x) j=bY es j
 | []=>by
  refine⟨?_,fun j V=>?_⟩
  .simp only[dw,bY,CG cH]
  .simp only[dw,bY,rG cH V]
 |p::es=>by
  obtain⟨E,G⟩:=Ah k x es;unfold dw
  cases e:fN aH k p.1 with
  |true=>
   have af:=(cH _ _).1 e;simp only;refine⟨by simp only[bY,CG cH],fun j V=>?_⟩;simp only[bY,rG cH V,rG cH (fun h=>V (h.trans af.symm))]
  |false=>
   simp only;refine⟨by simp only[bY,e,E],fun j V=>?_⟩;simp only[bY,G j V]
theorem Rx {k:aa aH}: ∀{es:List (aa aH×aa aJ)},(∀p,p∈es->fN aH p.1 k=false)->bY es k=none
 | [],_=>rfl
 |p::es,h=>by
  have E:=h p (ar4 ..);have:fN aH k p.1=false:=rG cH fun e=>by rw[e,CG cH] at E;cases E
  simp only[bY,this];exact Rx fun q aP=>h q (aq6 _ aP)
theorem CH (k:aa aH): ∀(es:List (aa aH×aa aJ)),fb es->bY (gR es k) k=none/\ ∀j,j≠k->bY (gR es k) j=bY es j
 | [],_=>⟨rfl,fun _ _=>rfl⟩
 |p::es,hn=>by
  obtain⟨cM,dK⟩:=List.pairwise_cons.1 hn;obtain⟨E,G⟩:=CH k es dK;unfold gR
  cases e:fN aH k p.1 with
  |true=>
   have af:=(cH _ _).1 e;subst af;simp only;refine⟨Rx cH fun q aP=>?_,fun j V=>?_⟩
   .have:=cM q aP;exact rG cH fun e=>by rw[<-e,CG cH] at this;cases this
   .simp only[bY,rG cH V]
  |false=>
   simp only;refine⟨by simp only[bY,e,E],fun j V=>?_⟩;simp only[bY,G j V]
omit cH in
theorem KR {k:aa aH} {x:aa aJ}: ∀{es:List (aa aH×aa aJ)} {q:aa aH×aa aJ},q∈dw es k x->q=(k,x)\/q∈es
 | [],q,h=>by
  unfold dw at h;exact .inl (ar5.1 h)
 |p::es,q,h=>by
  unfold dw at h
  split at h
  .rcases aq7.1 h with h |h
   .exact .inl h
   .exact .inr (aq6 _ h)
  .rcases aq7.1 h with h |h
   .exact .inr (by rw[h];exact ar4 ..)
   .exact(KR h).imp id (aq6 _)
omit cH in
theorem Ai {k:aa aH}: ∀{es:List (aa aH×aa aJ)} {q:aa aH×aa aJ},q∈gR es k->q∈es
 | [],q,h=>by cases h
 |p::es,q,h=>by
  unfold gR at h
  split at h
  .exact aq6 _ h
  .rcases aq7.1 h with h |h
   .rw[h];exact ar4 ..
   .exact aq6 _ (Ai h)
theorem fb.put {k:aa aH} {x:aa aJ}: ∀{es:List (aa aH×aa aJ)},fb es->fb (dw es k x)
 | [],_=>List.pairwise_singleton _ _
 |p::es,hn=>by
  obtain⟨cM,dK⟩:=List.pairwise_cons.1 hn;unfold dw
  split
  .rename_i e;have af:=(cH _ _).1 e;refine List.pairwise_cons.2 ⟨fun q aP=>?_,dK⟩;have:=cM q aP;simp only;rw[af];exact this
  .rename_i e;refine List.pairwise_cons.2 ⟨fun q aP=>?_,fb.put dK⟩;rcases KR aP with rfl |aP
   .simp only;exact rG cH fun h=>by rw[h,CG cH] at e;cases e
   .exact cM q aP
omit cH in
theorem fb.lU {k:aa aH}: ∀{es:List (aa aH×aa aJ)},fb es->fb (gR es k)
 | [],h=>h
 |p::es,hn=>by
  obtain⟨cM,dK⟩:=List.pairwise_cons.1 hn;unfold gR
  split
  .exact dK
  .exact List.pairwise_cons.2 ⟨fun q aP=>cM q (Ai aP),fb.lU dK⟩
theorem Ry {k:aa aH} {x:aa aJ}: ∀{es:List (aa aH×aa aJ)},bY es k=some x->(k,x)∈es
 | [],h=>by cases h
 |p::es,h=>by
  unfold bY at h
  split at h
  .rename_i e;injection h with h
   have af:=(cH _ _).1 e;subst h af;exact ar4 ..
  .exact aq6 _ (Ry h)
end
end
end Go.Proofs.YtkfbeijmgggkmaaGreat
