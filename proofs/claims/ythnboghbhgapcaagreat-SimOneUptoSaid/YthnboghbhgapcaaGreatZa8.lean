/-
A part of the proof of this claim: lemmas, with no condition beyond what each says.
-/
import Derived.Maps.RangeRun
import Derived.Test.YthnboghbhgapcaaGreatZa7
set_option linter.unusedVariables false
set_option linter.unusedSimpArgs false
set_option maxRecDepth 10000
namespace Go.Proofs.YthnboghbhgapcaaGreat
open Go.RowKit Go.Proofs
section
def iA (c:Nat) (bp:ay) (I F:Nat->Prop) (w:World) (p:bo):Prop:=
 ∃(ρ:Nat->bo) (b8:Nat->Nat->Prop),ρ c=p/\(∀d ch,ah bp d=some ch->Holds ρ I (b8 d) w (ρ d) ch)/\
  (∀d cZ ch ch' b,ah bp d=some ch->ah bp cZ=some ch'->d≠cZ->b8 d b-> ¬b8 cZ b)/\ ∀b,F b↔ ∃d ch,ah bp d=some ch/\b8 d b
def bh.iX (c:Nat) (bp:ay):bh where
 R:=iA c bp
 cg:=fun I F w I' w' p ⟨ρ,b8,E,G,al,aZ⟩ V bj aR=>⟨ρ,b8,E,fun d ch J=>Holds.cg V (fun b O=>bj b ((aZ b).2 ⟨d,ch,J,O⟩)) aR ch (fun _ _=>rfl) (G d ch J),al,aZ⟩
def bh.at (o:bh) (b:Nat):bh where
 R:=fun I F w p=>p.bk=b/\o.R I F w p
 cg:=fun I F w I' w' p h V bj aR=>⟨h.1,o.cg I F w I' w' p h.2 V bj aR⟩
def bh.le (o o':bh):Prop:= ∀I F w p,o.R I F w p->o'.R I F w p
def fb (I:Nat->Prop) (w:World):List (Nat×bh)->(Nat->Prop)->Prop
 | [],F=> ∀b,¬F b
 |(a,o)::L,F=> ∃(cu cI:Nat->Prop) (p:bo),(∀b,F b↔cu b\/cI b)/\(∀b,cu b-> ¬cI b)/\p.bk=a/\o.R I cu w p/\fb I w L cI
theorem fb.cg {I I':Nat->Prop} {w w':World} (V:cd I w I' w') (aR:w.heap.size<=w'.heap.size): ∀{L:List (Nat×bh)} {F:Nat->Prop},(∀b,F b->w'.heap[b]? =w.heap[b]?)->fb I w L F->fb I' w' L F
 | [],_,_,h=>h
 |(a,o)::L,F,bj,⟨cu,cI,p,E,G,al,aZ,bK⟩=>⟨cu,cI,p,E,G,al,o.cg _ _ _ _ _ _ aZ V (fun b O=>bj b ((E b).2 (.inl O))) aR,bK.cg V aR (fun b O=>bj b ((E b).2 (.inr O)))⟩
def bh.bA (L:List (Nat×bh)):bh where
 R:=fun I F w _=>fb I w L F
 cg:=fun I F w I' w' p h V bj aR=>h.cg V aR bj
def eg:List (Nat×bh)->Nat->Option bh
 | [],_=>none
 |(a,o)::L,b=>if a=b then some o else eg L b
def e5:List (Nat×bh)->Nat->bh->List (Nat×bh)
 | [],_,_=>[]
 |(a,o)::L,b,o'=>if a=b then(a,o')::L else(a,o)::e5 L b o'
theorem fb.out {I:Nat->Prop} {w:World} {b:Nat} {o:bh}: ∀{L:List (Nat×bh)} {F:Nat->Prop},eg L b=some o->fb I w L F-> ∃(cu cI:Nat->Prop) (p:bo),(∀x,F x↔cu x\/cI x)/\(∀x,cu x-> ¬cI x)/\p.bk=b/\o.R I cu w p/\
  ∀(I':Nat->Prop) (w':World) (o':bh) (vN:Nat->Prop) (jY:bo),cd I w I' w'->w.heap.size<=w'.heap.size->(∀x,cI x->w'.heap[x]? =w.heap[x]?)->jY.bk=b->o'.R I' vN w' jY->(∀x,vN x-> ¬cI x)->fb I' w' (e5 L b o') (fun x=>vN x\/cI x)
 | [],F,h,_=>by cases h
 |(a,q)::L,F,h,⟨oM,qa,p,E,G,al,aZ,bK⟩=>by
  unfold eg at h
  split at h
  .rename_i e;injection h with h
   subst h;refine⟨oM,qa,p,E,G,al.trans e,aZ,fun I' w' o' vN jY V aR hf ag ai J=>?_⟩;unfold e5;rw[if_pos e];exact⟨vN,qa,jY,fun x=>Iff.rfl,J,ag.trans e.symm,ai,bK.cg V aR hf⟩
  .rename_i e;obtain⟨cu,cI,dY,g1,g2,cX,jo,BL⟩:=fb.out h bK;refine⟨cu,fun x=>oM x\/cI x,dY,fun x=>?_,fun x hx=>?_,cX,jo,fun I' w' o' vN jY V aR hf ag ai J=>?_⟩
   .rw[E,g1];constructor
    .rintro(h |h |h)
     .exact .inr (.inl h)
     .exact .inl h
     .exact .inr (.inr h)
    .rintro(h |h |h)
     .exact .inr (.inl h)
     .exact .inl h
     .exact .inr (.inr h)
   .rintro(h |h)
    .exact G x h ((g1 x).2 (.inl hx))
    .exact g2 x hx h
   .unfold e5;rw[if_neg e];refine⟨oM,fun x=>vN x\/cI x,p,fun x=>?_,fun x hx=>?_,al,q.cg _ _ _ _ _ _ aZ V (fun x hx=>hf x (.inl hx)) aR,BL I' w' o' vN jY V aR (fun x hx=>hf x (.inr hx)) ag ai (fun x hx h=>J x hx (.inr h))⟩
    .constructor
     .rintro(h |h |h)
      .exact .inr (.inl h)
      .exact .inl h
      .exact .inr (.inr h)
     .rintro(h |h |h)
      .exact .inr (.inl h)
      .exact .inl h
      .exact .inr (.inr h)
    .rintro(h |h)
     .exact J x h (.inl hx)
     .exact G x hx ((g1 x).2 (.inr h))
theorem fb.add {I:Nat->Prop} {w:World} {L:List (Nat×bh)} {F cu:Nat->Prop} {o:bh} {p:bo} (h:fb I w L F) (ai:o.R I cu w p) (J: ∀x,cu x-> ¬F x):fb I w ((p.bk,o)::L) (fun x=>cu x\/F x):=
 ⟨cu,F,p,fun _=>Iff.rfl,J,rfl,ai,h⟩
theorem cv.fn {P:Program} {f:FuncId} {args:List aQ} {aK:ay} {bf:List Nat} {res:aQ} {aP:ay} (h:cv P f args aK bf (fun _:Unit=>res) (fun _=>aP)):Fn P f args aK bf res aP:=
 ⟨h.1,fun ρ F I w bW b4 ci a3 a4 a5 gw=>(h.2 ρ F I w bW b4 ci a3 a4 a5 gw).mono fun e w' ⟨_,q⟩=>q⟩
theorem cv.bA {P:Program} {f:FuncId} {c q b:Nat} {args:List aQ} {aK:ay} {bf:List Nat} {X:Type} {res:X->aQ} {aP:X->ay} {o:bh} {o':X->bh} {L:List (Nat×bh)}
  (h:cv P f (.c (.one (.ptr c 0))::args) ((c,.aG o)::aK) bf res (fun g=>(c,.aG (o' g))::aP g)) (cW:eg L b=some o)
  (E:(args.all fun v=> !v.has c)=true) (G:kh c aK=true/\(ah aK q).isNone=true) (al:(bf.contains c||bf.contains q)=false) (aZ: ∀g,(kh c (aP g)&&(ah (aP g) q).isNone&& !(res g).has c)=true):
  cv P f (.c (.one (.d (.aM (some b))))::args) ((q,.aG (.bA L))::aK) bf res (fun g=>(q,.aG (.bA (e5 L b (o' g))))::aP g):=by
 obtain⟨fR,h⟩:=h;refine⟨fR,fun ρ F I w bW bb cV bj eo b6 dt=>?_⟩;have aV:ah ((q,bd.aG (.bA L))::aK) q=some (.aG (.bA L)):=by rw[ca,if_pos rfl]
 have bn:fb I w L (F q):=cV q _ aV;obtain⟨cu,cI,p,cf,cM,eb,eA,uu⟩:=bn.out cW;obtain⟨abG,abH⟩:=t8 G.1;have uv:ah aK q=none:=by simpa using G.2
 have eU: ∀{d ch},ah aK d=some ch->d≠q/\d≠c/\ah ((q,bd.aG (.bA L))::aK) d=some ch:=fun {d ch} J=>by
  have aj:d≠q:=fun e=>by rw[e,uv] at J;cases J
  exact⟨aj,fun e=>(by rw[e,abG] at J;cases J),by rw[ca,if_neg (Ne.symm aj)];exact J⟩
 have abI: ∀(v:aQ),v.has c=false-> ∀d,v.has d=true->c5 ρ c p d=ρ d:=fun v az d J=>de _ _ (fun e=>by rw[e,az] at J;cases J)
 match bW,b6 with
 |v0::bW,b6=>
  have xr:v0= .pointer (some ⟨b,0,none⟩):=dt 0 _ v0 rfl rfl
  have iB: ∀{d ch},ah ((c,bd.aG o)::aK) d=some ch->(d=c/\ch= .aG o)\/(d≠c/\ah aK d=some ch):=fun {d ch} J=>by
   rw[ca] at J
   split at J
   .rename_i e;injection J with J;exact .inl ⟨e.symm,J.symm⟩
   .rename_i e;exact .inr ⟨Ne.symm e,J⟩
  refine(h (c5 ρ c p) (c5 F c cu) I w (v0::bW) bb ?_ ?_ ?_ (by simpa using b6) ?_).mono ?_
  .intro d ch J;rcases iB J with⟨rfl,rfl⟩ |⟨e,J⟩
   .rw[c6,c6];exact eA
   .rw[de _ _ e,de _ _ e];exact Holds.cg (cd.refl _ _) (fun _ _=>rfl) (ap0 _) ch (fun j aa=>de _ _ (fun b5=>by rw[b5,abH d ch J] at aa;cases aa)) (cV d ch (eU J).2.2)
  .intro d ch J x hx;rcases iB J with⟨rfl,rfl⟩ |⟨e,J⟩
   .rw[c6] at hx;exact bj q _ aV x ((cf x).2 (.inl hx))
   .rw[de _ _ e] at hx;exact bj d ch (eU J).2.2 x hx
  .intro d cZ ch ch' x J dK ba hx dE;rcases iB J with⟨IT,_⟩ |⟨e,JB⟩
   .rcases iB dK with⟨JC,_⟩ |⟨b5,E5⟩
    .exact ba (IT.trans JC.symm)
    .rw[IT,c6] at hx;rw[de _ _ b5] at dE;exact eo q cZ _ ch' x aV (eU E5).2.2 (Ne.symm (eU E5).1) ((cf x).2 (.inl hx)) dE
   .rw[de _ _ e] at hx;rcases iB dK with⟨JC,_⟩ |⟨b5,E5⟩
    .rw[JC,c6] at dE;exact eo q d _ ch x aV (eU JB).2.2 (Ne.symm (eU JB).1) ((cf x).2 (.inl dE)) hx
    .rw[de _ _ b5] at dE;exact eo d cZ ch ch' x (eU JB).2.2 (eU E5).2.2 ba hx dE
  .intro i v x az hx
   match i with
   |0=>
    simp only[aq5,ap4] at az hx;subst az hx;show v0=_;rw[c6,eb];exact xr
   |i+1=>
    have oE:args[i]? =some v:=by simpa using az
    have:=ar4.1 E v (List.mem_of_getElem? oE);exact ct.mono (cd.refl _ _) v x (abI v (by simpa using this)) (dt (i+1) v x (by simpa using az) hx)
  .rintro e w' ⟨g,x,ρ',F',rfl,cz,dl,I',i6,gA,lz,aE,h2,sa⟩;have a6:=aZ g;simp only[vj,Bool.not_eq_true'] at a6;obtain⟨⟨g1,g2⟩,cX⟩:=a6;obtain⟨m1,m2⟩:=t8 g1;have BM:ah (aP g) q=none:=by simpa using g2
   simp only[Bool.or_eq_false_iff] at al;have ls:c∉bf:=fun bl=>by have:=ar6.2 bl;rw[al.1] at this;cases this
   have aoP:q∉bf:=fun bl=>by have:=ar6.2 bl;rw[al.2] at this;cases this
   have r':ah ((c,bd.aG (o' g))::aP g) c=some (.aG (o' g)):=by rw[ca,if_pos rfl]
   have m4: ∀{d ch},ah (aP g) d=some ch->d≠c/\d≠q/\ah ((c,bd.aG (o' g))::aP g) d=some ch:=fun {d ch} J=>by
    have aj:d≠c:=fun e=>by rw[e,m1] at J;cases J
    exact⟨aj,fun e=>(by rw[e,BM] at J;cases J),by rw[ca,if_neg (Ne.symm aj)];exact J⟩
   have mD: ∀y,(∃d ch,ah ((c,bd.aG o)::aK) d=some ch/\c5 F c cu d y)-> ∃d ch,ah ((q,bd.aG (.bA L))::aK) d=some ch/\F d y:=by
    rintro y ⟨d,ch,J,aC⟩;rcases iB J with⟨rfl,rfl⟩ |⟨e,J⟩
    .rw[c6] at aC;exact⟨q,_,aV,(cf y).2 (.inl aC)⟩
    .rw[de _ _ e] at aC;exact⟨d,ch,(eU J).2.2,aC⟩
   have iV: ∀y,cI y-> ¬ ∃d ch,ah ((c,bd.aG o)::aK) d=some ch/\c5 F c cu d y:=by
    rintro y aC ⟨d,ch,J,d4⟩;rcases iB J with⟨rfl,rfl⟩ |⟨e,J⟩
    .rw[c6] at d4;exact cM y d4 aC
    .rw[de _ _ e] at d4;exact eo q d _ ch y aV (eU J).2.2 (Ne.symm (eU J).1) ((cf y).2 (.inr aC)) d4
   have sb: ∀y,cI y->y < w.heap.size/\ ¬I y:=fun y aC=>bj q _ aV y ((cf y).2 (.inr aC))
   have mC: ∀y,cI y->w'.heap[y]? =w.heap[y]? :=fun y aC=>cz.block y (sb y aC).1 (iV y aC)
   have tg: ∀d ch y,ah ((c,bd.aG (o' g))::aP g) d=some ch->F' d y-> ¬cI y:=fun d ch y J aC BN=>by
    rcases(aE d ch J y aC).2.2 with h |h
    .exact iV y BN h
    .have:=(sb y BN).1;omega
   have abJ:ρ' c=p:=by rw[dl c ls,c6]
   have oF:=uu I' w' (o' g) (F' c) (ρ' c) i6 cz.size mC (by rw[abJ];exact eb) (lz c _ r') (fun y aC=>tg c _ y r' aC);refine⟨g,x,c5 ρ' c (ρ c),fun d=>if d=q then(fun y=>F' c y\/cI y) else F' d,rfl,cz.mono fun y _ aC=>mD y aC,fun d J=>?_,I',i6,fun y aC=>⟨(gA y aC).1,?_⟩,?_,?_,?_,?_⟩
   .by_cases e:d=c
    .subst e;rw[c6]
    .rw[de _ _ e,dl d J,de _ _ e]
   .rcases(gA y aC).2 with h |h |h
    .exact .inl h
    .exact .inr (.inl (mD y h))
    .exact .inr (.inr h)
   .intro d ch J;rw[ca] at J
    split at J
    .rename_i e;injection J with J
     subst J e;simp only[if_true];exact oF
    .rename_i e;obtain⟨aj,ap,bm⟩:=m4 J;simp only[if_neg ap];rw[de _ _ aj];exact Holds.cg (cd.refl _ _) (fun _ _=>rfl) (ap0 _) ch (fun j aa=>de _ _ (fun b5=>by rw[b5,m2 d ch J] at aa;cases aa)) (lz d ch bm)
   .intro d ch J y aC;rw[ca] at J
    split at J
    .rename_i e;subst e;simp only[if_true] at aC;rcases aC with aC |aC
     .obtain⟨b4,ci,a3⟩:=aE c _ r' y aC;exact⟨b4,ci,a3.imp (mD y) id⟩
     .refine⟨Nat.lt_of_lt_of_le (sb y aC).1 cz.size,fun aI=>?_,.inl ⟨q,_,aV,(cf y).2 (.inr aC)⟩⟩;rcases(gA y aI).2 with h |h |h
      .exact(sb y aC).2 h
      .exact iV y aC h
      .have:=(sb y aC).1;omega
    .obtain⟨aj,ap,bm⟩:=m4 J;simp only[if_neg ap] at aC;obtain⟨b4,ci,a3⟩:=aE d ch bm y aC;exact⟨b4,ci,a3.imp (mD y) id⟩
   .intro d cZ ch ch' y J dK ba aC d4;rw[ca] at J dK
    split at J
    .rename_i e;subst e;rw[if_neg ba] at dK;obtain⟨aj,ap,bm⟩:=m4 dK;simp only[if_true] at aC;simp only[if_neg ap] at d4;rcases aC with aC |aC
     .exact h2 c cZ _ ch' y r' bm (Ne.symm aj) aC d4
     .exact tg cZ ch' y bm d4 aC
    .obtain⟨aj,ap,bm⟩:=m4 J;simp only[if_neg ap] at aC
     split at dK
     .rename_i e;subst e;simp only[if_true] at d4;rcases d4 with d4 |d4
      .exact h2 d c ch _ y bm r' aj aC d4
      .exact tg d ch y bm aC d4
     .obtain⟨k2,jp,zn⟩:=m4 dK;simp only[if_neg jp] at d4;exact h2 d cZ ch ch' y bm zn ba aC d4
   .exact ct.mono (cd.refl _ _) (res g) x (fun j aa=>de _ _ (fun b5=>by rw[b5,cX] at aa;cases aa)) sa
theorem iC: ∀(B B':ay) (c:Nat),ah (B++B') c=(match ah B c with
  |some ch=>some ch
  |none=>ah B' c)
 | [],B',c=>rfl
 |(d,ch)::B,B',c=>by
  rw[List.cons_append,ca,ca,iC B B' c]
  split <;>rfl
def BO (l:List Nat):ay->Bool
 | []=>true
 |(c,ch)::B=> !l.contains c&&(l.all fun d=> !ch.has d)&&BO l B
theorem BP {l:List Nat}: ∀{B:ay},BO l B=true-> ∀{c ch},ah B c=some ch->c∉l/\ ∀d,d∈l->ch.has d=false
 |(c,ch)::B,h,d,ch',J=>by
  simp only[BO,vj,Bool.not_eq_true'] at h;rw[ca] at J
  split at J
  .rename_i e;subst e;injection J with J
   subst J;refine⟨fun bl=>?_,fun x hx=>?_⟩
   .have:=ar6.2 bl;rw[h.1.1] at this
    cases this
   .have:=ar4.1 h.1.2 x hx;simpa using this
  .exact BP h.2 J
def mE (fS bf i':List Nat):List Nat:=fS++bf.filter fun d=> !i'.contains d
theorem th {l:List Nat} {d:Nat} (h:l.contains d=true):d∈l:=ar6.1 h
theorem vO {l:List Nat} {d:Nat} (h:l.contains d=false):d∉l:=fun bl=>by rw[ar6.2 bl] at h;cases h
def nO (c:Nat) (fS:List Nat) (args:List aQ) (bp aK:ay) (bf i':List Nat):Bool:=
 (cl bp).contains c&&(cl bp).all (fun d=>(c::fS).contains d)&&vD (c::fS) bp&& !bf.contains c&& !fS.contains c&&i'.all (fun d=>bf.contains d&& !fS.contains d)&&(args.all fun v=>fS.all fun d=> !v.has d)&&BO fS aK&&(ah aK c).isNone
def nP (c:Nat) (hid:List Nat) (res:aQ) (dv aP:ay):Bool:=
 (cl dv).contains c&&(cl dv).all (fun d=>(c::hid).contains d)&&BO hid aP&&(ah aP c).isNone&&(hid.all fun d=> !res.has d)
theorem cv.close {P:Program} {f:FuncId} {c:Nat} {args:List aQ} {bp aK:ay} {bf i':List Nat} {X:Type} {res:X->aQ} {dv aP:X->ay} {o:bh} {o':X->bh} (fS:List Nat)
  (h:cv P f args (bp++aK) bf res (fun g=>dv g++aP g)) (fq: ∀I F w p,o.R I F w p->iA c bp I F w p) (nM: ∀g I F w p,iA c (dv g) I F w p->(o' g).R I F w p)
  (E:nO c fS args bp aK bf i'=true) (G: ∀g,nP c (mE fS bf i') (res g) (dv g) (aP g)=true):
  cv P f args ((c,.aG o)::aK) i' res (fun g=>(c,.aG (o' g))::aP g):=by
 obtain⟨fR,h⟩:=h;simp only[nO,vj,Bool.not_eq_true',au1] at E;obtain⟨⟨⟨⟨⟨⟨⟨⟨b4,ci⟩,a3⟩,a4⟩,a5⟩,gw⟩,yK⟩,E6⟩,a9⟩:=E;have b4:=th b4;have a4:=vO a4;have a5:=vO a5
 have Qd: ∀d,d∈cl bp->d=c\/d∈fS:=fun d J=>by
  have:=th (ar4.1 ci d J);exact ap3.1 this
 have aoQ: ∀d,d∈i'->d∈bf/\d∉fS:=fun d J=>by
  have:=ar4.1 gw d J;simp only[vj,Bool.not_eq_true'] at this;exact⟨th this.1,vO this.2⟩
 refine⟨fR,fun ρ F I w bW bb cV bj eo b6 dt=>?_⟩;have dJ:ah ((c,bd.aG o)::aK) c=some (.aG o):=by rw[ca,if_pos rfl]
 obtain⟨oN,b8,cx,cA,dy,fa⟩:=fq _ _ _ _ (cV c _ dJ)
 have eU: ∀{d ch},ah aK d=some ch->d≠c/\d∉fS/\ah ((c,bd.aG o)::aK) d=some ch:=fun {d ch} J=>by
  have aj:d≠c:=fun e=>by rw[e,a9] at J;cases J
  exact⟨aj,(BP E6 J).1,by rw[ca,if_neg (Ne.symm aj)];exact J⟩
 have iB: ∀{d ch},ah (bp++aK) d=some ch->(ah bp d=some ch/\d∈cl bp)\/(d∉cl bp/\ah aK d=some ch):=fun {d ch} J=>by
  rw[iC] at J
  cases e:ah bp d with
  |some ch'=>
   rw[e] at J;exact .inl ⟨J,gl.2 ⟨ch',e⟩⟩
  |none=>
   rw[e] at J;exact .inr ⟨fun ab=>(by obtain⟨ch',ab⟩:=gl.1 ab;rw[e] at ab;cases ab),J⟩
 let uw:Nat->bo:=fun d=>if d∈fS then oN d else ρ d
 let iL:Nat->Nat->Prop:=fun d=>if d∈cl bp then b8 d else F d
 have BQ: ∀d,d∉fS->uw d=ρ d:=fun d J=>if_neg J
 have xt: ∀d,d∈c::fS->uw d=oN d:=fun d J=>by
  rcases ap3.1 J with rfl |J
  .rw[BQ _ a5,cx]
  .exact if_pos J
 have mD: ∀y,(∃d ch,ah (bp++aK) d=some ch/\iL d y)-> ∃d ch,ah ((c,bd.aG o)::aK) d=some ch/\F d y:=by
  rintro y ⟨d,ch,J,aC⟩;rcases iB J with⟨aj,ap⟩ |⟨aj,ap⟩
  .have aC:b8 d y:=by simpa only[iL,if_pos ap] using aC
   exact⟨c,_,dJ,(fa y).2 ⟨d,ch,aj,aC⟩⟩
  .have aC:F d y:=by simpa only[iL,if_neg aj] using aC
   exact⟨d,ch,(eU ap).2.2,aC⟩
 refine(h uw iL I w bW bb ?_ ?_ ?_ b6 ?_).mono ?_
 .intro d ch J;rcases iB J with⟨aj,ap⟩ |⟨aj,ap⟩
  .have ab:d∈c::fS:=ap3.2 (Qd d ap);rw[xt d ab];simp only[iL,if_pos ap];exact Holds.cg (cd.refl _ _) (fun _ _=>rfl) (ap0 _) ch (fun j aa=>xt j (bd.km (xg a3 aj) aa)) (cA d ch aj)
  .rw[BQ d (eU ap).2.1];simp only[iL,if_neg aj];exact Holds.cg (cd.refl _ _) (fun _ _=>rfl) (ap0 _) ch (fun j aa=>BQ j (fun kO=>by rw[(BP E6 ap).2 j kO] at aa;cases aa)) (cV d ch (eU ap).2.2)
 .intro d ch J x hx;rcases iB J with⟨aj,ap⟩ |⟨aj,ap⟩
  .simp only[iL,if_pos ap] at hx;exact bj c _ dJ x ((fa x).2 ⟨d,ch,aj,hx⟩)
  .simp only[iL,if_neg aj] at hx;exact bj d ch (eU ap).2.2 x hx
 .intro d cZ ch ch' x J dK ba hx dE;rcases iB J with⟨aj,ap⟩ |⟨aj,ap⟩
  .simp only[iL,if_pos ap] at hx;rcases iB dK with⟨k2,jp⟩ |⟨k2,jp⟩
   .simp only[iL,if_pos jp] at dE;exact dy d cZ ch ch' x aj k2 ba hx dE
   .simp only[iL,if_neg k2] at dE;exact eo c cZ _ ch' x dJ (eU jp).2.2 (Ne.symm (eU jp).1) ((fa x).2 ⟨d,ch,aj,hx⟩) dE
  .simp only[iL,if_neg aj] at hx;rcases iB dK with⟨k2,jp⟩ |⟨k2,jp⟩
   .simp only[iL,if_pos jp] at dE;exact eo c d _ ch x dJ (eU ap).2.2 (Ne.symm (eU ap).1) ((fa x).2 ⟨cZ,ch',k2,dE⟩) hx
   .simp only[iL,if_neg k2] at dE;exact eo d cZ ch ch' x (eU ap).2.2 (eU jp).2.2 ba hx dE
 .intro i v x az hx;have JD:=ar4.1 yK v (List.mem_of_getElem? az)
  exact ct.mono (cd.refl _ _) v x (fun j aa=>BQ j (fun kO=>by
   have:=ar4.1 JD j kO;rw[aa] at this
   cases this)) (dt i v x az hx)
 .rintro e w' ⟨g,x,ρ',F',rfl,cz,dl,I',i6,gA,lz,aE,h2,sa⟩;have a6:=G g;simp only[nP,vj,au1] at a6;obtain⟨⟨⟨⟨b1,b2⟩,b3⟩,ef⟩,fc⟩:=a6;have b1:=th b1
  have abK: ∀d,d∉mE fS bf i'->d∉fS/\(d∈bf->d∈i'):=fun d J=>by
   refine⟨fun bl=>J (aq8.2 (.inl bl)),fun bl=>?_⟩;rcases Decidable.em (d∈i') with h |h
   .exact h
   .exact absurd (aq8.2 (.inr (at5.2 ⟨bl,by simpa using h⟩))) J
  have JE:c∉mE fS bf i':=fun bl=>by
   rcases aq8.1 bl with h |h
   .exact a5 h
   .exact a4 (at5.1 h).1
  let uk:Nat->bo:=fun d=>if d∈i' then ρ' d else ρ d
  have q4: ∀d,d∉mE fS bf i'->uk d=ρ' d:=fun d J=>by
   obtain⟨aj,ap⟩:=abK d J;show(if d∈i' then ρ' d else ρ d)=ρ' d
   split
   .rfl
   .rename_i hn;rw[dl d (fun bl=>hn (ap bl)),BQ d aj]
  have oO: ∀{d ch},ah (dv g) d=some ch->ah (dv g++aP g) d=some ch:=fun {d ch} J=>by rw[iC,J]
  have m4: ∀{d ch},ah (aP g) d=some ch->d≠c/\d∉mE fS bf i'/\ah (dv g) d=none/\ah (dv g++aP g) d=some ch:=fun {d ch} J=>by
   have aj:d≠c:=fun e=>by rw[e,ef] at J;cases J
   have ap:=(BP b3 J).1
   have bm:ah (dv g) d=none:=by
    cases e:ah (dv g) d with
    |none=>rfl
    |some ch'=>
     have:=th (ar4.1 b2 d (gl.2 ⟨ch',e⟩));rcases ap3.1 this with h |h
     .exact absurd h aj
     .exact absurd h ap
   exact⟨aj,ap,bm,by rw[iC,bm];exact J⟩
  refine⟨g,x,uk,fun d=>if d=c then(fun y=> ∃cZ ch',ah (dv g) cZ=some ch'/\F' cZ y) else F' d,rfl,cz.mono fun y _ aC=>mD y aC,fun d J=>if_neg J,I',i6,fun y aC=>⟨(gA y aC).1,?_⟩,?_,?_,?_,?_⟩
  .rcases(gA y aC).2 with h |h |h
   .exact .inl h
   .exact .inr (.inl (mD y h))
   .exact .inr (.inr h)
  .intro d ch J;rw[ca] at J
   split at J
   .rename_i e;injection J with J
    subst J e;simp only[if_true];rw[q4 _ JE];exact nM g _ _ _ _ ⟨ρ',F',rfl,fun d ch J=>lz d ch (oO J),fun d cZ ch ch' b J dK ba=>h2 d cZ ch ch' b (oO J) (oO dK) ba,fun b=>Iff.rfl⟩
   .obtain⟨aj,ap,bm,c0⟩:=m4 J;simp only[if_neg aj];rw[q4 d ap];exact Holds.cg (cd.refl _ _) (fun _ _=>rfl) (ap0 _) ch (fun j aa=>q4 j (fun kO=>by rw[(BP b3 J).2 j kO] at aa;cases aa)) (lz d ch c0)
  .intro d ch J y aC;rw[ca] at J
   split at J
   .rename_i e;subst e;simp only[if_true] at aC;obtain⟨cZ,ch',E,G⟩:=aC;obtain⟨cB,cL,gP⟩:=aE cZ ch' (oO E) y G;exact⟨cB,cL,gP.imp (mD y) id⟩
   .obtain⟨aj,ap,bm,c0⟩:=m4 J;simp only[if_neg aj] at aC;obtain⟨cB,cL,gP⟩:=aE d ch c0 y aC;exact⟨cB,cL,gP.imp (mD y) id⟩
  .intro d cZ ch ch' y J dK ba aC d4;rw[ca] at J dK
   split at J
   .rename_i e;subst e;rw[if_neg ba] at dK;obtain⟨aj,ap,bm,c0⟩:=m4 dK;simp only[if_true] at aC;simp only[if_neg aj] at d4;obtain⟨hz,iT,E,G⟩:=aC;exact h2 hz cZ iT ch' y (oO E) c0 (fun e=>by rw[e,bm] at E;cases E) G d4
   .obtain⟨aj,ap,bm,c0⟩:=m4 J;simp only[if_neg aj] at aC
    split at dK
    .rename_i e;subst e;simp only[if_true] at d4;obtain⟨hz,iT,E,G⟩:=d4;exact h2 d hz ch iT y c0 (oO E) (fun e=>by rw[<-e,bm] at E;cases E) aC G
    .obtain⟨k2,jp,zn,abL⟩:=m4 dK;simp only[if_neg k2] at d4;exact h2 d cZ ch ch' y c0 abL ba aC d4
  .exact ct.mono (cd.refl _ _) (res g) x (fun j aa=>q4 j (fun kO=>by
    have:=ar4.1 fc j kO;rw[aa] at this
    cases this)) sa
theorem iA.abM {f g:Nat->Nat} (BR: ∀c,g (f c)=c) (JF: ∀c,f (g c)=c) {c:Nat} {bp:ay} {I F:Nat->Prop} {w:World} {p:bo} (h:iA c bp I F w p):iA (f c) (j1 f bp) I F w p:=by
 obtain⟨ρ,b8,E,G,al,aZ⟩:=h
 have aq: ∀{d ch},ah (j1 f bp) d=some ch-> ∃cw,ah bp (g d)=some cw/\ch=cw.en f:=fun {d ch} J=>by
  rw[<-JF d,BE BR] at J;obtain⟨cw,aj,ap⟩:=as0.1 J;exact⟨cw,aj,ap.symm⟩
 refine⟨fun d=>ρ (g d),fun d=>b8 (g d),by simp only[BR];exact E,fun d ch J=>?_,fun d cZ ch ch' b J dK ba=>?_,fun b=>?_⟩
 .obtain⟨cw,aj,rfl⟩:=aq J;rw[BD];simp only[BR];exact G _ _ aj
 .obtain⟨cw,aj,_⟩:=aq J;obtain⟨iT,ap,_⟩:=aq dK;exact al _ _ _ _ b aj ap (fun e=>ba (by rw[<-JF d,<-JF cZ,e]))
 .rw[aZ];constructor
  .rintro⟨d,ch,aj,ap⟩;exact⟨f d,ch.en f,by rw[BE BR,aj];rfl,by simp only[BR];exact ap⟩
  .rintro⟨d,ch,aj,ap⟩;obtain⟨cw,bm,_⟩:=aq aj;exact⟨g d,cw,bm,ap⟩
theorem iA.aX (l:List (Nat×Nat)) {c:Nat} {bp:ay} {I F:Nat->Prop} {w:World} {p:bo} (h:iA c bp I F w p):iA (en (k5 l []) c) (j1 (en (k5 l [])) bp) I F w p:=
 h.abM (g:=zi (k5 l [])) (EV _) (EW _)
theorem iA.sub {c:Nat} {bp dv:ay} {I F:Nat->Prop} {w:World} {p:bo} (h:iA c bp I F w p) (E: ∀d ch,ah bp d=some ch↔ah dv d=some ch):iA c dv I F w p:=by
 obtain⟨ρ,b8,aj,ap,bm,c0⟩:=h;exact⟨ρ,b8,aj,fun d ch J=>ap d ch ((E d ch).2 J),fun d cZ ch ch' b J dK=>bm d cZ ch ch' b ((E d ch).2 J) ((E cZ ch').2 dK),fun b=>(c0 b).trans ⟨fun⟨d,ch,a,b⟩=>⟨d,ch,(E d ch).1 a,b⟩,fun⟨d,ch,a,b⟩=>⟨d,ch,(E d ch).2 a,b⟩⟩⟩
section
variable {ids:List Nat} {K:a1} {B:ay}
theorem df.name (s c:Nat) {o:bh} (ax:dA K s= .c (.one (.ptr c 0))) (H:ah B c=some (.aG o)):df ids K B (fun b:Nat=>(s,.c (.one (.d (.aM (some b)))))::K) (fun b=>(c,.aG (o.at b))::B):=by
 rintro N C a w ⟨hn,J,ρ,F,ar,av⟩;obtain⟨bN,aY⟩:=ar.hN (w':=w) (ch:=.aG (o.at (ρ c).bk)) H (cJ.refl _ _) fun I bb=>⟨rfl,Holds.cg (ρ':=ρ) bb (fun _ _=>rfl) (ap0 _) (.aG o) (fun _ _=>rfl) (ar.holds c _ H)⟩
 refine⟨(ρ c).bk,hn,J,ρ,F,bN,fun t=>?_⟩;rw[kc]
 split
 .rename_i e;subst e;have:=av s;rw[ax] at this;exact this
 .exact av.mono aY (fun _ _ _=>rfl) t
theorem af.put (q c:Nat) {o:bh} {b:Nat} {L:List (Nat×bh)} (ba:c≠q) (aV:ah B q=some (.aG (.bA L))) (H:ah B c=some (.aG (o.at b))):af ids K B K ((q,.aG (.bA ((b,o)::L)))::gL B c):=by
 rintro N C a w ⟨hn,J,ρ,F,ar,av⟩;have bn:fb _ _ L (F q):=ar.holds q _ aV;have aE:(ρ c).bk=b/\o.R _ (F c) w (ρ c):=ar.holds c _ H;obtain⟨rfl,aE⟩:=aE;have eo: ∀x,F c x-> ¬F q x:=fun x hx dE=>ar.e9 c q _ _ x H aV ba hx dE
 obtain⟨bN,aY⟩:=ar.step (B':=(q,.aG (.bA (((ρ c).bk,o)::L)))::gL B c) (ρ':=ρ) (F':=c5 F q (fun x=>F c x\/F q x)) (w':=w) (fun d=>d=c\/d=q) (fun _=>False) (cJ.refl _ _)
  (fun d ch J aA=>by
   rw[ca,if_neg (fun e=>aA (.inr e.symm)),hk,if_neg (fun e=>aA (.inl e.symm))] at J;exact J)
  (fun _ _=>rfl) (fun d aA=>de _ _ (fun e=>aA (.inr e))) (fun _ _ h=>h) (fun _ h=>h.elim) (fun _ _ _ _ _ _ h=>h)
  (fun d ch J aA aY=>by
   rw[ca] at J
   split at J
   .rename_i e;subst e;injection J with J
    subst J;rw[c6];exact fb.add (bn.cg aY (ap0 _) (fun _ _=>rfl)) (o.cg _ _ _ _ _ _ aE aY (fun _ _=>rfl) (ap0 _)) eo
   .rename_i e;rcases aA with rfl |rfl
    .rw[hk,if_pos rfl] at J;cases J
    .exact absurd rfl e)
  (fun d ch J aA x hx=>by
   rw[ca] at J
   split at J
   .rename_i e;subst e;rw[c6] at hx;rcases hx with hx |hx
    .exact⟨(ar.own c _ H x hx).1,.inl ⟨c,_,H,.inl rfl,hx⟩⟩
    .exact⟨(ar.own q _ aV x hx).1,.inl ⟨q,_,aV,.inr rfl,hx⟩⟩
   .rename_i e;rcases aA with rfl |rfl
    .rw[hk,if_pos rfl] at J;cases J
    .exact absurd rfl e)
  (fun d cZ ch ch' x J dK aA gk JG=>by
   have key: ∀d ch,ah ((q,bd.aG (.bA (((ρ c).bk,o)::L)))::gL B c) d=some ch->(d=c\/d=q)->d=q:=fun d ch J aA=>by
    rcases aA with rfl |rfl
    .rw[ca,if_neg (Ne.symm ba),hk,if_pos rfl] at J;cases J
    .rfl
   exact absurd ((key d ch J aA).trans (key cZ ch' dK gk).symm) JG)
 exact⟨hn,J,ρ,_,bN,av.mono aY fun _ _ _=>rfl⟩
def pq:List Nat->ay->ay
 | [],B=>B
 |c::l,B=>pq l (gL B c)
theorem xu: ∀(l:List Nat) (B:ay) (d:Nat),ah (pq l B) d=if d∈l then none else ah B d
 | [],B,d=>by simp[pq]
 |c::l,B,d=>by
  rw[pq,xu l,hk]
  by_cases h:d∈l
  .rw[if_pos h,if_pos (ap2 _ h)]
  .rw[if_neg h]
   by_cases e:c=d
   .subst e;rw[if_pos rfl,if_pos (aq1 ..)]
   .rw[if_neg e,if_neg];intro bl;rcases ap3.1 bl with rfl |bl
    .exact e rfl
    .exact h bl
theorem af.close (c:Nat) (bp:ay) {o:bh} (c':kI B bp) (H:(cl bp).contains c=true) (ai: ∀I F w p,iA c bp I F w p->o.R I F w p):af ids K B K ((c,.aG o)::pq (cl bp) B):=by
 rintro N C a w ⟨hn,J,ρ,F,ar,av⟩;have H:=th H;have aq: ∀{d ch},ah bp d=some ch->ah B d=some ch:=fun {d ch} h=>kk c' h
 have vP: ∀{d ch},ah ((c,bd.aG o)::pq (cl bp) B) d=some ch->d∈cl bp->d=c/\ch= .aG o:=fun {d ch} J aA=>by
  rw[ca] at J
  split at J
  .rename_i e;injection J with J;exact⟨e.symm,J.symm⟩
  .rw[xu,if_pos aA] at J;cases J
 obtain⟨bN,aY⟩:=ar.step (B':=(c,.aG o)::pq (cl bp) B) (ρ':=ρ) (F':=fun d=>if d∈cl bp then(fun x=> ∃d ch,ah bp d=some ch/\F d x) else F d) (w':=w) (fun d=>d∈cl bp) (fun _=>False) (cJ.refl _ _)
  (fun d ch J aA=>by
   have ba:c≠d:=fun e=>aA (by rw[<-e];exact H)
   rw[ca,if_neg ba,xu,if_neg aA] at J;exact J)
  (fun _ _=>rfl) (fun d aA=>if_neg aA) (fun _ _ h=>h) (fun _ h=>h.elim) (fun _ _ _ _ _ _ h=>h)
  (fun d ch J aA aY=>by
   obtain⟨rfl,rfl⟩:=vP J aA;simp only[if_pos aA];exact ai _ _ _ _ ⟨ρ,F,rfl,fun d ch h=>Holds.cg aY (fun _ _=>rfl) (ap0 _) ch (fun _ _=>rfl) (ar.holds d ch (aq h)),fun d cZ ch ch' b h h' ba=>ar.e9 d cZ ch ch' b (aq h) (aq h') ba,fun b=>Iff.rfl⟩)
  (fun d ch J aA x hx=>by
   simp only[if_pos aA] at hx;obtain⟨cZ,ch',E,G⟩:=hx;exact⟨(ar.own cZ ch' (aq E) x G).1,.inl ⟨cZ,ch',aq E,gl.2 ⟨ch',E⟩,G⟩⟩)
  (fun d cZ ch ch' x J dK aA gk ba=>absurd ((vP J aA).1.trans (vP dK gk).1.symm) ba)
 exact⟨hn,J,ρ,_,bN,av.mono aY fun _ _ _=>rfl⟩
theorem af.q8 (q:Nat) (hf:gW ids K B q=true):af ids K B K ((q,.aG (.bA []))::B):=by
 rintro N C a w ⟨hn,J,ρ,F,ar,av⟩;have cz:=kK hf;obtain⟨bN,aY⟩:=ar.make hf (Below.refl _ w) (ρ q) (fun _=>False) (fun _ h=>h.elim) (ch:=.aG (.bA [])) fun I _ _=>fun b h=>h
 exact⟨hn,J,_,_,bN,av.mono aY fun s d J=>de _ _ (fun e=>by subst e;rw[cz.1 s] at J;cases J)⟩
end
end
section
abbrev ak:bx:=.int .i64
abbrev mF:dI:=.one (.bI (.pointer none))
abbrev dw (n:Int):dI:=.one (.d (.int .i64 n))
abbrev gI:aQ:=.ce []
abbrev dn (b:Nat):aQ:=.c (.one (.d (.aM (some b))))
abbrev Qe (x:Option Nat):dI:=.one (.d (.aM x))
theorem jv {α:Type} {L:List α} {n:Nat} (h:n < L.length):fB L n=some L[n]:=oj h
theorem Fn.close {P:Program} {f:FuncId} {c:Nat} {args:List aQ} {bp aK:ay} {bf i':List Nat} {res:aQ} {dv aP:ay} {o o':bh} (fS:List Nat)
  (h:Fn P f args (bp++aK) bf res (dv++aP)) (fq: ∀I F w p,o.R I F w p->iA c bp I F w p) (nM: ∀I F w p,iA c dv I F w p->o'.R I F w p)
  (E:nO c fS args bp aK bf i'=true) (G:nP c (mE fS bf i') res dv aP=true):
  Fn P f args ((c,.aG o)::aK) i' res ((c,.aG o')::aP):=
 (cv.close (bp:=bp) (dv:=fun _:Unit=>dv) (aP:=fun _=>aP) (o:=o) (o':=fun _=>o') fS h.x fq (fun _=>nM) E (fun _=>G)).fn
theorem Fn.E7 {P:Program} {f:FuncId} {args:List aQ} {c:Nat} {aK:ay} {bf:List Nat} {res:aQ} {aP:ay} {o:bh} {Y:Type} {sc:Y->bh} (H:jl P f=true) (ai: ∀I F w p,o.R I F w p-> ∃y,(sc y).R I F w p)
  (h: ∀y,Fn P f args ((c,.aG (sc y))::aK) bf res aP):Fn P f args ((c,.aG o)::aK) bf res aP:=by
 refine⟨H,fun ρ F I w bW b4 ci a3 a4 a5 gw=>?_⟩;have aq:ah ((c,bd.aG o)::aK) c=some (.aG o):=by rw[ca,if_pos rfl]
 obtain⟨y,aC⟩:=ai _ _ _ _ (ci c _ aq)
 have key: ∀d ch,ah ((c,bd.aG (sc y))::aK) d=some ch->(d=c/\ch= .aG (sc y))\/ah ((c,bd.aG o)::aK) d=some ch:=fun d ch J=>by
  rw[ca] at J
  split at J
  .rename_i e;injection J with J;exact .inl ⟨e.symm,J.symm⟩
  .rename_i e;exact .inr (by rw[ca,if_neg e];exact J)
 have ux: ∀d ch,ah ((c,bd.aG (sc y))::aK) d=some ch-> ∃cw,ah ((c,bd.aG o)::aK) d=some cw:=fun d ch J=>by
  rcases key d ch J with⟨e,_⟩ |h
  .rw[e];exact⟨_,aq⟩
  .exact⟨_,h⟩
 have abN: ∀d ch,ah ((c,bd.aG o)::aK) d=some ch-> ∃cw,ah ((c,bd.aG (sc y))::aK) d=some cw:=fun d ch J=>by
  rw[ca] at J⊢
  split at J
  .rename_i e;exact⟨_,by rw[if_pos e]⟩
  .rename_i e;exact⟨ch,by rw[if_neg e];exact J⟩
 have bj: ∀b,(∃d ch,ah ((c,bd.aG (sc y))::aK) d=some ch/\F d b)↔ ∃d ch,ah ((c,bd.aG o)::aK) d=some ch/\F d b:=fun b=>
  ⟨fun⟨d,ch,E,G⟩=>let⟨cw,h⟩:=ux d ch E;⟨d,cw,h,G⟩,fun⟨d,ch,E,G⟩=>let⟨cw,h⟩:=abN d ch E;⟨d,cw,h,G⟩⟩
 refine((h y).2 ρ F I w bW b4 (fun d ch J=>?_) (fun d ch J b O=>?_) (fun d cZ ch ch' b E G=>?_) a5 gw).mono ?_
 .rcases key d ch J with⟨rfl,rfl⟩ |h
  .exact aC
  .exact ci d ch h
 .obtain⟨cw,h⟩:=ux d ch J;exact a3 d cw h b O
 .obtain⟨gV,g1⟩:=ux d ch E;obtain⟨cB,g2⟩:=ux cZ ch' G;exact a4 d cZ gV cB b g1 g2
 .rintro e w' ⟨x,ρ',F',r1,r2,ga,I',jK,lA,l4,lB,mG,nQ⟩;refine⟨x,ρ',F',r1,r2.mono fun b _ O=>(bj b).1 O,ga,I',jK,fun b O=>⟨(lA b O).1,(lA b O).2.imp id (Or.imp (bj b).1 id)⟩,l4,fun d ch J b O=>?_,mG,nQ⟩;obtain⟨g1,g2,cX⟩:=lB d ch J b O;exact⟨g1,g2,cX.imp (bj b).1 id⟩
end
section
theorem cv.Jp {P:Program} {fn:FuncId} {f g:Nat->Nat} (a6: ∀c,g (f c)=c) (hf: ∀c,f (g c)=c) {args:List aQ} {aK:ay} {bf:List Nat} {X:Type} {res:X->aQ} {aP:X->ay} (h:cv P fn args aK bf res aP):
  cv P fn (xk f args) (j1 f aK) (zl f bf) (fun x=>(res x).en f) (fun x=>j1 f (aP x)):=by
 refine⟨h.1,?_⟩;intro ρ F I w bW bb cV bj eo b6 dt;have l3: ∀(B:ay) c,ah (j1 f B) (f c)=(ah B c).map (·.en f):=BE a6;have oK: ∀{B:ay} {c ch},ah B c=some ch->ah (j1 f B) (f c)=some (ch.en f):=fun {B c ch} h=>by rw[l3,h];rfl
 have uo: ∀{B:ay} {c ch},ah (j1 f B) c=some ch-> ∃cw,ah B (g c)=some cw/\ch=cw.en f:=fun {B c ch} h=>by
  have e:=l3 B (g c);rw[hf,h] at e;obtain⟨cw,E,G⟩:=as0.1 e.symm;exact⟨cw,E,G.symm⟩
 rw[Jn] at b6 dt
 have H:=h.2 (fun c=>ρ (f c)) (fun c=>F (f c)) I w bW bb
  (fun c ch H=>by rw[<-BD];exact cV _ _ (oK H))
  (fun c ch H=>bj _ _ (oK H))
  (fun c bX ch ch' b E G ba=>eo _ _ _ _ b (oK E) (oK G) fun e=>ba (by rw[<-a6 c,e,a6]))
  (by simpa using b6)
  (fun i v x az hx=>by rw[<-EY];exact dt i _ x (by rw[ar0,az];rfl) hx)
 refine H.mono ?_;rintro e w' ⟨y,x,ρ',F',rfl,cz,dl,I',i6,gA,lz,aE,h2,hx⟩;have xl:(fun c=>ρ' (g (f c)))=ρ':=funext fun c=>by rw[a6]
 refine⟨y,x,fun c=>ρ' (g c),fun c=>F' (g c),rfl,?_,?_,I',i6,?_,?_,?_,?_,?_⟩
 .exact cz.mono fun b _ ⟨c,ch,E,G⟩=>⟨f c,_,oK E,G⟩
 .intro c H;show ρ' (g c)=ρ c;rw[dl (g c) (fun aA=>H (by have:=Jo (f:=f) _ _ aA;rwa[hf] at this)),hf]
 .intro b O;obtain⟨E,G⟩:=gA b O;refine⟨E,?_⟩;rcases G with G |⟨c,ch,G,al⟩ |G
  .exact .inl G
  .exact .inr (.inl ⟨f c,_,oK G,al⟩)
  .exact .inr (.inr G)
 .intro c ch H;obtain⟨cw,E,rfl⟩:=uo H;rw[BD,xl];exact lz _ _ E
 .intro c ch H b O;obtain⟨cw,E,rfl⟩:=uo H;obtain⟨cx,cA,dy⟩:=aE _ _ E b O;refine⟨cx,cA,?_⟩;rcases dy with⟨gV,cw,dy,fa⟩ |dy
  .exact .inl ⟨f gV,_,oK dy,fa⟩
  .exact .inr dy
 .intro c bX ch ch' b H cF ba;obtain⟨cw,E,rfl⟩:=uo H;obtain⟨iT,G,rfl⟩:=uo cF;exact h2 _ _ _ _ b E G fun e=>ba (by rw[<-hf c,e,hf])
 .rw[EY,xl];exact hx
theorem cv.aX {P:Program} {fn:FuncId} (l:List (Nat×Nat)) {args:List aQ} {aK:ay} {bf:List Nat} {X:Type} {res:X->aQ} {aP:X->ay} (h:cv P fn args aK bf res aP):
  cv P fn (xk (en (k5 l [])) args) (j1 (en (k5 l [])) aK) (zl (en (k5 l [])) bf) (fun x=>(res x).en (en (k5 l []))) (fun x=>j1 (en (k5 l [])) (aP x)):=
 cv.Jp (EV _) (EW _) h
theorem cv.arg {P:Program} {f:FuncId} {args args':List aQ} {aK:ay} {bf:List Nat} {X:Type} {res:X->aQ} {aP:X->ay} (h:cv P f args' aK bf res aP) (aq:D7 args args'):cv P f args aK bf res aP:=by
 obtain⟨E,G⟩:=Ja aq;refine⟨h.1,fun ρ F I w bW b4 ci a3 a4 a5 gw=>h.2 ρ F I w bW b4 ci a3 a4 (a5.trans E) fun i v x az hx=>?_⟩;obtain⟨s,g1,g2⟩:=G i v az;exact vE g2 (gw i s x g1 hx)
def bh.oP (o:bh):Prop:= ∀I F w p,o.R I F w p->F p.bk
theorem JH {I:Nat->Prop} {w:World} {b:Nat}: ∀{L:List (Nat×bh)} {F:Nat->Prop},(∀p∈L,p.2.oP)->fb I w L F->b∈L.map (·.1)->F b
 | [],_,_,_,h=>by cases h
 |p::L,F,ha,⟨cu,cI,q,E,G,al,aZ,bK⟩,h=>by
  rcases ap3.1 h with h |h
  .exact(E b).2 (.inl (by rw[h];have:=ha p (aq1 ..) _ _ _ _ aZ;rwa[al] at this))
  .exact(E b).2 (.inr (JH (fun p ag=>ha p (ap2 _ ag)) bK h))
theorem Qf {I:Nat->Prop} {w:World}: ∀{L:List (Nat×bh)} {F:Nat->Prop},(∀p∈L,p.2.oP)->fb I w L F->(L.map (·.1)).Nodup
 | [],_,_,_=>at0
 |p::L,F,ha,⟨cu,cI,q,E,G,al,aZ,bK⟩=>by
  have Qg: ∀p∈L,p.2.oP:=fun p ag=>ha p (ap2 _ ag)
  rw[aq4];refine aq7.2 ⟨fun aA=>?_,Qf Qg bK⟩;have aj:=ha p (aq1 ..) _ _ _ _ aZ;rw[al] at aj;exact G _ aj (JH Qg bK aA)
theorem df.BS {ids:List Nat} {K:a1} {B:ay} (q:Nat) {L:List (Nat×bh)} (ha: ∀p∈L,p.2.oP) (aV:ah B q=some (.aG (.bA L))):df ids K B (X:=PLift ((L.map (·.1)).Nodup)) (fun _=>K) (fun _=>B):=by
 rintro N C a w ⟨hn,J,ρ,F,ar,av⟩;have bn:fb (bZ C B F w) w L (F q):=ar.holds q _ aV;exact⟨⟨Qf ha bn⟩,hn,J,ρ,F,ar,av⟩
end
section
theorem Fn.via {P:Program} {f:FuncId} {args:List aQ} {aK:ay} {bf:List Nat} {res:aQ} {aP:ay} {X:Type} {args':X->List aQ} {uy:X->ay} {m0:X->ay} {i':X->List Nat} {res':X->aQ} {nR:X->ay} (fR:jl P f=true) (n:Nat) (hn:args.length=n)
  (fq:df (cl aK) (oJ 0 args) aK (fun x=>oJ 0 (args' x)) uy) (h: ∀x,Fn P f (args' x) (m0 x) (i' x) (res' x) (nR x)) (hP: ∀x,kI (uy x) (m0 x)) (cz: ∀x,(rU (cl aK) (oJ 0 (args' x)) (uy x) (i' x)&&mv (m0 x) (i' x) (nR x))=true) (b6: ∀x,(args' x).length=n)
  (nM: ∀x,∃(r:aQ) (js:ay),af (cl aK) ((n,res' x)::oJ 0 (args' x)) (g9 (iy (m0 x) (nR x)) (uy x)) [(n,r)] js/\sZ r res/\kI js aP/\(res.iW (cl aK++bf)&&vD (cl aK++bf) aP&&(cl aP).all (fun c=>(cl aK++bf).contains c))=true):Fn P f args aK bf res aP:=by
 refine⟨fR,fun ρ F I w bW bb cV bj eo q2 dt=>?_⟩
 let C:e8:=⟨w,I,fun b=> ∃c ch,ah aK c=some ch/\F c b,ρ,[]⟩
 let a:Act:={tmps:=(bW++[undef]).toArray,defers:=[]}
 have r9:cd I w (bZ C aK F w) w:=fun b O=>⟨⟨bb b O,.inl O,fun c ch H p7=>(bj c ch H b p7).2 O⟩,rfl⟩
 have abO:Mem (cl aK) C aK ρ F w:=⟨cJ.refl _ _,fun c ch H=>Holds.cg r9 (fun _ _=>rfl) (ap0 _) ch (fun _ _=>rfl) (cV c ch H),fun c ch H b O=>⟨(bj c ch H b O).1,.inl ⟨c,ch,H,O⟩⟩,eo,fun c _=>rfl,at0,fun b O=>O.elim (bb b) fun⟨c,ch,H,Bu⟩=>(bj c ch H b Bu).1,fun D b9=>by cases b9⟩
 have jq: ∀(i:Nat) (aI:i < bW.length),a.tmps.getD i undef=bW[i]:=fun i aI=>by
  show(bW++[undef]).toArray.getD i undef=_;rw[Array.getD_eq_getD_getElem?,List.getElem?_toArray,ar7 aI,oj aI];rfl
 have abP:eX (n+1) (cl aK) C (oJ 0 args) aK a w:=by
  refine⟨by show(bW++[undef]).toArray.size=n+1;simp[q2,hn],rfl,ρ,F,abO,fun s=>?_⟩;rw[Br];simp only[ap7,if_true,Nat.sub_zero]
  cases ax:args[s]? with
  |none=>trivial
  |some v=>
   have bw:s < bW.length:=by rw[q2];exact(ap5.1 ax).1
   simp only[Option.getD_some];have hx:bW[s]? =some bW[s]:=oj bw;have:=ct.mono r9 v _ (fun _ _=>rfl) (dt s v _ ax hx);rw[jq s bw];exact this
 obtain⟨x,jZ,w9,sd,cu,ar,av⟩:=fq (n+1) C a w abP;have qb: ∀{c ch},ah (m0 x) c=some ch->ah (uy x) c=some ch:=fun {c ch} H=>kk (hP x) H
 have cz:=cz x;rw[vj] at cz
 have H:=(h x).2 sd cu (bZ C (uy x) cu w) w bW (fun b O=>O.1) (fun c ch H=>ar.holds c ch (qb H)) (fun c ch H b O=>⟨(ar.own c ch (qb H) b O).1,fun bb=>bb.2.2 c ch (qb H) O⟩)
  (fun c bX ch ch' b E G=>ar.e9 c bX ch ch' b (qb E) (qb G)) (by rw[q2,hn,b6 x]) (fun i v y az aC=>by
   have aI:i < bW.length:=(ap5.1 aC).1;have E:=av i;rw[Br] at E;simp only[ap7,if_true,Nat.sub_zero,az,Option.getD_some] at E;rw[jq i aI] at E;rw[oj aI] at aC;injection aC with aC
   rw[<-aC];exact E)
 refine H.mono ?_;rintro e w' ⟨y,uk,cI,rfl,cx,cA,I',dy,fa,xv,vQ,xw,JI⟩;have xl:=eX.back (dst:=some n) (hP x) cz.1 cz.2 jZ w9 ar av (fun d J=>by injection J with J;omega) cx cA fa xv vQ xw JI;obtain⟨r,js,gY,abQ,E8,po⟩:=nM x;obtain⟨E9,aoR,ρ',F',bN,Bv⟩:=gY _ _ _ _ xl;simp only[vj] at po
 let zo:Nat->bo:=fun c=>if c∈bf then ρ' c else ρ c
 have JJ: ∀c,c∈cl aK++bf->zo c=ρ' c:=fun c H=>by
  show(if c∈bf then ρ' c else ρ c)=ρ' c
  split
  .rfl
  .rename_i hn;rcases aq8.1 H with h |h
   .exact(bN.ed c h).symm
   .exact absurd h hn
 have r6:ct ρ' (bZ C js F' w') w' res y:=by
  have E:=Bv n;rw[kc,if_pos rfl] at E;have G:(a.put (some n) y).tmps.getD n undef=y:=Ob (by show n < (bW++[undef]).toArray.size;simp[q2,hn]);rw[G] at E;exact vE abQ E
 refine⟨y,zo,F',rfl,bN.fr,fun c H=>if_neg H,bZ C js F' w',?_,fun b O=>⟨O.1,?_⟩,?_,?_,?_,?_⟩
 .intro b O;have vF: ¬C.p0 b:=fun⟨c,ch,E,G⟩=>(bj c ch E b G).2 O
  refine⟨⟨Nat.lt_of_lt_of_le (bb b O) bN.fr.size,.inl O,fun c ch H p7=>?_⟩,bN.fr.block b (bb b O) vF⟩;rcases(bN.own c ch H b p7).2 with h |h
  .exact vF h
  .have:=bb b O;exact absurd h.1 (Nat.not_le.2 this)
 .rcases O.2.1 with h |h |h
  .exact .inl h
  .exact .inr (.inl h)
  .exact .inr (.inr h.1)
 .intro c ch H
  have ab:c∈cl aK++bf:=by
   have:=ar4.1 po.2 c (gl.2 ⟨ch,H⟩);simpa only[ar6] using this
  rw[JJ c ab];exact Holds.cg (cd.refl _ _) (fun _ _=>rfl) (ap0 _) ch (fun d J=>JJ d (bd.km (xg po.1.2 H) J)) (bN.holds c ch (kk E8 H))
 .intro c ch H b O;have cF:=kk E8 H;exact⟨(bN.own c ch cF b O).1,fun aI=>aI.2.2 c ch cF O,(bN.own c ch cF b O).2.imp id fun x=>x.1⟩
 .exact fun c bX ch ch' b E G=>bN.e9 c bX ch ch' b (kk E8 E) (kk E8 G)
 .exact ct.mono (cd.refl _ _) res y (fun c H=>JJ c (aQ.km po.1.1 H)) r6
end
section
open Go.ChangeMaps (setBlock map_eraseIdx)
def E':(u:bx)->Z u->dI
 | .int k,n=>.one (.d (.int k n))
 | .str,s=>.one (.d (.str s))
 |_,_=>.one .any
def BT (b:Nat) (aJ aL:bx) (l:List (Nat×(Z aJ×Z aL))) (bU:Nat) (I F:Nat->Prop) (w:World) (p:bo):Prop:=
 p.bk=b/\(∀x,F x↔x=p.bk)/\ ∃bT,w.heap[p.bk]? =some (.map (List.toArray bT) bU)/\ie I w aJ aL (l.map (·.2)) bT/\bT.map (·.born)=l.map (·.1)/\lX bT bU
def bh.vR (b:Nat) (aJ aL:bx) (l:List (Nat×(Z aJ×Z aL))) (bU:Nat):bh where
 R:=BT b aJ aL l bU
 cg:=fun I F w I' w' p ⟨E,G,bT,al,aZ,bK,fD⟩ V bj aR=>⟨E,G,bT,(bj _ ((G _).2 rfl)).trans al,aZ.mono V,bK,fD⟩
def JK (b kn:Nat) (bF:List Nat) (at_:Nat) (I F:Nat->Prop) (w:World) (p:bo):Prop:=(∀x,F x↔x=p.bk)/\w.heap[p.bk]? =some (.mapIter (some b) kn (List.toArray bF) at_)
def bh.vS (b kn:Nat) (bF:List Nat) (at_:Nat):bh where
 R:=JK b kn bF at_
 cg:=fun I F w I' w' p ⟨E,G⟩ V bj aR=>⟨E,(bj _ ((E _).2 rfl)).trans G⟩
section
variable {P:Program} {ids:List Nat} {K:a1} {B:ay}
theorem abR {bT:List MapEntry} {bU:Nat} (h:lX bT bU):(bT.map (·.born)).Pairwise (· < ·)/\ ∀x∈bT.map (·.born),x < bU:=⟨h.1,fun x hx=>by
 obtain⟨e,V,rfl⟩:=ar2.1 hx;exact h.2 e V⟩
theorem Qh {α lC:Type}: ∀{l:List α} {m:List lC},l.length=m.length->(l.zip m).map (·.1)=l/\(l.zip m).map (·.2)=m
 | [],[],_=>⟨rfl,rfl⟩
 |a::l,b::m,h=>by
  obtain⟨E,G⟩:=Qh (l:=l) (m:=m) (by simpa using h);simp[E,G]
structure Qi (aJ aL:bx) (es:List (Z aJ×Z aL)) where
 b:Nat
 l:List (Nat×(Z aJ×Z aL))
 bU:Nat
 snd:l.map (·.2)=es
 aoS:(l.map (·.1)).Pairwise (· < ·)
 lt: ∀x∈l.map (·.1),x < bU
theorem df.Qj (c:Nat) {aJ aL:bx} {es:List (Z aJ×Z aL)} (H:ah B c=some (.map aJ aL es)):df ids K B (X:=Qi aJ aL es) (fun _=>K) (fun x=>(c,.aG (.vR x.b aJ aL x.l x.bU))::B):=by
 rintro N C a w ⟨hn,J,ρ,F,ar,av⟩;obtain⟨bj,bT,bU,O,aA,c'⟩:=ar.holds c _ H;have b6:(bT.map (·.born)).length=es.length:=by rw[aq3,AZ aA]
 obtain⟨kj,qZ⟩:=Qh b6;obtain⟨r1,r2⟩:=abR c'
 let x:Qi aJ aL es:=⟨(ρ c).bk,(bT.map (·.born)).zip es,bU,qZ,by rw[kj];exact r1,by rw[kj];exact r2⟩
 obtain⟨bN,aY⟩:=ar.hN (w':=w) (ch:=.aG (.vR x.b aJ aL x.l x.bU)) H (cJ.refl _ _) fun I bb=>⟨rfl,bj,bT,O,by
  show ie I w aJ aL (((bT.map (·.born)).zip es).map (·.2)) bT;rw[qZ];exact aA.mono bb,kj.symm,c'⟩
 exact⟨x,hn,J,ρ,F,bN,av.mono aY fun _ _ _=>rfl⟩
theorem af.Qk (c:Nat) {b:Nat} {aJ aL:bx} {l:List (Nat×(Z aJ×Z aL))} {bU:Nat} (H:ah B c=some (.aG (.vR b aJ aL l bU))):af ids K B K ((c,.map aJ aL (l.map (·.2)))::B):=by
 rintro N C a w ⟨hn,J,ρ,F,ar,av⟩;obtain⟨O,bj,bT,al,aZ,bK,fD⟩:BT b aJ aL l bU _ (F c) w (ρ c):=ar.holds c _ H;obtain⟨bN,aY⟩:=ar.hN (w':=w) (ch:=.map aJ aL (l.map (·.2))) H (cJ.refl _ _) fun I bb=>⟨bj,bT,bU,al,aZ.mono bb,fD⟩
 exact⟨hn,J,ρ,F,bN,av.mono aY fun _ _ _=>rfl⟩
theorem Ql {o:Oper} {T kt et:TypeId} {x:Operand} {c d:Nat} (ai:o.op= .range T x) (cc:P.underlying T=some (.map kt et)) (hx:a7 K x= .c (.one (.mp c))) {b:Nat} {aJ aL:bx} {l:List (Nat×(Z aJ×Z aL))} {bU:Nat}
  (H:ah B c=some (.aG (.vR b aJ aL l bU))) (N:Nat):bB P N ids o K B (.c (.one (.ptr d 0))) ⟨[c],[d],[(d,some (.aG (.vS b bU [] bU)))]⟩:=by
 have aA:x∈o.op.operands:=by rw[ai];simp[Op.operands]
 refine bB.make (fun e V=>(ap6 V).symm) fun K' B' g1 g2 C ρ F a w ar av _=>?_
 have cF:=(g2 c au7).trans H;obtain⟨O,bj,bT,al,aZ,bK,fD⟩:BT b aJ aL l bU _ (F c) w (ρ c):=ar.holds c _ cF;have aj:=av.mp ((g1 x aA).trans hx);refine⟨.pointer (some ⟨w.heap.size,0,none⟩),w.alloc (.mapIter (some (ρ c).bk) bU #[] bU),⟨w.heap.size,none,0,0⟩,fun y=>y=w.heap.size,?_,(Below.refl _ _).alloc (ap0 _) _,fun y aC=>?_,fun I aY bb=>⟨⟨fun y=>Iff.rfl,?_⟩,?_⟩⟩
 .simp[execOp,ai,aj,run_range_map w T kt et (ρ c).bk _ bU cc al,Result.andThen]
 .subst aC;simp
 .rw[<-O];exact heap_alloc_new w _
 .show _=Value.pointer (some ⟨(c5 ρ d _ d).bk,0,none⟩);rw[c6]
theorem JL {I:Nat->Prop} {w:World} {aJ aL:bx}: ∀{l:List (Z aJ×Z aL)} {es:List MapEntry},ie I w aJ aL l es-> ∀{j:Nat} {e:MapEntry},es[j]? =some e-> ∃p,l[j]? =some p/\e.key=gF aJ p.1/\jk I w aL p.2 e.val
 | [],_,h,j,e,V=>by rw[show _=[] from h] at V;simp at V
 |p::l,_,⟨b5,r,h,E,G,al⟩,0,e,V=>by
  rw[h] at V;simp only[aq5,ap4] at V;subst V;exact⟨p,rfl,E,G⟩
 |p::l,_,⟨b5,r,h,E,G,al⟩,j+1,e,V=>by
  rw[h] at V;simp only[au2] at V⊢;exact JL al V
theorem Qm {b:Nat} {aJ aL:bx} {l:List (Nat×(Z aJ×Z aL))} {I:Nat->Prop} {w:World} {bT:List MapEntry} (aA:ie I w aJ aL (l.map (·.2)) bT) (O:bT.map (·.born)=l.map (·.1)) {e:MapEntry} (V:e∈bT): ∃p∈l,p.1=e.born/\e.key=gF aJ p.2.1/\jk I w aL p.2.2 e.val:=by
 obtain⟨j,aa,rfl⟩:=List.getElem_of_mem V;have ki:bT[j]? =some bT[j]:=oj aa;obtain⟨q,aV,E,G⟩:=JL aA ki;rw[ar0] at aV;obtain⟨p,ag,rfl⟩:=as0.1 aV;have BU:(bT.map (·.born))[j]? =(l.map (·.1))[j]? :=by rw[O]
 rw[ar0,ar0,ki,ag] at BU;exact⟨p,List.mem_of_getElem? ag,by simpa using BU.symm,E,G⟩
theorem Qn {aJ aL:bx} {l:List (Nat×(Z aJ×Z aL))} {I:Nat->Prop} {w:World} {bT:List MapEntry} (aA:ie I w aJ aL (l.map (·.2)) bT) (O:bT.map (·.born)=l.map (·.1)) {p:Nat×(Z aJ×Z aL)} (ag:p∈l): ∃e∈bT,e.born=p.1/\e.key=gF aJ p.2.1/\jk I w aL p.2.2 e.val:=by
 obtain⟨j,aa,rfl⟩:=List.getElem_of_mem ag;have ki:l[j]? =some l[j]:=oj aa;have b6:bT.length=l.length:=by have:=congrArg List.length O;simpa using this
 have V:bT[j]? =some (bT[j]'au5):=oj au5;obtain⟨q,aV,E,G⟩:=JL aA V;rw[ar0,ki] at aV;simp only[at2,ap4] at aV;subst aV;have BU:(bT.map (·.born))[j]? =(l.map (·.1))[j]? :=by rw[O]
 rw[ar0,ar0,ki,V] at BU;exact⟨_,ar3 _,by simpa using BU,E,G⟩
theorem Qo {ρ:Nat->bo} {I:Nat->Prop} {w:World}: ∀(u:bx) (x:Z u),gy ρ I w (E' u x) (gF u x)
 | .int _,_=>rfl
 | .str,_=>rfl
 | .u8,_=>trivial
 | .bool,_=>trivial
 | .aM,_=>trivial
 | .dC,_=>trivial
 | .fn,_=>trivial
 | .b7 _,_=>trivial
 | .bR _ _,_=>trivial
 | .arr _ _,_=>trivial
def abS (r b kn:Nat) (bF:List Nat) (aJ aL:bx) (l:List (Nat×(Z aJ×Z aL))) (bU c:Nat) (v:aQ) (e:fP):Prop:=
 (∃p∈l,p.1∉bF/\v= .ce [.one (.d (.lit true)),E' aJ p.2.1,yS aL p.2.2]/\e=⟨[c,r],[],[(r,some (.aG (.vS b kn (bF++[p.1]) bU)))]⟩)\/
 ((∀p∈l,p.1∈bF)/\v= .ce [.one (.d (.lit false))]/\e=bG)
theorem Qp {o:Oper} {it:Operand} {c r:Nat} (ai:o.op= .next it false) (hx:a7 K it= .c (.one (.ptr r 0))) {b kn:Nat} {bF:List Nat} {at_:Nat} {aJ aL:bx} {l:List (Nat×(Z aJ×Z aL))} {bU:Nat}
  (aF:ah B r=some (.aG (.vS b kn bF at_))) (H:ah B c=some (.aG (.vR b aJ aL l bU))) (mC: ∀p∈l,p.1 < kn) (abT:kn<=at_):xn P ids o K B (abS r b kn bF aJ aL l bU c):=by
 rintro N C a w ax bw fC Q di;have JM:=ax;obtain⟨hn,J,ρ,F,ar,av⟩:=ax;obtain⟨O,bj,bT,al,aZ,bK,fD⟩:BT b aJ aL l bU _ (F c) w (ρ c):=ar.holds c _ H;obtain⟨iV,jG⟩:JK b kn bF at_ (bZ C B F w) (F r) w (ρ r):=ar.holds r _ aF;have aj:a.eval it= .pointer (some ⟨(ρ r).bk,0,none⟩):=av.ev hx
 have abU: ∀x∈(List.toArray bT).toList,x.born < kn:=fun x hx=>by
  obtain⟨p,ag,h,_⟩:=Qm (b:=b) aZ bK (e:=x) (by simpa using hx);rw[<-h];exact mC p ag
 rw[O] at al;rcases run_next_at (P:=P) w o.type (ρ r).bk b kn at_ (List.toArray bF) (List.toArray bT) bU jG al abU abT with⟨aR,dO⟩ |⟨e,V,dz,xx,dO⟩
 .unfold Oper.wp;have hx:(execOp a.eval o).run P w= .ok (.value (.tuple #[.bool false])) w:=by simp[execOp,ai,aj,dO,Result.andThen]
  rw[hx,Oper.upon_value];refine di (.ce [.one (.d (.lit false))]) bG _ _ (.inr ⟨fun p ag=>?_,rfl,rfl⟩) ⟨ke.trans hn,kf.trans J,ρ,F,ar,av.kg (fun e V=>by rw[hn];exact bw e V) ⟨[.bool false],rfl,_,_,rfl,rfl,rfl⟩⟩;obtain⟨e,V,E,_⟩:=Qn aZ bK ag;rw[<-E];have JN:leftOf (List.toArray bT) (List.toArray bF)= #[]:=Array.eq_empty_of_size_eq_zero aR;unfold leftOf at JN;rw[Array.filter_eq_empty_iff] at JN;have:=JN e (by simpa using V);simpa using this
 .obtain⟨JO,qc⟩:=mem_left V;have JO:e∈bT:=by simpa using JO
  have qc:e.born∉bF:=by
   intro bl;have:(List.toArray bF).contains e.born=true:=by simpa using bl
   rw[this] at qc;cases qc
  obtain⟨p,ag,cx,cA,dy⟩:=Qm (b:=b) aZ bK JO;unfold Oper.wp;have hx:(execOp a.eval o).run P w= .ok (.value (.tuple #[.bool true,e.key,e.val])) (setBlock dz (ρ r).bk (.mapIter (some b) kn ((List.toArray bF).push e.born) bU)):=by simp[execOp,ai,aj,dO,Result.andThen]
  rw[hx,Oper.upon_value];have q9:(ρ r).bk < w.heap.size:=k0 jG
  have zp:dz.heap=w.heap/\dz.os=w.os/\dz.tape=w.tape/\dz.output=w.output:=by
   rcases xx with rfl |rfl <;>exact⟨rfl,rfl,rfl,rfl⟩
  have cz:cJ (F r) w (setBlock dz (ρ r).bk (.mapIter (some b) kn ((List.toArray bF).push e.born) bU)):=by
   refine⟨zp.2.1,zp.2.2.1,zp.2.2.2,by simp[setBlock,zp.1],fun k ab zq=>?_⟩;have ba:k≠(ρ r).bk:=fun h=>zq ((iV k).2 h)
   simp[setBlock,zp.1,Array.getElem?_setIfInBounds_ne (Ne.symm ba)]
  obtain⟨bN,aY⟩:=ar.hN (w':=setBlock dz (ρ r).bk (.mapIter (some b) kn ((List.toArray bF).push e.born) bU)) (ch:=.aG (.vS b kn (bF++[p.1]) bU)) aF cz fun I bb=>⟨iV,by
   simp[setBlock,zp.1,q9,cx]⟩
  refine di (.ce [.one (.d (.lit true)),E' aJ p.2.1,yS aL p.2.2]) ⟨[c,r],[],[(r,some (.aG (.vS b kn (bF++[p.1]) bU)))]⟩ _ _ (.inl ⟨p,ag,by rw[cx];exact qc,rfl,rfl⟩)
   ⟨ke.trans hn,kf.trans J,ρ,F,bN,(av.mono aY fun _ _ _=>rfl).kg (fun e V=>by rw[hn];exact bw e V) ⟨[.bool true,e.key,e.val],rfl,_,_,rfl,rfl,_,_,rfl,?_,_,_,rfl,EC (dy.mono aY),rfl⟩⟩
  rw[cA];exact Qo aJ _
theorem Qq {o:Oper} {it:Operand} {c r:Nat} (ai:o.op= .entry it) (hx:a7 K it= .c (.one (.ptr r 0))) {b kn:Nat} {bF:List Nat} {aJ aL:bx} {l:List (Nat×(Z aJ×Z aL))} {bU:Nat} {p:Nat×(Z aJ×Z aL)}
  (aF:ah B r=some (.aG (.vS b kn (bF++[p.1]) bU))) (H:ah B c=some (.aG (.vR b aJ aL l bU))) (ag:p∈l) (N:Nat):bB P N ids o K B (.ce [E' aJ p.2.1,yS aL p.2.2]) ⟨[c,r],[],[]⟩:=by
 have aA:it∈o.op.operands:=by rw[ai];simp[Op.operands]
 refine bB.val fun K' B' g1 g2 C ρ F a w ar av=>?_
 have cF:=(g2 c au7).trans H;have I2:=(g2 r au7).trans aF;obtain⟨O,bj,bT,al,aZ,bK,fD⟩:BT b aJ aL l bU _ (F c) w (ρ c):=ar.holds c _ cF;obtain⟨iV,jG⟩:JK b kn (bF++[p.1]) bU (bZ C B' F w) (F r) w (ρ r):=ar.holds r _ I2;have aj:a.eval it= .pointer (some ⟨(ρ r).bk,0,none⟩):=av.ev ((g1 it aA).trans hx);obtain⟨e,V,cx,cA,dy⟩:=Qn aZ bK ag;rw[O] at al
 have d0:((List.toArray bT).toList.map (·.born)).Nodup:=by
  show(bT.map (·.born)).Nodup;exact fD.1.imp fun h=>by omega
 have abV:w.heap[(ρ r).bk]? =some (.mapIter (some b) kn ((List.toArray bF).push e.born) bU):=by rw[jG,cx];simp
 have dO:=run_entry_at (P:=P) w (ρ r).bk b kn (List.toArray bF) (List.toArray bT) bU e abV al (by simpa using V) d0;refine⟨_,by simp[execOp,ai,aj,dO,Result.andThen],[e.key,e.val],rfl,_,_,rfl,?_,_,_,rfl,EC dy,rfl⟩;rw[cA];exact Qo aJ _
theorem xn.of {o:Oper} {v:aQ} {ig:List Nat} {hy:List (Nat×Option bd)} (h: ∀N,bB P N ids o K B v ⟨ig,[],hy⟩):xn P ids o K B (fun cU b5=>cU=v/\b5=⟨ig,[],hy⟩):=fun N C a w ax bw fC Q di=>
 h N K B (fun _ _=>rfl) (fun _ _=>rfl) (fun c H=>by cases H) C a w ax bw fC Q fun a' w' d1=>di v ⟨ig,[],hy⟩ a' w' ⟨rfl,rfl⟩ d1
theorem abW {o:Oper} {T fE b5:TypeId} {x:Operand} {c:Nat} (ai:o.op= .binOp .eql T x (.const (.slice none 0 0)) fE) (hx:a7 K x= .c (.one (.own c))) {e:TypeId} {u:bx} {xs:List (Z u)} (H:ah B c=some (.row e u xs)) (cc:P.underlying T=some (.slice b5)):
  xn P ids o K B (fun v JP=> ∃b:Bool,(b=true->xs=[])/\v= .c (.one (.d (.lit b)))/\JP=⟨[c],[],[]⟩):=by
 rintro N C a w ⟨hn,J,ρ,F,ar,av⟩ bw fC Q di;obtain⟨bj,k3,cs,du,jJ⟩:=ar.holds c _ H;have aj:a.eval x=(ρ c).er:=av.ev hx
 have dO:(execOp a.eval o).run P w= .ok (.value (.bool (ρ c).A.isNone)) w:=by
  simp only[execOp,ai,aj,bo.er];have ap:a.eval (.const (.slice none 0 0))= .slice none 0 0:=rfl;have h:=Lib.run_eql_slice_nil (P:=P) w T b5 (ρ c).A (ρ c).n (ρ c).cap 0 0 cc;simp[ap,h,Result.andThen,eqGuard]
 unfold Oper.wp;rw[dO,Oper.upon_value];refine di (.c (.one (.d (.lit (ρ c).A.isNone)))) ⟨[c],[],[]⟩ _ _ ⟨_,fun O=>?_,rfl,rfl⟩ ⟨ke.trans hn,kf.trans J,ρ,F,ar,av.kg (fun e V=>by rw[hn];exact bw e V) rfl⟩;rcases du.2 with⟨_,h⟩ |⟨g,cap,c8,h,_⟩
 .exact List.eq_nil_of_length_eq_zero h
 .have E:(ρ c).A=some ⟨g,0,none⟩:=by simp only[bo.er] at h;injection h
  rw[E] at O
  cases O
end
end
section
def hd (x:D):bh where
 R:=fun I F w p=>Holds (fun _=>p) I F w p (.cells [.d x])
 cg:=fun I F w I' w' p h V bj aR=>Holds.cg V bj aR (.cells [.d x]) (fun _ _=>rfl) h
theorem abX {c:Nat} {x:D}: ∀I F w p,iA c [(c,.cells [.d x])] I F w p->(hd x).R I F w p:=by
 rintro I F w p ⟨ρ,b8,E,G,al,aZ⟩;have h:=G c _ (by rw[ca,if_pos rfl]);rw[E] at h
 have kL:F=b8 c:=by
  funext b
  refine propext ((aZ b).trans ⟨?_,fun g=>⟨c,_,by rw[ca,if_pos rfl],g⟩⟩);rintro⟨d,ch,e,g⟩;rw[ca] at e
  split at e
  .rename_i ap;rw[<-ap] at g;exact g
  .cases e
 rw[kL];exact Holds.cg (cd.refl _ _) (fun _ _=>rfl) (ap0 _) (.cells [.d x]) (fun d J=>by cases J) h
section
variable {P:Program} {ids:List Nat} {K:a1} {B:ay}
theorem BV {o:Oper} {T:TypeId} {x:Operand} {q b:Nat} {y:D} {L:List (Nat×bh)} {d:TypeDesc} (ai:o.op= .load T x) (cc:P.underlying T=some d) (J:d.isRow=false) (hx:a7 K x= .c (.one (.d (.aM (some b)))))
  (aV:ah B q=some (.aG (.bA L))) (cW:eg L b=some (hd y)) (N:Nat):bB P N ids o K B (.c (.one (.d y))) ⟨[q],[],[]⟩:=by
 have aA:x∈o.op.operands:=by rw[ai];simp[Op.operands]
 refine bB.val fun K' B' g1 g2 C ρ F a w ar av=>?_
 have Fa:=(g2 q au7).trans aV;have bn:fb (bZ C B' F w) w L (F q):=ar.holds q _ Fa;obtain⟨cu,cI,p,cf,cM,eb,eA,uu⟩:=bn.out cW;have az:a.eval x= .pointer (some ⟨b,0,none⟩):=av.ev ((g1 x aA).trans hx);obtain⟨E,aD,eT,G,al⟩:=eA;obtain⟨v,r,e,aZ,bK⟩:=al;have bK:r=[]:=bK;subst bK e;rw[eb] at G;exact⟨v,Ep ai az cc J (oD G rfl),aZ⟩
theorem Qr {o:Oper} {T fE b5:TypeId} {x:Operand} {u:bx} {xs:List (Z u)} (ai:o.op= .binOp .eql T x (.const (.slice none 0 0)) fE) (hx:a7 K x= .c (.one (.d (.ck u xs)))) (cc:P.underlying T=some (.slice b5)):
  xn P ids o K B (fun v JP=> ∃b:Bool,(b=true->xs=[])/\v= .c (.one (.d (.lit b)))/\JP=⟨[],[],[]⟩):=by
 rintro N C a w ⟨hn,J,ρ,F,ar,av⟩ bw fC Q di;obtain⟨A,cap,aj,G,al,aZ⟩:gE (bZ C B F w) w (.ck u xs) (a.eval x):=av.ev hx;injection aj with aj
 have dO:(execOp a.eval o).run P w= .ok (.value (.bool A.isNone)) w:=by
  simp only[execOp,ai,aj];have ap:a.eval (.const (.slice none 0 0))= .slice none 0 0:=rfl;have h:=Lib.run_eql_slice_nil (P:=P) w T b5 A (List.length xs) cap 0 0 cc;simp[ap,h,Result.andThen,eqGuard]
 unfold Oper.wp;rw[dO,Oper.upon_value];refine di (.c (.one (.d (.lit A.isNone)))) ⟨[],[],[]⟩ _ _ ⟨_,fun O=>?_,rfl,rfl⟩ ⟨ke.trans hn,kf.trans J,ρ,F,ar,av.kg (fun e V=>by rw[hn];exact bw e V) rfl⟩;rcases Nat.eq_zero_or_pos (List.length xs) with h |h
 .exact List.eq_nil_of_length_eq_zero h
 .obtain⟨b,q,eG,_⟩:=aZ h;rw[eG] at O
  cases O
theorem abY {aU:dd} (bn:d6 P aU) {o:Oper} {T et:TypeId} {te:cb} {x y aB:Operand} {u:bx} {xs:List (Z u)} {n:Int} (ai:o.op= .slice T x none (some y) (some aB)) (V:elemOf aU T=some (et,te)) (aR:te.size=aS u)
  (hx:a7 K x= .c (.one (.d (.ck u xs)))) (aC:a7 K y= .c (.one (.d (.int .i64 n)))) (s9:a7 K aB= .c (.one (.d (.int .i64 n)))) (aw:0<=n) (E:n<=List.length xs) (N:Nat):
  bB P N ids o K B (.c (.one (.d (.ck u (xs.take n.toNat))))) ⟨[],[],[]⟩:=by
 have m1:x∈o.op.operands:=by rw[ai];simp[Op.operands]
 have m2:y∈o.op.operands:=by rw[ai];simp[Op.operands]
 have m3:aB∈o.op.operands:=by rw[ai];simp[Op.operands]
 refine bB.val fun K' B' g1 g2 C ρ F a w ar av=>?_
 obtain⟨A,cap,bm,c0,fQ,hO⟩:=av.ck ((g1 x m1).trans hx);injection bm with bm
 have aj:=av.int ((g1 y m2).trans aC);have ap:=av.int ((g1 aB m3).trans s9);obtain⟨cc,c7,ds,bu⟩:=pm bn V;have cQ:(sizeOf et).run P w= .ok (aS u) w:=by simp[sizeOf,typeInfo,bu.jF,bu.size,aR]
 have q:n<=(cap:Int):=by omega
 have O:(Instr.sliceBounds true (List.length xs) cap none (some (a.eval y)) (some (a.eval aB))).run P w= .ok (0,n.toNat,n.toNat) w:=by
  simp[Instr.sliceBounds,Instr.sliceBound,asIntOf,aj,ap,aw,q];intro bw;omega
 have b6:List.length (xs.take n.toNat)=n.toNat:=by rw[ap8];omega
 refine⟨.slice (if n.toNat=0 then A else A.map (·.add (0*aS u))) (n.toNat - 0) (n.toNat - 0),?_,?_⟩
 .simp only[execOp,ai,Sem.run_bind,Instr.sliceAt,Instr.slice,run_underlying cc,Result.andThen_ok,bm,Option.map_none,at2,O,cQ,Sem.run_pure]
 .refine⟨_,n.toNat,by rw[b6];rfl,by rw[b6];exact ap0 _,au5,fun nK=>?_⟩;rw[b6] at nK;obtain⟨b,cA,rfl,bb,J⟩:=hO au5;refine⟨b,cA,by rw[if_neg au5,Nat.zero_mul];rfl,bb,fun i x pk=>?_⟩
  have IR:fB (α:=Z u) xs i=some x:=by
   unfold fB at pk⊢;rw[List.getElem?_take] at pk
   split at pk
   .exact pk
   .cases pk
  exact J i x IR
theorem df.box (s c q:Nat) {x:D} {L:List (Nat×bh)} (ax:dA K s= .c (.one (.ptr c 0))) (H:ah B c=some (.cells [.d x])) (ba:c≠q) (aV:ah B q=some (.aG (.bA L))):
  df ids K B (fun b:Nat=>(s,.c (.one (.d (.aM (some b)))))::K) (fun b=>(q,.aG (.bA ((b,hd x)::L)))::gL ((c,.aG ((hd x).at b))::(c,.aG (hd x))::gL B c) c):=by
 intro N C a w h;have E:=af.close (ids:=ids) (K:=K) (B:=B) c [(c,.cells [.d x])] (o:=hd x) ⟨H,trivial⟩ (by simp[cl]) abX N C a w h;obtain⟨b,G⟩:=df.name (ids:=ids) s c (o:=hd x) ax (by rw[ca,if_pos rfl]) N C a w E;refine⟨b,?_⟩
 have JQ:ah ((c,bd.aG ((hd x).at b))::(c,.aG (hd x))::pq (cl [(c,bd.cells [.d x])]) B) q=some (.aG (.bA L)):=by
  rw[ca,if_neg ba,ca,if_neg ba];show ah (gL B c) q=_;rw[hk,if_neg ba];exact aV
 exact af.put (ids:=ids) q c (o:=hd x) (b:=b) (L:=L) ba JQ (by rw[ca,if_pos rfl]) N C a w G
end
theorem bt.m5 {P:Program} {N:Nat} {ids:List Nat} {K:a1} {B:ay} {c:Code} {Q:A5} (f:Nat) (eH:N<=1000000) (h:bt P N ids c ((1000000+f,.undef)::K) B Q):bt P N ids c K B Q:=by
 intro r aF C h0 aV a w ax;refine h r aF C h0 aV a w ?_;obtain⟨hn,J,ρ,F,ar,av⟩:=ax;refine⟨hn,J,ρ,F,ar,fun s=>?_⟩;rw[kc]
 split
 .rename_i e;subst e;show a.tmps.getD (1000000+f) undef=undef;rw[Array.getD_eq_getD_getElem?,Array.getElem?_eq_none au5];rfl
 .exact av s
theorem abZ {P:Program} {ids:List Nat} {K:a1} {B:ay} {o:Oper} {f:FuncId} {c:Call} {xs:List Operand} {aK:ay} {res:aQ} {aP:ay} (ai:o.op= .call c) (E:c.callee= .value (.func f)) (G:c.args.toList=xs) (hf:Fn P f (xs.map (a7 K)) aK [] res aP) (hP:kI B aK) (bu:mv aK [] aP=true) (nS: ∀c,ah aP c=ah aK c) (N:Nat):
  bB P N ids o K B res ⟨cl aK,[],[]⟩:=by
 obtain⟨v,e,⟨rfl,rfl⟩,aE,_⟩:cC P N ids o K B (fun v e=>v=res/\e=⟨cl aK,[],iy aK aP⟩):=Pd ai E G ⟨aK,[],res,aP,hf,hP,by rw[bu];rfl,by rw[rT];exact⟨rfl,rfl⟩⟩;intro K' B' g1 g2 cX C a w ax bw fC Q di;refine aE K' B' g1 g2 cX C a w ax bw fC Q fun a' w' d1=>di a' w' (d1.congr (fun _=>rfl) fun d=>?_)
 show ah B' d=ah (g9 (iy aK aP) B') d;rw[EE aK aK [] aP B' bu,nS]
 cases J:ah aK d with
 |none=>
  simp only;rw[if_neg fun ab=>by obtain⟨ch,h⟩:=gl.1 ab;rw[J] at h;cases h]
 |some ch=>exact(g2 d (gl.2 ⟨ch,J⟩)).trans (kk hP J)
theorem bt.ab0 {P:Program} {N:Nat} {ids:List Nat} {K:a1} {B:ay} {c:Code} {Q:A5} (d:Nat) (eH:N<=1000000) (h:bt P N ids c ((1000000+(1000000+d),.undef)::K) B Q):bt P N ids c K B Q:=bt.m5 (1000000+d) eH h
theorem ab1 {P:Program} {ids:List Nat} {K:a1} {B:ay} {o:Oper} {T e d:Nat} {x:Operand} {s:List UInt8} {c7:TypeInfo} (ai:o.op= .buildSlice T 1 #[(0,x)]) (cc:P.underlying T=some (.slice e)) (aI:P.info? e=some c7) (aR:c7.zero=some (.string ⟨#[]⟩)) (ax:c7.size=1)
  (hx:a7 K x= .c (.one (.d (.str s)))) (N:Nat):bB P N ids o K B (.c (.one (.own d))) ⟨[],[d],[(d,some (.row e .str [s]))]⟩:=by
 have m1:x∈o.op.operands:=by rw[ai];simp[Op.operands]
 refine bB.make (fun d h=>Bf h) fun K' B' g1 g2 C ρ F a w ar av hn=>?_
 have aj:a.eval x= .string ⟨List.toArray s⟩:=av.ev ((g1 x m1).trans hx);refine⟨.slice (some ⟨w.heap.size,0,none⟩) 1 1,w.alloc (.cells (List.toArray [.string ⟨List.toArray s⟩]) e),⟨w.heap.size,some ⟨w.heap.size,0,none⟩,1,1⟩,fun b=>b=w.heap.size,?_,sU w _,fun b O=>(by subst O;exact⟨ap0 _,au7⟩),fun I V O=>⟨⟨?_,?_,[.string ⟨List.toArray s⟩],?_,fun i y aC=>?_⟩,?_⟩⟩
 .have dO:=run_buildSlice (P:=P) w T e 1 (#[(0,x)].map fun p=>(p.1,a.eval p.2)) (List.toArray [.string ⟨List.toArray s⟩]) c7 (.string ⟨#[]⟩) cc aI aR (by rw[ax];decide)
   (by rw[ax];decide) (by
    rw[ax];have ev:(Value.string ⟨List.toArray s⟩).cells= #[.string ⟨List.toArray s⟩]:=rfl;simp[aj,Instr.fill,ev];rw[show Array.range 1= #[0] from rfl];simp)
  unfold execOp;simp only[ai,Sem.run_bind,dO,Result.andThen_ok];rfl
 .intro b;show b=w.heap.size↔some w.heap.size=some b;rw[ap4];exact eq_comm
 .intro b O;have O:some w.heap.size=some b:=O;injection O with O
  exact O.symm
 .exact Ey w e 1 1 [.string ⟨List.toArray s⟩] rfl au6
 .match i with
  |0=>
   have aC:some s=some y:=aC;injection aC with aC
   subst aC;rfl
  |i+1=>
   have aC:(none:Option (List UInt8))=some y:=aC
   cases aC
 .simp only[ct,gy,dS,c6];rfl
end
section
def eZ {aJ aL:bx} (es:List (Z aJ×Z aL)):Prop:=es.Pairwise fun p q=>fV aJ p.1 q.1=false
theorem ab2 (a b:Int):yI a b=true↔a=b:=decide_eq_true_iff
theorem ab3 (a b:List UInt8):yJ a b=true↔a=b:=decide_eq_true_iff
theorem q' {k:IntKind} (a b:Z (.int k)):fV (.int k) a b=true↔a=b:=ab2 a b
theorem qd (a b:Z .str):fV .str a b=true↔a=b:=ab3 a b
section
variable {aJ aL:bx} (cW: ∀a b:Z aJ,fV aJ a b=true↔a=b)
include cW
theorem ra {a b:Z aJ} (h:a≠b):fV aJ a b=false:=by
 cases e:fV aJ a b with
 |false=>rfl
 |true=>exact absurd ((cW a b).1 e) h
theorem BW (a:Z aJ):fV aJ a a=true:=(cW a a).2 rfl
theorem zr (k:Z aJ) (x:Z aL): ∀(es:List (Z aJ×Z aL)),b0 (dr es k x) k=some x/\ ∀j,j≠k->b0 (dr es k x) j=b0 es j
 | []=>by
  refine⟨?_,fun j aa=>?_⟩
  .simp only[dr,b0,BW cW]
  .simp only[dr,b0,ra cW aa]
 |p::es=>by
  obtain⟨E,G⟩:=zr k x es;unfold dr
  cases e:fV aJ k p.1 with
  |true=>
   have aj:=(cW _ _).1 e;simp only;refine⟨by simp only[b0,BW cW],fun j aa=>?_⟩;simp only[b0,ra cW aa,ra cW (fun h=>aa (h.trans aj.symm))]
  |false=>
   simp only;refine⟨by simp only[b0,e,E],fun j aa=>?_⟩;simp only[b0,G j aa]
theorem Qs {k:Z aJ}: ∀{es:List (Z aJ×Z aL)},(∀p,p∈es->fV aJ p.1 k=false)->b0 es k=none
 | [],_=>rfl
 |p::es,h=>by
  have E:=h p (aq1 ..);have:fV aJ k p.1=false:=ra cW fun e=>by rw[e,BW cW] at E;cases E
  simp only[b0,this];exact Qs fun q aV=>h q (ap2 _ aV)
theorem BX (k:Z aJ): ∀(es:List (Z aJ×Z aL)),eZ es->b0 (gG es k) k=none/\ ∀j,j≠k->b0 (gG es k) j=b0 es j
 | [],_=>⟨rfl,fun _ _=>rfl⟩
 |p::es,hn=>by
  obtain⟨cH,dF⟩:=List.pairwise_cons.1 hn;obtain⟨E,G⟩:=BX k es dF;unfold gG
  cases e:fV aJ k p.1 with
  |true=>
   have aj:=(cW _ _).1 e;subst aj;simp only;refine⟨Qs cW fun q aV=>?_,fun j aa=>?_⟩
   .have:=cH q aV;exact ra cW fun e=>by rw[<-e,BW cW] at this;cases this
   .simp only[b0,ra cW aa]
  |false=>
   simp only;refine⟨by simp only[b0,e,E],fun j aa=>?_⟩;simp only[b0,G j aa]
omit cW in
theorem JR {k:Z aJ} {x:Z aL}: ∀{es:List (Z aJ×Z aL)} {q:Z aJ×Z aL},q∈dr es k x->q=(k,x)\/q∈es
 | [],q,h=>by
  unfold dr at h;exact .inl (aq0.1 h)
 |p::es,q,h=>by
  unfold dr at h
  split at h
  .rcases ap3.1 h with h |h
   .exact .inl h
   .exact .inr (ap2 _ h)
  .rcases ap3.1 h with h |h
   .exact .inr (by rw[h];exact aq1 ..)
   .exact(JR h).imp id (ap2 _)
omit cW in
theorem zs {k:Z aJ}: ∀{es:List (Z aJ×Z aL)} {q:Z aJ×Z aL},q∈gG es k->q∈es
 | [],q,h=>by cases h
 |p::es,q,h=>by
  unfold gG at h
  split at h
  .exact ap2 _ h
  .rcases ap3.1 h with h |h
   .rw[h];exact aq1 ..
   .exact ap2 _ (zs h)
theorem eZ.put {k:Z aJ} {x:Z aL}: ∀{es:List (Z aJ×Z aL)},eZ es->eZ (dr es k x)
 | [],_=>List.pairwise_singleton _ _
 |p::es,hn=>by
  obtain⟨cH,dF⟩:=List.pairwise_cons.1 hn;unfold dr
  split
  .rename_i e;have aj:=(cW _ _).1 e;refine List.pairwise_cons.2 ⟨fun q aV=>?_,dF⟩;have:=cH q aV;simp only;rw[aj];exact this
  .rename_i e;refine List.pairwise_cons.2 ⟨fun q aV=>?_,eZ.put dF⟩;rcases JR aV with rfl |aV
   .simp only;exact ra cW fun h=>by rw[h,BW cW] at e;cases e
   .exact cH q aV
omit cW in
theorem eZ.k6 {k:Z aJ}: ∀{es:List (Z aJ×Z aL)},eZ es->eZ (gG es k)
 | [],h=>h
 |p::es,hn=>by
  obtain⟨cH,dF⟩:=List.pairwise_cons.1 hn;unfold gG
  split
  .exact dF
  .exact List.pairwise_cons.2 ⟨fun q aV=>cH q (zs aV),eZ.k6 dF⟩
theorem Qt {k:Z aJ} {x:Z aL}: ∀{es:List (Z aJ×Z aL)},b0 es k=some x->(k,x)∈es
 | [],h=>by cases h
 |p::es,h=>by
  unfold b0 at h
  split at h
  .rename_i e;injection h with h
   have aj:=(cW _ _).1 e;subst h aj;exact aq1 ..
  .exact ap2 _ (Qt h)
end
end
section
section
variable {P:Program} {aU:dd} {N:Nat} {ids:List Nat} {o:Oper} {K:a1} {B:ay} {C:e8} {ρ:Nat->bo} {F:Nat->Nat->Prop} {w w':World}
theorem Mem.split (h:Mem ids C B ρ F w) {c d:Nat} {cw iT oC:bd} (H:ah B c=some cw) (hf:gW ids K B d=true) (pl:bo) (cu cI:Nat->Prop) (E: ∀b,cu b->F c b) (G: ∀b,cI b->F c b) (eo: ∀b,cu b-> ¬cI b)
  (BY: ∀I,cd (bZ C B F w) w I w->Holds (c5 ρ d pl) I cu w (ρ c) iT) (ab4: ∀I,cd (bZ C B F w) w I w->Holds (c5 ρ d pl) I cI w pl oC):
  Mem ids C ((d,oC)::(c,iT)::B) (c5 ρ d pl) (c5 (c5 F c cu) d cI) w/\cd (bZ C B F w) w (bZ C ((d,oC)::(c,iT)::B) (c5 (c5 F c cu) d cI) w) w:=by
 obtain⟨h1,jn,f3,pj⟩:=kK hf;have se:c≠d:=fun e=>by rw[<-e,H] at jn;cases jn
 have sf: ∀j ch,ah ((d,oC)::(c,iT)::B) j=some ch->(j=c\/j=d)->(j=c/\ch=iT)\/(j=d/\ch=oC):=fun j ch aa aA=>by
  rw[ca] at aa
  split at aa
  .rename_i e;injection aa with aa;exact .inr ⟨e.symm,aa.symm⟩
  .rename_i e;rw[ca] at aa
   split at aa
   .rename_i e;injection aa with aa;exact .inl ⟨e.symm,aa.symm⟩
   .rename_i ap;rcases aA with aA |aA
    .exact absurd aA.symm ap
    .exact absurd aA.symm e
 have Fb:c5 (c5 F c cu) d cI c=cu:=by rw[de _ _ se,c6]
 have Fc:c5 (c5 F c cu) d cI d=cI:=by rw[c6]
 refine h.step (fun j=>j=c\/j=d) (fun j=>j=d) (cJ.refl _ _) (fun j ch aa aA=>?_) (fun j aa=>de _ _ aa) (fun j aa=>?_) (fun j aa e=>pj (e▸aa)) (fun j aa=>.inr aa) (fun j ch aa _ k ab e=>?_) (fun j ch aa aA aY=>?_) (fun j ch aa aA b O=>?_) (fun j q5 ch ch' b aa ki aA gk ba O dm=>?_)
 .rw[ca,if_neg (fun e=>aA (.inr e.symm)),ca,if_neg (fun e=>aA (.inl e.symm))] at aa;exact aa
 .rw[de _ _ (fun e=>aa (.inr e)),de _ _ (fun e=>aa (.inl e))]
 .subst e;rw[f3 j ch aa] at ab
  cases ab
 .rcases sf j ch aa aA with⟨rfl,rfl⟩ |⟨rfl,rfl⟩
  .rw[Fb,de _ _ se];exact BY _ aY
  .rw[Fc,c6];exact ab4 _ aY
 .have:F c b:=by
   rcases sf j ch aa aA with⟨rfl,rfl⟩ |⟨rfl,rfl⟩
   .rw[Fb] at O;exact E b O
   .rw[Fc] at O;exact G b O
  exact⟨(h.own c _ H b this).1,.inl ⟨c,_,H,.inl rfl,this⟩⟩
 .rcases sf j ch aa aA with⟨rfl,rfl⟩ |⟨rfl,rfl⟩ <;>rcases sf q5 ch' ki gk with⟨rfl,rfl⟩ |⟨rfl,rfl⟩
  .exact ba rfl
  .rw[Fb] at O;rw[Fc] at dm;exact eo b O dm
  .rw[Fc] at O;rw[Fb] at dm;exact eo b dm O
  .exact ba rfl
theorem Mem.Fd (h:Mem ids C B ρ F w) {c d:Nat} {cw iT ch:bd} (H:ah B c=some cw) (J:ah B d=some iT) (ba:c≠d) (b8:Nat->Prop) (kL: ∀b,b8 b->F c b\/F d b) (cz:cJ (fun b=>F c b\/F d b) w w')
  (cV: ∀I,cd (bZ C B F w) w I w'->Holds ρ I b8 w' (ρ c) ch):
  Mem ids C ((c,ch)::gL B d) ρ (c5 F c b8) w'/\cd (bZ C B F w) w (bZ C ((c,ch)::gL B d) (c5 F c b8) w') w':=by
 have sf: ∀j ch',ah ((c,ch)::gL B d) j=some ch'->(j=c\/j=d)->j=c/\ch'=ch:=fun j ch' aa aA=>by
  rw[ca] at aa
  split at aa
  .rename_i e;injection aa with aa;exact⟨e.symm,aa.symm⟩
  .rename_i e;rcases aA with aA |aA
   .exact absurd aA.symm e
   .rw[aA,hk,if_pos rfl] at aa;cases aa
 refine h.step (fun j=>j=c\/j=d) (fun _=>False) (cz.mono fun b _ O=>?_) (fun j ch' aa aA=>?_) (fun _ _=>rfl) (fun j aA=>de _ _ (fun e=>aA (.inl e))) (fun _ _ h=>h) (fun _ h=>h.elim) (fun _ _ _ _ _ _ h=>h) (fun j ch' aa aA aY=>?_) (fun j ch' aa aA b O=>?_) (fun j q5 cB cL b aa ki aA gk hn=>?_)
 .rcases O with O |O
  .exact⟨c,_,H,.inl rfl,O⟩
  .exact⟨d,_,J,.inr rfl,O⟩
 .rw[ca,if_neg (fun e=>aA (.inl e.symm)),hk,if_neg (fun e=>aA (.inr e.symm))] at aa;exact aa
 .obtain⟨rfl,rfl⟩:=sf j ch' aa aA;rw[c6];exact cV _ aY
 .obtain⟨rfl,rfl⟩:=sf j ch' aa aA;rw[c6] at O;rcases kL b O with O |O
  .exact⟨Nat.lt_of_lt_of_le (h.own j _ H b O).1 cz.size,.inl ⟨j,_,H,.inl rfl,O⟩⟩
  .exact⟨Nat.lt_of_lt_of_le (h.own d _ J b O).1 cz.size,.inl ⟨d,_,J,.inr rfl,O⟩⟩
 .exact absurd ((sf j cB aa aA).1.trans (sf q5 cL ki gk).1.symm) hn
theorem Mem.Fe (h:Mem ids C B ρ F w) {c:Nat} {cw ch:bd} (H:ah B c=some cw) (b8:Nat->Prop) (kL: ∀b,b8 b->F c b) (cz:cJ (F c) w w') (cV: ∀I,cd (bZ C B F w) w I w'->Holds ρ I b8 w' (ρ c) ch):
  Mem ids C ((c,ch)::B) ρ (c5 F c b8) w'/\cd (bZ C B F w) w (bZ C ((c,ch)::B) (c5 F c b8) w') w':=by
 have sf: ∀j ch',ah ((c,ch)::B) j=some ch'->j=c->ch'=ch:=fun j ch' aa aA=>by
  rw[ca,if_pos aA.symm] at aa;injection aa with aa;exact aa.symm
 refine h.step (fun j=>j=c) (fun _=>False) (cz.mono fun b _ O=>⟨c,_,H,rfl,O⟩) (fun j ch' aa aA=>?_) (fun _ _=>rfl) (fun j aA=>de _ _ aA) (fun _ _ h=>h) (fun _ h=>h.elim) (fun _ _ _ _ _ _ h=>h) (fun j ch' aa aA aY=>?_) (fun j ch' aa aA b O=>?_) (fun j q5 cB cL b aa ki aA gk hn=>absurd (aA.trans gk.symm) hn)
 .rw[ca,if_neg (fun e=>aA e.symm)] at aa;exact aa
 .have e:=sf j ch' aa aA;subst aA e;rw[c6];exact cV _ aY
 .subst aA;rw[c6] at O;exact⟨Nat.lt_of_lt_of_le (h.own _ _ H b (kL b O)).1 cz.size,.inl ⟨_,_,H,rfl,kL b O⟩⟩
end
abbrev k7:=Int->Option (List UInt8)
def ja (f:k7) (k:Int) (xs:List UInt8):k7:=fun j=>if j=k then some xs else f j
def BZ (f:k7) (k:Int):k7:=fun j=>if j=k then none else f j
def JS:k7:=fun _=>none
def tj (I F:Nat->Prop) (w:World) (p:bo) (xs:List UInt8):Prop:=Holds (fun _=>p) I F w p (.row 5 .u8 xs)
theorem tj.congr {I F F':Nat->Prop} {w:World} {p:bo} {xs:List UInt8} (h:tj I F w p xs) (e: ∀b,F' b↔F b):tj I F' w p xs:=
 ⟨fun b=>(e b).trans (h.1 b),h.2⟩
theorem ab5 {I F:Nat->Prop} {w:World} {p:bo} {xs:List UInt8} (h:tj I F w p xs): ∃x:Z .dC,p.er=qP x:=by
 obtain⟨_,_,cs,⟨_,h⟩,_⟩:=h;rcases h with⟨h,_⟩ |⟨g,cap,c8,h,_⟩
 .exact⟨none,h⟩
 .exact⟨some (g,_,cap),h⟩
structure Ff (ax:Int->Option bo) (f:k7) (es:List (Z ak×Z .dC)) (b8:Int->Nat->Prop) (I:Nat->Prop) (w:World):Prop where
 fK:eZ es
 vT: ∀k:Int,b0 (aJ:=ak) (aL:=.dC) es k=none->f k=none/\ax k=none/\ ∀b,¬b8 k b
 xy: ∀(k:Int) h,b0 (aJ:=ak) (aL:=.dC) es k=some h->ax k=none-> ∃xs p,f k=some xs/\p.er=qP h/\tj I (b8 k) w p xs
 Qu: ∀(k:Int) h q,b0 (aJ:=ak) (aL:=.dC) es k=some h->ax k=some q->q.er=qP h/\ ∀b,¬b8 k b
 e9: ∀(j k:Int) b,j≠k->b8 j b-> ¬b8 k b
theorem Ff.cg {ax:Int->Option bo} {f:k7} {es:List (Z ak×Z .dC)} {b8:Int->Nat->Prop} {I I':Nat->Prop} {w w':World} (h:Ff ax f es b8 I w) (V:cd I w I' w') (bj: ∀k b,b8 k b->w'.heap[b]? =w.heap[b]?) (aR:w.heap.size<=w'.heap.size):Ff ax f es b8 I' w':=
 ⟨h.fK,h.vT,fun k x E G=>let⟨xs,p,b4,ci,a3⟩:=h.xy k x E G;⟨xs,p,b4,ci,Holds.cg V (fun b O=>bj k b O) aR _ (fun _ _=>rfl) a3⟩,h.Qu,h.e9⟩
def vU (ax:Int->Option bo) (f:k7) (I F:Nat->Prop) (w:World) (p:bo):Prop:=
 ∃es b8,Ff ax f es b8 I w/\(∀b,F b↔b=p.bk\/ ∃k,b8 k b)/\(∀k,¬b8 k p.bk)/\ ∃bT bU,w.heap[p.bk]? =some (.map (List.toArray bT) bU)/\ie I w ak .dC es bT/\lX bT bU
def Qv (ax:Int->Option bo) (f:k7):bh where
 R:=vU ax f
 cg:=fun I F w I' w' p ⟨es,b8,E,G,al,bT,bU,aZ,bK,fD⟩ V bj aR=>
  ⟨es,b8,E.cg V (fun k b O=>bj b ((G b).2 (.inr ⟨k,O⟩))) aR,G,al,bT,bU,(bj _ ((G _).2 (.inl rfl))).trans aZ,bK.mono V,fD⟩
def mH (f:k7):bh:=Qv (fun _=>none) f
def Fg (k:Int) (q:bo):Int->Option bo:=fun j=>if j=k then some q else none
def vV (f:k7) (k:Int):bo->bh:=fun q=>Qv (Fg k q) f
theorem vU.out {f:k7} {k:Int} {xs:List UInt8} {I F:Nat->Prop} {w:World} {p:bo} (hf:f k=some xs) (h:(mH f).R I F w p):
  ∃(cu cI:Nat->Prop) (q:bo) (es:List (Z ak×Z .dC)) (x:Z .dC),(∀b,cu b->F b)/\(∀b,cI b->F b)/\(∀b,cu b-> ¬cI b)/\q.er=qP x/\b0 (aJ:=ak) (aL:=.dC) es k=some x/\(∃bT bU,w.heap[p.bk]? =some (.map (List.toArray bT) bU)/\ie I w ak .dC es bT)/\tj I cI w q xs/\(vV f k q).R I cu w p:=by
 obtain⟨es,b8,E,G,al,bT,bU,aZ,bK,fD⟩:=h
 cases e:b0 (aJ:=ak) (aL:=.dC) es k with
 |none=>rw[(E.vT k e).1] at hf;cases hf
 |some x=>
  obtain⟨ys,q,b4,ci,a3⟩:=E.xy k x e rfl;rw[hf] at b4;injection b4 with b4
  subst b4;refine⟨fun b=>b=p.bk\/ ∃j,j≠k/\b8 j b,b8 k,q,es,x,fun b O=>(G b).2 (O.imp id fun⟨j,_,aa⟩=>⟨j,aa⟩),fun b O=>(G b).2 (.inr ⟨k,O⟩),fun b O ab=>?_,ci,e,⟨bT,bU,aZ,bK⟩,a3,?_⟩
  .rcases O with rfl |⟨j,aa,O⟩
   .exact al k ab
   .exact E.e9 j k b aa O ab
  .refine⟨es,fun j b=>j≠k/\b8 j b,⟨E.fK,fun j aa=>?_,fun j y aa bl=>?_,fun j y aoT aa bl=>?_,fun i j b gH a b=>E.e9 i j _ gH a.2 b.2⟩,fun b=>Iff.rfl,fun j aa=>al j aa.2,bT,bU,aZ,bK,fD⟩
   .obtain⟨b1,_,b3⟩:=E.vT j aa;have:j≠k:=fun b5=>by rw[b5,e] at aa;cases aa
    exact⟨b1,if_neg this,fun b O=>b3 b O.2⟩
   .have ba:j≠k:=fun b5=>by rw[show Fg k q j=some q from if_pos b5] at bl;cases bl
    obtain⟨ys,r,b1,b2,b3⟩:=E.xy j y aa rfl;exact⟨ys,r,b1,b2,b3.congr fun b=>⟨fun h=>h.2,fun h=>⟨ba,h⟩⟩⟩
   .simp only[Fg] at bl
    split at bl
    .rename_i b5;injection bl with bl
     subst b5 bl;rw[e] at aa;injection aa with aa
     subst aa;exact⟨ci,fun b O=>O.1 rfl⟩
    .cases bl
theorem vU.ab6 {f:k7} {k:Int} {xs:List UInt8} {I cu cI:Nat->Prop} {w:World} {p q:bo} (h:(vV f k q).R I cu w p) (aF:tj I cI w q xs) (J: ∀b,cu b-> ¬cI b) (ab: ∃ys,f k=some ys):(mH (ja f k xs)).R I (fun b=>cu b\/cI b) w p:=by
 obtain⟨es,b8,E,G,al,bT,bU,aZ,bK,fD⟩:=h;obtain⟨ys,ab⟩:=ab;have h4:Fg k q k=some q:=if_pos rfl
 cases e:b0 (aJ:=ak) (aL:=.dC) es k with
 |none=>rw[(E.vT k e).1] at ab;cases ab
 |some x=>
  obtain⟨b4,ci⟩:=E.Qu k x q e h4;refine⟨es,fun j b=>if j=k then cI b else b8 j b,⟨E.fK,fun j aa=>?_,fun j y aa _=>?_,fun _ _ _ _ bl=>(by cases bl),fun i j b gH ha O=>?_⟩,fun b=>?_,fun j aa=>?_,bT,bU,aZ,bK,fD⟩
  .have ba:j≠k:=fun b5=>by rw[b5,e] at aa;cases aa
   obtain⟨b1,_,b3⟩:=E.vT j aa;exact⟨by unfold ja;rw[if_neg ba];exact b1,rfl,fun b O=>by rw[if_neg ba] at O;exact b3 b O⟩
  .by_cases ba:j=k
   .subst ba;rw[e] at aa;injection aa with aa
    subst aa;exact⟨xs,q,if_pos rfl,b4,aF.congr fun b=>by rw[if_pos rfl]⟩
   .obtain⟨vW,r,b1,b2,b3⟩:=E.xy j y aa (if_neg ba);exact⟨vW,r,(if_neg ba).trans b1,b2,b3.congr fun b=>by rw[if_neg ba]⟩
  .by_cases aI:i=k
   .rw[if_pos aI] at ha;have aa:j≠k:=fun b5=>gH (aI.trans b5.symm)
    rw[if_neg aa] at O;exact J b ((G b).2 (.inr ⟨j,O⟩)) ha
   .rw[if_neg aI] at ha
    by_cases aa:j=k
    .rw[if_pos aa] at O;exact J b ((G b).2 (.inr ⟨i,ha⟩)) O
    .rw[if_neg aa] at O;exact E.e9 i j b gH ha O
  .show(cu b\/cI b)↔(b=p.bk\/ ∃j,(if j=k then cI b else b8 j b));rw[G];constructor
   .rintro((h |⟨j,h⟩) |h)
    .exact .inl h
    .refine .inr ⟨j,?_⟩
     by_cases aa:j=k
     .subst aa;exact absurd h (ci b)
     .rw[if_neg aa];exact h
    .exact .inr ⟨k,by rw[if_pos rfl];exact h⟩
   .rintro(h |⟨j,h⟩)
    .exact .inl (.inl h)
    .by_cases aa:j=k
     .rw[if_pos aa] at h;exact .inr h
     .rw[if_neg aa] at h;exact .inl (.inr ⟨j,h⟩)
  .replace aa:(if j=k then cI p.bk else b8 j p.bk):=aa
   by_cases ki:j=k
   .rw[if_pos ki] at aa;exact J _ ((G _).2 (.inl rfl)) aa
   .rw[if_neg ki] at aa;exact al j aa
section
variable {P:Program} {aU:dd} {ids:List Nat} {K:a1} {B:ay}
theorem Fh {o:Oper} {T kt et:TypeId} {x i:Operand} {c d:Nat} {f:k7} {k:Int} {xs:List UInt8} (ai:o.op= .lookup T x i false) (cc:P.underlying T=some (.map kt et)) {dk:TypeDesc} (j3:P.underlying kt=some dk) (jL:mX ak dk=true) {c7:TypeInfo} (aI:P.info? et=some c7) (aR:c7.zero=some (.slice none 0 0))
  (hx:a7 K x= .c (.one (.mp c))) (ab:a7 K i= .c (.one (.d (.int .i64 k)))) (H:ah B c=some (.aG (mH f))) (hf:f k=some xs) (N:Nat):bB P N ids o K B (.c (.one (.own d))) ⟨[c],[d],[(c,some (.co d (vV f k))),(d,some (.row 5 .u8 xs))]⟩:=by
 have m1:x∈o.op.operands:=by rw[ai];simp[Op.operands]
 have m2:i∈o.op.operands:=by rw[ai];simp[Op.operands]
 rintro K' B' g1 g2 cX C a w ⟨hn,l5,ρ,F,ar,av⟩ bw fC Q di;have cF:=(g2 c au7).trans H;have cz:=cX d au7;obtain⟨h1,jn,f3,pj⟩:=kK cz;have se:c≠d:=fun e=>by rw[<-e,cF] at jn;cases jn
 obtain⟨cu,cI,q,es,y,E,G,al,aZ,bK,⟨bT,bU,fD,jG⟩,iS,vv⟩:=vU.out hf (ar.holds c _ cF);have aj:=av.mp ((g1 x m1).trans hx);have ap:a.eval i=gF ak k:=av.int ((g1 i m2).trans ab);have B0:(zeroValue et).run P w= .ok (.slice none 0 0) w:=by simp[zeroValue,typeInfo,aI,aR]
 obtain⟨v,aF,az⟩:=Oe (P:=P) (aL:=.dC) cc j3 jL fD jG B0 ⟨rfl,⟨fun _=>rfl,fun h=>by cases h⟩,rfl⟩ k false
 have uj:v=qP y:=by
  have h:=O0 (ρ:=ρ) rfl az;rw[bK] at h;exact h
 have hx:(execOp a.eval o).run P w= .ok (.value v) w:=by simp only[execOp,ai,Sem.run_bind,aj,ap,aF,Result.andThen_ok,Sem.run_pure];rfl
 unfold Oper.wp;rw[hx,Oper.upon_value]
 obtain⟨bN,aY⟩:=ar.split (K:=K') (iT:=.co d (vV f k)) (oC:=.row 5 .u8 xs) cF cz q cu cI E G al
  (fun I bb=>by
   show(vV f k (c5 ρ d q d)).R I cu w (ρ c);rw[c6];exact(vV f k q).cg _ _ _ _ _ _ vv bb (fun _ _=>rfl) (ap0 _))
  (fun I bb=>Holds.cg bb (fun _ _=>rfl) (ap0 _) _ (fun _ h=>by cases h) iS)
 refine di _ _ ⟨ke.trans hn,kf.trans l5,_,_,bN,(av.mono aY fun s e V=>de _ _ (fun b5=>by subst b5;rw[h1 s] at V;cases V)).kg (fun e V=>by rw[hn];exact bw e V) ?_⟩;show v=(c5 ρ d q d).er;rw[c6,uj,aZ]
theorem af.Fi (c d:Nat) {f tf:k7} {k:Int} {xs:List UInt8} (ab7:ja f k xs=tf) (H:ah B c=some (.co d (vV f k))) (J:ah B d=some (.row 5 .u8 xs)) (ba:c≠d) (ab:(f k).isSome=true):af ids K B K ((c,.aG (mH tf))::gL B d):=by
 subst ab7;rintro N C a w ⟨hn,l5,ρ,F,ar,av⟩;have E:(vV f k (ρ d)).R (bZ C B F w) (F c) w (ρ c):=ar.holds c _ H;have G:tj (bZ C B F w) (F d) w (ρ d) xs:=ar.holds d _ J
 have ab: ∃ys,f k=some ys:=by
  cases e:f k with
  |none=>rw[e] at ab;cases ab
  |some ys=>exact⟨ys,rfl⟩
 obtain⟨bN,aY⟩:=ar.Fd (w':=w) (ch:=.aG (mH (ja f k xs))) H J ba (fun b=>F c b\/F d b) (fun _ h=>h) (cJ.refl _ _) fun I bb=>
  (mH (ja f k xs)).cg _ _ _ _ _ _ (vU.ab6 E G (fun b O dm=>ar.e9 c d _ _ b H J ba O dm) ab) bb (fun _ _=>rfl) (ap0 _)
 exact⟨hn,l5,ρ,_,bN,av.mono aY fun _ _ _=>rfl⟩
theorem ab8 {o:Oper} {T kt et:TypeId} {x i v:Operand} {c d:Nat} {f:k7} {k:Int} {xs:List UInt8} (ai:o.op= .mapUpdate T x i v) (cc:P.underlying T=some (.map kt et)) {dk:TypeDesc} (j3:P.underlying kt=some dk) (jL:mX ak dk=true)
  (hx:a7 K x= .c (.one (.mp c))) (ab:a7 K i= .c (.one (.d (.int .i64 k)))) (az:a7 K v= .c (.one (.own d))) (H:ah B c=some (.aG (mH f))) (J:ah B d=some (.row 5 .u8 xs)) (ba:c≠d) (hf:f k=none) (N:Nat):
  bB P N ids o K B .undef ⟨[c,d],[],[(d,none),(c,some (.aG (mH (ja f k xs))))]⟩:=by
 have m1:x∈o.op.operands:=by rw[ai];simp[Op.operands]
 have m2:i∈o.op.operands:=by rw[ai];simp[Op.operands]
 have m3:v∈o.op.operands:=by rw[ai];simp[Op.operands]
 rintro K' B' g1 g2 - C a w ⟨hn,l5,ρ,F,ar,av⟩ bw fC Q di;have cF:=(g2 c au7).trans H;have dK:=(g2 d au7).trans J;obtain⟨es,b8,E,G,al,bT,bU,aZ,bK,fD⟩:(mH f).R (bZ C B' F w) (F c) w (ρ c):=ar.holds c _ cF;have fW:tj (bZ C B' F w) (F d) w (ρ d) xs:=ar.holds d _ dK;obtain⟨y,aC⟩:=ab5 fW;have aj:=av.mp ((g1 x m1).trans hx);have ap:a.eval i=gF ak k:=av.int ((g1 i m2).trans ab);have bm:a.eval v=(ρ d).er:=av.ev ((g1 v m3).trans az)
 have c0:jk (bZ C B' F w) w .dC y (a.eval v):=by
  rw[bm,aC]
  have dP:(qP y).cells= #[qP y]:=by
   match y with
   |none=>rfl
   |some (_,_,_)=>rfl
  exact⟨by rw[dP];rfl,⟨fun _=>dP,fun h=>by cases h⟩,by rw[dP];rfl⟩
 obtain⟨ek,jE,aF,gk,p4⟩:=A1 (P:=P) cc j3 jL aZ bK fD k c0;have q9:=(Array.getElem?_eq_some_iff.1 aZ).1;have eo: ∀y,F c y-> ¬F d y:=fun y aC d4=>ar.e9 c d _ _ y cF dK ba aC d4
 have zt:b0 (aJ:=ak) (aL:=.dC) es k=none:=by
  cases e:b0 (aJ:=ak) (aL:=.dC) es k with
  |none=>rfl
  |some aB=>
   obtain⟨_,_,b4,_⟩:=E.xy k aB e rfl;rw[hf] at b4
   cases b4
 obtain⟨dY,cR⟩:=zr (aJ:=ak) (aL:=.dC) q' k y es;have uz: ∀aB,aB≠(ρ c).bk->({w with heap:=w.heap.setIfInBounds (ρ c).bk (.map (List.toArray ek) jE)}:World).heap[aB]? =w.heap[aB]? :=fun aB aR=>Array.getElem?_setIfInBounds_ne (Ne.symm aR)
 have B1:(execOp a.eval o).run P w= .ok .skip {w with heap:=w.heap.setIfInBounds (ρ c).bk (.map (List.toArray ek) jE)}:=by simp only[execOp,ai,Sem.run_bind,aj,ap,aF,Result.andThen_ok,Sem.run_pure]
 unfold Oper.wp;rw[B1,Oper.upon_skip]
 obtain⟨bN,aY⟩:=ar.Fd (ch:=.aG (mH (ja f k xs))) (w':={w with heap:=w.heap.setIfInBounds (ρ c).bk (.map (List.toArray ek) jE)}) cF dK ba (fun b=>F c b\/F d b) (fun _ h=>h) (uf (S:=fun b=>F c b\/F d b) (.inl ((G _).2 (.inl rfl)))) fun I bb=>by
  have iD:=E.cg bb (fun j b O=>uz b fun e=>al j (e▸O)) au7;have f':tj I (F d) {w with heap:=w.heap.setIfInBounds (ρ c).bk (.map (List.toArray ek) jE)} (ρ d) xs:=Holds.cg bb (fun b O=>uz b fun e=>eo b (e▸(G _).2 (.inl rfl)) O) au7 _ (fun _ h=>by cases h) fW;refine⟨dr (aJ:=ak) (aL:=.dC) es k y,fun j b=>if j=k then F d b else b8 j b,⟨eZ.put q' E.fK,fun j aa=>?_,fun j aB aa _=>?_,fun _ _ _ _ bl=>(by cases bl),fun i j b gH ha O=>?_⟩,fun b=>?_,fun j aa=>?_,ek,jE,by simp[q9],gk.mono bb,p4⟩
  .have lD:j≠k:=fun e=>by rw[e,dY] at aa;cases aa
   rw[cR j lD] at aa;obtain⟨b1,_,b3⟩:=iD.vT j aa;exact⟨by unfold ja;rw[if_neg lD];exact b1,rfl,fun b O=>by rw[if_neg lD] at O;exact b3 b O⟩
  .by_cases lD:j=k
   .subst lD;rw[dY] at aa;injection aa with aa
    subst aa;exact⟨xs,ρ d,if_pos rfl,aC,f'.congr fun b=>by rw[if_pos rfl]⟩
   .rw[cR j lD] at aa;obtain⟨vW,r,b1,b2,b3⟩:=iD.xy j aB aa rfl;exact⟨vW,r,(if_neg lD).trans b1,b2,b3.congr fun b=>by rw[if_neg lD]⟩
  .by_cases aI:i=k
   .rw[if_pos aI] at ha;have aa:j≠k:=fun b5=>gH (aI.trans b5.symm)
    rw[if_neg aa] at O;exact eo b ((G b).2 (.inr ⟨j,O⟩)) ha
   .rw[if_neg aI] at ha
    by_cases aa:j=k
    .rw[if_pos aa] at O;exact eo b ((G b).2 (.inr ⟨i,ha⟩)) O
    .rw[if_neg aa] at O;exact E.e9 i j b gH ha O
  .show(F c b\/F d b)↔(b=(ρ c).bk\/ ∃j,(if j=k then F d b else b8 j b));rw[G];have ab9:=(E.vT k zt).2.2;constructor
   .rintro((h |⟨j,h⟩) |h)
    .exact .inl h
    .refine .inr ⟨j,?_⟩;have aa:j≠k:=fun e=>ab9 b (e▸h)
     rw[if_neg aa];exact h
    .exact .inr ⟨k,by rw[if_pos rfl];exact h⟩
   .rintro(h |⟨j,h⟩)
    .exact .inl (.inl h)
    .by_cases aa:j=k
     .rw[if_pos aa] at h;exact .inr h
     .rw[if_neg aa] at h;exact .inl (.inr ⟨j,h⟩)
  .replace aa:(if j=k then F d (ρ c).bk else b8 j (ρ c).bk):=aa
   by_cases ki:j=k
   .rw[if_pos ki] at aa;exact eo _ ((G _).2 (.inl rfl)) aa
   .rw[if_neg ki] at aa;exact al j aa
 exact di _ _ ⟨ke.trans hn,kf.trans l5,ρ,_,bN,(av.mono aY fun _ _ _=>rfl).kg (fun e V=>by rw[hn];exact bw e V) rfl⟩
theorem ab' {o:Oper} {T eT kt et:TypeId} {x i:Operand} {c:Nat} {f:k7} {k:Int} (ai:o.op= .call {callee:=.builtin .delete,args:= #[x,i],argTypes:= #[T,eT]}) (cc:P.underlying T=some (.map kt et)) {dk:TypeDesc} (j3:P.underlying kt=some dk) (jL:mX ak dk=true)
  (hx:a7 K x= .c (.one (.mp c))) (ab:a7 K i= .c (.one (.d (.int .i64 k)))) (H:ah B c=some (.aG (mH f))) (N:Nat):
  bB P N ids o K B (.ce []) ⟨[c],[],[(c,some (.aG (mH (BZ f k))))]⟩:=by
 have m1:x∈o.op.operands:=by rw[ai];simp[Op.operands,Call.operands]
 have m2:i∈o.op.operands:=by rw[ai];simp[Op.operands,Call.operands]
 rintro K' B' g1 g2 - C a w ⟨hn,l5,ρ,F,ar,av⟩ bw fC Q di;have cF:=(g2 c au7).trans H;obtain⟨es,b8,E,G,al,bT,bU,aZ,bK,fD⟩:(mH f).R (bZ C B' F w) (F c) w (ρ c):=ar.holds c _ cF;have aj:=av.mp ((g1 x m1).trans hx);have ap:a.eval i=gF ak k:=av.int ((g1 i m2).trans ab);obtain⟨ek,aF,gk,p4⟩:=Ok (P:=P) (ty:=o.type) cc j3 jL aZ bK fD k eT;have q9:=(Array.getElem?_eq_some_iff.1 aZ).1;obtain⟨dY,cR⟩:=BX (aJ:=ak) (aL:=.dC) q' k es E.fK;have uz: ∀aB,aB≠(ρ c).bk->({w with heap:=w.heap.setIfInBounds (ρ c).bk (.map (List.toArray ek) bU)}:World).heap[aB]? =w.heap[aB]? :=fun aB aR=>Array.getElem?_setIfInBounds_ne (Ne.symm aR)
 have B1:(execOp a.eval o).run P w= .ok (.value (.tuple #[])) {w with heap:=w.heap.setIfInBounds (ρ c).bk (.map (List.toArray ek) bU)}:=by simp[execOp,ai,resolve,invoke,builtin,aj,ap,aF]
 unfold Oper.wp;rw[B1,Oper.upon_value]
 obtain⟨bN,aY⟩:=ar.Fe (ch:=.aG (mH (BZ f k))) (w':={w with heap:=w.heap.setIfInBounds (ρ c).bk (.map (List.toArray ek) bU)}) cF (fun b=>b=(ρ c).bk\/ ∃j,j≠k/\b8 j b) (fun b O=>(G b).2 (O.imp id fun⟨j,_,h⟩=>⟨j,h⟩)) (uf (S:=F c) ((G _).2 (.inl rfl))) fun I bb=>by
  have iD:=E.cg bb (fun j b O=>uz b fun e=>al j (e▸O)) au7;refine⟨gG (aJ:=ak) (aL:=.dC) es k,fun j b=>j≠k/\b8 j b,⟨eZ.k6 E.fK,fun j aa=>?_,fun j aB aa _=>?_,fun _ _ _ _ bl=>(by cases bl),fun i j b gH ha O=>E.e9 i j b gH ha.2 O.2⟩,fun b=>Iff.rfl,fun j aa=>al j aa.2,ek,bU,by simp[q9],gk.mono bb,p4⟩
  .by_cases lD:j=k
   .exact⟨if_pos lD,rfl,fun b O=>O.1 lD⟩
   .rw[cR j lD] at aa;obtain⟨b1,_,b3⟩:=iD.vT j aa;exact⟨(if_neg lD).trans b1,rfl,fun b O=>b3 b O.2⟩
  .have lD:j≠k:=fun e=>by rw[e,dY] at aa;cases aa
   rw[cR j lD] at aa;obtain⟨vW,r,b1,b2,b3⟩:=iD.xy j aB aa rfl;exact⟨vW,r,(if_neg lD).trans b1,b2,b3.congr fun b=>⟨fun h=>h.2,fun h=>⟨lD,h⟩⟩⟩
 exact di _ _ ⟨ke.trans hn,kf.trans l5,ρ,_,bN,(av.mono aY fun _ _ _=>rfl).kg (fun e V=>by rw[hn];exact bw e V) ⟨[],rfl,rfl⟩⟩
theorem af.Qw (c:Nat) {aL:bx} (H:ah B c=some (.map ak aL [])):af ids K B K ((c,.aG (mH JS))::B):=by
 rintro N C a w ⟨hn,J,ρ,F,ar,av⟩;obtain⟨bj,bT,bU,al,aZ,fD⟩:=ar.holds c _ H;have aZ:bT=[]:=aZ;subst aZ;obtain⟨bN,aY⟩:=ar.hN (w':=w) (ch:=.aG (mH JS)) H (cJ.refl _ _) fun I bb=>⟨[],fun _ _=>False,⟨.nil,fun _ _=>⟨rfl,rfl,fun _ h=>h⟩,fun _ _ h=>(by cases h),fun _ _ _ h=>(by cases h),fun _ _ _ _ h=>h.elim⟩,fun b=>by rw[bj];simp,fun _ h=>h,[],bU,al,rfl,fD⟩
 exact⟨hn,J,ρ,F,bN,av.mono aY fun _ _ _=>rfl⟩
end
end
end Go.Proofs.YthnboghbhgapcaaGreat
